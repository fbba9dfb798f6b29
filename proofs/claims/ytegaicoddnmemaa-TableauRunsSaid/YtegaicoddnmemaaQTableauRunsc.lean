/- A part of the claim TableauRuns. -/
import Derived.Outline
import Derived.Test.YtegaicoddnmemaaQTableauRunsa
import Derived.Test.YtegaicoddnmemaaQTableauRunsb
namespace Go.Proofs.Ytegaicoddnmemaa.X
open Go.RowKit Go.Proofs.YtegaicoddnmemaaW.PrintWords Go.Proofs.YtegaicoddnmemaaW.PrintLast Go.Proofs.YtegaicoddnmemaaW.PrintMore
open Go.Proofs.Ytegaicoddnmemaa.P Go.Proofs.Ytegaicoddnmemaa.Evx
set_option linter.unusedSimpArgs false
set_option linter.unusedVariables false
def rdr_value.T4 : Bool × List (List Nat × List Nat) := (true, [([], []), ([], []), ([], []), ([2], [2]), ([3], [3]), ([4], [4]), ([], []), ([5, 6], [5, 6]), ([], []), ([8], [8]), ([9], [9]), ([10], [10]), ([], []), ([11, 12, 7], [11, 12]), ([0, 0, 2, 3, 4, 5, 6, 7, 11, 13], [0]), ([14, 0, 2, 3, 4, 5, 6, 7, 11, 13], [14]), ([15, 7, 13, 0, 2, 3, 4, 5, 6, 7, 11, 13], [7, 15]), ([1, 0, 1, 2, 3, 4, 5, 6, 7, 8, 9, 10, 11, 12, 13, 14, 15, 16], [1]), ([17, 0, 1, 2, 3, 4, 5, 6, 7, 8, 9, 10, 11, 12, 13, 14, 15, 16], [17]), ([18, 13, 16, 0, 1, 2, 3, 4, 5, 6, 7, 8, 9, 10, 11, 12, 13, 14, 15, 16], [13, 18])])
def rdr_value.B4 : List Nat := [0, 0, 0, 4, 12, 28, 0, 124, 0, 256, 768, 1792, 0, 8188, 16381, 32765, 65533, 131071, 262143, 524287]
theorem rdr_value.tab4 : rtab .any (opsOf Try.f52 4) = rdr_value.T4 := by kernel_rfl
theorem rdr_value.bits4 : waitsOk rdr_value.T4.2 rdr_value.B4 = true := by kernel_rfl
def rdr_value.T25 : Bool × List (List Nat × List Nat) := (true, [([], []), ([0], [0]), ([1], [1]), ([2], [2]), ([], []), ([], []), ([5], [5]), ([6], [6]), ([7], [7]), ([], []), ([], []), ([3, 4, 0, 1, 2, 3, 4, 8, 10], [3, 4]), ([11, 10, 0, 1, 2, 3, 4, 8, 10], [10, 11]), ([8, 9, 0, 1, 2, 3, 4, 5, 6, 7, 8, 9, 10, 11, 12], [8, 9]), ([13, 12, 0, 1, 2, 3, 4, 5, 6, 7, 8, 9, 10, 11, 12], [13])])
def rdr_value.B25 : List Nat := [0, 1, 3, 7, 0, 0, 32, 96, 224, 0, 0, 1535, 3583, 8191, 16383]
theorem rdr_value.tab25 : rtab .any (opsOf Try.f52 25) = rdr_value.T25 := by kernel_rfl
theorem rdr_value.bits25 : waitsOk rdr_value.T25.2 rdr_value.B25 = true := by kernel_rfl
def rdr_value.T29 : Bool × List (List Nat × List Nat) := (true, [([], []), ([0], [0]), ([1], [1]), ([2], [2]), ([], []), ([], []), ([5], [5]), ([6], [6]), ([7], [7]), ([], []), ([], []), ([], []), ([11], [11]), ([12], [12]), ([13], [13]), ([13, 14], [13, 14]), ([3, 4, 0, 1, 2, 3, 4, 8, 10], [3, 4]), ([16, 10, 13, 0, 1, 2, 3, 4, 8, 10], [10, 16]), ([8, 9, 0, 1, 2, 3, 4, 5, 6, 7, 8, 9, 10, 11, 12, 13, 14, 15, 16, 17], [8, 9]), ([18, 15, 17, 0, 1, 2, 3, 4, 5, 6, 7, 8, 9, 10, 11, 12, 13, 14, 15, 16, 17], [15, 18])])
def rdr_value.B29 : List Nat := [0, 1, 3, 7, 0, 0, 32, 96, 224, 0, 0, 0, 2048, 6144, 14336, 30720, 1535, 81407, 262143, 524287]
theorem rdr_value.tab29 : rtab .any (opsOf Try.f52 29) = rdr_value.T29 := by kernel_rfl
theorem rdr_value.bits29 : waitsOk rdr_value.T29.2 rdr_value.B29 = true := by kernel_rfl
def rdr_value.T33 : Bool × List (List Nat × List Nat) := (true, [([], []), ([0], [0]), ([1], [1]), ([2], [2]), ([], []), ([], []), ([5], [5]), ([6], [6]), ([7], [7]), ([], []), ([], []), ([], []), ([11], [11]), ([12], [12]), ([13, 12], [12, 13]), ([12, 14], [12, 14]), ([3, 4, 0, 1, 2, 3, 4, 8, 10], [3, 4]), ([16, 10, 12, 0, 1, 2, 3, 4, 8, 10], [10, 16]), ([8, 9, 0, 1, 2, 3, 4, 5, 6, 7, 8, 9, 10, 11, 12, 13, 14, 15, 16, 17], [8, 9]), ([18, 15, 17, 0, 1, 2, 3, 4, 5, 6, 7, 8, 9, 10, 11, 12, 13, 14, 15, 16, 17], [15, 18])])
def rdr_value.B33 : List Nat := [0, 1, 3, 7, 0, 0, 32, 96, 224, 0, 0, 0, 2048, 6144, 14336, 30720, 1535, 73215, 262143, 524287]
theorem rdr_value.tab33 : rtab .any (opsOf Try.f52 33) = rdr_value.T33 := by kernel_rfl
theorem rdr_value.bits33 : waitsOk rdr_value.T33.2 rdr_value.B33 = true := by kernel_rfl
def RdAt (w0 : World) (s : S24) : Prop := ∀ (rb : Nat) (sv lt : Int) (said good : List Bool) (vs vg : Value) (A : Option Addr) (cp : Nat) (w : World), Rdr w0 w rb sv lt said good vs vg → said.length = good.length → said.length + tnS s ≤ 60 → Kd.C k24 w0 A s.f2.length s.f2 → s.f2.length ≤ cp → soundS s = true →
    Calls Try.prog 52 #[.pointer (some ⟨rb, 0, none⟩), .agg #[.int .i64 s.f0, .int .i64 s.f1, .slice A s.f2.length cp]] w fun e w' => e = .returned (.bool (valS sv lt s said.length)) ∧ ∃ v1 v2, Rdr w0 w' rb sv lt (said ++ saidS sv lt s said.length) (good ++ goodS sv lt s said.length) v1 v2 ∧ Fr w rb vs vg w' v1 v2
theorem infoBool0 : (Try.prog.info? 4).map (fun i => (i.zero, i.size, i.bytes)) = some (some (.bool false), 1, 1) := by kernel_rfl
theorem infoB : ∃ i, Try.prog.info? 4 = some i ∧ i.zero = some (.bool false) ∧ i.size = 1 ∧ i.bytes = 1 := by
  obtain ⟨i, hi, hz⟩ := Option.map_eq_some_iff.1 infoBool0
  simp only [Prod.mk.injEq] at hz
  exact ⟨i, hi, hz⟩
set_option maxHeartbeats 8000000 in
set_option maxRecDepth 100000 in
theorem value_calls (w0 : World) (s : S24) (ih : ∀ k ∈ s.f2, RdAt w0 k) : RdAt w0 s := by
  intro rb sv lt said good vs vg A cp w hR hlg hbd hk hc hs
  have huF := Try.underlying24
  have huL := Try.underlying22
  have hur := Try.underlying64
  have hus := Try.underlying45
  obtain ⟨W1, hW1⟩ : ∃ W1, W1 = w.alloc (.cells #[.int .i64 s.f0, .int .i64 s.f1, .slice A s.f2.length cp] 24) := ⟨_, rfl⟩
  have hR1 : Rdr w0 W1 rb sv lt said good vs vg := by rw [hW1]; exact hR.alloc _
  have hF1 : Fr w rb vs vg W1 vs vg := by rw [hW1]; exact (Fr.refl _ _ _ _).alloc _
  have hbx : W1.heap[w.heap.size]? = some (.cells #[.int .i64 s.f0, .int .i64 s.f1, .slice A s.f2.length cp] 24 (0, 0)) := by rw [hW1]; exact heap_alloc_new w _
  have hb1 : some w.heap.size ≠ vs.ownBlock := fun e => Nat.lt_irrefl _ (own_lt hR.o1 _ e.symm)
  have hb2 : some w.heap.size ≠ vg.ownBlock := fun e => Nat.lt_irrefl _ (own_lt hR.o2 _ e.symm)
  have hb3 : w.heap.size ≠ rb := fun e => Nat.lt_irrefl _ (e ▸ blk_lt hR.blk)
  have HBOX := Aside0.mk (fun (w1 : World) (v1 v2 : Value) (h : Fr W1 rb vs vg w1 v1 v2) => h.box hR1 hbx hb1 hb2 hb3)
  have HR1 := Aside0.mk hR1
  have HF1 := Aside0.mk hF1
  have HK := Aside0.mk hk
  have HS := Aside0.mk hs
  have HIH := Aside0.mk ih
  have HLG := Aside0.mk hlg
  have HBD := Aside0.mk hbd
  have HW1 := Aside0.mk hW1
  have hpart := sound_parts hs
  have hk2 := (kids_range s.f0).2
  have hl2 : s.f2.length ≤ 2 := by omega
  have HOP := Aside0.mk (op_cases hpart.1)
  have HM0 := Aside0.mk hpart.2.2
  have x0 : W1.cell? ⟨w.heap.size, 0, none⟩ = some (.int .i64 s.f0) := (blk_cell hbx 0).trans rfl
  have y2 := rdrB_2 hR1.blk
  obtain ⟨A1, c1, hvs, hc1⟩ := own_form hR.o1
  obtain ⟨A2, c2, hvg, hc2⟩ := own_form hR.o2
  subst hvs hvg
  have HEQ := Aside0.mk (And.intro (val_eq sv lt s said.length) (And.intro (said_eq sv lt s said.length) (good_eq sv lt s said.length)))
  have HTN := Aside0.mk (tn_eq s)
  clear hR hk hs ih hlg hbd hR1 hF1 hpart hk2
  go_enter Try.func52, Try.ntmps52
  go_upto_region 1 with fail
  rw [← hW1]
  clear hW1
  go_cut [5] (fun v5 wx => ∃ tm : Bool, v5 = .bool tm ∧ Aside0 (timedS s.f0 = tm) ∧ wx = W1)
  case first =>
    by_cases h6 : 6 ≤ s.f0
    · by_cases h8 : s.f0 ≤ 8
      · have HT := Aside0.mk (show timedS s.f0 = true from by unfold timedS; rw [decide_eq_true h6, decide_eq_true h8]; rfl)
        go_wp2
        go_meet
        exact ⟨_, rfl, HT, rfl⟩
      · have HT := Aside0.mk (show timedS s.f0 = false from by unfold timedS; rw [decide_eq_false h8]; simp)
        go_wp2
        go_meet
        exact ⟨_, rfl, HT, rfl⟩
    · have HT := Aside0.mk (show timedS s.f0 = false from by unfold timedS; rw [decide_eq_false h6]; simp)
      go_wp2
      go_meet
      exact ⟨_, rfl, HT, rfl⟩
  case rest =>
    obtain ⟨tm, rfl, HT, hwc⟩ := hcut
    rw [hwc]
    clear hwc wc
    go_upto_if 28 with fail
    go_cut [] (fun wx => ∃ v1 v2, Aside0 (Rdr w0 wx rb sv lt (said ++ ownE s.f0 false) (good ++ ownE s.f0 false) v1 v2) ∧ Aside0 (Fr W1 rb (.slice A1 said.length c1) (.slice A2 good.length c2) wx v1 v2))
    case first =>
      cases tm with
      | false =>
        have HE := Aside0.mk (show ownE s.f0 false = [] from by unfold ownE; rw [HT.out]; rfl)
        go_wp2
        go_meet
        exact ⟨_, _, ⟨by rw [HE.out, List.append_nil, List.append_nil]; exact HR1.out⟩, ⟨Fr.refl _ _ _ _⟩⟩
      | true =>
        have HE := Aside0.mk (show ownE s.f0 false = [false] from by unfold ownE; rw [HT.out]; rfl)
        have HUS := Aside0.mk hus
        obtain ⟨iB, hiB⟩ := infoB
        have HIB := Aside0.mk hiB
        have GS := Aside0.mk (show W1.heap.size ≤ W1.drew.heap.size from Nat.le_refl _)
        have T0 := Aside0.mk HR1.out.two.drew
        have K0 := Aside0.mk (show RdrB W1.drew rb sv lt (.slice A1 said.length c1) (.slice A2 good.length c2) from HR1.out.blk)
        have HBB := Aside0.mk HR1.out.bl.size
        have hb := HBD.out
        have hg := HLG.out
        have HBD2 := HBD
        replace HBD := Aside0.mk (show (said.length + 1 ≤ maxLen ∧ (said.length + 1) * 1 ≤ 140737488355328) ∧ (good.length + 1 ≤ maxLen ∧ (good.length + 1) * 1 ≤ 140737488355328) from by unfold maxLen; omega)
        clear hiB hb hg
        go_upto_region 4 with fail
        refine start_ (n := 20) (S := fun w' => True) (ds := []) #[false, false, false, false, false, false, false, false, false, false, false, false, false, false, false, false, false, false, false, false] (by kernel_rfl) rfl rfl trivial (fun hHeld => ?_)
        refine with_tabW rdr_value.tab4 rdr_value.bits4 (fun HT_ HW_ => ?_)
        refine pure_ (i := 0) (N := some 29) (v := ?_) (a' := ?_) #[true, false, false, false, false, false, false, false, false, false, false, false, false, false, false, false, false, false, false, false] rfl rfl (any_of HT_.out (by kernel_rfl)) (fun _ _ _ h => h) (Or.inl ⟨by rfl, ?_⟩) ?_ ?_
        rotate_left
        · intro w'
          go_simp
          with_reducible rfl
        rotate_left
        · simp only [Act.put, List.setIfInBounds_toArray, List.set_cons_zero, List.set_cons_succ, i64_w, i32_w]
          rfl
        refine pure_ (i := 1) (N := some 30) (v := ?_) (a' := ?_) #[true, true, false, false, false, false, false, false, false, false, false, false, false, false, false, false, false, false, false, false] rfl rfl (any_of HT_.out (by kernel_rfl)) (fun _ _ _ h => h) (Or.inl ⟨by rfl, ?_⟩) ?_ ?_
        rotate_left
        · intro w'
          go_simp
          with_reducible rfl
        rotate_left
        · simp only [Act.put, List.setIfInBounds_toArray, List.set_cons_zero, List.set_cons_succ, i64_w, i32_w]
          rfl
        refine pure_ (i := 2) (N := some 31) (v := ?_) (a' := ?_) #[true, true, true, false, false, false, false, false, false, false, false, false, false, false, false, false, false, false, false, false] rfl rfl (any_of HT_.out (by kernel_rfl)) (fun _ _ _ h => h) (Or.inl ⟨by rfl, ?_⟩) ?_ ?_
        rotate_left
        · intro w'
          go_simp
          with_reducible rfl
        rotate_left
        · simp only [Act.put, List.setIfInBounds_toArray, List.set_cons_zero, List.set_cons_succ, i64_w, i32_w]
          rfl
        refine pure_ (i := 3) (N := some 32) (v := ?_) (a' := ?_) #[true, true, true, true, false, false, false, false, false, false, false, false, false, false, false, false, false, false, false, false] rfl rfl (any_of HT_.out (by kernel_rfl)) (fun _ _ _ h => h) (Or.inl ⟨by rfl, ?_⟩) ?_ ?_
        rotate_left
        · intro w'
          go_simp
          with_reducible rfl
        rotate_left
        · simp only [Act.put, List.setIfInBounds_toArray, List.set_cons_zero, List.set_cons_succ, i64_w, i32_w]
          rfl
        refine pure_ (i := 4) (N := some 33) (v := ?_) (a' := ?_) #[true, true, true, true, true, false, false, false, false, false, false, false, false, false, false, false, false, false, false, false] rfl rfl (any_of HT_.out (by kernel_rfl)) (fun _ _ _ h => h) (Or.inl ⟨by rfl, ?_⟩) ?_ ?_
        rotate_left
        · intro w'
          go_simp
          with_reducible rfl
        rotate_left
        · simp only [Act.put, List.setIfInBounds_toArray, List.set_cons_zero, List.set_cons_succ, i64_w, i32_w]
          rfl
        refine pure_ (i := 8) (N := some 37) (v := ?_) (a' := ?_) #[true, true, true, true, true, false, false, false, true, false, false, false, false, false, false, false, false, false, false, false] rfl rfl (any_of HT_.out (by kernel_rfl)) (fun _ _ _ h => h) (Or.inl ⟨by rfl, ?_⟩) ?_ ?_
        rotate_left
        · intro w'
          go_simp
          with_reducible rfl
        rotate_left
        · simp only [Act.put, List.setIfInBounds_toArray, List.set_cons_zero, List.set_cons_succ, i64_w, i32_w]
          rfl
        refine pure_ (i := 9) (N := some 38) (v := ?_) (a' := ?_) #[true, true, true, true, true, false, false, false, true, true, false, false, false, false, false, false, false, false, false, false] rfl rfl (any_of HT_.out (by kernel_rfl)) (fun _ _ _ h => h) (Or.inl ⟨by rfl, ?_⟩) ?_ ?_
        rotate_left
        · intro w'
          go_simp
          with_reducible rfl
        rotate_left
        · simp only [Act.put, List.setIfInBounds_toArray, List.set_cons_zero, List.set_cons_succ, i64_w, i32_w]
          rfl
        refine pure_ (i := 10) (N := some 39) (v := ?_) (a' := ?_) #[true, true, true, true, true, false, false, false, true, true, true, false, false, false, false, false, false, false, false, false] rfl rfl (any_of HT_.out (by kernel_rfl)) (fun _ _ _ h => h) (Or.inl ⟨by rfl, ?_⟩) ?_ ?_
        rotate_left
        · intro w'
          go_simp
          with_reducible rfl
        rotate_left
        · simp only [Act.put, List.setIfInBounds_toArray, List.set_cons_zero, List.set_cons_succ, i64_w, i32_w]
          rfl
        refine inv_at [5, 6, 7, 11, 12, 13, 14, 15, 16, 17, 18, 19] (fun a0_ b a w' => ∃ (gb1 : Nat) (gb2 : Nat) (v1 : Value) (v2 : Value) (m6_ : Value) (m12_ : Value), a = putSel a0_ b [(5, 34, .slice A1 said.length c1), (6, 35, m6_), (7, 36, v1), (11, 40, .slice A2 good.length c2), (12, 41, m12_), (13, 42, v2), (14, 43, .pointer (some ⟨rb, 0, none⟩)), (15, 44, .pointer (some ⟨rb, 2, none⟩)), (17, 45, .pointer (some ⟨rb, 0, none⟩)), (18, 46, .pointer (some ⟨rb, 3, none⟩))] ∧ (W1.heap.size ≤ w'.heap.size) ∧ (b 7 = false → Two w0 W1 rb (.slice A1 said.length c1) (.slice A2 good.length c2) w' (.slice A1 said.length c1) said (.slice A2 good.length c2) good) ∧ (b 7 = true → b 13 = false → Two w0 W1 rb (.slice A1 said.length c1) (.slice A2 good.length c2) w' v1 (said ++ [false]) (.slice A2 good.length c2) good) ∧ (b 13 = true → Two w0 W1 rb (.slice A1 said.length c1) (.slice A2 good.length c2) w' v1 (said ++ [false]) v2 (good ++ [false])) ∧ (b 6 = true → b 7 = false → BK W1 w' gb1) ∧ (b 12 = true → b 13 = false → BK W1 w' gb2) ∧ (b 16 = false → RdrB w' rb sv lt (.slice A1 said.length c1) (.slice A2 good.length c2)) ∧ (b 16 = true → b 19 = false → RdrB w' rb sv lt v1 (.slice A2 good.length c2)) ∧ (b 19 = true → RdrB w' rb sv lt v1 v2) ∧ (b 6 = true → (m6_ : Value) = .slice (some ⟨gb1, 0, none⟩) 1 1) ∧ (b 12 = true → (m12_ : Value) = .slice (some ⟨gb2, 0, none⟩) 1 1)) HT_.out HW_.out (by kernel_rfl) (by kernel_rfl) ?_ ?_ ?_
        · exact ⟨0, 0, .bool false, .bool false, .bool false, .bool false, by simp only [putSel, Bool.false_eq_true, if_false], GS.out, fun _ => T0.out, fun h_ => absurd h_ (by decide), fun h_ => absurd h_ (by decide), fun h_ => absurd h_ (by decide), fun h_ => absurd h_ (by decide), fun _ => K0.out, fun h_ => absurd h_ (by decide), fun h_ => absurd h_ (by decide), fun h_ => absurd h_ (by decide), fun h_ => absurd h_ (by decide)⟩
        · skip
          clear GS K0 T0
          refine steps_cons ?_ ?_
          · rintro b a w' ⟨gb1, gb2, v1, v2, m6_, m12_, ha, Q_GS, Q_T0, Q_T1, Q_T2, Q_B1, Q_B2, Q_K0, Q_K1, Q_K2, Q_X6_, Q_X12_⟩ hb_ hon hoff
            refine ⟨_, rfl, fun K hK => ?_⟩
            have e33 : a.tmps[33]? = some (.pointer (some ⟨rb, 2, none⟩)) := by rw [ha]; exact (putSel_off rfl).trans rfl
            replace ha := Aside0.mk ha
            have GS := Aside0.mk Q_GS
            have T0 := Aside0.mk (Q_T0 (hoff 7 (by kernel_rfl)))
            have K0 := Aside0.mk (Q_K0 (hoff 16 (by kernel_rfl)))
            have hk := rdrB_2 K0.out
            refine value_ (w1 := w') (v := .slice A1 said.length c1) (by rfl) rfl ?_ ?_
            · go_simp
              (try simp only [i64_w])
              try rfl
            refine hK.out _ _ ⟨gb1, gb2, v1, v2, m6_, m12_, (by rw [ha.out]; exact putSel_upk 0 hb_ rfl rfl rfl), Q_GS, Q_T0, fun h0_ _ => absurd ((hoff 7 (by kernel_rfl)).symm.trans h0_) (by decide), fun h0_ => absurd ((hoff 13 (by kernel_rfl)).symm.trans h0_) (by decide), Q_B1, Q_B2, Q_K0, fun h0_ _ => absurd ((hoff 16 (by kernel_rfl)).symm.trans h0_) (by decide), fun h0_ => absurd ((hoff 19 (by kernel_rfl)).symm.trans h0_) (by decide), Q_X6_, Q_X12_⟩
          refine steps_cons ?_ ?_
          · rintro b a w' ⟨gb1, gb2, v1, v2, m6_, m12_, ha, Q_GS, Q_T0, Q_T1, Q_T2, Q_B1, Q_B2, Q_K0, Q_K1, Q_K2, Q_X6_, Q_X12_⟩ hb_ hon hoff
            refine ⟨_, rfl, fun K hK => ?_⟩
            replace ha := Aside0.mk ha
            have GS := Aside0.mk Q_GS
            have T0 := Aside0.mk (Q_T0 (hoff 7 (by kernel_rfl)))
            have K0 := Aside0.mk (Q_K0 (hoff 16 (by kernel_rfl)))
            refine value_ (w1 := w'.alloc (.cells #[.bool false] 4)) (v := .slice (some ⟨w'.heap.size, 0, none⟩) 1 1) (by rfl) rfl ?_ ?_
            · go_simp
            refine hK.out _ _ ⟨w'.heap.size, gb2, v1, v2, (.slice (some ⟨w'.heap.size, 0, none⟩) 1 1), m12_, (by rw [ha.out]; exact putSel_upk 1 hb_ rfl rfl rfl), le_alloc GS.out _, fun _ => T0.out.alloc _, fun h0_ _ => absurd ((hoff 7 (by kernel_rfl)).symm.trans h0_) (by decide), fun h0_ => absurd ((hoff 13 (by kernel_rfl)).symm.trans h0_) (by decide), fun _ _ => ⟨GS.out, heap_alloc_new w' _⟩, fun h0_ h1_ => ⟨(Q_B2 h0_ h1_).1, blk_alloc (Q_B2 h0_ h1_).2 _⟩, fun _ => blk_alloc K0.out _, fun h0_ _ => absurd ((hoff 16 (by kernel_rfl)).symm.trans h0_) (by decide), fun h0_ => absurd ((hoff 19 (by kernel_rfl)).symm.trans h0_) (by decide), fun _ => rfl, Q_X12_⟩
          refine steps_cons ?_ ?_
          · rintro b a w' ⟨gb1, gb2, v1, v2, m6_, m12_, ha, Q_GS, Q_T0, Q_T1, Q_T2, Q_B1, Q_B2, Q_K0, Q_K1, Q_K2, Q_X6_, Q_X12_⟩ hb_ hon hoff
            refine ⟨_, rfl, fun K hK => ?_⟩
            have e34 : a.tmps[34]? = some (.slice A1 said.length c1) := by rw [ha]; exact putSel_on (e := (5, 34, .slice A1 said.length c1)) 0 rfl rfl (hon 5 (by kernel_rfl)) rfl
            have e35 : a.tmps[35]? = some (m6_) := by rw [ha]; exact putSel_on (e := (6, 35, m6_)) 1 rfl rfl (hon 6 (by kernel_rfl)) rfl
            rw [Q_X6_ (hon 6 (by kernel_rfl))] at e35
            replace ha := Aside0.mk ha
            have GS := Aside0.mk Q_GS
            have T0 := Aside0.mk (Q_T0 hb_)
            have B1 := Aside0.mk (Q_B1 (hon 6 (by kernel_rfl)) hb_)
            have K0 := Aside0.mk (Q_K0 (hoff 16 (by kernel_rfl)))
            refine step_append_lies _ rfl (.tmp 34) (.tmp 35) 45 (by rfl) w0.heap.size 4 iB (.bool false) 1 1 HUS.out HIB.out.1 HIB.out.2.1 HIB.out.2.2.1 HIB.out.2.2.2 rfl (by decide) (.slice A1 said.length c1) _ _ (eval_of e34) T0.out.o1 ⟨gb1, 0, none⟩ 1 1 [.bool false] (eval_of e35) rfl (World.news_of_block B1.out.2) (by intro u hu; rw [List.mem_singleton.1 hu]; rfl) (by decide) HBD.out.1.1 HBD.out.1.2 (Nat.le_trans HBB.out GS.out) w'.heap.size rfl ?_
            intro g cap w1 hown hgrow hat hlt
            refine hK.out _ _ ⟨gb1, gb2, (.slice (some ⟨g, 0, none⟩) (said.length + 1) cap), v2, m6_, m12_, (by rw [ha.out]; exact putSel_upk 2 hb_ rfl rfl rfl), Nat.le_trans GS.out hgrow.size, fun h0_ => absurd ((up_self b 7).symm.trans h0_) (by decide), fun _ _ => T0.out.app1 hown hgrow hat, fun h0_ => absurd ((hoff 13 (by kernel_rfl)).symm.trans h0_) (by decide), fun _ h1_ => absurd ((up_self b 7).symm.trans h1_) (by decide), fun h0_ h1_ => T0.out.keepB1 (Q_B2 h0_ h1_) hgrow, fun _ => T0.out.keepR1 K0.out hgrow, fun h0_ _ => absurd ((hoff 16 (by kernel_rfl)).symm.trans h0_) (by decide), fun h0_ => absurd ((hoff 19 (by kernel_rfl)).symm.trans h0_) (by decide), Q_X6_, Q_X12_⟩
          refine steps_cons ?_ ?_
          · rintro b a w' ⟨gb1, gb2, v1, v2, m6_, m12_, ha, Q_GS, Q_T0, Q_T1, Q_T2, Q_B1, Q_B2, Q_K0, Q_K1, Q_K2, Q_X6_, Q_X12_⟩ hb_ hon hoff
            refine ⟨_, rfl, fun K hK => ?_⟩
            have e39 : a.tmps[39]? = some (.pointer (some ⟨rb, 3, none⟩)) := by rw [ha]; exact (putSel_off rfl).trans rfl
            replace ha := Aside0.mk ha
            have GS := Aside0.mk Q_GS
            have K0 := Aside0.mk (Q_K0 (hoff 16 (by kernel_rfl)))
            have hk := rdrB_3 K0.out
            refine value_ (w1 := w') (v := .slice A2 good.length c2) (by rfl) rfl ?_ ?_
            · go_simp
              (try simp only [i64_w])
              try rfl
            refine hK.out _ _ ⟨gb1, gb2, v1, v2, m6_, m12_, (by rw [ha.out]; exact putSel_upk 3 hb_ rfl rfl rfl), Q_GS, Q_T0, Q_T1, fun h0_ => absurd ((hoff 13 (by kernel_rfl)).symm.trans h0_) (by decide), Q_B1, Q_B2, Q_K0, fun h0_ _ => absurd ((hoff 16 (by kernel_rfl)).symm.trans h0_) (by decide), fun h0_ => absurd ((hoff 19 (by kernel_rfl)).symm.trans h0_) (by decide), Q_X6_, Q_X12_⟩
          refine steps_cons ?_ ?_
          · rintro b a w' ⟨gb1, gb2, v1, v2, m6_, m12_, ha, Q_GS, Q_T0, Q_T1, Q_T2, Q_B1, Q_B2, Q_K0, Q_K1, Q_K2, Q_X6_, Q_X12_⟩ hb_ hon hoff
            refine ⟨_, rfl, fun K hK => ?_⟩
            replace ha := Aside0.mk ha
            have GS := Aside0.mk Q_GS
            have K0 := Aside0.mk (Q_K0 (hoff 16 (by kernel_rfl)))
            refine value_ (w1 := w'.alloc (.cells #[.bool false] 4)) (v := .slice (some ⟨w'.heap.size, 0, none⟩) 1 1) (by rfl) rfl ?_ ?_
            · go_simp
            refine hK.out _ _ ⟨gb1, w'.heap.size, v1, v2, m6_, (.slice (some ⟨w'.heap.size, 0, none⟩) 1 1), (by rw [ha.out]; exact putSel_upk 4 hb_ rfl rfl rfl), le_alloc GS.out _, fun h0_ => (Q_T0 h0_).alloc _, fun h0_ h1_ => (Q_T1 h0_ h1_).alloc _, fun h0_ => absurd ((hoff 13 (by kernel_rfl)).symm.trans h0_) (by decide), fun h0_ h1_ => ⟨(Q_B1 h0_ h1_).1, blk_alloc (Q_B1 h0_ h1_).2 _⟩, fun _ _ => ⟨GS.out, heap_alloc_new w' _⟩, fun _ => blk_alloc K0.out _, fun h0_ _ => absurd ((hoff 16 (by kernel_rfl)).symm.trans h0_) (by decide), fun h0_ => absurd ((hoff 19 (by kernel_rfl)).symm.trans h0_) (by decide), Q_X6_, fun _ => rfl⟩
          refine steps_cons ?_ ?_
          · rintro b a w' ⟨gb1, gb2, v1, v2, m6_, m12_, ha, Q_GS, Q_T0, Q_T1, Q_T2, Q_B1, Q_B2, Q_K0, Q_K1, Q_K2, Q_X6_, Q_X12_⟩ hb_ hon hoff
            refine ⟨_, rfl, fun K hK => ?_⟩
            have e40 : a.tmps[40]? = some (.slice A2 good.length c2) := by rw [ha]; exact putSel_on (e := (11, 40, .slice A2 good.length c2)) 3 rfl rfl (hon 11 (by kernel_rfl)) rfl
            have e41 : a.tmps[41]? = some (m12_) := by rw [ha]; exact putSel_on (e := (12, 41, m12_)) 4 rfl rfl (hon 12 (by kernel_rfl)) rfl
            rw [Q_X12_ (hon 12 (by kernel_rfl))] at e41
            replace ha := Aside0.mk ha
            have GS := Aside0.mk Q_GS
            have T1 := Aside0.mk (Q_T1 (hon 7 (by kernel_rfl)) hb_)
            have B2 := Aside0.mk (Q_B2 (hon 12 (by kernel_rfl)) hb_)
            have K0 := Aside0.mk (Q_K0 (hoff 16 (by kernel_rfl)))
            refine step_append_lies _ rfl (.tmp 40) (.tmp 41) 45 (by rfl) w0.heap.size 4 iB (.bool false) 1 1 HUS.out HIB.out.1 HIB.out.2.1 HIB.out.2.2.1 HIB.out.2.2.2 rfl (by decide) (.slice A2 good.length c2) _ _ (eval_of e40) T1.out.o2 ⟨gb2, 0, none⟩ 1 1 [.bool false] (eval_of e41) rfl (World.news_of_block B2.out.2) (by intro u hu; rw [List.mem_singleton.1 hu]; rfl) (by decide) HBD.out.2.1 HBD.out.2.2 (Nat.le_trans HBB.out GS.out) w'.heap.size rfl ?_
            intro g cap w1 hown hgrow hat hlt
            refine hK.out _ _ ⟨gb1, gb2, v1, (.slice (some ⟨g, 0, none⟩) (good.length + 1) cap), m6_, m12_, (by rw [ha.out]; exact putSel_upk 5 hb_ rfl rfl rfl), Nat.le_trans GS.out hgrow.size, fun h0_ => absurd ((hon 7 (by kernel_rfl)).symm.trans h0_) (by decide), fun _ h1_ => absurd ((up_self b 13).symm.trans h1_) (by decide), fun _ => T1.out.app2 hown hgrow hat, fun _ h1_ => absurd ((hon 7 (by kernel_rfl)).symm.trans h1_) (by decide), fun _ h1_ => absurd ((up_self b 13).symm.trans h1_) (by decide), fun _ => T1.out.keepR2 K0.out hgrow, fun h0_ _ => absurd ((hoff 16 (by kernel_rfl)).symm.trans h0_) (by decide), fun h0_ => absurd ((hoff 19 (by kernel_rfl)).symm.trans h0_) (by decide), Q_X6_, Q_X12_⟩
          refine steps_cons ?_ ?_
          · rintro b a w' ⟨gb1, gb2, v1, v2, m6_, m12_, ha, Q_GS, Q_T0, Q_T1, Q_T2, Q_B1, Q_B2, Q_K0, Q_K1, Q_K2, Q_X6_, Q_X12_⟩ hb_ hon hoff
            refine ⟨_, rfl, fun K hK => ?_⟩
            have e29 : a.tmps[29]? = some (.pointer (some ⟨rb, 0, none⟩)) := by rw [ha]; exact (putSel_off rfl).trans rfl
            replace ha := Aside0.mk ha
            have GS := Aside0.mk Q_GS
            have T2 := Aside0.mk (Q_T2 (hon 13 (by kernel_rfl)))
            have K0 := Aside0.mk (Q_K0 (hoff 16 (by kernel_rfl)))
            refine value_ (w1 := w') (v := .pointer (some ⟨rb, 0, none⟩)) (by rfl) rfl ?_ ?_
            · go_simp
              (try simp only [i64_w])
              try rfl
            refine hK.out _ _ ⟨gb1, gb2, v1, v2, m6_, m12_, (by rw [ha.out]; exact putSel_upk 6 hb_ rfl rfl rfl), Q_GS, fun h0_ => absurd ((hon 7 (by kernel_rfl)).symm.trans h0_) (by decide), fun _ h1_ => absurd ((hon 13 (by kernel_rfl)).symm.trans h1_) (by decide), Q_T2, fun _ h1_ => absurd ((hon 7 (by kernel_rfl)).symm.trans h1_) (by decide), fun _ h1_ => absurd ((hon 13 (by kernel_rfl)).symm.trans h1_) (by decide), Q_K0, fun h0_ _ => absurd ((hoff 16 (by kernel_rfl)).symm.trans h0_) (by decide), fun h0_ => absurd ((hoff 19 (by kernel_rfl)).symm.trans h0_) (by decide), Q_X6_, Q_X12_⟩
          refine steps_cons ?_ ?_
          · rintro b a w' ⟨gb1, gb2, v1, v2, m6_, m12_, ha, Q_GS, Q_T0, Q_T1, Q_T2, Q_B1, Q_B2, Q_K0, Q_K1, Q_K2, Q_X6_, Q_X12_⟩ hb_ hon hoff
            refine ⟨_, rfl, fun K hK => ?_⟩
            have e43 : a.tmps[43]? = some (.pointer (some ⟨rb, 0, none⟩)) := by rw [ha]; exact putSel_on (e := (14, 43, .pointer (some ⟨rb, 0, none⟩))) 6 rfl rfl (hon 14 (by kernel_rfl)) rfl
            replace ha := Aside0.mk ha
            have GS := Aside0.mk Q_GS
            have T2 := Aside0.mk (Q_T2 (hon 13 (by kernel_rfl)))
            have K0 := Aside0.mk (Q_K0 (hoff 16 (by kernel_rfl)))
            refine value_ (w1 := w') (v := .pointer (some ⟨rb, 2, none⟩)) (by rfl) rfl ?_ ?_
            · go_simp
              (try simp only [i64_w])
              try rfl
            refine hK.out _ _ ⟨gb1, gb2, v1, v2, m6_, m12_, (by rw [ha.out]; exact putSel_upk 7 hb_ rfl rfl rfl), Q_GS, fun h0_ => absurd ((hon 7 (by kernel_rfl)).symm.trans h0_) (by decide), fun _ h1_ => absurd ((hon 13 (by kernel_rfl)).symm.trans h1_) (by decide), Q_T2, fun _ h1_ => absurd ((hon 7 (by kernel_rfl)).symm.trans h1_) (by decide), fun _ h1_ => absurd ((hon 13 (by kernel_rfl)).symm.trans h1_) (by decide), Q_K0, fun h0_ _ => absurd ((hoff 16 (by kernel_rfl)).symm.trans h0_) (by decide), fun h0_ => absurd ((hoff 19 (by kernel_rfl)).symm.trans h0_) (by decide), Q_X6_, Q_X12_⟩
          refine steps_cons ?_ ?_
          · rintro b a w' ⟨gb1, gb2, v1, v2, m6_, m12_, ha, Q_GS, Q_T0, Q_T1, Q_T2, Q_B1, Q_B2, Q_K0, Q_K1, Q_K2, Q_X6_, Q_X12_⟩ hb_ hon hoff
            refine ⟨_, rfl, fun K hK => ?_⟩
            have e44 : a.tmps[44]? = some (.pointer (some ⟨rb, 2, none⟩)) := by rw [ha]; exact putSel_on (e := (15, 44, .pointer (some ⟨rb, 2, none⟩))) 7 rfl rfl (hon 15 (by kernel_rfl)) rfl
            have e36 : a.tmps[36]? = some (v1) := by rw [ha]; exact putSel_on (e := (7, 36, v1)) 2 rfl rfl (hon 7 (by kernel_rfl)) rfl
            replace ha := Aside0.mk ha
            have GS := Aside0.mk Q_GS
            have T2 := Aside0.mk (Q_T2 (hon 13 (by kernel_rfl)))
            have K0 := Aside0.mk (Q_K0 hb_)
            obtain ⟨A_, c_, rfl, _⟩ := own_form T2.out.o1
            have hc := rdrB_2 K0.out
            have hf := blk_frozen K0.out 2
            refine skip_ (w1 := w'.setCell ⟨rb, 2, none⟩ (.slice A_ (said ++ [false]).length c_)) (by rfl) rfl ?_ ?_
            · go_simp
            refine hK.out _ _ ⟨gb1, gb2, (.slice A_ (said ++ [false]).length c_), v2, m6_, m12_, (by rw [ha.out]; exact putSel_none (v := undef) rfl), le_set GS.out _ _, fun h0_ => absurd ((hon 7 (by kernel_rfl)).symm.trans h0_) (by decide), fun _ h1_ => absurd ((hon 13 (by kernel_rfl)).symm.trans h1_) (by decide), fun _ => T2.out.setR _ _, fun _ h1_ => absurd ((hon 7 (by kernel_rfl)).symm.trans h1_) (by decide), fun _ h1_ => absurd ((hon 13 (by kernel_rfl)).symm.trans h1_) (by decide), fun h0_ => absurd ((up_self b 16).symm.trans h0_) (by decide), fun _ _ => rdrB_set2 K0.out _, fun h0_ => absurd ((hoff 19 (by kernel_rfl)).symm.trans h0_) (by decide), Q_X6_, Q_X12_⟩
          refine steps_cons ?_ ?_
          · rintro b a w' ⟨gb1, gb2, v1, v2, m6_, m12_, ha, Q_GS, Q_T0, Q_T1, Q_T2, Q_B1, Q_B2, Q_K0, Q_K1, Q_K2, Q_X6_, Q_X12_⟩ hb_ hon hoff
            refine ⟨_, rfl, fun K hK => ?_⟩
            have e30 : a.tmps[30]? = some (.pointer (some ⟨rb, 0, none⟩)) := by rw [ha]; exact (putSel_off rfl).trans rfl
            replace ha := Aside0.mk ha
            have GS := Aside0.mk Q_GS
            have T2 := Aside0.mk (Q_T2 (hon 13 (by kernel_rfl)))
            have K1 := Aside0.mk (Q_K1 (hon 16 (by kernel_rfl)) (hoff 19 (by kernel_rfl)))
            refine value_ (w1 := w') (v := .pointer (some ⟨rb, 0, none⟩)) (by rfl) rfl ?_ ?_
            · go_simp
              (try simp only [i64_w])
              try rfl
            refine hK.out _ _ ⟨gb1, gb2, v1, v2, m6_, m12_, (by rw [ha.out]; exact putSel_upk 8 hb_ rfl rfl rfl), Q_GS, fun h0_ => absurd ((hon 7 (by kernel_rfl)).symm.trans h0_) (by decide), fun _ h1_ => absurd ((hon 13 (by kernel_rfl)).symm.trans h1_) (by decide), Q_T2, fun _ h1_ => absurd ((hon 7 (by kernel_rfl)).symm.trans h1_) (by decide), fun _ h1_ => absurd ((hon 13 (by kernel_rfl)).symm.trans h1_) (by decide), fun h0_ => absurd ((hon 16 (by kernel_rfl)).symm.trans h0_) (by decide), Q_K1, fun h0_ => absurd ((hoff 19 (by kernel_rfl)).symm.trans h0_) (by decide), Q_X6_, Q_X12_⟩
          refine steps_cons ?_ ?_
          · rintro b a w' ⟨gb1, gb2, v1, v2, m6_, m12_, ha, Q_GS, Q_T0, Q_T1, Q_T2, Q_B1, Q_B2, Q_K0, Q_K1, Q_K2, Q_X6_, Q_X12_⟩ hb_ hon hoff
            refine ⟨_, rfl, fun K hK => ?_⟩
            have e45 : a.tmps[45]? = some (.pointer (some ⟨rb, 0, none⟩)) := by rw [ha]; exact putSel_on (e := (17, 45, .pointer (some ⟨rb, 0, none⟩))) 8 rfl rfl (hon 17 (by kernel_rfl)) rfl
            replace ha := Aside0.mk ha
            have GS := Aside0.mk Q_GS
            have T2 := Aside0.mk (Q_T2 (hon 13 (by kernel_rfl)))
            have K1 := Aside0.mk (Q_K1 (hon 16 (by kernel_rfl)) (hoff 19 (by kernel_rfl)))
            refine value_ (w1 := w') (v := .pointer (some ⟨rb, 3, none⟩)) (by rfl) rfl ?_ ?_
            · go_simp
              (try simp only [i64_w])
              try rfl
            refine hK.out _ _ ⟨gb1, gb2, v1, v2, m6_, m12_, (by rw [ha.out]; exact putSel_upk 9 hb_ rfl rfl rfl), Q_GS, fun h0_ => absurd ((hon 7 (by kernel_rfl)).symm.trans h0_) (by decide), fun _ h1_ => absurd ((hon 13 (by kernel_rfl)).symm.trans h1_) (by decide), Q_T2, fun _ h1_ => absurd ((hon 7 (by kernel_rfl)).symm.trans h1_) (by decide), fun _ h1_ => absurd ((hon 13 (by kernel_rfl)).symm.trans h1_) (by decide), fun h0_ => absurd ((hon 16 (by kernel_rfl)).symm.trans h0_) (by decide), Q_K1, fun h0_ => absurd ((hoff 19 (by kernel_rfl)).symm.trans h0_) (by decide), Q_X6_, Q_X12_⟩
          refine steps_cons ?_ ?_
          · rintro b a w' ⟨gb1, gb2, v1, v2, m6_, m12_, ha, Q_GS, Q_T0, Q_T1, Q_T2, Q_B1, Q_B2, Q_K0, Q_K1, Q_K2, Q_X6_, Q_X12_⟩ hb_ hon hoff
            refine ⟨_, rfl, fun K hK => ?_⟩
            have e46 : a.tmps[46]? = some (.pointer (some ⟨rb, 3, none⟩)) := by rw [ha]; exact putSel_on (e := (18, 46, .pointer (some ⟨rb, 3, none⟩))) 9 rfl rfl (hon 18 (by kernel_rfl)) rfl
            have e42 : a.tmps[42]? = some (v2) := by rw [ha]; exact putSel_on (e := (13, 42, v2)) 5 rfl rfl (hon 13 (by kernel_rfl)) rfl
            replace ha := Aside0.mk ha
            have GS := Aside0.mk Q_GS
            have T2 := Aside0.mk (Q_T2 (hon 13 (by kernel_rfl)))
            have K1 := Aside0.mk (Q_K1 (hon 16 (by kernel_rfl)) hb_)
            obtain ⟨A_, c_, rfl, _⟩ := own_form T2.out.o2
            have hc := rdrB_3 K1.out
            have hf := blk_frozen K1.out 3
            refine skip_ (w1 := w'.setCell ⟨rb, 3, none⟩ (.slice A_ (good ++ [false]).length c_)) (by rfl) rfl ?_ ?_
            · go_simp
            refine hK.out _ _ ⟨gb1, gb2, v1, (.slice A_ (good ++ [false]).length c_), m6_, m12_, (by rw [ha.out]; exact putSel_none (v := undef) rfl), le_set GS.out _ _, fun h0_ => absurd ((hon 7 (by kernel_rfl)).symm.trans h0_) (by decide), fun _ h1_ => absurd ((hon 13 (by kernel_rfl)).symm.trans h1_) (by decide), fun _ => T2.out.setR _ _, fun _ h1_ => absurd ((hon 7 (by kernel_rfl)).symm.trans h1_) (by decide), fun _ h1_ => absurd ((hon 13 (by kernel_rfl)).symm.trans h1_) (by decide), fun h0_ => absurd ((hon 16 (by kernel_rfl)).symm.trans h0_) (by decide), fun _ h1_ => absurd ((up_self b 19).symm.trans h1_) (by decide), fun _ => rdrB_set3 K1.out _, Q_X6_, Q_X12_⟩
          exact steps_nil
        · rintro b a w' hall ⟨gb1, gb2, v1, v2, m6_, m12_, ha, Q_GS, Q_T0, Q_T1, Q_T2, Q_B1, Q_B2, Q_K0, Q_K1, Q_K2, Q_X6_, Q_X12_⟩
          clear GS K0 T0
          have hb5_ := hall 5 (by kernel_rfl)
          have hb6_ := hall 6 (by kernel_rfl)
          have hb7_ := hall 7 (by kernel_rfl)
          have hb11_ := hall 11 (by kernel_rfl)
          have hb12_ := hall 12 (by kernel_rfl)
          have hb13_ := hall 13 (by kernel_rfl)
          have hb14_ := hall 14 (by kernel_rfl)
          have hb15_ := hall 15 (by kernel_rfl)
          have hb16_ := hall 16 (by kernel_rfl)
          have hb17_ := hall 17 (by kernel_rfl)
          have hb18_ := hall 18 (by kernel_rfl)
          have hb19_ := hall 19 (by kernel_rfl)
          subst ha
          obtain rfl := Q_X6_ hb6_
          obtain rfl := Q_X12_ hb12_
          simp only [putSel, hb5_, hb6_, hb7_, hb11_, hb12_, hb13_, hb14_, hb15_, hb16_, hb17_, hb18_, hb19_, if_true, Act.put, List.setIfInBounds_toArray, List.set_cons_zero, List.set_cons_succ]
          have GS := Aside0.mk Q_GS
          clear Q_GS
          clear Q_T0
          clear Q_T1
          have T2 := Aside0.mk (Q_T2 hb13_)
          clear Q_T2
          clear Q_B1
          clear Q_B2
          clear Q_K0
          clear Q_K1
          have K2 := Aside0.mk (Q_K2 hb19_)
          clear Q_K2
          clear hall hb5_ hb6_ hb7_ hb11_ hb12_ hb13_ hb14_ hb15_ hb16_ hb17_ hb18_ hb19_
          go_wp2_with fail
          go_meet
          have hfin := T2.out.rdr K2.out
          exact ⟨v1, v2, ⟨by rw [HE.out]; exact hfin.1⟩, ⟨hfin.2⟩⟩
    case rest =>
      obtain ⟨y1, y2v, HRb, HFb⟩ := hcut
      have hbxc := HBOX.out _ _ _ HFb.out
      have z2 : wc.cell? ⟨w.heap.size, 2, none⟩ = some (.slice A s.f2.length cp) := (blk_cell hbxc 2).trans rfl
      obtain ⟨K, hK⟩ : ∃ K, K = said.length + tS s.f0 := ⟨_, rfl⟩
      have HKD := Aside0.mk hK
      have hsl : (said ++ ownE s.f0 false).length = K := by rw [List.length_append, len_own, hK]
      have hgl : (good ++ ownE s.f0 false).length = K := by rw [List.length_append, len_own, hK, HLG.out]
      have HSL := Aside0.mk hsl
      have HGL := Aside0.mk hgl
      have HLT := Aside0.mk (show K + tnL s.f2 ≤ 60 from by have := HBD.out; have := HTN.out; omega)
      clear hbxc x0 y2 hK hsl hgl
      have hlen := Kd.C_max HK.out
      go_wp2
      go_loopg [50, 7, 8] s.f2.length (fun kq v50 v7 v8 w' => ∃ (j : Nat) (pre sd gd : List Bool) (x1 x2 : Value), j + kq = s.f2.length ∧ v50 = .int .i64 j ∧ v7 = .bool (pre.getD 0 false) ∧ v8 = .bool (pre.getD 1 false) ∧ Aside0 (pre.length = j) ∧ Aside0 (pre ++ valL sv lt (s.f2.drop j) sd.length = valL sv lt s.f2 K) ∧ Aside0 (sd ++ saidL sv lt (s.f2.drop j) sd.length = said ++ ownE s.f0 false ++ saidL sv lt s.f2 K) ∧ Aside0 (gd ++ goodL sv lt (s.f2.drop j) sd.length = good ++ ownE s.f0 false ++ goodL sv lt s.f2 K) ∧ Aside0 (sd.length = gd.length) ∧ Aside0 (sd.length + tnL (s.f2.drop j) = K + tnL s.f2) ∧ Aside0 (Rdr w0 w' rb sv lt sd gd x1 x2) ∧ Aside0 (Fr W1 rb (.slice A1 said.length c1) (.slice A2 good.length c2) w' x1 x2))
      case atStart => exact ⟨0, [], said ++ ownE s.f0 false, good ++ ownE s.f0 false, y1, y2v, by omega, rfl, rfl, rfl, ⟨rfl⟩, ⟨by rw [HSL.out]; rfl⟩, ⟨by rw [HSL.out]; rfl⟩, ⟨by rw [HSL.out]; rfl⟩, ⟨by rw [HSL.out, HGL.out]⟩, ⟨by rw [HSL.out]; rfl⟩, HRb, HFb⟩
      case round =>
        obtain ⟨j, pre, sd, gd, x1, x2, hj, rfl, rfl, rfl, HPL, HPV, HPS, HPG, HLQ, HTQ, HRd, HFd⟩ := hrel
        have HJ := Aside0.mk hj
        clear hj
        by_cases hlt : j < s.f2.length
        · obtain ⟨ad, A3, cp3, e0, hx0, hx1, hx2, hl3, hk3⟩ := kid_at HK.out HRd.out.bl j hlt hlt
          cases e0
          have HK3 := Aside0.mk hk3
          have HL3 := Aside0.mk hl3
          clear hk3 hl3
          have hd := List.drop_eq_getElem_cons hlt
          have HD := Aside0.mk hd
          clear hd
          have htn : sd.length + tnS (s.f2[j]'hlt) ≤ 60 := by
            have h1 := HTQ.out
            rw [HD.out] at h1
            have h2 := HLT.out
            simp only [tnL] at h1
            omega
          have HKK := Aside0.mk (fun W h => HIH.out (s.f2[j]'hlt) (List.getElem_mem hlt) rb sv lt sd gd x1 x2 A3 cp3 W h HLQ.out htn HK3.out HL3.out (sound_kid HS.out j hlt))
          clear htn
          have hPV : (pre ++ [valS sv lt (s.f2[j]'hlt) sd.length]) ++ valL sv lt (s.f2.drop (j + 1)) (sd.length + tnS (s.f2[j]'hlt)) = valL sv lt s.f2 K := by
            rw [← HPV.out, HD.out, valL, List.append_assoc]; rfl
          have hPS : (sd ++ saidS sv lt (s.f2[j]'hlt) sd.length) ++ saidL sv lt (s.f2.drop (j + 1)) (sd.length + tnS (s.f2[j]'hlt)) = said ++ ownE s.f0 false ++ saidL sv lt s.f2 K := by
            rw [← HPS.out, HD.out, saidL, List.append_assoc]
          have hPG : (gd ++ goodS sv lt (s.f2[j]'hlt) sd.length) ++ goodL sv lt (s.f2.drop (j + 1)) (sd.length + tnS (s.f2[j]'hlt)) = good ++ ownE s.f0 false ++ goodL sv lt s.f2 K := by
            rw [← HPG.out, HD.out, goodL, List.append_assoc]
          have hQL : (sd ++ saidS sv lt (s.f2[j]'hlt) sd.length).length = sd.length + tnS (s.f2[j]'hlt) := by rw [List.length_append, len_said]
          have hQG : (gd ++ goodS sv lt (s.f2[j]'hlt) sd.length).length = sd.length + tnS (s.f2[j]'hlt) := by rw [List.length_append, len_good, HLQ.out]
          have hTN : sd.length + tnS (s.f2[j]'hlt) + tnL (s.f2.drop (j + 1)) = K + tnL s.f2 := by rw [← HTQ.out, HD.out, tnL]; omega
          have HPV2 := Aside0.mk hPV
          have HPS2 := Aside0.mk hPS
          have HPG2 := Aside0.mk hPG
          have HQL := Aside0.mk hQL
          have HQG := Aside0.mk hQG
          have HTN2 := Aside0.mk hTN
          clear hPV hPS hPG hQL hQG hTN
          obtain ⟨vv, hvv⟩ : ∃ vv, vv = valS sv lt (s.f2[j]'hlt) sd.length := ⟨_, rfl⟩
          rw [← hvv] at HPV2
          have HVV := Aside0.mk hvv
          clear hvv
          by_cases hj0 : j = 0
          · have hjb : ((j : Int) == 0) = true := by rw [hj0]; rfl
            have hp0 : pre = [] := List.length_eq_zero_iff.1 (by rw [HPL.out, hj0])
            subst hp0
            have HJ0 := Aside0.mk hj0
            clear hj0
            go_wp2_with (go_at_call 52; refine (HKK.out _ (HRd.out.alloc _)).mono ?_; rintro e w2 ⟨rfl, u1, u2, hR2, hF2⟩; have HR2 := Aside0.mk hR2; have HF2 := Aside0.mk (HFd.out.alloc _ |>.trans hF2); clear hR2 hF2; rw [← HVV.out])
            go_roundg (gk - 1)
            case measure => have := HJ.out; omega
            case rel => exact ⟨j + 1, [vv], _, _, u1, u2, by have := HJ.out; omega, by go_num, rfl, rfl, ⟨by rw [HJ0.out]; rfl⟩, ⟨by rw [HQL.out]; exact HPV2.out⟩, ⟨by rw [HQL.out]; exact HPS2.out⟩, ⟨by rw [HQL.out]; exact HPG2.out⟩, ⟨by rw [HQL.out, HQG.out]⟩, ⟨by rw [HQL.out]; exact HTN2.out⟩, HR2, HF2⟩
          · have hjb : ((j : Int) == 0) = false := beq_eq_false_iff_ne.2 (by omega)
            have hj1 : j = 1 := by omega
            obtain ⟨pa, rfl⟩ : ∃ pa, pre = [pa] := List.length_eq_one_iff.1 (by rw [HPL.out, hj1])
            have HJ1 := Aside0.mk hj1
            clear hj1 hj0
            go_wp2_with (go_at_call 52; refine (HKK.out _ (HRd.out.alloc _)).mono ?_; rintro e w2 ⟨rfl, u1, u2, hR2, hF2⟩; have HR2 := Aside0.mk hR2; have HF2 := Aside0.mk (HFd.out.alloc _ |>.trans hF2); clear hR2 hF2; rw [← HVV.out])
            go_roundg (gk - 1)
            case measure => have := HJ.out; omega
            case rel => exact ⟨j + 1, [pa, vv], _, _, u1, u2, by have := HJ.out; omega, by go_num, rfl, rfl, ⟨by rw [HJ1.out]; rfl⟩, ⟨by rw [HQL.out]; exact HPV2.out⟩, ⟨by rw [HQL.out]; exact HPS2.out⟩, ⟨by rw [HQL.out]; exact HPG2.out⟩, ⟨by rw [HQL.out, HQG.out]⟩, ⟨by rw [HQL.out]; exact HTN2.out⟩, HR2, HF2⟩
        · have hdr : s.f2.drop j = [] := List.drop_eq_nil_of_le (by omega)
          have hpv : pre = valL sv lt s.f2 K := by have := HPV.out; rw [hdr, valL, List.append_nil] at this; exact this
          have hps : sd = said ++ ownE s.f0 false ++ saidL sv lt s.f2 K := by have := HPS.out; rw [hdr, saidL, List.append_nil] at this; exact this
          have hpg : gd = good ++ ownE s.f0 false ++ goodL sv lt s.f2 K := by have := HPG.out; rw [hdr, goodL, List.append_nil] at this; exact this
          have hEQ := HEQ.out
          rw [← HKD.out, ← hpv] at hEQ
          obtain ⟨xa, hxa⟩ : ∃ xa, xa = pre.getD 0 false := ⟨_, rfl⟩
          obtain ⟨xb, hxb⟩ : ∃ xb, xb = pre.getD 1 false := ⟨_, rfl⟩
          rw [← hxa, ← hxb] at hEQ
          rw [← hxa, ← hxb]
          have HEQ2 := Aside0.mk hEQ
          have HPS2 := Aside0.mk hps
          have HPG2 := Aside0.mk hpg
          have hbxc := HBOX.out _ _ _ HFd.out
          have z0 : wr.cell? ⟨w.heap.size, 0, none⟩ = some (.int .i64 s.f0) := (blk_cell hbxc 0).trans rfl
          have z1 : wr.cell? ⟨w.heap.size, 1, none⟩ = some (.int .i64 s.f1) := (blk_cell hbxc 1).trans rfl
          have r0 := rdrB_0 HRd.out.blk
          have r1 := rdrB_1 HRd.out.blk
          have r2 := rdrB_2 HRd.out.blk
          have r3 := rdrB_3 HRd.out.blk
          have hkb : said.length ≤ 60 := by have := HBD.out; omega
          clear hdr hpv hps hpg hEQ hxa hxb hbxc
          go_upto_region 14 with fail
          go_cut [12] (fun v12 wx => v12 = .bool (tm && bitK sv said.length) ∧ wx = wr)
          case first =>
            cases tm with
            | false =>
              go_wp2
              go_meet
              exact ⟨rfl, rfl⟩
            | true =>
              go_wp2
              go_meet
              exact ⟨rfl, rfl⟩
          case rest =>
            obtain ⟨rfl, hwc⟩ := hcut
            rw [hwc]
            clear hwc wc
            rcases HOP.out with hop | hop | hop | hop | hop | hop | hop | hop
            · -- op 1
              have hmm := HM0.out
              rw [hop] at z0 hmm
              have htm : tm = false := by rw [← HT.out, hop]; rfl
              subst htm
              have hval : valS sv lt s said.length = (true) := by
                rw [HEQ2.out.1, hop]; unfold valOp
                rw [if_neg (by decide), if_neg (by decide), if_neg (by decide), if_neg (by decide), if_neg (by decide), if_neg (by decide), if_neg (by decide)]
              have HV := Aside0.mk hval
              have hfs : said ++ saidS sv lt s said.length = sd := by rw [HEQ2.out.2.1, HPS2.out, hop]; unfold ownE; rw [if_neg (by decide), if_neg (by decide), List.append_nil, List.nil_append]
              have hfg : good ++ goodS sv lt s said.length = gd := by rw [HEQ2.out.2.2, HPG2.out, hop]; unfold ownE; rw [if_neg (by decide), if_neg (by decide), List.append_nil, List.nil_append]
              have HFS := Aside0.mk hfs
              have HFG := Aside0.mk hfg
              clear hval hfs hfg
              clear hmm
              go_wp2
              go_ret
              exact ⟨by rw [HV.out]; rfl, x1, x2, by rw [HFS.out, HFG.out]; exact HRd.out, HF1.out.trans HFd.out⟩
            · -- op 2
              have hmm := HM0.out
              rw [hop] at z0 hmm
              have htm : tm = false := by rw [← HT.out, hop]; rfl
              subst htm
              have hval : valS sv lt s said.length = (bitS lt s.f1) := by
                rw [HEQ2.out.1, hop]; unfold valOp
                rw [if_pos rfl]
              have HV := Aside0.mk hval
              have hfs : said ++ saidS sv lt s said.length = sd := by rw [HEQ2.out.2.1, HPS2.out, hop]; unfold ownE; rw [if_neg (by decide), if_neg (by decide), List.append_nil, List.nil_append]
              have hfg : good ++ goodS sv lt s said.length = gd := by rw [HEQ2.out.2.2, HPG2.out, hop]; unfold ownE; rw [if_neg (by decide), if_neg (by decide), List.append_nil, List.nil_append]
              have HFS := Aside0.mk hfs
              have HFG := Aside0.mk hfg
              clear hval hfs hfg
              have hm2 : mostS 2 = 19 := by decide
              have hw : IntKind.u64.wrap s.f1 = s.f1 := u64_id hmm.1 (by omega)
              have HBT := Aside0.mk (show bitS lt s.f1 = ((Go.bits .and .u32 (lt / 2 ^ s.f1.toNat) 1) == 1) from by unfold bitS; rw [hw, ← shr_small (k := .u32) (x := lt) (y := s.f1) rfl (by show s.f1 ≤ 32; omega)])
              have hm0 := hmm.1
              have hm1 : s.f1 < 32 := by omega
              clear hw hm2 hmm
              go_wp2
              go_quiet (fail)
              go_wp2
              go_ret
              exact ⟨by rw [HV.out, HBT.out]; rfl, x1, x2, by rw [HFS.out, HFG.out]; exact HRd.out.drewN _, (HF1.out.trans HFd.out).drewN _⟩
            · -- op 3
              have hmm := HM0.out
              rw [hop] at z0 hmm
              have htm : tm = false := by rw [← HT.out, hop]; rfl
              subst htm
              have hval : valS sv lt s said.length = (!xa) := by
                rw [HEQ2.out.1, hop]; unfold valOp
                rw [if_neg (by decide), if_pos rfl]
              have HV := Aside0.mk hval
              have hfs : said ++ saidS sv lt s said.length = sd := by rw [HEQ2.out.2.1, HPS2.out, hop]; unfold ownE; rw [if_neg (by decide), if_neg (by decide), List.append_nil, List.nil_append]
              have hfg : good ++ goodS sv lt s said.length = gd := by rw [HEQ2.out.2.2, HPG2.out, hop]; unfold ownE; rw [if_neg (by decide), if_neg (by decide), List.append_nil, List.nil_append]
              have HFS := Aside0.mk hfs
              have HFG := Aside0.mk hfg
              clear hval hfs hfg
              clear hmm
              go_wp2
              go_ret
              exact ⟨by rw [HV.out]; rfl, x1, x2, by rw [HFS.out, HFG.out]; exact HRd.out, HF1.out.trans HFd.out⟩
            · -- op 4
              have hmm := HM0.out
              rw [hop] at z0 hmm
              have htm : tm = false := by rw [← HT.out, hop]; rfl
              subst htm
              have hval : valS sv lt s said.length = (xa && xb) := by
                rw [HEQ2.out.1, hop]; unfold valOp
                rw [if_neg (by decide), if_neg (by decide), if_pos rfl]
              have HV := Aside0.mk hval
              have hfs : said ++ saidS sv lt s said.length = sd := by rw [HEQ2.out.2.1, HPS2.out, hop]; unfold ownE; rw [if_neg (by decide), if_neg (by decide), List.append_nil, List.nil_append]
              have hfg : good ++ goodS sv lt s said.length = gd := by rw [HEQ2.out.2.2, HPG2.out, hop]; unfold ownE; rw [if_neg (by decide), if_neg (by decide), List.append_nil, List.nil_append]
              have HFS := Aside0.mk hfs
              have HFG := Aside0.mk hfg
              clear hval hfs hfg
              clear hmm
              cases xa
              · go_wp2
                go_ret
                exact ⟨by rw [HV.out]; rfl, x1, x2, by rw [HFS.out, HFG.out]; exact HRd.out, HF1.out.trans HFd.out⟩
              · go_wp2
                go_ret
                exact ⟨by rw [HV.out]; rfl, x1, x2, by rw [HFS.out, HFG.out]; exact HRd.out, HF1.out.trans HFd.out⟩
            · -- op 5
              have hmm := HM0.out
              rw [hop] at z0 hmm
              have htm : tm = false := by rw [← HT.out, hop]; rfl
              subst htm
              have hval : valS sv lt s said.length = (xa || xb) := by
                rw [HEQ2.out.1, hop]; unfold valOp
                rw [if_neg (by decide), if_neg (by decide), if_neg (by decide), if_pos rfl]
              have HV := Aside0.mk hval
              have hfs : said ++ saidS sv lt s said.length = sd := by rw [HEQ2.out.2.1, HPS2.out, hop]; unfold ownE; rw [if_neg (by decide), if_neg (by decide), List.append_nil, List.nil_append]
              have hfg : good ++ goodS sv lt s said.length = gd := by rw [HEQ2.out.2.2, HPG2.out, hop]; unfold ownE; rw [if_neg (by decide), if_neg (by decide), List.append_nil, List.nil_append]
              have HFS := Aside0.mk hfs
              have HFG := Aside0.mk hfg
              clear hval hfs hfg
              clear hmm
              cases xa
              · go_wp2
                go_ret
                exact ⟨by rw [HV.out]; rfl, x1, x2, by rw [HFS.out, HFG.out]; exact HRd.out, HF1.out.trans HFd.out⟩
              · go_wp2
                go_ret
                exact ⟨by rw [HV.out]; rfl, x1, x2, by rw [HFS.out, HFG.out]; exact HRd.out, HF1.out.trans HFd.out⟩
            · -- op 6
              have hmm := HM0.out
              rw [hop] at z0 hmm
              have htm : tm = true := by rw [← HT.out, hop]; rfl
              subst htm
              have hval : valS sv lt s said.length = (bitK sv said.length) := by
                rw [HEQ2.out.1, hop]; unfold valOp
                rw [if_neg (by decide), if_neg (by decide), if_neg (by decide), if_neg (by decide), if_pos rfl]
              have HV := Aside0.mk hval
              have hlsd : said.length < sd.length := by rw [HPS2.out, List.length_append, List.length_append, len_own, hop]; have : tS 6 = 1 := rfl; omega
              have hlgd : said.length < gd.length := by rw [← HLQ.out]; exact hlsd
              have hfs : said ++ saidS sv lt s said.length = sd.set said.length xa := by
                have h1 : ∀ b, ownE 6 b = [b] := fun b => rfl
                rw [HEQ2.out.2.1, HPS2.out, hval, hop, h1, h1, set_mid, List.append_assoc]; rfl
              have hfg : good ++ goodS sv lt s said.length = gd.set said.length true := by
                have h1 : ∀ b, ownE 6 b = [b] := fun b => rfl
                rw [HEQ2.out.2.2, HPG2.out, hval, hop, h1, h1, HLG.out, set_mid, List.append_assoc]; rfl
              have HFS := Aside0.mk hfs
              have HFG := Aside0.mk hfg
              obtain ⟨g1, q1, g2, q2, rfl, rfl, hne, p1, f1, p2, f2, hput⟩ := HRd.out.putL hlsd hlgd
              have HPUT := Aside0.mk hput
              have i0 : (0 : Int) ≤ (said.length : Int) := by omega
              have i1 : (said.length : Int) < (sd.length : Int) := by omega
              have i2 : (said.length : Int) < (gd.length : Int) := by omega
              have hne2 : ¬ g2 = g1 := fun e => hne e.symm
              generalize bitK sv said.length = bk at *
              clear hval hfs hfg hput hmm
              have hr1 : ¬ rb = g1 := fun e => HRd.out.rne1 (by rw [e]; rfl)
              have hr2 : ¬ rb = g2 := fun e => HRd.out.rne2 (by rw [e]; rfl)
              go_upto_region 25 with fail
              refine start_ (n := 15) (S := fun w' => w'.cell? ⟨rb, 2, none⟩ = some (.slice (some ⟨g1, 0, none⟩) sd.length q1) ∧ w'.cell? ⟨rb, 3, none⟩ = some (.slice (some ⟨g2, 0, none⟩) gd.length q2)) (ds := [12, 14]) #[false, false, false, false, false, false, false, false, false, false, false, false, false, false, false] (by kernel_rfl) rfl rfl ⟨r2, r3⟩ (fun hHeld => ?_)
              refine with_tabW rdr_value.tab25 rdr_value.bits25 (fun HT_ HW_ => ?_)
              refine pure_ (i := 0) (N := some 107) (v := ?_) (a' := ?_) #[true, false, false, false, false, false, false, false, false, false, false, false, false, false, false] rfl rfl (any_of HT_.out (by kernel_rfl)) (fun _ _ _ h => h) (Or.inl ⟨by rfl, ?_⟩) ?_ ?_
              rotate_left
              · intro w'
                go_simp
                with_reducible rfl
              rotate_left
              · simp only [Act.put, List.setIfInBounds_toArray, List.set_cons_zero, List.set_cons_succ, i64_w, i32_w]
                rfl
              refine pure_ (i := 1) (N := some 108) (v := ?_) (a' := ?_) #[true, true, false, false, false, false, false, false, false, false, false, false, false, false, false] rfl rfl (any_of HT_.out (by kernel_rfl)) (fun _ _ _ h => h) (Or.inl ⟨by rfl, ?_⟩) ?_ ?_
              rotate_left
              · intro w'
                go_simp
                with_reducible rfl
              rotate_left
              · simp only [Act.put, List.setIfInBounds_toArray, List.set_cons_zero, List.set_cons_succ, i64_w, i32_w]
                rfl
              refine pure_ (i := 2) (N := some 109) (v := ?_) (a' := ?_) #[true, true, true, false, false, false, false, false, false, false, false, false, false, false, false] rfl rfl (any_of HT_.out (by kernel_rfl)) (fun _ _ _ h => h) (Or.inl ⟨by rfl, ?_⟩) ?_ ?_
              rotate_left
              · intro w'
                go_simp
                with_reducible rfl
              rotate_left
              · simp only [Act.put, List.setIfInBounds_toArray, List.set_cons_zero, List.set_cons_succ, i64_w, i32_w]
                rfl
              refine pure_ (i := 4) (N := some 111) (v := ?_) (a' := ?_) #[true, true, true, false, true, false, false, false, false, false, false, false, false, false, false] rfl rfl (any_of HT_.out (by kernel_rfl)) (fun _ _ _ h => h) (Or.inl ⟨by rfl, ?_⟩) ?_ ?_
              rotate_left
              · intro w'
                go_simp
                with_reducible rfl
              rotate_left
              · simp only [Act.put, List.setIfInBounds_toArray, List.set_cons_zero, List.set_cons_succ, i64_w, i32_w]
                rfl
              refine pure_ (i := 5) (N := some 112) (v := ?_) (a' := ?_) #[true, true, true, false, true, true, false, false, false, false, false, false, false, false, false] rfl rfl (any_of HT_.out (by kernel_rfl)) (fun _ _ _ h => h) (Or.inl ⟨by rfl, ?_⟩) ?_ ?_
              rotate_left
              · intro w'
                go_simp
                with_reducible rfl
              rotate_left
              · simp only [Act.put, List.setIfInBounds_toArray, List.set_cons_zero, List.set_cons_succ, i64_w, i32_w]
                rfl
              refine pure_ (i := 6) (N := some 113) (v := ?_) (a' := ?_) #[true, true, true, false, true, true, true, false, false, false, false, false, false, false, false] rfl rfl (any_of HT_.out (by kernel_rfl)) (fun _ _ _ h => h) (Or.inl ⟨by rfl, ?_⟩) ?_ ?_
              rotate_left
              · intro w'
                go_simp
                with_reducible rfl
              rotate_left
              · simp only [Act.put, List.setIfInBounds_toArray, List.set_cons_zero, List.set_cons_succ, i64_w, i32_w]
                rfl
              refine pure_ (i := 7) (N := some 114) (v := ?_) (a' := ?_) #[true, true, true, false, true, true, true, true, false, false, false, false, false, false, false] rfl rfl (any_of HT_.out (by kernel_rfl)) (fun _ _ _ h => h) (Or.inl ⟨by rfl, ?_⟩) ?_ ?_
              rotate_left
              · intro w'
                go_simp
                with_reducible rfl
              rotate_left
              · simp only [Act.put, List.setIfInBounds_toArray, List.set_cons_zero, List.set_cons_succ, i64_w, i32_w]
                rfl
              refine pure_ (i := 9) (N := some 116) (v := ?_) (a' := ?_) #[true, true, true, false, true, true, true, true, false, true, false, false, false, false, false] rfl rfl (any_of HT_.out (by kernel_rfl)) (fun _ _ _ h => h) (Or.inl ⟨by rfl, ?_⟩) ?_ ?_
              rotate_left
              · intro w'
                go_simp
                with_reducible rfl
              rotate_left
              · simp only [Act.put, List.setIfInBounds_toArray, List.set_cons_zero, List.set_cons_succ, i64_w, i32_w]
                rfl
              refine pure_ (i := 10) (N := some 117) (v := ?_) (a' := ?_) #[true, true, true, false, true, true, true, true, false, true, true, false, false, false, false] rfl rfl (any_of HT_.out (by kernel_rfl)) (fun _ _ _ h => h) (Or.inl ⟨by rfl, ?_⟩) ?_ ?_
              rotate_left
              · intro w'
                go_simp
                with_reducible rfl
              rotate_left
              · simp only [Act.put, List.setIfInBounds_toArray, List.set_cons_zero, List.set_cons_succ, i64_w, i32_w]
                rfl
              refine take_ (i := 3) (N := some 110) (v := ?_) (a' := ?_) #[true, true, true, true, true, true, true, true, false, true, true, false, false, false, false] rfl rfl (take_ofW HT_.out HW_.out (by kernel_rfl)) (fun _ _ _ h => h) (Or.inl ⟨by rfl, ?_⟩) hHeld ?_ ?_
              rotate_left
              · rintro w' ⟨s0, s1⟩
                go_simp
                with_reducible rfl
              rotate_left
              · simp only [Act.put, List.setIfInBounds_toArray, List.set_cons_zero, List.set_cons_succ, i64_w, i32_w]
                rfl
              refine take_ (i := 8) (N := some 115) (v := ?_) (a' := ?_) #[true, true, true, true, true, true, true, true, true, true, true, false, false, false, false] rfl rfl (take_ofW HT_.out HW_.out (by kernel_rfl)) (fun _ _ _ h => h) (Or.inl ⟨by rfl, ?_⟩) hHeld ?_ ?_
              rotate_left
              · rintro w' ⟨s0, s1⟩
                go_simp
                with_reducible rfl
              rotate_left
              · simp only [Act.put, List.setIfInBounds_toArray, List.set_cons_zero, List.set_cons_succ, i64_w, i32_w]
                rfl
              refine pure_ (i := 11) (N := some 118) (v := ?_) (a' := ?_) #[true, true, true, true, true, true, true, true, true, true, true, true, false, false, false] rfl rfl (any_of HT_.out (by kernel_rfl)) (fun _ _ _ h => h) (Or.inl ⟨by rfl, ?_⟩) ?_ ?_
              rotate_left
              · intro w'
                go_simp
                with_reducible rfl
              rotate_left
              · simp only [Act.put, List.setIfInBounds_toArray, List.set_cons_zero, List.set_cons_succ, i64_w, i32_w]
                rfl
              refine last_ (i := 12) (N := none) #[true, true, true, true, true, true, true, true, true, true, true, true, true, false, false] rfl rfl (one_of HT_.out (by kernel_rfl)) (by decide) (fun K hK => ?_)
              refine skip_ (w1 := ?_) (by rfl) rfl ?_ ?_
              rotate_left
              · go_simp
                rfl
              refine hK.out _ _ ?_
              clear hK K
              refine pure_ (i := 13) (N := some 119) (v := ?_) (a' := ?_) #[true, true, true, true, true, true, true, true, true, true, true, true, true, true, false] rfl rfl (any_of HT_.out (by kernel_rfl)) (fun _ _ _ h => h) (Or.inl ⟨by rfl, ?_⟩) ?_ ?_
              rotate_left
              · intro w'
                go_simp
                with_reducible rfl
              rotate_left
              · simp only [Act.put, List.setIfInBounds_toArray, List.set_cons_zero, List.set_cons_succ, i64_w, i32_w]
                rfl
              refine last_ (i := 14) (N := none) #[true, true, true, true, true, true, true, true, true, true, true, true, true, true, true] rfl rfl (one_of HT_.out (by kernel_rfl)) (by decide) (fun K hK => ?_)
              refine skip_ (w1 := ?_) (by rfl) rfl ?_ ?_
              rotate_left
              · go_simp
                rfl
              refine hK.out _ _ ?_
              clear hK K
              refine done_ (done_of HT_.out (by kernel_rfl)) ?_
              go_wp2
              go_ret
              exact ⟨by rw [HV.out]; rfl, _, _, by rw [HFS.out, HFG.out]; exact (HPUT.out _ (below_drew1 (Below.refl _ _)) xa true).1, (HF1.out.trans HFd.out).trans (HPUT.out _ (below_drew1 (Below.refl _ _)) xa true).2⟩
            · -- op 7
              have hmm := HM0.out
              rw [hop] at z0 hmm
              have htm : tm = true := by rw [← HT.out, hop]; rfl
              subst htm
              have hval : valS sv lt s said.length = (xb || xa && bitK sv said.length) := by
                rw [HEQ2.out.1, hop]; unfold valOp
                rw [if_neg (by decide), if_neg (by decide), if_neg (by decide), if_neg (by decide), if_neg (by decide), if_pos rfl]
              have HV := Aside0.mk hval
              have hlsd : said.length < sd.length := by rw [HPS2.out, List.length_append, List.length_append, len_own, hop]; have : tS 7 = 1 := rfl; omega
              have hlgd : said.length < gd.length := by rw [← HLQ.out]; exact hlsd
              have hfs : said ++ saidS sv lt s said.length = sd.set said.length (xb || xa && bitK sv said.length) := by
                have h1 : ∀ b, ownE 7 b = [b] := fun b => rfl
                rw [HEQ2.out.2.1, HPS2.out, hval, hop, h1, h1, set_mid, List.append_assoc]; rfl
              have hfg : good ++ goodS sv lt s said.length = gd.set said.length (!(xb || xa && bitK sv said.length) || xb) := by
                have h1 : ∀ b, ownE 7 b = [b] := fun b => rfl
                rw [HEQ2.out.2.2, HPG2.out, hval, hop, h1, h1, HLG.out, set_mid, List.append_assoc]; rfl
              have HFS := Aside0.mk hfs
              have HFG := Aside0.mk hfg
              obtain ⟨g1, q1, g2, q2, rfl, rfl, hne, p1, f1, p2, f2, hput⟩ := HRd.out.putL hlsd hlgd
              have HPUT := Aside0.mk hput
              have i0 : (0 : Int) ≤ (said.length : Int) := by omega
              have i1 : (said.length : Int) < (sd.length : Int) := by omega
              have i2 : (said.length : Int) < (gd.length : Int) := by omega
              have hne2 : ¬ g2 = g1 := fun e => hne e.symm
              generalize bitK sv said.length = bk at *
              clear hval hfs hfg hput hmm
              have hr1 : ¬ rb = g1 := fun e => HRd.out.rne1 (by rw [e]; rfl)
              have hr2 : ¬ rb = g2 := fun e => HRd.out.rne2 (by rw [e]; rfl)
              go_upto_region 28 with fail
              go_cut [13] (fun v13 wx => v13 = .bool (xb || xa && bk) ∧ wx = wr)
              case first =>
                cases xb <;> cases xa <;> (
                  go_wp2
                  go_meet
                  exact ⟨by first | rfl | (cases bk <;> rfl), rfl⟩)
              case rest =>
                obtain ⟨rfl, hwc⟩ := hcut
                rw [hwc]
                clear hwc wc
                generalize (xb || xa && bk) = is at *
                cases is with
                | false =>
                  go_upto_region 29 with fail
                  refine start_ (n := 20) (S := fun w' => w'.cell? ⟨rb, 2, none⟩ = some (.slice (some ⟨g1, 0, none⟩) sd.length q1) ∧ w'.cell? ⟨rb, 3, none⟩ = some (.slice (some ⟨g2, 0, none⟩) gd.length q2)) (ds := [17, 19]) #[false, false, false, false, false, false, false, false, false, false, false, false, false, false, false, false, false, false, false, false] (by kernel_rfl) rfl rfl ⟨r2, r3⟩ (fun hHeld => ?_)
                  refine with_tabW rdr_value.tab29 rdr_value.bits29 (fun HT_ HW_ => ?_)
                  refine pure_ (i := 0) (N := some 130) (v := ?_) (a' := ?_) #[true, false, false, false, false, false, false, false, false, false, false, false, false, false, false, false, false, false, false, false] rfl rfl (any_of HT_.out (by kernel_rfl)) (fun _ _ _ h => h) (Or.inl ⟨by rfl, ?_⟩) ?_ ?_
                  rotate_left
                  · intro w'
                    go_simp
                    with_reducible rfl
                  rotate_left
                  · simp only [Act.put, List.setIfInBounds_toArray, List.set_cons_zero, List.set_cons_succ, i64_w, i32_w]
                    rfl
                  refine pure_ (i := 1) (N := some 131) (v := ?_) (a' := ?_) #[true, true, false, false, false, false, false, false, false, false, false, false, false, false, false, false, false, false, false, false] rfl rfl (any_of HT_.out (by kernel_rfl)) (fun _ _ _ h => h) (Or.inl ⟨by rfl, ?_⟩) ?_ ?_
                  rotate_left
                  · intro w'
                    go_simp
                    with_reducible rfl
                  rotate_left
                  · simp only [Act.put, List.setIfInBounds_toArray, List.set_cons_zero, List.set_cons_succ, i64_w, i32_w]
                    rfl
                  refine pure_ (i := 2) (N := some 132) (v := ?_) (a' := ?_) #[true, true, true, false, false, false, false, false, false, false, false, false, false, false, false, false, false, false, false, false] rfl rfl (any_of HT_.out (by kernel_rfl)) (fun _ _ _ h => h) (Or.inl ⟨by rfl, ?_⟩) ?_ ?_
                  rotate_left
                  · intro w'
                    go_simp
                    with_reducible rfl
                  rotate_left
                  · simp only [Act.put, List.setIfInBounds_toArray, List.set_cons_zero, List.set_cons_succ, i64_w, i32_w]
                    rfl
                  refine pure_ (i := 4) (N := some 134) (v := ?_) (a' := ?_) #[true, true, true, false, true, false, false, false, false, false, false, false, false, false, false, false, false, false, false, false] rfl rfl (any_of HT_.out (by kernel_rfl)) (fun _ _ _ h => h) (Or.inl ⟨by rfl, ?_⟩) ?_ ?_
                  rotate_left
                  · intro w'
                    go_simp
                    with_reducible rfl
                  rotate_left
                  · simp only [Act.put, List.setIfInBounds_toArray, List.set_cons_zero, List.set_cons_succ, i64_w, i32_w]
                    rfl
                  refine pure_ (i := 5) (N := some 135) (v := ?_) (a' := ?_) #[true, true, true, false, true, true, false, false, false, false, false, false, false, false, false, false, false, false, false, false] rfl rfl (any_of HT_.out (by kernel_rfl)) (fun _ _ _ h => h) (Or.inl ⟨by rfl, ?_⟩) ?_ ?_
                  rotate_left
                  · intro w'
                    go_simp
                    with_reducible rfl
                  rotate_left
                  · simp only [Act.put, List.setIfInBounds_toArray, List.set_cons_zero, List.set_cons_succ, i64_w, i32_w]
                    rfl
                  refine pure_ (i := 6) (N := some 136) (v := ?_) (a' := ?_) #[true, true, true, false, true, true, true, false, false, false, false, false, false, false, false, false, false, false, false, false] rfl rfl (any_of HT_.out (by kernel_rfl)) (fun _ _ _ h => h) (Or.inl ⟨by rfl, ?_⟩) ?_ ?_
                  rotate_left
                  · intro w'
                    go_simp
                    with_reducible rfl
                  rotate_left
                  · simp only [Act.put, List.setIfInBounds_toArray, List.set_cons_zero, List.set_cons_succ, i64_w, i32_w]
                    rfl
                  refine pure_ (i := 7) (N := some 137) (v := ?_) (a' := ?_) #[true, true, true, false, true, true, true, true, false, false, false, false, false, false, false, false, false, false, false, false] rfl rfl (any_of HT_.out (by kernel_rfl)) (fun _ _ _ h => h) (Or.inl ⟨by rfl, ?_⟩) ?_ ?_
                  rotate_left
                  · intro w'
                    go_simp
                    with_reducible rfl
                  rotate_left
                  · simp only [Act.put, List.setIfInBounds_toArray, List.set_cons_zero, List.set_cons_succ, i64_w, i32_w]
                    rfl
                  refine pure_ (i := 9) (N := some 139) (v := ?_) (a' := ?_) #[true, true, true, false, true, true, true, true, false, true, false, false, false, false, false, false, false, false, false, false] rfl rfl (any_of HT_.out (by kernel_rfl)) (fun _ _ _ h => h) (Or.inl ⟨by rfl, ?_⟩) ?_ ?_
                  rotate_left
                  · intro w'
                    go_simp
                    with_reducible rfl
                  rotate_left
                  · simp only [Act.put, List.setIfInBounds_toArray, List.set_cons_zero, List.set_cons_succ, i64_w, i32_w]
                    rfl
                  refine pure_ (i := 10) (N := some 140) (v := ?_) (a' := ?_) #[true, true, true, false, true, true, true, true, false, true, true, false, false, false, false, false, false, false, false, false] rfl rfl (any_of HT_.out (by kernel_rfl)) (fun _ _ _ h => h) (Or.inl ⟨by rfl, ?_⟩) ?_ ?_
                  rotate_left
                  · intro w'
                    go_simp
                    with_reducible rfl
                  rotate_left
                  · simp only [Act.put, List.setIfInBounds_toArray, List.set_cons_zero, List.set_cons_succ, i64_w, i32_w]
                    rfl
                  refine pure_ (i := 11) (N := some 141) (v := ?_) (a' := ?_) #[true, true, true, false, true, true, true, true, false, true, true, true, false, false, false, false, false, false, false, false] rfl rfl (any_of HT_.out (by kernel_rfl)) (fun _ _ _ h => h) (Or.inl ⟨by rfl, ?_⟩) ?_ ?_
                  rotate_left
                  · intro w'
                    go_simp
                    with_reducible rfl
                  rotate_left
                  · simp only [Act.put, List.setIfInBounds_toArray, List.set_cons_zero, List.set_cons_succ, i64_w, i32_w]
                    rfl
                  refine pure_ (i := 12) (N := some 142) (v := ?_) (a' := ?_) #[true, true, true, false, true, true, true, true, false, true, true, true, true, false, false, false, false, false, false, false] rfl rfl (any_of HT_.out (by kernel_rfl)) (fun _ _ _ h => h) (Or.inl ⟨by rfl, ?_⟩) ?_ ?_
                  rotate_left
                  · intro w'
                    go_simp
                    with_reducible rfl
                  rotate_left
                  · simp only [Act.put, List.setIfInBounds_toArray, List.set_cons_zero, List.set_cons_succ, i64_w, i32_w]
                    rfl
                  refine pure_ (i := 13) (N := some 143) (v := ?_) (a' := ?_) #[true, true, true, false, true, true, true, true, false, true, true, true, true, true, false, false, false, false, false, false] rfl rfl (any_of HT_.out (by kernel_rfl)) (fun _ _ _ h => h) (Or.inl ⟨by rfl, ?_⟩) ?_ ?_
                  rotate_left
                  · intro w'
                    go_simp
                    with_reducible rfl
                  rotate_left
                  · simp only [Act.put, List.setIfInBounds_toArray, List.set_cons_zero, List.set_cons_succ, i64_w, i32_w]
                    rfl
                  refine pure_ (i := 14) (N := some 144) (v := undef) (a' := ?_) #[true, true, true, false, true, true, true, true, false, true, true, true, true, true, true, false, false, false, false, false] rfl rfl (any_of HT_.out (by kernel_rfl)) (fun _ _ _ h => h) (Or.inr ⟨by rfl, rfl⟩) ?_ ?_
                  rotate_left
                  · simp only [Act.put, List.setIfInBounds_toArray, List.set_cons_zero, List.set_cons_succ, i64_w, i32_w]
                    rfl
                  refine pure_ (i := 15) (N := some 145) (v := ?_) (a' := ?_) #[true, true, true, false, true, true, true, true, false, true, true, true, true, true, true, true, false, false, false, false] rfl rfl (any_of HT_.out (by kernel_rfl)) (fun _ _ _ h => h) (Or.inl ⟨by rfl, ?_⟩) ?_ ?_
                  rotate_left
                  · intro w'
                    go_simp
                    with_reducible rfl
                  rotate_left
                  · simp only [Act.put, List.setIfInBounds_toArray, List.set_cons_zero, List.set_cons_succ, i64_w, i32_w]
                    rfl
                  refine take_ (i := 3) (N := some 133) (v := ?_) (a' := ?_) #[true, true, true, true, true, true, true, true, false, true, true, true, true, true, true, true, false, false, false, false] rfl rfl (take_ofW HT_.out HW_.out (by kernel_rfl)) (fun _ _ _ h => h) (Or.inl ⟨by rfl, ?_⟩) hHeld ?_ ?_
                  rotate_left
                  · rintro w' ⟨s0, s1⟩
                    go_simp
                    with_reducible rfl
                  rotate_left
                  · simp only [Act.put, List.setIfInBounds_toArray, List.set_cons_zero, List.set_cons_succ, i64_w, i32_w]
                    rfl
                  refine take_ (i := 8) (N := some 138) (v := ?_) (a' := ?_) #[true, true, true, true, true, true, true, true, true, true, true, true, true, true, true, true, false, false, false, false] rfl rfl (take_ofW HT_.out HW_.out (by kernel_rfl)) (fun _ _ _ h => h) (Or.inl ⟨by rfl, ?_⟩) hHeld ?_ ?_
                  rotate_left
                  · rintro w' ⟨s0, s1⟩
                    go_simp
                    with_reducible rfl
                  rotate_left
                  · simp only [Act.put, List.setIfInBounds_toArray, List.set_cons_zero, List.set_cons_succ, i64_w, i32_w]
                    rfl
                  refine pure_ (i := 16) (N := some 146) (v := ?_) (a' := ?_) #[true, true, true, true, true, true, true, true, true, true, true, true, true, true, true, true, true, false, false, false] rfl rfl (any_of HT_.out (by kernel_rfl)) (fun _ _ _ h => h) (Or.inl ⟨by rfl, ?_⟩) ?_ ?_
                  rotate_left
                  · intro w'
                    go_simp
                    with_reducible rfl
                  rotate_left
                  · simp only [Act.put, List.setIfInBounds_toArray, List.set_cons_zero, List.set_cons_succ, i64_w, i32_w]
                    rfl
                  refine last_ (i := 17) (N := none) #[true, true, true, true, true, true, true, true, true, true, true, true, true, true, true, true, true, true, false, false] rfl rfl (one_of HT_.out (by kernel_rfl)) (by decide) (fun K hK => ?_)
                  refine skip_ (w1 := ?_) (by rfl) rfl ?_ ?_
                  rotate_left
                  · go_simp
                    rfl
                  refine hK.out _ _ ?_
                  clear hK K
                  refine pure_ (i := 18) (N := some 147) (v := ?_) (a' := ?_) #[true, true, true, true, true, true, true, true, true, true, true, true, true, true, true, true, true, true, true, false] rfl rfl (any_of HT_.out (by kernel_rfl)) (fun _ _ _ h => h) (Or.inl ⟨by rfl, ?_⟩) ?_ ?_
                  rotate_left
                  · intro w'
                    go_simp
                    with_reducible rfl
                  rotate_left
                  · simp only [Act.put, List.setIfInBounds_toArray, List.set_cons_zero, List.set_cons_succ, i64_w, i32_w]
                    rfl
                  refine last_ (i := 19) (N := none) #[true, true, true, true, true, true, true, true, true, true, true, true, true, true, true, true, true, true, true, true] rfl rfl (one_of HT_.out (by kernel_rfl)) (by decide) (fun K hK => ?_)
                  refine skip_ (w1 := ?_) (by rfl) rfl ?_ ?_
                  rotate_left
                  · go_simp
                    rfl
                  refine hK.out _ _ ?_
                  clear hK K
                  refine done_ (done_of HT_.out (by kernel_rfl)) ?_
                  go_wp2
                  go_ret
                  exact ⟨by rw [HV.out]; rfl, _, _, by rw [HFS.out, HFG.out]; exact (HPUT.out _ (below_drew1 (Below.refl _ _)) _ _).1, (HF1.out.trans HFd.out).trans (HPUT.out _ (below_drew1 (Below.refl _ _)) _ _).2⟩
                | true =>
                  go_upto_region 29 with fail
                  refine start_ (n := 20) (S := fun w' => w'.cell? ⟨rb, 2, none⟩ = some (.slice (some ⟨g1, 0, none⟩) sd.length q1) ∧ w'.cell? ⟨rb, 3, none⟩ = some (.slice (some ⟨g2, 0, none⟩) gd.length q2)) (ds := [17, 19]) #[false, false, false, false, false, false, false, false, false, false, false, false, false, false, false, false, false, false, false, false] (by kernel_rfl) rfl rfl ⟨r2, r3⟩ (fun hHeld => ?_)
                  refine with_tabW rdr_value.tab29 rdr_value.bits29 (fun HT_ HW_ => ?_)
                  refine pure_ (i := 0) (N := some 130) (v := ?_) (a' := ?_) #[true, false, false, false, false, false, false, false, false, false, false, false, false, false, false, false, false, false, false, false] rfl rfl (any_of HT_.out (by kernel_rfl)) (fun _ _ _ h => h) (Or.inl ⟨by rfl, ?_⟩) ?_ ?_
                  rotate_left
                  · intro w'
                    go_simp
                    with_reducible rfl
                  rotate_left
                  · simp only [Act.put, List.setIfInBounds_toArray, List.set_cons_zero, List.set_cons_succ, i64_w, i32_w]
                    rfl
                  refine pure_ (i := 1) (N := some 131) (v := ?_) (a' := ?_) #[true, true, false, false, false, false, false, false, false, false, false, false, false, false, false, false, false, false, false, false] rfl rfl (any_of HT_.out (by kernel_rfl)) (fun _ _ _ h => h) (Or.inl ⟨by rfl, ?_⟩) ?_ ?_
                  rotate_left
                  · intro w'
                    go_simp
                    with_reducible rfl
                  rotate_left
                  · simp only [Act.put, List.setIfInBounds_toArray, List.set_cons_zero, List.set_cons_succ, i64_w, i32_w]
                    rfl
                  refine pure_ (i := 2) (N := some 132) (v := ?_) (a' := ?_) #[true, true, true, false, false, false, false, false, false, false, false, false, false, false, false, false, false, false, false, false] rfl rfl (any_of HT_.out (by kernel_rfl)) (fun _ _ _ h => h) (Or.inl ⟨by rfl, ?_⟩) ?_ ?_
                  rotate_left
                  · intro w'
                    go_simp
                    with_reducible rfl
                  rotate_left
                  · simp only [Act.put, List.setIfInBounds_toArray, List.set_cons_zero, List.set_cons_succ, i64_w, i32_w]
                    rfl
                  refine pure_ (i := 4) (N := some 134) (v := ?_) (a' := ?_) #[true, true, true, false, true, false, false, false, false, false, false, false, false, false, false, false, false, false, false, false] rfl rfl (any_of HT_.out (by kernel_rfl)) (fun _ _ _ h => h) (Or.inl ⟨by rfl, ?_⟩) ?_ ?_
                  rotate_left
                  · intro w'
                    go_simp
                    with_reducible rfl
                  rotate_left
                  · simp only [Act.put, List.setIfInBounds_toArray, List.set_cons_zero, List.set_cons_succ, i64_w, i32_w]
                    rfl
                  refine pure_ (i := 5) (N := some 135) (v := ?_) (a' := ?_) #[true, true, true, false, true, true, false, false, false, false, false, false, false, false, false, false, false, false, false, false] rfl rfl (any_of HT_.out (by kernel_rfl)) (fun _ _ _ h => h) (Or.inl ⟨by rfl, ?_⟩) ?_ ?_
                  rotate_left
                  · intro w'
                    go_simp
                    with_reducible rfl
                  rotate_left
                  · simp only [Act.put, List.setIfInBounds_toArray, List.set_cons_zero, List.set_cons_succ, i64_w, i32_w]
                    rfl
                  refine pure_ (i := 6) (N := some 136) (v := ?_) (a' := ?_) #[true, true, true, false, true, true, true, false, false, false, false, false, false, false, false, false, false, false, false, false] rfl rfl (any_of HT_.out (by kernel_rfl)) (fun _ _ _ h => h) (Or.inl ⟨by rfl, ?_⟩) ?_ ?_
                  rotate_left
                  · intro w'
                    go_simp
                    with_reducible rfl
                  rotate_left
                  · simp only [Act.put, List.setIfInBounds_toArray, List.set_cons_zero, List.set_cons_succ, i64_w, i32_w]
                    rfl
                  refine pure_ (i := 7) (N := some 137) (v := ?_) (a' := ?_) #[true, true, true, false, true, true, true, true, false, false, false, false, false, false, false, false, false, false, false, false] rfl rfl (any_of HT_.out (by kernel_rfl)) (fun _ _ _ h => h) (Or.inl ⟨by rfl, ?_⟩) ?_ ?_
                  rotate_left
                  · intro w'
                    go_simp
                    with_reducible rfl
                  rotate_left
                  · simp only [Act.put, List.setIfInBounds_toArray, List.set_cons_zero, List.set_cons_succ, i64_w, i32_w]
                    rfl
                  refine pure_ (i := 9) (N := some 139) (v := ?_) (a' := ?_) #[true, true, true, false, true, true, true, true, false, true, false, false, false, false, false, false, false, false, false, false] rfl rfl (any_of HT_.out (by kernel_rfl)) (fun _ _ _ h => h) (Or.inl ⟨by rfl, ?_⟩) ?_ ?_
                  rotate_left
                  · intro w'
                    go_simp
                    with_reducible rfl
                  rotate_left
                  · simp only [Act.put, List.setIfInBounds_toArray, List.set_cons_zero, List.set_cons_succ, i64_w, i32_w]
                    rfl
                  refine pure_ (i := 10) (N := some 140) (v := ?_) (a' := ?_) #[true, true, true, false, true, true, true, true, false, true, true, false, false, false, false, false, false, false, false, false] rfl rfl (any_of HT_.out (by kernel_rfl)) (fun _ _ _ h => h) (Or.inl ⟨by rfl, ?_⟩) ?_ ?_
                  rotate_left
                  · intro w'
                    go_simp
                    with_reducible rfl
                  rotate_left
                  · simp only [Act.put, List.setIfInBounds_toArray, List.set_cons_zero, List.set_cons_succ, i64_w, i32_w]
                    rfl
                  refine pure_ (i := 11) (N := some 141) (v := ?_) (a' := ?_) #[true, true, true, false, true, true, true, true, false, true, true, true, false, false, false, false, false, false, false, false] rfl rfl (any_of HT_.out (by kernel_rfl)) (fun _ _ _ h => h) (Or.inl ⟨by rfl, ?_⟩) ?_ ?_
                  rotate_left
                  · intro w'
                    go_simp
                    with_reducible rfl
                  rotate_left
                  · simp only [Act.put, List.setIfInBounds_toArray, List.set_cons_zero, List.set_cons_succ, i64_w, i32_w]
                    rfl
                  refine pure_ (i := 12) (N := some 142) (v := ?_) (a' := ?_) #[true, true, true, false, true, true, true, true, false, true, true, true, true, false, false, false, false, false, false, false] rfl rfl (any_of HT_.out (by kernel_rfl)) (fun _ _ _ h => h) (Or.inl ⟨by rfl, ?_⟩) ?_ ?_
                  rotate_left
                  · intro w'
                    go_simp
                    with_reducible rfl
                  rotate_left
                  · simp only [Act.put, List.setIfInBounds_toArray, List.set_cons_zero, List.set_cons_succ, i64_w, i32_w]
                    rfl
                  refine pure_ (i := 13) (N := some 143) (v := ?_) (a' := ?_) #[true, true, true, false, true, true, true, true, false, true, true, true, true, true, false, false, false, false, false, false] rfl rfl (any_of HT_.out (by kernel_rfl)) (fun _ _ _ h => h) (Or.inl ⟨by rfl, ?_⟩) ?_ ?_
                  rotate_left
                  · intro w'
                    go_simp
                    with_reducible rfl
                  rotate_left
                  · simp only [Act.put, List.setIfInBounds_toArray, List.set_cons_zero, List.set_cons_succ, i64_w, i32_w]
                    rfl
                  refine pure_ (i := 14) (N := some 144) (v := ?_) (a' := ?_) #[true, true, true, false, true, true, true, true, false, true, true, true, true, true, true, false, false, false, false, false] rfl rfl (any_of HT_.out (by kernel_rfl)) (fun _ _ _ h => h) (Or.inl ⟨by rfl, ?_⟩) ?_ ?_
                  rotate_left
                  · intro w'
                    go_simp
                    with_reducible rfl
                  rotate_left
                  · simp only [Act.put, List.setIfInBounds_toArray, List.set_cons_zero, List.set_cons_succ, i64_w, i32_w]
                    rfl
                  refine pure_ (i := 15) (N := some 145) (v := ?_) (a' := ?_) #[true, true, true, false, true, true, true, true, false, true, true, true, true, true, true, true, false, false, false, false] rfl rfl (any_of HT_.out (by kernel_rfl)) (fun _ _ _ h => h) (Or.inl ⟨by rfl, ?_⟩) ?_ ?_
                  rotate_left
                  · intro w'
                    go_simp
                    with_reducible rfl
                  rotate_left
                  · simp only [Act.put, List.setIfInBounds_toArray, List.set_cons_zero, List.set_cons_succ, i64_w, i32_w]
                    rfl
                  refine take_ (i := 3) (N := some 133) (v := ?_) (a' := ?_) #[true, true, true, true, true, true, true, true, false, true, true, true, true, true, true, true, false, false, false, false] rfl rfl (take_ofW HT_.out HW_.out (by kernel_rfl)) (fun _ _ _ h => h) (Or.inl ⟨by rfl, ?_⟩) hHeld ?_ ?_
                  rotate_left
                  · rintro w' ⟨s0, s1⟩
                    go_simp
                    with_reducible rfl
                  rotate_left
                  · simp only [Act.put, List.setIfInBounds_toArray, List.set_cons_zero, List.set_cons_succ, i64_w, i32_w]
                    rfl
                  refine take_ (i := 8) (N := some 138) (v := ?_) (a' := ?_) #[true, true, true, true, true, true, true, true, true, true, true, true, true, true, true, true, false, false, false, false] rfl rfl (take_ofW HT_.out HW_.out (by kernel_rfl)) (fun _ _ _ h => h) (Or.inl ⟨by rfl, ?_⟩) hHeld ?_ ?_
                  rotate_left
                  · rintro w' ⟨s0, s1⟩
                    go_simp
                    with_reducible rfl
                  rotate_left
                  · simp only [Act.put, List.setIfInBounds_toArray, List.set_cons_zero, List.set_cons_succ, i64_w, i32_w]
                    rfl
                  refine pure_ (i := 16) (N := some 146) (v := ?_) (a' := ?_) #[true, true, true, true, true, true, true, true, true, true, true, true, true, true, true, true, true, false, false, false] rfl rfl (any_of HT_.out (by kernel_rfl)) (fun _ _ _ h => h) (Or.inl ⟨by rfl, ?_⟩) ?_ ?_
                  rotate_left
                  · intro w'
                    go_simp
                    with_reducible rfl
                  rotate_left
                  · simp only [Act.put, List.setIfInBounds_toArray, List.set_cons_zero, List.set_cons_succ, i64_w, i32_w]
                    rfl
                  refine last_ (i := 17) (N := none) #[true, true, true, true, true, true, true, true, true, true, true, true, true, true, true, true, true, true, false, false] rfl rfl (one_of HT_.out (by kernel_rfl)) (by decide) (fun K hK => ?_)
                  refine skip_ (w1 := ?_) (by rfl) rfl ?_ ?_
                  rotate_left
                  · go_simp
                    rfl
                  refine hK.out _ _ ?_
                  clear hK K
                  refine pure_ (i := 18) (N := some 147) (v := ?_) (a' := ?_) #[true, true, true, true, true, true, true, true, true, true, true, true, true, true, true, true, true, true, true, false] rfl rfl (any_of HT_.out (by kernel_rfl)) (fun _ _ _ h => h) (Or.inl ⟨by rfl, ?_⟩) ?_ ?_
                  rotate_left
                  · intro w'
                    go_simp
                    with_reducible rfl
                  rotate_left
                  · simp only [Act.put, List.setIfInBounds_toArray, List.set_cons_zero, List.set_cons_succ, i64_w, i32_w]
                    rfl
                  refine last_ (i := 19) (N := none) #[true, true, true, true, true, true, true, true, true, true, true, true, true, true, true, true, true, true, true, true] rfl rfl (one_of HT_.out (by kernel_rfl)) (by decide) (fun K hK => ?_)
                  refine skip_ (w1 := ?_) (by rfl) rfl ?_ ?_
                  rotate_left
                  · go_simp
                    rfl
                  refine hK.out _ _ ?_
                  clear hK K
                  refine done_ (done_of HT_.out (by kernel_rfl)) ?_
                  go_wp2
                  go_ret
                  exact ⟨by rw [HV.out]; rfl, _, _, by rw [HFS.out, HFG.out]; exact (HPUT.out _ (below_drew1 (Below.refl _ _)) _ _).1, (HF1.out.trans HFd.out).trans (HPUT.out _ (below_drew1 (Below.refl _ _)) _ _).2⟩
            · -- op 8
              have hmm := HM0.out
              rw [hop] at z0 hmm
              have htm : tm = true := by rw [← HT.out, hop]; rfl
              subst htm
              have hval : valS sv lt s said.length = (xb && (xa || bitK sv said.length)) := by
                rw [HEQ2.out.1, hop]; unfold valOp
                rw [if_neg (by decide), if_neg (by decide), if_neg (by decide), if_neg (by decide), if_neg (by decide), if_neg (by decide), if_pos rfl]
              have HV := Aside0.mk hval
              have hlsd : said.length < sd.length := by rw [HPS2.out, List.length_append, List.length_append, len_own, hop]; have : tS 8 = 1 := rfl; omega
              have hlgd : said.length < gd.length := by rw [← HLQ.out]; exact hlsd
              have hfs : said ++ saidS sv lt s said.length = sd.set said.length (xb && (xa || bitK sv said.length)) := by
                have h1 : ∀ b, ownE 8 b = [b] := fun b => rfl
                rw [HEQ2.out.2.1, HPS2.out, hval, hop, h1, h1, set_mid, List.append_assoc]; rfl
              have hfg : good ++ goodS sv lt s said.length = gd.set said.length ((xb && (xa || bitK sv said.length)) || !xb) := by
                have h1 : ∀ b, ownE 8 b = [b] := fun b => rfl
                rw [HEQ2.out.2.2, HPG2.out, hval, hop, h1, h1, HLG.out, set_mid, List.append_assoc]; rfl
              have HFS := Aside0.mk hfs
              have HFG := Aside0.mk hfg
              obtain ⟨g1, q1, g2, q2, rfl, rfl, hne, p1, f1, p2, f2, hput⟩ := HRd.out.putL hlsd hlgd
              have HPUT := Aside0.mk hput
              have i0 : (0 : Int) ≤ (said.length : Int) := by omega
              have i1 : (said.length : Int) < (sd.length : Int) := by omega
              have i2 : (said.length : Int) < (gd.length : Int) := by omega
              have hne2 : ¬ g2 = g1 := fun e => hne e.symm
              generalize bitK sv said.length = bk at *
              clear hval hfs hfg hput hmm
              have hr1 : ¬ rb = g1 := fun e => HRd.out.rne1 (by rw [e]; rfl)
              have hr2 : ¬ rb = g2 := fun e => HRd.out.rne2 (by rw [e]; rfl)
              go_upto_region 32 with fail
              go_cut [14] (fun v13 wx => v13 = .bool (xb && (xa || bk)) ∧ wx = wr)
              case first =>
                cases xb <;> cases xa <;> (
                  go_wp2
                  go_meet
                  exact ⟨by first | rfl | (cases bk <;> rfl), rfl⟩)
              case rest =>
                obtain ⟨rfl, hwc⟩ := hcut
                rw [hwc]
                clear hwc wc
                generalize (xb && (xa || bk)) = is at *
                cases is with
                | false =>
                  go_upto_region 33 with fail
                  refine start_ (n := 20) (S := fun w' => w'.cell? ⟨rb, 2, none⟩ = some (.slice (some ⟨g1, 0, none⟩) sd.length q1) ∧ w'.cell? ⟨rb, 3, none⟩ = some (.slice (some ⟨g2, 0, none⟩) gd.length q2)) (ds := [17, 19]) #[false, false, false, false, false, false, false, false, false, false, false, false, false, false, false, false, false, false, false, false] (by kernel_rfl) rfl rfl ⟨r2, r3⟩ (fun hHeld => ?_)
                  refine with_tabW rdr_value.tab33 rdr_value.bits33 (fun HT_ HW_ => ?_)
                  refine pure_ (i := 0) (N := some 158) (v := ?_) (a' := ?_) #[true, false, false, false, false, false, false, false, false, false, false, false, false, false, false, false, false, false, false, false] rfl rfl (any_of HT_.out (by kernel_rfl)) (fun _ _ _ h => h) (Or.inl ⟨by rfl, ?_⟩) ?_ ?_
                  rotate_left
                  · intro w'
                    go_simp
                    with_reducible rfl
                  rotate_left
                  · simp only [Act.put, List.setIfInBounds_toArray, List.set_cons_zero, List.set_cons_succ, i64_w, i32_w]
                    rfl
                  refine pure_ (i := 1) (N := some 159) (v := ?_) (a' := ?_) #[true, true, false, false, false, false, false, false, false, false, false, false, false, false, false, false, false, false, false, false] rfl rfl (any_of HT_.out (by kernel_rfl)) (fun _ _ _ h => h) (Or.inl ⟨by rfl, ?_⟩) ?_ ?_
                  rotate_left
                  · intro w'
                    go_simp
                    with_reducible rfl
                  rotate_left
                  · simp only [Act.put, List.setIfInBounds_toArray, List.set_cons_zero, List.set_cons_succ, i64_w, i32_w]
                    rfl
                  refine pure_ (i := 2) (N := some 160) (v := ?_) (a' := ?_) #[true, true, true, false, false, false, false, false, false, false, false, false, false, false, false, false, false, false, false, false] rfl rfl (any_of HT_.out (by kernel_rfl)) (fun _ _ _ h => h) (Or.inl ⟨by rfl, ?_⟩) ?_ ?_
                  rotate_left
                  · intro w'
                    go_simp
                    with_reducible rfl
                  rotate_left
                  · simp only [Act.put, List.setIfInBounds_toArray, List.set_cons_zero, List.set_cons_succ, i64_w, i32_w]
                    rfl
                  refine pure_ (i := 4) (N := some 162) (v := ?_) (a' := ?_) #[true, true, true, false, true, false, false, false, false, false, false, false, false, false, false, false, false, false, false, false] rfl rfl (any_of HT_.out (by kernel_rfl)) (fun _ _ _ h => h) (Or.inl ⟨by rfl, ?_⟩) ?_ ?_
                  rotate_left
                  · intro w'
                    go_simp
                    with_reducible rfl
                  rotate_left
                  · simp only [Act.put, List.setIfInBounds_toArray, List.set_cons_zero, List.set_cons_succ, i64_w, i32_w]
                    rfl
                  refine pure_ (i := 5) (N := some 163) (v := ?_) (a' := ?_) #[true, true, true, false, true, true, false, false, false, false, false, false, false, false, false, false, false, false, false, false] rfl rfl (any_of HT_.out (by kernel_rfl)) (fun _ _ _ h => h) (Or.inl ⟨by rfl, ?_⟩) ?_ ?_
                  rotate_left
                  · intro w'
                    go_simp
                    with_reducible rfl
                  rotate_left
                  · simp only [Act.put, List.setIfInBounds_toArray, List.set_cons_zero, List.set_cons_succ, i64_w, i32_w]
                    rfl
                  refine pure_ (i := 6) (N := some 164) (v := ?_) (a' := ?_) #[true, true, true, false, true, true, true, false, false, false, false, false, false, false, false, false, false, false, false, false] rfl rfl (any_of HT_.out (by kernel_rfl)) (fun _ _ _ h => h) (Or.inl ⟨by rfl, ?_⟩) ?_ ?_
                  rotate_left
                  · intro w'
                    go_simp
                    with_reducible rfl
                  rotate_left
                  · simp only [Act.put, List.setIfInBounds_toArray, List.set_cons_zero, List.set_cons_succ, i64_w, i32_w]
                    rfl
                  refine pure_ (i := 7) (N := some 165) (v := ?_) (a' := ?_) #[true, true, true, false, true, true, true, true, false, false, false, false, false, false, false, false, false, false, false, false] rfl rfl (any_of HT_.out (by kernel_rfl)) (fun _ _ _ h => h) (Or.inl ⟨by rfl, ?_⟩) ?_ ?_
                  rotate_left
                  · intro w'
                    go_simp
                    with_reducible rfl
                  rotate_left
                  · simp only [Act.put, List.setIfInBounds_toArray, List.set_cons_zero, List.set_cons_succ, i64_w, i32_w]
                    rfl
                  refine pure_ (i := 9) (N := some 167) (v := ?_) (a' := ?_) #[true, true, true, false, true, true, true, true, false, true, false, false, false, false, false, false, false, false, false, false] rfl rfl (any_of HT_.out (by kernel_rfl)) (fun _ _ _ h => h) (Or.inl ⟨by rfl, ?_⟩) ?_ ?_
                  rotate_left
                  · intro w'
                    go_simp
                    with_reducible rfl
                  rotate_left
                  · simp only [Act.put, List.setIfInBounds_toArray, List.set_cons_zero, List.set_cons_succ, i64_w, i32_w]
                    rfl
                  refine pure_ (i := 10) (N := some 168) (v := ?_) (a' := ?_) #[true, true, true, false, true, true, true, true, false, true, true, false, false, false, false, false, false, false, false, false] rfl rfl (any_of HT_.out (by kernel_rfl)) (fun _ _ _ h => h) (Or.inl ⟨by rfl, ?_⟩) ?_ ?_
                  rotate_left
                  · intro w'
                    go_simp
                    with_reducible rfl
                  rotate_left
                  · simp only [Act.put, List.setIfInBounds_toArray, List.set_cons_zero, List.set_cons_succ, i64_w, i32_w]
                    rfl
                  refine pure_ (i := 11) (N := some 169) (v := ?_) (a' := ?_) #[true, true, true, false, true, true, true, true, false, true, true, true, false, false, false, false, false, false, false, false] rfl rfl (any_of HT_.out (by kernel_rfl)) (fun _ _ _ h => h) (Or.inl ⟨by rfl, ?_⟩) ?_ ?_
                  rotate_left
                  · intro w'
                    go_simp
                    with_reducible rfl
                  rotate_left
                  · simp only [Act.put, List.setIfInBounds_toArray, List.set_cons_zero, List.set_cons_succ, i64_w, i32_w]
                    rfl
                  refine pure_ (i := 12) (N := some 170) (v := ?_) (a' := ?_) #[true, true, true, false, true, true, true, true, false, true, true, true, true, false, false, false, false, false, false, false] rfl rfl (any_of HT_.out (by kernel_rfl)) (fun _ _ _ h => h) (Or.inl ⟨by rfl, ?_⟩) ?_ ?_
                  rotate_left
                  · intro w'
                    go_simp
                    with_reducible rfl
                  rotate_left
                  · simp only [Act.put, List.setIfInBounds_toArray, List.set_cons_zero, List.set_cons_succ, i64_w, i32_w]
                    rfl
                  refine pure_ (i := 13) (N := some 171) (v := ?_) (a' := ?_) #[true, true, true, false, true, true, true, true, false, true, true, true, true, true, false, false, false, false, false, false] rfl rfl (any_of HT_.out (by kernel_rfl)) (fun _ _ _ h => h) (Or.inl ⟨by rfl, ?_⟩) ?_ ?_
                  rotate_left
                  · intro w'
                    go_simp
                    with_reducible rfl
                  rotate_left
                  · simp only [Act.put, List.setIfInBounds_toArray, List.set_cons_zero, List.set_cons_succ, i64_w, i32_w]
                    rfl
                  refine pure_ (i := 14) (N := some 172) (v := ?_) (a' := ?_) #[true, true, true, false, true, true, true, true, false, true, true, true, true, true, true, false, false, false, false, false] rfl rfl (any_of HT_.out (by kernel_rfl)) (fun _ _ _ h => h) (Or.inl ⟨by rfl, ?_⟩) ?_ ?_
                  rotate_left
                  · intro w'
                    go_simp
                    with_reducible rfl
                  rotate_left
                  · simp only [Act.put, List.setIfInBounds_toArray, List.set_cons_zero, List.set_cons_succ, i64_w, i32_w]
                    rfl
                  refine pure_ (i := 15) (N := some 173) (v := ?_) (a' := ?_) #[true, true, true, false, true, true, true, true, false, true, true, true, true, true, true, true, false, false, false, false] rfl rfl (any_of HT_.out (by kernel_rfl)) (fun _ _ _ h => h) (Or.inl ⟨by rfl, ?_⟩) ?_ ?_
                  rotate_left
                  · intro w'
                    go_simp
                    with_reducible rfl
                  rotate_left
                  · simp only [Act.put, List.setIfInBounds_toArray, List.set_cons_zero, List.set_cons_succ, i64_w, i32_w]
                    rfl
                  refine take_ (i := 3) (N := some 161) (v := ?_) (a' := ?_) #[true, true, true, true, true, true, true, true, false, true, true, true, true, true, true, true, false, false, false, false] rfl rfl (take_ofW HT_.out HW_.out (by kernel_rfl)) (fun _ _ _ h => h) (Or.inl ⟨by rfl, ?_⟩) hHeld ?_ ?_
                  rotate_left
                  · rintro w' ⟨s0, s1⟩
                    go_simp
                    with_reducible rfl
                  rotate_left
                  · simp only [Act.put, List.setIfInBounds_toArray, List.set_cons_zero, List.set_cons_succ, i64_w, i32_w]
                    rfl
                  refine take_ (i := 8) (N := some 166) (v := ?_) (a' := ?_) #[true, true, true, true, true, true, true, true, true, true, true, true, true, true, true, true, false, false, false, false] rfl rfl (take_ofW HT_.out HW_.out (by kernel_rfl)) (fun _ _ _ h => h) (Or.inl ⟨by rfl, ?_⟩) hHeld ?_ ?_
                  rotate_left
                  · rintro w' ⟨s0, s1⟩
                    go_simp
                    with_reducible rfl
                  rotate_left
                  · simp only [Act.put, List.setIfInBounds_toArray, List.set_cons_zero, List.set_cons_succ, i64_w, i32_w]
                    rfl
                  refine pure_ (i := 16) (N := some 174) (v := ?_) (a' := ?_) #[true, true, true, true, true, true, true, true, true, true, true, true, true, true, true, true, true, false, false, false] rfl rfl (any_of HT_.out (by kernel_rfl)) (fun _ _ _ h => h) (Or.inl ⟨by rfl, ?_⟩) ?_ ?_
                  rotate_left
                  · intro w'
                    go_simp
                    with_reducible rfl
                  rotate_left
                  · simp only [Act.put, List.setIfInBounds_toArray, List.set_cons_zero, List.set_cons_succ, i64_w, i32_w]
                    rfl
                  refine last_ (i := 17) (N := none) #[true, true, true, true, true, true, true, true, true, true, true, true, true, true, true, true, true, true, false, false] rfl rfl (one_of HT_.out (by kernel_rfl)) (by decide) (fun K hK => ?_)
                  refine skip_ (w1 := ?_) (by rfl) rfl ?_ ?_
                  rotate_left
                  · go_simp
                    rfl
                  refine hK.out _ _ ?_
                  clear hK K
                  refine pure_ (i := 18) (N := some 175) (v := ?_) (a' := ?_) #[true, true, true, true, true, true, true, true, true, true, true, true, true, true, true, true, true, true, true, false] rfl rfl (any_of HT_.out (by kernel_rfl)) (fun _ _ _ h => h) (Or.inl ⟨by rfl, ?_⟩) ?_ ?_
                  rotate_left
                  · intro w'
                    go_simp
                    with_reducible rfl
                  rotate_left
                  · simp only [Act.put, List.setIfInBounds_toArray, List.set_cons_zero, List.set_cons_succ, i64_w, i32_w]
                    rfl
                  refine last_ (i := 19) (N := none) #[true, true, true, true, true, true, true, true, true, true, true, true, true, true, true, true, true, true, true, true] rfl rfl (one_of HT_.out (by kernel_rfl)) (by decide) (fun K hK => ?_)
                  refine skip_ (w1 := ?_) (by rfl) rfl ?_ ?_
                  rotate_left
                  · go_simp
                    rfl
                  refine hK.out _ _ ?_
                  clear hK K
                  refine done_ (done_of HT_.out (by kernel_rfl)) ?_
                  go_wp2
                  go_ret
                  exact ⟨by rw [HV.out]; rfl, _, _, by rw [HFS.out, HFG.out]; exact (HPUT.out _ (below_drew1 (Below.refl _ _)) _ _).1, (HF1.out.trans HFd.out).trans (HPUT.out _ (below_drew1 (Below.refl _ _)) _ _).2⟩
                | true =>
                  go_upto_region 33 with fail
                  refine start_ (n := 20) (S := fun w' => w'.cell? ⟨rb, 2, none⟩ = some (.slice (some ⟨g1, 0, none⟩) sd.length q1) ∧ w'.cell? ⟨rb, 3, none⟩ = some (.slice (some ⟨g2, 0, none⟩) gd.length q2)) (ds := [17, 19]) #[false, false, false, false, false, false, false, false, false, false, false, false, false, false, false, false, false, false, false, false] (by kernel_rfl) rfl rfl ⟨r2, r3⟩ (fun hHeld => ?_)
                  refine with_tabW rdr_value.tab33 rdr_value.bits33 (fun HT_ HW_ => ?_)
                  refine pure_ (i := 0) (N := some 158) (v := ?_) (a' := ?_) #[true, false, false, false, false, false, false, false, false, false, false, false, false, false, false, false, false, false, false, false] rfl rfl (any_of HT_.out (by kernel_rfl)) (fun _ _ _ h => h) (Or.inl ⟨by rfl, ?_⟩) ?_ ?_
                  rotate_left
                  · intro w'
                    go_simp
                    with_reducible rfl
                  rotate_left
                  · simp only [Act.put, List.setIfInBounds_toArray, List.set_cons_zero, List.set_cons_succ, i64_w, i32_w]
                    rfl
                  refine pure_ (i := 1) (N := some 159) (v := ?_) (a' := ?_) #[true, true, false, false, false, false, false, false, false, false, false, false, false, false, false, false, false, false, false, false] rfl rfl (any_of HT_.out (by kernel_rfl)) (fun _ _ _ h => h) (Or.inl ⟨by rfl, ?_⟩) ?_ ?_
                  rotate_left
                  · intro w'
                    go_simp
                    with_reducible rfl
                  rotate_left
                  · simp only [Act.put, List.setIfInBounds_toArray, List.set_cons_zero, List.set_cons_succ, i64_w, i32_w]
                    rfl
                  refine pure_ (i := 2) (N := some 160) (v := ?_) (a' := ?_) #[true, true, true, false, false, false, false, false, false, false, false, false, false, false, false, false, false, false, false, false] rfl rfl (any_of HT_.out (by kernel_rfl)) (fun _ _ _ h => h) (Or.inl ⟨by rfl, ?_⟩) ?_ ?_
                  rotate_left
                  · intro w'
                    go_simp
                    with_reducible rfl
                  rotate_left
                  · simp only [Act.put, List.setIfInBounds_toArray, List.set_cons_zero, List.set_cons_succ, i64_w, i32_w]
                    rfl
                  refine pure_ (i := 4) (N := some 162) (v := ?_) (a' := ?_) #[true, true, true, false, true, false, false, false, false, false, false, false, false, false, false, false, false, false, false, false] rfl rfl (any_of HT_.out (by kernel_rfl)) (fun _ _ _ h => h) (Or.inl ⟨by rfl, ?_⟩) ?_ ?_
                  rotate_left
                  · intro w'
                    go_simp
                    with_reducible rfl
                  rotate_left
                  · simp only [Act.put, List.setIfInBounds_toArray, List.set_cons_zero, List.set_cons_succ, i64_w, i32_w]
                    rfl
                  refine pure_ (i := 5) (N := some 163) (v := ?_) (a' := ?_) #[true, true, true, false, true, true, false, false, false, false, false, false, false, false, false, false, false, false, false, false] rfl rfl (any_of HT_.out (by kernel_rfl)) (fun _ _ _ h => h) (Or.inl ⟨by rfl, ?_⟩) ?_ ?_
                  rotate_left
                  · intro w'
                    go_simp
                    with_reducible rfl
                  rotate_left
                  · simp only [Act.put, List.setIfInBounds_toArray, List.set_cons_zero, List.set_cons_succ, i64_w, i32_w]
                    rfl
                  refine pure_ (i := 6) (N := some 164) (v := ?_) (a' := ?_) #[true, true, true, false, true, true, true, false, false, false, false, false, false, false, false, false, false, false, false, false] rfl rfl (any_of HT_.out (by kernel_rfl)) (fun _ _ _ h => h) (Or.inl ⟨by rfl, ?_⟩) ?_ ?_
                  rotate_left
                  · intro w'
                    go_simp
                    with_reducible rfl
                  rotate_left
                  · simp only [Act.put, List.setIfInBounds_toArray, List.set_cons_zero, List.set_cons_succ, i64_w, i32_w]
                    rfl
                  refine pure_ (i := 7) (N := some 165) (v := ?_) (a' := ?_) #[true, true, true, false, true, true, true, true, false, false, false, false, false, false, false, false, false, false, false, false] rfl rfl (any_of HT_.out (by kernel_rfl)) (fun _ _ _ h => h) (Or.inl ⟨by rfl, ?_⟩) ?_ ?_
                  rotate_left
                  · intro w'
                    go_simp
                    with_reducible rfl
                  rotate_left
                  · simp only [Act.put, List.setIfInBounds_toArray, List.set_cons_zero, List.set_cons_succ, i64_w, i32_w]
                    rfl
                  refine pure_ (i := 9) (N := some 167) (v := ?_) (a' := ?_) #[true, true, true, false, true, true, true, true, false, true, false, false, false, false, false, false, false, false, false, false] rfl rfl (any_of HT_.out (by kernel_rfl)) (fun _ _ _ h => h) (Or.inl ⟨by rfl, ?_⟩) ?_ ?_
                  rotate_left
                  · intro w'
                    go_simp
                    with_reducible rfl
                  rotate_left
                  · simp only [Act.put, List.setIfInBounds_toArray, List.set_cons_zero, List.set_cons_succ, i64_w, i32_w]
                    rfl
                  refine pure_ (i := 10) (N := some 168) (v := ?_) (a' := ?_) #[true, true, true, false, true, true, true, true, false, true, true, false, false, false, false, false, false, false, false, false] rfl rfl (any_of HT_.out (by kernel_rfl)) (fun _ _ _ h => h) (Or.inl ⟨by rfl, ?_⟩) ?_ ?_
                  rotate_left
                  · intro w'
                    go_simp
                    with_reducible rfl
                  rotate_left
                  · simp only [Act.put, List.setIfInBounds_toArray, List.set_cons_zero, List.set_cons_succ, i64_w, i32_w]
                    rfl
                  refine pure_ (i := 11) (N := some 169) (v := ?_) (a' := ?_) #[true, true, true, false, true, true, true, true, false, true, true, true, false, false, false, false, false, false, false, false] rfl rfl (any_of HT_.out (by kernel_rfl)) (fun _ _ _ h => h) (Or.inl ⟨by rfl, ?_⟩) ?_ ?_
                  rotate_left
                  · intro w'
                    go_simp
                    with_reducible rfl
                  rotate_left
                  · simp only [Act.put, List.setIfInBounds_toArray, List.set_cons_zero, List.set_cons_succ, i64_w, i32_w]
                    rfl
                  refine pure_ (i := 12) (N := some 170) (v := ?_) (a' := ?_) #[true, true, true, false, true, true, true, true, false, true, true, true, true, false, false, false, false, false, false, false] rfl rfl (any_of HT_.out (by kernel_rfl)) (fun _ _ _ h => h) (Or.inl ⟨by rfl, ?_⟩) ?_ ?_
                  rotate_left
                  · intro w'
                    go_simp
                    with_reducible rfl
                  rotate_left
                  · simp only [Act.put, List.setIfInBounds_toArray, List.set_cons_zero, List.set_cons_succ, i64_w, i32_w]
                    rfl
                  refine pure_ (i := 13) (N := some 171) (v := undef) (a' := ?_) #[true, true, true, false, true, true, true, true, false, true, true, true, true, true, false, false, false, false, false, false] rfl rfl (any_of HT_.out (by kernel_rfl)) (fun _ _ _ h => h) (Or.inr ⟨by rfl, rfl⟩) ?_ ?_
                  rotate_left
                  · simp only [Act.put, List.setIfInBounds_toArray, List.set_cons_zero, List.set_cons_succ, i64_w, i32_w]
                    rfl
                  refine pure_ (i := 14) (N := some 172) (v := undef) (a' := ?_) #[true, true, true, false, true, true, true, true, false, true, true, true, true, true, true, false, false, false, false, false] rfl rfl (any_of HT_.out (by kernel_rfl)) (fun _ _ _ h => h) (Or.inr ⟨by rfl, rfl⟩) ?_ ?_
                  rotate_left
                  · simp only [Act.put, List.setIfInBounds_toArray, List.set_cons_zero, List.set_cons_succ, i64_w, i32_w]
                    rfl
                  refine pure_ (i := 15) (N := some 173) (v := ?_) (a' := ?_) #[true, true, true, false, true, true, true, true, false, true, true, true, true, true, true, true, false, false, false, false] rfl rfl (any_of HT_.out (by kernel_rfl)) (fun _ _ _ h => h) (Or.inl ⟨by rfl, ?_⟩) ?_ ?_
                  rotate_left
                  · intro w'
                    go_simp
                    with_reducible rfl
                  rotate_left
                  · simp only [Act.put, List.setIfInBounds_toArray, List.set_cons_zero, List.set_cons_succ, i64_w, i32_w]
                    rfl
                  refine take_ (i := 3) (N := some 161) (v := ?_) (a' := ?_) #[true, true, true, true, true, true, true, true, false, true, true, true, true, true, true, true, false, false, false, false] rfl rfl (take_ofW HT_.out HW_.out (by kernel_rfl)) (fun _ _ _ h => h) (Or.inl ⟨by rfl, ?_⟩) hHeld ?_ ?_
                  rotate_left
                  · rintro w' ⟨s0, s1⟩
                    go_simp
                    with_reducible rfl
                  rotate_left
                  · simp only [Act.put, List.setIfInBounds_toArray, List.set_cons_zero, List.set_cons_succ, i64_w, i32_w]
                    rfl
                  refine take_ (i := 8) (N := some 166) (v := ?_) (a' := ?_) #[true, true, true, true, true, true, true, true, true, true, true, true, true, true, true, true, false, false, false, false] rfl rfl (take_ofW HT_.out HW_.out (by kernel_rfl)) (fun _ _ _ h => h) (Or.inl ⟨by rfl, ?_⟩) hHeld ?_ ?_
                  rotate_left
                  · rintro w' ⟨s0, s1⟩
                    go_simp
                    with_reducible rfl
                  rotate_left
                  · simp only [Act.put, List.setIfInBounds_toArray, List.set_cons_zero, List.set_cons_succ, i64_w, i32_w]
                    rfl
                  refine pure_ (i := 16) (N := some 174) (v := ?_) (a' := ?_) #[true, true, true, true, true, true, true, true, true, true, true, true, true, true, true, true, true, false, false, false] rfl rfl (any_of HT_.out (by kernel_rfl)) (fun _ _ _ h => h) (Or.inl ⟨by rfl, ?_⟩) ?_ ?_
                  rotate_left
                  · intro w'
                    go_simp
                    with_reducible rfl
                  rotate_left
                  · simp only [Act.put, List.setIfInBounds_toArray, List.set_cons_zero, List.set_cons_succ, i64_w, i32_w]
                    rfl
                  refine last_ (i := 17) (N := none) #[true, true, true, true, true, true, true, true, true, true, true, true, true, true, true, true, true, true, false, false] rfl rfl (one_of HT_.out (by kernel_rfl)) (by decide) (fun K hK => ?_)
                  refine skip_ (w1 := ?_) (by rfl) rfl ?_ ?_
                  rotate_left
                  · go_simp
                    rfl
                  refine hK.out _ _ ?_
                  clear hK K
                  refine pure_ (i := 18) (N := some 175) (v := ?_) (a' := ?_) #[true, true, true, true, true, true, true, true, true, true, true, true, true, true, true, true, true, true, true, false] rfl rfl (any_of HT_.out (by kernel_rfl)) (fun _ _ _ h => h) (Or.inl ⟨by rfl, ?_⟩) ?_ ?_
                  rotate_left
                  · intro w'
                    go_simp
                    with_reducible rfl
                  rotate_left
                  · simp only [Act.put, List.setIfInBounds_toArray, List.set_cons_zero, List.set_cons_succ, i64_w, i32_w]
                    rfl
                  refine last_ (i := 19) (N := none) #[true, true, true, true, true, true, true, true, true, true, true, true, true, true, true, true, true, true, true, true] rfl rfl (one_of HT_.out (by kernel_rfl)) (by decide) (fun K hK => ?_)
                  refine skip_ (w1 := ?_) (by rfl) rfl ?_ ?_
                  rotate_left
                  · go_simp
                    rfl
                  refine hK.out _ _ ?_
                  clear hK K
                  refine done_ (done_of HT_.out (by kernel_rfl)) ?_
                  go_wp2
                  go_ret
                  exact ⟨by rw [HV.out]; rfl, _, _, by rw [HFS.out, HFG.out]; exact (HPUT.out _ (below_drew1 (Below.refl _ _)) _ _).1, (HF1.out.trans HFd.out).trans (HPUT.out _ (below_drew1 (Below.refl _ _)) _ _).2⟩
end Go.Proofs.Ytegaicoddnmemaa.X

namespace Go.Proofs.Ytegaicoddnmemaa.X
open Go.RowKit Go.Proofs.YtegaicoddnmemaaW.PrintWords Go.Proofs.YtegaicoddnmemaaW.PrintMore
open Go.Proofs.Ytegaicoddnmemaa.P Go.Proofs.Ytegaicoddnmemaa.Evx
set_option linter.unusedVariables false
set_option linter.unusedSimpArgs false
mutual
/-- How many nodes. -/
def nS : S24 → Nat
  | ⟨_, _, kids⟩ => 1 + nL kids
def nL : List S24 → Nat
  | [] => 0
  | k :: r => nS k + nL r
end
mutual
/-- How deep. -/
def hS : S24 → Nat
  | ⟨_, _, kids⟩ => 1 + hL kids
def hL : List S24 → Nat
  | [] => 0
  | k :: r => max (hS k) (hL r)
end
theorem cnt_t (c : Cnt) (op : Int) : (if timedS op = true then c.t + 1 else c.t) = c.t + (tS op : Int) := by unfold tS; split <;> simp
mutual
theorem goesS_back : ∀ (s : S24) (d : Int) (c : Cnt), (goesS s d c).n ≤ 60 → (goesS s d c).deep = false → goesS s d c = ⟨c.n + nS s, c.t + tnS s, false⟩ ∧ c.deep = false ∧ d + hS s ≤ 13
  | ⟨op, m, kids⟩, d, c, h1, h2 => by
    simp only [goesS] at h1 h2 ⊢
    by_cases hd : d > 12
    · rw [if_pos hd] at h2; cases h2
    · rw [if_neg hd] at h1 h2 ⊢
      obtain ⟨e1, e2, e3⟩ := goesL_back kids (d + 1) _ h1 h2
      rw [e1]
      simp only at e2
      refine ⟨?_, e2, ?_⟩
      · simp only [nS, tnS, Cnt.mk.injEq, cnt_t]
        refine ⟨by omega, by omega, trivial⟩
      · simp only [hS]
        rcases e3 with e3 | e3
        · omega
        · subst e3; simp only [hL]; omega
theorem goesL_back : ∀ (l : List S24) (d : Int) (c : Cnt), (goesL l d c).n ≤ 60 → (goesL l d c).deep = false → goesL l d c = ⟨c.n + nL l, c.t + tnL l, false⟩ ∧ c.deep = false ∧ (d + hL l ≤ 13 ∨ l = [])
  | [], d, c, h1, h2 => by
    simp only [goesL] at h1 h2 ⊢
    refine ⟨?_, h2, .inr trivial⟩
    cases c
    simp only at h2
    subst h2
    simp [nL, tnL]
  | k :: r, d, c, h1, h2 => by
    simp only [goesL] at h1 h2 ⊢
    by_cases hc : c.n > 60
    · rw [if_pos hc] at h1; omega
    · rw [if_neg hc] at h1 h2 ⊢
      obtain ⟨e1, e2, e3⟩ := goesL_back r d _ h1 h2
      have h3 : (goesS k d c).n ≤ 60 := by rw [e1] at h1; simp only at h1; omega
      obtain ⟨f1, f2, f3⟩ := goesS_back k d c h3 e2
      rw [e1, f1]
      refine ⟨?_, f2, .inl ?_⟩
      · simp only [nL, tnL, Cnt.mk.injEq]
        refine ⟨by omega, by omega, trivial⟩
      · simp only [hL]
        rcases e3 with e3 | e3
        · omega
        · subst e3; simp only [hL]; omega
end
mutual
theorem goesS_forth : ∀ (s : S24) (d : Int) (c : Cnt), c.n + nS s ≤ 60 → d + hS s ≤ 13 → c.deep = false → goesS s d c = ⟨c.n + nS s, c.t + tnS s, false⟩
  | ⟨op, m, kids⟩, d, c, h1, h2, h3 => by
    simp only [nS, hS] at h1 h2
    simp only [goesS]
    rw [if_neg (by omega), goesL_forth kids (d + 1) ⟨c.n + 1, if timedS op = true then c.t + 1 else c.t, c.deep⟩ (by simp only; omega) (by omega) h3]
    simp only [nS, tnS, Cnt.mk.injEq, cnt_t]
    refine ⟨by omega, by omega, trivial⟩
theorem goesL_forth : ∀ (l : List S24) (d : Int) (c : Cnt), c.n + nL l ≤ 60 → d + hL l ≤ 13 → c.deep = false → goesL l d c = ⟨c.n + nL l, c.t + tnL l, false⟩
  | [], d, c, h1, h2, h3 => by
    simp only [goesL]
    cases c
    simp only at h3
    subst h3
    simp [nL, tnL]
  | k :: r, d, c, h1, h2, h3 => by
    simp only [nL, hL] at h1 h2
    simp only [goesL]
    rw [if_neg (by omega), goesS_forth k d c (by omega) (by omega) h3, goesL_forth r d _ (by simp only; omega) (by omega) rfl]
    simp only [nL, tnL, Cnt.mk.injEq]
    refine ⟨by omega, by omega, trivial⟩
end
theorem light_iff (s : S24) : lightS s = true ↔ nS s ≤ 60 ∧ hS s ≤ 12 := by
  unfold lightS
  rw [Bool.and_eq_true, decide_eq_true_eq, Bool.not_eq_true']
  constructor
  · rintro ⟨h1, h2⟩
    obtain ⟨e1, _, e3⟩ := goesS_back s 1 ⟨0, 0, false⟩ h1 h2
    unfold cntS at h1
    rw [e1] at h1
    simp only at h1
    exact ⟨by omega, by omega⟩
  · rintro ⟨h1, h2⟩
    have e := goesS_forth s 1 ⟨0, 0, false⟩ (by simp only; omega) (by omega) rfl
    unfold cntS
    rw [e]
    exact ⟨by simp only; omega, rfl⟩
theorem light_t {s : S24} (h : lightS s = true) : (cntS s).t = tnS s := by
  obtain ⟨h1, h2⟩ := (light_iff s).1 h
  unfold cntS
  rw [goesS_forth s 1 ⟨0, 0, false⟩ (by simp only; omega) (by omega) rfl]
  simp
/-- May, by counts without bounds. -/
theorem may_eq (s : S24) : mayF s = if nS s ≤ 60 ∧ hS s ≤ 12 ∧ tnS s ≤ 8 then (if soundS s = true then 0 else 1) else 7 := by
  unfold mayF
  by_cases hl : lightS s = true
  · have h1 := (light_iff s).1 hl
    have h2 := light_t hl
    by_cases ht : tnS s ≤ 8
    · rw [if_pos (show lightS s = true ∧ (cntS s).t ≤ 8 from ⟨hl, by omega⟩), if_pos (show nS s ≤ 60 ∧ hS s ≤ 12 ∧ tnS s ≤ 8 from ⟨h1.1, h1.2, ht⟩)]
    · rw [if_neg (fun h => ht (by omega)), if_neg (fun h => ht h.2.2)]
  · rw [if_neg (fun h => hl h.1), if_neg (fun h => hl ((light_iff s).2 ⟨h.1, h.2.1⟩))]
theorem may_zero {s : S24} (h : mayF s = 0) : nS s ≤ 60 ∧ hS s ≤ 12 ∧ tnS s ≤ 8 ∧ soundS s = true := by
  rw [may_eq] at h
  split at h
  · split at h
    · exact ⟨by omega, by omega, by omega, by assumption⟩
    · cases h
  · cases h
mutual
/-- The nodes that look at other moments. -/
def timesS : S24 → List S24
  | ⟨op, m, kids⟩ => (if timedS op = true then [⟨op, m, kids⟩] else []) ++ timesL kids
def timesL : List S24 → List S24
  | [] => []
  | k :: r => timesS k ++ timesL r
end
mutual
theorem len_times : ∀ s : S24, (timesS s).length = tnS s
  | ⟨op, m, kids⟩ => by
    simp only [timesS, List.length_append, len_timesL kids, tnS, tS]
    split <;> simp
theorem len_timesL : ∀ l : List S24, (timesL l).length = tnL l
  | [] => rfl
  | k :: r => by simp only [timesL, List.length_append, len_times k, len_timesL r, tnL]
end
/-- How many states. -/
def sizeS (s : S24) : Int := if mayF s = 0 then 2 ^ tnS s else 0
def stateS (s : S24) (sv : Int) : Bool := decide (0 ≤ sv ∧ sv < sizeS s)
theorem state_may {s : S24} {sv : Int} (h : stateS s sv = true) : mayF s = 0 := by
  have h1 := of_decide_eq_true h
  by_cases h2 : mayF s = 0
  · exact h2
  · unfold sizeS at h1
    rw [if_neg h2] at h1
    omega
theorem rdT_nat (l : List S24) (i : Nat) (h : i < l.length) : rd_T24 l (i : Int) = l[i]'h := by
  unfold rd_T24
  rw [Int.toNat_natCast, List.getD_eq_getElem?_getD, List.getElem?_eq_getElem h]; rfl
theorem sound_len {s : S24} (h : soundS s = true) : s.f2.length ≤ 2 := by
  obtain ⟨op, m, kids⟩ := s
  simp only [soundS, Bool.and_eq_true, decide_eq_true_eq] at h
  have := (kids_range op).2
  have := h.2.1
  show kids.length ≤ 2
  omega
theorem sound_in : ∀ {l : List S24}, soundL l = true → ∀ k ∈ l, soundS k = true
  | a :: r, h, k, hk => by
    simp only [soundL, Bool.and_eq_true] at h
    rcases List.mem_cons.1 hk with e | e
    · rw [e]; exact h.1
    · exact sound_in h.2 k e
theorem sound_kids_all {s : S24} (h : soundS s = true) : soundL s.f2 = true := by
  obtain ⟨op, m, kids⟩ := s
  simp only [soundS, Bool.and_eq_true] at h
  exact h.2.2.2.2
end Go.Proofs.Ytegaicoddnmemaa.X

namespace Go.Proofs.Ytegaicoddnmemaa.P
open Go.RowKit Go.Proofs.YtegaicoddnmemaaW.PrintWords Go.Proofs.YtegaicoddnmemaaW.PrintLast Go.Proofs.YtegaicoddnmemaaW.PrintMore
attribute [local go_sem] max2_int min2_int max_two min_two max_three min_three max_four min_four   -- for this text's walks alone
set_option linter.unusedVariables false
set_option linter.unusedSimpArgs false

mutual
def formula_copied.l0 : Nat → List (S24) → Int → Int → Int → Int → List (S24) → Option (Int × Int × (List (S24)))
  | 0, _, _, _, _, _, _ => none
  | k + 1, x12, x13, x14, x129000, x129001, x129002 => if x14 < x13 then (if 0 ≤ x14 then (if x14 < (x12.length : Int) then ((formula_copied.f k ((rd_T24 x12 x14).f0) ((rd_T24 x12 x14).f1) ((rd_T24 x12 x14).f2)).bind fun bt131 => (if x129002.length < 3518437208883 then (formula_copied.l0 k x12 x13 (wrap64 (x14 + 1)) x129000 x129001 (x129002 ++ [(⟨bt131.1, bt131.2.1, bt131.2.2⟩ : S24)])) else (none))) else (none)) else (none)) else (some (x129000, x129001, x129002))
def formula_copied.f : Nat → Int → Int → List (S24) → Option (Int × Int × (List (S24)))
  | 0, _, _, _ => none
  | k + 1, a0_0, a0_1, l0_2 => formula_copied.l0 k l0_2 (l0_2.length : Int) 0 a0_0 a0_1 ([] : List (S24))
end
theorem formula_copied.mono_l : ∀ k, (∀ y0 y1 y2, LeO (formula_copied.f k y0 y1 y2) (formula_copied.f (k + 1) y0 y1 y2)) ∧ (∀ y0 y1 y2 y3 y4 y5, LeO (formula_copied.l0 k y0 y1 y2 y3 y4 y5) (formula_copied.l0 (k + 1) y0 y1 y2 y3 y4 y5))
  | 0 => ⟨fun _ _ _ r h => by simp [formula_copied.f] at h, fun _ _ _ _ _ _ r h => by simp [formula_copied.l0] at h⟩
  | k + 1 => by
    obtain ⟨ih0, ih1⟩ := formula_copied.mono_l k
    refine ⟨?_, ?_⟩
    · intro y0 y1 y2
      unfold formula_copied.f
      repeat' first
      | (with_reducible exact ih0 _ _ _)
      | (with_reducible exact ih1 _ _ _ _ _ _)
      | (with_reducible exact LeO.refl _)
      | (with_reducible exact LeO.none _)
      | (with_reducible refine LeO.ite ?_ ?_)
      | (with_reducible refine LeO.bind ?_ (fun _ => ?_))
      | exact ih0 _ _ _
      | exact ih1 _ _ _ _ _ _
      | exact LeO.none _
      | refine LeO.ite ?_ ?_
      | refine LeO.bind ?_ (fun _ => ?_)
    · intro y0 y1 y2 y3 y4 y5
      unfold formula_copied.l0
      repeat' first
      | (with_reducible exact ih0 _ _ _)
      | (with_reducible exact ih1 _ _ _ _ _ _)
      | (with_reducible exact LeO.refl _)
      | (with_reducible exact LeO.none _)
      | (with_reducible refine LeO.ite ?_ ?_)
      | (with_reducible refine LeO.bind ?_ (fun _ => ?_))
      | exact ih0 _ _ _
      | exact ih1 _ _ _ _ _ _
      | exact LeO.none _
      | refine LeO.ite ?_ ?_
      | refine LeO.bind ?_ (fun _ => ?_)
theorem formula_copied.mono : ∀ a0 a1 a2 k, LeO (formula_copied.f k a0 a1 a2) (formula_copied.f (k + 1) a0 a1 a2) := by
  intro a0 a1 a2 k
  obtain ⟨ih0, ih1⟩ := formula_copied.mono_l k
  exact ih0 a0 a1 a2
def formula_copied.T5 : Bool × List (List Nat × List Nat) := (true, [([], []), ([0], [0]), ([], []), ([2], [2]), ([3], [3]), ([1, 4, 3], [1, 4]), ([0, 1, 2, 3, 4, 5], []), ([6, 5, 5, 0, 1, 2, 3, 4, 5], [5, 6])])
def formula_copied.B5 : List Nat := [0, 1, 0, 4, 12, 31, 63, 127]
theorem formula_copied.tab5 : rtab .any (opsOf Try.f67 5) = formula_copied.T5 := by kernel_rfl
theorem formula_copied.bits5 : waitsOk formula_copied.T5.2 formula_copied.B5 = true := by kernel_rfl
set_option maxHeartbeats 8000000 in
set_option maxRecDepth 100000 in
theorem formula_copied.calls (k : Nat) : ∀ (a0_0 : Int) (a0_1 : Int) (A0_2 : Option Addr) (c0_2 : Nat) (l0_2 : List (S24)) (r1 : Int) (r2 : Int) (r3 : List (S24)) (w : World) (hr0_2 : Kd.C k24 w A0_2 l0_2.length l0_2) (hc0_2 : l0_2.length ≤ c0_2) (h : formula_copied.f k a0_0 a0_1 l0_2 = some (r1, r2, r3)),
    Calls Try.prog 67 #[.agg #[.int .i64 a0_0, .int .i64 a0_1, .slice A0_2 l0_2.length c0_2]] w fun e w' => ∃ v2_ : Value, e = .returned (.agg #[.int .i64 r1, .int .i64 r2, v2_]) ∧ Kd.R k24 24 w' w.heap.size (fun _ => True) v2_ r3 ∧ Below w.heap.size w w' := by
  induction k using Nat.strongRecOn with
  | _ k ih =>
  intro a0_0 a0_1 A0_2 c0_2 l0_2 r1 r2 r3 w hr0_2 hc0_2 h
  cases k with
  | zero => exact absurd h (by simp [formula_copied.f])
  | succ k =>
  simp only [formula_copied.f] at h
  have hu24 := Try.underlying24
  have HR0_2 := Aside0.mk hr0_2
  have HC0_2 := Aside0.mk hc0_2
  clear hr0_2 hc0_2
  have HB := Aside0.mk (Below.refl w.heap.size w)
  have H : (formula_copied.l0 k l0_2 (l0_2.length : Int) 0 a0_0 a0_1 ([] : List (S24))) = some (r1, r2, r3) := h
  clear h
  have H' := Aside0.mk H
  clear H
  go_enter Try.func67, Try.ntmps67
  go_wp2_with (first | ((with_reducible refine gate_dst (N := 1) rfl ?_); refine box_event ?hg (N := 1) ?hd (cs := #[.int .i64 a0_0, .int .i64 a0_1, .slice A0_2 l0_2.length c0_2]) (t := 24) ?hr ?_; (case hd => rfl); (case hg => rfl); (case hr => first | (go_simp; done) | (go_simp; rfl)); intro gb126 hg w2 hbox hb; have n0_ := Aside0.mk (below_step (by repeat (first | (with_reducible first | exact HB.out | apply below_alloc | apply pw_below_drewN | apply below_drew1) | exact HB.out)) hb); have n1_ := Aside0.mk (hbox); have n2_ := Aside0.mk ((by rw [hg]; exact (below_size (by repeat (first | (with_reducible first | exact HB.out | apply below_alloc | apply pw_below_drewN | apply below_drew1) | exact HB.out))) : w.heap.size ≤ gb126)); have n3_ := Aside0.mk ((by rw [hg]; exact (below_size (by repeat (first | (with_reducible first | exact HB.out | apply below_alloc | apply pw_below_drewN | apply below_drew1) | exact HB.out))) : w.heap.size ≤ gb126)); clear HB; have HB := n0_; have BK126 := n1_; have GW126 := n2_; have GE126 := n3_; clear n0_ n1_ n2_ n3_; clear hb hbox hg) | ((with_reducible refine gate_dst (N := 2) rfl ?_); refine box_event ?hg (N := 2) ?hd (cs := #[.int .i64 0, .int .i64 0, .slice none 0 0]) (t := 24) ?hr ?_; (case hd => rfl); (case hg => rfl); (case hr => first | (go_simp; done) | (go_simp; rfl)); intro gb127 hg w3 hbox hb; have n0_ := Aside0.mk (blk_below (g := gb126) (o := .cells #[.int .i64 a0_0, .int .i64 a0_1, .slice A0_2 l0_2.length c0_2] 24 (0, 0)) (by (with_reducible repeat (first | refine blk_drewN ?_ _ | refine blk_drew ?_ | refine blk_alloc ?_ _)); exact BK126.out) hb); have n1_ := Aside0.mk (below_step (by repeat (first | (with_reducible first | exact HB.out | apply below_alloc | apply pw_below_drewN | apply below_drew1 | refine below_set ?_ GE126.out) | exact HB.out)) hb); have n2_ := Aside0.mk (hbox); have n3_ := Aside0.mk ((by rw [hg]; exact (below_size (by repeat (first | (with_reducible first | exact HB.out | apply below_alloc | apply pw_below_drewN | apply below_drew1 | refine below_set ?_ GE126.out) | exact HB.out))) : w.heap.size ≤ gb127)); have n4_ := Aside0.mk ((by rw [hg]; exact (below_size (by repeat (first | (with_reducible first | exact HB.out | apply below_alloc | apply pw_below_drewN | apply below_drew1 | refine below_set ?_ GE126.out) | exact HB.out))) : w.heap.size ≤ gb127)); have n5_ := Aside0.mk ((by rw [hg]; exact Nat.ne_of_lt (blk_lt (g := gb126) (o := .cells #[.int .i64 a0_0, .int .i64 a0_1, .slice A0_2 l0_2.length c0_2] 24 (0, 0)) (by (with_reducible repeat (first | refine blk_drewN ?_ _ | refine blk_drew ?_ | refine blk_alloc ?_ _)); exact BK126.out)) : gb126 ≠ gb127)); have n6_ := Aside0.mk ((by rw [hg]; exact Nat.ne_of_gt (blk_lt (g := gb126) (o := .cells #[.int .i64 a0_0, .int .i64 a0_1, .slice A0_2 l0_2.length c0_2] 24 (0, 0)) (by (with_reducible repeat (first | refine blk_drewN ?_ _ | refine blk_drew ?_ | refine blk_alloc ?_ _)); exact BK126.out)) : gb127 ≠ gb126)); clear BK126; clear HB; have BK126 := n0_; have HB := n1_; have BK127 := n2_; have GW127 := n3_; have GE127 := n4_; have NB126_127 := n5_; have NB127_126 := n6_; clear n0_ n1_ n2_ n3_ n4_ n5_ n6_; clear hb hbox hg; have hnb4 := NB126_127.out; have hnc4 := NB127_126.out; have hcz5_0 : w3.cell? ⟨gb126, 0, none⟩ = some (.int .i64 a0_0) := (blk_cell BK126.out 0).trans rfl; have hcz5_1 : w3.cell? ⟨gb126, 1, none⟩ = some (.int .i64 a0_1) := (blk_cell BK126.out 1).trans rfl; have hcz5_2 : w3.cell? ⟨gb126, 2, none⟩ = some (.slice A0_2 l0_2.length c0_2) := (blk_cell BK126.out 2).trans rfl; have hfz5_0 := blk_frozen BK126.out 0; have hfz5_1 := blk_frozen BK126.out 1; have hfz5_2 := blk_frozen BK126.out 2) | ((with_reducible refine gate_dst (N := 3) rfl ?_); refine box_event ?hg (N := 3) ?hd (cs := #[.int .i64 0, .int .i64 0, .slice none 0 0]) (t := 24) ?hr ?_; (case hd => rfl); (case hg => rfl); (case hr => first | (go_simp; done) | (go_simp; rfl)); intro gb128 hg w6 hbox hb; have n0_ := Aside0.mk (blk_below (g := gb126) (o := .cells #[.int .i64 a0_0, .int .i64 a0_1, .slice A0_2 l0_2.length c0_2] 24 (0, 0)) (by (with_reducible repeat (first | refine blk_drewN ?_ _ | refine blk_drew ?_ | refine blk_alloc ?_ _)); exact BK126.out) hb); have n1_ := Aside0.mk (blk_below (g := gb127) (o := .cells #[.int .i64 0, .int .i64 0, .slice none 0 0] 24 (0, 0)) (by (with_reducible repeat (first | refine blk_drewN ?_ _ | refine blk_drew ?_ | refine blk_alloc ?_ _)); exact BK127.out) hb); have n2_ := Aside0.mk (below_step (by repeat (first | (with_reducible first | exact HB.out | apply below_alloc | apply pw_below_drewN | apply below_drew1 | refine below_set ?_ GE126.out | refine below_set ?_ GE127.out) | exact HB.out)) hb); have n3_ := Aside0.mk (hbox); have n4_ := Aside0.mk ((by rw [hg]; exact (below_size (by repeat (first | (with_reducible first | exact HB.out | apply below_alloc | apply pw_below_drewN | apply below_drew1 | refine below_set ?_ GE126.out | refine below_set ?_ GE127.out) | exact HB.out))) : w.heap.size ≤ gb128)); have n5_ := Aside0.mk ((by rw [hg]; exact (below_size (by repeat (first | (with_reducible first | exact HB.out | apply below_alloc | apply pw_below_drewN | apply below_drew1 | refine below_set ?_ GE126.out | refine below_set ?_ GE127.out) | exact HB.out))) : w.heap.size ≤ gb128)); have n6_ := Aside0.mk ((by rw [hg]; exact Nat.ne_of_lt (blk_lt (g := gb126) (o := .cells #[.int .i64 a0_0, .int .i64 a0_1, .slice A0_2 l0_2.length c0_2] 24 (0, 0)) (by (with_reducible repeat (first | refine blk_drewN ?_ _ | refine blk_drew ?_ | refine blk_alloc ?_ _)); exact BK126.out)) : gb126 ≠ gb128)); have n7_ := Aside0.mk ((by rw [hg]; exact Nat.ne_of_gt (blk_lt (g := gb126) (o := .cells #[.int .i64 a0_0, .int .i64 a0_1, .slice A0_2 l0_2.length c0_2] 24 (0, 0)) (by (with_reducible repeat (first | refine blk_drewN ?_ _ | refine blk_drew ?_ | refine blk_alloc ?_ _)); exact BK126.out)) : gb128 ≠ gb126)); have n8_ := Aside0.mk ((by rw [hg]; exact Nat.ne_of_lt (blk_lt (g := gb127) (o := .cells #[.int .i64 0, .int .i64 0, .slice none 0 0] 24 (0, 0)) (by (with_reducible repeat (first | refine blk_drewN ?_ _ | refine blk_drew ?_ | refine blk_alloc ?_ _)); exact BK127.out)) : gb127 ≠ gb128)); have n9_ := Aside0.mk ((by rw [hg]; exact Nat.ne_of_gt (blk_lt (g := gb127) (o := .cells #[.int .i64 0, .int .i64 0, .slice none 0 0] 24 (0, 0)) (by (with_reducible repeat (first | refine blk_drewN ?_ _ | refine blk_drew ?_ | refine blk_alloc ?_ _)); exact BK127.out)) : gb128 ≠ gb127)); clear BK126; clear BK127; clear HB; have BK126 := n0_; have BK127 := n1_; have HB := n2_; have BK128 := n3_; have GW128 := n4_; have GE128 := n5_; have NB126_128 := n6_; have NB128_126 := n7_; have NB127_128 := n8_; have NB128_127 := n9_; clear n0_ n1_ n2_ n3_ n4_ n5_ n6_ n7_ n8_ n9_; clear hb hbox hg; have hnb7 := NB128_126.out; have hnc7 := NB126_128.out; have hnb8 := NB128_127.out; have hnc8 := NB127_128.out; have hcz9_0 : w6.cell? ⟨gb128, 0, none⟩ = some (.int .i64 0) := (blk_cell BK128.out 0).trans rfl; have hcz9_1 : w6.cell? ⟨gb128, 1, none⟩ = some (.int .i64 0) := (blk_cell BK128.out 1).trans rfl; have hcz9_2 : w6.cell? ⟨gb128, 2, none⟩ = some (.slice none 0 0) := (blk_cell BK128.out 2).trans rfl; have hfz9_0 := blk_frozen BK128.out 0; have hfz9_1 := blk_frozen BK128.out 1; have hfz9_2 := blk_frozen BK128.out 2; have hcz10_0 : w6.cell? ⟨gb126, 0, none⟩ = some (.int .i64 a0_0) := (blk_cell BK126.out 0).trans rfl; have hcz10_1 : w6.cell? ⟨gb126, 1, none⟩ = some (.int .i64 a0_1) := (blk_cell BK126.out 1).trans rfl; have hcz10_2 : w6.cell? ⟨gb126, 2, none⟩ = some (.slice A0_2 l0_2.length c0_2) := (blk_cell BK126.out 2).trans rfl; have hfz10_0 := blk_frozen BK126.out 0; have hfz10_1 := blk_frozen BK126.out 1; have hfz10_2 := blk_frozen BK126.out 2))
  go_loopg [14] k (fun kq v14 w' => ∃ (x14_1 : Int) (x129002_1 : List (S24)) (u129002 : Value), v14 = .int .i64 x14_1 ∧ Aside0 (formula_copied.l0 kq l0_2 (l0_2.length : Int) x14_1 a0_0 a0_1 x129002_1 = some (r1, r2, r3)) ∧ Aside0 (kq ≤ k) ∧ Aside0 (Kd.R k24 24 w' w.heap.size (fun k_ => k_ ≠ gb126 ∧ k_ ≠ gb127 ∧ k_ ≠ gb128) u129002 x129002_1) ∧ Aside0 (w'.heap[gb126]? = some (.cells #[.int .i64 a0_0, .int .i64 a0_1, (.slice A0_2 l0_2.length c0_2)] 24 (0, 0))) ∧ Aside0 (w'.heap[gb127]? = some (.cells #[.int .i64 0, .int .i64 0, (.slice none 0 0)] 24 (0, 0))) ∧ Aside0 (w'.heap[gb128]? = some (.cells #[.int .i64 a0_0, .int .i64 a0_1, u129002] 24 (0, 0))) ∧ Aside0 (Below w.heap.size w w'))
  case atStart => exact ⟨(0), (([] : List (S24))), (.slice none 0 0), (by first | rfl | (simp; done) | (simp [*]; done)), H', ⟨Nat.le_refl _⟩, ⟨by first | exact Kd.R_nil _ _ _ _ _ | exact Kd.N_nil _ _ _ _ _ | exact Kd.V_nil _ _ _ _ _ | exact Kd.Q_nil _ _ _ _ _ | exact Kd.S_nil _ _ _ _ _⟩, ⟨by (with_reducible repeat (first | refine blk_drewN ?_ _ | refine blk_drew ?_ | refine blk_alloc ?_ _)); refine blk_far ?_ NB126_128.out _; (with_reducible repeat (first | refine blk_drewN ?_ _ | refine blk_drew ?_ | refine blk_alloc ?_ _)); refine blk_far ?_ NB126_128.out _; (with_reducible repeat (first | refine blk_drewN ?_ _ | refine blk_drew ?_ | refine blk_alloc ?_ _)); refine blk_far ?_ NB126_128.out _; (with_reducible repeat (first | refine blk_drewN ?_ _ | refine blk_drew ?_ | refine blk_alloc ?_ _)); exact BK126.out⟩, ⟨by (with_reducible repeat (first | refine blk_drewN ?_ _ | refine blk_drew ?_ | refine blk_alloc ?_ _)); refine blk_far ?_ NB127_128.out _; (with_reducible repeat (first | refine blk_drewN ?_ _ | refine blk_drew ?_ | refine blk_alloc ?_ _)); refine blk_far ?_ NB127_128.out _; (with_reducible repeat (first | refine blk_drewN ?_ _ | refine blk_drew ?_ | refine blk_alloc ?_ _)); refine blk_far ?_ NB127_128.out _; (with_reducible repeat (first | refine blk_drewN ?_ _ | refine blk_drew ?_ | refine blk_alloc ?_ _)); exact BK127.out⟩, ⟨by (with_reducible repeat (first | refine blk_drewN ?_ _ | refine blk_drew ?_ | refine blk_alloc ?_ _)); refine blk_put (cs := #[.int .i64 a0_0, .int .i64 a0_1, .slice none 0 0]) ?_ 2 _ rfl; (with_reducible repeat (first | refine blk_drewN ?_ _ | refine blk_drew ?_ | refine blk_alloc ?_ _)); refine blk_put (cs := #[.int .i64 a0_0, .int .i64 0, .slice none 0 0]) ?_ 1 _ rfl; (with_reducible repeat (first | refine blk_drewN ?_ _ | refine blk_drew ?_ | refine blk_alloc ?_ _)); refine blk_put (cs := #[.int .i64 0, .int .i64 0, .slice none 0 0]) ?_ 0 _ rfl; (with_reducible repeat (first | refine blk_drewN ?_ _ | refine blk_drew ?_ | refine blk_alloc ?_ _)); exact BK128.out⟩, ⟨by repeat (first | (with_reducible first | exact HB.out | apply below_alloc | apply pw_below_drewN | apply below_drew1 | refine below_set ?_ GE126.out | refine below_set ?_ GE127.out | refine below_set ?_ GE128.out) | exact HB.out)⟩⟩
  case round =>
    clear H'
    try clear p2
    try clear c4
    try clear c6
    try clear c7
    try clear c8
    try clear hcz10_0
    try clear hcz10_1
    try clear hcz10_2
    try clear hcz5_0
    try clear hcz5_1
    try clear hcz5_2
    try clear hcz9_0
    try clear hcz9_1
    try clear hcz9_2
    try clear hfz10_0
    try clear hfz10_1
    try clear hfz10_2
    try clear hfz5_0
    try clear hfz5_1
    try clear hfz5_2
    try clear hfz9_0
    try clear hfz9_1
    try clear hfz9_2
    obtain ⟨x14_1, x129002_1, u129002, rfl, HA, HK1, HO_129002, BK126, BK127, BK128, HB⟩ := hrel
    cases gk with
    | zero => exact absurd HA.out (by simp [formula_copied.l0])
    | succ k1 =>
      have H := HA.out
      clear HA
      simp only [formula_copied.l0] at H
      by_cases c11 : x14_1 < (l0_2.length : Int)
      · rw [if_pos c11] at H
        have c11b0 : decide (x14_1 < (l0_2.length : Int)) = true := decide_eq_true c11
        clear c11
        by_cases c12 : 0 ≤ x14_1
        · rw [if_pos c12] at H
          have c12b0 : decide (0 ≤ x14_1) = true := decide_eq_true c12
          clear c12
          by_cases c13 : x14_1 < (l0_2.length : Int)
          · rw [if_pos c13] at H
            have c13b0 : decide (x14_1 < (l0_2.length : Int)) = true := decide_eq_true c13
            clear c13
            replace H := Option.bind_eq_some_iff.mp H
            obtain ⟨⟨t131, t132, t133⟩, A140, H⟩ := H
            replace H : (if x129002_1.length < 3518437208883 then (formula_copied.l0 k1 l0_2 (l0_2.length : Int) (wrap64 (x14_1 + 1)) a0_0 a0_1 (x129002_1 ++ [(⟨t131, t132, t133⟩ : S24)])) else (none)) = some (r1, r2, r3) := H
            have A14 := Aside0.mk A140
            clear A140
            by_cases c15 : x129002_1.length < 3518437208883
            · rw [if_pos c15] at H
              have LMc15 := Aside0.mk c15
              clear c15
              obtain ⟨y136, hy136⟩ : ∃ y_ : List (S24), y_ = (x129002_1 ++ [(⟨t131, t132, t133⟩ : S24)]) := ⟨_, rfl⟩
              replace H : (formula_copied.l0 k1 l0_2 (l0_2.length : Int) (wrap64 (x14_1 + 1)) a0_0 a0_1 y136) = some (r1, r2, r3) := by first | (rw [hy136]; with_reducible exact H) | (have H2_ := (Option.bind_some _ _).symm.trans H; rw [hy136]; with_reducible exact H2_) | (have H2_ := (Option.bind_some _ _).symm.trans H; with_reducible exact H2_) | with_reducible exact H | (rw [hy136]; exact H) | exact H
              have Ny136 := Aside0.mk hy136
              clear hy136
              have H' := Aside0.mk H
              clear H
              have p129 : 0 ≤ (x14_1 : Int) := of_decide_eq_true (by first | (with_reducible assumption) | assumption)
              have q129 : x14_1 < (l0_2.length : Int) := of_decide_eq_true (by first | (with_reducible assumption) | assumption)
              obtain ⟨ad129, A129_2, c129_2, e129, hx129_0, hx129_1, hx129_2, hl129_2, hi129_2⟩ := at_T24 HR0_2.out x14_1 p129 q129
              cases e129
              replace hx129_0 := (HB.out.cell (World.block_lt_of_cell? w _ hx129_0)).trans hx129_0
              replace hx129_1 := (HB.out.cell (World.block_lt_of_cell? w _ hx129_1)).trans hx129_1
              replace hx129_2 := (HB.out.cell (World.block_lt_of_cell? w _ hx129_2)).trans hx129_2
              have HR129_2 := Aside0.mk hi129_2
              have HC129_2 := Aside0.mk hl129_2
              clear hi129_2 hl129_2
              replace p129 := eq_true p129
              replace q129 := eq_true q129
              try go_wp2_with (first | ((with_reducible refine gate_dst (N := 5) rfl ?_); refine box_event ?hg (N := 5) ?hd (cs := #[.int .i64 0, .int .i64 0, .slice none 0 0]) (t := 24) ?hr ?_; (case hd => rfl); (case hg => rfl); (case hr => first | (go_simp; done) | (go_simp; rfl)); intro gb130 hg w16 hbox hb; have n0_ := Aside0.mk (Kd.R_below (Kd.R_elderB (by (with_reducible repeat (first | apply Kd.R_alloc | apply Kd.R_drewN | apply Kd.R_drew)); exact HO_129002.out) gb130 (Nat.le_of_eq hg.symm)) hb); have n1_ := Aside0.mk (blk_below (g := gb126) (o := .cells #[.int .i64 a0_0, .int .i64 a0_1, .slice (some ad129) l0_2.length c0_2] 24 (0, 0)) (by (with_reducible repeat (first | refine blk_drewN ?_ _ | refine blk_drew ?_ | refine blk_alloc ?_ _)); exact BK126.out) hb); have n2_ := Aside0.mk (blk_below (g := gb127) (o := .cells #[.int .i64 0, .int .i64 0, .slice none 0 0] 24 (0, 0)) (by (with_reducible repeat (first | refine blk_drewN ?_ _ | refine blk_drew ?_ | refine blk_alloc ?_ _)); exact BK127.out) hb); have n3_ := Aside0.mk (blk_below (g := gb128) (o := .cells #[.int .i64 a0_0, .int .i64 a0_1, u129002] 24 (0, 0)) (by (with_reducible repeat (first | refine blk_drewN ?_ _ | refine blk_drew ?_ | refine blk_alloc ?_ _)); exact BK128.out) hb); have n4_ := Aside0.mk (below_step (by repeat (first | (with_reducible first | exact HB.out | apply below_alloc | apply pw_below_drewN | apply below_drew1 | refine below_set ?_ GE126.out | refine below_set ?_ GE127.out | refine below_set ?_ GE128.out) | exact HB.out)) hb); have n5_ := Aside0.mk (hbox); have n6_ := Aside0.mk ((by rw [hg]; exact (below_size (by repeat (first | (with_reducible first | exact HB.out | apply below_alloc | apply pw_below_drewN | apply below_drew1 | refine below_set ?_ GE126.out | refine below_set ?_ GE127.out | refine below_set ?_ GE128.out) | exact HB.out))) : w.heap.size ≤ gb130)); have n7_ := Aside0.mk ((by rw [hg]; exact (below_size (by repeat (first | (with_reducible first | exact HB.out | apply below_alloc | apply pw_below_drewN | apply below_drew1 | refine below_set ?_ GE126.out | refine below_set ?_ GE127.out | refine below_set ?_ GE128.out) | exact HB.out))) : w.heap.size ≤ gb130)); have n8_ := Aside0.mk ((by rw [hg]; exact Nat.ne_of_lt (blk_lt (g := gb126) (o := .cells #[.int .i64 a0_0, .int .i64 a0_1, .slice (some ad129) l0_2.length c0_2] 24 (0, 0)) (by (with_reducible repeat (first | refine blk_drewN ?_ _ | refine blk_drew ?_ | refine blk_alloc ?_ _)); exact BK126.out)) : gb126 ≠ gb130)); have n9_ := Aside0.mk ((by rw [hg]; exact Nat.ne_of_gt (blk_lt (g := gb126) (o := .cells #[.int .i64 a0_0, .int .i64 a0_1, .slice (some ad129) l0_2.length c0_2] 24 (0, 0)) (by (with_reducible repeat (first | refine blk_drewN ?_ _ | refine blk_drew ?_ | refine blk_alloc ?_ _)); exact BK126.out)) : gb130 ≠ gb126)); have n10_ := Aside0.mk ((by rw [hg]; exact Nat.ne_of_lt (blk_lt (g := gb127) (o := .cells #[.int .i64 0, .int .i64 0, .slice none 0 0] 24 (0, 0)) (by (with_reducible repeat (first | refine blk_drewN ?_ _ | refine blk_drew ?_ | refine blk_alloc ?_ _)); exact BK127.out)) : gb127 ≠ gb130)); have n11_ := Aside0.mk ((by rw [hg]; exact Nat.ne_of_gt (blk_lt (g := gb127) (o := .cells #[.int .i64 0, .int .i64 0, .slice none 0 0] 24 (0, 0)) (by (with_reducible repeat (first | refine blk_drewN ?_ _ | refine blk_drew ?_ | refine blk_alloc ?_ _)); exact BK127.out)) : gb130 ≠ gb127)); have n12_ := Aside0.mk ((by rw [hg]; exact Nat.ne_of_lt (blk_lt (g := gb128) (o := .cells #[.int .i64 a0_0, .int .i64 a0_1, u129002] 24 (0, 0)) (by (with_reducible repeat (first | refine blk_drewN ?_ _ | refine blk_drew ?_ | refine blk_alloc ?_ _)); exact BK128.out)) : gb128 ≠ gb130)); have n13_ := Aside0.mk ((by rw [hg]; exact Nat.ne_of_gt (blk_lt (g := gb128) (o := .cells #[.int .i64 a0_0, .int .i64 a0_1, u129002] 24 (0, 0)) (by (with_reducible repeat (first | refine blk_drewN ?_ _ | refine blk_drew ?_ | refine blk_alloc ?_ _)); exact BK128.out)) : gb130 ≠ gb128)); clear HO_129002; clear BK126; clear BK127; clear BK128; clear HB; have HO_129002 := n0_; have BK126 := n1_; have BK127 := n2_; have BK128 := n3_; have HB := n4_; have BK130 := n5_; have GW130 := n6_; have GE130 := n7_; have NB126_130 := n8_; have NB130_126 := n9_; have NB127_130 := n10_; have NB130_127 := n11_; have NB128_130 := n12_; have NB130_128 := n13_; clear n0_ n1_ n2_ n3_ n4_ n5_ n6_ n7_ n8_ n9_ n10_ n11_ n12_ n13_; clear hb hbox hg; have hnb17 := NB130_126.out; have hnc17 := NB126_130.out; have hnb18 := NB130_127.out; have hnc18 := NB127_130.out; have hnb19 := NB130_128.out; have hnc19 := NB128_130.out; have hcz20_0 : w16.cell? ⟨gb130, 0, none⟩ = some (.int .i64 0) := (blk_cell BK130.out 0).trans rfl; have hcz20_1 : w16.cell? ⟨gb130, 1, none⟩ = some (.int .i64 0) := (blk_cell BK130.out 1).trans rfl; have hcz20_2 : w16.cell? ⟨gb130, 2, none⟩ = some (.slice none 0 0) := (blk_cell BK130.out 2).trans rfl; have hfz20_0 := blk_frozen BK130.out 0; have hfz20_1 := blk_frozen BK130.out 1; have hfz20_2 := blk_frozen BK130.out 2))
              have n0_ : Aside0 (Kd.R k24 24 (((w16.setCell ⟨gb130, 0, none⟩ (.int .i64 ((rd_T24 l0_2 x14_1).f0))).setCell ⟨gb130, 1, none⟩ (.int .i64 ((rd_T24 l0_2 x14_1).f1))).setCell ⟨gb130, 2, none⟩ (.slice A129_2 ((rd_T24 l0_2 x14_1).f2).length c129_2)) w.heap.size (fun k_ => k_ ≠ gb126 ∧ k_ ≠ gb127 ∧ k_ ≠ gb128 ∧ k_ ≠ gb130) u129002 x129002_1) := ⟨by (with_reducible repeat (first | apply Kd.R_alloc | apply Kd.R_drewN | apply Kd.R_drew)); exact Kd.R_mono (Kd.R_far (p := ⟨gb130, 2, none⟩) (Kd.R_far (p := ⟨gb130, 1, none⟩) (Kd.R_far (p := ⟨gb130, 0, none⟩) (Kd.R_mono HO_129002.out (fun k_ hk => (⟨hk, hk.2⟩ : _ ∧ k_ ≠ gb130))) (fun _ hk => hk.2) (.int .i64 ((rd_T24 l0_2 x14_1).f0))) (fun _ hk => hk.2) (.int .i64 ((rd_T24 l0_2 x14_1).f1))) (fun _ hk => hk.2) (.slice A129_2 ((rd_T24 l0_2 x14_1).f2).length c129_2)) (fun _ hk => ⟨hk.1.1.1, ⟨hk.1.1.2.1, ⟨hk.1.1.2.2, hk.1.2⟩⟩⟩)⟩
              have n1_ : Aside0 ((((w16.setCell ⟨gb130, 0, none⟩ (.int .i64 ((rd_T24 l0_2 x14_1).f0))).setCell ⟨gb130, 1, none⟩ (.int .i64 ((rd_T24 l0_2 x14_1).f1))).setCell ⟨gb130, 2, none⟩ (.slice A129_2 ((rd_T24 l0_2 x14_1).f2).length c129_2)).heap[gb126]? = some (.cells #[.int .i64 a0_0, .int .i64 a0_1, .slice (some ad129) l0_2.length c0_2] 24 (0, 0))) := ⟨by (with_reducible repeat (first | refine blk_drewN ?_ _ | refine blk_drew ?_ | refine blk_alloc ?_ _)); refine blk_far ?_ NB126_130.out _; (with_reducible repeat (first | refine blk_drewN ?_ _ | refine blk_drew ?_ | refine blk_alloc ?_ _)); refine blk_far ?_ NB126_130.out _; (with_reducible repeat (first | refine blk_drewN ?_ _ | refine blk_drew ?_ | refine blk_alloc ?_ _)); refine blk_far ?_ NB126_130.out _; (with_reducible repeat (first | refine blk_drewN ?_ _ | refine blk_drew ?_ | refine blk_alloc ?_ _)); exact BK126.out⟩
              have n2_ : Aside0 ((((w16.setCell ⟨gb130, 0, none⟩ (.int .i64 ((rd_T24 l0_2 x14_1).f0))).setCell ⟨gb130, 1, none⟩ (.int .i64 ((rd_T24 l0_2 x14_1).f1))).setCell ⟨gb130, 2, none⟩ (.slice A129_2 ((rd_T24 l0_2 x14_1).f2).length c129_2)).heap[gb127]? = some (.cells #[.int .i64 0, .int .i64 0, .slice none 0 0] 24 (0, 0))) := ⟨by (with_reducible repeat (first | refine blk_drewN ?_ _ | refine blk_drew ?_ | refine blk_alloc ?_ _)); refine blk_far ?_ NB127_130.out _; (with_reducible repeat (first | refine blk_drewN ?_ _ | refine blk_drew ?_ | refine blk_alloc ?_ _)); refine blk_far ?_ NB127_130.out _; (with_reducible repeat (first | refine blk_drewN ?_ _ | refine blk_drew ?_ | refine blk_alloc ?_ _)); refine blk_far ?_ NB127_130.out _; (with_reducible repeat (first | refine blk_drewN ?_ _ | refine blk_drew ?_ | refine blk_alloc ?_ _)); exact BK127.out⟩
              have n3_ : Aside0 ((((w16.setCell ⟨gb130, 0, none⟩ (.int .i64 ((rd_T24 l0_2 x14_1).f0))).setCell ⟨gb130, 1, none⟩ (.int .i64 ((rd_T24 l0_2 x14_1).f1))).setCell ⟨gb130, 2, none⟩ (.slice A129_2 ((rd_T24 l0_2 x14_1).f2).length c129_2)).heap[gb128]? = some (.cells #[.int .i64 a0_0, .int .i64 a0_1, u129002] 24 (0, 0))) := ⟨by (with_reducible repeat (first | refine blk_drewN ?_ _ | refine blk_drew ?_ | refine blk_alloc ?_ _)); refine blk_far ?_ NB128_130.out _; (with_reducible repeat (first | refine blk_drewN ?_ _ | refine blk_drew ?_ | refine blk_alloc ?_ _)); refine blk_far ?_ NB128_130.out _; (with_reducible repeat (first | refine blk_drewN ?_ _ | refine blk_drew ?_ | refine blk_alloc ?_ _)); refine blk_far ?_ NB128_130.out _; (with_reducible repeat (first | refine blk_drewN ?_ _ | refine blk_drew ?_ | refine blk_alloc ?_ _)); exact BK128.out⟩
              have n4_ : Aside0 ((((w16.setCell ⟨gb130, 0, none⟩ (.int .i64 ((rd_T24 l0_2 x14_1).f0))).setCell ⟨gb130, 1, none⟩ (.int .i64 ((rd_T24 l0_2 x14_1).f1))).setCell ⟨gb130, 2, none⟩ (.slice A129_2 ((rd_T24 l0_2 x14_1).f2).length c129_2)).heap[gb130]? = some (.cells #[.int .i64 ((rd_T24 l0_2 x14_1).f0), .int .i64 ((rd_T24 l0_2 x14_1).f1), .slice A129_2 ((rd_T24 l0_2 x14_1).f2).length c129_2] 24 (0, 0))) := ⟨by (with_reducible repeat (first | refine blk_drewN ?_ _ | refine blk_drew ?_ | refine blk_alloc ?_ _)); refine blk_put (cs := #[.int .i64 ((rd_T24 l0_2 x14_1).f0), .int .i64 ((rd_T24 l0_2 x14_1).f1), .slice none 0 0]) ?_ 2 _ rfl; (with_reducible repeat (first | refine blk_drewN ?_ _ | refine blk_drew ?_ | refine blk_alloc ?_ _)); refine blk_put (cs := #[.int .i64 ((rd_T24 l0_2 x14_1).f0), .int .i64 0, .slice none 0 0]) ?_ 1 _ rfl; (with_reducible repeat (first | refine blk_drewN ?_ _ | refine blk_drew ?_ | refine blk_alloc ?_ _)); refine blk_put (cs := #[.int .i64 0, .int .i64 0, .slice none 0 0]) ?_ 0 _ rfl; (with_reducible repeat (first | refine blk_drewN ?_ _ | refine blk_drew ?_ | refine blk_alloc ?_ _)); exact BK130.out⟩
              have n5_ : Aside0 (Below w.heap.size w (((w16.setCell ⟨gb130, 0, none⟩ (.int .i64 ((rd_T24 l0_2 x14_1).f0))).setCell ⟨gb130, 1, none⟩ (.int .i64 ((rd_T24 l0_2 x14_1).f1))).setCell ⟨gb130, 2, none⟩ (.slice A129_2 ((rd_T24 l0_2 x14_1).f2).length c129_2))) := ⟨by repeat (first | (with_reducible first | exact HB.out | apply below_alloc | apply pw_below_drewN | apply below_drew1 | refine below_set ?_ GE126.out | refine below_set ?_ GE127.out | refine below_set ?_ GE128.out | refine below_set ?_ GE130.out) | exact HB.out)⟩
              (try clear HO_129002)
              (try clear BK126)
              (try clear BK127)
              (try clear BK128)
              (try clear BK130)
              (try clear HB)
              generalize (((w16.setCell ⟨gb130, 0, none⟩ (.int .i64 ((rd_T24 l0_2 x14_1).f0))).setCell ⟨gb130, 1, none⟩ (.int .i64 ((rd_T24 l0_2 x14_1).f1))).setCell ⟨gb130, 2, none⟩ (.slice A129_2 ((rd_T24 l0_2 x14_1).f2).length c129_2)) = w21 at n0_ n1_ n2_ n3_ n4_ n5_ ⊢
              have HO_129002 := n0_
              have BK126 := n1_
              have BK127 := n2_
              have BK128 := n3_
              have BK130 := n4_
              have HB := n5_
              clear n0_ n1_ n2_ n3_ n4_ n5_
              have n0_ := Aside0.mk (Kd.R_drew HO_129002.out)
              have n1_ := Aside0.mk (blk_drew BK126.out)
              have n2_ := Aside0.mk (blk_drew BK127.out)
              have n3_ := Aside0.mk (blk_drew BK128.out)
              have n4_ := Aside0.mk (blk_drew BK130.out)
              have n5_ := Aside0.mk (below_drew1 HB.out)
              clear HO_129002
              clear BK126
              clear BK127
              clear BK128
              clear BK130
              clear HB
              have HO_129002 := n0_
              have BK126 := n1_
              have BK127 := n2_
              have BK128 := n3_
              have BK130 := n4_
              have HB := n5_
              clear n0_ n1_ n2_ n3_ n4_ n5_
              refine start_ (n := 8) (S := fun w' => w'.cell? ⟨gb128, 0, none⟩ = some (.int .i64 a0_0) ∧ w'.cell? ⟨gb128, 1, none⟩ = some (.int .i64 a0_1) ∧ w'.cell? ⟨gb128, 2, none⟩ = some (u129002) ∧ w'.cell? ⟨gb130, 0, none⟩ = some (.int .i64 ((rd_T24 l0_2 x14_1).f0)) ∧ w'.cell? ⟨gb130, 1, none⟩ = some (.int .i64 ((rd_T24 l0_2 x14_1).f1)) ∧ w'.cell? ⟨gb130, 2, none⟩ = some (.slice A129_2 ((rd_T24 l0_2 x14_1).f2).length c129_2)) (ds := [7]) #[false, false, false, false, false, false, false, false] (by kernel_rfl) rfl rfl ⟨(blk_cell BK128.out 0).trans rfl, (blk_cell BK128.out 1).trans rfl, (blk_cell BK128.out 2).trans rfl, (blk_cell BK130.out 0).trans rfl, (blk_cell BK130.out 1).trans rfl, (blk_cell BK130.out 2).trans rfl⟩ (fun hHeld => ?_); refine with_tabW formula_copied.tab5 formula_copied.bits5 (fun HT_ HW_ => ?_)
              generalize w21.drew = w22 at HO_129002 BK126 BK127 BK128 BK130 HB hHeld ⊢
              refine pure_ (i := 0) (N := some 18) (v := ?_) (a' := ?_) #[true, false, false, false, false, false, false, false] rfl rfl (any_of HT_.out (by kernel_rfl)) (fun _ _ _ h => h) (Or.inl ⟨by rfl, ?_⟩) ?_ ?_
              rotate_left
              · intro w'
                go_simp
                with_reducible rfl
              rotate_left
              · simp only [Act.put, List.setIfInBounds_toArray, List.set_cons_zero, List.set_cons_succ, i64_w, i32_w]
                rfl
              refine take_ (i := 1) (N := some 19) (v := ?_) (a' := ?_) #[true, true, false, false, false, false, false, false] rfl rfl (take_ofW HT_.out HW_.out (by kernel_rfl)) (fun _ _ _ h => h) (Or.inl ⟨by rfl, ?_⟩) hHeld ?_ ?_
              rotate_left
              · rintro w' ⟨s0, s1, s2, s3, s4, s5⟩
                go_simp
                with_reducible rfl
              rotate_left
              · simp only [Act.put, List.setIfInBounds_toArray, List.set_cons_zero, List.set_cons_succ, i64_w, i32_w]
                rfl
              refine take_ (i := 2) (N := some 20) (v := ?_) (a' := ?_) #[true, true, true, false, false, false, false, false] rfl rfl (take_ofW HT_.out HW_.out (by kernel_rfl)) (fun _ _ _ h => h) (Or.inl ⟨by rfl, ?_⟩) hHeld ?_ ?_
              rotate_left
              · rintro w' ⟨s0, s1, s2, s3, s4, s5⟩
                go_simp
                with_reducible rfl
              rotate_left
              · simp only [Act.put, List.setIfInBounds_toArray, List.set_cons_zero, List.set_cons_succ, i64_w, i32_w]
                rfl
              refine one_ (i := 3) (N := some 21) #[true, true, true, true, false, false, false, false] rfl rfl (one_of HT_.out (by kernel_rfl)) (by decide) (fun K hK => ?_)
              refine goes_ Try.func67 (by kernel_rfl) rfl #[.agg #[.int .i64 ((rd_T24 l0_2 x14_1).f0), .int .i64 ((rd_T24 l0_2 x14_1).f1), .slice A129_2 ((rd_T24 l0_2 x14_1).f2).length c129_2]] (by rfl) rfl rfl (by (try simp only [List.map_toArray, List.map_cons, List.map_nil]); first | done | rfl | (simp only [List.length_drop, List.length_take]; rfl)) ?_
              with_reducible refine (ih k1 (by have := HK1.out; omega) ((rd_T24 l0_2 x14_1).f0) ((rd_T24 l0_2 x14_1).f1) _ _ ((rd_T24 l0_2 x14_1).f2) t131 t132 t133 _ ?side1 ?side2 A14.out).mono ?_
              (case side1 => repeat (first | exact (Kd.C_below HR129_2.out HB.out) | (with_reducible refine Kd.C_alloc ?_ _) | (with_reducible refine Kd.C_drewN ?_ _) | (with_reducible refine Kd.C_drew ?_)))
              (case side2 => exact HC129_2.out)
              rintro e w23 ⟨v134, rfl, ho0, hb⟩
              refine ⟨_, rfl, ?_⟩
              have n0_ := Aside0.mk (Kd.R_elder' (by (with_reducible repeat (first | apply Kd.R_alloc | apply Kd.R_drewN | apply Kd.R_drew)); exact HO_129002.out) (Kd.R_base ho0) hb)
              have n1_ := Aside0.mk (Kd.R_lower (Kd.R_newB (Kd.R_newB (Kd.R_newB (Kd.R_newB (Kd.R_new' ho0 (Kd.R_lt (by (with_reducible repeat (first | apply Kd.R_alloc | apply Kd.R_drewN | apply Kd.R_drew)); exact HO_129002.out))) (g := gb126) (o := .cells #[.int .i64 a0_0, .int .i64 a0_1, .slice (some ad129) l0_2.length c0_2] 24 (0, 0)) (by (with_reducible repeat (first | refine blk_drewN ?_ _ | refine blk_drew ?_ | refine blk_alloc ?_ _)); exact BK126.out)) (g := gb127) (o := .cells #[.int .i64 0, .int .i64 0, .slice none 0 0] 24 (0, 0)) (by (with_reducible repeat (first | refine blk_drewN ?_ _ | refine blk_drew ?_ | refine blk_alloc ?_ _)); exact BK127.out)) (g := gb128) (o := .cells #[.int .i64 a0_0, .int .i64 a0_1, u129002] 24 (0, 0)) (by (with_reducible repeat (first | refine blk_drewN ?_ _ | refine blk_drew ?_ | refine blk_alloc ?_ _)); exact BK128.out)) (g := gb130) (o := .cells #[.int .i64 ((rd_T24 l0_2 x14_1).f0), .int .i64 ((rd_T24 l0_2 x14_1).f1), .slice A129_2 ((rd_T24 l0_2 x14_1).f2).length c129_2] 24 (0, 0)) (by (with_reducible repeat (first | refine blk_drewN ?_ _ | refine blk_drew ?_ | refine blk_alloc ?_ _)); exact BK130.out)) (below_size (by repeat (first | (with_reducible first | exact HB.out | apply below_alloc | apply pw_below_drewN | apply below_drew1 | refine below_set ?_ GE126.out | refine below_set ?_ GE127.out | refine below_set ?_ GE128.out | refine below_set ?_ GE130.out) | exact HB.out))))
              have n2_ := Aside0.mk (blk_below (g := gb126) (o := .cells #[.int .i64 a0_0, .int .i64 a0_1, .slice (some ad129) l0_2.length c0_2] 24 (0, 0)) (by (with_reducible repeat (first | refine blk_drewN ?_ _ | refine blk_drew ?_ | refine blk_alloc ?_ _)); exact BK126.out) hb)
              have n3_ := Aside0.mk (blk_below (g := gb127) (o := .cells #[.int .i64 0, .int .i64 0, .slice none 0 0] 24 (0, 0)) (by (with_reducible repeat (first | refine blk_drewN ?_ _ | refine blk_drew ?_ | refine blk_alloc ?_ _)); exact BK127.out) hb)
              have n4_ := Aside0.mk (blk_below (g := gb128) (o := .cells #[.int .i64 a0_0, .int .i64 a0_1, u129002] 24 (0, 0)) (by (with_reducible repeat (first | refine blk_drewN ?_ _ | refine blk_drew ?_ | refine blk_alloc ?_ _)); exact BK128.out) hb)
              have n5_ := Aside0.mk (blk_below (g := gb130) (o := .cells #[.int .i64 ((rd_T24 l0_2 x14_1).f0), .int .i64 ((rd_T24 l0_2 x14_1).f1), .slice A129_2 ((rd_T24 l0_2 x14_1).f2).length c129_2] 24 (0, 0)) (by (with_reducible repeat (first | refine blk_drewN ?_ _ | refine blk_drew ?_ | refine blk_alloc ?_ _)); exact BK130.out) hb)
              have n6_ := Aside0.mk (below_step (by repeat (first | (with_reducible first | exact HB.out | apply below_alloc | apply pw_below_drewN | apply below_drew1 | refine below_set ?_ GE126.out | refine below_set ?_ GE127.out | refine below_set ?_ GE128.out | refine below_set ?_ GE130.out) | exact HB.out)) hb)
              clear HO_129002
              clear BK126
              clear BK127
              clear BK128
              clear BK130
              clear HB
              have HO_129002 := n0_
              have HO135 := n1_
              have BK126 := n2_
              have BK127 := n3_
              have BK128 := n4_
              have BK130 := n5_
              have HB := n6_
              clear n0_ n1_ n2_ n3_ n4_ n5_ n6_
              (try clear hb)
              (try clear hb2)
              (try clear hk)
              (try clear hi)
              (try clear ho0)
              obtain ⟨Ao25, co25, eo25⟩ := Kd.R_slice HO135.out
              (first | subst eo25 | (injection eo25 with f1_ f2_ f3_; have f4_ := f1_.symm; have f5_ := f3_.symm; clear f1_ f2_ f3_; subst f4_; subst f5_))
              refine hK.out _ _ ⟨(blk_cell BK128.out 0).trans rfl, (blk_cell BK128.out 1).trans rfl, (blk_cell BK128.out 2).trans rfl, (blk_cell BK130.out 0).trans rfl, (blk_cell BK130.out 1).trans rfl, (blk_cell BK130.out 2).trans rfl⟩ (fun hHeld => ?_)
              clear hK K
              refine norm_ (a' := ?_) ?_ ?_
              rotate_left
              · show Act.put _ (some 21) _ = _
                simp only [Act.put, List.setIfInBounds_toArray, List.set_cons_zero, List.set_cons_succ, i64_w, i32_w]
                rfl
              refine one_ (i := 4) (N := some 22) #[true, true, true, true, true, false, false, false] rfl rfl (one_of HT_.out (by kernel_rfl)) (by decide) (fun K hK => ?_)
              refine value_ (w1 := ?_) (v := ?_) (by rfl) rfl ?_ ?_
              rotate_left 2
              · go_simp
                constructor
                · rfl
                · rfl
              refine hK.out _ _ ⟨(blk_cell (blk_alloc BK128.out _) 0).trans rfl, (blk_cell (blk_alloc BK128.out _) 1).trans rfl, (blk_cell (blk_alloc BK128.out _) 2).trans rfl, (blk_cell (blk_alloc BK130.out _) 0).trans rfl, (blk_cell (blk_alloc BK130.out _) 1).trans rfl, (blk_cell (blk_alloc BK130.out _) 2).trans rfl⟩ (fun hHeld => ?_)
              clear hK K
              refine norm_ (a' := ?_) ?_ ?_
              rotate_left
              · show Act.put _ (some 22) _ = _
                simp only [Act.put, List.setIfInBounds_toArray, List.set_cons_zero, List.set_cons_succ, i64_w, i32_w]
                rfl
              refine one_ (i := 5) (N := some 23) #[true, true, true, true, true, true, false, false] rfl rfl (one_of HT_.out (by kernel_rfl)) (by decide) (fun K hK => ?_)
              refine Kd.R_append_step k24 (w0 := w) w.heap.size (by rfl) (.tmp 19) (.tmp 22) 22 24 (.agg #[(.int .i64 0), (.int .i64 0), (.slice none 0 0)]) 40 rfl Try.underlying22 info24 rfl (by decide) (by omega) u129002 x129002_1 (⟨t131, t132, t133⟩ : S24) [.int .i64 t131, .int .i64 t132, .slice Ao25 t133.length co25] (fun k_ => k_ ≠ gb126 ∧ k_ ≠ gb127 ∧ k_ ≠ gb128 ∧ k_ ≠ gb130) (fun k_ => ((fun k_ => k_ ≠ gb126 ∧ k_ ≠ gb127 ∧ k_ ≠ gb128 ∧ k_ ≠ gb130)) k_ ∧ some k_ ≠ (u129002 : Value).ownBlock) rfl rfl ?aP (fun _ hk => hk) ?aF ?aO ?aB ?aS ?aL ?_
              (case aP => exact k24_mkM _ _ _ (⟨t131, t132, t133⟩ : S24) (Kd.R_mono (HO135.out) (fun k_ hk => ⟨⟨hk.1.1.1.2, ⟨hk.1.1.2, ⟨hk.1.2, hk.2⟩⟩⟩, hk.1.1.1.1.2⟩)))
              (case aB => exact (by repeat (first | (with_reducible first | exact HB.out | apply below_alloc | apply pw_below_drewN | apply below_drew1 | refine below_set ?_ GE126.out | refine below_set ?_ GE127.out | refine below_set ?_ GE128.out | refine below_set ?_ GE130.out) | exact HB.out)))
              (case aF => exact (fun k_ hk => ⟨Kd.freshB (g := gb126) (o := .cells #[.int .i64 a0_0, .int .i64 a0_1, .slice (some ad129) l0_2.length c0_2] 24 (0, 0)) (by (with_reducible repeat (first | refine blk_drewN ?_ _ | refine blk_drew ?_ | refine blk_alloc ?_ _)); exact BK126.out) k_ hk, Kd.freshB (g := gb127) (o := .cells #[.int .i64 0, .int .i64 0, .slice none 0 0] 24 (0, 0)) (by (with_reducible repeat (first | refine blk_drewN ?_ _ | refine blk_drew ?_ | refine blk_alloc ?_ _)); exact BK127.out) k_ hk, Kd.freshB (g := gb128) (o := .cells #[.int .i64 a0_0, .int .i64 a0_1, u129002] 24 (0, 0)) (by (with_reducible repeat (first | refine blk_drewN ?_ _ | refine blk_drew ?_ | refine blk_alloc ?_ _)); exact BK128.out) k_ hk, Kd.freshB (g := gb130) (o := .cells #[.int .i64 ((rd_T24 l0_2 x14_1).f0), .int .i64 ((rd_T24 l0_2 x14_1).f1), .slice A129_2 ((rd_T24 l0_2 x14_1).f2).length c129_2] 24 (0, 0)) (by (with_reducible repeat (first | refine blk_drewN ?_ _ | refine blk_drew ?_ | refine blk_alloc ?_ _)); exact BK130.out) k_ hk⟩))
              (case aO => exact (by (with_reducible repeat (first | apply Kd.R_alloc | apply Kd.R_drewN | apply Kd.R_drew)); exact Kd.R_mono HO_129002.out (fun _ hk => ⟨hk.1.1, ⟨hk.1.2.1, ⟨hk.1.2.2.1, hk.1.2.2.2⟩⟩⟩)))
              (case aS => exact (below_size (by repeat (first | (with_reducible first | exact HB.out | apply below_alloc | apply pw_below_drewN | apply below_drew1 | refine below_set ?_ GE126.out | refine below_set ?_ GE127.out | refine below_set ?_ GE128.out | refine below_set ?_ GE130.out) | exact HB.out))))
              (case aL => have := LMc15.out; omega)
              intro v137 w24 ho hb hg hat
              rw [← Ny136.out] at ho
              have n0_ := Aside0.mk (blk_grown (g := gb126) (o := .cells #[.int .i64 a0_0, .int .i64 a0_1, .slice (some ad129) l0_2.length c0_2] 24 (0, 0)) (by (with_reducible repeat (first | refine blk_drewN ?_ _ | refine blk_drew ?_ | refine blk_alloc ?_ _)); exact BK126.out) hg (Kd.R_away HO_129002.out (fun _ hk => hk.1.1)))
              have n1_ := Aside0.mk (blk_grown (g := gb127) (o := .cells #[.int .i64 0, .int .i64 0, .slice none 0 0] 24 (0, 0)) (by (with_reducible repeat (first | refine blk_drewN ?_ _ | refine blk_drew ?_ | refine blk_alloc ?_ _)); exact BK127.out) hg (Kd.R_away HO_129002.out (fun _ hk => hk.1.2.1)))
              have n2_ := Aside0.mk (blk_grown (g := gb128) (o := .cells #[.int .i64 a0_0, .int .i64 a0_1, u129002] 24 (0, 0)) (by (with_reducible repeat (first | refine blk_drewN ?_ _ | refine blk_drew ?_ | refine blk_alloc ?_ _)); exact BK128.out) hg (Kd.R_away HO_129002.out (fun _ hk => hk.1.2.2.1)))
              have n3_ := Aside0.mk (blk_grown (g := gb130) (o := .cells #[.int .i64 ((rd_T24 l0_2 x14_1).f0), .int .i64 ((rd_T24 l0_2 x14_1).f1), .slice A129_2 ((rd_T24 l0_2 x14_1).f2).length c129_2] 24 (0, 0)) (by (with_reducible repeat (first | refine blk_drewN ?_ _ | refine blk_drew ?_ | refine blk_alloc ?_ _)); exact BK130.out) hg (Kd.R_away HO_129002.out (fun _ hk => hk.1.2.2.2)))
              have n4_ := Aside0.mk (hb)
              have n5_ := Aside0.mk (ho)
              clear BK126
              clear BK127
              clear BK128
              clear BK130
              clear HB
              clear HO_129002
              clear HO135
              have BK126 := n0_
              have BK127 := n1_
              have BK128 := n2_
              have BK130 := n3_
              have HB := n4_
              have HO138 := n5_
              clear n0_ n1_ n2_ n3_ n4_ n5_
              clear ho hb hg hat
              obtain ⟨Ao26, co26, eo26⟩ := Kd.R_slice HO138.out
              (first | subst eo26 | (injection eo26 with f1_ f2_ f3_; have f4_ := f1_.symm; have f5_ := f3_.symm; clear f1_ f2_ f3_; subst f4_; subst f5_))
              refine hK.out _ _ ⟨(blk_cell BK128.out 0).trans rfl, (blk_cell BK128.out 1).trans rfl, (blk_cell BK128.out 2).trans rfl, (blk_cell BK130.out 0).trans rfl, (blk_cell BK130.out 1).trans rfl, (blk_cell BK130.out 2).trans rfl⟩ (fun hHeld => ?_)
              clear hK K
              refine norm_ (a' := ?_) ?_ ?_
              rotate_left
              · show Act.put _ (some 23) _ = _
                simp only [Act.put, List.setIfInBounds_toArray, List.set_cons_zero, List.set_cons_succ, i64_w, i32_w]
                rfl
              refine pure_ (i := 6) (N := some 24) (v := ?_) (a' := ?_) #[true, true, true, true, true, true, true, false] rfl rfl (any_of HT_.out (by kernel_rfl)) (fun _ _ _ h => h) (Or.inl ⟨by rfl, ?_⟩) ?_ ?_
              rotate_left
              · intro w'
                go_simp
                with_reducible rfl
              rotate_left
              · simp only [Act.put, List.setIfInBounds_toArray, List.set_cons_zero, List.set_cons_succ, i64_w, i32_w]
                rfl
              refine last_ (i := 7) (N := none) #[true, true, true, true, true, true, true, true] rfl rfl (one_of HT_.out (by kernel_rfl)) (by decide) (fun K hK => ?_)
              have hs27 : w24.cell? ⟨gb128, 2, none⟩ = some (u129002) := (blk_cell BK128.out 2).trans rfl
              have hfs27 := blk_frozen BK128.out 2
              have hns27_0 := NB126_128.out
              have hns27_1 := NB127_128.out
              have hns27_3 := NB130_128.out
              have hms27_0 := NB128_126.out
              have hms27_1 := NB128_127.out
              have hms27_3 := NB128_130.out
              refine skip_ (w1 := ?_) (by rfl) rfl ?_ ?_
              rotate_left
              · go_simp
                rfl
              refine hK.out _ _ ?_
              clear hK K
              refine done_ (done_of HT_.out (by kernel_rfl)) ?_
              try go_wp2
              go_roundg k1
              case measure => have := HK1.out; omega
              case rel => exact ⟨(wrap64 (x14_1 + 1)), (y136), (.slice Ao26 y136.length co26), (by first | rfl | (simp; done) | (simp [*]; done)), H', ⟨by have := HK1.out; omega⟩, ⟨by (with_reducible repeat (first | apply Kd.R_alloc | apply Kd.R_drewN | apply Kd.R_drew)); exact Kd.R_mono (Kd.R_far (p := ⟨gb128, 2, none⟩) (Kd.R_mono HO138.out (fun k_ hk => (⟨hk, hk.2.2.1⟩ : _ ∧ k_ ≠ gb128))) (fun _ hk => hk.2) (.slice Ao26 y136.length co26)) (fun _ hk => ⟨hk.1.1, ⟨hk.1.2.1, hk.1.2.2.1⟩⟩)⟩, ⟨by (with_reducible repeat (first | refine blk_drewN ?_ _ | refine blk_drew ?_ | refine blk_alloc ?_ _)); refine blk_far ?_ NB126_128.out _; (with_reducible repeat (first | refine blk_drewN ?_ _ | refine blk_drew ?_ | refine blk_alloc ?_ _)); exact BK126.out⟩, ⟨by (with_reducible repeat (first | refine blk_drewN ?_ _ | refine blk_drew ?_ | refine blk_alloc ?_ _)); refine blk_far ?_ NB127_128.out _; (with_reducible repeat (first | refine blk_drewN ?_ _ | refine blk_drew ?_ | refine blk_alloc ?_ _)); exact BK127.out⟩, ⟨by (with_reducible repeat (first | refine blk_drewN ?_ _ | refine blk_drew ?_ | refine blk_alloc ?_ _)); refine blk_put (cs := #[.int .i64 a0_0, .int .i64 a0_1, u129002]) ?_ 2 _ rfl; (with_reducible repeat (first | refine blk_drewN ?_ _ | refine blk_drew ?_ | refine blk_alloc ?_ _)); exact BK128.out⟩, ⟨by repeat (first | (with_reducible first | exact HB.out | apply below_alloc | apply pw_below_drewN | apply below_drew1 | refine below_set ?_ GE126.out | refine below_set ?_ GE127.out | refine below_set ?_ GE128.out | refine below_set ?_ GE130.out) | exact HB.out)⟩⟩
            · rw [if_neg c15] at H
              exact absurd H (by simp)
          · rw [if_neg c13] at H
            exact absurd H (by simp)
        · rw [if_neg c12] at H
          exact absurd H (by simp)
      · rw [if_neg c11] at H
        have c11b0 : decide (x14_1 < (l0_2.length : Int)) = false := decide_eq_false c11
        clear c11
        simp only [Option.some.injEq, Prod.mk.injEq] at H
        obtain ⟨rfl, rfl, rfl⟩ := H
        have hnb28 := NB128_126.out
        have hnc28 := NB126_128.out
        have hnb29 := NB128_127.out
        have hnc29 := NB127_128.out
        have hcz30_0 : wr.cell? ⟨gb128, 0, none⟩ = some (.int .i64 a0_0) := (blk_cell BK128.out 0).trans rfl
        have hcz30_1 : wr.cell? ⟨gb128, 1, none⟩ = some (.int .i64 a0_1) := (blk_cell BK128.out 1).trans rfl
        have hcz30_2 : wr.cell? ⟨gb128, 2, none⟩ = some (u129002) := (blk_cell BK128.out 2).trans rfl
        have hfz30_0 := blk_frozen BK128.out 0
        have hfz30_1 := blk_frozen BK128.out 1
        have hfz30_2 := blk_frozen BK128.out 2
        have hnb31 := NB127_126.out
        have hnc31 := NB126_127.out
        have hcz32_0 : wr.cell? ⟨gb127, 0, none⟩ = some (.int .i64 0) := (blk_cell BK127.out 0).trans rfl
        have hcz32_1 : wr.cell? ⟨gb127, 1, none⟩ = some (.int .i64 0) := (blk_cell BK127.out 1).trans rfl
        have hcz32_2 : wr.cell? ⟨gb127, 2, none⟩ = some (.slice none 0 0) := (blk_cell BK127.out 2).trans rfl
        have hfz32_0 := blk_frozen BK127.out 0
        have hfz32_1 := blk_frozen BK127.out 1
        have hfz32_2 := blk_frozen BK127.out 2
        obtain ⟨Ao33, co33, eo33⟩ := Kd.R_slice HO_129002.out
        subst eo33
        go_wp2
        refine bodyPost_ret (results_cell_row rfl _ _ gb127 24 #[.int .i64 a0_0, .int .i64 a0_1, .slice Ao33 x129002_1.length co33] (0, 0) _ rfl (by (with_reducible repeat (first | refine blk_drewN ?_ _ | refine blk_drew ?_ | refine blk_alloc ?_ _)); refine blk_put (cs := #[.int .i64 a0_0, .int .i64 a0_1, .slice none 0 0]) ?_ 2 _ rfl; (with_reducible repeat (first | refine blk_drewN ?_ _ | refine blk_drew ?_ | refine blk_alloc ?_ _)); refine blk_put (cs := #[.int .i64 a0_0, .int .i64 0, .slice none 0 0]) ?_ 1 _ rfl; (with_reducible repeat (first | refine blk_drewN ?_ _ | refine blk_drew ?_ | refine blk_alloc ?_ _)); refine blk_put (cs := #[.int .i64 0, .int .i64 0, .slice none 0 0]) ?_ 0 _ rfl; (with_reducible repeat (first | refine blk_drewN ?_ _ | refine blk_drew ?_ | refine blk_alloc ?_ _)); exact BK127.out) Try.underlying24 rfl (by kernel_rfl)) rfl ?_
        exact ⟨_, by first | rfl | (simp [errW_none, errW_some] <;> rfl) | (simp [*, errW_none, errW_some] <;> rfl), by (with_reducible repeat (first | apply Kd.R_alloc | apply Kd.R_drewN | apply Kd.R_drew)); exact Kd.R_mono (Kd.R_far (p := ⟨gb127, 2, none⟩) (Kd.R_far (p := ⟨gb127, 1, none⟩) (Kd.R_far (p := ⟨gb127, 0, none⟩) (Kd.R_mono HO_129002.out (fun k_ hk => (⟨hk, hk.2.1⟩ : _ ∧ k_ ≠ gb127))) (fun _ hk => hk.2) (.int .i64 a0_0)) (fun _ hk => hk.2) (.int .i64 a0_1)) (fun _ hk => hk.2) (.slice Ao33 x129002_1.length co33)) (fun _ hk => trivial), by repeat (first | (with_reducible first | exact HB.out | apply below_alloc | apply pw_below_drewN | apply below_drew1 | refine below_set ?_ GE126.out | refine below_set ?_ GE127.out | refine below_set ?_ GE128.out) | exact HB.out)⟩

end Go.Proofs.Ytegaicoddnmemaa.P

namespace Go.Proofs.Ytegaicoddnmemaa.P
open Go.RowKit Go.Proofs.YtegaicoddnmemaaW.PrintWords Go.Proofs.YtegaicoddnmemaaW.PrintLast Go.Proofs.YtegaicoddnmemaaW.PrintMore
attribute [local go_sem] max2_int min2_int max_two min_two max_three min_three max_four min_four   -- for this text's walks alone
set_option linter.unusedVariables false
set_option linter.unusedSimpArgs false

mutual
def formula_times.j0 : Nat → List (S24) → Int → Int → List (S24) → Option ((List (S24)))
  | 0, _, _, _, _ => none
  | k + 1, x3, x140000, x140001, x140002 => formula_times.l0 k x3 x140002 (x140002.length : Int) 0
def formula_times.l0 : Nat → List (S24) → List (S24) → Int → Int → Option ((List (S24)))
  | 0, _, _, _, _ => none
  | k + 1, x3, x15, x16, x17 => if x17 < x16 then (if 0 ≤ x17 then (if x17 < (x15.length : Int) then ((formula_times.f k ((rd_T24 x15 x17).f0) ((rd_T24 x15 x17).f1) ((rd_T24 x15 x17).f2)).bind fun t151 => (if x3.length + t151.length < 3518437208883 then (formula_times.l0 k (x3 ++ t151) x15 x16 (wrap64 (x17 + 1))) else (none))) else (none)) else (none)) else (some x3)
def formula_times.f : Nat → Int → Int → List (S24) → Option ((List (S24)))
  | 0, _, _, _ => none
  | k + 1, a0_0, a0_1, l0_2 => (formula_timed.f a0_0).bind fun t140 => (if t140 = true then ((formula_copied.f k a0_0 a0_1 l0_2).bind fun bt141 => (if ([] : List (S24)).length < 3518437208883 then (formula_times.j0 k (([] : List (S24)) ++ [(⟨bt141.1, bt141.2.1, bt141.2.2⟩ : S24)]) a0_0 a0_1 l0_2) else (none))) else (formula_times.j0 k ([] : List (S24)) a0_0 a0_1 l0_2))
end
theorem formula_times.mono_l : ∀ k, (∀ y0 y1 y2, LeO (formula_times.f k y0 y1 y2) (formula_times.f (k + 1) y0 y1 y2)) ∧ (∀ y0 y1 y2 y3, LeO (formula_times.j0 k y0 y1 y2 y3) (formula_times.j0 (k + 1) y0 y1 y2 y3)) ∧ (∀ y0 y1 y2 y3, LeO (formula_times.l0 k y0 y1 y2 y3) (formula_times.l0 (k + 1) y0 y1 y2 y3))
  | 0 => ⟨fun _ _ _ r h => by simp [formula_times.f] at h, fun _ _ _ _ r h => by simp [formula_times.j0] at h, fun _ _ _ _ r h => by simp [formula_times.l0] at h⟩
  | k + 1 => by
    obtain ⟨ih0, ih1, ih2⟩ := formula_times.mono_l k
    refine ⟨?_, ?_, ?_⟩
    · intro y0 y1 y2
      unfold formula_times.f
      repeat' first
      | (with_reducible exact ih0 _ _ _)
      | (with_reducible exact ih1 _ _ _ _)
      | (with_reducible exact ih2 _ _ _ _)
      | (with_reducible exact formula_copied.mono _ _ _ _)
      | (with_reducible exact LeO.refl _)
      | (with_reducible exact LeO.none _)
      | (with_reducible refine LeO.ite ?_ ?_)
      | (with_reducible refine LeO.bind ?_ (fun _ => ?_))
      | exact ih0 _ _ _
      | exact ih1 _ _ _ _
      | exact ih2 _ _ _ _
      | exact formula_copied.mono _ _ _ _
      | exact LeO.none _
      | refine LeO.ite ?_ ?_
      | refine LeO.bind ?_ (fun _ => ?_)
    · intro y0 y1 y2 y3
      unfold formula_times.j0
      repeat' first
      | (with_reducible exact ih0 _ _ _)
      | (with_reducible exact ih1 _ _ _ _)
      | (with_reducible exact ih2 _ _ _ _)
      | (with_reducible exact formula_copied.mono _ _ _ _)
      | (with_reducible exact LeO.refl _)
      | (with_reducible exact LeO.none _)
      | (with_reducible refine LeO.ite ?_ ?_)
      | (with_reducible refine LeO.bind ?_ (fun _ => ?_))
      | exact ih0 _ _ _
      | exact ih1 _ _ _ _
      | exact ih2 _ _ _ _
      | exact formula_copied.mono _ _ _ _
      | exact LeO.none _
      | refine LeO.ite ?_ ?_
      | refine LeO.bind ?_ (fun _ => ?_)
    · intro y0 y1 y2 y3
      unfold formula_times.l0
      repeat' first
      | (with_reducible exact ih0 _ _ _)
      | (with_reducible exact ih1 _ _ _ _)
      | (with_reducible exact ih2 _ _ _ _)
      | (with_reducible exact formula_copied.mono _ _ _ _)
      | (with_reducible exact LeO.refl _)
      | (with_reducible exact LeO.none _)
      | (with_reducible refine LeO.ite ?_ ?_)
      | (with_reducible refine LeO.bind ?_ (fun _ => ?_))
      | exact ih0 _ _ _
      | exact ih1 _ _ _ _
      | exact ih2 _ _ _ _
      | exact formula_copied.mono _ _ _ _
      | exact LeO.none _
      | refine LeO.ite ?_ ?_
      | refine LeO.bind ?_ (fun _ => ?_)
theorem formula_times.mono : ∀ a0 a1 a2 k, LeO (formula_times.f k a0 a1 a2) (formula_times.f (k + 1) a0 a1 a2) := by
  intro a0 a1 a2 k
  obtain ⟨ih0, ih1, ih2⟩ := formula_times.mono_l k
  exact ih0 a0 a1 a2
set_option maxHeartbeats 8000000 in
set_option maxRecDepth 100000 in
theorem formula_times.calls (k : Nat) : ∀ (a0_0 : Int) (a0_1 : Int) (A0_2 : Option Addr) (c0_2 : Nat) (l0_2 : List (S24)) (r : List (S24)) (w : World) (hr0_2 : Kd.C k24 w A0_2 l0_2.length l0_2) (hc0_2 : l0_2.length ≤ c0_2) (h : formula_times.f k a0_0 a0_1 l0_2 = some r),
    Calls Try.prog 43 #[.agg #[.int .i64 a0_0, .int .i64 a0_1, .slice A0_2 l0_2.length c0_2]] w fun e w' => ∃ v0_ : Value, e = .returned (v0_) ∧ Kd.N k24 24 w' w.heap.size (fun k_ => (w.heap.size ≤ k_)) v0_ r ∧ Below w.heap.size w w' := by
  induction k using Nat.strongRecOn with
  | _ k ih =>
  intro a0_0 a0_1 A0_2 c0_2 l0_2 r w hr0_2 hc0_2 h
  cases k with
  | zero => exact absurd h (by simp [formula_times.f])
  | succ k =>
  simp only [formula_times.f] at h
  have hu24 := Try.underlying24
  have HR0_2 := Aside0.mk hr0_2
  have HC0_2 := Aside0.mk hc0_2
  clear hr0_2 hc0_2
  have HB := Aside0.mk (Below.refl w.heap.size w)
  have H : ((formula_timed.f a0_0).bind fun t140 => (if t140 = true then ((formula_copied.f k a0_0 a0_1 l0_2).bind fun bt141 => (if ([] : List (S24)).length < 3518437208883 then (formula_times.j0 k (([] : List (S24)) ++ [(⟨bt141.1, bt141.2.1, bt141.2.2⟩ : S24)]) a0_0 a0_1 l0_2) else (none))) else (formula_times.j0 k ([] : List (S24)) a0_0 a0_1 l0_2))) = some r := h
  clear h
  replace H := Option.bind_eq_some_iff.mp H
  obtain ⟨t140, A20, H⟩ := H
  replace H : (if t140 = true then ((formula_copied.f k a0_0 a0_1 l0_2).bind fun bt141 => (if ([] : List (S24)).length < 3518437208883 then (formula_times.j0 k (([] : List (S24)) ++ [(⟨bt141.1, bt141.2.1, bt141.2.2⟩ : S24)]) a0_0 a0_1 l0_2) else (none))) else (formula_times.j0 k ([] : List (S24)) a0_0 a0_1 l0_2)) = some r := H
  have A2 := Aside0.mk A20
  clear A20
  have HC3 := Aside0.mk H
  clear H
  go_enter Try.func43, Try.ntmps43
  go_upto_if 8 with (first | ((with_reducible refine gate_dst (N := 1) rfl ?_); refine box_event ?hg (N := 1) ?hd (cs := #[.int .i64 a0_0, .int .i64 a0_1, .slice A0_2 l0_2.length c0_2]) (t := 24) ?hr ?_; (case hd => rfl); (case hg => rfl); (case hr => first | (go_simp; done) | (go_simp; rfl)); intro gb139 hg w4 hbox hb; have n0_ := Aside0.mk (below_step (by repeat (first | (with_reducible first | exact HB.out | apply below_alloc | apply pw_below_drewN | apply below_drew1) | exact HB.out)) hb); have n1_ := Aside0.mk (hbox); have n2_ := Aside0.mk ((by rw [hg]; exact (below_size (by repeat (first | (with_reducible first | exact HB.out | apply below_alloc | apply pw_below_drewN | apply below_drew1) | exact HB.out))) : w.heap.size ≤ gb139)); have n3_ := Aside0.mk ((by rw [hg]; exact (below_size (by repeat (first | (with_reducible first | exact HB.out | apply below_alloc | apply pw_below_drewN | apply below_drew1) | exact HB.out))) : w.heap.size ≤ gb139)); clear HB; have HB := n0_; have BK139 := n1_; have GW139 := n2_; have GE139 := n3_; clear n0_ n1_ n2_ n3_; clear hb hbox hg; have hcz5_0 : w4.cell? ⟨gb139, 0, none⟩ = some (.int .i64 a0_0) := (blk_cell BK139.out 0).trans rfl; have hcz5_1 : w4.cell? ⟨gb139, 1, none⟩ = some (.int .i64 a0_1) := (blk_cell BK139.out 1).trans rfl; have hcz5_2 : w4.cell? ⟨gb139, 2, none⟩ = some (.slice A0_2 l0_2.length c0_2) := (blk_cell BK139.out 2).trans rfl; have hfz5_0 := blk_frozen BK139.out 0; have hfz5_1 := blk_frozen BK139.out 1; have hfz5_2 := blk_frozen BK139.out 2) | ((with_reducible refine gate_callee (f := 66) rfl ?_); refine goesL_ (some 8) rfl rfl Try.func66 (by kernel_rfl) rfl #[.int .i64 a0_0] rfl (by (try simp only [List.map_toArray, List.map_cons, List.map_nil]); first | done | rfl | (simp only [List.length_drop, List.length_take]; rfl)) ?_; (with_reducible refine (formula_timed.calls a0_0 t140 _ A2.out).mono ?_); rintro e w' ⟨rfl, ⟨nd, rfl⟩⟩; refine ⟨_, rfl, ?_⟩))
  (try simp only [Act.put, List.setIfInBounds_toArray, List.set_cons_zero, List.set_cons_succ])
  go_cut [3] (fun v3 wc => ∃ (kq : Nat) (x3_2 : List (S24)), Aside0 (formula_times.j0 kq x3_2 a0_0 a0_1 l0_2 = some r) ∧ Aside0 (kq ≤ k) ∧ Aside0 (Kd.N k24 24 wc w.heap.size (fun k_ => (w.heap.size ≤ k_) ∧ k_ ≠ gb139) v3 x3_2) ∧ Aside0 (wc.heap[gb139]? = some (.cells #[.int .i64 a0_0, .int .i64 a0_1, (.slice A0_2 l0_2.length c0_2)] 24 (0, 0))) ∧ Aside0 (Below w.heap.size w wc))
  case first =>
    have H := HC3.out
    clear HC3
    by_cases c6 : t140 = true
    · subst c6
      have H1 : ((formula_copied.f k a0_0 a0_1 l0_2).bind fun bt141 => (if ([] : List (S24)).length < 3518437208883 then (formula_times.j0 k (([] : List (S24)) ++ [(⟨bt141.1, bt141.2.1, bt141.2.2⟩ : S24)]) a0_0 a0_1 l0_2) else (none))) = some r := by rw [if_pos rfl] at H; exact H
      clear H
      have H := H1
      clear H1
      replace H := Option.bind_eq_some_iff.mp H
      obtain ⟨⟨t141, t142, t143⟩, A70, H⟩ := H
      replace H : (if ([] : List (S24)).length < 3518437208883 then (formula_times.j0 k (([] : List (S24)) ++ [(⟨t141, t142, t143⟩ : S24)]) a0_0 a0_1 l0_2) else (none)) = some r := H
      have A7 := Aside0.mk A70
      clear A70
      by_cases c8 : ([] : List (S24)).length < 3518437208883
      · rw [if_pos c8] at H
        have LMc8 := Aside0.mk c8
        clear c8
        obtain ⟨y146, hy146⟩ : ∃ y_ : List (S24), y_ = (([] : List (S24)) ++ [(⟨t141, t142, t143⟩ : S24)]) := ⟨_, rfl⟩
        replace H : (formula_times.j0 k y146 a0_0 a0_1 l0_2) = some r := by first | (rw [hy146]; with_reducible exact H) | (have H2_ := (Option.bind_some _ _).symm.trans H; rw [hy146]; with_reducible exact H2_) | (have H2_ := (Option.bind_some _ _).symm.trans H; with_reducible exact H2_) | with_reducible exact H | (rw [hy146]; exact H) | exact H
        have Ny146 := Aside0.mk hy146
        clear hy146
        have H' := Aside0.mk H
        clear H
        have hcz9_0 : w4.cell? ⟨gb139, 0, none⟩ = some (.int .i64 a0_0) := (blk_cell BK139.out 0).trans rfl
        have hcz9_1 : w4.cell? ⟨gb139, 1, none⟩ = some (.int .i64 a0_1) := (blk_cell BK139.out 1).trans rfl
        have hcz9_2 : w4.cell? ⟨gb139, 2, none⟩ = some (.slice A0_2 l0_2.length c0_2) := (blk_cell BK139.out 2).trans rfl
        have hfz9_0 := blk_frozen BK139.out 0
        have hfz9_1 := blk_frozen BK139.out 1
        have hfz9_2 := blk_frozen BK139.out 2
        go_wp2_with (first | ((with_reducible refine gate_callee (f := 67) rfl ?_); refine goesL_ (some 11) rfl rfl Try.func67 (by kernel_rfl) rfl #[.agg #[.int .i64 a0_0, .int .i64 a0_1, .slice A0_2 l0_2.length c0_2]] rfl (by (try simp only [List.map_toArray, List.map_cons, List.map_nil]); first | done | rfl | (simp only [List.length_drop, List.length_take]; rfl)) ?_; (with_reducible refine (formula_copied.calls k a0_0 a0_1 _ _ l0_2 t141 t142 t143 _ ?side1 ?side2 A7.out).mono ?_); (case side1 => repeat (first | exact (Kd.C_below HR0_2.out HB.out) | (with_reducible refine Kd.C_alloc ?_ _) | (with_reducible refine Kd.C_drewN ?_ _) | (with_reducible refine Kd.C_drew ?_))); (case side2 => exact HC0_2.out); rintro e w10 ⟨v144, rfl, ho0, hb⟩; refine ⟨_, rfl, ?_⟩; have n0_ := Aside0.mk (Kd.N_lower (Kd.N_mono (ok' := fun k_ => (w.heap.size ≤ k_) ∧ k_ ≠ gb139) (Kd.R_N (Kd.R_bound ho0)) (fun k_ hk_ => ⟨(Nat.le_trans (below_size (by repeat (first | (with_reducible first | exact HB.out | apply below_alloc | apply pw_below_drewN | apply below_drew1 | refine below_set ?_ GE139.out) | exact HB.out))) hk_.2.1), (Kd.freshB (g := gb139) (o := .cells #[.int .i64 a0_0, .int .i64 a0_1, .slice A0_2 l0_2.length c0_2] 24 (0, 0)) (by (with_reducible repeat (first | refine blk_drewN ?_ _ | refine blk_drew ?_ | refine blk_alloc ?_ _)); exact BK139.out) k_ hk_.2.1)⟩)) (below_size (by repeat (first | (with_reducible first | exact HB.out | apply below_alloc | apply pw_below_drewN | apply below_drew1 | refine below_set ?_ GE139.out) | exact HB.out)))); have n1_ := Aside0.mk (blk_below (g := gb139) (o := .cells #[.int .i64 a0_0, .int .i64 a0_1, .slice A0_2 l0_2.length c0_2] 24 (0, 0)) (by (with_reducible repeat (first | refine blk_drewN ?_ _ | refine blk_drew ?_ | refine blk_alloc ?_ _)); exact BK139.out) hb); have n2_ := Aside0.mk (below_step (by repeat (first | (with_reducible first | exact HB.out | apply below_alloc | apply pw_below_drewN | apply below_drew1 | refine below_set ?_ GE139.out) | exact HB.out)) hb); clear BK139; clear HB; have HO145 := n0_; have BK139 := n1_; have HB := n2_; clear n0_ n1_ n2_; (try clear hb); (try clear hb2); (try clear hk); (try clear hi); (try clear ho0); obtain ⟨Ao12, co12, eo12⟩ := Kd.N_slice HO145.out; subst eo12) | ((with_reducible refine gate_builtin (b := .append) (xs := #[.tmp 9, .tmp 12]) rfl ?_); at_builtin; refine Kd.N_append k24 (w0 := w) w.heap.size rfl (.tmp 9) (.tmp 12) 22 24 (.agg #[(.int .i64 0), (.int .i64 0), (.slice none 0 0)]) 40 rfl Try.underlying22 info24 rfl (by decide) (by omega) (.slice none 0 0) ([] : List (S24)) (⟨t141, t142, t143⟩ : S24) [.int .i64 t141, .int .i64 t142, .slice Ao12 t143.length co12] (fun k_ => (w.heap.size ≤ k_) ∧ k_ ≠ gb139) (fun k_ => ((fun k_ => (w.heap.size ≤ k_) ∧ k_ ≠ gb139)) k_ ∧ some k_ ≠ (.slice none 0 0 : Value).ownBlock) rfl rfl ?aP (fun _ hk => hk) ?aF ?aO ?aB ?aS ?aL ?_; (case aP => exact (k24_mkF _ _ (⟨t141, t142, t143⟩ : S24) (Kd.N_reads' (Kd.N_mono (ok' := (fun k_ => ((fun k_ => (w.heap.size ≤ k_) ∧ k_ ≠ gb139)) k_ ∧ some k_ ≠ (.slice none 0 0 : Value).ownBlock)) (HO145.out) (fun k_ hk => ⟨⟨hk.1, hk.2⟩, (by simp [Value.ownBlock])⟩))).2.1 (Kd.N_F (Kd.N_mono (ok' := (fun k_ => ((fun k_ => (w.heap.size ≤ k_) ∧ k_ ≠ gb139)) k_ ∧ some k_ ≠ (.slice none 0 0 : Value).ownBlock)) (HO145.out) (fun k_ hk => ⟨⟨hk.1, hk.2⟩, (by simp [Value.ownBlock])⟩))))); (case aB => exact (by repeat (first | (with_reducible first | exact HB.out | apply below_alloc | apply pw_below_drewN | apply below_drew1 | refine below_set ?_ GE139.out) | exact HB.out))); (case aF => exact (fun k_ hk => ⟨(Nat.le_trans (below_size (by repeat (first | (with_reducible first | exact HB.out | apply below_alloc | apply pw_below_drewN | apply below_drew1 | refine below_set ?_ GE139.out) | exact HB.out))) hk), Kd.freshB (g := gb139) (o := .cells #[.int .i64 a0_0, .int .i64 a0_1, .slice A0_2 l0_2.length c0_2] 24 (0, 0)) (by (with_reducible repeat (first | refine blk_drewN ?_ _ | refine blk_drew ?_ | refine blk_alloc ?_ _)); exact BK139.out) k_ hk⟩)); (case aO => exact ((Kd.N_nil _ _ _ _ (fun k_ => (w.heap.size ≤ k_) ∧ k_ ≠ gb139)))); (case aS => exact (below_size (by repeat (first | (with_reducible first | exact HB.out | apply below_alloc | apply pw_below_drewN | apply below_drew1 | refine below_set ?_ GE139.out) | exact HB.out)))); (case aL => have := LMc8.out; omega); intro v147 w11 ho hb hg hat; rw [← Ny146.out] at ho; have n0_ := Aside0.mk (blk_grown (g := gb139) (o := .cells #[.int .i64 a0_0, .int .i64 a0_1, .slice A0_2 l0_2.length c0_2] 24 (0, 0)) (by (with_reducible repeat (first | refine blk_drewN ?_ _ | refine blk_drew ?_ | refine blk_alloc ?_ _)); exact BK139.out) hg (by simp [Value.ownBlock])); have n1_ := Aside0.mk (hb); have n2_ := Aside0.mk (ho); clear BK139; clear HB; clear HO145; have BK139 := n0_; have HB := n1_; have HO148 := n2_; clear n0_ n1_ n2_; clear ho hb hg hat))
        go_meet
        case rel => exact ⟨_, (y146), H', ⟨by first | omega | exact Nat.le_refl _⟩, ⟨by (with_reducible repeat (first | apply Kd.N_alloc | apply Kd.N_drewN | apply Kd.N_drew)); exact HO148.out⟩, ⟨by (with_reducible repeat (first | refine blk_drewN ?_ _ | refine blk_drew ?_ | refine blk_alloc ?_ _)); exact BK139.out⟩, ⟨by repeat (first | (with_reducible first | exact HB.out | apply below_alloc | apply pw_below_drewN | apply below_drew1 | refine below_set ?_ GE139.out) | exact HB.out)⟩⟩
      · rw [if_neg c8] at H
        exact absurd H (by simp)
    · replace c6 := Bool.eq_false_iff.mpr c6
      subst c6
      have H1 : (formula_times.j0 k ([] : List (S24)) a0_0 a0_1 l0_2) = some r := by rw [if_neg (show ¬ (false = true) by decide)] at H; exact H
      clear H
      have H := H1
      clear H1
      have H' := Aside0.mk H
      clear H
      go_wp2
      go_meet
      case rel => exact ⟨_, (([] : List (S24))), H', ⟨by first | omega | exact Nat.le_refl _⟩, ⟨by first | exact Kd.R_nil _ _ _ _ _ | exact Kd.N_nil _ _ _ _ _ | exact Kd.V_nil _ _ _ _ _ | exact Kd.Q_nil _ _ _ _ _ | exact Kd.S_nil _ _ _ _ _⟩, ⟨by (with_reducible repeat (first | refine blk_drewN ?_ _ | refine blk_drew ?_ | refine blk_alloc ?_ _)); exact BK139.out⟩, ⟨by repeat (first | (with_reducible first | exact HB.out | apply below_alloc | apply pw_below_drewN | apply below_drew1 | refine below_set ?_ GE139.out) | exact HB.out)⟩⟩
  case rest =>
    clear HC3
    try clear p2
    try clear c4
    try clear c6
    try clear c8
    try clear hcz5_0
    try clear hcz5_1
    try clear hcz5_2
    try clear hcz9_0
    try clear hcz9_1
    try clear hcz9_2
    try clear hfz5_0
    try clear hfz5_1
    try clear hfz5_2
    try clear hfz9_0
    try clear hfz9_1
    try clear hfz9_2
    obtain ⟨kq, x3_2, HA, HJ2, HO_3, BK139, HB⟩ := hcut
    cases kq with
    | zero => exact absurd HA.out (by simp [formula_times.j0])
    | succ kj2 =>
      have H := HA.out
      clear HA
      simp only [formula_times.j0] at H
      have H' := Aside0.mk H
      clear H
      have hcz13_0 : wc.cell? ⟨gb139, 0, none⟩ = some (.int .i64 a0_0) := (blk_cell BK139.out 0).trans rfl
      have hcz13_1 : wc.cell? ⟨gb139, 1, none⟩ = some (.int .i64 a0_1) := (blk_cell BK139.out 1).trans rfl
      have hcz13_2 : wc.cell? ⟨gb139, 2, none⟩ = some (.slice A0_2 l0_2.length c0_2) := (blk_cell BK139.out 2).trans rfl
      have hfz13_0 := blk_frozen BK139.out 0
      have hfz13_1 := blk_frozen BK139.out 1
      have hfz13_2 := blk_frozen BK139.out 2
      go_wp2
      go_loopg [3, 17] kj2 (fun kq v3 v17 w' => ∃ (x3_2 : List (S24)) (x17_2 : Int), v17 = .int .i64 x17_2 ∧ Aside0 (formula_times.l0 kq x3_2 l0_2 (l0_2.length : Int) x17_2 = some r) ∧ Aside0 (kq ≤ kj2) ∧ Aside0 (Kd.N k24 24 w' w.heap.size (fun k_ => (w.heap.size ≤ k_) ∧ k_ ≠ gb139) v3 x3_2) ∧ Aside0 (w'.heap[gb139]? = some (.cells #[.int .i64 a0_0, .int .i64 a0_1, (.slice A0_2 l0_2.length c0_2)] 24 (0, 0))) ∧ Aside0 (Below w.heap.size w w'))
      case atStart => exact ⟨(x3_2), (0), (by first | rfl | (simp; done) | (simp [*]; done)), H', ⟨Nat.le_refl _⟩, ⟨by (with_reducible repeat (first | apply Kd.N_alloc | apply Kd.N_drewN | apply Kd.N_drew)); exact HO_3.out⟩, ⟨by (with_reducible repeat (first | refine blk_drewN ?_ _ | refine blk_drew ?_ | refine blk_alloc ?_ _)); exact BK139.out⟩, ⟨by repeat (first | (with_reducible first | exact HB.out | apply below_alloc | apply pw_below_drewN | apply below_drew1 | refine below_set ?_ GE139.out) | exact HB.out)⟩⟩
      case round =>
        clear H'
        try clear p2
        try clear c4
        try clear c6
        try clear c8
        try clear hcz13_0
        try clear hcz13_1
        try clear hcz13_2
        try clear hcz5_0
        try clear hcz5_1
        try clear hcz5_2
        try clear hcz9_0
        try clear hcz9_1
        try clear hcz9_2
        try clear hfz13_0
        try clear hfz13_1
        try clear hfz13_2
        try clear hfz5_0
        try clear hfz5_1
        try clear hfz5_2
        try clear hfz9_0
        try clear hfz9_1
        try clear hfz9_2
        try clear p2
        obtain ⟨x3_2, x17_2, rfl, HA, HK2, HO_3, BK139, HB⟩ := hrel
        cases gk with
        | zero => exact absurd HA.out (by simp [formula_times.l0])
        | succ k2 =>
          have H := HA.out
          clear HA
          simp only [formula_times.l0] at H
          by_cases c14 : x17_2 < (l0_2.length : Int)
          · rw [if_pos c14] at H
            have c14b0 : decide (x17_2 < (l0_2.length : Int)) = true := decide_eq_true c14
            clear c14
            by_cases c15 : 0 ≤ x17_2
            · rw [if_pos c15] at H
              have c15b0 : decide (0 ≤ x17_2) = true := decide_eq_true c15
              clear c15
              by_cases c16 : x17_2 < (l0_2.length : Int)
              · rw [if_pos c16] at H
                have c16b0 : decide (x17_2 < (l0_2.length : Int)) = true := decide_eq_true c16
                clear c16
                replace H := Option.bind_eq_some_iff.mp H
                obtain ⟨t151, A170, H⟩ := H
                replace H : (if x3_2.length + t151.length < 3518437208883 then (formula_times.l0 k2 (x3_2 ++ t151) l0_2 (l0_2.length : Int) (wrap64 (x17_2 + 1))) else (none)) = some r := H
                have A17 := Aside0.mk A170
                clear A170
                by_cases c18 : x3_2.length + t151.length < 3518437208883
                · rw [if_pos c18] at H
                  have LMc18 := Aside0.mk c18
                  clear c18
                  obtain ⟨y154, hy154⟩ : ∃ y_ : List (S24), y_ = (x3_2 ++ t151) := ⟨_, rfl⟩
                  replace H : (formula_times.l0 k2 y154 l0_2 (l0_2.length : Int) (wrap64 (x17_2 + 1))) = some r := by first | (rw [hy154]; with_reducible exact H) | (have H2_ := (Option.bind_some _ _).symm.trans H; rw [hy154]; with_reducible exact H2_) | (have H2_ := (Option.bind_some _ _).symm.trans H; with_reducible exact H2_) | with_reducible exact H | (rw [hy154]; exact H) | exact H
                  have Ny154 := Aside0.mk hy154
                  clear hy154
                  have H' := Aside0.mk H
                  clear H
                  have p149 : 0 ≤ (x17_2 : Int) := of_decide_eq_true (by first | (with_reducible assumption) | assumption)
                  have q149 : x17_2 < (l0_2.length : Int) := of_decide_eq_true (by first | (with_reducible assumption) | assumption)
                  obtain ⟨ad149, A149_2, c149_2, e149, hx149_0, hx149_1, hx149_2, hl149_2, hi149_2⟩ := at_T24 HR0_2.out x17_2 p149 q149
                  cases e149
                  replace hx149_0 := (HB.out.cell (World.block_lt_of_cell? w _ hx149_0)).trans hx149_0
                  replace hx149_1 := (HB.out.cell (World.block_lt_of_cell? w _ hx149_1)).trans hx149_1
                  replace hx149_2 := (HB.out.cell (World.block_lt_of_cell? w _ hx149_2)).trans hx149_2
                  have HR149_2 := Aside0.mk hi149_2
                  have HC149_2 := Aside0.mk hl149_2
                  clear hi149_2 hl149_2
                  replace p149 := eq_true p149
                  replace q149 := eq_true q149
                  go_wp2_with (first | ((with_reducible refine gate_dst (N := 5) rfl ?_); refine box_event ?hg (N := 5) ?hd (cs := #[.int .i64 0, .int .i64 0, .slice none 0 0]) (t := 24) ?hr ?_; (case hd => rfl); (case hg => rfl); (case hr => first | (go_simp; done) | (go_simp; rfl)); intro gb150 hg w19 hbox hb; have n0_ := Aside0.mk (Kd.N_below (Kd.N_elderB (by (with_reducible repeat (first | apply Kd.N_alloc | apply Kd.N_drewN | apply Kd.N_drew)); exact HO_3.out) gb150 (Nat.le_of_eq hg.symm)) hb); have n1_ := Aside0.mk (blk_below (g := gb139) (o := .cells #[.int .i64 a0_0, .int .i64 a0_1, .slice (some ad149) l0_2.length c0_2] 24 (0, 0)) (by (with_reducible repeat (first | refine blk_drewN ?_ _ | refine blk_drew ?_ | refine blk_alloc ?_ _)); exact BK139.out) hb); have n2_ := Aside0.mk (below_step (by repeat (first | (with_reducible first | exact HB.out | apply below_alloc | apply pw_below_drewN | apply below_drew1 | refine below_set ?_ GE139.out) | exact HB.out)) hb); have n3_ := Aside0.mk (hbox); have n4_ := Aside0.mk ((by rw [hg]; exact (below_size (by repeat (first | (with_reducible first | exact HB.out | apply below_alloc | apply pw_below_drewN | apply below_drew1 | refine below_set ?_ GE139.out) | exact HB.out))) : w.heap.size ≤ gb150)); have n5_ := Aside0.mk ((by rw [hg]; exact (below_size (by repeat (first | (with_reducible first | exact HB.out | apply below_alloc | apply pw_below_drewN | apply below_drew1 | refine below_set ?_ GE139.out) | exact HB.out))) : w.heap.size ≤ gb150)); have n6_ := Aside0.mk ((by rw [hg]; exact Nat.ne_of_lt (blk_lt (g := gb139) (o := .cells #[.int .i64 a0_0, .int .i64 a0_1, .slice (some ad149) l0_2.length c0_2] 24 (0, 0)) (by (with_reducible repeat (first | refine blk_drewN ?_ _ | refine blk_drew ?_ | refine blk_alloc ?_ _)); exact BK139.out)) : gb139 ≠ gb150)); have n7_ := Aside0.mk ((by rw [hg]; exact Nat.ne_of_gt (blk_lt (g := gb139) (o := .cells #[.int .i64 a0_0, .int .i64 a0_1, .slice (some ad149) l0_2.length c0_2] 24 (0, 0)) (by (with_reducible repeat (first | refine blk_drewN ?_ _ | refine blk_drew ?_ | refine blk_alloc ?_ _)); exact BK139.out)) : gb150 ≠ gb139)); clear HO_3; clear BK139; clear HB; have HO_3 := n0_; have BK139 := n1_; have HB := n2_; have BK150 := n3_; have GW150 := n4_; have GE150 := n5_; have NB139_150 := n6_; have NB150_139 := n7_; clear n0_ n1_ n2_ n3_ n4_ n5_ n6_ n7_; clear hb hbox hg; have hnb20 := NB150_139.out; have hnc20 := NB139_150.out; have hcz21_0 : w19.cell? ⟨gb150, 0, none⟩ = some (.int .i64 0) := (blk_cell BK150.out 0).trans rfl; have hcz21_1 : w19.cell? ⟨gb150, 1, none⟩ = some (.int .i64 0) := (blk_cell BK150.out 1).trans rfl; have hcz21_2 : w19.cell? ⟨gb150, 2, none⟩ = some (.slice none 0 0) := (blk_cell BK150.out 2).trans rfl; have hfz21_0 := blk_frozen BK150.out 0; have hfz21_1 := blk_frozen BK150.out 1; have hfz21_2 := blk_frozen BK150.out 2) | ((with_reducible refine gate_callee (f := 43) rfl ?_); refine goesL_ (some 23) rfl rfl Try.func43 (by kernel_rfl) rfl #[.agg #[.int .i64 ((rd_T24 l0_2 x17_2).f0), .int .i64 ((rd_T24 l0_2 x17_2).f1), .slice A149_2 ((rd_T24 l0_2 x17_2).f2).length c149_2]] rfl (by (try simp only [List.map_toArray, List.map_cons, List.map_nil]); first | done | rfl | (simp only [List.length_drop, List.length_take]; rfl)) ?_; (with_reducible refine (ih k2 (by have := HJ2.out; have := HK2.out; omega) ((rd_T24 l0_2 x17_2).f0) ((rd_T24 l0_2 x17_2).f1) _ _ ((rd_T24 l0_2 x17_2).f2) t151 _ ?side1 ?side2 A17.out).mono ?_); (case side1 => exact Kd.C_below HR149_2.out (by repeat (first | (with_reducible first | exact HB.out | apply below_alloc | apply pw_below_drewN | apply below_drew1 | refine below_set ?_ GE139.out | refine below_set ?_ GE150.out) | exact HB.out))); (case side2 => exact HC149_2.out); rintro e w22 ⟨v152, rfl, ho0, hb⟩; refine ⟨_, rfl, ?_⟩; have n0_ := Aside0.mk (Kd.N_elder' (by (with_reducible repeat (first | apply Kd.N_alloc | apply Kd.N_drewN | apply Kd.N_drew)); exact (Kd.N_mono (Kd.N_far (p := ⟨gb150, 2, none⟩) (Kd.N_far (p := ⟨gb150, 1, none⟩) (Kd.N_far (p := ⟨gb150, 0, none⟩) (Kd.N_mono HO_3.out (fun k_ hk => (⟨hk, hk.2⟩ : _ ∧ k_ ≠ gb150))) (fun _ hk => hk.2) (.int .i64 ((rd_T24 l0_2 x17_2).f0))) (fun _ hk => hk.2) (.int .i64 ((rd_T24 l0_2 x17_2).f1))) (fun _ hk => hk.2) (.slice A149_2 ((rd_T24 l0_2 x17_2).f2).length c149_2)) (fun _ h_ => h_.1))) (Kd.N_base ho0) hb); have n1_ := Aside0.mk (Kd.N_lower (Kd.N_mono (ok' := fun k_ => (w.heap.size ≤ k_) ∧ some k_ ≠ (u3 : Value).ownBlock ∧ k_ ≠ gb139 ∧ k_ ≠ gb150) ho0 (fun k_ hk_ => ⟨(Nat.le_trans (below_size (by repeat (first | (with_reducible first | exact HB.out | apply below_alloc | apply pw_below_drewN | apply below_drew1 | refine below_set ?_ GE139.out | refine below_set ?_ GE150.out) | exact HB.out))) hk_), (Kd.fresh' (Kd.N_lt (by (with_reducible repeat (first | apply Kd.N_alloc | apply Kd.N_drewN | apply Kd.N_drew)); exact (Kd.N_mono (Kd.N_far (p := ⟨gb150, 2, none⟩) (Kd.N_far (p := ⟨gb150, 1, none⟩) (Kd.N_far (p := ⟨gb150, 0, none⟩) (Kd.N_mono HO_3.out (fun k_ hk => (⟨hk, hk.2⟩ : _ ∧ k_ ≠ gb150))) (fun _ hk => hk.2) (.int .i64 ((rd_T24 l0_2 x17_2).f0))) (fun _ hk => hk.2) (.int .i64 ((rd_T24 l0_2 x17_2).f1))) (fun _ hk => hk.2) (.slice A149_2 ((rd_T24 l0_2 x17_2).f2).length c149_2)) (fun _ h_ => h_.1)))) k_ hk_), (Kd.freshB (g := gb139) (o := .cells #[.int .i64 a0_0, .int .i64 a0_1, .slice (some ad149) l0_2.length c0_2] 24 (0, 0)) (by (with_reducible repeat (first | refine blk_drewN ?_ _ | refine blk_drew ?_ | refine blk_alloc ?_ _)); refine blk_far ?_ NB139_150.out _; (with_reducible repeat (first | refine blk_drewN ?_ _ | refine blk_drew ?_ | refine blk_alloc ?_ _)); refine blk_far ?_ NB139_150.out _; (with_reducible repeat (first | refine blk_drewN ?_ _ | refine blk_drew ?_ | refine blk_alloc ?_ _)); refine blk_far ?_ NB139_150.out _; (with_reducible repeat (first | refine blk_drewN ?_ _ | refine blk_drew ?_ | refine blk_alloc ?_ _)); exact BK139.out) k_ hk_), (Kd.freshB (g := gb150) (o := .cells #[.int .i64 ((rd_T24 l0_2 x17_2).f0), .int .i64 ((rd_T24 l0_2 x17_2).f1), .slice A149_2 ((rd_T24 l0_2 x17_2).f2).length c149_2] 24 (0, 0)) (by (with_reducible repeat (first | refine blk_drewN ?_ _ | refine blk_drew ?_ | refine blk_alloc ?_ _)); refine blk_put (cs := #[.int .i64 ((rd_T24 l0_2 x17_2).f0), .int .i64 ((rd_T24 l0_2 x17_2).f1), .slice none 0 0]) ?_ 2 _ rfl; (with_reducible repeat (first | refine blk_drewN ?_ _ | refine blk_drew ?_ | refine blk_alloc ?_ _)); refine blk_put (cs := #[.int .i64 ((rd_T24 l0_2 x17_2).f0), .int .i64 0, .slice none 0 0]) ?_ 1 _ rfl; (with_reducible repeat (first | refine blk_drewN ?_ _ | refine blk_drew ?_ | refine blk_alloc ?_ _)); refine blk_put (cs := #[.int .i64 0, .int .i64 0, .slice none 0 0]) ?_ 0 _ rfl; (with_reducible repeat (first | refine blk_drewN ?_ _ | refine blk_drew ?_ | refine blk_alloc ?_ _)); exact BK150.out) k_ hk_)⟩)) (below_size (by repeat (first | (with_reducible first | exact HB.out | apply below_alloc | apply pw_below_drewN | apply below_drew1 | refine below_set ?_ GE139.out | refine below_set ?_ GE150.out) | exact HB.out)))); have n2_ := Aside0.mk (blk_below (g := gb139) (o := .cells #[.int .i64 a0_0, .int .i64 a0_1, .slice (some ad149) l0_2.length c0_2] 24 (0, 0)) (by (with_reducible repeat (first | refine blk_drewN ?_ _ | refine blk_drew ?_ | refine blk_alloc ?_ _)); refine blk_far ?_ NB139_150.out _; (with_reducible repeat (first | refine blk_drewN ?_ _ | refine blk_drew ?_ | refine blk_alloc ?_ _)); refine blk_far ?_ NB139_150.out _; (with_reducible repeat (first | refine blk_drewN ?_ _ | refine blk_drew ?_ | refine blk_alloc ?_ _)); refine blk_far ?_ NB139_150.out _; (with_reducible repeat (first | refine blk_drewN ?_ _ | refine blk_drew ?_ | refine blk_alloc ?_ _)); exact BK139.out) hb); have n3_ := Aside0.mk (blk_below (g := gb150) (o := .cells #[.int .i64 ((rd_T24 l0_2 x17_2).f0), .int .i64 ((rd_T24 l0_2 x17_2).f1), .slice A149_2 ((rd_T24 l0_2 x17_2).f2).length c149_2] 24 (0, 0)) (by (with_reducible repeat (first | refine blk_drewN ?_ _ | refine blk_drew ?_ | refine blk_alloc ?_ _)); refine blk_put (cs := #[.int .i64 ((rd_T24 l0_2 x17_2).f0), .int .i64 ((rd_T24 l0_2 x17_2).f1), .slice none 0 0]) ?_ 2 _ rfl; (with_reducible repeat (first | refine blk_drewN ?_ _ | refine blk_drew ?_ | refine blk_alloc ?_ _)); refine blk_put (cs := #[.int .i64 ((rd_T24 l0_2 x17_2).f0), .int .i64 0, .slice none 0 0]) ?_ 1 _ rfl; (with_reducible repeat (first | refine blk_drewN ?_ _ | refine blk_drew ?_ | refine blk_alloc ?_ _)); refine blk_put (cs := #[.int .i64 0, .int .i64 0, .slice none 0 0]) ?_ 0 _ rfl; (with_reducible repeat (first | refine blk_drewN ?_ _ | refine blk_drew ?_ | refine blk_alloc ?_ _)); exact BK150.out) hb); have n4_ := Aside0.mk (below_step (by repeat (first | (with_reducible first | exact HB.out | apply below_alloc | apply pw_below_drewN | apply below_drew1 | refine below_set ?_ GE139.out | refine below_set ?_ GE150.out) | exact HB.out)) hb); clear HO_3; clear BK139; clear BK150; clear HB; have HO_3 := n0_; have HO153 := n1_; have BK139 := n2_; have BK150 := n3_; have HB := n4_; clear n0_ n1_ n2_ n3_ n4_; (try clear hb); (try clear hb2); (try clear hk); (try clear hi); (try clear ho0); obtain ⟨Ao24, co24, eo24⟩ := Kd.N_slice HO153.out; subst eo24) | ((with_reducible refine gate_builtin (b := .append) (xs := #[.tmp 21, .tmp 23]) rfl ?_); at_builtin; refine Kd.N_append_rows k24 (w0 := w) w.heap.size rfl (.tmp 21) (.tmp 23) 22 24 (.agg #[(.int .i64 0), (.int .i64 0), (.slice none 0 0)]) 40 rfl Try.underlying22 info24 rfl (by decide) (by omega) u3 x3_2 t151 _ _ _ (fun k_ => (w.heap.size ≤ k_) ∧ k_ ≠ gb139 ∧ k_ ≠ gb150) (fun k_ => ((fun k_ => (w.heap.size ≤ k_) ∧ k_ ≠ gb139 ∧ k_ ≠ gb150)) k_ ∧ some k_ ≠ (u3 : Value).ownBlock) rfl rfl ?aO ?aR (fun _ hk => hk) ?aF ?aB ?aS ?aL ?_; (case aR => exact (by skip; exact Kd.N_F (Kd.N_mono (ok' := (fun k_ => ((fun k_ => (w.heap.size ≤ k_) ∧ k_ ≠ gb139 ∧ k_ ≠ gb150)) k_ ∧ some k_ ≠ (u3 : Value).ownBlock)) (HO153.out) (fun k_ hk => ⟨⟨hk.1, ⟨hk.2.2.1, hk.2.2.2⟩⟩, hk.2.1⟩)))); (case aB => exact (by repeat (first | (with_reducible first | exact HB.out | apply below_alloc | apply pw_below_drewN | apply below_drew1 | refine below_set ?_ GE139.out | refine below_set ?_ GE150.out) | exact HB.out))); (case aF => exact (fun k_ hk => ⟨(Nat.le_trans (below_size (by repeat (first | (with_reducible first | exact HB.out | apply below_alloc | apply pw_below_drewN | apply below_drew1 | refine below_set ?_ GE139.out | refine below_set ?_ GE150.out) | exact HB.out))) hk), Kd.freshB (g := gb139) (o := .cells #[.int .i64 a0_0, .int .i64 a0_1, .slice (some ad149) l0_2.length c0_2] 24 (0, 0)) (by (with_reducible repeat (first | refine blk_drewN ?_ _ | refine blk_drew ?_ | refine blk_alloc ?_ _)); exact BK139.out) k_ hk, Kd.freshB (g := gb150) (o := .cells #[.int .i64 ((rd_T24 l0_2 x17_2).f0), .int .i64 ((rd_T24 l0_2 x17_2).f1), .slice A149_2 ((rd_T24 l0_2 x17_2).f2).length c149_2] 24 (0, 0)) (by (with_reducible repeat (first | refine blk_drewN ?_ _ | refine blk_drew ?_ | refine blk_alloc ?_ _)); exact BK150.out) k_ hk⟩)); (case aO => exact (by (with_reducible repeat (first | apply Kd.N_alloc | apply Kd.N_drewN | apply Kd.N_drew)); exact Kd.N_mono HO_3.out (fun _ hk => ⟨hk.1.1.1, ⟨hk.1.1.2, hk.1.2⟩⟩))); (case aS => exact (below_size (by repeat (first | (with_reducible first | exact HB.out | apply below_alloc | apply pw_below_drewN | apply below_drew1 | refine below_set ?_ GE139.out | refine below_set ?_ GE150.out) | exact HB.out)))); (case aL => have := LMc18.out; omega); intro v155 w23 ho hb hg hat; rw [← Ny154.out] at ho; have n0_ := Aside0.mk (blk_grown (g := gb139) (o := .cells #[.int .i64 a0_0, .int .i64 a0_1, .slice (some ad149) l0_2.length c0_2] 24 (0, 0)) (by (with_reducible repeat (first | refine blk_drewN ?_ _ | refine blk_drew ?_ | refine blk_alloc ?_ _)); exact BK139.out) hg (Kd.N_away HO_3.out (fun _ hk => hk.1.1.2))); have n1_ := Aside0.mk (blk_grown (g := gb150) (o := .cells #[.int .i64 ((rd_T24 l0_2 x17_2).f0), .int .i64 ((rd_T24 l0_2 x17_2).f1), .slice A149_2 ((rd_T24 l0_2 x17_2).f2).length c149_2] 24 (0, 0)) (by (with_reducible repeat (first | refine blk_drewN ?_ _ | refine blk_drew ?_ | refine blk_alloc ?_ _)); exact BK150.out) hg (Kd.N_away HO_3.out (fun _ hk => hk.1.2))); have n2_ := Aside0.mk (Kd.N_afterv (ok := (fun k_ => (w.heap.size ≤ k_) ∧ k_ ≠ gb139 ∧ k_ ≠ gb150)) (by (with_reducible repeat (first | apply Kd.N_alloc | apply Kd.N_drewN | apply Kd.N_drew)); exact Kd.N_mono HO153.out (fun _ hk => ⟨⟨hk.1, ⟨hk.2.2.1, hk.2.2.2⟩⟩, hk.2.1⟩)) hg hat); have n3_ := Aside0.mk (hb); have n4_ := Aside0.mk (ho); clear BK139; clear BK150; clear HO153; clear HB; clear HO_3; have BK139 := n0_; have BK150 := n1_; have HO153 := n2_; have HB := n3_; have HO156 := n4_; clear n0_ n1_ n2_ n3_ n4_; clear ho hb hg hat))
                  go_roundg k2
                  case measure => have := HJ2.out; have := HK2.out; omega
                  case rel => exact ⟨(y154), (wrap64 (x17_2 + 1)), (by first | rfl | (simp; done) | (simp [*]; done)), H', ⟨by have := HJ2.out; have := HK2.out; omega⟩, ⟨by (with_reducible repeat (first | apply Kd.N_alloc | apply Kd.N_drewN | apply Kd.N_drew)); exact Kd.N_mono HO156.out (fun _ hk => ⟨hk.1, hk.2.1⟩)⟩, ⟨by (with_reducible repeat (first | refine blk_drewN ?_ _ | refine blk_drew ?_ | refine blk_alloc ?_ _)); exact BK139.out⟩, ⟨by repeat (first | (with_reducible first | exact HB.out | apply below_alloc | apply pw_below_drewN | apply below_drew1 | refine below_set ?_ GE139.out | refine below_set ?_ GE150.out) | exact HB.out)⟩⟩
                · rw [if_neg c18] at H
                  exact absurd H (by simp)
              · rw [if_neg c16] at H
                exact absurd H (by simp)
            · rw [if_neg c15] at H
              exact absurd H (by simp)
          · rw [if_neg c14] at H
            have c14b0 : decide (x17_2 < (l0_2.length : Int)) = false := decide_eq_false c14
            clear c14
            obtain rfl := Option.some.inj H
            go_wp2
            go_ret
            exact ⟨_, by first | rfl | (simp [errW_none, errW_some] <;> rfl) | (simp [*, errW_none, errW_some] <;> rfl), by (with_reducible repeat (first | apply Kd.N_alloc | apply Kd.N_drewN | apply Kd.N_drew)); exact Kd.N_mono HO_3.out (fun _ hk => hk.1), by repeat (first | (with_reducible first | exact HB.out | apply below_alloc | apply pw_below_drewN | apply below_drew1 | refine below_set ?_ GE139.out) | exact HB.out)⟩

end Go.Proofs.Ytegaicoddnmemaa.P

namespace Go.Proofs.Ytegaicoddnmemaa.P
open Go.RowKit Go.Proofs.YtegaicoddnmemaaW.PrintWords Go.Proofs.YtegaicoddnmemaaW.PrintLast Go.Proofs.YtegaicoddnmemaaW.PrintMore
attribute [local go_sem] max2_int min2_int max_two min_two max_three min_three max_four min_four   -- for this text's walks alone
set_option linter.unusedVariables false
set_option linter.unusedSimpArgs false

open Go.Proofs.Ytegaicoddnmemaa.X
def formula_Times.f (k : Nat) (a0_0 : Int) (a0_1 : Int) (l0_2 : List (S24)) : Option ((List (S24))) := (formula_May.f a0_0 a0_1 l0_2).bind fun t158 => (if t158 = 0 then ((formula_times.f k a0_0 a0_1 l0_2).bind fun t159 => (some t159)) else (some ([] : List (S24))))
theorem formula_Times.mono : ∀ a0 a1 a2 k, LeO (formula_Times.f k a0 a1 a2) (formula_Times.f (k + 1) a0 a1 a2) := by
  intro a0 a1 a2 k
  unfold formula_Times.f
  repeat' first
      | (with_reducible exact formula_times.mono _ _ _ _)
      | (with_reducible exact LeO.refl _)
      | (with_reducible exact LeO.none _)
      | (with_reducible refine LeO.ite ?_ ?_)
      | (with_reducible refine LeO.bind ?_ (fun _ => ?_))
      | exact formula_times.mono _ _ _ _
      | exact LeO.none _
      | refine LeO.ite ?_ ?_
      | refine LeO.bind ?_ (fun _ => ?_)
set_option maxHeartbeats 8000000 in
set_option maxRecDepth 100000 in
theorem formula_Times.calls (k : Nat) (a0_0 : Int) (a0_1 : Int) (A0_2 : Option Addr) (c0_2 : Nat) (l0_2 : List (S24)) (r : List (S24)) (w : World) (hr0_2 : Kd.C k24 w A0_2 l0_2.length l0_2) (hc0_2 : l0_2.length ≤ c0_2) (h : formula_Times.f k a0_0 a0_1 l0_2 = some r) :
    Calls Try.prog 25 #[.agg #[.int .i64 a0_0, .int .i64 a0_1, .slice A0_2 l0_2.length c0_2]] w fun e w' => ∃ v0_ : Value, e = .returned (v0_) ∧ Kd.N k24 24 w' w.heap.size (fun k_ => (w.heap.size ≤ k_)) v0_ r ∧ Below w.heap.size w w' := by
  have hu24 := Try.underlying24
  have HR0_2 := Aside0.mk hr0_2
  have HC0_2 := Aside0.mk hc0_2
  clear hr0_2 hc0_2
  have HB := Aside0.mk (Below.refl w.heap.size w)
  have H : ((formula_May.f a0_0 a0_1 l0_2).bind fun t158 => (if t158 = 0 then ((formula_times.f k a0_0 a0_1 l0_2).bind fun t159 => (some t159)) else (some ([] : List (S24))))) = some r := h
  clear h
  replace H := Option.bind_eq_some_iff.mp H
  obtain ⟨t158, A20, H⟩ := H
  replace H : (if t158 = 0 then ((formula_times.f k a0_0 a0_1 l0_2).bind fun t159 => (some t159)) else (some ([] : List (S24)))) = some r := H
  have A2 := Aside0.mk A20
  clear A20
  by_cases c3 : t158 = 0
  · rw [if_pos c3] at H
    have c3b0 : (t158 == 0) = true := beq_iff_eq.mpr c3
    have c3b1 : (t158 != 0) = false := bne_eq_false_iff_eq.mpr c3
    clear c3
    replace H := Option.bind_eq_some_iff.mp H
    obtain ⟨t159, A40, H⟩ := H
    replace H : (some t159) = some r := H
    have A4 := Aside0.mk A40
    clear A40
    obtain rfl := Option.some.inj H
    go_enter Try.func25, Try.ntmps25
    go_wp2_with (first | ((with_reducible refine gate_dst (N := 1) rfl ?_); refine box_event ?hg (N := 1) ?hd (cs := #[.int .i64 a0_0, .int .i64 a0_1, .slice A0_2 l0_2.length c0_2]) (t := 24) ?hr ?_; (case hd => rfl); (case hg => rfl); (case hr => first | (go_simp; done) | (go_simp; rfl)); intro gb157 hg w5 hbox hb; have n0_ := Aside0.mk (below_step (by repeat (first | (with_reducible first | exact HB.out | apply below_alloc | apply pw_below_drewN | apply below_drew1) | exact HB.out)) hb); have n1_ := Aside0.mk (hbox); have n2_ := Aside0.mk ((by rw [hg]; exact (below_size (by repeat (first | (with_reducible first | exact HB.out | apply below_alloc | apply pw_below_drewN | apply below_drew1) | exact HB.out))) : w.heap.size ≤ gb157)); have n3_ := Aside0.mk ((by rw [hg]; exact (below_size (by repeat (first | (with_reducible first | exact HB.out | apply below_alloc | apply pw_below_drewN | apply below_drew1) | exact HB.out))) : w.heap.size ≤ gb157)); clear HB; have HB := n0_; have BK157 := n1_; have GW157 := n2_; have GE157 := n3_; clear n0_ n1_ n2_ n3_; clear hb hbox hg; have hcz6_0 : w5.cell? ⟨gb157, 0, none⟩ = some (.int .i64 a0_0) := (blk_cell BK157.out 0).trans rfl; have hcz6_1 : w5.cell? ⟨gb157, 1, none⟩ = some (.int .i64 a0_1) := (blk_cell BK157.out 1).trans rfl; have hcz6_2 : w5.cell? ⟨gb157, 2, none⟩ = some (.slice A0_2 l0_2.length c0_2) := (blk_cell BK157.out 2).trans rfl; have hfz6_0 := blk_frozen BK157.out 0; have hfz6_1 := blk_frozen BK157.out 1; have hfz6_2 := blk_frozen BK157.out 2) | ((with_reducible refine gate_callee (f := 14) rfl ?_); refine goesL_ (some 4) rfl rfl Try.func14 (by kernel_rfl) rfl #[.agg #[.int .i64 a0_0, .int .i64 a0_1, .slice A0_2 l0_2.length c0_2]] rfl (by (try simp only [List.map_toArray, List.map_cons, List.map_nil]); first | done | rfl | (simp only [List.length_drop, List.length_take]; rfl)) ?_; (with_reducible refine (formula_May.calls a0_0 a0_1 _ _ l0_2 t158 _ ?side1 ?side2 A2.out).mono ?_); (case side1 => repeat (first | exact (Kd.C_below HR0_2.out HB.out) | (with_reducible refine Kd.C_alloc ?_ _) | (with_reducible refine Kd.C_drewN ?_ _) | (with_reducible refine Kd.C_drew ?_))); (case side2 => exact HC0_2.out); rintro e w7 ⟨rfl, hb⟩; refine ⟨_, rfl, ?_⟩; have n0_ := Aside0.mk (blk_below (g := gb157) (o := .cells #[.int .i64 a0_0, .int .i64 a0_1, .slice A0_2 l0_2.length c0_2] 24 (0, 0)) (by (with_reducible repeat (first | refine blk_drewN ?_ _ | refine blk_drew ?_ | refine blk_alloc ?_ _)); exact BK157.out) hb); have n1_ := Aside0.mk (below_step (by repeat (first | (with_reducible first | exact HB.out | apply below_alloc | apply pw_below_drewN | apply below_drew1 | refine below_set ?_ GE157.out) | exact HB.out)) hb); clear BK157; clear HB; have BK157 := n0_; have HB := n1_; clear n0_ n1_; (try clear hb); (try clear hb2); (try clear hk); (try clear hi); have hcz8_0 : w7.cell? ⟨gb157, 0, none⟩ = some (.int .i64 a0_0) := (blk_cell BK157.out 0).trans rfl; have hcz8_1 : w7.cell? ⟨gb157, 1, none⟩ = some (.int .i64 a0_1) := (blk_cell BK157.out 1).trans rfl; have hcz8_2 : w7.cell? ⟨gb157, 2, none⟩ = some (.slice A0_2 l0_2.length c0_2) := (blk_cell BK157.out 2).trans rfl; have hfz8_0 := blk_frozen BK157.out 0; have hfz8_1 := blk_frozen BK157.out 1; have hfz8_2 := blk_frozen BK157.out 2) | ((with_reducible refine gate_callee (f := 43) rfl ?_); refine goesL_ (some 7) rfl rfl Try.func43 (by kernel_rfl) rfl #[.agg #[.int .i64 a0_0, .int .i64 a0_1, .slice A0_2 l0_2.length c0_2]] rfl (by (try simp only [List.map_toArray, List.map_cons, List.map_nil]); first | done | rfl | (simp only [List.length_drop, List.length_take]; rfl)) ?_; (with_reducible refine (formula_times.calls k a0_0 a0_1 _ _ l0_2 t159 _ ?side1 ?side2 A4.out).mono ?_); (case side1 => repeat (first | exact (Kd.C_below HR0_2.out HB.out) | (with_reducible refine Kd.C_alloc ?_ _) | (with_reducible refine Kd.C_drewN ?_ _) | (with_reducible refine Kd.C_drew ?_))); (case side2 => exact HC0_2.out); rintro e w9 ⟨v160, rfl, ho0, hb⟩; refine ⟨_, rfl, ?_⟩; have n0_ := Aside0.mk (Kd.N_lower (Kd.N_mono (ok' := fun k_ => (w.heap.size ≤ k_) ∧ k_ ≠ gb157) ho0 (fun k_ hk_ => ⟨(Nat.le_trans (below_size (by repeat (first | (with_reducible first | exact HB.out | apply below_alloc | apply pw_below_drewN | apply below_drew1 | refine below_set ?_ GE157.out) | exact HB.out))) hk_), (Kd.freshB (g := gb157) (o := .cells #[.int .i64 a0_0, .int .i64 a0_1, .slice A0_2 l0_2.length c0_2] 24 (0, 0)) (by (with_reducible repeat (first | refine blk_drewN ?_ _ | refine blk_drew ?_ | refine blk_alloc ?_ _)); exact BK157.out) k_ hk_)⟩)) (below_size (by repeat (first | (with_reducible first | exact HB.out | apply below_alloc | apply pw_below_drewN | apply below_drew1 | refine below_set ?_ GE157.out) | exact HB.out)))); have n1_ := Aside0.mk (blk_below (g := gb157) (o := .cells #[.int .i64 a0_0, .int .i64 a0_1, .slice A0_2 l0_2.length c0_2] 24 (0, 0)) (by (with_reducible repeat (first | refine blk_drewN ?_ _ | refine blk_drew ?_ | refine blk_alloc ?_ _)); exact BK157.out) hb); have n2_ := Aside0.mk (below_step (by repeat (first | (with_reducible first | exact HB.out | apply below_alloc | apply pw_below_drewN | apply below_drew1 | refine below_set ?_ GE157.out) | exact HB.out)) hb); clear BK157; clear HB; have HO161 := n0_; have BK157 := n1_; have HB := n2_; clear n0_ n1_ n2_; (try clear hb); (try clear hb2); (try clear hk); (try clear hi); (try clear ho0)))
    go_ret
    exact ⟨_, by first | rfl | (simp [errW_none, errW_some] <;> rfl) | (simp [*, errW_none, errW_some] <;> rfl), by (with_reducible repeat (first | apply Kd.N_alloc | apply Kd.N_drewN | apply Kd.N_drew)); exact Kd.N_mono HO161.out (fun _ hk => hk.1), by repeat (first | (with_reducible first | exact HB.out | apply below_alloc | apply pw_below_drewN | apply below_drew1 | refine below_set ?_ GE157.out) | exact HB.out)⟩
  · rw [if_neg c3] at H
    have c3b0 : (t158 == 0) = false := beq_eq_false_iff_ne.mpr c3
    have c3b1 : (t158 != 0) = true := bne_iff_ne.mpr c3
    obtain rfl := Option.some.inj H
    go_enter Try.func25, Try.ntmps25
    go_wp2_with (first | ((with_reducible refine gate_dst (N := 1) rfl ?_); refine box_event ?hg (N := 1) ?hd (cs := #[.int .i64 a0_0, .int .i64 a0_1, .slice A0_2 l0_2.length c0_2]) (t := 24) ?hr ?_; (case hd => rfl); (case hg => rfl); (case hr => first | (go_simp; done) | (go_simp; rfl)); intro gb157 hg w10 hbox hb; have n0_ := Aside0.mk (below_step (by repeat (first | (with_reducible first | exact HB.out | apply below_alloc | apply pw_below_drewN | apply below_drew1) | exact HB.out)) hb); have n1_ := Aside0.mk (hbox); have n2_ := Aside0.mk ((by rw [hg]; exact (below_size (by repeat (first | (with_reducible first | exact HB.out | apply below_alloc | apply pw_below_drewN | apply below_drew1) | exact HB.out))) : w.heap.size ≤ gb157)); have n3_ := Aside0.mk ((by rw [hg]; exact (below_size (by repeat (first | (with_reducible first | exact HB.out | apply below_alloc | apply pw_below_drewN | apply below_drew1) | exact HB.out))) : w.heap.size ≤ gb157)); clear HB; have HB := n0_; have BK157 := n1_; have GW157 := n2_; have GE157 := n3_; clear n0_ n1_ n2_ n3_; clear hb hbox hg; have hcz11_0 : w10.cell? ⟨gb157, 0, none⟩ = some (.int .i64 a0_0) := (blk_cell BK157.out 0).trans rfl; have hcz11_1 : w10.cell? ⟨gb157, 1, none⟩ = some (.int .i64 a0_1) := (blk_cell BK157.out 1).trans rfl; have hcz11_2 : w10.cell? ⟨gb157, 2, none⟩ = some (.slice A0_2 l0_2.length c0_2) := (blk_cell BK157.out 2).trans rfl; have hfz11_0 := blk_frozen BK157.out 0; have hfz11_1 := blk_frozen BK157.out 1; have hfz11_2 := blk_frozen BK157.out 2) | ((with_reducible refine gate_callee (f := 14) rfl ?_); refine goesL_ (some 4) rfl rfl Try.func14 (by kernel_rfl) rfl #[.agg #[.int .i64 a0_0, .int .i64 a0_1, .slice A0_2 l0_2.length c0_2]] rfl (by (try simp only [List.map_toArray, List.map_cons, List.map_nil]); first | done | rfl | (simp only [List.length_drop, List.length_take]; rfl)) ?_; (with_reducible refine (formula_May.calls a0_0 a0_1 _ _ l0_2 t158 _ ?side1 ?side2 A2.out).mono ?_); (case side1 => repeat (first | exact (Kd.C_below HR0_2.out HB.out) | (with_reducible refine Kd.C_alloc ?_ _) | (with_reducible refine Kd.C_drewN ?_ _) | (with_reducible refine Kd.C_drew ?_))); (case side2 => exact HC0_2.out); rintro e w12 ⟨rfl, hb⟩; refine ⟨_, rfl, ?_⟩; have n0_ := Aside0.mk (blk_below (g := gb157) (o := .cells #[.int .i64 a0_0, .int .i64 a0_1, .slice A0_2 l0_2.length c0_2] 24 (0, 0)) (by (with_reducible repeat (first | refine blk_drewN ?_ _ | refine blk_drew ?_ | refine blk_alloc ?_ _)); exact BK157.out) hb); have n1_ := Aside0.mk (below_step (by repeat (first | (with_reducible first | exact HB.out | apply below_alloc | apply pw_below_drewN | apply below_drew1 | refine below_set ?_ GE157.out) | exact HB.out)) hb); clear BK157; clear HB; have BK157 := n0_; have HB := n1_; clear n0_ n1_; (try clear hb); (try clear hb2); (try clear hk); (try clear hi)))
    go_ret
    exact ⟨_, by first | rfl | (simp [errW_none, errW_some] <;> rfl) | (simp [*, errW_none, errW_some] <;> rfl), by first | exact Kd.R_nil _ _ _ _ _ | exact Kd.N_nil _ _ _ _ _ | exact Kd.V_nil _ _ _ _ _ | exact Kd.Q_nil _ _ _ _ _ | exact Kd.S_nil _ _ _ _ _, by repeat (first | (with_reducible first | exact HB.out | apply below_alloc | apply pw_below_drewN | apply below_drew1 | refine below_set ?_ GE157.out) | exact HB.out)⟩

end Go.Proofs.Ytegaicoddnmemaa.P

namespace Go.Proofs.Ytegaicoddnmemaa.P
open Go.RowKit Go.Proofs.YtegaicoddnmemaaW.PrintWords Go.Proofs.YtegaicoddnmemaaW.PrintLast Go.Proofs.YtegaicoddnmemaaW.PrintMore
attribute [local go_sem] max2_int min2_int max_two min_two max_three min_three max_four min_four   -- for this text's walks alone
set_option linter.unusedVariables false
set_option linter.unusedSimpArgs false

open Go.Proofs.Ytegaicoddnmemaa.X
def tableau_Size.f (k : Nat) (a0_0 : Int) (a0_1 : Int) (l0_2 : List (S24)) : Option (Int) := (formula_May.f a0_0 a0_1 l0_2).bind fun t163 => (if t163 = 0 then ((formula_Times.f k a0_0 a0_1 l0_2).bind fun t164 => (some (shl .i64 1 (t164.length : Int)))) else (some 0))
theorem tableau_Size.mono : ∀ a0 a1 a2 k, LeO (tableau_Size.f k a0 a1 a2) (tableau_Size.f (k + 1) a0 a1 a2) := by
  intro a0 a1 a2 k
  unfold tableau_Size.f
  repeat' first
      | (with_reducible exact formula_Times.mono _ _ _ _)
      | (with_reducible exact LeO.refl _)
      | (with_reducible exact LeO.none _)
      | (with_reducible refine LeO.ite ?_ ?_)
      | (with_reducible refine LeO.bind ?_ (fun _ => ?_))
      | exact formula_Times.mono _ _ _ _
      | exact LeO.none _
      | refine LeO.ite ?_ ?_
      | refine LeO.bind ?_ (fun _ => ?_)
set_option maxHeartbeats 8000000 in
set_option maxRecDepth 100000 in
theorem tableau_Size.calls (k : Nat) (a0_0 : Int) (a0_1 : Int) (A0_2 : Option Addr) (c0_2 : Nat) (l0_2 : List (S24)) (r : Int) (w : World) (hr0_2 : Kd.C k24 w A0_2 l0_2.length l0_2) (hc0_2 : l0_2.length ≤ c0_2) (h : tableau_Size.f k a0_0 a0_1 l0_2 = some r) :
    Calls Try.prog 16 #[.agg #[.int .i64 a0_0, .int .i64 a0_1, .slice A0_2 l0_2.length c0_2]] w fun e w' => e = .returned (.int .i64 r) ∧ Below w.heap.size w w' := by
  have hu24 := Try.underlying24
  have HR0_2 := Aside0.mk hr0_2
  have HC0_2 := Aside0.mk hc0_2
  clear hr0_2 hc0_2
  have HB := Aside0.mk (Below.refl w.heap.size w)
  have H : ((formula_May.f a0_0 a0_1 l0_2).bind fun t163 => (if t163 = 0 then ((formula_Times.f k a0_0 a0_1 l0_2).bind fun t164 => (some (shl .i64 1 (t164.length : Int)))) else (some 0))) = some r := h
  clear h
  replace H := Option.bind_eq_some_iff.mp H
  obtain ⟨t163, A20, H⟩ := H
  replace H : (if t163 = 0 then ((formula_Times.f k a0_0 a0_1 l0_2).bind fun t164 => (some (shl .i64 1 (t164.length : Int)))) else (some 0)) = some r := H
  have A2 := Aside0.mk A20
  clear A20
  by_cases c3 : t163 = 0
  · rw [if_pos c3] at H
    have c3b0 : (t163 == 0) = true := beq_iff_eq.mpr c3
    have c3b1 : (t163 != 0) = false := bne_eq_false_iff_eq.mpr c3
    clear c3
    replace H := Option.bind_eq_some_iff.mp H
    obtain ⟨t164, A40, H⟩ := H
    replace H : (some (shl .i64 1 (t164.length : Int))) = some r := H
    have A4 := Aside0.mk A40
    clear A40
    obtain ⟨ji5, hji5⟩ : ∃ j_ : Int, (shl .i64 1 (t164.length : Int)) = j_ := ⟨_, rfl⟩
    replace H : (some ji5) = some r := by first | (rw [hji5] at H; exact H) | (simp only [hji5] at H ⊢; exact H)
    (try rw [hji5] at A2)
    (try rw [hji5] at A4)
    have hji5_ : (IntKind.i64.wrap (1 * 2 ^ min (t164.length : Int).toNat 64)) = ji5 := hji5
    have hji5z : (t164.length : Int) ≤ 64 → (IntKind.i64.wrap (1 * 2 ^ (t164.length : Int).toNat)) = ji5 := shl_small hji5
    have hji5p : (IntKind.i64.wrap (1 * 2 ^ min t164.length 64)) = ji5 := hji5_
    have hji5q : (t164.length : Int) ≤ 64 → (IntKind.i64.wrap (1 * 2 ^ t164.length)) = ji5 := hji5z
    have hji5r : (IntKind.i64.wrap (2 ^ min t164.length 64)) = ji5 := by have h_ := hji5p; rw [Int.one_mul] at h_; exact h_
    have hji5s : (t164.length : Int) ≤ 64 → (IntKind.i64.wrap (2 ^ t164.length)) = ji5 := fun hle_ => by have h_ := hji5q hle_; rw [Int.one_mul] at h_; exact h_
    have hji5u : (IntKind.i64.wrap (2 ^ min (t164.length : Int).toNat 64)) = ji5 := by have h_ := hji5_; rw [Int.one_mul] at h_; exact h_
    have hji5v : (t164.length : Int) ≤ 64 → (IntKind.i64.wrap (2 ^ (t164.length : Int).toNat)) = ji5 := fun hle_ => by have h_ := hji5z hle_; rw [Int.one_mul] at h_; exact h_
    have hji5y : (wrap64 (1 * 2 ^ min (t164.length : Int).toNat 64)) = ji5 := (i64_w _).symm.trans hji5_
    have hji5x : (t164.length : Int) ≤ 64 → (wrap64 (1 * 2 ^ (t164.length : Int).toNat)) = ji5 := fun h_ => (i64_w _).symm.trans (hji5z h_)
    obtain rfl := Option.some.inj H
    go_enter Try.func16, Try.ntmps16
    go_wp2_with (first | ((with_reducible refine gate_dst (N := 1) rfl ?_); refine box_event ?hg (N := 1) ?hd (cs := #[.int .i64 a0_0, .int .i64 a0_1, .slice A0_2 l0_2.length c0_2]) (t := 24) ?hr ?_; (case hd => rfl); (case hg => rfl); (case hr => first | (go_simp; done) | (go_simp; rfl)); intro gb162 hg w6 hbox hb; have n0_ := Aside0.mk (below_step (by repeat (first | (with_reducible first | exact HB.out | apply below_alloc | apply pw_below_drewN | apply below_drew1) | exact HB.out)) hb); have n1_ := Aside0.mk (hbox); have n2_ := Aside0.mk ((by rw [hg]; exact (below_size (by repeat (first | (with_reducible first | exact HB.out | apply below_alloc | apply pw_below_drewN | apply below_drew1) | exact HB.out))) : w.heap.size ≤ gb162)); have n3_ := Aside0.mk ((by rw [hg]; exact (below_size (by repeat (first | (with_reducible first | exact HB.out | apply below_alloc | apply pw_below_drewN | apply below_drew1) | exact HB.out))) : w.heap.size ≤ gb162)); clear HB; have HB := n0_; have BK162 := n1_; have GW162 := n2_; have GE162 := n3_; clear n0_ n1_ n2_ n3_; clear hb hbox hg; have hcz7_0 : w6.cell? ⟨gb162, 0, none⟩ = some (.int .i64 a0_0) := (blk_cell BK162.out 0).trans rfl; have hcz7_1 : w6.cell? ⟨gb162, 1, none⟩ = some (.int .i64 a0_1) := (blk_cell BK162.out 1).trans rfl; have hcz7_2 : w6.cell? ⟨gb162, 2, none⟩ = some (.slice A0_2 l0_2.length c0_2) := (blk_cell BK162.out 2).trans rfl; have hfz7_0 := blk_frozen BK162.out 0; have hfz7_1 := blk_frozen BK162.out 1; have hfz7_2 := blk_frozen BK162.out 2) | ((with_reducible refine gate_callee (f := 14) rfl ?_); refine goesL_ (some 4) rfl rfl Try.func14 (by kernel_rfl) rfl #[.agg #[.int .i64 a0_0, .int .i64 a0_1, .slice A0_2 l0_2.length c0_2]] rfl (by (try simp only [List.map_toArray, List.map_cons, List.map_nil]); first | done | rfl | (simp only [List.length_drop, List.length_take]; rfl)) ?_; (with_reducible refine (formula_May.calls a0_0 a0_1 _ _ l0_2 t163 _ ?side1 ?side2 A2.out).mono ?_); (case side1 => repeat (first | exact (Kd.C_below HR0_2.out HB.out) | (with_reducible refine Kd.C_alloc ?_ _) | (with_reducible refine Kd.C_drewN ?_ _) | (with_reducible refine Kd.C_drew ?_))); (case side2 => exact HC0_2.out); rintro e w8 ⟨rfl, hb⟩; refine ⟨_, rfl, ?_⟩; have n0_ := Aside0.mk (blk_below (g := gb162) (o := .cells #[.int .i64 a0_0, .int .i64 a0_1, .slice A0_2 l0_2.length c0_2] 24 (0, 0)) (by (with_reducible repeat (first | refine blk_drewN ?_ _ | refine blk_drew ?_ | refine blk_alloc ?_ _)); exact BK162.out) hb); have n1_ := Aside0.mk (below_step (by repeat (first | (with_reducible first | exact HB.out | apply below_alloc | apply pw_below_drewN | apply below_drew1 | refine below_set ?_ GE162.out) | exact HB.out)) hb); clear BK162; clear HB; have BK162 := n0_; have HB := n1_; clear n0_ n1_; (try clear hb); (try clear hb2); (try clear hk); (try clear hi); have hcz9_0 : w8.cell? ⟨gb162, 0, none⟩ = some (.int .i64 a0_0) := (blk_cell BK162.out 0).trans rfl; have hcz9_1 : w8.cell? ⟨gb162, 1, none⟩ = some (.int .i64 a0_1) := (blk_cell BK162.out 1).trans rfl; have hcz9_2 : w8.cell? ⟨gb162, 2, none⟩ = some (.slice A0_2 l0_2.length c0_2) := (blk_cell BK162.out 2).trans rfl; have hfz9_0 := blk_frozen BK162.out 0; have hfz9_1 := blk_frozen BK162.out 1; have hfz9_2 := blk_frozen BK162.out 2) | ((with_reducible refine gate_callee (f := 25) rfl ?_); refine goesL_ (some 7) rfl rfl Try.func25 (by kernel_rfl) rfl #[.agg #[.int .i64 a0_0, .int .i64 a0_1, .slice A0_2 l0_2.length c0_2]] rfl (by (try simp only [List.map_toArray, List.map_cons, List.map_nil]); first | done | rfl | (simp only [List.length_drop, List.length_take]; rfl)) ?_; (with_reducible refine (formula_Times.calls k a0_0 a0_1 _ _ l0_2 t164 _ ?side1 ?side2 A4.out).mono ?_); (case side1 => repeat (first | exact (Kd.C_below HR0_2.out HB.out) | (with_reducible refine Kd.C_alloc ?_ _) | (with_reducible refine Kd.C_drewN ?_ _) | (with_reducible refine Kd.C_drew ?_))); (case side2 => exact HC0_2.out); rintro e w10 ⟨v165, rfl, ho0, hb⟩; refine ⟨_, rfl, ?_⟩; have n0_ := Aside0.mk (Kd.N_lower (Kd.N_mono (ok' := fun k_ => k_ ≠ gb162) ho0 (fun k_ hk_ => (Kd.freshB (g := gb162) (o := .cells #[.int .i64 a0_0, .int .i64 a0_1, .slice A0_2 l0_2.length c0_2] 24 (0, 0)) (by (with_reducible repeat (first | refine blk_drewN ?_ _ | refine blk_drew ?_ | refine blk_alloc ?_ _)); exact BK162.out) k_ hk_))) (below_size (by repeat (first | (with_reducible first | exact HB.out | apply below_alloc | apply pw_below_drewN | apply below_drew1 | refine below_set ?_ GE162.out) | exact HB.out)))); have n1_ := Aside0.mk (blk_below (g := gb162) (o := .cells #[.int .i64 a0_0, .int .i64 a0_1, .slice A0_2 l0_2.length c0_2] 24 (0, 0)) (by (with_reducible repeat (first | refine blk_drewN ?_ _ | refine blk_drew ?_ | refine blk_alloc ?_ _)); exact BK162.out) hb); have n2_ := Aside0.mk (below_step (by repeat (first | (with_reducible first | exact HB.out | apply below_alloc | apply pw_below_drewN | apply below_drew1 | refine below_set ?_ GE162.out) | exact HB.out)) hb); clear BK162; clear HB; have HO166 := n0_; have BK162 := n1_; have HB := n2_; clear n0_ n1_ n2_; (try clear hb); (try clear hb2); (try clear hk); (try clear hi); (try clear ho0); obtain ⟨Ao11, co11, eo11⟩ := Kd.N_slice HO166.out; subst eo11))
    go_ret
    exact ⟨by first | rfl | (simp [errW_none, errW_some] <;> rfl) | (simp only [← hji5]; first | rfl | (simp [errW_none, errW_some] <;> rfl)) | (simp [*, errW_none, errW_some] <;> rfl), by repeat (first | (with_reducible first | exact HB.out | apply below_alloc | apply pw_below_drewN | apply below_drew1 | refine below_set ?_ GE162.out) | exact HB.out)⟩
  · rw [if_neg c3] at H
    have c3b0 : (t163 == 0) = false := beq_eq_false_iff_ne.mpr c3
    have c3b1 : (t163 != 0) = true := bne_iff_ne.mpr c3
    obtain rfl := Option.some.inj H
    go_enter Try.func16, Try.ntmps16
    go_wp2_with (first | ((with_reducible refine gate_dst (N := 1) rfl ?_); refine box_event ?hg (N := 1) ?hd (cs := #[.int .i64 a0_0, .int .i64 a0_1, .slice A0_2 l0_2.length c0_2]) (t := 24) ?hr ?_; (case hd => rfl); (case hg => rfl); (case hr => first | (go_simp; done) | (go_simp; rfl)); intro gb162 hg w12 hbox hb; have n0_ := Aside0.mk (below_step (by repeat (first | (with_reducible first | exact HB.out | apply below_alloc | apply pw_below_drewN | apply below_drew1) | exact HB.out)) hb); have n1_ := Aside0.mk (hbox); have n2_ := Aside0.mk ((by rw [hg]; exact (below_size (by repeat (first | (with_reducible first | exact HB.out | apply below_alloc | apply pw_below_drewN | apply below_drew1) | exact HB.out))) : w.heap.size ≤ gb162)); have n3_ := Aside0.mk ((by rw [hg]; exact (below_size (by repeat (first | (with_reducible first | exact HB.out | apply below_alloc | apply pw_below_drewN | apply below_drew1) | exact HB.out))) : w.heap.size ≤ gb162)); clear HB; have HB := n0_; have BK162 := n1_; have GW162 := n2_; have GE162 := n3_; clear n0_ n1_ n2_ n3_; clear hb hbox hg; have hcz13_0 : w12.cell? ⟨gb162, 0, none⟩ = some (.int .i64 a0_0) := (blk_cell BK162.out 0).trans rfl; have hcz13_1 : w12.cell? ⟨gb162, 1, none⟩ = some (.int .i64 a0_1) := (blk_cell BK162.out 1).trans rfl; have hcz13_2 : w12.cell? ⟨gb162, 2, none⟩ = some (.slice A0_2 l0_2.length c0_2) := (blk_cell BK162.out 2).trans rfl; have hfz13_0 := blk_frozen BK162.out 0; have hfz13_1 := blk_frozen BK162.out 1; have hfz13_2 := blk_frozen BK162.out 2) | ((with_reducible refine gate_callee (f := 14) rfl ?_); refine goesL_ (some 4) rfl rfl Try.func14 (by kernel_rfl) rfl #[.agg #[.int .i64 a0_0, .int .i64 a0_1, .slice A0_2 l0_2.length c0_2]] rfl (by (try simp only [List.map_toArray, List.map_cons, List.map_nil]); first | done | rfl | (simp only [List.length_drop, List.length_take]; rfl)) ?_; (with_reducible refine (formula_May.calls a0_0 a0_1 _ _ l0_2 t163 _ ?side1 ?side2 A2.out).mono ?_); (case side1 => repeat (first | exact (Kd.C_below HR0_2.out HB.out) | (with_reducible refine Kd.C_alloc ?_ _) | (with_reducible refine Kd.C_drewN ?_ _) | (with_reducible refine Kd.C_drew ?_))); (case side2 => exact HC0_2.out); rintro e w14 ⟨rfl, hb⟩; refine ⟨_, rfl, ?_⟩; have n0_ := Aside0.mk (blk_below (g := gb162) (o := .cells #[.int .i64 a0_0, .int .i64 a0_1, .slice A0_2 l0_2.length c0_2] 24 (0, 0)) (by (with_reducible repeat (first | refine blk_drewN ?_ _ | refine blk_drew ?_ | refine blk_alloc ?_ _)); exact BK162.out) hb); have n1_ := Aside0.mk (below_step (by repeat (first | (with_reducible first | exact HB.out | apply below_alloc | apply pw_below_drewN | apply below_drew1 | refine below_set ?_ GE162.out) | exact HB.out)) hb); clear BK162; clear HB; have BK162 := n0_; have HB := n1_; clear n0_ n1_; (try clear hb); (try clear hb2); (try clear hk); (try clear hi)))
    go_ret
    exact ⟨by first | rfl | (simp [errW_none, errW_some] <;> rfl) | (simp [*, errW_none, errW_some] <;> rfl), by repeat (first | (with_reducible first | exact HB.out | apply below_alloc | apply pw_below_drewN | apply below_drew1 | refine below_set ?_ GE162.out) | exact HB.out)⟩

end Go.Proofs.Ytegaicoddnmemaa.P

namespace Go.Proofs.Ytegaicoddnmemaa.P
open Go.RowKit Go.Proofs.YtegaicoddnmemaaW.PrintWords Go.Proofs.YtegaicoddnmemaaW.PrintLast Go.Proofs.YtegaicoddnmemaaW.PrintMore
attribute [local go_sem] max2_int min2_int max_two min_two max_three min_three max_four min_four   -- for this text's walks alone
set_option linter.unusedVariables false
set_option linter.unusedSimpArgs false

def tableau_state.f (k : Nat) (a0_0 : Int) (a0_1 : Int) (l0_2 : List (S24)) (a1 : Int) : Option (Bool) := if a1 ≥ 0 then ((tableau_Size.f k a0_0 a0_1 l0_2).bind fun t168 => (some (decide (a1 < t168)))) else (some false)
theorem tableau_state.mono : ∀ a0 a1 a2 a3 k, LeO (tableau_state.f k a0 a1 a2 a3) (tableau_state.f (k + 1) a0 a1 a2 a3) := by
  intro a0 a1 a2 a3 k
  unfold tableau_state.f
  repeat' first
      | (with_reducible exact tableau_Size.mono _ _ _ _)
      | (with_reducible exact LeO.refl _)
      | (with_reducible exact LeO.none _)
      | (with_reducible refine LeO.ite ?_ ?_)
      | (with_reducible refine LeO.bind ?_ (fun _ => ?_))
      | exact tableau_Size.mono _ _ _ _
      | exact LeO.none _
      | refine LeO.ite ?_ ?_
      | refine LeO.bind ?_ (fun _ => ?_)
set_option maxHeartbeats 8000000 in
set_option maxRecDepth 100000 in
theorem tableau_state.calls (k : Nat) (a0_0 : Int) (a0_1 : Int) (A0_2 : Option Addr) (c0_2 : Nat) (l0_2 : List (S24)) (a1 : Int) (r : Bool) (w : World) (hr0_2 : Kd.C k24 w A0_2 l0_2.length l0_2) (hc0_2 : l0_2.length ≤ c0_2) (h : tableau_state.f k a0_0 a0_1 l0_2 a1 = some r) :
    Calls Try.prog 37 #[.agg #[.int .i64 a0_0, .int .i64 a0_1, .slice A0_2 l0_2.length c0_2], .int .i64 a1] w fun e w' => e = .returned (.bool r) ∧ Below w.heap.size w w' := by
  have hu24 := Try.underlying24
  have HR0_2 := Aside0.mk hr0_2
  have HC0_2 := Aside0.mk hc0_2
  clear hr0_2 hc0_2
  have HB := Aside0.mk (Below.refl w.heap.size w)
  have H : (if a1 ≥ 0 then ((tableau_Size.f k a0_0 a0_1 l0_2).bind fun t168 => (some (decide (a1 < t168)))) else (some false)) = some r := h
  clear h
  by_cases c3 : a1 ≥ 0
  · rw [if_pos c3] at H
    have c3b0 : decide (0 ≤ a1) = true := decide_eq_true c3
    clear c3
    replace H := Option.bind_eq_some_iff.mp H
    obtain ⟨t168, A40, H⟩ := H
    replace H : (some (decide (a1 < t168))) = some r := H
    have A4 := Aside0.mk A40
    clear A40
    obtain rfl := Option.some.inj H
    go_enter Try.func37, Try.ntmps37
    go_wp2_with (first | ((with_reducible refine gate_dst (N := 2) rfl ?_); refine box_event ?hg (N := 2) ?hd (cs := #[.int .i64 a0_0, .int .i64 a0_1, .slice A0_2 l0_2.length c0_2]) (t := 24) ?hr ?_; (case hd => rfl); (case hg => rfl); (case hr => first | (go_simp; done) | (go_simp; rfl)); intro gb167 hg w5 hbox hb; have n0_ := Aside0.mk (below_step (by repeat (first | (with_reducible first | exact HB.out | apply below_alloc | apply pw_below_drewN | apply below_drew1) | exact HB.out)) hb); have n1_ := Aside0.mk (hbox); have n2_ := Aside0.mk ((by rw [hg]; exact (below_size (by repeat (first | (with_reducible first | exact HB.out | apply below_alloc | apply pw_below_drewN | apply below_drew1) | exact HB.out))) : w.heap.size ≤ gb167)); have n3_ := Aside0.mk ((by rw [hg]; exact (below_size (by repeat (first | (with_reducible first | exact HB.out | apply below_alloc | apply pw_below_drewN | apply below_drew1) | exact HB.out))) : w.heap.size ≤ gb167)); clear HB; have HB := n0_; have BK167 := n1_; have GW167 := n2_; have GE167 := n3_; clear n0_ n1_ n2_ n3_; clear hb hbox hg; have hcz6_0 : w5.cell? ⟨gb167, 0, none⟩ = some (.int .i64 a0_0) := (blk_cell BK167.out 0).trans rfl; have hcz6_1 : w5.cell? ⟨gb167, 1, none⟩ = some (.int .i64 a0_1) := (blk_cell BK167.out 1).trans rfl; have hcz6_2 : w5.cell? ⟨gb167, 2, none⟩ = some (.slice A0_2 l0_2.length c0_2) := (blk_cell BK167.out 2).trans rfl; have hfz6_0 := blk_frozen BK167.out 0; have hfz6_1 := blk_frozen BK167.out 1; have hfz6_2 := blk_frozen BK167.out 2) | (go_at_call 16; (with_reducible refine (tableau_Size.calls k a0_0 a0_1 _ _ l0_2 t168 _ ?side1 ?side2 A4.out).mono ?_); (case side1 => repeat (first | exact (Kd.C_below HR0_2.out HB.out) | (with_reducible refine Kd.C_alloc ?_ _) | (with_reducible refine Kd.C_drewN ?_ _) | (with_reducible refine Kd.C_drew ?_))); (case side2 => exact HC0_2.out); rintro e w7 ⟨rfl, hb⟩; have n0_ := Aside0.mk (blk_below (g := gb167) (o := .cells #[.int .i64 a0_0, .int .i64 a0_1, .slice A0_2 l0_2.length c0_2] 24 (0, 0)) (by (with_reducible repeat (first | refine blk_drewN ?_ _ | refine blk_drew ?_ | refine blk_alloc ?_ _)); exact BK167.out) hb); have n1_ := Aside0.mk (below_step (by repeat (first | (with_reducible first | exact HB.out | apply below_alloc | apply pw_below_drewN | apply below_drew1 | refine below_set ?_ GE167.out) | exact HB.out)) hb); clear BK167; clear HB; have BK167 := n0_; have HB := n1_; clear n0_ n1_; (try clear hb); (try clear hb2); (try clear hk); (try clear hi)))
    go_ret
    exact ⟨by first | rfl | (simp [errW_none, errW_some] <;> rfl) | (simp [*, errW_none, errW_some] <;> rfl), by repeat (first | (with_reducible first | exact HB.out | apply below_alloc | apply pw_below_drewN | apply below_drew1 | refine below_set ?_ GE167.out) | exact HB.out)⟩
  · rw [if_neg c3] at H
    have c3b0 : decide (0 ≤ a1) = false := decide_eq_false c3
    clear c3
    obtain rfl := Option.some.inj H
    go_enter Try.func37, Try.ntmps37
    go_wp2_with (first | ((with_reducible refine gate_dst (N := 2) rfl ?_); refine box_event ?hg (N := 2) ?hd (cs := #[.int .i64 a0_0, .int .i64 a0_1, .slice A0_2 l0_2.length c0_2]) (t := 24) ?hr ?_; (case hd => rfl); (case hg => rfl); (case hr => first | (go_simp; done) | (go_simp; rfl)); intro gb167 hg w8 hbox hb; have n0_ := Aside0.mk (below_step (by repeat (first | (with_reducible first | exact HB.out | apply below_alloc | apply pw_below_drewN | apply below_drew1) | exact HB.out)) hb); have n1_ := Aside0.mk (hbox); have n2_ := Aside0.mk ((by rw [hg]; exact (below_size (by repeat (first | (with_reducible first | exact HB.out | apply below_alloc | apply pw_below_drewN | apply below_drew1) | exact HB.out))) : w.heap.size ≤ gb167)); have n3_ := Aside0.mk ((by rw [hg]; exact (below_size (by repeat (first | (with_reducible first | exact HB.out | apply below_alloc | apply pw_below_drewN | apply below_drew1) | exact HB.out))) : w.heap.size ≤ gb167)); clear HB; have HB := n0_; have BK167 := n1_; have GW167 := n2_; have GE167 := n3_; clear n0_ n1_ n2_ n3_; clear hb hbox hg))
    go_ret
    exact ⟨by first | rfl | (simp [errW_none, errW_some] <;> rfl) | (simp [*, errW_none, errW_some] <;> rfl), by repeat (first | (with_reducible first | exact HB.out | apply below_alloc | apply pw_below_drewN | apply below_drew1 | refine below_set ?_ GE167.out) | exact HB.out)⟩

def parryref22_Timed.f (a0 : Int) : Option (Bool) := if a0 = 6 then (some true) else (if a0 = 7 then (some true) else (some (a0 == 8)))
set_option maxHeartbeats 8000000 in
set_option maxRecDepth 100000 in
theorem parryref22_Timed.calls (a0 : Int) (r : Bool) (w : World) (h : parryref22_Timed.f a0 = some r) :
    Calls Try.prog 46 #[.int .i64 a0] w fun e w' => e = .returned (.bool r) ∧ Drawn0 w w' := by
  have H : (if a0 = 6 then (some true) else (if a0 = 7 then (some true) else (some (a0 == 8)))) = some r := h
  clear h
  by_cases c2 : a0 = 6
  · rw [if_pos c2] at H
    have c2b0 : (a0 == 6) = true := beq_iff_eq.mpr c2
    have c2b1 : (a0 != 6) = false := bne_eq_false_iff_eq.mpr c2
    clear c2
    obtain rfl := Option.some.inj H
    go_enter Try.func46, Try.ntmps46
    go_wp2
    go_ret
    exact ⟨by first | rfl | (simp; done) | (simp [*]; done), by repeat (first | exact Drawn0.refl _ | apply Drawn0.step)⟩
  · rw [if_neg c2] at H
    have c2b0 : (a0 == 6) = false := beq_eq_false_iff_ne.mpr c2
    have c2b1 : (a0 != 6) = true := bne_iff_ne.mpr c2
    by_cases c3 : a0 = 7
    · rw [if_pos c3] at H
      have c3b0 : (a0 == 7) = true := beq_iff_eq.mpr c3
      have c3b1 : (a0 != 7) = false := bne_eq_false_iff_eq.mpr c3
      clear c3
      obtain rfl := Option.some.inj H
      go_enter Try.func46, Try.ntmps46
      go_wp2
      go_ret
      exact ⟨by first | rfl | (simp; done) | (simp [*]; done), by repeat (first | exact Drawn0.refl _ | apply Drawn0.step)⟩
    · rw [if_neg c3] at H
      have c3b0 : (a0 == 7) = false := beq_eq_false_iff_ne.mpr c3
      have c3b1 : (a0 != 7) = true := bne_iff_ne.mpr c3
      obtain rfl := Option.some.inj H
      go_enter Try.func46, Try.ntmps46
      go_wp2
      go_ret
      exact ⟨by first | rfl | (simp; done) | (simp [*]; done), by repeat (first | exact Drawn0.refl _ | apply Drawn0.step)⟩

end Go.Proofs.Ytegaicoddnmemaa.P

namespace Go.Proofs.Ytegaicoddnmemaa.X
open Go.RowKit Go.Proofs.YtegaicoddnmemaaW.PrintWords Go.Proofs.YtegaicoddnmemaaW.PrintMore
open Go.Proofs.Ytegaicoddnmemaa.P Go.Proofs.Ytegaicoddnmemaa.Evx
set_option linter.unusedVariables false
set_option linter.unusedSimpArgs false
theorem eta_f (s : S24) : (⟨s.f0, s.f1, s.f2⟩ : S24) = s := by cases s; rfl
theorem may_some (s : S24) : formula_May.f s.f0 s.f1 s.f2 = some (mayF s) := by cases s; rfl
theorem copied_l (kids : List S24) (op m : Int) (hl : kids.length ≤ 60) (ih : ∀ k ∈ kids, Ev (fun n => formula_copied.f n k.f0 k.f1 k.f2) (k.f0, k.f1, k.f2)) :
    ∀ (d j : Nat) (acc : List S24), j + d = kids.length → acc = kids.take j → Ev (fun n => formula_copied.l0 n kids (kids.length : Int) j op m acc) (op, m, kids)
  | 0, j, acc, hj, ha => by
    refine ev_step (fun k => rfl) (ev_neg (by omega) ?_)
    refine ev_eq (ev_some _) ?_
    rw [ha, List.take_of_length_le (by omega)]
  | d + 1, j, acc, hj, ha => by
    have hlt : j < kids.length := by omega
    refine ev_step (fun k => rfl) (ev_pos (by omega) (ev_pos (by omega) (ev_pos (by omega) ?_)))
    rw [rdT_nat kids j hlt]
    refine ev_bind (ih _ (List.getElem_mem hlt)) ?_
    refine ev_pos (by rw [ha, List.length_take]; omega) ?_
    rw [w64 (by omega) (by omega)]
    have := copied_l kids op m hl ih d (j + 1) (acc ++ [⟨(kids[j]'hlt).f0, (kids[j]'hlt).f1, (kids[j]'hlt).f2⟩]) (by omega) (by rw [ha, List.take_succ_eq_append_getElem hlt, eta_f])
    exact_mod_cast this
mutual
theorem copied_ev : ∀ s : S24, soundS s = true → Ev (fun n => formula_copied.f n s.f0 s.f1 s.f2) (s.f0, s.f1, s.f2)
  | ⟨op, m, kids⟩, h => by
    refine ev_step (fun k => rfl) ?_
    exact copied_l kids op m (by have := sound_len h; simp only at this; omega) (copied_evL kids (sound_kids_all h)) kids.length 0 [] (by omega) rfl
theorem copied_evL : ∀ l : List S24, soundL l = true → ∀ k ∈ l, Ev (fun n => formula_copied.f n k.f0 k.f1 k.f2) (k.f0, k.f1, k.f2)
  | [], _, k, hk => by cases hk
  | a :: r, h, k, hk => by
    simp only [soundL, Bool.and_eq_true] at h
    rcases List.mem_cons.1 hk with e | e
    · rw [e]; exact copied_ev a h.1
    · exact copied_evL r h.2 k e
end
theorem times_l (kids : List S24) (T : List S24) (hT : T.length ≤ 1000) (hb : kids.length ≤ 60) (ih : ∀ k ∈ kids, Ev (fun n => formula_times.f n k.f0 k.f1 k.f2) (timesS k)) :
    ∀ (d j : Nat) (acc : List S24), j + d = kids.length → acc ++ timesL (kids.drop j) = T → Ev (fun n => formula_times.l0 n acc kids (kids.length : Int) j) T
  | 0, j, acc, hj, ha => by
    refine ev_step (fun k => rfl) (ev_neg (by omega) ?_)
    refine ev_eq (ev_some _) ?_
    rw [← ha, List.drop_eq_nil_of_le (by omega), timesL, List.append_nil]
  | d + 1, j, acc, hj, ha => by
    have hlt : j < kids.length := by omega
    have hd := List.drop_eq_getElem_cons hlt
    rw [hd, timesL, ← List.append_assoc] at ha
    refine ev_step (fun k => rfl) (ev_pos (by omega) (ev_pos (by omega) (ev_pos (by omega) ?_)))
    rw [rdT_nat kids j hlt]
    refine ev_bind (ih _ (List.getElem_mem hlt)) ?_
    refine ev_pos (by rw [← ha] at hT; simp only [List.length_append] at hT; omega) ?_
    rw [w64 (by omega) (by omega)]
    have := times_l kids T hT hb ih d (j + 1) (acc ++ timesS (kids[j]'hlt)) (by omega) ha
    exact_mod_cast this
mutual
theorem times_ev : ∀ s : S24, soundS s = true → tnS s ≤ 1000 → Ev (fun n => formula_times.f n s.f0 s.f1 s.f2) (timesS s)
  | ⟨op, m, kids⟩, h, ht => by
    have hk : kids.length ≤ 60 := by have := sound_len h; simp only at this; omega
    have hL : (timesS (⟨op, m, kids⟩ : S24)).length ≤ 1000 := by rw [len_times]; exact ht
    have h0 : ∀ (acc : List S24) (x y : Int), acc = (if timedS op = true then [(⟨op, m, kids⟩ : S24)] else []) → Ev (fun n => formula_times.j0 n acc x y kids) (timesS (⟨op, m, kids⟩ : S24)) := by
      intro acc x y ha
      refine ev_step (fun k => rfl) ?_
      exact times_l kids _ hL hk (times_evL kids (sound_kids_all h) (by simp only [tnS] at ht; omega)) kids.length 0 acc (by omega) (by rw [ha, timesS]; rfl)
    refine ev_step (fun k => rfl) ?_
    refine ev_bindv (timed_some op) (ev_bool (fun c => ?_) (fun c => ?_))
    · refine ev_bind (copied_ev _ h) (ev_pos (by simp) ?_)
      exact h0 _ _ _ (by rw [if_pos c]; rfl)
    · exact h0 _ _ _ (by rw [if_neg (by rw [c]; simp)])
theorem times_evL : ∀ l : List S24, soundL l = true → tnL l ≤ 1000 → ∀ k ∈ l, Ev (fun n => formula_times.f n k.f0 k.f1 k.f2) (timesS k)
  | [], _, _, k, hk => by cases hk
  | a :: r, h, ht, k, hk => by
    simp only [soundL, Bool.and_eq_true] at h
    simp only [tnL] at ht
    rcases List.mem_cons.1 hk with e | e
    · rw [e]; exact times_ev a h.1 (by omega)
    · exact times_evL r h.2 (by omega) k e
end
def TimesS (s : S24) : List S24 := if mayF s = 0 then timesS s else []
theorem Times_ev (s : S24) : Ev (fun n => formula_Times.f n s.f0 s.f1 s.f2) (TimesS s) := by
  unfold formula_Times.f
  refine ev_bindv (may_some s) (ev_ite (fun c => ?_) (fun c => ?_))
  · have hz := may_zero c
    refine ev_bind (times_ev s hz.2.2.2 (by omega)) (ev_eq (ev_some _) ?_)
    unfold TimesS
    rw [if_pos c]
  · exact ev_eq (ev_some _) (by unfold TimesS; rw [if_neg c])
theorem shl_one (n : Nat) (h : n ≤ 8) : shl .i64 1 (n : Int) = 2 ^ n := by
  have : n = 0 ∨ n = 1 ∨ n = 2 ∨ n = 3 ∨ n = 4 ∨ n = 5 ∨ n = 6 ∨ n = 7 ∨ n = 8 := by omega
  rcases this with h | h | h | h | h | h | h | h | h <;> subst h <;> decide
theorem Size_ev (s : S24) : Ev (fun n => tableau_Size.f n s.f0 s.f1 s.f2) (sizeS s) := by
  unfold tableau_Size.f
  refine ev_bindv (may_some s) (ev_ite (fun c => ?_) (fun c => ?_))
  · have hz := may_zero c
    refine ev_bind (Times_ev s) (ev_eq (ev_some _) ?_)
    unfold TimesS sizeS
    rw [if_pos c, if_pos c, len_times, shl_one _ hz.2.2.1]
  · exact ev_eq (ev_some _) (by unfold sizeS; rw [if_neg c])
theorem state_ev (s : S24) (sv : Int) : Ev (fun n => tableau_state.f n s.f0 s.f1 s.f2 sv) (stateS s sv) := by
  unfold tableau_state.f
  refine ev_ite (fun c => ?_) (fun c => ?_)
  · refine ev_bind (Size_ev s) (ev_eq (ev_some _) ?_)
    unfold stateS
    rw [decide_eq_decide]
    omega
  · refine ev_eq (ev_some _) ?_
    unfold stateS
    rw [decide_eq_false]
    omega
end Go.Proofs.Ytegaicoddnmemaa.X

namespace Go.Proofs.Ytegaicoddnmemaa.X
open Go.RowKit Go.Proofs.YtegaicoddnmemaaW.PrintWords Go.Proofs.YtegaicoddnmemaaW.PrintLast Go.Proofs.YtegaicoddnmemaaW.PrintMore
open Go.Proofs.Ytegaicoddnmemaa.P Go.Proofs.Ytegaicoddnmemaa.Evx
set_option linter.unusedSimpArgs false
set_option linter.unusedVariables false
mutual
theorem rd_all (w0 : World) : ∀ s : S24, RdAt w0 s
  | ⟨op, m, kids⟩ => value_calls w0 ⟨op, m, kids⟩ (rd_kids w0 kids)
theorem rd_kids (w0 : World) : ∀ (l : List S24) (k : S24), k ∈ l → RdAt w0 k
  | [], k, hk => by simp at hk
  | a :: r, k, hk => by
    rcases List.mem_cons.1 hk with h | h
    · rw [h]
      exact rd_all w0 a
    · exact rd_kids w0 r k h
end
theorem rdr_new (w W : World) (sv lt : Int) (hB : Below w.heap.size w W) : Rdr w (W.alloc (.cells #[.int .i64 sv, .int .u32 lt, .slice none 0 0, .slice none 0 0] 64)) W.heap.size sv lt [] [] (.slice none 0 0) (.slice none 0 0) :=
  { blk := heap_alloc_new W _, o1 := World.ownsRow_nil _ _ _ _, o2 := World.ownsRow_nil _ _ _ _, ne := .inl rfl, bl := below_alloc hB _, rb0 := hB.size }
set_option maxHeartbeats 1600000 in
theorem read_calls (s : S24) (sv lt : Int) (A : Option Addr) (cp : Nat) (w : World) (hr : Kd.C k24 w A s.f2.length s.f2) (hc : s.f2.length ≤ cp) (hs : soundS s = true) (ht : tnS s ≤ 60) :
    Calls Try.prog 38 #[.agg #[.int .i64 s.f0, .int .i64 s.f1, .slice A s.f2.length cp], .int .i64 sv, .int .u32 lt] w fun e w' => ∃ rb v1 v2, e = .returned (.tuple #[.pointer (some ⟨rb, 0, none⟩), .bool (valS sv lt s 0)]) ∧ Rdr w w' rb sv lt (saidS sv lt s 0) (goodS sv lt s 0) v1 v2 := by
  have huF := Try.underlying24
  have hur := Try.underlying64
  have hR := rdr_new w (w.alloc (.cells #[.int .i64 s.f0, .int .i64 s.f1, .slice A s.f2.length cp] 24)) sv lt (below_alloc (Below.refl _ _) _)
  have hz : (w.alloc (.cells #[.int .i64 s.f0, .int .i64 s.f1, .slice A s.f2.length cp] 24)).heap.size = w.heap.size + 1 := by simp
  rw [hz] at hR
  have HC := Aside0.mk (rd_all w s (w.heap.size + 1) sv lt [] [] (.slice none 0 0) (.slice none 0 0) A cp _ hR rfl (by simpa using ht) hr hc hs)
  clear hR hz hr hc hs ht
  go_enter Try.func38, Try.ntmps38
  go_wp2_with (go_at_call 52; refine HC.out.mono ?_; rintro e w1 ⟨rfl, v1, v2, hR, hF⟩; have HR := Aside0.mk hR; clear hR hF)
  go_ret2
  exact ⟨w.heap.size + 1, v1, v2, rfl, HR.out⟩
def valueF (s : S24) (sv lt : Int) : Bool := if stateS s sv = true then valS sv lt s 0 else false
set_option maxHeartbeats 1600000 in
theorem Value_calls (s : S24) (sv lt : Int) (A : Option Addr) (cp : Nat) (w : World) (hr : Kd.C k24 w A s.f2.length s.f2) (hc : s.f2.length ≤ cp) :
    Calls Try.prog 17 #[.agg #[.int .i64 s.f0, .int .i64 s.f1, .slice A s.f2.length cp], .int .i64 sv, .int .u32 lt] w fun e w' => e = .returned (.bool (valueF s sv lt)) ∧ Below w.heap.size w w' := by
  have huF := Try.underlying24
  obtain ⟨W1, hW1⟩ : ∃ W1, W1 = w.alloc (.cells #[.int .i64 s.f0, .int .i64 s.f1, .slice A s.f2.length cp] 24) := ⟨_, rfl⟩
  have hB1 : Below w.heap.size w W1 := by rw [hW1]; exact below_alloc (Below.refl _ _) _
  have hbx : W1.heap[w.heap.size]? = some (.cells #[.int .i64 s.f0, .int .i64 s.f1, .slice A s.f2.length cp] 24 (0, 0)) := by rw [hW1]; exact heap_alloc_new w _
  have HBX := Aside0.mk hbx
  have HB1 := Aside0.mk hB1
  have HR := Aside0.mk hr
  have HW1 := Aside0.mk hW1
  have x0 : W1.cell? ⟨w.heap.size, 0, none⟩ = some (.int .i64 s.f0) := (blk_cell hbx 0).trans rfl
  have x1 : W1.cell? ⟨w.heap.size, 1, none⟩ = some (.int .i64 s.f1) := (blk_cell hbx 1).trans rfl
  have x2 : W1.cell? ⟨w.heap.size, 2, none⟩ = some (.slice A s.f2.length cp) := (blk_cell hbx 2).trans rfl
  obtain ⟨k1, hk1⟩ := (state_ev s sv).rounds
  have HVF := Aside0.mk (show valueF s sv lt = if stateS s sv = true then valS sv lt s 0 else false from rfl)
  have HM := Aside0.mk (@state_may s sv)
  have HK1 := Aside0.mk hk1
  clear hbx hB1 hr hk1
  cases hst : stateS s sv with
  | false =>
    rw [hst] at HK1 HVF
    have HX := Aside0.mk (show valueF s sv lt = false from by rw [HVF.out]; rfl)
    clear hst
    go_enter Try.func17, Try.ntmps17
    go_upto_region 1 with fail
    rw [← hW1]
    clear hW1
    go_wp2_with (go_at_call 37; refine (tableau_state.calls k1 s.f0 s.f1 A cp s.f2 sv false _ (Kd.C_below HR.out HB1.out) hc HK1.out).mono ?_; rintro e w1 ⟨rfl, hB⟩; have HB := Aside0.mk hB; clear hB)
    go_ret
    exact ⟨show Ending.returned (.bool false) = _ from by rw [HX.out], HB1.out.trans (HB.out.mono HB1.out.size)⟩
  | true =>
    have hz := may_zero (HM.out hst)
    have HZ := Aside0.mk hz
    rw [hst] at HK1 HVF
    have HX := Aside0.mk (show valueF s sv lt = valS sv lt s 0 from by rw [HVF.out]; rfl)
    clear hst hz
    go_enter Try.func17, Try.ntmps17
    go_upto_region 1 with fail
    rw [← hW1]
    clear hW1
    go_wp2_with (first | (go_at_call 37; refine (tableau_state.calls k1 s.f0 s.f1 A cp s.f2 sv true _ (Kd.C_below HR.out HB1.out) hc HK1.out).mono ?_; rintro e w1 ⟨rfl, hB⟩; have HB := Aside0.mk (HB1.out.trans (hB.mono HB1.out.size)); have HBX1 := Aside0.mk ((hB.block _ (blk_lt HBX.out)).trans HBX.out); have y0 := (blk_cell HBX1.out 0).trans rfl; have y1 := (blk_cell HBX1.out 1).trans rfl; have y2 := (blk_cell HBX1.out 2).trans rfl; clear hB) | (go_at_call 38; refine (read_calls s sv lt A cp _ (Kd.C_below HR.out HB.out) hc HZ.out.2.2.2 (by have := HZ.out; omega)).mono ?_; rintro e w2 ⟨rb, v1, v2, rfl, hRd⟩; have HB2 := Aside0.mk (HB.out.trans (hRd.bl.mono HB.out.size)); clear hRd))
    go_ret
    exact ⟨show Ending.returned (.bool (valS sv lt s 0)) = _ from by rw [HX.out], HB2.out⟩
end Go.Proofs.Ytegaicoddnmemaa.X

namespace Go.Proofs.Ytegaicoddnmemaa.X
open Go.RowKit Go.Proofs.YtegaicoddnmemaaW.PrintWords Go.Proofs.YtegaicoddnmemaaW.PrintLast Go.Proofs.YtegaicoddnmemaaW.PrintMore
open Go.Proofs.Ytegaicoddnmemaa.P
set_option linter.unusedSimpArgs false
set_option linter.unusedVariables false
theorem infoU32 : (Try.prog.info? 36).map (fun i => (i.zero, i.size, i.bytes)) = some (some (.int .u32 0), 1, 4) := by kernel_rfl
set_option maxHeartbeats 1600000 in
theorem Grow_nil (m : Int) (w : World) (h0 : 0 < m) (h1 : m < 1000000000) :
    Calls Try.prog 54 #[.slice none 0 0, .int .i64 m] w fun e w' => ∃ v, e = .returned v ∧ Kd.R (Kd.int .u32) 36 w' w.heap.size (fun _ => True) v [] ∧ Below w.heap.size w w' := by
  have hus := Try.underlying25
  have hui := Try.underlying3
  have hnn : ¬ m < 0 := by omega
  go_enter Try.func54, Try.ntmps54
  go_wp2_with ((with_reducible refine gate_builtin (b := .append) (xs := #[.tmp 20, .tmp 21]) rfl ?_); at_builtin; refine Kd.R_append_zeros (Kd.int .u32) (w0 := w) w.heap.size rfl (.tmp 20) (.tmp 21) 25 3 36 (.int .u32 0) 4 rfl hus hui infoU32 rfl (by decide) (by decide) (.slice none 0 0) [] 0 (kx := .i64) m (fun _ => True) rfl rfl rfl (fun _ _ => trivial) (Kd.R_nil _ _ _ _ _) (by omega) (Below.refl _ _) (Nat.le_refl _) (by simp; omega) ?_; intro v1 w1 hR hB hg hat; obtain ⟨A1, c1, hv1⟩ := Kd.R_slice hR; subst hv1; have HR := Aside0.mk hR; have HB := Aside0.mk hB; clear hR hB hg hat)
  go_ret
  exact ⟨_, rfl, by have := Kd.R_take (m := 0) HR.out (by simp); simpa using this, HB.out⟩
set_option maxHeartbeats 4000000 in
set_option maxRecDepth 100000 in
theorem Concat_calls (gb : Nat) (A1 A2 : Option Addr) (c1 c2 : Nat) (l1 l2 : List Int) (w : World) (hb : w.heap[gb]? = some (.cells #[.slice A1 l1.length c1, .slice A2 l2.length c2] 25 (0, 0))) (hr1 : Kd.C (Kd.int .u32) w A1 l1.length l1) (hr2 : Kd.C (Kd.int .u32) w A2 l2.length l2) (h0 : 0 < l1.length + l2.length) (h1 : l1.length + l2.length < 1000000000) :
    Calls Try.prog 41 #[.slice (some ⟨gb, 0, none⟩) 2 2] w fun e w' => ∃ v, e = .returned v ∧ Kd.R (Kd.int .u32) 36 w' w.heap.size (fun _ => True) v (l1 ++ l2) ∧ Below w.heap.size w w' := by
  have hus := Try.underlying25
  have huss := Try.underlying84
  have hui := Try.underlying3
  have hgb : gb < w.heap.size := blk_lt hb
  have x0 : w.cell? ⟨gb, 0, none⟩ = some (.slice A1 l1.length c1) := (blk_cell hb 0).trans rfl
  have x1 : w.cell? ⟨gb, 1, none⟩ = some (.slice A2 l2.length c2) := (blk_cell hb 1).trans rfl
  have R1 := Aside0.mk hr1
  have R2 := Aside0.mk hr2
  have X0 := Aside0.mk x0
  have X1 := Aside0.mk x1
  clear hb hr1 hr2 x0 x1
  go_enter Try.func41, Try.ntmps41
  go_wp2
  go_loopg [3, 11] 2 (fun kq v3 v11 w' => (kq = 2 ∧ v3 = .int .i64 0 ∧ v11 = .int .i64 0 ∧ w' = w) ∨ (kq = 1 ∧ v3 = .int .i64 (l1.length : Int) ∧ v11 = .int .i64 1 ∧ w' = w) ∨ (kq = 0 ∧ v3 = .int .i64 ((l1.length : Int) + (l2.length : Int)) ∧ v11 = .int .i64 2 ∧ w' = w))
  case atStart => exact .inl ⟨rfl, rfl, rfl, rfl⟩
  case round =>
    rcases hrel with ⟨rfl, rfl, rfl, rfl⟩ | ⟨rfl, rfl, rfl, rfl⟩ | ⟨rfl, rfl, rfl, rfl⟩
    · have y0 := X0.out
      have hn : ¬ ((l1.length : Int) < 0) := by omega
      go_wp2
      go_roundg 1
      case measure => omega
      case rel => exact .inr (.inl ⟨rfl, by first | rfl | (simp; done), rfl, rfl⟩)
    · have y1 := X1.out
      have hn : ¬ ((l1.length : Int) + (l2.length : Int) < 0) := by omega
      go_wp2
      go_roundg 0
      case measure => omega
      case rel => exact .inr (.inr ⟨rfl, by first | rfl | (simp; done), rfl, rfl⟩)
    · obtain ⟨WW, rfl⟩ : ∃ W : World, W = wr := ⟨_, rfl⟩
      go_wp2_with (go_at_call 54; refine (Grow_nil _ _ (by omega) (by omega)).mono ?_; rintro e w1 ⟨v, rfl, hR, hB⟩; have HR := Aside0.mk hR; have HB := Aside0.mk hB; clear hR hB)
      go_loopg [6, 27] 2 (fun kq v6 v27 w' => Aside0 (Below WW.heap.size WW w') ∧ ((kq = 2 ∧ v27 = .int .i64 0 ∧ Aside0 (Kd.R (Kd.int .u32) 36 w' WW.heap.size (fun _ => True) v6 [])) ∨ (kq = 1 ∧ v27 = .int .i64 1 ∧ Aside0 (Kd.R (Kd.int .u32) 36 w' WW.heap.size (fun _ => True) v6 l1)) ∨ (kq = 0 ∧ v27 = .int .i64 2 ∧ Aside0 (Kd.R (Kd.int .u32) 36 w' WW.heap.size (fun _ => True) v6 (l1 ++ l2)))))
      case atStart => exact ⟨HB, .inl ⟨rfl, rfl, HR⟩⟩
      case round =>
        obtain ⟨HBV, hrel⟩ := hrel
        rcases hrel with ⟨rfl, rfl, HV⟩ | ⟨rfl, rfl, HV⟩ | ⟨rfl, rfl, HV⟩
        · have y0 := (HBV.out.cell (World.block_lt_of_cell? _ _ X0.out)).trans X0.out
          go_wp2_with (first | ((with_reducible refine gate_builtin (b := .append) (xs := #[.tmp 31, .tmp 32]) rfl ?_); at_builtin; refine Kd.R_append_row (Value.int .u32) (0 : Int) (h1 := fun _ => rfl) (w0 := WW) WW.heap.size rfl (.tmp 31) (.tmp 32) 25 36 (.int .u32 0) 4 rfl hus infoU32 rfl (by decide) u6 [] l1 A1 l1.length c1 (fun _ => True) rfl rfl (fun _ _ => trivial) HV.out (Kd.C_below R1.out HBV.out) HBV.out HBV.out.size (by first | omega | (simp; omega)) ?_; intro v1 w2 hR hB hg hat; have HV2 := Aside0.mk hR; have HBV2 := Aside0.mk hB; clear hR hB hg hat))
          go_roundg 1
          case measure => omega
          case rel => exact ⟨HBV2, .inr (.inl ⟨rfl, rfl, HV2⟩)⟩
        · have y1 := (HBV.out.cell (World.block_lt_of_cell? _ _ X1.out)).trans X1.out
          go_wp2_with (first | ((with_reducible refine gate_builtin (b := .append) (xs := #[.tmp 31, .tmp 32]) rfl ?_); at_builtin; refine Kd.R_append_row (Value.int .u32) (0 : Int) (h1 := fun _ => rfl) (w0 := WW) WW.heap.size rfl (.tmp 31) (.tmp 32) 25 36 (.int .u32 0) 4 rfl hus infoU32 rfl (by decide) u6 l1 l2 A2 l2.length c2 (fun _ => True) rfl rfl (fun _ _ => trivial) HV.out (Kd.C_below R2.out HBV.out) HBV.out HBV.out.size (by first | omega | (simp; omega)) ?_; intro v1 w2 hR hB hg hat; have HV2 := Aside0.mk hR; have HBV2 := Aside0.mk hB; clear hR hB hg hat))
          go_roundg 0
          case measure => omega
          case rel => exact ⟨HBV2, .inr (.inr ⟨rfl, rfl, HV2⟩)⟩
        · go_wp2
          go_ret
          exact ⟨_, rfl, HV.out, HBV.out⟩
end Go.Proofs.Ytegaicoddnmemaa.X

namespace Go.Proofs.Ytegaicoddnmemaa.X
open Go.RowKit Go.Proofs.YtegaicoddnmemaaW.PrintWords Go.Proofs.YtegaicoddnmemaaW.PrintLast Go.Proofs.YtegaicoddnmemaaW.PrintMore
open Go.Proofs.Ytegaicoddnmemaa.P Go.Proofs.Ytegaicoddnmemaa.Evx
set_option linter.unusedSimpArgs false
set_option linter.unusedVariables false
mutual
theorem row_all (ls : List Int) (b : Nat) : ∀ s : S24, RowAt ls b s
  | ⟨op, m, kids⟩ => row_calls ls b ⟨op, m, kids⟩ (row_kids ls b kids)
theorem row_kids (ls : List Int) (b : Nat) : ∀ (l : List S24) (k : S24), k ∈ l → RowAt ls b k
  | [], k, hk => by simp at hk
  | a :: r, k, hk => by
    rcases List.mem_cons.1 hk with h | h
    · rw [h]
      exact row_all ls b a
    · exact row_kids ls b r k h
end
/-- May a word be? -/
def wordS (st lp : List Int) : Bool := decide (st.length ≤ 3000 ∧ 1 ≤ lp.length ∧ lp.length ≤ 27000)
theorem mayWord_some (st lp : List Int) : formula_MayWord.f st lp = some (wordS st lp) := by
  unfold formula_MayWord.f wordS
  split
  · split
    · congr 1
      rw [decide_eq_decide]
      omega
    · rw [decide_eq_false]
      omega
  · rw [decide_eq_false]
    omega
theorem brow_R {w w' : World} {g n : Nat} {l : List Bool} (h : BRow w' g l) (hl : l.length = n) (hg : w.heap.size ≤ g) (hn : n < 1000000000) : Kd.R Kd.bool 4 w' w.heap.size (fun _ => True) (.slice (some ⟨g, 0, none⟩) n n) l := by
  refine Kd.R_of_own ?_ (fun _ _ => trivial)
  rw [hl]
  refine ⟨by simp [encs, hl], .inr ⟨g, n, (boolsOf l).toArray, rfl, hg, h, Nat.le_refl _, by simp [maxLen]; omega, by simp [boolsOf, hl], ?_⟩⟩
  simp [boolsOf, encs, hl]
  rw [List.take_of_length_le (by simp [hl])]
theorem rower_new (w : World) (A : Option Addr) (n c b : Nat) : IsRower (w.alloc (.cells #[.slice A n c, .int .i64 (b : Int)] 73)) w.heap.size A n c b := heap_alloc_new _ _
def rowF (s : S24) (st lp : List Int) : List Bool := if mayF s = 0 ∧ wordS st lp = true then rowS (st ++ lp) st.length s else []
theorem may_sound {s : S24} (h : mayF s = 0) : soundS s = true := by
  unfold mayF at h
  split at h
  · split at h
    · assumption
    · simp at h
  · simp at h
set_option maxHeartbeats 8000000 in
set_option maxRecDepth 100000 in
theorem Row_calls (s : S24) (st lp : List Int) (A : Option Addr) (cp : Nat) (A1 A2 : Option Addr) (c1 c2 : Nat) (w : World) (hr : Kd.C k24 w A s.f2.length s.f2) (hc : s.f2.length ≤ cp) (hr1 : Kd.C (Kd.int .u32) w A1 st.length st) (hc1 : st.length ≤ c1) (hr2 : Kd.C (Kd.int .u32) w A2 lp.length lp) (hc2 : lp.length ≤ c2) :
    Calls Try.prog 24 #[.agg #[.int .i64 s.f0, .int .i64 s.f1, .slice A s.f2.length cp], .agg #[.slice A1 st.length c1, .slice A2 lp.length c2]] w fun e w' => ∃ v0_ : Value, e = .returned v0_ ∧ Kd.R Kd.bool 4 w' w.heap.size (fun _ => True) v0_ (rowF s st lp) ∧ Below w.heap.size w w' := by
  have huF := Try.underlying24
  have huL := Try.underlying22
  have huW := Try.underlying27
  have huR := Try.underlying73
  have hus := Try.underlying45
  have huu := Try.underlying25
  have huuu := Try.underlying84
  obtain ⟨W2, hW2⟩ : ∃ W2, W2 = (w.alloc (.cells #[.int .i64 s.f0, .int .i64 s.f1, .slice A s.f2.length cp] 24)).alloc (.cells #[.slice A1 st.length c1, .slice A2 lp.length c2] 27) := ⟨_, rfl⟩
  have hB2 : Below w.heap.size w W2 := by rw [hW2]; exact below_alloc (below_alloc (Below.refl _ _) _) _
  have hb1 : W2.heap[w.heap.size]? = some (.cells #[.int .i64 s.f0, .int .i64 s.f1, .slice A s.f2.length cp] 24 (0, 0)) := by rw [hW2]; exact blk_alloc (heap_alloc_new w _) _
  have hb2 : W2.heap[w.heap.size + 1]? = some (.cells #[.slice A1 st.length c1, .slice A2 lp.length c2] 27 (0, 0)) := by
    rw [hW2]
    have := heap_alloc_new (w.alloc (.cells #[.int .i64 s.f0, .int .i64 s.f1, .slice A s.f2.length cp] 24)) (.cells #[.slice A1 st.length c1, .slice A2 lp.length c2] 27)
    simpa using this
  have HMAY := Aside0.mk (May_calls s A cp W2 (Kd.C_below hr hB2) hc)
  have HW2 := Aside0.mk hW2
  have x0 : W2.cell? ⟨w.heap.size, 0, none⟩ = some (.int .i64 s.f0) := (blk_cell hb1 0).trans rfl
  have x1 : W2.cell? ⟨w.heap.size, 1, none⟩ = some (.int .i64 s.f1) := (blk_cell hb1 1).trans rfl
  have x2 : W2.cell? ⟨w.heap.size, 2, none⟩ = some (.slice A s.f2.length cp) := (blk_cell hb1 2).trans rfl
  have HB2 := Aside0.mk hB2
  have HBX1 := Aside0.mk hb1
  have HBX2 := Aside0.mk hb2
  have HRR := Aside0.mk hr
  have HRF := Aside0.mk (show rowF s st lp = if mayF s = 0 ∧ wordS st lp = true then rowS (st ++ lp) st.length s else [] from rfl)
  have HC1 := Aside0.mk (Kd.C_below hr1 hB2)
  have HC2 := Aside0.mk (Kd.C_below hr2 hB2)
  have HMS := Aside0.mk (@may_sound s)
  clear hb1 hb2 hr hr1 hr2
  generalize mayF s = mv at *
  by_cases hm : mv = 0
  · have em : (mv != 0) = false := by rw [hm]; rfl
    cases hw : wordS st lp with
    | false =>
      have HX := Aside0.mk (show rowF s st lp = [] from by rw [HRF.out, hw, if_neg (by simp)])
      have HWD := Aside0.mk ((mayWord_some st lp).trans (by rw [hw]))
      clear hw
      go_enter Try.func24, Try.ntmps24
      go_upto_region 1 with fail
      rw [← hW2]
      clear hW2 hB2
      go_wp2_with (first | (go_at_call 14; refine HMAY.out.mono ?_; rintro e w3 ⟨rfl, hB3⟩; have HB3 := Aside0.mk hB3; have HBX3 := Aside0.mk ((hB3.block _ (blk_lt HBX2.out)).trans HBX2.out); have y0 := (blk_cell HBX3.out 0).trans rfl; have y1 := (blk_cell HBX3.out 1).trans rfl; clear hB3) | (go_at_call 28; refine (formula_MayWord.calls A1 c1 st A2 c2 lp false _ (Kd.C_below HC1.out HB3.out) hc1 (Kd.C_below HC2.out HB3.out) hc2 HWD.out).mono ?_; rintro e w4 ⟨rfl, hB4⟩; have HB4 := Aside0.mk hB4; clear hB4))
      go_ret
      exact ⟨_, rfl, by rw [HX.out]; exact Kd.R_nil _ _ _ _ _, (HB2.out.trans (HB3.out.mono HB2.out.size)).trans (HB4.out.mono (Nat.le_trans HB2.out.size HB3.out.size))⟩
    | true =>
      have hwp : st.length ≤ 3000 ∧ 1 ≤ lp.length ∧ lp.length ≤ 27000 := of_decide_eq_true hw
      have HX := Aside0.mk (show rowF s st lp = rowS (st ++ lp) st.length s from by rw [HRF.out, hw, if_pos ⟨hm, rfl⟩])
      have HWD := Aside0.mk ((mayWord_some st lp).trans (by rw [hw]))
      have HSO := Aside0.mk (HMS.out hm)
      clear hw
      go_enter Try.func24, Try.ntmps24
      go_upto_region 1 with fail
      rw [← hW2]
      clear hW2 hB2
      go_upto_region 3 with (first | (go_at_call 14; refine HMAY.out.mono ?_; rintro e w3 ⟨rfl, hB3⟩; have HB3 := Aside0.mk hB3; have HBX3 := Aside0.mk ((hB3.block _ (blk_lt HBX2.out)).trans HBX2.out); have HBY3 := Aside0.mk ((hB3.block _ (blk_lt HBX1.out)).trans HBX1.out); have y0 := (blk_cell HBX3.out 0).trans rfl; have y1 := (blk_cell HBX3.out 1).trans rfl; clear hB3) | (go_at_call 28; refine (formula_MayWord.calls A1 c1 st A2 c2 lp true _ (Kd.C_below HC1.out HB3.out) hc1 (Kd.C_below HC2.out HB3.out) hc2 HWD.out).mono ?_; rintro e w4 ⟨rfl, hB4⟩; have HB4 := Aside0.mk hB4; have HBX4 := Aside0.mk ((hB4.block _ (blk_lt HBX3.out)).trans HBX3.out); have HBY4 := Aside0.mk ((hB4.block _ (blk_lt HBY3.out)).trans HBY3.out); have z0 := (blk_cell HBX4.out 0).trans rfl; have z1 := (blk_cell HBX4.out 1).trans rfl; clear hB4))
      have HCA := Aside0.mk (Kd.C_below HC1.out (HB3.out.trans (HB4.out.mono HB3.out.size)))
      have HCB := Aside0.mk (Kd.C_below HC2.out (HB3.out.trans (HB4.out.mono HB3.out.size)))
      have HCAT := Aside0.mk (Concat_calls w4.heap.size A1 A2 c1 c2 st lp (w4.drew.alloc (.cells #[.slice A1 st.length c1, .slice A2 lp.length c2] 25)) (heap_alloc_new w4.drew _) (Kd.C_alloc (Kd.C_drew HCA.out) _) (Kd.C_alloc (Kd.C_drew HCB.out) _) (by omega) (by omega))
      have hb4 : Below w4.heap.size w4 (w4.drew.alloc (.cells #[.slice A1 st.length c1, .slice A2 lp.length c2] 25)) := below_alloc (below_drew1 (Below.refl _ _)) _
      have HB44 := Aside0.mk hb4
      have z0a : w4.cell? ⟨w.heap.size + 1, 0, none⟩ = some (.slice A1 st.length c1) := (blk_cell HBX4.out 0).trans rfl
      have z1a : w4.cell? ⟨w.heap.size + 1, 1, none⟩ = some (.slice A2 lp.length c2) := (blk_cell HBX4.out 1).trans rfl
      have z0b : (w4.drew.alloc (.cells #[.slice A1 st.length c1, .slice A2 lp.length c2] 25)).cell? ⟨w.heap.size + 1, 0, none⟩ = some (.slice A1 st.length c1) := (HB44.out.cell (World.block_lt_of_cell? _ _ z0a)).trans z0a
      have z0c : (w4.alloc (.cells #[.slice A1 st.length c1, .slice A2 lp.length c2] 25)).cell? ⟨w.heap.size + 1, 0, none⟩ = some (.slice A1 st.length c1) := ((below_alloc (Below.refl _ _) _ : Below w4.heap.size w4 _).cell (World.block_lt_of_cell? _ _ z0a)).trans z0a
      clear hb4
      go_cut [5] from 14 to 24 (fun v5 wx => ∃ rb A5 c5, v5 = .pointer (some ⟨rb, 0, none⟩) ∧ Aside0 (IsRower wx rb A5 (st.length + lp.length) c5 st.length) ∧ Aside0 (Kd.C (Kd.int .u32) wx A5 (st.length + lp.length) (st ++ lp)) ∧ Aside0 (Below w4.heap.size w4 wx))
      case first =>
        go_region_with (go_at_call 41; refine HCAT.out.mono ?_; rintro e w5 ⟨v5, rfl, hR5, hB5⟩; obtain ⟨A5, c5, e5⟩ := Kd.R_slice hR5; subst e5; have HR5 := Aside0.mk hR5; have HB5 := Aside0.mk (HB44.out.trans (hB5.mono HB44.out.size)); have HBX5 := Aside0.mk ((HB5.out.block _ (blk_lt HBX4.out)).trans HBX4.out); have q0 : w5.cell? ⟨w.heap.size + 1, 0, none⟩ = some (.slice A1 st.length c1) := (blk_cell HBX5.out 0).trans rfl; clear hR5 hB5)
        all_goals (
          go_wp2_with fail
          go_meet
          exact ⟨_, A5, c5, rfl, ⟨rower_new w5 A5 (st.length + lp.length) c5 st.length⟩, ⟨Kd.C_alloc (by have := (Kd.R_reads' HR5.out).2.2; rwa [List.length_append] at this) _⟩, ⟨HB5.out.trans (below_alloc (Below.refl _ _) _ |>.mono HB5.out.size)⟩⟩)
      case rest =>
        obtain ⟨rb, A5, c5, rfl, HIR, HCC, HB5⟩ := hcut
        have HB5w : Below w.heap.size w wc := HB2.out.trans ((HB3.out.trans ((HB4.out.trans (HB5.out.mono HB4.out.size)).mono HB3.out.size)).mono HB2.out.size)
        have HBY5 := Aside0.mk ((HB5.out.block _ (blk_lt HBY4.out)).trans HBY4.out)
        have t0 : wc.cell? ⟨w.heap.size, 0, none⟩ = some (.int .i64 s.f0) := (blk_cell HBY5.out 0).trans rfl
        have t1 : wc.cell? ⟨w.heap.size, 1, none⟩ = some (.int .i64 s.f1) := (blk_cell HBY5.out 1).trans rfl
        have t2 : wc.cell? ⟨w.heap.size, 2, none⟩ = some (.slice A s.f2.length cp) := (blk_cell HBY5.out 2).trans rfl
        have HROW := Aside0.mk (row_all (st ++ lp) st.length s rb A5 c5 (st.length + lp.length) A cp wc (by simp) HIR.out HCC.out (by omega) (by omega) (by omega) (Kd.C_below HRR.out HB5w) hc HSO.out)
        have HBW := Aside0.mk HB5w
        clear HB5w
        go_wp2_with (go_at_call 42; refine HROW.out.mono ?_; rintro e w6 ⟨g, rfl, hg, hG, hB6⟩; have HG6 := Aside0.mk hG; have HGS := Aside0.mk hg; have HB6 := Aside0.mk hB6; clear hG hg hB6)
        go_ret
        exact ⟨_, rfl, by rw [HX.out]; exact brow_R HG6.out ((len_row _ _ _).trans (by first | rfl | simp)) (Nat.le_trans HBW.out.size HGS.out) (by first | omega | (simp; omega)), HBW.out.trans (HB6.out.mono HBW.out.size)⟩
  · have em : (mv != 0) = true := by simpa using hm
    have HX := Aside0.mk (show rowF s st lp = [] from by rw [HRF.out, if_neg (fun h => hm h.1)])
    go_enter Try.func24, Try.ntmps24
    go_upto_region 1 with fail
    rw [← hW2]
    clear hW2 hB2
    go_wp2_with (go_at_call 14; refine HMAY.out.mono ?_; rintro e w3 ⟨rfl, hB3⟩; have HB3 := Aside0.mk hB3; clear hB3)
    go_ret
    exact ⟨_, rfl, by rw [HX.out]; exact Kd.R_nil _ _ _ _ _, HB2.out.trans (HB3.out.mono HB2.out.size)⟩
end Go.Proofs.Ytegaicoddnmemaa.X

namespace Go.Proofs.Ytegaicoddnmemaa.X
open Go.RowKit Go.Proofs.YtegaicoddnmemaaW.PrintWords Go.Proofs.YtegaicoddnmemaaW.PrintMore
open Go.Proofs.Ytegaicoddnmemaa.P Go.Proofs.Ytegaicoddnmemaa.Evx
set_option linter.unusedVariables false
set_option linter.unusedSimpArgs false
/-- A state with bit k. -/
def orBit (x : Int) (k : Nat) : Int := Go.bits .or .i64 x (wrap64 (2 ^ k))
/-- What a timed node's row speaks of. -/
def headT (t : S24) : S24 := if t.f0 = 6 then t.f2.getD 0 z24 else t
def runAt (row : List Bool) (n b k : Nat) (out : List Int) (i : Nat) : Int := if row.getD (nextS n b i) false = true then orBit (out.getD i 0) k else out.getD i 0
/-- One timed node's bits. -/
def runRow (row : List Bool) (n b k : Nat) (out : List Int) : List Int := (List.range n).map (runAt row n b k out)
def runL (st lp : List Int) : List S24 → Nat → List Int → List Int
  | [], _, out => out
  | t :: r, k, out => runL st lp r (k + 1) (runRow (rowF (headT t) st lp) (st.length + lp.length) st.length k out)
def runS (s : S24) (st lp : List Int) : List Int := if mayF s = 0 ∧ wordS st lp = true then runL st lp (timesS s) 0 (List.replicate (st.length + lp.length) 0) else []
def runOk (s : S24) (st lp : List Int) : Bool := decide (mayF s = 0) && wordS st lp
theorem len_runRow (row : List Bool) (n b k : Nat) (out : List Int) : (runRow row n b k out).length = n := by simp [runRow]
/-- Smaller. -/
structure SubF (t s : S24) : Prop where
  pn : nS t ≤ nS s
  ph : hS t ≤ hS s
  pt : tnS t ≤ tnS s
  ps : soundS s = true → soundS t = true
theorem SubF.refl (s : S24) : SubF s s := ⟨Nat.le_refl _, Nat.le_refl _, Nat.le_refl _, id⟩
theorem SubF.trans {a b c : S24} (h : SubF a b) (k : SubF b c) : SubF a c := ⟨Nat.le_trans h.pn k.pn, Nat.le_trans h.ph k.ph, Nat.le_trans h.pt k.pt, fun x => h.ps (k.ps x)⟩
theorem SubF.may {t s : S24} (h : SubF t s) (hm : mayF s = 0) : mayF t = 0 := by
  obtain ⟨h1, h2, h3, h4⟩ := may_zero hm
  rw [may_eq, if_pos (show nS t ≤ 60 ∧ hS t ≤ 12 ∧ tnS t ≤ 8 from ⟨Nat.le_trans h.pn h1, Nat.le_trans h.ph h2, Nat.le_trans h.pt h3⟩), if_pos (h.ps h4)]
theorem nL_mem : ∀ {l : List S24} {k : S24}, k ∈ l → nS k ≤ nL l ∧ hS k ≤ hL l ∧ tnS k ≤ tnL l
  | a :: r, k, h => by
    simp only [nL, hL, tnL]
    rcases List.mem_cons.1 h with e | e
    · subst e; omega
    · have := nL_mem e; omega
theorem SubF.kid {s k : S24} (h : k ∈ s.f2) : SubF k s := by
  obtain ⟨op, m, kids⟩ := s
  have := nL_mem (show k ∈ kids from h)
  refine ⟨?_, ?_, ?_, fun hs => sound_in (sound_kids_all hs) k h⟩
  · simp only [nS]; exact Nat.le_trans this.1 (by omega)
  · simp only [hS]; exact Nat.le_trans this.2.1 (by omega)
  · simp only [tnS]; exact Nat.le_trans this.2.2 (by omega)
mutual
theorem times_sub : ∀ (s t : S24), t ∈ timesS s → SubF t s
  | ⟨op, m, kids⟩, t, h => by
    simp only [timesS, List.mem_append] at h
    rcases h with h | h
    · split at h
      · rw [List.mem_singleton.1 h]; exact SubF.refl _
      · cases h
    · obtain ⟨k, hk, hs⟩ := times_subL kids t h
      exact hs.trans (SubF.kid hk)
theorem times_subL : ∀ (l : List S24) (t : S24), t ∈ timesL l → ∃ k ∈ l, SubF t k
  | [], t, h => by simp [timesL] at h
  | a :: r, t, h => by
    simp only [timesL, List.mem_append] at h
    rcases h with h | h
    · exact ⟨a, by simp, times_sub a t h⟩
    · obtain ⟨k, hk, hs⟩ := times_subL r t h
      exact ⟨k, by simp [hk], hs⟩
end
theorem head_may {t : S24} (h : mayF t = 0) : mayF (headT t) = 0 := by
  unfold headT
  split
  · rename_i h6
    have hs := (may_zero h).2.2.2
    have hp := sound_parts hs
    have h1 : kidsS 6 = 1 := by decide
    rw [h6, h1] at hp
    have hl : 0 < t.f2.length := by omega
    have : t.f2.getD 0 z24 = t.f2[0]'hl := by rw [List.getD_eq_getElem?_getD, List.getElem?_eq_getElem hl]; rfl
    rw [this]
    exact (SubF.kid (List.getElem_mem hl)).may h
  · exact h
theorem next6 {t : S24} (h : mayF t = 0) (h6 : t.f0 = 6) : 0 < t.f2.length := by
  have hp := sound_parts (may_zero h).2.2.2
  have h1 : kidsS 6 = 1 := by decide
  rw [h6, h1] at hp
  omega
theorem len_rowF {t : S24} {st lp : List Int} (h : mayF t = 0) (hw : wordS st lp = true) : (rowF t st lp).length = st.length + lp.length := by
  unfold rowF
  rw [if_pos ⟨h, hw⟩, len_row, List.length_append]
end Go.Proofs.Ytegaicoddnmemaa.X

