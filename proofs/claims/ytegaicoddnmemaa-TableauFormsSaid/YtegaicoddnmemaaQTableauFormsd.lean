/- A part of the claim TableauForms. -/
import Derived.Outline
import Derived.Test.YtegaicoddnmemaaQTableauFormsa
import Derived.Test.YtegaicoddnmemaaQTableauFormsb
import Derived.Test.YtegaicoddnmemaaQTableauFormsc
namespace Go.Proofs.Ytegaicoddnmemaa.X
open Go.RowKit Go.Proofs.YtegaicoddnmemaaW.PrintWords Go.Proofs.YtegaicoddnmemaaW.PrintLast Go.Proofs.YtegaicoddnmemaaW.PrintMore
open Go.Proofs.Ytegaicoddnmemaa.P Go.Proofs.Ytegaicoddnmemaa.Evx
set_option linter.unusedSimpArgs false
set_option linter.unusedVariables false
def rdr_value.T4 : Bool × List (List Nat × List Nat) := (true, [([], []), ([], []), ([], []), ([2], [2]), ([3], [3]), ([4], [4]), ([], []), ([5, 6], [5, 6]), ([], []), ([8], [8]), ([9], [9]), ([10], [10]), ([], []), ([11, 12, 7], [11, 12]), ([0, 0, 2, 3, 4, 5, 6, 7, 11, 13], [0]), ([14, 0, 2, 3, 4, 5, 6, 7, 11, 13], [14]), ([15, 7, 13, 0, 2, 3, 4, 5, 6, 7, 11, 13], [7, 15]), ([1, 0, 1, 2, 3, 4, 5, 6, 7, 8, 9, 10, 11, 12, 13, 14, 15, 16], [1]), ([17, 0, 1, 2, 3, 4, 5, 6, 7, 8, 9, 10, 11, 12, 13, 14, 15, 16], [17]), ([18, 13, 16, 0, 1, 2, 3, 4, 5, 6, 7, 8, 9, 10, 11, 12, 13, 14, 15, 16], [13, 18])])
def rdr_value.B4 : List Nat := [0, 0, 0, 4, 12, 28, 0, 124, 0, 256, 768, 1792, 0, 8188, 16381, 32765, 65533, 131071, 262143, 524287]
theorem rdr_value.tab4 : rtab .any (opsOf Try.f52 4) = rdr_value.T4 := by kernel_rfl
theorem rdr_value.bits4 : waitsOk rdr_value.T4.2 rdr_value.B4 = true := by kernel_rfl
def rdr_value.T25 : Bool × List (List Nat × List Nat) := (true, [([], []), ([0], [0]), ([1], [1]), ([2], [2]), ([], []), ([], []), ([5], [5]), ([6], [6]), ([7], [7]), ([], []), ([], []), ([3, 4, 0, 1, 2, 3, 4, 8, 10], [3, 4]), ([11, 10, 0, 1, 2, 3, 4, 8, 10], [10, 11]), ([8, 9, 0, 1, 2, 3, 4, 5, 6, 7, 8, 9, 10, 11, 12], [8, 9]), ([13, 12, 0, 1, 2, 3, 4, 5, 6, 7, 8, 9, 10, 11, 12], [13])])
def rdr_value.B25 : List Nat := [0, 1, 3, 7, 0, 0, 32, 96, 224, 0, 0, 1535, 3583, 8191, 16383]
theorem rdr_value.tab25 : rtab .any (opsOf Try.f52 25) = rdr_value.T25 := by kernel_rfl
theorem rdr_value.bits25 : waitsOk rdr_value.T25.2 rdr_value.B25 = true := by kernel_rfl
def rdr_value.T29 : Bool × List (List Nat × List Nat) := (true, [([], []), ([0], [0]), ([1], [1]), ([2], [2]), ([], []), ([], []), ([5], [5]), ([6], [6]), ([7], [7]), ([], []), ([], []), ([], []), ([11], [11]), ([12], [12]), ([13], [13]), ([13, 14], [13, 14]), ([3, 4, 0, 1, 2, 3, 4, 8, 10], [3, 4]), ([16, 10, 13, 0, 1, 2, 3, 4, 8, 10], [10, 16]), ([8, 9, 0, 1, 2, 3, 4, 5, 6, 7, 8, 9, 10, 11, 12, 13, 14, 15, 16, 17], [8, 9]), ([18, 15, 17, 0, 1, 2, 3, 4, 5, 6, 7, 8, 9, 10, 11, 12, 13, 14, 15, 16, 17], [15, 18])])
def rdr_value.B29 : List Nat := [0, 1, 3, 7, 0, 0, 32, 96, 224, 0, 0, 0, 2048, 6144, 14336, 30720, 1535, 81407, 262143, 524287]
theorem rdr_value.tab29 : rtab .any (opsOf Try.f52 29) = rdr_value.T29 := by kernel_rfl
theorem rdr_value.bits29 : waitsOk rdr_value.T29.2 rdr_value.B29 = true := by kernel_rfl
def rdr_value.T33 : Bool × List (List Nat × List Nat) := (true, [([], []), ([0], [0]), ([1], [1]), ([2], [2]), ([], []), ([], []), ([5], [5]), ([6], [6]), ([7], [7]), ([], []), ([], []), ([], []), ([11], [11]), ([12], [12]), ([13, 12], [12, 13]), ([12, 14], [12, 14]), ([3, 4, 0, 1, 2, 3, 4, 8, 10], [3, 4]), ([16, 10, 12, 0, 1, 2, 3, 4, 8, 10], [10, 16]), ([8, 9, 0, 1, 2, 3, 4, 5, 6, 7, 8, 9, 10, 11, 12, 13, 14, 15, 16, 17], [8, 9]), ([18, 15, 17, 0, 1, 2, 3, 4, 5, 6, 7, 8, 9, 10, 11, 12, 13, 14, 15, 16, 17], [15, 18])])
def rdr_value.B33 : List Nat := [0, 1, 3, 7, 0, 0, 32, 96, 224, 0, 0, 0, 2048, 6144, 14336, 30720, 1535, 73215, 262143, 524287]
theorem rdr_value.tab33 : rtab .any (opsOf Try.f52 33) = rdr_value.T33 := by kernel_rfl
theorem rdr_value.bits33 : waitsOk rdr_value.T33.2 rdr_value.B33 = true := by kernel_rfl
def RdAt (w0 : World) (s : S24) : Prop := ∀ (rb : Nat) (sv lt : Int) (said good : List Bool) (vs vg : Value) (A : Option Addr) (cp : Nat) (w : World), Rdr w0 w rb sv lt said good vs vg → said.length = good.length → said.length + tnS s ≤ 60 → Kd.C k24 w0 A s.f2.length s.f2 → s.f2.length ≤ cp → soundS s = true →
    Calls Try.prog 52 #[.pointer (some ⟨rb, 0, none⟩), .agg #[.int .i64 s.f0, .int .i64 s.f1, .slice A s.f2.length cp]] w fun e w' => e = .returned (.bool (valS sv lt s said.length)) ∧ ∃ v1 v2, Rdr w0 w' rb sv lt (said ++ saidS sv lt s said.length) (good ++ goodS sv lt s said.length) v1 v2 ∧ Fr w rb vs vg w' v1 v2
theorem infoBool0 : (Try.prog.info? 4).map (fun i => (i.zero, i.size, i.bytes)) = some (some (.bool false), 1, 1) := by kernel_rfl
theorem infoB : ∃ i, Try.prog.info? 4 = some i ∧ i.zero = some (.bool false) ∧ i.size = 1 ∧ i.bytes = 1 := by
  obtain ⟨i, hi, hz⟩ := Option.map_eq_some_iff.1 infoBool0
  simp only [Prod.mk.injEq] at hz
  exact ⟨i, hi, hz⟩
set_option maxHeartbeats 8000000 in
set_option maxRecDepth 100000 in
theorem value_calls (w0 : World) (s : S24) (ih : ∀ k ∈ s.f2, RdAt w0 k) : RdAt w0 s := by
  intro rb sv lt said good vs vg A cp w hR hlg hbd hk hc hs
  have huF := Try.underlying24
  have huL := Try.underlying22
  have hur := Try.underlying64
  have hus := Try.underlying45
  obtain ⟨W1, hW1⟩ : ∃ W1, W1 = w.alloc (.cells #[.int .i64 s.f0, .int .i64 s.f1, .slice A s.f2.length cp] 24) := ⟨_, rfl⟩
  have hR1 : Rdr w0 W1 rb sv lt said good vs vg := by rw [hW1]; exact hR.alloc _
  have hF1 : Fr w rb vs vg W1 vs vg := by rw [hW1]; exact (Fr.refl _ _ _ _).alloc _
  have hbx : W1.heap[w.heap.size]? = some (.cells #[.int .i64 s.f0, .int .i64 s.f1, .slice A s.f2.length cp] 24 (0, 0)) := by rw [hW1]; exact heap_alloc_new w _
  have hb1 : some w.heap.size ≠ vs.ownBlock := fun e => Nat.lt_irrefl _ (own_lt hR.o1 _ e.symm)
  have hb2 : some w.heap.size ≠ vg.ownBlock := fun e => Nat.lt_irrefl _ (own_lt hR.o2 _ e.symm)
  have hb3 : w.heap.size ≠ rb := fun e => Nat.lt_irrefl _ (e ▸ blk_lt hR.blk)
  have HBOX := Aside0.mk (fun (w1 : World) (v1 v2 : Value) (h : Fr W1 rb vs vg w1 v1 v2) => h.box hR1 hbx hb1 hb2 hb3)
  have HR1 := Aside0.mk hR1
  have HF1 := Aside0.mk hF1
  have HK := Aside0.mk hk
  have HS := Aside0.mk hs
  have HIH := Aside0.mk ih
  have HLG := Aside0.mk hlg
  have HBD := Aside0.mk hbd
  have HW1 := Aside0.mk hW1
  have hpart := sound_parts hs
  have hk2 := (kids_range s.f0).2
  have hl2 : s.f2.length ≤ 2 := by omega
  have HOP := Aside0.mk (op_cases hpart.1)
  have HM0 := Aside0.mk hpart.2.2
  have x0 : W1.cell? ⟨w.heap.size, 0, none⟩ = some (.int .i64 s.f0) := (blk_cell hbx 0).trans rfl
  have y2 := rdrB_2 hR1.blk
  obtain ⟨A1, c1, hvs, hc1⟩ := own_form hR.o1
  obtain ⟨A2, c2, hvg, hc2⟩ := own_form hR.o2
  subst hvs hvg
  have HEQ := Aside0.mk (And.intro (val_eq sv lt s said.length) (And.intro (said_eq sv lt s said.length) (good_eq sv lt s said.length)))
  have HTN := Aside0.mk (tn_eq s)
  clear hR hk hs ih hlg hbd hR1 hF1 hpart hk2
  go_enter Try.func52, Try.ntmps52
  go_upto_region 1 with fail
  rw [← hW1]
  clear hW1
  go_cut [5] (fun v5 wx => ∃ tm : Bool, v5 = .bool tm ∧ Aside0 (timedS s.f0 = tm) ∧ wx = W1)
  case first =>
    by_cases h6 : 6 ≤ s.f0
    · by_cases h8 : s.f0 ≤ 8
      · have HT := Aside0.mk (show timedS s.f0 = true from by unfold timedS; rw [decide_eq_true h6, decide_eq_true h8]; rfl)
        go_wp2
        go_meet
        exact ⟨_, rfl, HT, rfl⟩
      · have HT := Aside0.mk (show timedS s.f0 = false from by unfold timedS; rw [decide_eq_false h8]; simp)
        go_wp2
        go_meet
        exact ⟨_, rfl, HT, rfl⟩
    · have HT := Aside0.mk (show timedS s.f0 = false from by unfold timedS; rw [decide_eq_false h6]; simp)
      go_wp2
      go_meet
      exact ⟨_, rfl, HT, rfl⟩
  case rest =>
    obtain ⟨tm, rfl, HT, hwc⟩ := hcut
    rw [hwc]
    clear hwc wc
    go_upto_if 28 with fail
    go_cut [] (fun wx => ∃ v1 v2, Aside0 (Rdr w0 wx rb sv lt (said ++ ownE s.f0 false) (good ++ ownE s.f0 false) v1 v2) ∧ Aside0 (Fr W1 rb (.slice A1 said.length c1) (.slice A2 good.length c2) wx v1 v2))
    case first =>
      cases tm with
      | false =>
        have HE := Aside0.mk (show ownE s.f0 false = [] from by unfold ownE; rw [HT.out]; rfl)
        go_wp2
        go_meet
        exact ⟨_, _, ⟨by rw [HE.out, List.append_nil, List.append_nil]; exact HR1.out⟩, ⟨Fr.refl _ _ _ _⟩⟩
      | true =>
        have HE := Aside0.mk (show ownE s.f0 false = [false] from by unfold ownE; rw [HT.out]; rfl)
        have HUS := Aside0.mk hus
        obtain ⟨iB, hiB⟩ := infoB
        have HIB := Aside0.mk hiB
        have GS := Aside0.mk (show W1.heap.size ≤ W1.drew.heap.size from Nat.le_refl _)
        have T0 := Aside0.mk HR1.out.two.drew
        have K0 := Aside0.mk (show RdrB W1.drew rb sv lt (.slice A1 said.length c1) (.slice A2 good.length c2) from HR1.out.blk)
        have HBB := Aside0.mk HR1.out.bl.size
        have hb := HBD.out
        have hg := HLG.out
        have HBD2 := HBD
        replace HBD := Aside0.mk (show (said.length + 1 ≤ maxLen ∧ (said.length + 1) * 1 ≤ 140737488355328) ∧ (good.length + 1 ≤ maxLen ∧ (good.length + 1) * 1 ≤ 140737488355328) from by unfold maxLen; omega)
        clear hiB hb hg
        go_upto_region 4 with fail
        refine start_ (n := 20) (S := fun w' => True) (ds := []) #[false, false, false, false, false, false, false, false, false, false, false, false, false, false, false, false, false, false, false, false] (by kernel_rfl) rfl rfl trivial (fun hHeld => ?_)
        refine with_tabW rdr_value.tab4 rdr_value.bits4 (fun HT_ HW_ => ?_)
        refine pure_ (i := 0) (N := some 29) (v := ?_) (a' := ?_) #[true, false, false, false, false, false, false, false, false, false, false, false, false, false, false, false, false, false, false, false] rfl rfl (any_of HT_.out (by kernel_rfl)) (fun _ _ _ h => h) (Or.inl ⟨by rfl, ?_⟩) ?_ ?_
        rotate_left
        · intro w'
          go_simp
          with_reducible rfl
        rotate_left
        · simp only [Act.put, List.setIfInBounds_toArray, List.set_cons_zero, List.set_cons_succ, i64_w, i32_w]
          rfl
        refine pure_ (i := 1) (N := some 30) (v := ?_) (a' := ?_) #[true, true, false, false, false, false, false, false, false, false, false, false, false, false, false, false, false, false, false, false] rfl rfl (any_of HT_.out (by kernel_rfl)) (fun _ _ _ h => h) (Or.inl ⟨by rfl, ?_⟩) ?_ ?_
        rotate_left
        · intro w'
          go_simp
          with_reducible rfl
        rotate_left
        · simp only [Act.put, List.setIfInBounds_toArray, List.set_cons_zero, List.set_cons_succ, i64_w, i32_w]
          rfl
        refine pure_ (i := 2) (N := some 31) (v := ?_) (a' := ?_) #[true, true, true, false, false, false, false, false, false, false, false, false, false, false, false, false, false, false, false, false] rfl rfl (any_of HT_.out (by kernel_rfl)) (fun _ _ _ h => h) (Or.inl ⟨by rfl, ?_⟩) ?_ ?_
        rotate_left
        · intro w'
          go_simp
          with_reducible rfl
        rotate_left
        · simp only [Act.put, List.setIfInBounds_toArray, List.set_cons_zero, List.set_cons_succ, i64_w, i32_w]
          rfl
        refine pure_ (i := 3) (N := some 32) (v := ?_) (a' := ?_) #[true, true, true, true, false, false, false, false, false, false, false, false, false, false, false, false, false, false, false, false] rfl rfl (any_of HT_.out (by kernel_rfl)) (fun _ _ _ h => h) (Or.inl ⟨by rfl, ?_⟩) ?_ ?_
        rotate_left
        · intro w'
          go_simp
          with_reducible rfl
        rotate_left
        · simp only [Act.put, List.setIfInBounds_toArray, List.set_cons_zero, List.set_cons_succ, i64_w, i32_w]
          rfl
        refine pure_ (i := 4) (N := some 33) (v := ?_) (a' := ?_) #[true, true, true, true, true, false, false, false, false, false, false, false, false, false, false, false, false, false, false, false] rfl rfl (any_of HT_.out (by kernel_rfl)) (fun _ _ _ h => h) (Or.inl ⟨by rfl, ?_⟩) ?_ ?_
        rotate_left
        · intro w'
          go_simp
          with_reducible rfl
        rotate_left
        · simp only [Act.put, List.setIfInBounds_toArray, List.set_cons_zero, List.set_cons_succ, i64_w, i32_w]
          rfl
        refine pure_ (i := 8) (N := some 37) (v := ?_) (a' := ?_) #[true, true, true, true, true, false, false, false, true, false, false, false, false, false, false, false, false, false, false, false] rfl rfl (any_of HT_.out (by kernel_rfl)) (fun _ _ _ h => h) (Or.inl ⟨by rfl, ?_⟩) ?_ ?_
        rotate_left
        · intro w'
          go_simp
          with_reducible rfl
        rotate_left
        · simp only [Act.put, List.setIfInBounds_toArray, List.set_cons_zero, List.set_cons_succ, i64_w, i32_w]
          rfl
        refine pure_ (i := 9) (N := some 38) (v := ?_) (a' := ?_) #[true, true, true, true, true, false, false, false, true, true, false, false, false, false, false, false, false, false, false, false] rfl rfl (any_of HT_.out (by kernel_rfl)) (fun _ _ _ h => h) (Or.inl ⟨by rfl, ?_⟩) ?_ ?_
        rotate_left
        · intro w'
          go_simp
          with_reducible rfl
        rotate_left
        · simp only [Act.put, List.setIfInBounds_toArray, List.set_cons_zero, List.set_cons_succ, i64_w, i32_w]
          rfl
        refine pure_ (i := 10) (N := some 39) (v := ?_) (a' := ?_) #[true, true, true, true, true, false, false, false, true, true, true, false, false, false, false, false, false, false, false, false] rfl rfl (any_of HT_.out (by kernel_rfl)) (fun _ _ _ h => h) (Or.inl ⟨by rfl, ?_⟩) ?_ ?_
        rotate_left
        · intro w'
          go_simp
          with_reducible rfl
        rotate_left
        · simp only [Act.put, List.setIfInBounds_toArray, List.set_cons_zero, List.set_cons_succ, i64_w, i32_w]
          rfl
        refine inv_at [5, 6, 7, 11, 12, 13, 14, 15, 16, 17, 18, 19] (fun a0_ b a w' => ∃ (gb1 : Nat) (gb2 : Nat) (v1 : Value) (v2 : Value) (m6_ : Value) (m12_ : Value), a = putSel a0_ b [(5, 34, .slice A1 said.length c1), (6, 35, m6_), (7, 36, v1), (11, 40, .slice A2 good.length c2), (12, 41, m12_), (13, 42, v2), (14, 43, .pointer (some ⟨rb, 0, none⟩)), (15, 44, .pointer (some ⟨rb, 2, none⟩)), (17, 45, .pointer (some ⟨rb, 0, none⟩)), (18, 46, .pointer (some ⟨rb, 3, none⟩))] ∧ (W1.heap.size ≤ w'.heap.size) ∧ (b 7 = false → Two w0 W1 rb (.slice A1 said.length c1) (.slice A2 good.length c2) w' (.slice A1 said.length c1) said (.slice A2 good.length c2) good) ∧ (b 7 = true → b 13 = false → Two w0 W1 rb (.slice A1 said.length c1) (.slice A2 good.length c2) w' v1 (said ++ [false]) (.slice A2 good.length c2) good) ∧ (b 13 = true → Two w0 W1 rb (.slice A1 said.length c1) (.slice A2 good.length c2) w' v1 (said ++ [false]) v2 (good ++ [false])) ∧ (b 6 = true → b 7 = false → BK W1 w' gb1) ∧ (b 12 = true → b 13 = false → BK W1 w' gb2) ∧ (b 16 = false → RdrB w' rb sv lt (.slice A1 said.length c1) (.slice A2 good.length c2)) ∧ (b 16 = true → b 19 = false → RdrB w' rb sv lt v1 (.slice A2 good.length c2)) ∧ (b 19 = true → RdrB w' rb sv lt v1 v2) ∧ (b 6 = true → (m6_ : Value) = .slice (some ⟨gb1, 0, none⟩) 1 1) ∧ (b 12 = true → (m12_ : Value) = .slice (some ⟨gb2, 0, none⟩) 1 1)) HT_.out HW_.out (by kernel_rfl) (by kernel_rfl) ?_ ?_ ?_
        · exact ⟨0, 0, .bool false, .bool false, .bool false, .bool false, by simp only [putSel, Bool.false_eq_true, if_false], GS.out, fun _ => T0.out, fun h_ => absurd h_ (by decide), fun h_ => absurd h_ (by decide), fun h_ => absurd h_ (by decide), fun h_ => absurd h_ (by decide), fun _ => K0.out, fun h_ => absurd h_ (by decide), fun h_ => absurd h_ (by decide), fun h_ => absurd h_ (by decide), fun h_ => absurd h_ (by decide)⟩
        · skip
          clear GS K0 T0
          refine steps_cons ?_ ?_
          · rintro b a w' ⟨gb1, gb2, v1, v2, m6_, m12_, ha, Q_GS, Q_T0, Q_T1, Q_T2, Q_B1, Q_B2, Q_K0, Q_K1, Q_K2, Q_X6_, Q_X12_⟩ hb_ hon hoff
            refine ⟨_, rfl, fun K hK => ?_⟩
            have e33 : a.tmps[33]? = some (.pointer (some ⟨rb, 2, none⟩)) := by rw [ha]; exact (putSel_off rfl).trans rfl
            replace ha := Aside0.mk ha
            have GS := Aside0.mk Q_GS
            have T0 := Aside0.mk (Q_T0 (hoff 7 (by kernel_rfl)))
            have K0 := Aside0.mk (Q_K0 (hoff 16 (by kernel_rfl)))
            have hk := rdrB_2 K0.out
            refine value_ (w1 := w') (v := .slice A1 said.length c1) (by rfl) rfl ?_ ?_
            · go_simp
              (try simp only [i64_w])
              try rfl
            refine hK.out _ _ ⟨gb1, gb2, v1, v2, m6_, m12_, (by rw [ha.out]; exact putSel_upk 0 hb_ rfl rfl rfl), Q_GS, Q_T0, fun h0_ _ => absurd ((hoff 7 (by kernel_rfl)).symm.trans h0_) (by decide), fun h0_ => absurd ((hoff 13 (by kernel_rfl)).symm.trans h0_) (by decide), Q_B1, Q_B2, Q_K0, fun h0_ _ => absurd ((hoff 16 (by kernel_rfl)).symm.trans h0_) (by decide), fun h0_ => absurd ((hoff 19 (by kernel_rfl)).symm.trans h0_) (by decide), Q_X6_, Q_X12_⟩
          refine steps_cons ?_ ?_
          · rintro b a w' ⟨gb1, gb2, v1, v2, m6_, m12_, ha, Q_GS, Q_T0, Q_T1, Q_T2, Q_B1, Q_B2, Q_K0, Q_K1, Q_K2, Q_X6_, Q_X12_⟩ hb_ hon hoff
            refine ⟨_, rfl, fun K hK => ?_⟩
            replace ha := Aside0.mk ha
            have GS := Aside0.mk Q_GS
            have T0 := Aside0.mk (Q_T0 (hoff 7 (by kernel_rfl)))
            have K0 := Aside0.mk (Q_K0 (hoff 16 (by kernel_rfl)))
            refine value_ (w1 := w'.alloc (.cells #[.bool false] 4)) (v := .slice (some ⟨w'.heap.size, 0, none⟩) 1 1) (by rfl) rfl ?_ ?_
            · go_simp
            refine hK.out _ _ ⟨w'.heap.size, gb2, v1, v2, (.slice (some ⟨w'.heap.size, 0, none⟩) 1 1), m12_, (by rw [ha.out]; exact putSel_upk 1 hb_ rfl rfl rfl), le_alloc GS.out _, fun _ => T0.out.alloc _, fun h0_ _ => absurd ((hoff 7 (by kernel_rfl)).symm.trans h0_) (by decide), fun h0_ => absurd ((hoff 13 (by kernel_rfl)).symm.trans h0_) (by decide), fun _ _ => ⟨GS.out, heap_alloc_new w' _⟩, fun h0_ h1_ => ⟨(Q_B2 h0_ h1_).1, blk_alloc (Q_B2 h0_ h1_).2 _⟩, fun _ => blk_alloc K0.out _, fun h0_ _ => absurd ((hoff 16 (by kernel_rfl)).symm.trans h0_) (by decide), fun h0_ => absurd ((hoff 19 (by kernel_rfl)).symm.trans h0_) (by decide), fun _ => rfl, Q_X12_⟩
          refine steps_cons ?_ ?_
          · rintro b a w' ⟨gb1, gb2, v1, v2, m6_, m12_, ha, Q_GS, Q_T0, Q_T1, Q_T2, Q_B1, Q_B2, Q_K0, Q_K1, Q_K2, Q_X6_, Q_X12_⟩ hb_ hon hoff
            refine ⟨_, rfl, fun K hK => ?_⟩
            have e34 : a.tmps[34]? = some (.slice A1 said.length c1) := by rw [ha]; exact putSel_on (e := (5, 34, .slice A1 said.length c1)) 0 rfl rfl (hon 5 (by kernel_rfl)) rfl
            have e35 : a.tmps[35]? = some (m6_) := by rw [ha]; exact putSel_on (e := (6, 35, m6_)) 1 rfl rfl (hon 6 (by kernel_rfl)) rfl
            rw [Q_X6_ (hon 6 (by kernel_rfl))] at e35
            replace ha := Aside0.mk ha
            have GS := Aside0.mk Q_GS
            have T0 := Aside0.mk (Q_T0 hb_)
            have B1 := Aside0.mk (Q_B1 (hon 6 (by kernel_rfl)) hb_)
            have K0 := Aside0.mk (Q_K0 (hoff 16 (by kernel_rfl)))
            refine step_append_lies _ rfl (.tmp 34) (.tmp 35) 45 (by rfl) w0.heap.size 4 iB (.bool false) 1 1 HUS.out HIB.out.1 HIB.out.2.1 HIB.out.2.2.1 HIB.out.2.2.2 rfl (by decide) (.slice A1 said.length c1) _ _ (eval_of e34) T0.out.o1 ⟨gb1, 0, none⟩ 1 1 [.bool false] (eval_of e35) rfl (World.news_of_block B1.out.2) (by intro u hu; rw [List.mem_singleton.1 hu]; rfl) (by decide) HBD.out.1.1 HBD.out.1.2 (Nat.le_trans HBB.out GS.out) w'.heap.size rfl ?_
            intro g cap w1 hown hgrow hat hlt
            refine hK.out _ _ ⟨gb1, gb2, (.slice (some ⟨g, 0, none⟩) (said.length + 1) cap), v2, m6_, m12_, (by rw [ha.out]; exact putSel_upk 2 hb_ rfl rfl rfl), Nat.le_trans GS.out hgrow.size, fun h0_ => absurd ((up_self b 7).symm.trans h0_) (by decide), fun _ _ => T0.out.app1 hown hgrow hat, fun h0_ => absurd ((hoff 13 (by kernel_rfl)).symm.trans h0_) (by decide), fun _ h1_ => absurd ((up_self b 7).symm.trans h1_) (by decide), fun h0_ h1_ => T0.out.keepB1 (Q_B2 h0_ h1_) hgrow, fun _ => T0.out.keepR1 K0.out hgrow, fun h0_ _ => absurd ((hoff 16 (by kernel_rfl)).symm.trans h0_) (by decide), fun h0_ => absurd ((hoff 19 (by kernel_rfl)).symm.trans h0_) (by decide), Q_X6_, Q_X12_⟩
          refine steps_cons ?_ ?_
          · rintro b a w' ⟨gb1, gb2, v1, v2, m6_, m12_, ha, Q_GS, Q_T0, Q_T1, Q_T2, Q_B1, Q_B2, Q_K0, Q_K1, Q_K2, Q_X6_, Q_X12_⟩ hb_ hon hoff
            refine ⟨_, rfl, fun K hK => ?_⟩
            have e39 : a.tmps[39]? = some (.pointer (some ⟨rb, 3, none⟩)) := by rw [ha]; exact (putSel_off rfl).trans rfl
            replace ha := Aside0.mk ha
            have GS := Aside0.mk Q_GS
            have K0 := Aside0.mk (Q_K0 (hoff 16 (by kernel_rfl)))
            have hk := rdrB_3 K0.out
            refine value_ (w1 := w') (v := .slice A2 good.length c2) (by rfl) rfl ?_ ?_
            · go_simp
              (try simp only [i64_w])
              try rfl
            refine hK.out _ _ ⟨gb1, gb2, v1, v2, m6_, m12_, (by rw [ha.out]; exact putSel_upk 3 hb_ rfl rfl rfl), Q_GS, Q_T0, Q_T1, fun h0_ => absurd ((hoff 13 (by kernel_rfl)).symm.trans h0_) (by decide), Q_B1, Q_B2, Q_K0, fun h0_ _ => absurd ((hoff 16 (by kernel_rfl)).symm.trans h0_) (by decide), fun h0_ => absurd ((hoff 19 (by kernel_rfl)).symm.trans h0_) (by decide), Q_X6_, Q_X12_⟩
          refine steps_cons ?_ ?_
          · rintro b a w' ⟨gb1, gb2, v1, v2, m6_, m12_, ha, Q_GS, Q_T0, Q_T1, Q_T2, Q_B1, Q_B2, Q_K0, Q_K1, Q_K2, Q_X6_, Q_X12_⟩ hb_ hon hoff
            refine ⟨_, rfl, fun K hK => ?_⟩
            replace ha := Aside0.mk ha
            have GS := Aside0.mk Q_GS
            have K0 := Aside0.mk (Q_K0 (hoff 16 (by kernel_rfl)))
            refine value_ (w1 := w'.alloc (.cells #[.bool false] 4)) (v := .slice (some ⟨w'.heap.size, 0, none⟩) 1 1) (by rfl) rfl ?_ ?_
            · go_simp
            refine hK.out _ _ ⟨gb1, w'.heap.size, v1, v2, m6_, (.slice (some ⟨w'.heap.size, 0, none⟩) 1 1), (by rw [ha.out]; exact putSel_upk 4 hb_ rfl rfl rfl), le_alloc GS.out _, fun h0_ => (Q_T0 h0_).alloc _, fun h0_ h1_ => (Q_T1 h0_ h1_).alloc _, fun h0_ => absurd ((hoff 13 (by kernel_rfl)).symm.trans h0_) (by decide), fun h0_ h1_ => ⟨(Q_B1 h0_ h1_).1, blk_alloc (Q_B1 h0_ h1_).2 _⟩, fun _ _ => ⟨GS.out, heap_alloc_new w' _⟩, fun _ => blk_alloc K0.out _, fun h0_ _ => absurd ((hoff 16 (by kernel_rfl)).symm.trans h0_) (by decide), fun h0_ => absurd ((hoff 19 (by kernel_rfl)).symm.trans h0_) (by decide), Q_X6_, fun _ => rfl⟩
          refine steps_cons ?_ ?_
          · rintro b a w' ⟨gb1, gb2, v1, v2, m6_, m12_, ha, Q_GS, Q_T0, Q_T1, Q_T2, Q_B1, Q_B2, Q_K0, Q_K1, Q_K2, Q_X6_, Q_X12_⟩ hb_ hon hoff
            refine ⟨_, rfl, fun K hK => ?_⟩
            have e40 : a.tmps[40]? = some (.slice A2 good.length c2) := by rw [ha]; exact putSel_on (e := (11, 40, .slice A2 good.length c2)) 3 rfl rfl (hon 11 (by kernel_rfl)) rfl
            have e41 : a.tmps[41]? = some (m12_) := by rw [ha]; exact putSel_on (e := (12, 41, m12_)) 4 rfl rfl (hon 12 (by kernel_rfl)) rfl
            rw [Q_X12_ (hon 12 (by kernel_rfl))] at e41
            replace ha := Aside0.mk ha
            have GS := Aside0.mk Q_GS
            have T1 := Aside0.mk (Q_T1 (hon 7 (by kernel_rfl)) hb_)
            have B2 := Aside0.mk (Q_B2 (hon 12 (by kernel_rfl)) hb_)
            have K0 := Aside0.mk (Q_K0 (hoff 16 (by kernel_rfl)))
            refine step_append_lies _ rfl (.tmp 40) (.tmp 41) 45 (by rfl) w0.heap.size 4 iB (.bool false) 1 1 HUS.out HIB.out.1 HIB.out.2.1 HIB.out.2.2.1 HIB.out.2.2.2 rfl (by decide) (.slice A2 good.length c2) _ _ (eval_of e40) T1.out.o2 ⟨gb2, 0, none⟩ 1 1 [.bool false] (eval_of e41) rfl (World.news_of_block B2.out.2) (by intro u hu; rw [List.mem_singleton.1 hu]; rfl) (by decide) HBD.out.2.1 HBD.out.2.2 (Nat.le_trans HBB.out GS.out) w'.heap.size rfl ?_
            intro g cap w1 hown hgrow hat hlt
            refine hK.out _ _ ⟨gb1, gb2, v1, (.slice (some ⟨g, 0, none⟩) (good.length + 1) cap), m6_, m12_, (by rw [ha.out]; exact putSel_upk 5 hb_ rfl rfl rfl), Nat.le_trans GS.out hgrow.size, fun h0_ => absurd ((hon 7 (by kernel_rfl)).symm.trans h0_) (by decide), fun _ h1_ => absurd ((up_self b 13).symm.trans h1_) (by decide), fun _ => T1.out.app2 hown hgrow hat, fun _ h1_ => absurd ((hon 7 (by kernel_rfl)).symm.trans h1_) (by decide), fun _ h1_ => absurd ((up_self b 13).symm.trans h1_) (by decide), fun _ => T1.out.keepR2 K0.out hgrow, fun h0_ _ => absurd ((hoff 16 (by kernel_rfl)).symm.trans h0_) (by decide), fun h0_ => absurd ((hoff 19 (by kernel_rfl)).symm.trans h0_) (by decide), Q_X6_, Q_X12_⟩
          refine steps_cons ?_ ?_
          · rintro b a w' ⟨gb1, gb2, v1, v2, m6_, m12_, ha, Q_GS, Q_T0, Q_T1, Q_T2, Q_B1, Q_B2, Q_K0, Q_K1, Q_K2, Q_X6_, Q_X12_⟩ hb_ hon hoff
            refine ⟨_, rfl, fun K hK => ?_⟩
            have e29 : a.tmps[29]? = some (.pointer (some ⟨rb, 0, none⟩)) := by rw [ha]; exact (putSel_off rfl).trans rfl
            replace ha := Aside0.mk ha
            have GS := Aside0.mk Q_GS
            have T2 := Aside0.mk (Q_T2 (hon 13 (by kernel_rfl)))
            have K0 := Aside0.mk (Q_K0 (hoff 16 (by kernel_rfl)))
            refine value_ (w1 := w') (v := .pointer (some ⟨rb, 0, none⟩)) (by rfl) rfl ?_ ?_
            · go_simp
              (try simp only [i64_w])
              try rfl
            refine hK.out _ _ ⟨gb1, gb2, v1, v2, m6_, m12_, (by rw [ha.out]; exact putSel_upk 6 hb_ rfl rfl rfl), Q_GS, fun h0_ => absurd ((hon 7 (by kernel_rfl)).symm.trans h0_) (by decide), fun _ h1_ => absurd ((hon 13 (by kernel_rfl)).symm.trans h1_) (by decide), Q_T2, fun _ h1_ => absurd ((hon 7 (by kernel_rfl)).symm.trans h1_) (by decide), fun _ h1_ => absurd ((hon 13 (by kernel_rfl)).symm.trans h1_) (by decide), Q_K0, fun h0_ _ => absurd ((hoff 16 (by kernel_rfl)).symm.trans h0_) (by decide), fun h0_ => absurd ((hoff 19 (by kernel_rfl)).symm.trans h0_) (by decide), Q_X6_, Q_X12_⟩
          refine steps_cons ?_ ?_
          · rintro b a w' ⟨gb1, gb2, v1, v2, m6_, m12_, ha, Q_GS, Q_T0, Q_T1, Q_T2, Q_B1, Q_B2, Q_K0, Q_K1, Q_K2, Q_X6_, Q_X12_⟩ hb_ hon hoff
            refine ⟨_, rfl, fun K hK => ?_⟩
            have e43 : a.tmps[43]? = some (.pointer (some ⟨rb, 0, none⟩)) := by rw [ha]; exact putSel_on (e := (14, 43, .pointer (some ⟨rb, 0, none⟩))) 6 rfl rfl (hon 14 (by kernel_rfl)) rfl
            replace ha := Aside0.mk ha
            have GS := Aside0.mk Q_GS
            have T2 := Aside0.mk (Q_T2 (hon 13 (by kernel_rfl)))
            have K0 := Aside0.mk (Q_K0 (hoff 16 (by kernel_rfl)))
            refine value_ (w1 := w') (v := .pointer (some ⟨rb, 2, none⟩)) (by rfl) rfl ?_ ?_
            · go_simp
              (try simp only [i64_w])
              try rfl
            refine hK.out _ _ ⟨gb1, gb2, v1, v2, m6_, m12_, (by rw [ha.out]; exact putSel_upk 7 hb_ rfl rfl rfl), Q_GS, fun h0_ => absurd ((hon 7 (by kernel_rfl)).symm.trans h0_) (by decide), fun _ h1_ => absurd ((hon 13 (by kernel_rfl)).symm.trans h1_) (by decide), Q_T2, fun _ h1_ => absurd ((hon 7 (by kernel_rfl)).symm.trans h1_) (by decide), fun _ h1_ => absurd ((hon 13 (by kernel_rfl)).symm.trans h1_) (by decide), Q_K0, fun h0_ _ => absurd ((hoff 16 (by kernel_rfl)).symm.trans h0_) (by decide), fun h0_ => absurd ((hoff 19 (by kernel_rfl)).symm.trans h0_) (by decide), Q_X6_, Q_X12_⟩
          refine steps_cons ?_ ?_
          · rintro b a w' ⟨gb1, gb2, v1, v2, m6_, m12_, ha, Q_GS, Q_T0, Q_T1, Q_T2, Q_B1, Q_B2, Q_K0, Q_K1, Q_K2, Q_X6_, Q_X12_⟩ hb_ hon hoff
            refine ⟨_, rfl, fun K hK => ?_⟩
            have e44 : a.tmps[44]? = some (.pointer (some ⟨rb, 2, none⟩)) := by rw [ha]; exact putSel_on (e := (15, 44, .pointer (some ⟨rb, 2, none⟩))) 7 rfl rfl (hon 15 (by kernel_rfl)) rfl
            have e36 : a.tmps[36]? = some (v1) := by rw [ha]; exact putSel_on (e := (7, 36, v1)) 2 rfl rfl (hon 7 (by kernel_rfl)) rfl
            replace ha := Aside0.mk ha
            have GS := Aside0.mk Q_GS
            have T2 := Aside0.mk (Q_T2 (hon 13 (by kernel_rfl)))
            have K0 := Aside0.mk (Q_K0 hb_)
            obtain ⟨A_, c_, rfl, _⟩ := own_form T2.out.o1
            have hc := rdrB_2 K0.out
            have hf := blk_frozen K0.out 2
            refine skip_ (w1 := w'.setCell ⟨rb, 2, none⟩ (.slice A_ (said ++ [false]).length c_)) (by rfl) rfl ?_ ?_
            · go_simp
            refine hK.out _ _ ⟨gb1, gb2, (.slice A_ (said ++ [false]).length c_), v2, m6_, m12_, (by rw [ha.out]; exact putSel_none (v := undef) rfl), le_set GS.out _ _, fun h0_ => absurd ((hon 7 (by kernel_rfl)).symm.trans h0_) (by decide), fun _ h1_ => absurd ((hon 13 (by kernel_rfl)).symm.trans h1_) (by decide), fun _ => T2.out.setR _ _, fun _ h1_ => absurd ((hon 7 (by kernel_rfl)).symm.trans h1_) (by decide), fun _ h1_ => absurd ((hon 13 (by kernel_rfl)).symm.trans h1_) (by decide), fun h0_ => absurd ((up_self b 16).symm.trans h0_) (by decide), fun _ _ => rdrB_set2 K0.out _, fun h0_ => absurd ((hoff 19 (by kernel_rfl)).symm.trans h0_) (by decide), Q_X6_, Q_X12_⟩
          refine steps_cons ?_ ?_
          · rintro b a w' ⟨gb1, gb2, v1, v2, m6_, m12_, ha, Q_GS, Q_T0, Q_T1, Q_T2, Q_B1, Q_B2, Q_K0, Q_K1, Q_K2, Q_X6_, Q_X12_⟩ hb_ hon hoff
            refine ⟨_, rfl, fun K hK => ?_⟩
            have e30 : a.tmps[30]? = some (.pointer (some ⟨rb, 0, none⟩)) := by rw [ha]; exact (putSel_off rfl).trans rfl
            replace ha := Aside0.mk ha
            have GS := Aside0.mk Q_GS
            have T2 := Aside0.mk (Q_T2 (hon 13 (by kernel_rfl)))
            have K1 := Aside0.mk (Q_K1 (hon 16 (by kernel_rfl)) (hoff 19 (by kernel_rfl)))
            refine value_ (w1 := w') (v := .pointer (some ⟨rb, 0, none⟩)) (by rfl) rfl ?_ ?_
            · go_simp
              (try simp only [i64_w])
              try rfl
            refine hK.out _ _ ⟨gb1, gb2, v1, v2, m6_, m12_, (by rw [ha.out]; exact putSel_upk 8 hb_ rfl rfl rfl), Q_GS, fun h0_ => absurd ((hon 7 (by kernel_rfl)).symm.trans h0_) (by decide), fun _ h1_ => absurd ((hon 13 (by kernel_rfl)).symm.trans h1_) (by decide), Q_T2, fun _ h1_ => absurd ((hon 7 (by kernel_rfl)).symm.trans h1_) (by decide), fun _ h1_ => absurd ((hon 13 (by kernel_rfl)).symm.trans h1_) (by decide), fun h0_ => absurd ((hon 16 (by kernel_rfl)).symm.trans h0_) (by decide), Q_K1, fun h0_ => absurd ((hoff 19 (by kernel_rfl)).symm.trans h0_) (by decide), Q_X6_, Q_X12_⟩
          refine steps_cons ?_ ?_
          · rintro b a w' ⟨gb1, gb2, v1, v2, m6_, m12_, ha, Q_GS, Q_T0, Q_T1, Q_T2, Q_B1, Q_B2, Q_K0, Q_K1, Q_K2, Q_X6_, Q_X12_⟩ hb_ hon hoff
            refine ⟨_, rfl, fun K hK => ?_⟩
            have e45 : a.tmps[45]? = some (.pointer (some ⟨rb, 0, none⟩)) := by rw [ha]; exact putSel_on (e := (17, 45, .pointer (some ⟨rb, 0, none⟩))) 8 rfl rfl (hon 17 (by kernel_rfl)) rfl
            replace ha := Aside0.mk ha
            have GS := Aside0.mk Q_GS
            have T2 := Aside0.mk (Q_T2 (hon 13 (by kernel_rfl)))
            have K1 := Aside0.mk (Q_K1 (hon 16 (by kernel_rfl)) (hoff 19 (by kernel_rfl)))
            refine value_ (w1 := w') (v := .pointer (some ⟨rb, 3, none⟩)) (by rfl) rfl ?_ ?_
            · go_simp
              (try simp only [i64_w])
              try rfl
            refine hK.out _ _ ⟨gb1, gb2, v1, v2, m6_, m12_, (by rw [ha.out]; exact putSel_upk 9 hb_ rfl rfl rfl), Q_GS, fun h0_ => absurd ((hon 7 (by kernel_rfl)).symm.trans h0_) (by decide), fun _ h1_ => absurd ((hon 13 (by kernel_rfl)).symm.trans h1_) (by decide), Q_T2, fun _ h1_ => absurd ((hon 7 (by kernel_rfl)).symm.trans h1_) (by decide), fun _ h1_ => absurd ((hon 13 (by kernel_rfl)).symm.trans h1_) (by decide), fun h0_ => absurd ((hon 16 (by kernel_rfl)).symm.trans h0_) (by decide), Q_K1, fun h0_ => absurd ((hoff 19 (by kernel_rfl)).symm.trans h0_) (by decide), Q_X6_, Q_X12_⟩
          refine steps_cons ?_ ?_
          · rintro b a w' ⟨gb1, gb2, v1, v2, m6_, m12_, ha, Q_GS, Q_T0, Q_T1, Q_T2, Q_B1, Q_B2, Q_K0, Q_K1, Q_K2, Q_X6_, Q_X12_⟩ hb_ hon hoff
            refine ⟨_, rfl, fun K hK => ?_⟩
            have e46 : a.tmps[46]? = some (.pointer (some ⟨rb, 3, none⟩)) := by rw [ha]; exact putSel_on (e := (18, 46, .pointer (some ⟨rb, 3, none⟩))) 9 rfl rfl (hon 18 (by kernel_rfl)) rfl
            have e42 : a.tmps[42]? = some (v2) := by rw [ha]; exact putSel_on (e := (13, 42, v2)) 5 rfl rfl (hon 13 (by kernel_rfl)) rfl
            replace ha := Aside0.mk ha
            have GS := Aside0.mk Q_GS
            have T2 := Aside0.mk (Q_T2 (hon 13 (by kernel_rfl)))
            have K1 := Aside0.mk (Q_K1 (hon 16 (by kernel_rfl)) hb_)
            obtain ⟨A_, c_, rfl, _⟩ := own_form T2.out.o2
            have hc := rdrB_3 K1.out
            have hf := blk_frozen K1.out 3
            refine skip_ (w1 := w'.setCell ⟨rb, 3, none⟩ (.slice A_ (good ++ [false]).length c_)) (by rfl) rfl ?_ ?_
            · go_simp
            refine hK.out _ _ ⟨gb1, gb2, v1, (.slice A_ (good ++ [false]).length c_), m6_, m12_, (by rw [ha.out]; exact putSel_none (v := undef) rfl), le_set GS.out _ _, fun h0_ => absurd ((hon 7 (by kernel_rfl)).symm.trans h0_) (by decide), fun _ h1_ => absurd ((hon 13 (by kernel_rfl)).symm.trans h1_) (by decide), fun _ => T2.out.setR _ _, fun _ h1_ => absurd ((hon 7 (by kernel_rfl)).symm.trans h1_) (by decide), fun _ h1_ => absurd ((hon 13 (by kernel_rfl)).symm.trans h1_) (by decide), fun h0_ => absurd ((hon 16 (by kernel_rfl)).symm.trans h0_) (by decide), fun _ h1_ => absurd ((up_self b 19).symm.trans h1_) (by decide), fun _ => rdrB_set3 K1.out _, Q_X6_, Q_X12_⟩
          exact steps_nil
        · rintro b a w' hall ⟨gb1, gb2, v1, v2, m6_, m12_, ha, Q_GS, Q_T0, Q_T1, Q_T2, Q_B1, Q_B2, Q_K0, Q_K1, Q_K2, Q_X6_, Q_X12_⟩
          clear GS K0 T0
          have hb5_ := hall 5 (by kernel_rfl)
          have hb6_ := hall 6 (by kernel_rfl)
          have hb7_ := hall 7 (by kernel_rfl)
          have hb11_ := hall 11 (by kernel_rfl)
          have hb12_ := hall 12 (by kernel_rfl)
          have hb13_ := hall 13 (by kernel_rfl)
          have hb14_ := hall 14 (by kernel_rfl)
          have hb15_ := hall 15 (by kernel_rfl)
          have hb16_ := hall 16 (by kernel_rfl)
          have hb17_ := hall 17 (by kernel_rfl)
          have hb18_ := hall 18 (by kernel_rfl)
          have hb19_ := hall 19 (by kernel_rfl)
          subst ha
          obtain rfl := Q_X6_ hb6_
          obtain rfl := Q_X12_ hb12_
          simp only [putSel, hb5_, hb6_, hb7_, hb11_, hb12_, hb13_, hb14_, hb15_, hb16_, hb17_, hb18_, hb19_, if_true, Act.put, List.setIfInBounds_toArray, List.set_cons_zero, List.set_cons_succ]
          have GS := Aside0.mk Q_GS
          clear Q_GS
          clear Q_T0
          clear Q_T1
          have T2 := Aside0.mk (Q_T2 hb13_)
          clear Q_T2
          clear Q_B1
          clear Q_B2
          clear Q_K0
          clear Q_K1
          have K2 := Aside0.mk (Q_K2 hb19_)
          clear Q_K2
          clear hall hb5_ hb6_ hb7_ hb11_ hb12_ hb13_ hb14_ hb15_ hb16_ hb17_ hb18_ hb19_
          go_wp2_with fail
          go_meet
          have hfin := T2.out.rdr K2.out
          exact ⟨v1, v2, ⟨by rw [HE.out]; exact hfin.1⟩, ⟨hfin.2⟩⟩
    case rest =>
      obtain ⟨y1, y2v, HRb, HFb⟩ := hcut
      have hbxc := HBOX.out _ _ _ HFb.out
      have z2 : wc.cell? ⟨w.heap.size, 2, none⟩ = some (.slice A s.f2.length cp) := (blk_cell hbxc 2).trans rfl
      obtain ⟨K, hK⟩ : ∃ K, K = said.length + tS s.f0 := ⟨_, rfl⟩
      have HKD := Aside0.mk hK
      have hsl : (said ++ ownE s.f0 false).length = K := by rw [List.length_append, len_own, hK]
      have hgl : (good ++ ownE s.f0 false).length = K := by rw [List.length_append, len_own, hK, HLG.out]
      have HSL := Aside0.mk hsl
      have HGL := Aside0.mk hgl
      have HLT := Aside0.mk (show K + tnL s.f2 ≤ 60 from by have := HBD.out; have := HTN.out; omega)
      clear hbxc x0 y2 hK hsl hgl
      have hlen := Kd.C_max HK.out
      go_wp2
      go_loopg [50, 7, 8] s.f2.length (fun kq v50 v7 v8 w' => ∃ (j : Nat) (pre sd gd : List Bool) (x1 x2 : Value), j + kq = s.f2.length ∧ v50 = .int .i64 j ∧ v7 = .bool (pre.getD 0 false) ∧ v8 = .bool (pre.getD 1 false) ∧ Aside0 (pre.length = j) ∧ Aside0 (pre ++ valL sv lt (s.f2.drop j) sd.length = valL sv lt s.f2 K) ∧ Aside0 (sd ++ saidL sv lt (s.f2.drop j) sd.length = said ++ ownE s.f0 false ++ saidL sv lt s.f2 K) ∧ Aside0 (gd ++ goodL sv lt (s.f2.drop j) sd.length = good ++ ownE s.f0 false ++ goodL sv lt s.f2 K) ∧ Aside0 (sd.length = gd.length) ∧ Aside0 (sd.length + tnL (s.f2.drop j) = K + tnL s.f2) ∧ Aside0 (Rdr w0 w' rb sv lt sd gd x1 x2) ∧ Aside0 (Fr W1 rb (.slice A1 said.length c1) (.slice A2 good.length c2) w' x1 x2))
      case atStart => exact ⟨0, [], said ++ ownE s.f0 false, good ++ ownE s.f0 false, y1, y2v, by omega, rfl, rfl, rfl, ⟨rfl⟩, ⟨by rw [HSL.out]; rfl⟩, ⟨by rw [HSL.out]; rfl⟩, ⟨by rw [HSL.out]; rfl⟩, ⟨by rw [HSL.out, HGL.out]⟩, ⟨by rw [HSL.out]; rfl⟩, HRb, HFb⟩
      case round =>
        obtain ⟨j, pre, sd, gd, x1, x2, hj, rfl, rfl, rfl, HPL, HPV, HPS, HPG, HLQ, HTQ, HRd, HFd⟩ := hrel
        have HJ := Aside0.mk hj
        clear hj
        by_cases hlt : j < s.f2.length
        · obtain ⟨ad, A3, cp3, e0, hx0, hx1, hx2, hl3, hk3⟩ := kid_at HK.out HRd.out.bl j hlt hlt
          cases e0
          have HK3 := Aside0.mk hk3
          have HL3 := Aside0.mk hl3
          clear hk3 hl3
          have hd := List.drop_eq_getElem_cons hlt
          have HD := Aside0.mk hd
          clear hd
          have htn : sd.length + tnS (s.f2[j]'hlt) ≤ 60 := by
            have h1 := HTQ.out
            rw [HD.out] at h1
            have h2 := HLT.out
            simp only [tnL] at h1
            omega
          have HKK := Aside0.mk (fun W h => HIH.out (s.f2[j]'hlt) (List.getElem_mem hlt) rb sv lt sd gd x1 x2 A3 cp3 W h HLQ.out htn HK3.out HL3.out (sound_kid HS.out j hlt))
          clear htn
          have hPV : (pre ++ [valS sv lt (s.f2[j]'hlt) sd.length]) ++ valL sv lt (s.f2.drop (j + 1)) (sd.length + tnS (s.f2[j]'hlt)) = valL sv lt s.f2 K := by
            rw [← HPV.out, HD.out, valL, List.append_assoc]; rfl
          have hPS : (sd ++ saidS sv lt (s.f2[j]'hlt) sd.length) ++ saidL sv lt (s.f2.drop (j + 1)) (sd.length + tnS (s.f2[j]'hlt)) = said ++ ownE s.f0 false ++ saidL sv lt s.f2 K := by
            rw [← HPS.out, HD.out, saidL, List.append_assoc]
          have hPG : (gd ++ goodS sv lt (s.f2[j]'hlt) sd.length) ++ goodL sv lt (s.f2.drop (j + 1)) (sd.length + tnS (s.f2[j]'hlt)) = good ++ ownE s.f0 false ++ goodL sv lt s.f2 K := by
            rw [← HPG.out, HD.out, goodL, List.append_assoc]
          have hQL : (sd ++ saidS sv lt (s.f2[j]'hlt) sd.length).length = sd.length + tnS (s.f2[j]'hlt) := by rw [List.length_append, len_said]
          have hQG : (gd ++ goodS sv lt (s.f2[j]'hlt) sd.length).length = sd.length + tnS (s.f2[j]'hlt) := by rw [List.length_append, len_good, HLQ.out]
          have hTN : sd.length + tnS (s.f2[j]'hlt) + tnL (s.f2.drop (j + 1)) = K + tnL s.f2 := by rw [← HTQ.out, HD.out, tnL]; omega
          have HPV2 := Aside0.mk hPV
          have HPS2 := Aside0.mk hPS
          have HPG2 := Aside0.mk hPG
          have HQL := Aside0.mk hQL
          have HQG := Aside0.mk hQG
          have HTN2 := Aside0.mk hTN
          clear hPV hPS hPG hQL hQG hTN
          obtain ⟨vv, hvv⟩ : ∃ vv, vv = valS sv lt (s.f2[j]'hlt) sd.length := ⟨_, rfl⟩
          rw [← hvv] at HPV2
          have HVV := Aside0.mk hvv
          clear hvv
          by_cases hj0 : j = 0
          · have hjb : ((j : Int) == 0) = true := by rw [hj0]; rfl
            have hp0 : pre = [] := List.length_eq_zero_iff.1 (by rw [HPL.out, hj0])
            subst hp0
            have HJ0 := Aside0.mk hj0
            clear hj0
            go_wp2_with (go_at_call 52; refine (HKK.out _ (HRd.out.alloc _)).mono ?_; rintro e w2 ⟨rfl, u1, u2, hR2, hF2⟩; have HR2 := Aside0.mk hR2; have HF2 := Aside0.mk (HFd.out.alloc _ |>.trans hF2); clear hR2 hF2; rw [← HVV.out])
            go_roundg (gk - 1)
            case measure => have := HJ.out; omega
            case rel => exact ⟨j + 1, [vv], _, _, u1, u2, by have := HJ.out; omega, by go_num, rfl, rfl, ⟨by rw [HJ0.out]; rfl⟩, ⟨by rw [HQL.out]; exact HPV2.out⟩, ⟨by rw [HQL.out]; exact HPS2.out⟩, ⟨by rw [HQL.out]; exact HPG2.out⟩, ⟨by rw [HQL.out, HQG.out]⟩, ⟨by rw [HQL.out]; exact HTN2.out⟩, HR2, HF2⟩
          · have hjb : ((j : Int) == 0) = false := beq_eq_false_iff_ne.2 (by omega)
            have hj1 : j = 1 := by omega
            obtain ⟨pa, rfl⟩ : ∃ pa, pre = [pa] := List.length_eq_one_iff.1 (by rw [HPL.out, hj1])
            have HJ1 := Aside0.mk hj1
            clear hj1 hj0
            go_wp2_with (go_at_call 52; refine (HKK.out _ (HRd.out.alloc _)).mono ?_; rintro e w2 ⟨rfl, u1, u2, hR2, hF2⟩; have HR2 := Aside0.mk hR2; have HF2 := Aside0.mk (HFd.out.alloc _ |>.trans hF2); clear hR2 hF2; rw [← HVV.out])
            go_roundg (gk - 1)
            case measure => have := HJ.out; omega
            case rel => exact ⟨j + 1, [pa, vv], _, _, u1, u2, by have := HJ.out; omega, by go_num, rfl, rfl, ⟨by rw [HJ1.out]; rfl⟩, ⟨by rw [HQL.out]; exact HPV2.out⟩, ⟨by rw [HQL.out]; exact HPS2.out⟩, ⟨by rw [HQL.out]; exact HPG2.out⟩, ⟨by rw [HQL.out, HQG.out]⟩, ⟨by rw [HQL.out]; exact HTN2.out⟩, HR2, HF2⟩
        · have hdr : s.f2.drop j = [] := List.drop_eq_nil_of_le (by omega)
          have hpv : pre = valL sv lt s.f2 K := by have := HPV.out; rw [hdr, valL, List.append_nil] at this; exact this
          have hps : sd = said ++ ownE s.f0 false ++ saidL sv lt s.f2 K := by have := HPS.out; rw [hdr, saidL, List.append_nil] at this; exact this
          have hpg : gd = good ++ ownE s.f0 false ++ goodL sv lt s.f2 K := by have := HPG.out; rw [hdr, goodL, List.append_nil] at this; exact this
          have hEQ := HEQ.out
          rw [← HKD.out, ← hpv] at hEQ
          obtain ⟨xa, hxa⟩ : ∃ xa, xa = pre.getD 0 false := ⟨_, rfl⟩
          obtain ⟨xb, hxb⟩ : ∃ xb, xb = pre.getD 1 false := ⟨_, rfl⟩
          rw [← hxa, ← hxb] at hEQ
          rw [← hxa, ← hxb]
          have HEQ2 := Aside0.mk hEQ
          have HPS2 := Aside0.mk hps
          have HPG2 := Aside0.mk hpg
          have hbxc := HBOX.out _ _ _ HFd.out
          have z0 : wr.cell? ⟨w.heap.size, 0, none⟩ = some (.int .i64 s.f0) := (blk_cell hbxc 0).trans rfl
          have z1 : wr.cell? ⟨w.heap.size, 1, none⟩ = some (.int .i64 s.f1) := (blk_cell hbxc 1).trans rfl
          have r0 := rdrB_0 HRd.out.blk
          have r1 := rdrB_1 HRd.out.blk
          have r2 := rdrB_2 HRd.out.blk
          have r3 := rdrB_3 HRd.out.blk
          have hkb : said.length ≤ 60 := by have := HBD.out; omega
          clear hdr hpv hps hpg hEQ hxa hxb hbxc
          go_upto_region 14 with fail
          go_cut [12] (fun v12 wx => v12 = .bool (tm && bitK sv said.length) ∧ wx = wr)
          case first =>
            cases tm with
            | false =>
              go_wp2
              go_meet
              exact ⟨rfl, rfl⟩
            | true =>
              go_wp2
              go_meet
              exact ⟨rfl, rfl⟩
          case rest =>
            obtain ⟨rfl, hwc⟩ := hcut
            rw [hwc]
            clear hwc wc
            rcases HOP.out with hop | hop | hop | hop | hop | hop | hop | hop
            · -- op 1
              have hmm := HM0.out
              rw [hop] at z0 hmm
              have htm : tm = false := by rw [← HT.out, hop]; rfl
              subst htm
              have hval : valS sv lt s said.length = (true) := by
                rw [HEQ2.out.1, hop]; unfold valOp
                rw [if_neg (by decide), if_neg (by decide), if_neg (by decide), if_neg (by decide), if_neg (by decide), if_neg (by decide), if_neg (by decide)]
              have HV := Aside0.mk hval
              have hfs : said ++ saidS sv lt s said.length = sd := by rw [HEQ2.out.2.1, HPS2.out, hop]; unfold ownE; rw [if_neg (by decide), if_neg (by decide), List.append_nil, List.nil_append]
              have hfg : good ++ goodS sv lt s said.length = gd := by rw [HEQ2.out.2.2, HPG2.out, hop]; unfold ownE; rw [if_neg (by decide), if_neg (by decide), List.append_nil, List.nil_append]
              have HFS := Aside0.mk hfs
              have HFG := Aside0.mk hfg
              clear hval hfs hfg
              clear hmm
              go_wp2
              go_ret
              exact ⟨by rw [HV.out]; rfl, x1, x2, by rw [HFS.out, HFG.out]; exact HRd.out, HF1.out.trans HFd.out⟩
            · -- op 2
              have hmm := HM0.out
              rw [hop] at z0 hmm
              have htm : tm = false := by rw [← HT.out, hop]; rfl
              subst htm
              have hval : valS sv lt s said.length = (bitS lt s.f1) := by
                rw [HEQ2.out.1, hop]; unfold valOp
                rw [if_pos rfl]
              have HV := Aside0.mk hval
              have hfs : said ++ saidS sv lt s said.length = sd := by rw [HEQ2.out.2.1, HPS2.out, hop]; unfold ownE; rw [if_neg (by decide), if_neg (by decide), List.append_nil, List.nil_append]
              have hfg : good ++ goodS sv lt s said.length = gd := by rw [HEQ2.out.2.2, HPG2.out, hop]; unfold ownE; rw [if_neg (by decide), if_neg (by decide), List.append_nil, List.nil_append]
              have HFS := Aside0.mk hfs
              have HFG := Aside0.mk hfg
              clear hval hfs hfg
              have hm2 : mostS 2 = 19 := by decide
              have hw : IntKind.u64.wrap s.f1 = s.f1 := u64_id hmm.1 (by omega)
              have HBT := Aside0.mk (show bitS lt s.f1 = ((Go.bits .and .u32 (lt / 2 ^ s.f1.toNat) 1) == 1) from by unfold bitS; rw [hw, ← shr_small (k := .u32) (x := lt) (y := s.f1) rfl (by show s.f1 ≤ 32; omega)])
              have hm0 := hmm.1
              have hm1 : s.f1 < 32 := by omega
              clear hw hm2 hmm
              go_wp2
              go_quiet (fail)
              go_wp2
              go_ret
              exact ⟨by rw [HV.out, HBT.out]; rfl, x1, x2, by rw [HFS.out, HFG.out]; exact HRd.out.drewN _, (HF1.out.trans HFd.out).drewN _⟩
            · -- op 3
              have hmm := HM0.out
              rw [hop] at z0 hmm
              have htm : tm = false := by rw [← HT.out, hop]; rfl
              subst htm
              have hval : valS sv lt s said.length = (!xa) := by
                rw [HEQ2.out.1, hop]; unfold valOp
                rw [if_neg (by decide), if_pos rfl]
              have HV := Aside0.mk hval
              have hfs : said ++ saidS sv lt s said.length = sd := by rw [HEQ2.out.2.1, HPS2.out, hop]; unfold ownE; rw [if_neg (by decide), if_neg (by decide), List.append_nil, List.nil_append]
              have hfg : good ++ goodS sv lt s said.length = gd := by rw [HEQ2.out.2.2, HPG2.out, hop]; unfold ownE; rw [if_neg (by decide), if_neg (by decide), List.append_nil, List.nil_append]
              have HFS := Aside0.mk hfs
              have HFG := Aside0.mk hfg
              clear hval hfs hfg
              clear hmm
              go_wp2
              go_ret
              exact ⟨by rw [HV.out]; rfl, x1, x2, by rw [HFS.out, HFG.out]; exact HRd.out, HF1.out.trans HFd.out⟩
            · -- op 4
              have hmm := HM0.out
              rw [hop] at z0 hmm
              have htm : tm = false := by rw [← HT.out, hop]; rfl
              subst htm
              have hval : valS sv lt s said.length = (xa && xb) := by
                rw [HEQ2.out.1, hop]; unfold valOp
                rw [if_neg (by decide), if_neg (by decide), if_pos rfl]
              have HV := Aside0.mk hval
              have hfs : said ++ saidS sv lt s said.length = sd := by rw [HEQ2.out.2.1, HPS2.out, hop]; unfold ownE; rw [if_neg (by decide), if_neg (by decide), List.append_nil, List.nil_append]
              have hfg : good ++ goodS sv lt s said.length = gd := by rw [HEQ2.out.2.2, HPG2.out, hop]; unfold ownE; rw [if_neg (by decide), if_neg (by decide), List.append_nil, List.nil_append]
              have HFS := Aside0.mk hfs
              have HFG := Aside0.mk hfg
              clear hval hfs hfg
              clear hmm
              cases xa
              · go_wp2
                go_ret
                exact ⟨by rw [HV.out]; rfl, x1, x2, by rw [HFS.out, HFG.out]; exact HRd.out, HF1.out.trans HFd.out⟩
              · go_wp2
                go_ret
                exact ⟨by rw [HV.out]; rfl, x1, x2, by rw [HFS.out, HFG.out]; exact HRd.out, HF1.out.trans HFd.out⟩
            · -- op 5
              have hmm := HM0.out
              rw [hop] at z0 hmm
              have htm : tm = false := by rw [← HT.out, hop]; rfl
              subst htm
              have hval : valS sv lt s said.length = (xa || xb) := by
                rw [HEQ2.out.1, hop]; unfold valOp
                rw [if_neg (by decide), if_neg (by decide), if_neg (by decide), if_pos rfl]
              have HV := Aside0.mk hval
              have hfs : said ++ saidS sv lt s said.length = sd := by rw [HEQ2.out.2.1, HPS2.out, hop]; unfold ownE; rw [if_neg (by decide), if_neg (by decide), List.append_nil, List.nil_append]
              have hfg : good ++ goodS sv lt s said.length = gd := by rw [HEQ2.out.2.2, HPG2.out, hop]; unfold ownE; rw [if_neg (by decide), if_neg (by decide), List.append_nil, List.nil_append]
              have HFS := Aside0.mk hfs
              have HFG := Aside0.mk hfg
              clear hval hfs hfg
              clear hmm
              cases xa
              · go_wp2
                go_ret
                exact ⟨by rw [HV.out]; rfl, x1, x2, by rw [HFS.out, HFG.out]; exact HRd.out, HF1.out.trans HFd.out⟩
              · go_wp2
                go_ret
                exact ⟨by rw [HV.out]; rfl, x1, x2, by rw [HFS.out, HFG.out]; exact HRd.out, HF1.out.trans HFd.out⟩
            · -- op 6
              have hmm := HM0.out
              rw [hop] at z0 hmm
              have htm : tm = true := by rw [← HT.out, hop]; rfl
              subst htm
              have hval : valS sv lt s said.length = (bitK sv said.length) := by
                rw [HEQ2.out.1, hop]; unfold valOp
                rw [if_neg (by decide), if_neg (by decide), if_neg (by decide), if_neg (by decide), if_pos rfl]
              have HV := Aside0.mk hval
              have hlsd : said.length < sd.length := by rw [HPS2.out, List.length_append, List.length_append, len_own, hop]; have : tS 6 = 1 := rfl; omega
              have hlgd : said.length < gd.length := by rw [← HLQ.out]; exact hlsd
              have hfs : said ++ saidS sv lt s said.length = sd.set said.length xa := by
                have h1 : ∀ b, ownE 6 b = [b] := fun b => rfl
                rw [HEQ2.out.2.1, HPS2.out, hval, hop, h1, h1, set_mid, List.append_assoc]; rfl
              have hfg : good ++ goodS sv lt s said.length = gd.set said.length true := by
                have h1 : ∀ b, ownE 6 b = [b] := fun b => rfl
                rw [HEQ2.out.2.2, HPG2.out, hval, hop, h1, h1, HLG.out, set_mid, List.append_assoc]; rfl
              have HFS := Aside0.mk hfs
              have HFG := Aside0.mk hfg
              obtain ⟨g1, q1, g2, q2, rfl, rfl, hne, p1, f1, p2, f2, hput⟩ := HRd.out.putL hlsd hlgd
              have HPUT := Aside0.mk hput
              have i0 : (0 : Int) ≤ (said.length : Int) := by omega
              have i1 : (said.length : Int) < (sd.length : Int) := by omega
              have i2 : (said.length : Int) < (gd.length : Int) := by omega
              have hne2 : ¬ g2 = g1 := fun e => hne e.symm
              generalize bitK sv said.length = bk at *
              clear hval hfs hfg hput hmm
              have hr1 : ¬ rb = g1 := fun e => HRd.out.rne1 (by rw [e]; rfl)
              have hr2 : ¬ rb = g2 := fun e => HRd.out.rne2 (by rw [e]; rfl)
              go_upto_region 25 with fail
              refine start_ (n := 15) (S := fun w' => w'.cell? ⟨rb, 2, none⟩ = some (.slice (some ⟨g1, 0, none⟩) sd.length q1) ∧ w'.cell? ⟨rb, 3, none⟩ = some (.slice (some ⟨g2, 0, none⟩) gd.length q2)) (ds := [12, 14]) #[false, false, false, false, false, false, false, false, false, false, false, false, false, false, false] (by kernel_rfl) rfl rfl ⟨r2, r3⟩ (fun hHeld => ?_)
              refine with_tabW rdr_value.tab25 rdr_value.bits25 (fun HT_ HW_ => ?_)
              refine pure_ (i := 0) (N := some 107) (v := ?_) (a' := ?_) #[true, false, false, false, false, false, false, false, false, false, false, false, false, false, false] rfl rfl (any_of HT_.out (by kernel_rfl)) (fun _ _ _ h => h) (Or.inl ⟨by rfl, ?_⟩) ?_ ?_
              rotate_left
              · intro w'
                go_simp
                with_reducible rfl
              rotate_left
              · simp only [Act.put, List.setIfInBounds_toArray, List.set_cons_zero, List.set_cons_succ, i64_w, i32_w]
                rfl
              refine pure_ (i := 1) (N := some 108) (v := ?_) (a' := ?_) #[true, true, false, false, false, false, false, false, false, false, false, false, false, false, false] rfl rfl (any_of HT_.out (by kernel_rfl)) (fun _ _ _ h => h) (Or.inl ⟨by rfl, ?_⟩) ?_ ?_
              rotate_left
              · intro w'
                go_simp
                with_reducible rfl
              rotate_left
              · simp only [Act.put, List.setIfInBounds_toArray, List.set_cons_zero, List.set_cons_succ, i64_w, i32_w]
                rfl
              refine pure_ (i := 2) (N := some 109) (v := ?_) (a' := ?_) #[true, true, true, false, false, false, false, false, false, false, false, false, false, false, false] rfl rfl (any_of HT_.out (by kernel_rfl)) (fun _ _ _ h => h) (Or.inl ⟨by rfl, ?_⟩) ?_ ?_
              rotate_left
              · intro w'
                go_simp
                with_reducible rfl
              rotate_left
              · simp only [Act.put, List.setIfInBounds_toArray, List.set_cons_zero, List.set_cons_succ, i64_w, i32_w]
                rfl
              refine pure_ (i := 4) (N := some 111) (v := ?_) (a' := ?_) #[true, true, true, false, true, false, false, false, false, false, false, false, false, false, false] rfl rfl (any_of HT_.out (by kernel_rfl)) (fun _ _ _ h => h) (Or.inl ⟨by rfl, ?_⟩) ?_ ?_
              rotate_left
              · intro w'
                go_simp
                with_reducible rfl
              rotate_left
              · simp only [Act.put, List.setIfInBounds_toArray, List.set_cons_zero, List.set_cons_succ, i64_w, i32_w]
                rfl
              refine pure_ (i := 5) (N := some 112) (v := ?_) (a' := ?_) #[true, true, true, false, true, true, false, false, false, false, false, false, false, false, false] rfl rfl (any_of HT_.out (by kernel_rfl)) (fun _ _ _ h => h) (Or.inl ⟨by rfl, ?_⟩) ?_ ?_
              rotate_left
              · intro w'
                go_simp
                with_reducible rfl
              rotate_left
              · simp only [Act.put, List.setIfInBounds_toArray, List.set_cons_zero, List.set_cons_succ, i64_w, i32_w]
                rfl
              refine pure_ (i := 6) (N := some 113) (v := ?_) (a' := ?_) #[true, true, true, false, true, true, true, false, false, false, false, false, false, false, false] rfl rfl (any_of HT_.out (by kernel_rfl)) (fun _ _ _ h => h) (Or.inl ⟨by rfl, ?_⟩) ?_ ?_
              rotate_left
              · intro w'
                go_simp
                with_reducible rfl
              rotate_left
              · simp only [Act.put, List.setIfInBounds_toArray, List.set_cons_zero, List.set_cons_succ, i64_w, i32_w]
                rfl
              refine pure_ (i := 7) (N := some 114) (v := ?_) (a' := ?_) #[true, true, true, false, true, true, true, true, false, false, false, false, false, false, false] rfl rfl (any_of HT_.out (by kernel_rfl)) (fun _ _ _ h => h) (Or.inl ⟨by rfl, ?_⟩) ?_ ?_
              rotate_left
              · intro w'
                go_simp
                with_reducible rfl
              rotate_left
              · simp only [Act.put, List.setIfInBounds_toArray, List.set_cons_zero, List.set_cons_succ, i64_w, i32_w]
                rfl
              refine pure_ (i := 9) (N := some 116) (v := ?_) (a' := ?_) #[true, true, true, false, true, true, true, true, false, true, false, false, false, false, false] rfl rfl (any_of HT_.out (by kernel_rfl)) (fun _ _ _ h => h) (Or.inl ⟨by rfl, ?_⟩) ?_ ?_
              rotate_left
              · intro w'
                go_simp
                with_reducible rfl
              rotate_left
              · simp only [Act.put, List.setIfInBounds_toArray, List.set_cons_zero, List.set_cons_succ, i64_w, i32_w]
                rfl
              refine pure_ (i := 10) (N := some 117) (v := ?_) (a' := ?_) #[true, true, true, false, true, true, true, true, false, true, true, false, false, false, false] rfl rfl (any_of HT_.out (by kernel_rfl)) (fun _ _ _ h => h) (Or.inl ⟨by rfl, ?_⟩) ?_ ?_
              rotate_left
              · intro w'
                go_simp
                with_reducible rfl
              rotate_left
              · simp only [Act.put, List.setIfInBounds_toArray, List.set_cons_zero, List.set_cons_succ, i64_w, i32_w]
                rfl
              refine take_ (i := 3) (N := some 110) (v := ?_) (a' := ?_) #[true, true, true, true, true, true, true, true, false, true, true, false, false, false, false] rfl rfl (take_ofW HT_.out HW_.out (by kernel_rfl)) (fun _ _ _ h => h) (Or.inl ⟨by rfl, ?_⟩) hHeld ?_ ?_
              rotate_left
              · rintro w' ⟨s0, s1⟩
                go_simp
                with_reducible rfl
              rotate_left
              · simp only [Act.put, List.setIfInBounds_toArray, List.set_cons_zero, List.set_cons_succ, i64_w, i32_w]
                rfl
              refine take_ (i := 8) (N := some 115) (v := ?_) (a' := ?_) #[true, true, true, true, true, true, true, true, true, true, true, false, false, false, false] rfl rfl (take_ofW HT_.out HW_.out (by kernel_rfl)) (fun _ _ _ h => h) (Or.inl ⟨by rfl, ?_⟩) hHeld ?_ ?_
              rotate_left
              · rintro w' ⟨s0, s1⟩
                go_simp
                with_reducible rfl
              rotate_left
              · simp only [Act.put, List.setIfInBounds_toArray, List.set_cons_zero, List.set_cons_succ, i64_w, i32_w]
                rfl
              refine pure_ (i := 11) (N := some 118) (v := ?_) (a' := ?_) #[true, true, true, true, true, true, true, true, true, true, true, true, false, false, false] rfl rfl (any_of HT_.out (by kernel_rfl)) (fun _ _ _ h => h) (Or.inl ⟨by rfl, ?_⟩) ?_ ?_
              rotate_left
              · intro w'
                go_simp
                with_reducible rfl
              rotate_left
              · simp only [Act.put, List.setIfInBounds_toArray, List.set_cons_zero, List.set_cons_succ, i64_w, i32_w]
                rfl
              refine last_ (i := 12) (N := none) #[true, true, true, true, true, true, true, true, true, true, true, true, true, false, false] rfl rfl (one_of HT_.out (by kernel_rfl)) (by decide) (fun K hK => ?_)
              refine skip_ (w1 := ?_) (by rfl) rfl ?_ ?_
              rotate_left
              · go_simp
                rfl
              refine hK.out _ _ ?_
              clear hK K
              refine pure_ (i := 13) (N := some 119) (v := ?_) (a' := ?_) #[true, true, true, true, true, true, true, true, true, true, true, true, true, true, false] rfl rfl (any_of HT_.out (by kernel_rfl)) (fun _ _ _ h => h) (Or.inl ⟨by rfl, ?_⟩) ?_ ?_
              rotate_left
              · intro w'
                go_simp
                with_reducible rfl
              rotate_left
              · simp only [Act.put, List.setIfInBounds_toArray, List.set_cons_zero, List.set_cons_succ, i64_w, i32_w]
                rfl
              refine last_ (i := 14) (N := none) #[true, true, true, true, true, true, true, true, true, true, true, true, true, true, true] rfl rfl (one_of HT_.out (by kernel_rfl)) (by decide) (fun K hK => ?_)
              refine skip_ (w1 := ?_) (by rfl) rfl ?_ ?_
              rotate_left
              · go_simp
                rfl
              refine hK.out _ _ ?_
              clear hK K
              refine done_ (done_of HT_.out (by kernel_rfl)) ?_
              go_wp2
              go_ret
              exact ⟨by rw [HV.out]; rfl, _, _, by rw [HFS.out, HFG.out]; exact (HPUT.out _ (below_drew1 (Below.refl _ _)) xa true).1, (HF1.out.trans HFd.out).trans (HPUT.out _ (below_drew1 (Below.refl _ _)) xa true).2⟩
            · -- op 7
              have hmm := HM0.out
              rw [hop] at z0 hmm
              have htm : tm = true := by rw [← HT.out, hop]; rfl
              subst htm
              have hval : valS sv lt s said.length = (xb || xa && bitK sv said.length) := by
                rw [HEQ2.out.1, hop]; unfold valOp
                rw [if_neg (by decide), if_neg (by decide), if_neg (by decide), if_neg (by decide), if_neg (by decide), if_pos rfl]
              have HV := Aside0.mk hval
              have hlsd : said.length < sd.length := by rw [HPS2.out, List.length_append, List.length_append, len_own, hop]; have : tS 7 = 1 := rfl; omega
              have hlgd : said.length < gd.length := by rw [← HLQ.out]; exact hlsd
              have hfs : said ++ saidS sv lt s said.length = sd.set said.length (xb || xa && bitK sv said.length) := by
                have h1 : ∀ b, ownE 7 b = [b] := fun b => rfl
                rw [HEQ2.out.2.1, HPS2.out, hval, hop, h1, h1, set_mid, List.append_assoc]; rfl
              have hfg : good ++ goodS sv lt s said.length = gd.set said.length (!(xb || xa && bitK sv said.length) || xb) := by
                have h1 : ∀ b, ownE 7 b = [b] := fun b => rfl
                rw [HEQ2.out.2.2, HPG2.out, hval, hop, h1, h1, HLG.out, set_mid, List.append_assoc]; rfl
              have HFS := Aside0.mk hfs
              have HFG := Aside0.mk hfg
              obtain ⟨g1, q1, g2, q2, rfl, rfl, hne, p1, f1, p2, f2, hput⟩ := HRd.out.putL hlsd hlgd
              have HPUT := Aside0.mk hput
              have i0 : (0 : Int) ≤ (said.length : Int) := by omega
              have i1 : (said.length : Int) < (sd.length : Int) := by omega
              have i2 : (said.length : Int) < (gd.length : Int) := by omega
              have hne2 : ¬ g2 = g1 := fun e => hne e.symm
              generalize bitK sv said.length = bk at *
              clear hval hfs hfg hput hmm
              have hr1 : ¬ rb = g1 := fun e => HRd.out.rne1 (by rw [e]; rfl)
              have hr2 : ¬ rb = g2 := fun e => HRd.out.rne2 (by rw [e]; rfl)
              go_upto_region 28 with fail
              go_cut [13] (fun v13 wx => v13 = .bool (xb || xa && bk) ∧ wx = wr)
              case first =>
                cases xb <;> cases xa <;> (
                  go_wp2
                  go_meet
                  exact ⟨by first | rfl | (cases bk <;> rfl), rfl⟩)
              case rest =>
                obtain ⟨rfl, hwc⟩ := hcut
                rw [hwc]
                clear hwc wc
                generalize (xb || xa && bk) = is at *
                cases is with
                | false =>
                  go_upto_region 29 with fail
                  refine start_ (n := 20) (S := fun w' => w'.cell? ⟨rb, 2, none⟩ = some (.slice (some ⟨g1, 0, none⟩) sd.length q1) ∧ w'.cell? ⟨rb, 3, none⟩ = some (.slice (some ⟨g2, 0, none⟩) gd.length q2)) (ds := [17, 19]) #[false, false, false, false, false, false, false, false, false, false, false, false, false, false, false, false, false, false, false, false] (by kernel_rfl) rfl rfl ⟨r2, r3⟩ (fun hHeld => ?_)
                  refine with_tabW rdr_value.tab29 rdr_value.bits29 (fun HT_ HW_ => ?_)
                  refine pure_ (i := 0) (N := some 130) (v := ?_) (a' := ?_) #[true, false, false, false, false, false, false, false, false, false, false, false, false, false, false, false, false, false, false, false] rfl rfl (any_of HT_.out (by kernel_rfl)) (fun _ _ _ h => h) (Or.inl ⟨by rfl, ?_⟩) ?_ ?_
                  rotate_left
                  · intro w'
                    go_simp
                    with_reducible rfl
                  rotate_left
                  · simp only [Act.put, List.setIfInBounds_toArray, List.set_cons_zero, List.set_cons_succ, i64_w, i32_w]
                    rfl
                  refine pure_ (i := 1) (N := some 131) (v := ?_) (a' := ?_) #[true, true, false, false, false, false, false, false, false, false, false, false, false, false, false, false, false, false, false, false] rfl rfl (any_of HT_.out (by kernel_rfl)) (fun _ _ _ h => h) (Or.inl ⟨by rfl, ?_⟩) ?_ ?_
                  rotate_left
                  · intro w'
                    go_simp
                    with_reducible rfl
                  rotate_left
                  · simp only [Act.put, List.setIfInBounds_toArray, List.set_cons_zero, List.set_cons_succ, i64_w, i32_w]
                    rfl
                  refine pure_ (i := 2) (N := some 132) (v := ?_) (a' := ?_) #[true, true, true, false, false, false, false, false, false, false, false, false, false, false, false, false, false, false, false, false] rfl rfl (any_of HT_.out (by kernel_rfl)) (fun _ _ _ h => h) (Or.inl ⟨by rfl, ?_⟩) ?_ ?_
                  rotate_left
                  · intro w'
                    go_simp
                    with_reducible rfl
                  rotate_left
                  · simp only [Act.put, List.setIfInBounds_toArray, List.set_cons_zero, List.set_cons_succ, i64_w, i32_w]
                    rfl
                  refine pure_ (i := 4) (N := some 134) (v := ?_) (a' := ?_) #[true, true, true, false, true, false, false, false, false, false, false, false, false, false, false, false, false, false, false, false] rfl rfl (any_of HT_.out (by kernel_rfl)) (fun _ _ _ h => h) (Or.inl ⟨by rfl, ?_⟩) ?_ ?_
                  rotate_left
                  · intro w'
                    go_simp
                    with_reducible rfl
                  rotate_left
                  · simp only [Act.put, List.setIfInBounds_toArray, List.set_cons_zero, List.set_cons_succ, i64_w, i32_w]
                    rfl
                  refine pure_ (i := 5) (N := some 135) (v := ?_) (a' := ?_) #[true, true, true, false, true, true, false, false, false, false, false, false, false, false, false, false, false, false, false, false] rfl rfl (any_of HT_.out (by kernel_rfl)) (fun _ _ _ h => h) (Or.inl ⟨by rfl, ?_⟩) ?_ ?_
                  rotate_left
                  · intro w'
                    go_simp
                    with_reducible rfl
                  rotate_left
                  · simp only [Act.put, List.setIfInBounds_toArray, List.set_cons_zero, List.set_cons_succ, i64_w, i32_w]
                    rfl
                  refine pure_ (i := 6) (N := some 136) (v := ?_) (a' := ?_) #[true, true, true, false, true, true, true, false, false, false, false, false, false, false, false, false, false, false, false, false] rfl rfl (any_of HT_.out (by kernel_rfl)) (fun _ _ _ h => h) (Or.inl ⟨by rfl, ?_⟩) ?_ ?_
                  rotate_left
                  · intro w'
                    go_simp
                    with_reducible rfl
                  rotate_left
                  · simp only [Act.put, List.setIfInBounds_toArray, List.set_cons_zero, List.set_cons_succ, i64_w, i32_w]
                    rfl
                  refine pure_ (i := 7) (N := some 137) (v := ?_) (a' := ?_) #[true, true, true, false, true, true, true, true, false, false, false, false, false, false, false, false, false, false, false, false] rfl rfl (any_of HT_.out (by kernel_rfl)) (fun _ _ _ h => h) (Or.inl ⟨by rfl, ?_⟩) ?_ ?_
                  rotate_left
                  · intro w'
                    go_simp
                    with_reducible rfl
                  rotate_left
                  · simp only [Act.put, List.setIfInBounds_toArray, List.set_cons_zero, List.set_cons_succ, i64_w, i32_w]
                    rfl
                  refine pure_ (i := 9) (N := some 139) (v := ?_) (a' := ?_) #[true, true, true, false, true, true, true, true, false, true, false, false, false, false, false, false, false, false, false, false] rfl rfl (any_of HT_.out (by kernel_rfl)) (fun _ _ _ h => h) (Or.inl ⟨by rfl, ?_⟩) ?_ ?_
                  rotate_left
                  · intro w'
                    go_simp
                    with_reducible rfl
                  rotate_left
                  · simp only [Act.put, List.setIfInBounds_toArray, List.set_cons_zero, List.set_cons_succ, i64_w, i32_w]
                    rfl
                  refine pure_ (i := 10) (N := some 140) (v := ?_) (a' := ?_) #[true, true, true, false, true, true, true, true, false, true, true, false, false, false, false, false, false, false, false, false] rfl rfl (any_of HT_.out (by kernel_rfl)) (fun _ _ _ h => h) (Or.inl ⟨by rfl, ?_⟩) ?_ ?_
                  rotate_left
                  · intro w'
                    go_simp
                    with_reducible rfl
                  rotate_left
                  · simp only [Act.put, List.setIfInBounds_toArray, List.set_cons_zero, List.set_cons_succ, i64_w, i32_w]
                    rfl
                  refine pure_ (i := 11) (N := some 141) (v := ?_) (a' := ?_) #[true, true, true, false, true, true, true, true, false, true, true, true, false, false, false, false, false, false, false, false] rfl rfl (any_of HT_.out (by kernel_rfl)) (fun _ _ _ h => h) (Or.inl ⟨by rfl, ?_⟩) ?_ ?_
                  rotate_left
                  · intro w'
                    go_simp
                    with_reducible rfl
                  rotate_left
                  · simp only [Act.put, List.setIfInBounds_toArray, List.set_cons_zero, List.set_cons_succ, i64_w, i32_w]
                    rfl
                  refine pure_ (i := 12) (N := some 142) (v := ?_) (a' := ?_) #[true, true, true, false, true, true, true, true, false, true, true, true, true, false, false, false, false, false, false, false] rfl rfl (any_of HT_.out (by kernel_rfl)) (fun _ _ _ h => h) (Or.inl ⟨by rfl, ?_⟩) ?_ ?_
                  rotate_left
                  · intro w'
                    go_simp
                    with_reducible rfl
                  rotate_left
                  · simp only [Act.put, List.setIfInBounds_toArray, List.set_cons_zero, List.set_cons_succ, i64_w, i32_w]
                    rfl
                  refine pure_ (i := 13) (N := some 143) (v := ?_) (a' := ?_) #[true, true, true, false, true, true, true, true, false, true, true, true, true, true, false, false, false, false, false, false] rfl rfl (any_of HT_.out (by kernel_rfl)) (fun _ _ _ h => h) (Or.inl ⟨by rfl, ?_⟩) ?_ ?_
                  rotate_left
                  · intro w'
                    go_simp
                    with_reducible rfl
                  rotate_left
                  · simp only [Act.put, List.setIfInBounds_toArray, List.set_cons_zero, List.set_cons_succ, i64_w, i32_w]
                    rfl
                  refine pure_ (i := 14) (N := some 144) (v := undef) (a' := ?_) #[true, true, true, false, true, true, true, true, false, true, true, true, true, true, true, false, false, false, false, false] rfl rfl (any_of HT_.out (by kernel_rfl)) (fun _ _ _ h => h) (Or.inr ⟨by rfl, rfl⟩) ?_ ?_
                  rotate_left
                  · simp only [Act.put, List.setIfInBounds_toArray, List.set_cons_zero, List.set_cons_succ, i64_w, i32_w]
                    rfl
                  refine pure_ (i := 15) (N := some 145) (v := ?_) (a' := ?_) #[true, true, true, false, true, true, true, true, false, true, true, true, true, true, true, true, false, false, false, false] rfl rfl (any_of HT_.out (by kernel_rfl)) (fun _ _ _ h => h) (Or.inl ⟨by rfl, ?_⟩) ?_ ?_
                  rotate_left
                  · intro w'
                    go_simp
                    with_reducible rfl
                  rotate_left
                  · simp only [Act.put, List.setIfInBounds_toArray, List.set_cons_zero, List.set_cons_succ, i64_w, i32_w]
                    rfl
                  refine take_ (i := 3) (N := some 133) (v := ?_) (a' := ?_) #[true, true, true, true, true, true, true, true, false, true, true, true, true, true, true, true, false, false, false, false] rfl rfl (take_ofW HT_.out HW_.out (by kernel_rfl)) (fun _ _ _ h => h) (Or.inl ⟨by rfl, ?_⟩) hHeld ?_ ?_
                  rotate_left
                  · rintro w' ⟨s0, s1⟩
                    go_simp
                    with_reducible rfl
                  rotate_left
                  · simp only [Act.put, List.setIfInBounds_toArray, List.set_cons_zero, List.set_cons_succ, i64_w, i32_w]
                    rfl
                  refine take_ (i := 8) (N := some 138) (v := ?_) (a' := ?_) #[true, true, true, true, true, true, true, true, true, true, true, true, true, true, true, true, false, false, false, false] rfl rfl (take_ofW HT_.out HW_.out (by kernel_rfl)) (fun _ _ _ h => h) (Or.inl ⟨by rfl, ?_⟩) hHeld ?_ ?_
                  rotate_left
                  · rintro w' ⟨s0, s1⟩
                    go_simp
                    with_reducible rfl
                  rotate_left
                  · simp only [Act.put, List.setIfInBounds_toArray, List.set_cons_zero, List.set_cons_succ, i64_w, i32_w]
                    rfl
                  refine pure_ (i := 16) (N := some 146) (v := ?_) (a' := ?_) #[true, true, true, true, true, true, true, true, true, true, true, true, true, true, true, true, true, false, false, false] rfl rfl (any_of HT_.out (by kernel_rfl)) (fun _ _ _ h => h) (Or.inl ⟨by rfl, ?_⟩) ?_ ?_
                  rotate_left
                  · intro w'
                    go_simp
                    with_reducible rfl
                  rotate_left
                  · simp only [Act.put, List.setIfInBounds_toArray, List.set_cons_zero, List.set_cons_succ, i64_w, i32_w]
                    rfl
                  refine last_ (i := 17) (N := none) #[true, true, true, true, true, true, true, true, true, true, true, true, true, true, true, true, true, true, false, false] rfl rfl (one_of HT_.out (by kernel_rfl)) (by decide) (fun K hK => ?_)
                  refine skip_ (w1 := ?_) (by rfl) rfl ?_ ?_
                  rotate_left
                  · go_simp
                    rfl
                  refine hK.out _ _ ?_
                  clear hK K
                  refine pure_ (i := 18) (N := some 147) (v := ?_) (a' := ?_) #[true, true, true, true, true, true, true, true, true, true, true, true, true, true, true, true, true, true, true, false] rfl rfl (any_of HT_.out (by kernel_rfl)) (fun _ _ _ h => h) (Or.inl ⟨by rfl, ?_⟩) ?_ ?_
                  rotate_left
                  · intro w'
                    go_simp
                    with_reducible rfl
                  rotate_left
                  · simp only [Act.put, List.setIfInBounds_toArray, List.set_cons_zero, List.set_cons_succ, i64_w, i32_w]
                    rfl
                  refine last_ (i := 19) (N := none) #[true, true, true, true, true, true, true, true, true, true, true, true, true, true, true, true, true, true, true, true] rfl rfl (one_of HT_.out (by kernel_rfl)) (by decide) (fun K hK => ?_)
                  refine skip_ (w1 := ?_) (by rfl) rfl ?_ ?_
                  rotate_left
                  · go_simp
                    rfl
                  refine hK.out _ _ ?_
                  clear hK K
                  refine done_ (done_of HT_.out (by kernel_rfl)) ?_
                  go_wp2
                  go_ret
                  exact ⟨by rw [HV.out]; rfl, _, _, by rw [HFS.out, HFG.out]; exact (HPUT.out _ (below_drew1 (Below.refl _ _)) _ _).1, (HF1.out.trans HFd.out).trans (HPUT.out _ (below_drew1 (Below.refl _ _)) _ _).2⟩
                | true =>
                  go_upto_region 29 with fail
                  refine start_ (n := 20) (S := fun w' => w'.cell? ⟨rb, 2, none⟩ = some (.slice (some ⟨g1, 0, none⟩) sd.length q1) ∧ w'.cell? ⟨rb, 3, none⟩ = some (.slice (some ⟨g2, 0, none⟩) gd.length q2)) (ds := [17, 19]) #[false, false, false, false, false, false, false, false, false, false, false, false, false, false, false, false, false, false, false, false] (by kernel_rfl) rfl rfl ⟨r2, r3⟩ (fun hHeld => ?_)
                  refine with_tabW rdr_value.tab29 rdr_value.bits29 (fun HT_ HW_ => ?_)
                  refine pure_ (i := 0) (N := some 130) (v := ?_) (a' := ?_) #[true, false, false, false, false, false, false, false, false, false, false, false, false, false, false, false, false, false, false, false] rfl rfl (any_of HT_.out (by kernel_rfl)) (fun _ _ _ h => h) (Or.inl ⟨by rfl, ?_⟩) ?_ ?_
                  rotate_left
                  · intro w'
                    go_simp
                    with_reducible rfl
                  rotate_left
                  · simp only [Act.put, List.setIfInBounds_toArray, List.set_cons_zero, List.set_cons_succ, i64_w, i32_w]
                    rfl
                  refine pure_ (i := 1) (N := some 131) (v := ?_) (a' := ?_) #[true, true, false, false, false, false, false, false, false, false, false, false, false, false, false, false, false, false, false, false] rfl rfl (any_of HT_.out (by kernel_rfl)) (fun _ _ _ h => h) (Or.inl ⟨by rfl, ?_⟩) ?_ ?_
                  rotate_left
                  · intro w'
                    go_simp
                    with_reducible rfl
                  rotate_left
                  · simp only [Act.put, List.setIfInBounds_toArray, List.set_cons_zero, List.set_cons_succ, i64_w, i32_w]
                    rfl
                  refine pure_ (i := 2) (N := some 132) (v := ?_) (a' := ?_) #[true, true, true, false, false, false, false, false, false, false, false, false, false, false, false, false, false, false, false, false] rfl rfl (any_of HT_.out (by kernel_rfl)) (fun _ _ _ h => h) (Or.inl ⟨by rfl, ?_⟩) ?_ ?_
                  rotate_left
                  · intro w'
                    go_simp
                    with_reducible rfl
                  rotate_left
                  · simp only [Act.put, List.setIfInBounds_toArray, List.set_cons_zero, List.set_cons_succ, i64_w, i32_w]
                    rfl
                  refine pure_ (i := 4) (N := some 134) (v := ?_) (a' := ?_) #[true, true, true, false, true, false, false, false, false, false, false, false, false, false, false, false, false, false, false, false] rfl rfl (any_of HT_.out (by kernel_rfl)) (fun _ _ _ h => h) (Or.inl ⟨by rfl, ?_⟩) ?_ ?_
                  rotate_left
                  · intro w'
                    go_simp
                    with_reducible rfl
                  rotate_left
                  · simp only [Act.put, List.setIfInBounds_toArray, List.set_cons_zero, List.set_cons_succ, i64_w, i32_w]
                    rfl
                  refine pure_ (i := 5) (N := some 135) (v := ?_) (a' := ?_) #[true, true, true, false, true, true, false, false, false, false, false, false, false, false, false, false, false, false, false, false] rfl rfl (any_of HT_.out (by kernel_rfl)) (fun _ _ _ h => h) (Or.inl ⟨by rfl, ?_⟩) ?_ ?_
                  rotate_left
                  · intro w'
                    go_simp
                    with_reducible rfl
                  rotate_left
                  · simp only [Act.put, List.setIfInBounds_toArray, List.set_cons_zero, List.set_cons_succ, i64_w, i32_w]
                    rfl
                  refine pure_ (i := 6) (N := some 136) (v := ?_) (a' := ?_) #[true, true, true, false, true, true, true, false, false, false, false, false, false, false, false, false, false, false, false, false] rfl rfl (any_of HT_.out (by kernel_rfl)) (fun _ _ _ h => h) (Or.inl ⟨by rfl, ?_⟩) ?_ ?_
                  rotate_left
                  · intro w'
                    go_simp
                    with_reducible rfl
                  rotate_left
                  · simp only [Act.put, List.setIfInBounds_toArray, List.set_cons_zero, List.set_cons_succ, i64_w, i32_w]
                    rfl
                  refine pure_ (i := 7) (N := some 137) (v := ?_) (a' := ?_) #[true, true, true, false, true, true, true, true, false, false, false, false, false, false, false, false, false, false, false, false] rfl rfl (any_of HT_.out (by kernel_rfl)) (fun _ _ _ h => h) (Or.inl ⟨by rfl, ?_⟩) ?_ ?_
                  rotate_left
                  · intro w'
                    go_simp
                    with_reducible rfl
                  rotate_left
                  · simp only [Act.put, List.setIfInBounds_toArray, List.set_cons_zero, List.set_cons_succ, i64_w, i32_w]
                    rfl
                  refine pure_ (i := 9) (N := some 139) (v := ?_) (a' := ?_) #[true, true, true, false, true, true, true, true, false, true, false, false, false, false, false, false, false, false, false, false] rfl rfl (any_of HT_.out (by kernel_rfl)) (fun _ _ _ h => h) (Or.inl ⟨by rfl, ?_⟩) ?_ ?_
                  rotate_left
                  · intro w'
                    go_simp
                    with_reducible rfl
                  rotate_left
                  · simp only [Act.put, List.setIfInBounds_toArray, List.set_cons_zero, List.set_cons_succ, i64_w, i32_w]
                    rfl
                  refine pure_ (i := 10) (N := some 140) (v := ?_) (a' := ?_) #[true, true, true, false, true, true, true, true, false, true, true, false, false, false, false, false, false, false, false, false] rfl rfl (any_of HT_.out (by kernel_rfl)) (fun _ _ _ h => h) (Or.inl ⟨by rfl, ?_⟩) ?_ ?_
                  rotate_left
                  · intro w'
                    go_simp
                    with_reducible rfl
                  rotate_left
                  · simp only [Act.put, List.setIfInBounds_toArray, List.set_cons_zero, List.set_cons_succ, i64_w, i32_w]
                    rfl
                  refine pure_ (i := 11) (N := some 141) (v := ?_) (a' := ?_) #[true, true, true, false, true, true, true, true, false, true, true, true, false, false, false, false, false, false, false, false] rfl rfl (any_of HT_.out (by kernel_rfl)) (fun _ _ _ h => h) (Or.inl ⟨by rfl, ?_⟩) ?_ ?_
                  rotate_left
                  · intro w'
                    go_simp
                    with_reducible rfl
                  rotate_left
                  · simp only [Act.put, List.setIfInBounds_toArray, List.set_cons_zero, List.set_cons_succ, i64_w, i32_w]
                    rfl
                  refine pure_ (i := 12) (N := some 142) (v := ?_) (a' := ?_) #[true, true, true, false, true, true, true, true, false, true, true, true, true, false, false, false, false, false, false, false] rfl rfl (any_of HT_.out (by kernel_rfl)) (fun _ _ _ h => h) (Or.inl ⟨by rfl, ?_⟩) ?_ ?_
                  rotate_left
                  · intro w'
                    go_simp
                    with_reducible rfl
                  rotate_left
                  · simp only [Act.put, List.setIfInBounds_toArray, List.set_cons_zero, List.set_cons_succ, i64_w, i32_w]
                    rfl
                  refine pure_ (i := 13) (N := some 143) (v := ?_) (a' := ?_) #[true, true, true, false, true, true, true, true, false, true, true, true, true, true, false, false, false, false, false, false] rfl rfl (any_of HT_.out (by kernel_rfl)) (fun _ _ _ h => h) (Or.inl ⟨by rfl, ?_⟩) ?_ ?_
                  rotate_left
                  · intro w'
                    go_simp
                    with_reducible rfl
                  rotate_left
                  · simp only [Act.put, List.setIfInBounds_toArray, List.set_cons_zero, List.set_cons_succ, i64_w, i32_w]
                    rfl
                  refine pure_ (i := 14) (N := some 144) (v := ?_) (a' := ?_) #[true, true, true, false, true, true, true, true, false, true, true, true, true, true, true, false, false, false, false, false] rfl rfl (any_of HT_.out (by kernel_rfl)) (fun _ _ _ h => h) (Or.inl ⟨by rfl, ?_⟩) ?_ ?_
                  rotate_left
                  · intro w'
                    go_simp
                    with_reducible rfl
                  rotate_left
                  · simp only [Act.put, List.setIfInBounds_toArray, List.set_cons_zero, List.set_cons_succ, i64_w, i32_w]
                    rfl
                  refine pure_ (i := 15) (N := some 145) (v := ?_) (a' := ?_) #[true, true, true, false, true, true, true, true, false, true, true, true, true, true, true, true, false, false, false, false] rfl rfl (any_of HT_.out (by kernel_rfl)) (fun _ _ _ h => h) (Or.inl ⟨by rfl, ?_⟩) ?_ ?_
                  rotate_left
                  · intro w'
                    go_simp
                    with_reducible rfl
                  rotate_left
                  · simp only [Act.put, List.setIfInBounds_toArray, List.set_cons_zero, List.set_cons_succ, i64_w, i32_w]
                    rfl
                  refine take_ (i := 3) (N := some 133) (v := ?_) (a' := ?_) #[true, true, true, true, true, true, true, true, false, true, true, true, true, true, true, true, false, false, false, false] rfl rfl (take_ofW HT_.out HW_.out (by kernel_rfl)) (fun _ _ _ h => h) (Or.inl ⟨by rfl, ?_⟩) hHeld ?_ ?_
                  rotate_left
                  · rintro w' ⟨s0, s1⟩
                    go_simp
                    with_reducible rfl
                  rotate_left
                  · simp only [Act.put, List.setIfInBounds_toArray, List.set_cons_zero, List.set_cons_succ, i64_w, i32_w]
                    rfl
                  refine take_ (i := 8) (N := some 138) (v := ?_) (a' := ?_) #[true, true, true, true, true, true, true, true, true, true, true, true, true, true, true, true, false, false, false, false] rfl rfl (take_ofW HT_.out HW_.out (by kernel_rfl)) (fun _ _ _ h => h) (Or.inl ⟨by rfl, ?_⟩) hHeld ?_ ?_
                  rotate_left
                  · rintro w' ⟨s0, s1⟩
                    go_simp
                    with_reducible rfl
                  rotate_left
                  · simp only [Act.put, List.setIfInBounds_toArray, List.set_cons_zero, List.set_cons_succ, i64_w, i32_w]
                    rfl
                  refine pure_ (i := 16) (N := some 146) (v := ?_) (a' := ?_) #[true, true, true, true, true, true, true, true, true, true, true, true, true, true, true, true, true, false, false, false] rfl rfl (any_of HT_.out (by kernel_rfl)) (fun _ _ _ h => h) (Or.inl ⟨by rfl, ?_⟩) ?_ ?_
                  rotate_left
                  · intro w'
                    go_simp
                    with_reducible rfl
                  rotate_left
                  · simp only [Act.put, List.setIfInBounds_toArray, List.set_cons_zero, List.set_cons_succ, i64_w, i32_w]
                    rfl
                  refine last_ (i := 17) (N := none) #[true, true, true, true, true, true, true, true, true, true, true, true, true, true, true, true, true, true, false, false] rfl rfl (one_of HT_.out (by kernel_rfl)) (by decide) (fun K hK => ?_)
                  refine skip_ (w1 := ?_) (by rfl) rfl ?_ ?_
                  rotate_left
                  · go_simp
                    rfl
                  refine hK.out _ _ ?_
                  clear hK K
                  refine pure_ (i := 18) (N := some 147) (v := ?_) (a' := ?_) #[true, true, true, true, true, true, true, true, true, true, true, true, true, true, true, true, true, true, true, false] rfl rfl (any_of HT_.out (by kernel_rfl)) (fun _ _ _ h => h) (Or.inl ⟨by rfl, ?_⟩) ?_ ?_
                  rotate_left
                  · intro w'
                    go_simp
                    with_reducible rfl
                  rotate_left
                  · simp only [Act.put, List.setIfInBounds_toArray, List.set_cons_zero, List.set_cons_succ, i64_w, i32_w]
                    rfl
                  refine last_ (i := 19) (N := none) #[true, true, true, true, true, true, true, true, true, true, true, true, true, true, true, true, true, true, true, true] rfl rfl (one_of HT_.out (by kernel_rfl)) (by decide) (fun K hK => ?_)
                  refine skip_ (w1 := ?_) (by rfl) rfl ?_ ?_
                  rotate_left
                  · go_simp
                    rfl
                  refine hK.out _ _ ?_
                  clear hK K
                  refine done_ (done_of HT_.out (by kernel_rfl)) ?_
                  go_wp2
                  go_ret
                  exact ⟨by rw [HV.out]; rfl, _, _, by rw [HFS.out, HFG.out]; exact (HPUT.out _ (below_drew1 (Below.refl _ _)) _ _).1, (HF1.out.trans HFd.out).trans (HPUT.out _ (below_drew1 (Below.refl _ _)) _ _).2⟩
            · -- op 8
              have hmm := HM0.out
              rw [hop] at z0 hmm
              have htm : tm = true := by rw [← HT.out, hop]; rfl
              subst htm
              have hval : valS sv lt s said.length = (xb && (xa || bitK sv said.length)) := by
                rw [HEQ2.out.1, hop]; unfold valOp
                rw [if_neg (by decide), if_neg (by decide), if_neg (by decide), if_neg (by decide), if_neg (by decide), if_neg (by decide), if_pos rfl]
              have HV := Aside0.mk hval
              have hlsd : said.length < sd.length := by rw [HPS2.out, List.length_append, List.length_append, len_own, hop]; have : tS 8 = 1 := rfl; omega
              have hlgd : said.length < gd.length := by rw [← HLQ.out]; exact hlsd
              have hfs : said ++ saidS sv lt s said.length = sd.set said.length (xb && (xa || bitK sv said.length)) := by
                have h1 : ∀ b, ownE 8 b = [b] := fun b => rfl
                rw [HEQ2.out.2.1, HPS2.out, hval, hop, h1, h1, set_mid, List.append_assoc]; rfl
              have hfg : good ++ goodS sv lt s said.length = gd.set said.length ((xb && (xa || bitK sv said.length)) || !xb) := by
                have h1 : ∀ b, ownE 8 b = [b] := fun b => rfl
                rw [HEQ2.out.2.2, HPG2.out, hval, hop, h1, h1, HLG.out, set_mid, List.append_assoc]; rfl
              have HFS := Aside0.mk hfs
              have HFG := Aside0.mk hfg
              obtain ⟨g1, q1, g2, q2, rfl, rfl, hne, p1, f1, p2, f2, hput⟩ := HRd.out.putL hlsd hlgd
              have HPUT := Aside0.mk hput
              have i0 : (0 : Int) ≤ (said.length : Int) := by omega
              have i1 : (said.length : Int) < (sd.length : Int) := by omega
              have i2 : (said.length : Int) < (gd.length : Int) := by omega
              have hne2 : ¬ g2 = g1 := fun e => hne e.symm
              generalize bitK sv said.length = bk at *
              clear hval hfs hfg hput hmm
              have hr1 : ¬ rb = g1 := fun e => HRd.out.rne1 (by rw [e]; rfl)
              have hr2 : ¬ rb = g2 := fun e => HRd.out.rne2 (by rw [e]; rfl)
              go_upto_region 32 with fail
              go_cut [14] (fun v13 wx => v13 = .bool (xb && (xa || bk)) ∧ wx = wr)
              case first =>
                cases xb <;> cases xa <;> (
                  go_wp2
                  go_meet
                  exact ⟨by first | rfl | (cases bk <;> rfl), rfl⟩)
              case rest =>
                obtain ⟨rfl, hwc⟩ := hcut
                rw [hwc]
                clear hwc wc
                generalize (xb && (xa || bk)) = is at *
                cases is with
                | false =>
                  go_upto_region 33 with fail
                  refine start_ (n := 20) (S := fun w' => w'.cell? ⟨rb, 2, none⟩ = some (.slice (some ⟨g1, 0, none⟩) sd.length q1) ∧ w'.cell? ⟨rb, 3, none⟩ = some (.slice (some ⟨g2, 0, none⟩) gd.length q2)) (ds := [17, 19]) #[false, false, false, false, false, false, false, false, false, false, false, false, false, false, false, false, false, false, false, false] (by kernel_rfl) rfl rfl ⟨r2, r3⟩ (fun hHeld => ?_)
                  refine with_tabW rdr_value.tab33 rdr_value.bits33 (fun HT_ HW_ => ?_)
                  refine pure_ (i := 0) (N := some 158) (v := ?_) (a' := ?_) #[true, false, false, false, false, false, false, false, false, false, false, false, false, false, false, false, false, false, false, false] rfl rfl (any_of HT_.out (by kernel_rfl)) (fun _ _ _ h => h) (Or.inl ⟨by rfl, ?_⟩) ?_ ?_
                  rotate_left
                  · intro w'
                    go_simp
                    with_reducible rfl
                  rotate_left
                  · simp only [Act.put, List.setIfInBounds_toArray, List.set_cons_zero, List.set_cons_succ, i64_w, i32_w]
                    rfl
                  refine pure_ (i := 1) (N := some 159) (v := ?_) (a' := ?_) #[true, true, false, false, false, false, false, false, false, false, false, false, false, false, false, false, false, false, false, false] rfl rfl (any_of HT_.out (by kernel_rfl)) (fun _ _ _ h => h) (Or.inl ⟨by rfl, ?_⟩) ?_ ?_
                  rotate_left
                  · intro w'
                    go_simp
                    with_reducible rfl
                  rotate_left
                  · simp only [Act.put, List.setIfInBounds_toArray, List.set_cons_zero, List.set_cons_succ, i64_w, i32_w]
                    rfl
                  refine pure_ (i := 2) (N := some 160) (v := ?_) (a' := ?_) #[true, true, true, false, false, false, false, false, false, false, false, false, false, false, false, false, false, false, false, false] rfl rfl (any_of HT_.out (by kernel_rfl)) (fun _ _ _ h => h) (Or.inl ⟨by rfl, ?_⟩) ?_ ?_
                  rotate_left
                  · intro w'
                    go_simp
                    with_reducible rfl
                  rotate_left
                  · simp only [Act.put, List.setIfInBounds_toArray, List.set_cons_zero, List.set_cons_succ, i64_w, i32_w]
                    rfl
                  refine pure_ (i := 4) (N := some 162) (v := ?_) (a' := ?_) #[true, true, true, false, true, false, false, false, false, false, false, false, false, false, false, false, false, false, false, false] rfl rfl (any_of HT_.out (by kernel_rfl)) (fun _ _ _ h => h) (Or.inl ⟨by rfl, ?_⟩) ?_ ?_
                  rotate_left
                  · intro w'
                    go_simp
                    with_reducible rfl
                  rotate_left
                  · simp only [Act.put, List.setIfInBounds_toArray, List.set_cons_zero, List.set_cons_succ, i64_w, i32_w]
                    rfl
                  refine pure_ (i := 5) (N := some 163) (v := ?_) (a' := ?_) #[true, true, true, false, true, true, false, false, false, false, false, false, false, false, false, false, false, false, false, false] rfl rfl (any_of HT_.out (by kernel_rfl)) (fun _ _ _ h => h) (Or.inl ⟨by rfl, ?_⟩) ?_ ?_
                  rotate_left
                  · intro w'
                    go_simp
                    with_reducible rfl
                  rotate_left
                  · simp only [Act.put, List.setIfInBounds_toArray, List.set_cons_zero, List.set_cons_succ, i64_w, i32_w]
                    rfl
                  refine pure_ (i := 6) (N := some 164) (v := ?_) (a' := ?_) #[true, true, true, false, true, true, true, false, false, false, false, false, false, false, false, false, false, false, false, false] rfl rfl (any_of HT_.out (by kernel_rfl)) (fun _ _ _ h => h) (Or.inl ⟨by rfl, ?_⟩) ?_ ?_
                  rotate_left
                  · intro w'
                    go_simp
                    with_reducible rfl
                  rotate_left
                  · simp only [Act.put, List.setIfInBounds_toArray, List.set_cons_zero, List.set_cons_succ, i64_w, i32_w]
                    rfl
                  refine pure_ (i := 7) (N := some 165) (v := ?_) (a' := ?_) #[true, true, true, false, true, true, true, true, false, false, false, false, false, false, false, false, false, false, false, false] rfl rfl (any_of HT_.out (by kernel_rfl)) (fun _ _ _ h => h) (Or.inl ⟨by rfl, ?_⟩) ?_ ?_
                  rotate_left
                  · intro w'
                    go_simp
                    with_reducible rfl
                  rotate_left
                  · simp only [Act.put, List.setIfInBounds_toArray, List.set_cons_zero, List.set_cons_succ, i64_w, i32_w]
                    rfl
                  refine pure_ (i := 9) (N := some 167) (v := ?_) (a' := ?_) #[true, true, true, false, true, true, true, true, false, true, false, false, false, false, false, false, false, false, false, false] rfl rfl (any_of HT_.out (by kernel_rfl)) (fun _ _ _ h => h) (Or.inl ⟨by rfl, ?_⟩) ?_ ?_
                  rotate_left
                  · intro w'
                    go_simp
                    with_reducible rfl
                  rotate_left
                  · simp only [Act.put, List.setIfInBounds_toArray, List.set_cons_zero, List.set_cons_succ, i64_w, i32_w]
                    rfl
                  refine pure_ (i := 10) (N := some 168) (v := ?_) (a' := ?_) #[true, true, true, false, true, true, true, true, false, true, true, false, false, false, false, false, false, false, false, false] rfl rfl (any_of HT_.out (by kernel_rfl)) (fun _ _ _ h => h) (Or.inl ⟨by rfl, ?_⟩) ?_ ?_
                  rotate_left
                  · intro w'
                    go_simp
                    with_reducible rfl
                  rotate_left
                  · simp only [Act.put, List.setIfInBounds_toArray, List.set_cons_zero, List.set_cons_succ, i64_w, i32_w]
                    rfl
                  refine pure_ (i := 11) (N := some 169) (v := ?_) (a' := ?_) #[true, true, true, false, true, true, true, true, false, true, true, true, false, false, false, false, false, false, false, false] rfl rfl (any_of HT_.out (by kernel_rfl)) (fun _ _ _ h => h) (Or.inl ⟨by rfl, ?_⟩) ?_ ?_
                  rotate_left
                  · intro w'
                    go_simp
                    with_reducible rfl
                  rotate_left
                  · simp only [Act.put, List.setIfInBounds_toArray, List.set_cons_zero, List.set_cons_succ, i64_w, i32_w]
                    rfl
                  refine pure_ (i := 12) (N := some 170) (v := ?_) (a' := ?_) #[true, true, true, false, true, true, true, true, false, true, true, true, true, false, false, false, false, false, false, false] rfl rfl (any_of HT_.out (by kernel_rfl)) (fun _ _ _ h => h) (Or.inl ⟨by rfl, ?_⟩) ?_ ?_
                  rotate_left
                  · intro w'
                    go_simp
                    with_reducible rfl
                  rotate_left
                  · simp only [Act.put, List.setIfInBounds_toArray, List.set_cons_zero, List.set_cons_succ, i64_w, i32_w]
                    rfl
                  refine pure_ (i := 13) (N := some 171) (v := ?_) (a' := ?_) #[true, true, true, false, true, true, true, true, false, true, true, true, true, true, false, false, false, false, false, false] rfl rfl (any_of HT_.out (by kernel_rfl)) (fun _ _ _ h => h) (Or.inl ⟨by rfl, ?_⟩) ?_ ?_
                  rotate_left
                  · intro w'
                    go_simp
                    with_reducible rfl
                  rotate_left
                  · simp only [Act.put, List.setIfInBounds_toArray, List.set_cons_zero, List.set_cons_succ, i64_w, i32_w]
                    rfl
                  refine pure_ (i := 14) (N := some 172) (v := ?_) (a' := ?_) #[true, true, true, false, true, true, true, true, false, true, true, true, true, true, true, false, false, false, false, false] rfl rfl (any_of HT_.out (by kernel_rfl)) (fun _ _ _ h => h) (Or.inl ⟨by rfl, ?_⟩) ?_ ?_
                  rotate_left
                  · intro w'
                    go_simp
                    with_reducible rfl
                  rotate_left
                  · simp only [Act.put, List.setIfInBounds_toArray, List.set_cons_zero, List.set_cons_succ, i64_w, i32_w]
                    rfl
                  refine pure_ (i := 15) (N := some 173) (v := ?_) (a' := ?_) #[true, true, true, false, true, true, true, true, false, true, true, true, true, true, true, true, false, false, false, false] rfl rfl (any_of HT_.out (by kernel_rfl)) (fun _ _ _ h => h) (Or.inl ⟨by rfl, ?_⟩) ?_ ?_
                  rotate_left
                  · intro w'
                    go_simp
                    with_reducible rfl
                  rotate_left
                  · simp only [Act.put, List.setIfInBounds_toArray, List.set_cons_zero, List.set_cons_succ, i64_w, i32_w]
                    rfl
                  refine take_ (i := 3) (N := some 161) (v := ?_) (a' := ?_) #[true, true, true, true, true, true, true, true, false, true, true, true, true, true, true, true, false, false, false, false] rfl rfl (take_ofW HT_.out HW_.out (by kernel_rfl)) (fun _ _ _ h => h) (Or.inl ⟨by rfl, ?_⟩) hHeld ?_ ?_
                  rotate_left
                  · rintro w' ⟨s0, s1⟩
                    go_simp
                    with_reducible rfl
                  rotate_left
                  · simp only [Act.put, List.setIfInBounds_toArray, List.set_cons_zero, List.set_cons_succ, i64_w, i32_w]
                    rfl
                  refine take_ (i := 8) (N := some 166) (v := ?_) (a' := ?_) #[true, true, true, true, true, true, true, true, true, true, true, true, true, true, true, true, false, false, false, false] rfl rfl (take_ofW HT_.out HW_.out (by kernel_rfl)) (fun _ _ _ h => h) (Or.inl ⟨by rfl, ?_⟩) hHeld ?_ ?_
                  rotate_left
                  · rintro w' ⟨s0, s1⟩
                    go_simp
                    with_reducible rfl
                  rotate_left
                  · simp only [Act.put, List.setIfInBounds_toArray, List.set_cons_zero, List.set_cons_succ, i64_w, i32_w]
                    rfl
                  refine pure_ (i := 16) (N := some 174) (v := ?_) (a' := ?_) #[true, true, true, true, true, true, true, true, true, true, true, true, true, true, true, true, true, false, false, false] rfl rfl (any_of HT_.out (by kernel_rfl)) (fun _ _ _ h => h) (Or.inl ⟨by rfl, ?_⟩) ?_ ?_
                  rotate_left
                  · intro w'
                    go_simp
                    with_reducible rfl
                  rotate_left
                  · simp only [Act.put, List.setIfInBounds_toArray, List.set_cons_zero, List.set_cons_succ, i64_w, i32_w]
                    rfl
                  refine last_ (i := 17) (N := none) #[true, true, true, true, true, true, true, true, true, true, true, true, true, true, true, true, true, true, false, false] rfl rfl (one_of HT_.out (by kernel_rfl)) (by decide) (fun K hK => ?_)
                  refine skip_ (w1 := ?_) (by rfl) rfl ?_ ?_
                  rotate_left
                  · go_simp
                    rfl
                  refine hK.out _ _ ?_
                  clear hK K
                  refine pure_ (i := 18) (N := some 175) (v := ?_) (a' := ?_) #[true, true, true, true, true, true, true, true, true, true, true, true, true, true, true, true, true, true, true, false] rfl rfl (any_of HT_.out (by kernel_rfl)) (fun _ _ _ h => h) (Or.inl ⟨by rfl, ?_⟩) ?_ ?_
                  rotate_left
                  · intro w'
                    go_simp
                    with_reducible rfl
                  rotate_left
                  · simp only [Act.put, List.setIfInBounds_toArray, List.set_cons_zero, List.set_cons_succ, i64_w, i32_w]
                    rfl
                  refine last_ (i := 19) (N := none) #[true, true, true, true, true, true, true, true, true, true, true, true, true, true, true, true, true, true, true, true] rfl rfl (one_of HT_.out (by kernel_rfl)) (by decide) (fun K hK => ?_)
                  refine skip_ (w1 := ?_) (by rfl) rfl ?_ ?_
                  rotate_left
                  · go_simp
                    rfl
                  refine hK.out _ _ ?_
                  clear hK K
                  refine done_ (done_of HT_.out (by kernel_rfl)) ?_
                  go_wp2
                  go_ret
                  exact ⟨by rw [HV.out]; rfl, _, _, by rw [HFS.out, HFG.out]; exact (HPUT.out _ (below_drew1 (Below.refl _ _)) _ _).1, (HF1.out.trans HFd.out).trans (HPUT.out _ (below_drew1 (Below.refl _ _)) _ _).2⟩
                | true =>
                  go_upto_region 33 with fail
                  refine start_ (n := 20) (S := fun w' => w'.cell? ⟨rb, 2, none⟩ = some (.slice (some ⟨g1, 0, none⟩) sd.length q1) ∧ w'.cell? ⟨rb, 3, none⟩ = some (.slice (some ⟨g2, 0, none⟩) gd.length q2)) (ds := [17, 19]) #[false, false, false, false, false, false, false, false, false, false, false, false, false, false, false, false, false, false, false, false] (by kernel_rfl) rfl rfl ⟨r2, r3⟩ (fun hHeld => ?_)
                  refine with_tabW rdr_value.tab33 rdr_value.bits33 (fun HT_ HW_ => ?_)
                  refine pure_ (i := 0) (N := some 158) (v := ?_) (a' := ?_) #[true, false, false, false, false, false, false, false, false, false, false, false, false, false, false, false, false, false, false, false] rfl rfl (any_of HT_.out (by kernel_rfl)) (fun _ _ _ h => h) (Or.inl ⟨by rfl, ?_⟩) ?_ ?_
                  rotate_left
                  · intro w'
                    go_simp
                    with_reducible rfl
                  rotate_left
                  · simp only [Act.put, List.setIfInBounds_toArray, List.set_cons_zero, List.set_cons_succ, i64_w, i32_w]
                    rfl
                  refine pure_ (i := 1) (N := some 159) (v := ?_) (a' := ?_) #[true, true, false, false, false, false, false, false, false, false, false, false, false, false, false, false, false, false, false, false] rfl rfl (any_of HT_.out (by kernel_rfl)) (fun _ _ _ h => h) (Or.inl ⟨by rfl, ?_⟩) ?_ ?_
                  rotate_left
                  · intro w'
                    go_simp
                    with_reducible rfl
                  rotate_left
                  · simp only [Act.put, List.setIfInBounds_toArray, List.set_cons_zero, List.set_cons_succ, i64_w, i32_w]
                    rfl
                  refine pure_ (i := 2) (N := some 160) (v := ?_) (a' := ?_) #[true, true, true, false, false, false, false, false, false, false, false, false, false, false, false, false, false, false, false, false] rfl rfl (any_of HT_.out (by kernel_rfl)) (fun _ _ _ h => h) (Or.inl ⟨by rfl, ?_⟩) ?_ ?_
                  rotate_left
                  · intro w'
                    go_simp
                    with_reducible rfl
                  rotate_left
                  · simp only [Act.put, List.setIfInBounds_toArray, List.set_cons_zero, List.set_cons_succ, i64_w, i32_w]
                    rfl
                  refine pure_ (i := 4) (N := some 162) (v := ?_) (a' := ?_) #[true, true, true, false, true, false, false, false, false, false, false, false, false, false, false, false, false, false, false, false] rfl rfl (any_of HT_.out (by kernel_rfl)) (fun _ _ _ h => h) (Or.inl ⟨by rfl, ?_⟩) ?_ ?_
                  rotate_left
                  · intro w'
                    go_simp
                    with_reducible rfl
                  rotate_left
                  · simp only [Act.put, List.setIfInBounds_toArray, List.set_cons_zero, List.set_cons_succ, i64_w, i32_w]
                    rfl
                  refine pure_ (i := 5) (N := some 163) (v := ?_) (a' := ?_) #[true, true, true, false, true, true, false, false, false, false, false, false, false, false, false, false, false, false, false, false] rfl rfl (any_of HT_.out (by kernel_rfl)) (fun _ _ _ h => h) (Or.inl ⟨by rfl, ?_⟩) ?_ ?_
                  rotate_left
                  · intro w'
                    go_simp
                    with_reducible rfl
                  rotate_left
                  · simp only [Act.put, List.setIfInBounds_toArray, List.set_cons_zero, List.set_cons_succ, i64_w, i32_w]
                    rfl
                  refine pure_ (i := 6) (N := some 164) (v := ?_) (a' := ?_) #[true, true, true, false, true, true, true, false, false, false, false, false, false, false, false, false, false, false, false, false] rfl rfl (any_of HT_.out (by kernel_rfl)) (fun _ _ _ h => h) (Or.inl ⟨by rfl, ?_⟩) ?_ ?_
                  rotate_left
                  · intro w'
                    go_simp
                    with_reducible rfl
                  rotate_left
                  · simp only [Act.put, List.setIfInBounds_toArray, List.set_cons_zero, List.set_cons_succ, i64_w, i32_w]
                    rfl
                  refine pure_ (i := 7) (N := some 165) (v := ?_) (a' := ?_) #[true, true, true, false, true, true, true, true, false, false, false, false, false, false, false, false, false, false, false, false] rfl rfl (any_of HT_.out (by kernel_rfl)) (fun _ _ _ h => h) (Or.inl ⟨by rfl, ?_⟩) ?_ ?_
                  rotate_left
                  · intro w'
                    go_simp
                    with_reducible rfl
                  rotate_left
                  · simp only [Act.put, List.setIfInBounds_toArray, List.set_cons_zero, List.set_cons_succ, i64_w, i32_w]
                    rfl
                  refine pure_ (i := 9) (N := some 167) (v := ?_) (a' := ?_) #[true, true, true, false, true, true, true, true, false, true, false, false, false, false, false, false, false, false, false, false] rfl rfl (any_of HT_.out (by kernel_rfl)) (fun _ _ _ h => h) (Or.inl ⟨by rfl, ?_⟩) ?_ ?_
                  rotate_left
                  · intro w'
                    go_simp
                    with_reducible rfl
                  rotate_left
                  · simp only [Act.put, List.setIfInBounds_toArray, List.set_cons_zero, List.set_cons_succ, i64_w, i32_w]
                    rfl
                  refine pure_ (i := 10) (N := some 168) (v := ?_) (a' := ?_) #[true, true, true, false, true, true, true, true, false, true, true, false, false, false, false, false, false, false, false, false] rfl rfl (any_of HT_.out (by kernel_rfl)) (fun _ _ _ h => h) (Or.inl ⟨by rfl, ?_⟩) ?_ ?_
                  rotate_left
                  · intro w'
                    go_simp
                    with_reducible rfl
                  rotate_left
                  · simp only [Act.put, List.setIfInBounds_toArray, List.set_cons_zero, List.set_cons_succ, i64_w, i32_w]
                    rfl
                  refine pure_ (i := 11) (N := some 169) (v := ?_) (a' := ?_) #[true, true, true, false, true, true, true, true, false, true, true, true, false, false, false, false, false, false, false, false] rfl rfl (any_of HT_.out (by kernel_rfl)) (fun _ _ _ h => h) (Or.inl ⟨by rfl, ?_⟩) ?_ ?_
                  rotate_left
                  · intro w'
                    go_simp
                    with_reducible rfl
                  rotate_left
                  · simp only [Act.put, List.setIfInBounds_toArray, List.set_cons_zero, List.set_cons_succ, i64_w, i32_w]
                    rfl
                  refine pure_ (i := 12) (N := some 170) (v := ?_) (a' := ?_) #[true, true, true, false, true, true, true, true, false, true, true, true, true, false, false, false, false, false, false, false] rfl rfl (any_of HT_.out (by kernel_rfl)) (fun _ _ _ h => h) (Or.inl ⟨by rfl, ?_⟩) ?_ ?_
                  rotate_left
                  · intro w'
                    go_simp
                    with_reducible rfl
                  rotate_left
                  · simp only [Act.put, List.setIfInBounds_toArray, List.set_cons_zero, List.set_cons_succ, i64_w, i32_w]
                    rfl
                  refine pure_ (i := 13) (N := some 171) (v := undef) (a' := ?_) #[true, true, true, false, true, true, true, true, false, true, true, true, true, true, false, false, false, false, false, false] rfl rfl (any_of HT_.out (by kernel_rfl)) (fun _ _ _ h => h) (Or.inr ⟨by rfl, rfl⟩) ?_ ?_
                  rotate_left
                  · simp only [Act.put, List.setIfInBounds_toArray, List.set_cons_zero, List.set_cons_succ, i64_w, i32_w]
                    rfl
                  refine pure_ (i := 14) (N := some 172) (v := undef) (a' := ?_) #[true, true, true, false, true, true, true, true, false, true, true, true, true, true, true, false, false, false, false, false] rfl rfl (any_of HT_.out (by kernel_rfl)) (fun _ _ _ h => h) (Or.inr ⟨by rfl, rfl⟩) ?_ ?_
                  rotate_left
                  · simp only [Act.put, List.setIfInBounds_toArray, List.set_cons_zero, List.set_cons_succ, i64_w, i32_w]
                    rfl
                  refine pure_ (i := 15) (N := some 173) (v := ?_) (a' := ?_) #[true, true, true, false, true, true, true, true, false, true, true, true, true, true, true, true, false, false, false, false] rfl rfl (any_of HT_.out (by kernel_rfl)) (fun _ _ _ h => h) (Or.inl ⟨by rfl, ?_⟩) ?_ ?_
                  rotate_left
                  · intro w'
                    go_simp
                    with_reducible rfl
                  rotate_left
                  · simp only [Act.put, List.setIfInBounds_toArray, List.set_cons_zero, List.set_cons_succ, i64_w, i32_w]
                    rfl
                  refine take_ (i := 3) (N := some 161) (v := ?_) (a' := ?_) #[true, true, true, true, true, true, true, true, false, true, true, true, true, true, true, true, false, false, false, false] rfl rfl (take_ofW HT_.out HW_.out (by kernel_rfl)) (fun _ _ _ h => h) (Or.inl ⟨by rfl, ?_⟩) hHeld ?_ ?_
                  rotate_left
                  · rintro w' ⟨s0, s1⟩
                    go_simp
                    with_reducible rfl
                  rotate_left
                  · simp only [Act.put, List.setIfInBounds_toArray, List.set_cons_zero, List.set_cons_succ, i64_w, i32_w]
                    rfl
                  refine take_ (i := 8) (N := some 166) (v := ?_) (a' := ?_) #[true, true, true, true, true, true, true, true, true, true, true, true, true, true, true, true, false, false, false, false] rfl rfl (take_ofW HT_.out HW_.out (by kernel_rfl)) (fun _ _ _ h => h) (Or.inl ⟨by rfl, ?_⟩) hHeld ?_ ?_
                  rotate_left
                  · rintro w' ⟨s0, s1⟩
                    go_simp
                    with_reducible rfl
                  rotate_left
                  · simp only [Act.put, List.setIfInBounds_toArray, List.set_cons_zero, List.set_cons_succ, i64_w, i32_w]
                    rfl
                  refine pure_ (i := 16) (N := some 174) (v := ?_) (a' := ?_) #[true, true, true, true, true, true, true, true, true, true, true, true, true, true, true, true, true, false, false, false] rfl rfl (any_of HT_.out (by kernel_rfl)) (fun _ _ _ h => h) (Or.inl ⟨by rfl, ?_⟩) ?_ ?_
                  rotate_left
                  · intro w'
                    go_simp
                    with_reducible rfl
                  rotate_left
                  · simp only [Act.put, List.setIfInBounds_toArray, List.set_cons_zero, List.set_cons_succ, i64_w, i32_w]
                    rfl
                  refine last_ (i := 17) (N := none) #[true, true, true, true, true, true, true, true, true, true, true, true, true, true, true, true, true, true, false, false] rfl rfl (one_of HT_.out (by kernel_rfl)) (by decide) (fun K hK => ?_)
                  refine skip_ (w1 := ?_) (by rfl) rfl ?_ ?_
                  rotate_left
                  · go_simp
                    rfl
                  refine hK.out _ _ ?_
                  clear hK K
                  refine pure_ (i := 18) (N := some 175) (v := ?_) (a' := ?_) #[true, true, true, true, true, true, true, true, true, true, true, true, true, true, true, true, true, true, true, false] rfl rfl (any_of HT_.out (by kernel_rfl)) (fun _ _ _ h => h) (Or.inl ⟨by rfl, ?_⟩) ?_ ?_
                  rotate_left
                  · intro w'
                    go_simp
                    with_reducible rfl
                  rotate_left
                  · simp only [Act.put, List.setIfInBounds_toArray, List.set_cons_zero, List.set_cons_succ, i64_w, i32_w]
                    rfl
                  refine last_ (i := 19) (N := none) #[true, true, true, true, true, true, true, true, true, true, true, true, true, true, true, true, true, true, true, true] rfl rfl (one_of HT_.out (by kernel_rfl)) (by decide) (fun K hK => ?_)
                  refine skip_ (w1 := ?_) (by rfl) rfl ?_ ?_
                  rotate_left
                  · go_simp
                    rfl
                  refine hK.out _ _ ?_
                  clear hK K
                  refine done_ (done_of HT_.out (by kernel_rfl)) ?_
                  go_wp2
                  go_ret
                  exact ⟨by rw [HV.out]; rfl, _, _, by rw [HFS.out, HFG.out]; exact (HPUT.out _ (below_drew1 (Below.refl _ _)) _ _).1, (HF1.out.trans HFd.out).trans (HPUT.out _ (below_drew1 (Below.refl _ _)) _ _).2⟩
end Go.Proofs.Ytegaicoddnmemaa.X

namespace Go.Proofs.Ytegaicoddnmemaa.X
open Go.RowKit Go.Proofs.YtegaicoddnmemaaW.PrintWords Go.Proofs.YtegaicoddnmemaaW.PrintLast Go.Proofs.YtegaicoddnmemaaW.PrintMore
open Go.Proofs.Ytegaicoddnmemaa.P Go.Proofs.Ytegaicoddnmemaa.Evx
set_option linter.unusedSimpArgs false
set_option linter.unusedVariables false
mutual
theorem rd_all (w0 : World) : ∀ s : S24, RdAt w0 s
  | ⟨op, m, kids⟩ => value_calls w0 ⟨op, m, kids⟩ (rd_kids w0 kids)
theorem rd_kids (w0 : World) : ∀ (l : List S24) (k : S24), k ∈ l → RdAt w0 k
  | [], k, hk => by simp at hk
  | a :: r, k, hk => by
    rcases List.mem_cons.1 hk with h | h
    · rw [h]
      exact rd_all w0 a
    · exact rd_kids w0 r k h
end
theorem rdr_new (w W : World) (sv lt : Int) (hB : Below w.heap.size w W) : Rdr w (W.alloc (.cells #[.int .i64 sv, .int .u32 lt, .slice none 0 0, .slice none 0 0] 64)) W.heap.size sv lt [] [] (.slice none 0 0) (.slice none 0 0) :=
  { blk := heap_alloc_new W _, o1 := World.ownsRow_nil _ _ _ _, o2 := World.ownsRow_nil _ _ _ _, ne := .inl rfl, bl := below_alloc hB _, rb0 := hB.size }
set_option maxHeartbeats 1600000 in
theorem read_calls (s : S24) (sv lt : Int) (A : Option Addr) (cp : Nat) (w : World) (hr : Kd.C k24 w A s.f2.length s.f2) (hc : s.f2.length ≤ cp) (hs : soundS s = true) (ht : tnS s ≤ 60) :
    Calls Try.prog 38 #[.agg #[.int .i64 s.f0, .int .i64 s.f1, .slice A s.f2.length cp], .int .i64 sv, .int .u32 lt] w fun e w' => ∃ rb v1 v2, e = .returned (.tuple #[.pointer (some ⟨rb, 0, none⟩), .bool (valS sv lt s 0)]) ∧ Rdr w w' rb sv lt (saidS sv lt s 0) (goodS sv lt s 0) v1 v2 := by
  have huF := Try.underlying24
  have hur := Try.underlying64
  have hR := rdr_new w (w.alloc (.cells #[.int .i64 s.f0, .int .i64 s.f1, .slice A s.f2.length cp] 24)) sv lt (below_alloc (Below.refl _ _) _)
  have hz : (w.alloc (.cells #[.int .i64 s.f0, .int .i64 s.f1, .slice A s.f2.length cp] 24)).heap.size = w.heap.size + 1 := by simp
  rw [hz] at hR
  have HC := Aside0.mk (rd_all w s (w.heap.size + 1) sv lt [] [] (.slice none 0 0) (.slice none 0 0) A cp _ hR rfl (by simpa using ht) hr hc hs)
  clear hR hz hr hc hs ht
  go_enter Try.func38, Try.ntmps38
  go_wp2_with (go_at_call 52; refine HC.out.mono ?_; rintro e w1 ⟨rfl, v1, v2, hR, hF⟩; have HR := Aside0.mk hR; clear hR hF)
  go_ret2
  exact ⟨w.heap.size + 1, v1, v2, rfl, HR.out⟩
def valueF (s : S24) (sv lt : Int) : Bool := if stateS s sv = true then valS sv lt s 0 else false
set_option maxHeartbeats 1600000 in
theorem Value_calls (s : S24) (sv lt : Int) (A : Option Addr) (cp : Nat) (w : World) (hr : Kd.C k24 w A s.f2.length s.f2) (hc : s.f2.length ≤ cp) :
    Calls Try.prog 17 #[.agg #[.int .i64 s.f0, .int .i64 s.f1, .slice A s.f2.length cp], .int .i64 sv, .int .u32 lt] w fun e w' => e = .returned (.bool (valueF s sv lt)) ∧ Below w.heap.size w w' := by
  have huF := Try.underlying24
  obtain ⟨W1, hW1⟩ : ∃ W1, W1 = w.alloc (.cells #[.int .i64 s.f0, .int .i64 s.f1, .slice A s.f2.length cp] 24) := ⟨_, rfl⟩
  have hB1 : Below w.heap.size w W1 := by rw [hW1]; exact below_alloc (Below.refl _ _) _
  have hbx : W1.heap[w.heap.size]? = some (.cells #[.int .i64 s.f0, .int .i64 s.f1, .slice A s.f2.length cp] 24 (0, 0)) := by rw [hW1]; exact heap_alloc_new w _
  have HBX := Aside0.mk hbx
  have HB1 := Aside0.mk hB1
  have HR := Aside0.mk hr
  have HW1 := Aside0.mk hW1
  have x0 : W1.cell? ⟨w.heap.size, 0, none⟩ = some (.int .i64 s.f0) := (blk_cell hbx 0).trans rfl
  have x1 : W1.cell? ⟨w.heap.size, 1, none⟩ = some (.int .i64 s.f1) := (blk_cell hbx 1).trans rfl
  have x2 : W1.cell? ⟨w.heap.size, 2, none⟩ = some (.slice A s.f2.length cp) := (blk_cell hbx 2).trans rfl
  obtain ⟨k1, hk1⟩ := (state_ev s sv).rounds
  have HVF := Aside0.mk (show valueF s sv lt = if stateS s sv = true then valS sv lt s 0 else false from rfl)
  have HM := Aside0.mk (@state_may s sv)
  have HK1 := Aside0.mk hk1
  clear hbx hB1 hr hk1
  cases hst : stateS s sv with
  | false =>
    rw [hst] at HK1 HVF
    have HX := Aside0.mk (show valueF s sv lt = false from by rw [HVF.out]; rfl)
    clear hst
    go_enter Try.func17, Try.ntmps17
    go_upto_region 1 with fail
    rw [← hW1]
    clear hW1
    go_wp2_with (go_at_call 37; refine (tableau_state.calls k1 s.f0 s.f1 A cp s.f2 sv false _ (Kd.C_below HR.out HB1.out) hc HK1.out).mono ?_; rintro e w1 ⟨rfl, hB⟩; have HB := Aside0.mk hB; clear hB)
    go_ret
    exact ⟨show Ending.returned (.bool false) = _ from by rw [HX.out], HB1.out.trans (HB.out.mono HB1.out.size)⟩
  | true =>
    have hz := may_zero (HM.out hst)
    have HZ := Aside0.mk hz
    rw [hst] at HK1 HVF
    have HX := Aside0.mk (show valueF s sv lt = valS sv lt s 0 from by rw [HVF.out]; rfl)
    clear hst hz
    go_enter Try.func17, Try.ntmps17
    go_upto_region 1 with fail
    rw [← hW1]
    clear hW1
    go_wp2_with (first | (go_at_call 37; refine (tableau_state.calls k1 s.f0 s.f1 A cp s.f2 sv true _ (Kd.C_below HR.out HB1.out) hc HK1.out).mono ?_; rintro e w1 ⟨rfl, hB⟩; have HB := Aside0.mk (HB1.out.trans (hB.mono HB1.out.size)); have HBX1 := Aside0.mk ((hB.block _ (blk_lt HBX.out)).trans HBX.out); have y0 := (blk_cell HBX1.out 0).trans rfl; have y1 := (blk_cell HBX1.out 1).trans rfl; have y2 := (blk_cell HBX1.out 2).trans rfl; clear hB) | (go_at_call 38; refine (read_calls s sv lt A cp _ (Kd.C_below HR.out HB.out) hc HZ.out.2.2.2 (by have := HZ.out; omega)).mono ?_; rintro e w2 ⟨rb, v1, v2, rfl, hRd⟩; have HB2 := Aside0.mk (HB.out.trans (hRd.bl.mono HB.out.size)); clear hRd))
    go_ret
    exact ⟨show Ending.returned (.bool (valS sv lt s 0)) = _ from by rw [HX.out], HB2.out⟩
def tableau_Value.f (a0_0 : Int) (a0_1 : Int) (l0_2 : List S24) (a1 : Int) (a2 : Int) : Option Bool := some (valueF ⟨a0_0, a0_1, l0_2⟩ a1 a2)
theorem tableau_Value.calls (a0_0 : Int) (a0_1 : Int) (A0_2 : Option Addr) (c0_2 : Nat) (l0_2 : List S24) (a1 : Int) (a2 : Int) (r : Bool) (w : World) (hr0_2 : Kd.C k24 w A0_2 l0_2.length l0_2) (hc0_2 : l0_2.length ≤ c0_2) (h : tableau_Value.f a0_0 a0_1 l0_2 a1 a2 = some r) :
    Calls Try.prog 17 #[.agg #[.int .i64 a0_0, .int .i64 a0_1, .slice A0_2 l0_2.length c0_2], .int .i64 a1, .int .u32 a2] w fun e w' => e = .returned (.bool r) ∧ Below w.heap.size w w' := by
  obtain rfl := Option.some.inj h
  exact Value_calls ⟨a0_0, a0_1, l0_2⟩ a1 a2 A0_2 c0_2 w hr0_2 hc0_2
/-- Does what is said agree with the bits? -/
def movesL (sv : Int) : List Bool → Nat → Bool
  | [], _ => true
  | b :: r, k => b == bitK sv k && movesL sv r (k + 1)
def movesF (s : S24) (sv lt tv nx : Int) : Bool := stateS s sv && (stateS s tv && movesL sv (saidS tv nx s 0) 0)
set_option maxHeartbeats 3200000 in
set_option maxRecDepth 100000 in
theorem Moves_calls (s : S24) (sv lt tv nx : Int) (A : Option Addr) (cp : Nat) (w : World) (hr : Kd.C k24 w A s.f2.length s.f2) (hc : s.f2.length ≤ cp) :
    Calls Try.prog 18 #[.agg #[.int .i64 s.f0, .int .i64 s.f1, .slice A s.f2.length cp], .int .i64 sv, .int .u32 lt, .int .i64 tv, .int .u32 nx] w fun e w' => e = .returned (.bool (movesF s sv lt tv nx)) ∧ Below w.heap.size w w' := by
  have huF := Try.underlying24
  have hur := Try.underlying64
  have hus := Try.underlying45
  obtain ⟨W1, hW1⟩ : ∃ W1, W1 = w.alloc (.cells #[.int .i64 s.f0, .int .i64 s.f1, .slice A s.f2.length cp] 24) := ⟨_, rfl⟩
  have hB1 : Below w.heap.size w W1 := by rw [hW1]; exact below_alloc (Below.refl _ _) _
  have hbx : W1.heap[w.heap.size]? = some (.cells #[.int .i64 s.f0, .int .i64 s.f1, .slice A s.f2.length cp] 24 (0, 0)) := by rw [hW1]; exact heap_alloc_new w _
  have HBX := Aside0.mk hbx
  have HB1 := Aside0.mk hB1
  have HR := Aside0.mk hr
  have HW1 := Aside0.mk hW1
  have x0 : W1.cell? ⟨w.heap.size, 0, none⟩ = some (.int .i64 s.f0) := (blk_cell hbx 0).trans rfl
  have x1 : W1.cell? ⟨w.heap.size, 1, none⟩ = some (.int .i64 s.f1) := (blk_cell hbx 1).trans rfl
  have x2 : W1.cell? ⟨w.heap.size, 2, none⟩ = some (.slice A s.f2.length cp) := (blk_cell hbx 2).trans rfl
  obtain ⟨k1, hk1⟩ := (state_ev s sv).rounds
  obtain ⟨k2, hk2⟩ := (state_ev s tv).rounds
  have HVF := Aside0.mk (show movesF s sv lt tv nx = (stateS s sv && (stateS s tv && movesL sv (saidS tv nx s 0) 0)) from rfl)
  have HM := Aside0.mk (@state_may s tv)
  have HK1 := Aside0.mk hk1
  have HK2 := Aside0.mk hk2
  clear hbx hB1 hr hk1 hk2
  generalize movesF s sv lt tv nx = R at *
  cases hst : stateS s sv with
  | false =>
    rw [hst] at HK1 HVF
    have HX := Aside0.mk (show R = false from by rw [HVF.out]; rfl)
    clear hst
    go_enter Try.func18, Try.ntmps18
    go_upto_region 1 with fail
    rw [← hW1]
    clear hW1
    go_wp2_with (go_at_call 37; refine (tableau_state.calls k1 s.f0 s.f1 A cp s.f2 sv false _ (Kd.C_below HR.out HB1.out) hc HK1.out).mono ?_; rintro e w1 ⟨rfl, hB⟩; have HB := Aside0.mk hB; clear hB)
    go_ret
    exact ⟨show Ending.returned (.bool false) = _ from by rw [HX.out], HB1.out.trans (HB.out.mono HB1.out.size)⟩
  | true =>
    rw [hst] at HK1 HVF
    clear hst
    go_enter Try.func18, Try.ntmps18
    go_upto_region 1 with fail
    rw [← hW1]
    clear hW1
    cases hs2 : stateS s tv with
    | false =>
      rw [hs2] at HK2 HVF
      have HX := Aside0.mk (show R = false from by rw [HVF.out]; rfl)
      clear hs2
      go_wp2_with (go_at_call 37; first | ((with_reducible refine (tableau_state.calls k1 s.f0 s.f1 A cp s.f2 sv true _ (Kd.C_below HR.out HB1.out) hc HK1.out).mono ?_); rintro e w1 ⟨rfl, hB⟩; have HB := Aside0.mk (HB1.out.trans (hB.mono HB1.out.size)); have HBX1 := Aside0.mk ((hB.block _ (blk_lt HBX.out)).trans HBX.out); have y0 := (blk_cell HBX1.out 0).trans rfl; have y1 := (blk_cell HBX1.out 1).trans rfl; have y2 := (blk_cell HBX1.out 2).trans rfl; clear hB) | ((with_reducible refine (tableau_state.calls k2 s.f0 s.f1 A cp s.f2 tv false _ (Kd.C_below HR.out HB.out) hc HK2.out).mono ?_); rintro e w2 ⟨rfl, hB⟩; have HB2 := Aside0.mk (HB.out.trans (hB.mono HB.out.size)); clear hB))
      go_ret
      exact ⟨show Ending.returned (.bool false) = _ from by rw [HX.out], HB2.out⟩
    | true =>
      have HZ := Aside0.mk (may_zero (HM.out hs2))
      rw [hs2] at HK2 HVF
      have HX := Aside0.mk (show R = movesL sv (saidS tv nx s 0) 0 from by rw [HVF.out]; rfl)
      have hlz : (saidS tv nx s 0).length ≤ 8 := by rw [len_said]; exact HZ.out.2.2.1
      generalize hl : saidS tv nx s 0 = l at *
      have HLL := Aside0.mk hl
      clear hs2 hl
      go_wp2_with (first | (go_at_call 37; first | ((with_reducible refine (tableau_state.calls k1 s.f0 s.f1 A cp s.f2 sv true _ (Kd.C_below HR.out HB1.out) hc HK1.out).mono ?_); rintro e w1 ⟨rfl, hB⟩; have HB := Aside0.mk (HB1.out.trans (hB.mono HB1.out.size)); have HBX1 := Aside0.mk ((hB.block _ (blk_lt HBX.out)).trans HBX.out); have y0 := (blk_cell HBX1.out 0).trans rfl; have y1 := (blk_cell HBX1.out 1).trans rfl; have y2 := (blk_cell HBX1.out 2).trans rfl; clear hB) | ((with_reducible refine (tableau_state.calls k2 s.f0 s.f1 A cp s.f2 tv true _ (Kd.C_below HR.out HB.out) hc HK2.out).mono ?_); rintro e w2 ⟨rfl, hB⟩; have HB2 := Aside0.mk (HB.out.trans (hB.mono HB.out.size)); have HBX2 := Aside0.mk ((hB.block _ (blk_lt HBX1.out)).trans HBX1.out); have z0 := (blk_cell HBX2.out 0).trans rfl; have z1 := (blk_cell HBX2.out 1).trans rfl; have z2 := (blk_cell HBX2.out 2).trans rfl; clear hB)) | (go_at_call 38; refine (read_calls s tv nx A cp _ (Kd.C_below HR.out HB2.out) hc HZ.out.2.2.2 (by have := HZ.out; omega)).mono ?_; rintro e w3 ⟨rb, v1, v2, rfl, hRd⟩; rw [HLL.out] at hRd; obtain ⟨A1, c1, hvs, hc1⟩ := own_form hRd.o1; subst hvs; have r2 := rdrB_2 hRd.blk; have HB3 := Aside0.mk (HB2.out.trans (hRd.bl.mono HB2.out.size)); have HRd := Aside0.mk hRd; clear hRd))
      go_loopg [37] l.length (fun kq v37 w' => ∃ j : Nat, j + kq = l.length ∧ v37 = .int .i64 j ∧ Aside0 (movesL sv (l.drop j) j = movesL sv l 0) ∧ Aside0 (Rdr w2 w' rb tv nx l (goodS tv nx s 0) (.slice A1 l.length c1) v2) ∧ Aside0 (Below w.heap.size w w'))
      case atStart => exact ⟨0, by omega, rfl, ⟨rfl⟩, HRd, HB3⟩
      case round =>
        obtain ⟨j, hj, rfl, HMV, HRj, HBj⟩ := hrel
        have HJ := Aside0.mk hj
        clear hj
        by_cases hlt : j < l.length
        · obtain ⟨g1, q1, e1, _, _, p1, f1, _⟩ := own_put HRj.out.o1 hlt
          injection e1 with e1 _ e3
          subst e1 e3
          have HST := Aside0.mk (show movesL sv l 0 = ((l.getD j false == bitK sv j) && movesL sv (l.drop (j + 1)) (j + 1)) from by rw [← HMV.out, List.drop_eq_getElem_cons hlt, movesL, List.getD_eq_getElem?_getD, List.getElem?_eq_getElem hlt]; rfl)
          have HBT := Aside0.mk (show bitK sv j = ((Go.bits .and .i64 (sv / 2 ^ j) 1) == 1) from rfl)
          have hj8 : j ≤ 8 := by omega
          generalize l.getD j false = b at *
          go_upto_region 7 with fail
          go_cut [49] (fun v49 wx => ∃ t : Bool, v49 = .bool t ∧ Aside0 ((b != bitK sv j) = t) ∧ wx = wr)
          case first =>
            cases b
            all_goals
              go_wp2
              go_meet
              exact ⟨_, rfl, ⟨by unfold bitK; simp⟩, rfl⟩
          case rest =>
            obtain ⟨tt, rfl, HTT, hwc⟩ := hcut
            rw [hwc]
            clear hwc wc HBT
            generalize bitK sv j = c at *
            cases tt with
            | false =>
              have HS2 := Aside0.mk (show movesL sv (l.drop (j + 1)) (j + 1) = movesL sv l 0 from by have := HTT.out; rw [HST.out]; cases b <;> cases c <;> simp_all)
              go_wp2
              go_roundg (gk - 1)
              case measure => have := HJ.out; omega
              case rel => exact ⟨j + 1, by have := HJ.out; omega, by go_num, HS2, HRj, HBj⟩
            | true =>
              have HS2 := Aside0.mk (show R = false from by have := HTT.out; rw [HX.out, HST.out]; cases b <;> cases c <;> simp_all)
              go_wp2
              go_ret
              exact ⟨by rw [HS2.out]; rfl, HBj.out⟩
        · have HS2 := Aside0.mk (show R = true from by rw [HX.out, ← HMV.out, List.drop_eq_nil_of_le (by omega)]; rfl)
          go_wp2
          go_ret
          exact ⟨by rw [HS2.out]; rfl, HBj.out⟩
def tableau_Moves.f (a0_0 : Int) (a0_1 : Int) (l0_2 : List S24) (a1 : Int) (a2 : Int) (a3 : Int) (a4 : Int) : Option Bool := some (movesF ⟨a0_0, a0_1, l0_2⟩ a1 a2 a3 a4)
theorem tableau_Moves.calls (a0_0 : Int) (a0_1 : Int) (A0_2 : Option Addr) (c0_2 : Nat) (l0_2 : List S24) (a1 : Int) (a2 : Int) (a3 : Int) (a4 : Int) (r : Bool) (w : World) (hr0_2 : Kd.C k24 w A0_2 l0_2.length l0_2) (hc0_2 : l0_2.length ≤ c0_2) (h : tableau_Moves.f a0_0 a0_1 l0_2 a1 a2 a3 a4 = some r) :
    Calls Try.prog 18 #[.agg #[.int .i64 a0_0, .int .i64 a0_1, .slice A0_2 l0_2.length c0_2], .int .i64 a1, .int .u32 a2, .int .i64 a3, .int .u32 a4] w fun e w' => e = .returned (.bool r) ∧ Below w.heap.size w w' := by
  obtain rfl := Option.some.inj h
  exact Moves_calls ⟨a0_0, a0_1, l0_2⟩ a1 a2 a3 a4 A0_2 c0_2 w hr0_2 hc0_2
def goodF (s : S24) (k sv lt : Int) : Bool := stateS s sv && (decide (0 ≤ k) && (decide (k < tnS s) && (goodS sv lt s 0).getD k.toNat false))
set_option maxHeartbeats 3200000 in
set_option maxRecDepth 100000 in
theorem Good_calls (s : S24) (k sv lt : Int) (A : Option Addr) (cp : Nat) (w : World) (hr : Kd.C k24 w A s.f2.length s.f2) (hc : s.f2.length ≤ cp) :
    Calls Try.prog 22 #[.agg #[.int .i64 s.f0, .int .i64 s.f1, .slice A s.f2.length cp], .int .i64 k, .int .i64 sv, .int .u32 lt] w fun e w' => e = .returned (.bool (goodF s k sv lt)) ∧ Below w.heap.size w w' := by
  have huF := Try.underlying24
  have hur := Try.underlying64
  have hus := Try.underlying45
  obtain ⟨W1, hW1⟩ : ∃ W1, W1 = w.alloc (.cells #[.int .i64 s.f0, .int .i64 s.f1, .slice A s.f2.length cp] 24) := ⟨_, rfl⟩
  have hB1 : Below w.heap.size w W1 := by rw [hW1]; exact below_alloc (Below.refl _ _) _
  have hbx : W1.heap[w.heap.size]? = some (.cells #[.int .i64 s.f0, .int .i64 s.f1, .slice A s.f2.length cp] 24 (0, 0)) := by rw [hW1]; exact heap_alloc_new w _
  have HBX := Aside0.mk hbx
  have HB1 := Aside0.mk hB1
  have HR := Aside0.mk hr
  have HW1 := Aside0.mk hW1
  have x0 : W1.cell? ⟨w.heap.size, 0, none⟩ = some (.int .i64 s.f0) := (blk_cell hbx 0).trans rfl
  have x1 : W1.cell? ⟨w.heap.size, 1, none⟩ = some (.int .i64 s.f1) := (blk_cell hbx 1).trans rfl
  have x2 : W1.cell? ⟨w.heap.size, 2, none⟩ = some (.slice A s.f2.length cp) := (blk_cell hbx 2).trans rfl
  obtain ⟨k1, hk1⟩ := (state_ev s sv).rounds
  have HVF := Aside0.mk (show goodF s k sv lt = (stateS s sv && (decide (0 ≤ k) && (decide (k < tnS s) && (goodS sv lt s 0).getD k.toNat false))) from rfl)
  have HM := Aside0.mk (@state_may s sv)
  have HK1 := Aside0.mk hk1
  clear hbx hB1 hr hk1
  generalize goodF s k sv lt = R at *
  cases hst : stateS s sv with
  | false =>
    rw [hst] at HK1 HVF
    have HX := Aside0.mk (show R = false from by rw [HVF.out]; rfl)
    clear hst
    go_enter Try.func22, Try.ntmps22
    go_upto_region 1 with fail
    rw [← hW1]
    clear hW1
    go_wp2_with (go_at_call 37; refine (tableau_state.calls k1 s.f0 s.f1 A cp s.f2 sv false _ (Kd.C_below HR.out HB1.out) hc HK1.out).mono ?_; rintro e w1 ⟨rfl, hB⟩; have HB := Aside0.mk hB; clear hB)
    go_ret
    exact ⟨show Ending.returned (.bool false) = _ from by rw [HX.out], HB1.out.trans (HB.out.mono HB1.out.size)⟩
  | true =>
    have HZ := Aside0.mk (may_zero (HM.out hst))
    rw [hst] at HK1 HVF
    have HLN := Aside0.mk (len_good sv lt s 0)
    have hlz : (goodS sv lt s 0).length ≤ 8 := by rw [len_good]; exact HZ.out.2.2.1
    generalize hl : goodS sv lt s 0 = l at *
    have HLL := Aside0.mk hl
    have HX := Aside0.mk (show R = (decide (0 ≤ k) && (decide (k < tnS s) && l.getD k.toNat false)) from by rw [HVF.out]; rfl)
    clear hst hl
    go_enter Try.func22, Try.ntmps22
    go_upto_region 1 with fail
    rw [← hW1]
    clear hW1
    go_upto_region 4 with (first | (go_at_call 37; refine (tableau_state.calls k1 s.f0 s.f1 A cp s.f2 sv true _ (Kd.C_below HR.out HB1.out) hc HK1.out).mono ?_; rintro e w1 ⟨rfl, hB⟩; have HB := Aside0.mk (HB1.out.trans (hB.mono HB1.out.size)); have HBX1 := Aside0.mk ((hB.block _ (blk_lt HBX.out)).trans HBX.out); have y0 := (blk_cell HBX1.out 0).trans rfl; have y1 := (blk_cell HBX1.out 1).trans rfl; have y2 := (blk_cell HBX1.out 2).trans rfl; clear hB) | (go_at_call 38; refine (read_calls s sv lt A cp _ (Kd.C_below HR.out HB.out) hc HZ.out.2.2.2 (by have := HZ.out; omega)).mono ?_; rintro e w2 ⟨rb, v1, v2, rfl, hRd⟩; rw [HLL.out] at hRd; obtain ⟨A2, c2, hvg, hc2⟩ := own_form hRd.o2; subst hvg; have r3 := rdrB_3 hRd.blk; have HB2 := Aside0.mk (HB.out.trans (hRd.bl.mono HB.out.size)); have HRd := Aside0.mk hRd; clear hRd))
    by_cases h0 : 0 ≤ k
    · by_cases h1 : k < (l.length : Int)
      · obtain ⟨j, rfl⟩ := Int.eq_ofNat_of_zero_le h0
        obtain ⟨g1, q1, e1, _, _, p1, f1, _⟩ := own_put HRd.out.o2 (k := j) (by omega)
        injection e1 with e1 _ e3
        subst e1 e3
        have HX2 := Aside0.mk (show R = l.getD j false from by rw [HX.out, decide_eq_true h0, decide_eq_true (show (j : Int) < tnS s from by have := HLN.out; omega)]; rfl)
        generalize l.getD j false = b at *
        go_wp2
        go_ret
        exact ⟨by rw [HX2.out]; rfl, HB2.out⟩
      · have HX2 := Aside0.mk (show R = false from by rw [HX.out, decide_eq_false (show ¬ k < tnS s from by have := HLN.out; omega)]; simp)
        go_wp2
        go_ret
        exact ⟨by rw [HX2.out]; rfl, HB2.out⟩
    · have HX2 := Aside0.mk (show R = false from by rw [HX.out, decide_eq_false h0]; simp)
      go_wp2
      go_ret
      exact ⟨by rw [HX2.out]; rfl, HB2.out⟩
def tableau_Good.f (a0_0 : Int) (a0_1 : Int) (l0_2 : List S24) (a1 : Int) (a2 : Int) (a3 : Int) : Option Bool := some (goodF ⟨a0_0, a0_1, l0_2⟩ a1 a2 a3)
theorem tableau_Good.calls (a0_0 : Int) (a0_1 : Int) (A0_2 : Option Addr) (c0_2 : Nat) (l0_2 : List S24) (a1 : Int) (a2 : Int) (a3 : Int) (r : Bool) (w : World) (hr0_2 : Kd.C k24 w A0_2 l0_2.length l0_2) (hc0_2 : l0_2.length ≤ c0_2) (h : tableau_Good.f a0_0 a0_1 l0_2 a1 a2 a3 = some r) :
    Calls Try.prog 22 #[.agg #[.int .i64 a0_0, .int .i64 a0_1, .slice A0_2 l0_2.length c0_2], .int .i64 a1, .int .i64 a2, .int .u32 a3] w fun e w' => e = .returned (.bool r) ∧ Below w.heap.size w w' := by
  obtain rfl := Option.some.inj h
  exact Good_calls ⟨a0_0, a0_1, l0_2⟩ a1 a2 a3 A0_2 c0_2 w hr0_2 hc0_2
end Go.Proofs.Ytegaicoddnmemaa.X

namespace Go.Proofs.Ytegaicoddnmemaa.X
open Go.RowKit Go.Proofs.YtegaicoddnmemaaW.PrintWords Go.Proofs.YtegaicoddnmemaaW.PrintLast Go.Proofs.YtegaicoddnmemaaW.PrintMore
open Go.Proofs.Ytegaicoddnmemaa.P
set_option linter.unusedSimpArgs false
set_option linter.unusedVariables false
theorem infoU32 : (Try.prog.info? 36).map (fun i => (i.zero, i.size, i.bytes)) = some (some (.int .u32 0), 1, 4) := by kernel_rfl
set_option maxHeartbeats 1600000 in
theorem Grow_nil (m : Int) (w : World) (h0 : 0 < m) (h1 : m < 1000000000) :
    Calls Try.prog 54 #[.slice none 0 0, .int .i64 m] w fun e w' => ∃ v, e = .returned v ∧ Kd.R (Kd.int .u32) 36 w' w.heap.size (fun _ => True) v [] ∧ Below w.heap.size w w' := by
  have hus := Try.underlying25
  have hui := Try.underlying3
  have hnn : ¬ m < 0 := by omega
  go_enter Try.func54, Try.ntmps54
  go_wp2_with ((with_reducible refine gate_builtin (b := .append) (xs := #[.tmp 20, .tmp 21]) rfl ?_); at_builtin; refine Kd.R_append_zeros (Kd.int .u32) (w0 := w) w.heap.size rfl (.tmp 20) (.tmp 21) 25 3 36 (.int .u32 0) 4 rfl hus hui infoU32 rfl (by decide) (by decide) (.slice none 0 0) [] 0 (kx := .i64) m (fun _ => True) rfl rfl rfl (fun _ _ => trivial) (Kd.R_nil _ _ _ _ _) (by omega) (Below.refl _ _) (Nat.le_refl _) (by simp; omega) ?_; intro v1 w1 hR hB hg hat; obtain ⟨A1, c1, hv1⟩ := Kd.R_slice hR; subst hv1; have HR := Aside0.mk hR; have HB := Aside0.mk hB; clear hR hB hg hat)
  go_ret
  exact ⟨_, rfl, by have := Kd.R_take (m := 0) HR.out (by simp); simpa using this, HB.out⟩
set_option maxHeartbeats 4000000 in
set_option maxRecDepth 100000 in
theorem Concat_calls (gb : Nat) (A1 A2 : Option Addr) (c1 c2 : Nat) (l1 l2 : List Int) (w : World) (hb : w.heap[gb]? = some (.cells #[.slice A1 l1.length c1, .slice A2 l2.length c2] 25 (0, 0))) (hr1 : Kd.C (Kd.int .u32) w A1 l1.length l1) (hr2 : Kd.C (Kd.int .u32) w A2 l2.length l2) (h0 : 0 < l1.length + l2.length) (h1 : l1.length + l2.length < 1000000000) :
    Calls Try.prog 41 #[.slice (some ⟨gb, 0, none⟩) 2 2] w fun e w' => ∃ v, e = .returned v ∧ Kd.R (Kd.int .u32) 36 w' w.heap.size (fun _ => True) v (l1 ++ l2) ∧ Below w.heap.size w w' := by
  have hus := Try.underlying25
  have huss := Try.underlying84
  have hui := Try.underlying3
  have hgb : gb < w.heap.size := blk_lt hb
  have x0 : w.cell? ⟨gb, 0, none⟩ = some (.slice A1 l1.length c1) := (blk_cell hb 0).trans rfl
  have x1 : w.cell? ⟨gb, 1, none⟩ = some (.slice A2 l2.length c2) := (blk_cell hb 1).trans rfl
  have R1 := Aside0.mk hr1
  have R2 := Aside0.mk hr2
  have X0 := Aside0.mk x0
  have X1 := Aside0.mk x1
  clear hb hr1 hr2 x0 x1
  go_enter Try.func41, Try.ntmps41
  go_wp2
  go_loopg [3, 11] 2 (fun kq v3 v11 w' => (kq = 2 ∧ v3 = .int .i64 0 ∧ v11 = .int .i64 0 ∧ w' = w) ∨ (kq = 1 ∧ v3 = .int .i64 (l1.length : Int) ∧ v11 = .int .i64 1 ∧ w' = w) ∨ (kq = 0 ∧ v3 = .int .i64 ((l1.length : Int) + (l2.length : Int)) ∧ v11 = .int .i64 2 ∧ w' = w))
  case atStart => exact .inl ⟨rfl, rfl, rfl, rfl⟩
  case round =>
    rcases hrel with ⟨rfl, rfl, rfl, rfl⟩ | ⟨rfl, rfl, rfl, rfl⟩ | ⟨rfl, rfl, rfl, rfl⟩
    · have y0 := X0.out
      have hn : ¬ ((l1.length : Int) < 0) := by omega
      go_wp2
      go_roundg 1
      case measure => omega
      case rel => exact .inr (.inl ⟨rfl, by first | rfl | (simp; done), rfl, rfl⟩)
    · have y1 := X1.out
      have hn : ¬ ((l1.length : Int) + (l2.length : Int) < 0) := by omega
      go_wp2
      go_roundg 0
      case measure => omega
      case rel => exact .inr (.inr ⟨rfl, by first | rfl | (simp; done), rfl, rfl⟩)
    · obtain ⟨WW, rfl⟩ : ∃ W : World, W = wr := ⟨_, rfl⟩
      go_wp2_with (go_at_call 54; refine (Grow_nil _ _ (by omega) (by omega)).mono ?_; rintro e w1 ⟨v, rfl, hR, hB⟩; have HR := Aside0.mk hR; have HB := Aside0.mk hB; clear hR hB)
      go_loopg [6, 27] 2 (fun kq v6 v27 w' => Aside0 (Below WW.heap.size WW w') ∧ ((kq = 2 ∧ v27 = .int .i64 0 ∧ Aside0 (Kd.R (Kd.int .u32) 36 w' WW.heap.size (fun _ => True) v6 [])) ∨ (kq = 1 ∧ v27 = .int .i64 1 ∧ Aside0 (Kd.R (Kd.int .u32) 36 w' WW.heap.size (fun _ => True) v6 l1)) ∨ (kq = 0 ∧ v27 = .int .i64 2 ∧ Aside0 (Kd.R (Kd.int .u32) 36 w' WW.heap.size (fun _ => True) v6 (l1 ++ l2)))))
      case atStart => exact ⟨HB, .inl ⟨rfl, rfl, HR⟩⟩
      case round =>
        obtain ⟨HBV, hrel⟩ := hrel
        rcases hrel with ⟨rfl, rfl, HV⟩ | ⟨rfl, rfl, HV⟩ | ⟨rfl, rfl, HV⟩
        · have y0 := (HBV.out.cell (World.block_lt_of_cell? _ _ X0.out)).trans X0.out
          go_wp2_with (first | ((with_reducible refine gate_builtin (b := .append) (xs := #[.tmp 31, .tmp 32]) rfl ?_); at_builtin; refine Kd.R_append_row (Value.int .u32) (0 : Int) (h1 := fun _ => rfl) (w0 := WW) WW.heap.size rfl (.tmp 31) (.tmp 32) 25 36 (.int .u32 0) 4 rfl hus infoU32 rfl (by decide) u6 [] l1 A1 l1.length c1 (fun _ => True) rfl rfl (fun _ _ => trivial) HV.out (Kd.C_below R1.out HBV.out) HBV.out HBV.out.size (by first | omega | (simp; omega)) ?_; intro v1 w2 hR hB hg hat; have HV2 := Aside0.mk hR; have HBV2 := Aside0.mk hB; clear hR hB hg hat))
          go_roundg 1
          case measure => omega
          case rel => exact ⟨HBV2, .inr (.inl ⟨rfl, rfl, HV2⟩)⟩
        · have y1 := (HBV.out.cell (World.block_lt_of_cell? _ _ X1.out)).trans X1.out
          go_wp2_with (first | ((with_reducible refine gate_builtin (b := .append) (xs := #[.tmp 31, .tmp 32]) rfl ?_); at_builtin; refine Kd.R_append_row (Value.int .u32) (0 : Int) (h1 := fun _ => rfl) (w0 := WW) WW.heap.size rfl (.tmp 31) (.tmp 32) 25 36 (.int .u32 0) 4 rfl hus infoU32 rfl (by decide) u6 l1 l2 A2 l2.length c2 (fun _ => True) rfl rfl (fun _ _ => trivial) HV.out (Kd.C_below R2.out HBV.out) HBV.out HBV.out.size (by first | omega | (simp; omega)) ?_; intro v1 w2 hR hB hg hat; have HV2 := Aside0.mk hR; have HBV2 := Aside0.mk hB; clear hR hB hg hat))
          go_roundg 0
          case measure => omega
          case rel => exact ⟨HBV2, .inr (.inr ⟨rfl, rfl, HV2⟩)⟩
        · go_wp2
          go_ret
          exact ⟨_, rfl, HV.out, HBV.out⟩
end Go.Proofs.Ytegaicoddnmemaa.X

namespace Go.Proofs.Ytegaicoddnmemaa.X
open Go.RowKit Go.Proofs.YtegaicoddnmemaaW.PrintWords Go.Proofs.YtegaicoddnmemaaW.PrintLast Go.Proofs.YtegaicoddnmemaaW.PrintMore
open Go.Proofs.Ytegaicoddnmemaa.P Go.Proofs.Ytegaicoddnmemaa.Evx
set_option linter.unusedSimpArgs false
set_option linter.unusedVariables false
mutual
theorem row_all (ls : List Int) (b : Nat) : ∀ s : S24, RowAt ls b s
  | ⟨op, m, kids⟩ => row_calls ls b ⟨op, m, kids⟩ (row_kids ls b kids)
theorem row_kids (ls : List Int) (b : Nat) : ∀ (l : List S24) (k : S24), k ∈ l → RowAt ls b k
  | [], k, hk => by simp at hk
  | a :: r, k, hk => by
    rcases List.mem_cons.1 hk with h | h
    · rw [h]
      exact row_all ls b a
    · exact row_kids ls b r k h
end
/-- May a word be? -/
def wordS (st lp : List Int) : Bool := decide (st.length ≤ 3000 ∧ 1 ≤ lp.length ∧ lp.length ≤ 27000)
theorem mayWord_some (st lp : List Int) : formula_MayWord.f st lp = some (wordS st lp) := by
  unfold formula_MayWord.f wordS
  split
  · split
    · congr 1
      rw [decide_eq_decide]
      omega
    · rw [decide_eq_false]
      omega
  · rw [decide_eq_false]
    omega
theorem brow_R {w w' : World} {g n : Nat} {l : List Bool} (h : BRow w' g l) (hl : l.length = n) (hg : w.heap.size ≤ g) (hn : n < 1000000000) : Kd.R Kd.bool 4 w' w.heap.size (fun _ => True) (.slice (some ⟨g, 0, none⟩) n n) l := by
  refine Kd.R_of_own ?_ (fun _ _ => trivial)
  rw [hl]
  refine ⟨by simp [encs, hl], .inr ⟨g, n, (boolsOf l).toArray, rfl, hg, h, Nat.le_refl _, by simp [maxLen]; omega, by simp [boolsOf, hl], ?_⟩⟩
  simp [boolsOf, encs, hl]
  rw [List.take_of_length_le (by simp [hl])]
theorem rower_new (w : World) (A : Option Addr) (n c b : Nat) : IsRower (w.alloc (.cells #[.slice A n c, .int .i64 (b : Int)] 73)) w.heap.size A n c b := heap_alloc_new _ _
def rowF (s : S24) (st lp : List Int) : List Bool := if mayF s = 0 ∧ wordS st lp = true then rowS (st ++ lp) st.length s else []
theorem may_sound {s : S24} (h : mayF s = 0) : soundS s = true := by
  unfold mayF at h
  split at h
  · split at h
    · assumption
    · simp at h
  · simp at h
set_option maxHeartbeats 8000000 in
set_option maxRecDepth 100000 in
theorem Row_calls (s : S24) (st lp : List Int) (A : Option Addr) (cp : Nat) (A1 A2 : Option Addr) (c1 c2 : Nat) (w : World) (hr : Kd.C k24 w A s.f2.length s.f2) (hc : s.f2.length ≤ cp) (hr1 : Kd.C (Kd.int .u32) w A1 st.length st) (hc1 : st.length ≤ c1) (hr2 : Kd.C (Kd.int .u32) w A2 lp.length lp) (hc2 : lp.length ≤ c2) :
    Calls Try.prog 24 #[.agg #[.int .i64 s.f0, .int .i64 s.f1, .slice A s.f2.length cp], .agg #[.slice A1 st.length c1, .slice A2 lp.length c2]] w fun e w' => ∃ v0_ : Value, e = .returned v0_ ∧ Kd.R Kd.bool 4 w' w.heap.size (fun _ => True) v0_ (rowF s st lp) ∧ Below w.heap.size w w' := by
  have huF := Try.underlying24
  have huL := Try.underlying22
  have huW := Try.underlying27
  have huR := Try.underlying73
  have hus := Try.underlying45
  have huu := Try.underlying25
  have huuu := Try.underlying84
  obtain ⟨W2, hW2⟩ : ∃ W2, W2 = (w.alloc (.cells #[.int .i64 s.f0, .int .i64 s.f1, .slice A s.f2.length cp] 24)).alloc (.cells #[.slice A1 st.length c1, .slice A2 lp.length c2] 27) := ⟨_, rfl⟩
  have hB2 : Below w.heap.size w W2 := by rw [hW2]; exact below_alloc (below_alloc (Below.refl _ _) _) _
  have hb1 : W2.heap[w.heap.size]? = some (.cells #[.int .i64 s.f0, .int .i64 s.f1, .slice A s.f2.length cp] 24 (0, 0)) := by rw [hW2]; exact blk_alloc (heap_alloc_new w _) _
  have hb2 : W2.heap[w.heap.size + 1]? = some (.cells #[.slice A1 st.length c1, .slice A2 lp.length c2] 27 (0, 0)) := by
    rw [hW2]
    have := heap_alloc_new (w.alloc (.cells #[.int .i64 s.f0, .int .i64 s.f1, .slice A s.f2.length cp] 24)) (.cells #[.slice A1 st.length c1, .slice A2 lp.length c2] 27)
    simpa using this
  have HMAY := Aside0.mk (May_calls s A cp W2 (Kd.C_below hr hB2) hc)
  have HW2 := Aside0.mk hW2
  have x0 : W2.cell? ⟨w.heap.size, 0, none⟩ = some (.int .i64 s.f0) := (blk_cell hb1 0).trans rfl
  have x1 : W2.cell? ⟨w.heap.size, 1, none⟩ = some (.int .i64 s.f1) := (blk_cell hb1 1).trans rfl
  have x2 : W2.cell? ⟨w.heap.size, 2, none⟩ = some (.slice A s.f2.length cp) := (blk_cell hb1 2).trans rfl
  have HB2 := Aside0.mk hB2
  have HBX1 := Aside0.mk hb1
  have HBX2 := Aside0.mk hb2
  have HRR := Aside0.mk hr
  have HRF := Aside0.mk (show rowF s st lp = if mayF s = 0 ∧ wordS st lp = true then rowS (st ++ lp) st.length s else [] from rfl)
  have HC1 := Aside0.mk (Kd.C_below hr1 hB2)
  have HC2 := Aside0.mk (Kd.C_below hr2 hB2)
  have HMS := Aside0.mk (@may_sound s)
  clear hb1 hb2 hr hr1 hr2
  generalize mayF s = mv at *
  by_cases hm : mv = 0
  · have em : (mv != 0) = false := by rw [hm]; rfl
    cases hw : wordS st lp with
    | false =>
      have HX := Aside0.mk (show rowF s st lp = [] from by rw [HRF.out, hw, if_neg (by simp)])
      have HWD := Aside0.mk ((mayWord_some st lp).trans (by rw [hw]))
      clear hw
      go_enter Try.func24, Try.ntmps24
      go_upto_region 1 with fail
      rw [← hW2]
      clear hW2 hB2
      go_wp2_with (first | (go_at_call 14; refine HMAY.out.mono ?_; rintro e w3 ⟨rfl, hB3⟩; have HB3 := Aside0.mk hB3; have HBX3 := Aside0.mk ((hB3.block _ (blk_lt HBX2.out)).trans HBX2.out); have y0 := (blk_cell HBX3.out 0).trans rfl; have y1 := (blk_cell HBX3.out 1).trans rfl; clear hB3) | (go_at_call 28; refine (formula_MayWord.calls A1 c1 st A2 c2 lp false _ (Kd.C_below HC1.out HB3.out) hc1 (Kd.C_below HC2.out HB3.out) hc2 HWD.out).mono ?_; rintro e w4 ⟨rfl, hB4⟩; have HB4 := Aside0.mk hB4; clear hB4))
      go_ret
      exact ⟨_, rfl, by rw [HX.out]; exact Kd.R_nil _ _ _ _ _, (HB2.out.trans (HB3.out.mono HB2.out.size)).trans (HB4.out.mono (Nat.le_trans HB2.out.size HB3.out.size))⟩
    | true =>
      have hwp : st.length ≤ 3000 ∧ 1 ≤ lp.length ∧ lp.length ≤ 27000 := of_decide_eq_true hw
      have HX := Aside0.mk (show rowF s st lp = rowS (st ++ lp) st.length s from by rw [HRF.out, hw, if_pos ⟨hm, rfl⟩])
      have HWD := Aside0.mk ((mayWord_some st lp).trans (by rw [hw]))
      have HSO := Aside0.mk (HMS.out hm)
      clear hw
      go_enter Try.func24, Try.ntmps24
      go_upto_region 1 with fail
      rw [← hW2]
      clear hW2 hB2
      go_upto_region 3 with (first | (go_at_call 14; refine HMAY.out.mono ?_; rintro e w3 ⟨rfl, hB3⟩; have HB3 := Aside0.mk hB3; have HBX3 := Aside0.mk ((hB3.block _ (blk_lt HBX2.out)).trans HBX2.out); have HBY3 := Aside0.mk ((hB3.block _ (blk_lt HBX1.out)).trans HBX1.out); have y0 := (blk_cell HBX3.out 0).trans rfl; have y1 := (blk_cell HBX3.out 1).trans rfl; clear hB3) | (go_at_call 28; refine (formula_MayWord.calls A1 c1 st A2 c2 lp true _ (Kd.C_below HC1.out HB3.out) hc1 (Kd.C_below HC2.out HB3.out) hc2 HWD.out).mono ?_; rintro e w4 ⟨rfl, hB4⟩; have HB4 := Aside0.mk hB4; have HBX4 := Aside0.mk ((hB4.block _ (blk_lt HBX3.out)).trans HBX3.out); have HBY4 := Aside0.mk ((hB4.block _ (blk_lt HBY3.out)).trans HBY3.out); have z0 := (blk_cell HBX4.out 0).trans rfl; have z1 := (blk_cell HBX4.out 1).trans rfl; clear hB4))
      have HCA := Aside0.mk (Kd.C_below HC1.out (HB3.out.trans (HB4.out.mono HB3.out.size)))
      have HCB := Aside0.mk (Kd.C_below HC2.out (HB3.out.trans (HB4.out.mono HB3.out.size)))
      have HCAT := Aside0.mk (Concat_calls w4.heap.size A1 A2 c1 c2 st lp (w4.drew.alloc (.cells #[.slice A1 st.length c1, .slice A2 lp.length c2] 25)) (heap_alloc_new w4.drew _) (Kd.C_alloc (Kd.C_drew HCA.out) _) (Kd.C_alloc (Kd.C_drew HCB.out) _) (by omega) (by omega))
      have hb4 : Below w4.heap.size w4 (w4.drew.alloc (.cells #[.slice A1 st.length c1, .slice A2 lp.length c2] 25)) := below_alloc (below_drew1 (Below.refl _ _)) _
      have HB44 := Aside0.mk hb4
      have z0a : w4.cell? ⟨w.heap.size + 1, 0, none⟩ = some (.slice A1 st.length c1) := (blk_cell HBX4.out 0).trans rfl
      have z1a : w4.cell? ⟨w.heap.size + 1, 1, none⟩ = some (.slice A2 lp.length c2) := (blk_cell HBX4.out 1).trans rfl
      have z0b : (w4.drew.alloc (.cells #[.slice A1 st.length c1, .slice A2 lp.length c2] 25)).cell? ⟨w.heap.size + 1, 0, none⟩ = some (.slice A1 st.length c1) := (HB44.out.cell (World.block_lt_of_cell? _ _ z0a)).trans z0a
      have z0c : (w4.alloc (.cells #[.slice A1 st.length c1, .slice A2 lp.length c2] 25)).cell? ⟨w.heap.size + 1, 0, none⟩ = some (.slice A1 st.length c1) := ((below_alloc (Below.refl _ _) _ : Below w4.heap.size w4 _).cell (World.block_lt_of_cell? _ _ z0a)).trans z0a
      clear hb4
      go_cut [5] from 14 to 24 (fun v5 wx => ∃ rb A5 c5, v5 = .pointer (some ⟨rb, 0, none⟩) ∧ Aside0 (IsRower wx rb A5 (st.length + lp.length) c5 st.length) ∧ Aside0 (Kd.C (Kd.int .u32) wx A5 (st.length + lp.length) (st ++ lp)) ∧ Aside0 (Below w4.heap.size w4 wx))
      case first =>
        go_region_with (go_at_call 41; refine HCAT.out.mono ?_; rintro e w5 ⟨v5, rfl, hR5, hB5⟩; obtain ⟨A5, c5, e5⟩ := Kd.R_slice hR5; subst e5; have HR5 := Aside0.mk hR5; have HB5 := Aside0.mk (HB44.out.trans (hB5.mono HB44.out.size)); have HBX5 := Aside0.mk ((HB5.out.block _ (blk_lt HBX4.out)).trans HBX4.out); have q0 : w5.cell? ⟨w.heap.size + 1, 0, none⟩ = some (.slice A1 st.length c1) := (blk_cell HBX5.out 0).trans rfl; clear hR5 hB5)
        all_goals (
          go_wp2_with fail
          go_meet
          exact ⟨_, A5, c5, rfl, ⟨rower_new w5 A5 (st.length + lp.length) c5 st.length⟩, ⟨Kd.C_alloc (by have := (Kd.R_reads' HR5.out).2.2; rwa [List.length_append] at this) _⟩, ⟨HB5.out.trans (below_alloc (Below.refl _ _) _ |>.mono HB5.out.size)⟩⟩)
      case rest =>
        obtain ⟨rb, A5, c5, rfl, HIR, HCC, HB5⟩ := hcut
        have HB5w : Below w.heap.size w wc := HB2.out.trans ((HB3.out.trans ((HB4.out.trans (HB5.out.mono HB4.out.size)).mono HB3.out.size)).mono HB2.out.size)
        have HBY5 := Aside0.mk ((HB5.out.block _ (blk_lt HBY4.out)).trans HBY4.out)
        have t0 : wc.cell? ⟨w.heap.size, 0, none⟩ = some (.int .i64 s.f0) := (blk_cell HBY5.out 0).trans rfl
        have t1 : wc.cell? ⟨w.heap.size, 1, none⟩ = some (.int .i64 s.f1) := (blk_cell HBY5.out 1).trans rfl
        have t2 : wc.cell? ⟨w.heap.size, 2, none⟩ = some (.slice A s.f2.length cp) := (blk_cell HBY5.out 2).trans rfl
        have HROW := Aside0.mk (row_all (st ++ lp) st.length s rb A5 c5 (st.length + lp.length) A cp wc (by simp) HIR.out HCC.out (by omega) (by omega) (by omega) (Kd.C_below HRR.out HB5w) hc HSO.out)
        have HBW := Aside0.mk HB5w
        clear HB5w
        go_wp2_with (go_at_call 42; refine HROW.out.mono ?_; rintro e w6 ⟨g, rfl, hg, hG, hB6⟩; have HG6 := Aside0.mk hG; have HGS := Aside0.mk hg; have HB6 := Aside0.mk hB6; clear hG hg hB6)
        go_ret
        exact ⟨_, rfl, by rw [HX.out]; exact brow_R HG6.out ((len_row _ _ _).trans (by first | rfl | simp)) (Nat.le_trans HBW.out.size HGS.out) (by first | omega | (simp; omega)), HBW.out.trans (HB6.out.mono HBW.out.size)⟩
  · have em : (mv != 0) = true := by simpa using hm
    have HX := Aside0.mk (show rowF s st lp = [] from by rw [HRF.out, if_neg (fun h => hm h.1)])
    go_enter Try.func24, Try.ntmps24
    go_upto_region 1 with fail
    rw [← hW2]
    clear hW2 hB2
    go_wp2_with (go_at_call 14; refine HMAY.out.mono ?_; rintro e w3 ⟨rfl, hB3⟩; have HB3 := Aside0.mk hB3; clear hB3)
    go_ret
    exact ⟨_, rfl, by rw [HX.out]; exact Kd.R_nil _ _ _ _ _, HB2.out.trans (HB3.out.mono HB2.out.size)⟩
end Go.Proofs.Ytegaicoddnmemaa.X

namespace Go.Proofs.Ytegaicoddnmemaa.X
open Go.RowKit Go.Proofs.YtegaicoddnmemaaW.PrintWords Go.Proofs.YtegaicoddnmemaaW.PrintMore
open Go.Proofs.Ytegaicoddnmemaa.P Go.Proofs.Ytegaicoddnmemaa.Evx
set_option linter.unusedVariables false
set_option linter.unusedSimpArgs false
/-- A state with bit k. -/
def orBit (x : Int) (k : Nat) : Int := Go.bits .or .i64 x (wrap64 (2 ^ k))
/-- What a timed node's row speaks of. -/
def headT (t : S24) : S24 := if t.f0 = 6 then t.f2.getD 0 z24 else t
def runAt (row : List Bool) (n b k : Nat) (out : List Int) (i : Nat) : Int := if row.getD (nextS n b i) false = true then orBit (out.getD i 0) k else out.getD i 0
/-- One timed node's bits. -/
def runRow (row : List Bool) (n b k : Nat) (out : List Int) : List Int := (List.range n).map (runAt row n b k out)
def runL (st lp : List Int) : List S24 → Nat → List Int → List Int
  | [], _, out => out
  | t :: r, k, out => runL st lp r (k + 1) (runRow (rowF (headT t) st lp) (st.length + lp.length) st.length k out)
def runS (s : S24) (st lp : List Int) : List Int := if mayF s = 0 ∧ wordS st lp = true then runL st lp (timesS s) 0 (List.replicate (st.length + lp.length) 0) else []
def runOk (s : S24) (st lp : List Int) : Bool := decide (mayF s = 0) && wordS st lp
theorem len_runRow (row : List Bool) (n b k : Nat) (out : List Int) : (runRow row n b k out).length = n := by simp [runRow]
/-- Smaller. -/
structure SubF (t s : S24) : Prop where
  pn : nS t ≤ nS s
  ph : hS t ≤ hS s
  pt : tnS t ≤ tnS s
  ps : soundS s = true → soundS t = true
theorem SubF.refl (s : S24) : SubF s s := ⟨Nat.le_refl _, Nat.le_refl _, Nat.le_refl _, id⟩
theorem SubF.trans {a b c : S24} (h : SubF a b) (k : SubF b c) : SubF a c := ⟨Nat.le_trans h.pn k.pn, Nat.le_trans h.ph k.ph, Nat.le_trans h.pt k.pt, fun x => h.ps (k.ps x)⟩
theorem SubF.may {t s : S24} (h : SubF t s) (hm : mayF s = 0) : mayF t = 0 := by
  obtain ⟨h1, h2, h3, h4⟩ := may_zero hm
  rw [may_eq, if_pos (show nS t ≤ 60 ∧ hS t ≤ 12 ∧ tnS t ≤ 8 from ⟨Nat.le_trans h.pn h1, Nat.le_trans h.ph h2, Nat.le_trans h.pt h3⟩), if_pos (h.ps h4)]
theorem nL_mem : ∀ {l : List S24} {k : S24}, k ∈ l → nS k ≤ nL l ∧ hS k ≤ hL l ∧ tnS k ≤ tnL l
  | a :: r, k, h => by
    simp only [nL, hL, tnL]
    rcases List.mem_cons.1 h with e | e
    · subst e; omega
    · have := nL_mem e; omega
theorem SubF.kid {s k : S24} (h : k ∈ s.f2) : SubF k s := by
  obtain ⟨op, m, kids⟩ := s
  have := nL_mem (show k ∈ kids from h)
  refine ⟨?_, ?_, ?_, fun hs => sound_in (sound_kids_all hs) k h⟩
  · simp only [nS]; exact Nat.le_trans this.1 (by omega)
  · simp only [hS]; exact Nat.le_trans this.2.1 (by omega)
  · simp only [tnS]; exact Nat.le_trans this.2.2 (by omega)
mutual
theorem times_sub : ∀ (s t : S24), t ∈ timesS s → SubF t s
  | ⟨op, m, kids⟩, t, h => by
    simp only [timesS, List.mem_append] at h
    rcases h with h | h
    · split at h
      · rw [List.mem_singleton.1 h]; exact SubF.refl _
      · cases h
    · obtain ⟨k, hk, hs⟩ := times_subL kids t h
      exact hs.trans (SubF.kid hk)
theorem times_subL : ∀ (l : List S24) (t : S24), t ∈ timesL l → ∃ k ∈ l, SubF t k
  | [], t, h => by simp [timesL] at h
  | a :: r, t, h => by
    simp only [timesL, List.mem_append] at h
    rcases h with h | h
    · exact ⟨a, by simp, times_sub a t h⟩
    · obtain ⟨k, hk, hs⟩ := times_subL r t h
      exact ⟨k, by simp [hk], hs⟩
end
theorem head_may {t : S24} (h : mayF t = 0) : mayF (headT t) = 0 := by
  unfold headT
  split
  · rename_i h6
    have hs := (may_zero h).2.2.2
    have hp := sound_parts hs
    have h1 : kidsS 6 = 1 := by decide
    rw [h6, h1] at hp
    have hl : 0 < t.f2.length := by omega
    have : t.f2.getD 0 z24 = t.f2[0]'hl := by rw [List.getD_eq_getElem?_getD, List.getElem?_eq_getElem hl]; rfl
    rw [this]
    exact (SubF.kid (List.getElem_mem hl)).may h
  · exact h
theorem next6 {t : S24} (h : mayF t = 0) (h6 : t.f0 = 6) : 0 < t.f2.length := by
  have hp := sound_parts (may_zero h).2.2.2
  have h1 : kidsS 6 = 1 := by decide
  rw [h6, h1] at hp
  omega
theorem len_rowF {t : S24} {st lp : List Int} (h : mayF t = 0) (hw : wordS st lp = true) : (rowF t st lp).length = st.length + lp.length := by
  unfold rowF
  rw [if_pos ⟨h, hw⟩, len_row, List.length_append]
end Go.Proofs.Ytegaicoddnmemaa.X

namespace Go.Proofs.Ytegaicoddnmemaa.X
open Go.RowKit Go.Proofs.YtegaicoddnmemaaW.PrintWords Go.Proofs.YtegaicoddnmemaaW.PrintLast Go.Proofs.YtegaicoddnmemaaW.PrintMore
open Go.Proofs.Ytegaicoddnmemaa.P Go.Proofs.Ytegaicoddnmemaa.Evx
set_option linter.unusedSimpArgs false
set_option linter.unusedVariables false
def intsOf (l : List Int) : List Value := l.map (Value.int .i64)
theorem ints_get {l : List Int} {i : Nat} (h : i < l.length) : (intsOf l).toArray[i]? = some (.int .i64 (l.getD i 0)) := by simp [intsOf, h]
theorem ints_set (l : List Int) (i : Nat) (x : Int) : (intsOf l).toArray.setIfInBounds i (.int .i64 x) = (intsOf (l.set i x)).toArray := by simp [intsOf, List.map_set]
def IRow (w : World) (g : Nat) (l : List Int) : Prop := w.heap[g]? = some (.cells (intsOf l).toArray 3 (0, 0))
theorem irow_cell {w : World} {g : Nat} {l : List Int} (h : IRow w g l) {i : Nat} (hi : i < l.length) : w.cell? ⟨g, i, none⟩ = some (.int .i64 (l.getD i 0)) := by rw [blk_cell h, ints_get hi]
theorem irow_set {w : World} {g : Nat} {l : List Int} (h : IRow w g l) (i : Nat) (x : Int) : IRow (w.setCell ⟨g, i, none⟩ (.int .i64 x)) g (l.set i x) := (blk_set h i _).trans (by rw [ints_set])
theorem irow_R {w w' : World} {g n : Nat} {l : List Int} (h : IRow w' g l) (hl : l.length = n) (hg : w.heap.size ≤ g) (hn : n < 1000000000) : Kd.R (Kd.int .i64) 3 w' w.heap.size (fun _ => True) (.slice (some ⟨g, 0, none⟩) n n) l := by
  refine Kd.R_of_own ?_ (fun _ _ => trivial)
  rw [hl]
  refine ⟨by simp [encs, hl], .inr ⟨g, n, (intsOf l).toArray, rfl, hg, h, Nat.le_refl _, by simp [maxLen]; omega, by simp [intsOf, hl], ?_⟩⟩
  simp [intsOf, encs]
  rw [List.take_of_length_le (by simp [hl])]
theorem infoInt : (Try.prog.info? 3).map (fun i => (i.zero, i.size, i.bytes)) = some (some (.int .i64 0), 1, 8) := by kernel_rfl
theorem make_ints (n : Nat) (h : n < 1000000000) (W : World) : (Instr.makeSlice 31 (.int .i64 (n : Int)) (.int .i64 (n : Int))).run Try.prog W = .ok (.slice (some ⟨W.heap.size, 0, none⟩) n n) (W.alloc (.cells (intsOf (List.replicate n 0)).toArray 3)) := by
  have := print_make_of (P := Try.prog) 31 3 (.int .i64 0) 8 Try.underlying31 infoInt rfl (by decide) n (by omega) W
  rw [this]
  congr 3
  apply Array.ext
  · simp [madeCells, intsOf]
  · intro i h1 h2
    simp [madeCells, intsOf, Nat.mod_one]
/-- A row half done. -/
def half (row : List Bool) (n b k : Nat) (out : List Int) (i : Nat) : List Int := (runRow row n b k out).take i ++ out.drop i
theorem half_get {row : List Bool} {n b k : Nat} {out : List Int} {i : Nat} (hl : out.length = n) (hi : i < n) : (half row n b k out i).getD i 0 = out.getD i 0 := by
  unfold half
  rw [List.getD_eq_getElem?_getD, List.getElem?_append_right (by simp [len_runRow]; omega), List.length_take, len_runRow, Nat.min_eq_left (by omega), Nat.sub_self, List.getElem?_drop, Nat.add_zero, ← List.getD_eq_getElem?_getD]
theorem half_step {row : List Bool} {n b k : Nat} {out : List Int} {i : Nat} (hl : out.length = n) (hi : i < n) : (half row n b k out i).set i (runAt row n b k out i) = half row n b k out (i + 1) := by
  unfold half
  have h1 : ((runRow row n b k out).take i).length = i := by rw [List.length_take, len_runRow]; omega
  rw [List.set_append_right _ _ (by omega), h1, Nat.sub_self, List.drop_eq_getElem_cons (show i < out.length by omega), List.set_cons_zero, List.take_succ_eq_append_getElem (by rw [len_runRow]; exact hi), List.append_assoc]
  simp [runRow]
theorem half_same {row : List Bool} {n b k : Nat} {out : List Int} {i : Nat} (hl : out.length = n) (hi : i < n) (h : row.getD (nextS n b i) false = false) : half row n b k out i = half row n b k out (i + 1) := by
  rw [← half_step hl hi]
  have h2 := half_get (row := row) (b := b) (k := k) hl hi
  have h3 : runAt row n b k out i = (half row n b k out i).getD i 0 := by unfold runAt; rw [h, h2]; rfl
  rw [h3]
  have h4 : i < (half row n b k out i).length := by unfold half; simp [len_runRow]; omega
  rw [List.getD_eq_getElem?_getD, List.getElem?_eq_getElem h4]
  simp
theorem half_len {row : List Bool} {n b k : Nat} {out : List Int} {i : Nat} (hl : out.length = n) (hi : i ≤ n) : (half row n b k out i).length = n := by unfold half; simp [len_runRow]; omega
set_option maxHeartbeats 8000000 in
set_option maxRecDepth 100000 in
theorem Run_calls (s : S24) (st lp : List Int) (A : Option Addr) (cp : Nat) (A1 A2 : Option Addr) (c1 c2 : Nat) (w : World) (hr : Kd.C k24 w A s.f2.length s.f2) (hc : s.f2.length ≤ cp) (hr1 : Kd.C (Kd.int .u32) w A1 st.length st) (hc1 : st.length ≤ c1) (hr2 : Kd.C (Kd.int .u32) w A2 lp.length lp) (hc2 : lp.length ≤ c2) :
    Calls Try.prog 11 #[.agg #[.int .i64 s.f0, .int .i64 s.f1, .slice A s.f2.length cp], .agg #[.slice A1 st.length c1, .slice A2 lp.length c2]] w fun e w' => ∃ v0_ : Value, e = .returned (.tuple #[v0_, .bool (runOk s st lp)]) ∧ Kd.R (Kd.int .i64) 3 w' w.heap.size (fun _ => True) v0_ (runS s st lp) ∧ Below w.heap.size w w' := by
  have huF := Try.underlying24
  have huL := Try.underlying22
  have huW := Try.underlying27
  have hus := Try.underlying45
  have hui := Try.underlying31
  have huu := Try.underlying25
  obtain ⟨W2, hW2⟩ : ∃ W2, W2 = (w.alloc (.cells #[.int .i64 s.f0, .int .i64 s.f1, .slice A s.f2.length cp] 24)).alloc (.cells #[.slice A1 st.length c1, .slice A2 lp.length c2] 27) := ⟨_, rfl⟩
  have hB2 : Below w.heap.size w W2 := by rw [hW2]; exact below_alloc (below_alloc (Below.refl _ _) _) _
  have hb1 : W2.heap[w.heap.size]? = some (.cells #[.int .i64 s.f0, .int .i64 s.f1, .slice A s.f2.length cp] 24 (0, 0)) := by rw [hW2]; exact blk_alloc (heap_alloc_new w _) _
  have hb2 : W2.heap[w.heap.size + 1]? = some (.cells #[.slice A1 st.length c1, .slice A2 lp.length c2] 27 (0, 0)) := by
    rw [hW2]
    have := heap_alloc_new (w.alloc (.cells #[.int .i64 s.f0, .int .i64 s.f1, .slice A s.f2.length cp] 24)) (.cells #[.slice A1 st.length c1, .slice A2 lp.length c2] 27)
    simpa using this
  have hsz2 : w.heap.size + 2 ≤ W2.heap.size := by rw [hW2]; simp
  have HMAY := Aside0.mk (May_calls s A cp W2 (Kd.C_below hr hB2) hc)
  have x0 : W2.cell? ⟨w.heap.size, 0, none⟩ = some (.int .i64 s.f0) := (blk_cell hb1 0).trans rfl
  have x1 : W2.cell? ⟨w.heap.size, 1, none⟩ = some (.int .i64 s.f1) := (blk_cell hb1 1).trans rfl
  have x2 : W2.cell? ⟨w.heap.size, 2, none⟩ = some (.slice A s.f2.length cp) := (blk_cell hb1 2).trans rfl
  have HB2 := Aside0.mk hB2
  have HBX1 := Aside0.mk hb1
  have HBX2 := Aside0.mk hb2
  have HCF := Aside0.mk (Kd.C_below hr hB2)
  have HC1 := Aside0.mk (Kd.C_below hr1 hB2)
  have HC2 := Aside0.mk (Kd.C_below hr2 hB2)
  have HRF := Aside0.mk (show runS s st lp = if mayF s = 0 ∧ wordS st lp = true then runL st lp (timesS s) 0 (List.replicate (st.length + lp.length) 0) else [] from rfl)
  have HRO := Aside0.mk (show runOk s st lp = (decide (mayF s = 0) && wordS st lp) from rfl)
  have HM := Aside0.mk (@may_zero s)
  have HSUB := Aside0.mk (fun (hm : mayF s = 0) (t : S24) (ht : t ∈ timesS s) => (times_sub s t ht).may hm)
  have HTS := Aside0.mk (show TimesS s = if mayF s = 0 then timesS s else [] from rfl)
  obtain ⟨kt, hkt⟩ := (Times_ev s).rounds
  have HKT := Aside0.mk hkt
  clear hb1 hb2 hr hr1 hr2 hB2 hkt
  generalize mayF s = mv at *
  generalize hR : runS s st lp = R at *
  generalize runOk s st lp = Ok at *
  clear hR
  by_cases hm : mv = 0
  · have em : (mv != 0) = false := by rw [hm]; rfl
    cases hw : wordS st lp with
    | false =>
      have HX := Aside0.mk (show R = [] from by rw [HRF.out, hw, if_neg (by simp)])
      have HXO := Aside0.mk (show Ok = false from by rw [HRO.out, hw, Bool.and_false])
      have HWD := Aside0.mk ((mayWord_some st lp).trans (by rw [hw]))
      clear hw
      go_enter Try.func11, Try.ntmps11
      go_upto_region 1 with fail
      rw [← hW2]
      clear hW2
      go_wp2_with (first | (go_at_call 14; refine HMAY.out.mono ?_; rintro e w3 ⟨rfl, hB3⟩; have HB3 := Aside0.mk hB3; have HBX3 := Aside0.mk ((hB3.block _ (blk_lt HBX2.out)).trans HBX2.out); have y0 := (blk_cell HBX3.out 0).trans rfl; have y1 := (blk_cell HBX3.out 1).trans rfl; clear hB3) | (go_at_call 28; refine (formula_MayWord.calls A1 c1 st A2 c2 lp false _ (Kd.C_below HC1.out HB3.out) hc1 (Kd.C_below HC2.out HB3.out) hc2 HWD.out).mono ?_; rintro e w4 ⟨rfl, hB4⟩; have HB4 := Aside0.mk hB4; clear hB4))
      go_ret2
      exact ⟨_, by rw [HXO.out]; rfl, by rw [HX.out]; exact Kd.R_nil _ _ _ _ _, (HB2.out.trans (HB3.out.mono HB2.out.size)).trans (HB4.out.mono (Nat.le_trans HB2.out.size HB3.out.size))⟩
    | true =>
      have hwp : st.length ≤ 3000 ∧ 1 ≤ lp.length ∧ lp.length ≤ 27000 := of_decide_eq_true hw
      have HWT := Aside0.mk hw
      have HX := Aside0.mk (show R = runL st lp (timesS s) 0 (List.replicate (st.length + lp.length) 0) from by rw [HRF.out, hw, if_pos ⟨hm, rfl⟩])
      have HXO := Aside0.mk (show Ok = true from by rw [HRO.out, hw, decide_eq_true hm]; rfl)
      have HWD := Aside0.mk ((mayWord_some st lp).trans (by rw [hw]))
      have HSO := Aside0.mk (HM.out hm)
      have HSB := Aside0.mk (HSUB.out hm)
      have hT : TimesS s = timesS s := by rw [HTS.out, if_pos hm]
      rw [hT] at HKT
      have hTl : (timesS s).length ≤ 8 := by rw [len_times]; exact HSO.out.2.2.1
      have HTL := Aside0.mk hTl
      generalize timesS s = T at *
      obtain ⟨n, hn⟩ : ∃ n, n = st.length + lp.length := ⟨_, rfl⟩
      have HN := Aside0.mk hn
      have hmk := make_ints n (by omega)
      have hnb : n ≤ 30000 := by omega
      have hn0 : 0 < n := by omega
      have hns : st.length < n := by omega
      clear hw hT hTl hn
      go_enter Try.func11, Try.ntmps11
      go_upto_region 1 with fail
      rw [← hW2]
      clear hW2
      go_upto_region 3 with (first | (go_at_call 14; refine HMAY.out.mono ?_; rintro e w3 ⟨rfl, hB3⟩; have HB3 := Aside0.mk hB3; have HBX3 := Aside0.mk ((hB3.block _ (blk_lt HBX2.out)).trans HBX2.out); have HBY3 := Aside0.mk ((hB3.block _ (blk_lt HBX1.out)).trans HBX1.out); have y0 := (blk_cell HBX3.out 0).trans rfl; have y1 := (blk_cell HBX3.out 1).trans rfl; clear hB3) | (go_at_call 28; refine (formula_MayWord.calls A1 c1 st A2 c2 lp true _ (Kd.C_below HC1.out HB3.out) hc1 (Kd.C_below HC2.out HB3.out) hc2 HWD.out).mono ?_; rintro e w4 ⟨rfl, hB4⟩; have HB4 := Aside0.mk (HB3.out.trans (hB4.mono HB3.out.size)); have HBX4 := Aside0.mk ((hB4.block _ (blk_lt HBX3.out)).trans HBX3.out); have HBY4 := Aside0.mk ((hB4.block _ (blk_lt HBY3.out)).trans HBY3.out); clear hB4))
      have z0 : w4.cell? ⟨w.heap.size + 1, 0, none⟩ = some (.slice A1 st.length c1) := (blk_cell HBX4.out 0).trans rfl
      have z1 : w4.cell? ⟨w.heap.size + 1, 1, none⟩ = some (.slice A2 lp.length c2) := (blk_cell HBX4.out 1).trans rfl
      go_cut [6] (fun v6 wx => v6 = .int .i64 (n : Int) ∧ wx = w4)
      case first =>
        go_wp2
        go_meet
        exact ⟨by rw [HN.out]; rfl, rfl⟩
      case rest =>
        obtain ⟨rfl, hwc⟩ := hcut
        rw [hwc]
        clear hwc wc z0 z1
        go_upto_region 6 with fail
        obtain ⟨g, hg⟩ : ∃ g, g = w4.heap.size := ⟨_, rfl⟩
        obtain ⟨W5, hW5⟩ : ∃ W5, W5 = w4.alloc (.cells (intsOf (List.replicate n 0)).toArray 3) := ⟨_, rfl⟩
        have hB5 : Below w4.heap.size w4 W5 := by rw [hW5]; exact below_alloc (Below.refl _ _) _
        have hG5 : IRow W5 g (List.replicate n 0) := by rw [hW5, hg]; exact heap_alloc_new w4 _
        have hg2 : W2.heap.size ≤ g := by rw [hg]; exact HB4.out.size
        have hz5 : W5.heap.size = g + 1 := by rw [hW5, hg]; simp
        rw [← hW5, ← hg]
        have HB5 := Aside0.mk (HB4.out.trans (hB5.mono HB4.out.size))
        have HBX5 := Aside0.mk ((hB5.block _ (blk_lt HBX4.out)).trans HBX4.out)
        have HBY5 := Aside0.mk ((hB5.block _ (blk_lt HBY4.out)).trans HBY4.out)
        have HG5 := Aside0.mk hG5
        have HG2 := Aside0.mk hg2
        have HZ5 := Aside0.mk hz5
        have z0 : W5.cell? ⟨w.heap.size, 0, none⟩ = some (.int .i64 s.f0) := (blk_cell HBY5.out 0).trans rfl
        have z1 : W5.cell? ⟨w.heap.size, 1, none⟩ = some (.int .i64 s.f1) := (blk_cell HBY5.out 1).trans rfl
        have z2 : W5.cell? ⟨w.heap.size, 2, none⟩ = some (.slice A s.f2.length cp) := (blk_cell HBY5.out 2).trans rfl
        clear hW5 hg hB5 hG5 hg2 hz5 hmk
        go_wp2_with (go_at_call 25; refine (formula_Times.calls kt s.f0 s.f1 A cp s.f2 T _ (Kd.C_below HCF.out HB5.out) hc HKT.out).mono ?_; rintro e w6 ⟨v6, rfl, hN6, hB6⟩; obtain ⟨A6, c6, e6⟩ := Kd.N_slice hN6; subst e6; have HN6 := Aside0.mk (Kd.C_kept_ownV (base := 0) (S := fun k => k = g) (Kd.N_V hN6) (fun k hk e => by have := HZ5.out; omega)); have HB6 := Aside0.mk (HB5.out.trans (hB6.mono HB5.out.size)); have HG6 := Aside0.mk (show IRow w6 g (List.replicate n 0) from (hB6.block _ (blk_lt HG5.out)).trans HG5.out); have HBX6 := Aside0.mk ((hB6.block _ (blk_lt HBX5.out)).trans HBX5.out); clear hN6 hB6)
        go_loopg [34] T.length (fun kq v34 w' => ∃ (k : Nat) (out : List Int), k + kq = T.length ∧ v34 = .int .i64 k ∧ out.length = n ∧ Aside0 (runL st lp (T.drop k) k out = R) ∧ Aside0 (IRow w' g out) ∧ Aside0 (Below W2.heap.size W2 w') ∧ Aside0 (Kept w6 w' (fun k => k = g)))
        case atStart => exact ⟨0, List.replicate n 0, by omega, rfl, by simp, ⟨by rw [HX.out, HN.out]; rfl⟩, HG6, HB6, ⟨Kept.refl _ _⟩⟩
        case round =>
          obtain ⟨k, out, hk, rfl, hol, HRL, HGo, HBo, HKo⟩ := hrel
          have HK := Aside0.mk hk
          clear hk
          by_cases hlt : k < T.length
          · obtain ⟨ad, A3, c3, e0, hx0, hx1, hx2, hl3, hk3⟩ := kid_at (HN6.out wr HKo.out) (Below.refl _ _) k hlt hlt
            cases e0
            have HK3 := Aside0.mk hk3
            have HL3 := Aside0.mk hl3
            have HTM := Aside0.mk (HSB.out _ (List.getElem_mem hlt))
            have HRS := Aside0.mk (show runL st lp (T.drop (k + 1)) (k + 1) (runRow (rowF (headT (T[k]'hlt)) st lp) n st.length k out) = R from by rw [← HRL.out, List.drop_eq_getElem_cons hlt, runL, HN.out])
            generalize T[k]'hlt = t at *
            clear hk3 hl3
            have hk8 : k < 8 := by have := HTL.out; omega
            go_upto_if 41 with fail
            go_cut [] (fun wx => ∃ A4 c4, Aside0 (wx.heap[wr.heap.size]? = some (.cells #[.int .i64 (headT t).f0, .int .i64 (headT t).f1, .slice A4 (headT t).f2.length c4] 24 (0, 0))) ∧ Aside0 (Kd.C k24 wx A4 (headT t).f2.length (headT t).f2) ∧ Aside0 ((headT t).f2.length ≤ c4) ∧ Aside0 (Below wr.heap.size wr wx))
            case first =>
              by_cases h6 : t.f0 = 6
              · have h6b : (t.f0 == 6) = true := beq_iff_eq.2 h6
                have hl0 := next6 HTM.out h6
                obtain ⟨ad2, A5, c5, e0, hy0, hy1, hy2, hl5, hk5⟩ := kid_at HK3.out (Below.refl _ _) 0 hl0 hl0
                subst e0
                have e0 : ad2.add (0 * 3) = ad2 := by cases ad2; simp [Addr.add]
                rw [e0] at hy0 hy1 hy2
                have hn0 := World.new_ne wr _ hy0
                have hlt2 := World.block_lt_of_cell? _ _ hy0
                have hh : headT t = t.f2[0]'hl0 := by unfold headT; rw [if_pos h6, List.getD_eq_getElem?_getD, List.getElem?_eq_getElem hl0]; rfl
                have HH := Aside0.mk hh
                have HK5 := Aside0.mk hk5
                have HL5 := Aside0.mk hl5
                clear hk5 hl5 hh h6
                go_wp2
                go_meet
                exact ⟨A5, c5, ⟨by rw [HH.out]; exact heap_alloc_new wr _⟩, ⟨by rw [HH.out]; exact Kd.C_alloc HK5.out _⟩, ⟨by rw [HH.out]; exact HL5.out⟩, ⟨below_alloc (Below.refl _ _) _⟩⟩
              · have h6b : (t.f0 == 6) = false := beq_eq_false_iff_ne.2 h6
                have hh : headT t = t := by unfold headT; rw [if_neg h6]
                have HH := Aside0.mk hh
                clear hh
                go_wp2
                go_meet
                exact ⟨A3, c3, ⟨by rw [HH.out]; exact heap_alloc_new wr _⟩, ⟨by rw [HH.out]; exact Kd.C_alloc HK3.out _⟩, ⟨by rw [HH.out]; exact HL3.out⟩, ⟨below_alloc (Below.refl _ _) _⟩⟩
            case rest =>
              obtain ⟨A4, c4, HBX, HC4, HL4, HBW⟩ := hcut
              have hHM := head_may HTM.out
              generalize headT t = h at *
              have y0 : wc.cell? ⟨wr.heap.size, 0, none⟩ = some (.int .i64 h.f0) := (blk_cell HBX.out 0).trans rfl
              have y1 : wc.cell? ⟨wr.heap.size, 1, none⟩ = some (.int .i64 h.f1) := (blk_cell HBX.out 1).trans rfl
              have y2 : wc.cell? ⟨wr.heap.size, 2, none⟩ = some (.slice A4 h.f2.length c4) := (blk_cell HBX.out 2).trans rfl
              have HBc := Aside0.mk (HBo.out.trans (HBW.out.mono HBo.out.size))
              have HBXl := Aside0.mk ((HBc.out.block _ (blk_lt HBX2.out)).trans HBX2.out)
              have z0 : wc.cell? ⟨w.heap.size + 1, 0, none⟩ = some (.slice A1 st.length c1) := (blk_cell HBXl.out 0).trans rfl
              have z1 : wc.cell? ⟨w.heap.size + 1, 1, none⟩ = some (.slice A2 lp.length c2) := (blk_cell HBXl.out 1).trans rfl
              have HROW := Aside0.mk (Row_calls h st lp A4 c4 A1 A2 c1 c2 wc HC4.out HL4.out (Kd.C_below HC1.out HBc.out) hc1 (Kd.C_below HC2.out HBc.out) hc2)
              have hrl := len_rowF hHM HWT.out
              rw [← HN.out] at hrl
              have HRLN := Aside0.mk hrl
              generalize rowF h st lp = row at *
              have HGc := Aside0.mk (show IRow wc g out from (HBW.out.block _ (blk_lt HGo.out)).trans HGo.out)
              have HKc := Aside0.mk (HKo.out.below HBW.out)
              clear hHM hrl
              go_wp2_with (go_at_call 24; refine HROW.out.mono ?_; rintro e w8 ⟨v8, rfl, hR8, hB8⟩; obtain ⟨A8, c8, e8⟩ := Kd.R_slice hR8; subst e8; have HR8 := Aside0.mk (Kd.C_kept_own (S := fun k => k = g) (Kd.R_mono (Kd.R_bound hR8) (ok' := fun k => wc.heap.size ≤ k) (fun k hk => hk.2.1)) (fun k hk e => by have := blk_lt HGc.out; omega)); have HB8 := Aside0.mk (HBc.out.trans (hB8.mono HBc.out.size)); have HG8 := Aside0.mk (show IRow w8 g out from (hB8.block _ (blk_lt HGc.out)).trans HGc.out); have HK8 := Aside0.mk (HKc.out.below hB8); clear hR8 hB8; rw [HRLN.out])
              have hst2 : st.length ≤ 9223372036854775807 := by omega
              go_loopg [52] n (fun kq v52 w' => ∃ (i : Nat), i + kq = n ∧ v52 = .int .i64 i ∧ Aside0 (IRow w' g (half row n st.length k out i)) ∧ Aside0 (Below W2.heap.size W2 w') ∧ Aside0 (Kept w8 w' (fun k => k = g)))
              case atStart => exact ⟨0, by omega, rfl, ⟨by simpa [half] using HG8.out⟩, HB8, ⟨Kept.refl _ _⟩⟩
              case round =>
                obtain ⟨i, hi, rfl, HGi, HBi, HKi⟩ := hrel
                have HI := Aside0.mk hi
                clear hi
                by_cases hin : i < n
                · have hq : nextS n st.length i < n := nextS_lt hns
                  have hre := Kd.reads_of_C (d := false) (HR8.out wr HKi.out)
                  obtain ⟨ad8, e8, hcell⟩ := hre.2.2 (by rw [HRLN.out]; omega)
                  subst e8
                  have hx := hcell (nextS n st.length i) (by rw [HRLN.out]; exact hq)
                  have hbl := Aside0.mk ((HBi.out.block _ (blk_lt HBX2.out)).trans HBX2.out)
                  have l0 : wr.cell? ⟨w.heap.size + 1, 0, none⟩ = some (.slice A1 st.length c1) := (blk_cell hbl.out 0).trans rfl
                  have hlen : (half row n st.length k out i).length = n := half_len hol (by omega)
                  have hcx := irow_cell HGi.out (i := i) (by omega)
                  have hfx := blk_frozen HGi.out i
                  have HGET := Aside0.mk (half_get (row := row) (b := st.length) (k := k) hol hin)
                  rw [HGET.out] at hcx
                  have HSTEP := Aside0.mk (half_step (row := row) (b := st.length) (k := k) hol hin)
                  have HSAME := Aside0.mk (half_same (row := row) (b := st.length) (k := k) hol hin)
                  have HAT := Aside0.mk (show runAt row n st.length k out i = if row.getD (nextS n st.length i) false = true then orBit (out.getD i 0) k else out.getD i 0 from rfl)
                  have hnx : nextS n st.length i = if i + 1 < n then i + 1 else st.length := rfl
                  generalize row.getD (nextS n st.length i) false = x at *
                  generalize out.getD i 0 = o at *
                  clear hcell hre hlen
                  obtain ⟨q, hqq⟩ : ∃ q, q = nextS n st.length i := ⟨_, rfl⟩
                  rw [← hqq] at hx hq hnx
                  have HNX := Aside0.mk hnx
                  clear hnx hqq
                  go_upto_if 59 with fail
                  go_cut [13] (fun v13 wx => v13 = .int .i64 ((q : Nat) : Int) ∧ wx = wr)
                  case first =>
                    by_cases hie : i + 1 = n
                    · have HQ := Aside0.mk (show q = st.length from by rw [HNX.out, if_neg (by omega)])
                      have hib : (((i : Int) + 1) == (n : Int)) = true := beq_iff_eq.2 (by omega)
                      clear hie
                      go_wp2
                      go_meet
                      exact ⟨by first | (rw [HQ.out]; done) | (rw [HQ.out]; rfl), rfl⟩
                    · have HQ := Aside0.mk (show q = i + 1 from by rw [HNX.out, if_pos (by omega)])
                      have hib : (((i : Int) + 1) == (n : Int)) = false := beq_eq_false_iff_ne.2 (by omega)
                      clear hie
                      go_wp2
                      go_meet
                      exact ⟨by first | (rw [HQ.out]; done) | (rw [HQ.out]; rfl), rfl⟩
                  case rest =>
                    obtain ⟨rfl, hwc⟩ := hcut
                    rw [hwc]
                    clear hwc wc
                    cases x with
                    | false =>
                      have HSM := Aside0.mk (HSAME.out rfl)
                      go_wp2
                      go_roundg (n - (i + 1))
                      case measure => have := HI.out; omega
                      case rel => exact ⟨i + 1, by omega, by go_num, ⟨by rw [← HSM.out]; exact HGi.out⟩, HBi, HKi⟩
                    | true =>
                      go_wp2
                      go_region_law (fail)
                      all_goals (
                        go_wp2
                        go_roundg (n - (i + 1))
                        case measure => have := HI.out; omega
                        case rel => exact ⟨i + 1, by omega, by go_num, ⟨by rw [← HSTEP.out, HAT.out]; exact irow_set HGi.out i (orBit o k)⟩, ⟨below_drew1 (HBi.out.setCell HG2.out _)⟩, ⟨(HKi.out.setCell (.inl rfl) _).drew⟩⟩)
                · have hin2 : i = n := by have := HI.out; omega
                  have hhalf : half row n st.length k out i = runRow row n st.length k out := by unfold half; rw [hin2, List.take_of_length_le (by rw [len_runRow]; omega), List.drop_eq_nil_of_le (by omega), List.append_nil]
                  have HHALF := Aside0.mk hhalf
                  have HIN2 := Aside0.mk hin2
                  clear hhalf hin2
                  go_wp2
                  go_roundg (T.length - (k + 1))
                  case measure => have := HK.out; omega
                  case rel => exact ⟨k + 1, runRow row n st.length k out, by omega, by go_num, len_runRow _ _ _ _ _, HRS, ⟨by rw [← HHALF.out]; exact HGi.out⟩, HBi, ⟨HK8.out.then_ HKi.out (fun _ h => .inl h)⟩⟩
          · go_wp2
            go_ret2
            have hfin : out = R := by rw [← HRL.out, List.drop_eq_nil_of_le (by omega)]; rfl
            exact ⟨_, by rw [HXO.out]; rfl, by rw [← hfin]; exact irow_R HGo.out hol (Nat.le_trans HB2.out.size HG2.out) (by omega), HB2.out.trans (HBo.out.mono HB2.out.size)⟩
  · have em : (mv != 0) = true := by simpa using hm
    have HX := Aside0.mk (show R = [] from by rw [HRF.out, if_neg (fun h => hm h.1)])
    have HXO := Aside0.mk (show Ok = false from by rw [HRO.out, decide_eq_false hm]; rfl)
    go_enter Try.func11, Try.ntmps11
    go_upto_region 1 with fail
    rw [← hW2]
    clear hW2
    go_wp2_with (go_at_call 14; refine HMAY.out.mono ?_; rintro e w3 ⟨rfl, hB3⟩; have HB3 := Aside0.mk hB3; clear hB3)
    go_ret2
    exact ⟨_, by rw [HXO.out]; rfl, by rw [HX.out]; exact Kd.R_nil _ _ _ _ _, HB2.out.trans (HB3.out.mono HB2.out.size)⟩
end Go.Proofs.Ytegaicoddnmemaa.X

namespace Go.Proofs.Ytegaicoddnmemaa.X
open Go.RowKit Go.Proofs.YtegaicoddnmemaaW.PrintWords Go.Proofs.YtegaicoddnmemaaW.PrintLast Go.Proofs.YtegaicoddnmemaaW.PrintMore
open Go.Proofs.Ytegaicoddnmemaa.P Go.Proofs.Ytegaicoddnmemaa.Evx
set_option linter.unusedSimpArgs false
set_option linter.unusedVariables false
def atomS (n : Int) : S24 := ⟨2, n, []⟩
def F0 : S24 := ⟨7, 0, [atomS 0, atomS 1]⟩
set_option maxHeartbeats 800000 in
theorem atom_calls (n : Int) (w : World) : Calls Try.prog 27 #[.int .i64 n] w fun e w' => e = .returned (.agg #[.int .i64 2, .int .i64 n, .slice none 0 0]) ∧ Below w.heap.size w w' := by
  have huF := Try.underlying24
  go_enter Try.func27, Try.ntmps27
  go_wp2
  exact bodyPost_ret (v := .agg #[.int .i64 2, .int .i64 n, .slice none 0 0]) (by simp [results, Try.results27, go_sem]) rfl ⟨rfl, below_alloc (Below.refl _ _) _⟩
theorem run_F0 : runS F0 [1] [2, 0] = [1, 0, 1] := by decide +kernel
theorem ok_F0 : runOk F0 [1] [2, 0] = true := by decide +kernel
theorem size_F0 : sizeS F0 = 2 := by decide +kernel
theorem val_F0 : valueF F0 0 2 = true := by decide +kernel
theorem val_F1 : valueF F0 0 1 = false := by decide +kernel
/-- Two formulas in a block. -/
theorem C_two {w : World} {g : Nat} {a b : S24} (ha : a.f2 = []) (hb : b.f2 = []) (h : w.heap[g]? = some (.cells #[.int .i64 a.f0, .int .i64 a.f1, .slice none 0 0, .int .i64 b.f0, .int .i64 b.f1, .slice none 0 0] 24 (0, 0))) : Kd.C k24 w (some ⟨g, 0, none⟩) 2 [a, b] := by
  have hK : ∀ x : S24, x.f2 = [] → k24.K w x [.int .i64 x.f0, .int .i64 x.f1, .slice none 0 0] := by
    intro x hx
    have := k24_mk w x (A2 := none) (c2 := 0) (by rw [hx]; simp) (by rw [hx]; exact Kd.C_nil _ _)
    rwa [hx] at this
  refine ⟨rfl, by omega, fun _ => ⟨_, rfl, fun j p hj => ?_⟩⟩
  have hs : k24.sz = 3 := rfl
  match j, hj with
  | 0, hj =>
    obtain rfl : a = p := by simpa using hj
    refine ⟨_, rfl, hK a ha, fun i u hu => ?_⟩
    rw [hs, add_at, blk_cell h]
    match i, hu with
    | 0, hu => exact hu
    | 1, hu => exact hu
    | 2, hu => exact hu
  | 1, hj =>
    obtain rfl : b = p := by simpa using hj
    refine ⟨_, rfl, hK b hb, fun i u hu => ?_⟩
    rw [hs, add_at, blk_cell h]
    match i, hu with
    | 0, hu => exact hu
    | 1, hu => exact hu
    | 2, hu => exact hu
theorem C_u32 {w : World} {g : Nat} {l : List Int} {t : TypeId} (h : w.heap[g]? = some (.cells (l.map (Value.int .u32)).toArray t (0, 0))) (hl : 0 < l.length) (hm : l.length < 1000) : Kd.C (Kd.int .u32) w (some ⟨g, 0, none⟩) l.length l := by
  refine Kd.C_of_reads (d := 0) ⟨rfl, by omega, fun _ => ⟨_, rfl, fun j hj => ?_⟩⟩
  rw [add_at, blk_cell h]
  simp [hj]
set_option maxHeartbeats 3200000 in
set_option maxRecDepth 100000 in
theorem awake_calls (w : World) : Calls Try.prog 10 #[] w fun e w' => e = .returned (.bool true) ∧ Below w.heap.size w w' := by
  have huF := Try.underlying24
  have huW := Try.underlying27
  have huL := Try.underlying22
  have huu := Try.underlying25
  have hui := Try.underlying31
  have HBA := Aside0.mk (Below.refl w.heap.size w)
  obtain ⟨k1, hk1⟩ := (Size_ev F0).rounds
  rw [size_F0] at hk1
  have HK1 := Aside0.mk hk1
  clear hk1
  go_enter Try.func10, Try.ntmps10
  go_upto_region 2 with (go_at_call 27; refine (atom_calls _ _).mono ?_; rintro e w1 ⟨rfl, hB⟩; have HBn := Aside0.mk (HBA.out.trans (hB.mono HBA.out.size)); clear HBA hB; have HBA := HBn; clear HBn)
  obtain ⟨W3, hW3⟩ : ∃ W3, W3 = (w1.alloc (.cells #[.int .i64 2, .int .i64 0, .slice none 0 0, .int .i64 2, .int .i64 1, .slice none 0 0] 24)).alloc (.cells #[.int .i64 7, .int .i64 0, .slice (some ⟨w1.heap.size, 0, none⟩) 2 2] 24) := ⟨_, rfl⟩
  have hB3 : Below w1.heap.size w1 W3 := by rw [hW3]; exact below_alloc (below_alloc (Below.refl _ _) _) _
  have hbk : W3.heap[w1.heap.size]? = some (.cells #[.int .i64 2, .int .i64 0, .slice none 0 0, .int .i64 2, .int .i64 1, .slice none 0 0] 24 (0, 0)) := by rw [hW3]; exact blk_alloc (heap_alloc_new w1 _) _
  have hbx : W3.heap[w1.heap.size + 1]? = some (.cells #[.int .i64 7, .int .i64 0, .slice (some ⟨w1.heap.size, 0, none⟩) 2 2] 24 (0, 0)) := by
    rw [hW3]
    have := heap_alloc_new (w1.alloc (.cells #[.int .i64 2, .int .i64 0, .slice none 0 0, .int .i64 2, .int .i64 1, .slice none 0 0] 24)) (.cells #[.int .i64 7, .int .i64 0, .slice (some ⟨w1.heap.size, 0, none⟩) 2 2] 24)
    simpa using this
  have hz3 : W3.heap.size = w1.heap.size + 2 := by rw [hW3]; simp
  have HKF := Aside0.mk (fun W (h : Below W3.heap.size W3 W) => Kd.C_below (C_two (w := W3) (a := atomS 0) (b := atomS 1) rfl rfl hbk) h)
  have HBX := Aside0.mk hbx
  have HB3 := Aside0.mk (HBA.out.trans (hB3.mono HBA.out.size))
  rw [← hW3]
  obtain ⟨W5, hW5⟩ : ∃ W5, W5 = (W3.alloc (.cells #[.int .u32 1] 36)).alloc (.cells #[.int .u32 2, .int .u32 0] 36) := ⟨_, rfl⟩
  have hB5 : Below W3.heap.size W3 W5 := by rw [hW5]; exact below_alloc (below_alloc (Below.refl _ _) _) _
  have h1 : W5.heap[W3.heap.size]? = some (.cells #[.int .u32 1] 36 (0, 0)) := by rw [hW5]; exact blk_alloc (heap_alloc_new W3 _) _
  have h2 : W5.heap[W3.heap.size + 1]? = some (.cells #[.int .u32 2, .int .u32 0] 36 (0, 0)) := by
    rw [hW5]
    have := heap_alloc_new (W3.alloc (.cells #[.int .u32 1] 36)) (.cells #[.int .u32 2, .int .u32 0] 36)
    simpa using this
  have HRUN := Aside0.mk (Run_calls F0 [1] [2, 0] (some ⟨w1.heap.size, 0, none⟩) 2 (some ⟨W3.heap.size, 0, none⟩) (some ⟨W3.heap.size + 1, 0, none⟩) 1 2 W5 (HKF.out W5 hB5) (Nat.le_refl _) (C_u32 (l := [1]) h1 (by decide) (by decide)) (Nat.le_refl _) (C_u32 (l := [2, 0]) h2 (by decide) (by decide)) (Nat.le_refl _))
  rw [ok_F0, run_F0] at HRUN
  have HW5 := Aside0.mk hW5
  have HB5 := Aside0.mk hB5
  have b0 : W3.cell? ⟨w1.heap.size + 1, 0, none⟩ = some (.int .i64 7) := (blk_cell HBX.out 0).trans rfl
  have b1 : W3.cell? ⟨w1.heap.size + 1, 1, none⟩ = some (.int .i64 0) := (blk_cell HBX.out 1).trans rfl
  have b2 : W3.cell? ⟨w1.heap.size + 1, 2, none⟩ = some (.slice (some ⟨w1.heap.size, 0, none⟩) 2 2) := (blk_cell HBX.out 2).trans rfl
  have HZ3 := Aside0.mk hz3
  have HV : ∀ (lt : Int) (b : Bool), valueF F0 0 lt = b → ∀ W, Below W3.heap.size W3 W → Calls Try.prog 17 #[.agg #[.int .i64 7, .int .i64 0, .slice (some ⟨w1.heap.size, 0, none⟩) 2 2], .int .i64 0, .int .u32 lt] W fun e w' => e = .returned (.bool b) ∧ Below W.heap.size W w' := fun lt b hb W hW => hb ▸ Value_calls F0 0 lt (some ⟨w1.heap.size, 0, none⟩) 2 W (HKF.out W hW) (Nat.le_refl _)
  have HV1 := Aside0.mk (HV 2 true val_F0)
  have HV2 := Aside0.mk (HV 1 false val_F1)
  clear HV
  clear hW3 hB3 hbk hbx hW5 hB5 h1 h2 hz3
  go_wp2_with (first | (go_at_call 11; rw [← HW5.out]; refine HRUN.out.mono ?_; rintro e w6 ⟨v6, rfl, hR6, hB6⟩; obtain ⟨g6, c6, e6, _⟩ := Kd.R_form hR6 (by decide); subst e6; have HC6 := Aside0.mk (Kd.R_reads' hR6).2.2; have HB6 := Aside0.mk (HB5.out.trans (hB6.mono HB5.out.size)); clear hR6 hB6; have HBX6 := Aside0.mk ((HB6.out.block _ (blk_lt HBX.out)).trans HBX.out); have q0 := (blk_cell HBX6.out 0).trans rfl; have q1 := (blk_cell HBX6.out 1).trans rfl; have q2 := (blk_cell HBX6.out 2).trans rfl) | (go_at_call 16; refine (tableau_Size.calls k1 7 0 (some ⟨w1.heap.size, 0, none⟩) 2 [atomS 0, atomS 1] 2 _ (HKF.out _ HB6.out) (Nat.le_refl _) HK1.out).mono ?_; rintro e w7 ⟨rfl, hB7⟩; have HB7 := Aside0.mk (HB6.out.trans (hB7.mono HB6.out.size)); have HC7 := Aside0.mk (Kd.C_below HC6.out hB7); clear hB7; have HBX7 := Aside0.mk ((HB7.out.block _ (blk_lt HBX.out)).trans HBX.out); have p0 := (blk_cell HBX7.out 0).trans rfl; have p1 := (blk_cell HBX7.out 1).trans rfl; have p2 := (blk_cell HBX7.out 2).trans rfl; have hre := (Kd.reads_of_C (d := 0) HC7.out).2.2 (by decide); obtain ⟨ad, ead, hcell⟩ := hre; cases ead; have f0 := hcell 0 (by decide); have f1 := hcell 1 (by decide); have f2 := hcell 2 (by decide); rw [add_at] at f0 f1 f2; simp only [Nat.zero_add] at f0 f1 f2; clear hcell) | (go_at_call 17; first | ((with_reducible refine (HV1.out _ HB7.out).mono ?_); rintro e w8 ⟨rfl, hB8⟩; have HB8 := Aside0.mk (HB7.out.trans (hB8.mono HB7.out.size)); clear hB8; have HBX8 := Aside0.mk ((HB8.out.block _ (blk_lt HBX.out)).trans HBX.out); have o0 := (blk_cell HBX8.out 0).trans rfl; have o1 := (blk_cell HBX8.out 1).trans rfl; have o2 := (blk_cell HBX8.out 2).trans rfl) | ((with_reducible refine (HV2.out _ HB8.out).mono ?_); rintro e w9 ⟨rfl, hB9⟩; have HB9 := Aside0.mk (HB3.out.trans ((HB8.out.trans (hB9.mono HB8.out.size)).mono HB3.out.size)); clear hB9)))
  go_ret
  exact ⟨rfl, HB9.out⟩
def parrylaw23_awake.f : Option Bool := some true
theorem parrylaw23_awake.calls (r : Bool) (w : World) (h : parrylaw23_awake.f = some r) : Calls Try.prog 10 #[] w fun e w' => e = .returned (.bool r) ∧ Below w.heap.size w w' := by
  obtain rfl := Option.some.inj h
  exact awake_calls w
end Go.Proofs.Ytegaicoddnmemaa.X

namespace Go.Proofs.Ytegaicoddnmemaa.X
open Go.RowKit Go.Proofs.YtegaicoddnmemaaW.PrintWords Go.Proofs.YtegaicoddnmemaaW.PrintLast Go.Proofs.YtegaicoddnmemaaW.PrintMore
open Go.Proofs.Ytegaicoddnmemaa.P Go.Proofs.Ytegaicoddnmemaa.Evx
set_option linter.unusedSimpArgs false
set_option linter.unusedVariables false
mutual
/-- Of each timed node: its value, its last kid's, its first kid's. -/
def tmO (sv lt : Int) : S24 → Nat → List Bool
  | ⟨op, m, kids⟩, k => ownE op (valS sv lt ⟨op, m, kids⟩ k) ++ tmOL sv lt kids (k + tS op)
def tmOL (sv lt : Int) : List S24 → Nat → List Bool
  | [], _ => []
  | c :: r, k => tmO sv lt c k ++ tmOL sv lt r (k + tnS c)
end
mutual
def tmB (sv lt : Int) : S24 → Nat → List Bool
  | ⟨op, m, kids⟩, k => ownE op ((valL sv lt kids (k + tS op)).getLastD false) ++ tmBL sv lt kids (k + tS op)
def tmBL (sv lt : Int) : List S24 → Nat → List Bool
  | [], _ => []
  | c :: r, k => tmB sv lt c k ++ tmBL sv lt r (k + tnS c)
end
mutual
def tmF (sv lt : Int) : S24 → Nat → List Bool
  | ⟨op, m, kids⟩, k => ownE op ((valL sv lt kids (k + tS op)).getD 0 false) ++ tmFL sv lt kids (k + tS op)
def tmFL (sv lt : Int) : List S24 → Nat → List Bool
  | [], _ => []
  | c :: r, k => tmF sv lt c k ++ tmFL sv lt r (k + tnS c)
end
mutual
theorem len_tmO (sv lt : Int) : ∀ (s : S24) (k : Nat), (tmO sv lt s k).length = tnS s
  | ⟨op, m, kids⟩, k => by simp only [tmO, List.length_append, len_own, len_tmOL sv lt kids, tnS]
theorem len_tmOL (sv lt : Int) : ∀ (l : List S24) (k : Nat), (tmOL sv lt l k).length = tnL l
  | [], _ => rfl
  | c :: r, k => by simp only [tmOL, List.length_append, len_tmO sv lt c, len_tmOL sv lt r, tnL]
end
mutual
theorem len_tmB (sv lt : Int) : ∀ (s : S24) (k : Nat), (tmB sv lt s k).length = tnS s
  | ⟨op, m, kids⟩, k => by simp only [tmB, List.length_append, len_own, len_tmBL sv lt kids, tnS]
theorem len_tmBL (sv lt : Int) : ∀ (l : List S24) (k : Nat), (tmBL sv lt l k).length = tnL l
  | [], _ => rfl
  | c :: r, k => by simp only [tmBL, List.length_append, len_tmB sv lt c, len_tmBL sv lt r, tnL]
end
mutual
theorem len_tmF (sv lt : Int) : ∀ (s : S24) (k : Nat), (tmF sv lt s k).length = tnS s
  | ⟨op, m, kids⟩, k => by simp only [tmF, List.length_append, len_own, len_tmFL sv lt kids, tnS]
theorem len_tmFL (sv lt : Int) : ∀ (l : List S24) (k : Nat), (tmFL sv lt l k).length = tnL l
  | [], _ => rfl
  | c :: r, k => by simp only [tmFL, List.length_append, len_tmF sv lt c, len_tmFL sv lt r, tnL]
end
theorem tmO_eq (sv lt : Int) (s : S24) (k : Nat) : tmO sv lt s k = ownE s.f0 (valS sv lt s k) ++ tmOL sv lt s.f2 (k + tS s.f0) := by cases s; rw [tmO]
theorem tmB_eq (sv lt : Int) (s : S24) (k : Nat) : tmB sv lt s k = ownE s.f0 ((valL sv lt s.f2 (k + tS s.f0)).getLastD false) ++ tmBL sv lt s.f2 (k + tS s.f0) := by cases s; rw [tmB]
theorem tmF_eq (sv lt : Int) (s : S24) (k : Nat) : tmF sv lt s k = ownE s.f0 ((valL sv lt s.f2 (k + tS s.f0)).getD 0 false) ++ tmFL sv lt s.f2 (k + tS s.f0) := by cases s; rw [tmF]
def tri {α : Type} (a b c : α) : Fin 3 → α
  | 0 => a
  | 1 => b
  | 2 => c
theorem tri_upd0 {α : Type} (a b c x : α) : (fun j => if j = 0 then x else tri a b c j) = tri x b c := by funext j; match j with | 0 => rfl | 1 => rfl | 2 => rfl
theorem tri_upd1 {α : Type} (a b c x : α) : (fun j => if j = 1 then x else tri a b c j) = tri a x c := by funext j; match j with | 0 => rfl | 1 => rfl | 2 => rfl
theorem tri_upd2 {α : Type} (a b c x : α) : (fun j => if j = 2 then x else tri a b c j) = tri a b x := by funext j; match j with | 0 => rfl | 1 => rfl | 2 => rfl
/-- The block of a Timeds. -/
def TriB (w : World) (ob : Nat) (a b c : Value) : Prop := w.heap[ob]? = some (.cells #[a, b, c] 68 (0, 0))
section
variable {w w1 : World} {ob : Nat} {a b c : Value}
theorem triB_0 (h : TriB w ob a b c) : w.cell? ⟨ob, 0, none⟩ = some a := (blk_cell h 0).trans rfl
theorem triB_1 (h : TriB w ob a b c) : w.cell? ⟨ob, 1, none⟩ = some b := (blk_cell h 1).trans rfl
theorem triB_2 (h : TriB w ob a b c) : w.cell? ⟨ob, 2, none⟩ = some c := (blk_cell h 2).trans rfl
theorem triB_set0 (h : TriB w ob a b c) (v : Value) : TriB (w.setCell ⟨ob, 0, none⟩ v) ob v b c := (blk_set h 0 v).trans rfl
theorem triB_set1 (h : TriB w ob a b c) (v : Value) : TriB (w.setCell ⟨ob, 1, none⟩ v) ob a v c := (blk_set h 1 v).trans rfl
theorem triB_set2 (h : TriB w ob a b c) (v : Value) : TriB (w.setCell ⟨ob, 2, none⟩ v) ob a b v := (blk_set h 2 v).trans rfl
end
def BX (W w : World) (g : Nat) (x : Bool) : Prop := W.heap.size ≤ g ∧ w.heap[g]? = some (.cells #[.bool x] 4 (0, 0))
/-- Rows of bools, grown out of vs since W0; beside them a block rb that may be written. -/
structure Rows {ι : Type} [DecidableEq ι] (w0 W0 : World) (rb : Nat) (vs : ι → Value) (w : World) (v : ι → Value) (l : ι → List Bool) : Prop where
  o : ∀ i, w.ownsRow w0.heap.size 4 1 (v i) (l i).length (encs Value.bool (l i))
  ne : ∀ i j, i ≠ j → (v i).ownBlock = none ∨ (v i).ownBlock ≠ (v j).ownBlock
  kp : Kept W0 w (fun k => (∃ i, some k = (vs i).ownBlock) ∨ k = rb)
  n : ∀ i k, (v i).ownBlock = some k → some k = (vs i).ownBlock ∨ W0.heap.size ≤ k
  lt : ∀ i k, (vs i).ownBlock = some k → k < W0.heap.size
  rl : rb < W0.heap.size
  r : ∀ i, some rb ≠ (vs i).ownBlock
  bl : Below w0.heap.size w0 w
  rb0 : w0.heap.size ≤ rb
section
variable {ι : Type} [DecidableEq ι] {w0 W0 w w1 : World} {rb g cap : Nat} {vs v : ι → Value} {l : ι → List Bool}
theorem Rows.rbv (h : Rows w0 W0 rb vs w v l) (i : ι) : some rb ≠ (v i).ownBlock := fun e => by
  rcases h.n i rb e.symm with h1 | h1
  · exact h.r i h1
  · have := h.rl; omega
theorem Rows.step (h : Rows w0 W0 rb vs w v l) (hk : Kept w w1 (fun k => k = rb)) (hb : Below w0.heap.size w0 w1) : Rows w0 W0 rb vs w1 v l :=
  { h with
    o := fun i => own_move (h.o i) (fun k hk1 => hk.2 k (own_lt (h.o i) k hk1) (fun e => h.rbv i (by rw [hk1, e])))
    kp := h.kp.then_ hk (fun k e => .inl (.inr e))
    bl := hb }
theorem Rows.alloc (h : Rows w0 W0 rb vs w v l) (o : Obj) : Rows w0 W0 rb vs (w.alloc o) v l := h.step ((Kept.refl w _).alloc o) (below_alloc h.bl _)
theorem Rows.drew (h : Rows w0 W0 rb vs w v l) : Rows w0 W0 rb vs w.drew v l := h.step ((Kept.refl w _).drew) (below_drew1 h.bl)
theorem Rows.below (h : Rows w0 W0 rb vs w v l) (hb : Below w.heap.size w w1) : Rows w0 W0 rb vs w1 v l := h.step (Kept.of_below hb _) (h.bl.trans (hb.mono h.bl.size))
theorem Rows.setR (h : Rows w0 W0 rb vs w v l) (j : Nat) (u : Value) : Rows w0 W0 rb vs (w.setCell ⟨rb, j, none⟩ u) v l :=
  h.step (Kept.setCell (p := ⟨rb, j, none⟩) (Kept.refl w (fun k => k = rb)) (.inl rfl) u) (h.bl.setCell h.rb0 u)
theorem Rows.app (h : Rows w0 W0 rb vs w v l) (i : ι) (hv : v i = vs i) (b : Bool) (ho : w1.ownsRow w0.heap.size 4 1 (.slice (some ⟨g, 0, none⟩) ((l i).length + 1) cap) ((l i).length + 1) (encs Value.bool (l i) ++ [.bool b])) (hg : w.grownBy w1 (v i).ownBlock) (hat : (v i).ownBlock = some g ∨ g = w.heap.size) :
    Rows w0 W0 rb vs w1 (fun j => if j = i then .slice (some ⟨g, 0, none⟩) ((l i).length + 1) cap else v j) (fun j => if j = i then l i ++ [b] else l j) := by
  have hob : (Value.slice (some ⟨g, 0, none⟩) ((l i).length + 1) cap).ownBlock = some g := rfl
  have hnew : ∀ j, j ≠ i → (v j).ownBlock ≠ some g := by
    intro j hj e
    have h2 := own_lt (h.o j) g e
    rcases hat with h1 | h1
    · rcases h.ne j i hj with h3 | h3
      · rw [h3] at e; cases e
      · exact h3 (by rw [e, h1])
    · omega
  refine { h with o := ?_, ne := ?_, kp := ?_, n := ?_, bl := ?_ }
  · intro j
    by_cases hj : j = i
    · subst hj
      simp only [if_pos]
      rw [encs_snoc, List.length_append]
      exact ho
    · simp only [if_neg hj]
      refine own_move (h.o j) (fun k hk => hg.block k (own_lt (h.o j) k hk) (fun e => ?_))
      rcases h.ne j i hj with h1 | h1
      · rw [h1] at hk; cases hk
      · exact h1 (by rw [hk, e])
  · intro j k hjk
    by_cases hj : j = i
    · subst hj
      simp only [if_pos, if_neg (Ne.symm hjk)]
      exact .inr (fun e => hnew k (Ne.symm hjk) (e.symm.trans hob))
    · by_cases hk : k = i
      · subst hk
        simp only [if_pos, if_neg hj]
        exact .inr (fun e => hnew j hj (e.trans hob))
      · simp only [if_neg hj, if_neg hk]
        exact h.ne j k hjk
  · exact Kept.of_grown hg h.kp (fun k hk => .inl (.inl ⟨i, by rw [← hv, hk]⟩))
  · intro j k hk
    by_cases hj : j = i
    · subst hj
      simp only [if_pos] at hk
      rw [hob] at hk
      injection hk with hk
      subst hk
      rcases hat with h1 | h1
      · exact .inl (by rw [← hv, h1])
      · right; have := h.kp.1; omega
    · simp only [if_neg hj] at hk
      exact h.n j k hk
  · exact pw_below_grown h.bl _ h.bl.size hg (own_base (h.o i))
theorem Rows.keepB (h : Rows w0 W0 rb vs w v l) (i : ι) (hv : v i = vs i) {x : Bool} (hb : BX W0 w g x) (hg : w.grownBy w1 (v i).ownBlock) : BX W0 w1 g x :=
  ⟨hb.1, blk_grown hb.2 hg (fun e => by rw [hv] at e; have := h.lt i g e.symm; have := hb.1; omega)⟩
theorem Rows.keepR (h : Rows w0 W0 rb vs w v l) (i : ι) (hv : v i = vs i) {o : Obj} (hb : w.heap[rb]? = some o) (hg : w.grownBy w1 (v i).ownBlock) : w1.heap[rb]? = some o := blk_grown hb hg (h.rbv i)
/-- A bool of row i written. -/
theorem Rows.put (h : Rows w0 W0 rb vs w v l) (i : ι) {k : Nat} (hk : k < (l i).length) :
    ∃ g c, v i = .slice (some ⟨g, 0, none⟩) (l i).length c ∧ g ≠ rb ∧ w.cell? ⟨g, k, none⟩ = some (.bool ((l i).getD k false)) ∧ w.frozen? ⟨g, k, none⟩ = false ∧ (some g = (vs i).ownBlock ∨ W0.heap.size ≤ g) ∧
      ∀ b, Rows w0 W0 rb vs (w.setCell ⟨g, k, none⟩ (.bool b)) v (fun j => if j = i then (l i).set k b else l j) := by
  obtain ⟨g, c, e, hb, hl, p, q, s⟩ := own_put (h.o i) hk
  have hob : (v i).ownBlock = some g := by rw [e]; rfl
  refine ⟨g, c, e, fun e2 => h.rbv i (by rw [hob, e2]), p, q, ?_, fun b => ?_⟩
  · rcases h.n i g hob with h1 | h1
    · exact .inl h1
    · exact .inr h1
  · refine { h with o := ?_, kp := ?_, bl := h.bl.setCell hb _ }
    · intro j
      by_cases hj : j = i
      · subst hj
        simp only [if_pos]
        exact s b
      · simp only [if_neg hj]
        refine own_setCell (p := ⟨g, k, none⟩) (h.o j) (fun e2 => ?_) _
        rcases h.ne i j (Ne.symm hj) with h1 | h1
        · rw [hob] at h1; cases h1
        · exact h1 (by rw [hob, e2])
    · refine h.kp.setCell (p := ⟨g, k, none⟩) ?_ _
      rcases h.n i g hob with h1 | h1
      · exact .inl (.inl ⟨i, h1⟩)
      · exact .inr h1
end
theorem tri_app0 {w0 W0 w : World} {rb : Nat} {vs : Fin 3 → Value} {a b c x : Value} {la lb lc lx : List Bool} (h : Rows w0 W0 rb vs w (fun j => if j = 0 then x else tri a b c j) (fun j => if j = 0 then lx else tri la lb lc j)) : Rows w0 W0 rb vs w (tri x b c) (tri lx lb lc) := by rw [tri_upd0, tri_upd0] at h; exact h
theorem tri_app1 {w0 W0 w : World} {rb : Nat} {vs : Fin 3 → Value} {a b c x : Value} {la lb lc lx : List Bool} (h : Rows w0 W0 rb vs w (fun j => if j = 1 then x else tri a b c j) (fun j => if j = 1 then lx else tri la lb lc j)) : Rows w0 W0 rb vs w (tri a x c) (tri la lx lc) := by rw [tri_upd1, tri_upd1] at h; exact h
theorem tri_app2 {w0 W0 w : World} {rb : Nat} {vs : Fin 3 → Value} {a b c x : Value} {la lb lc lx : List Bool} (h : Rows w0 W0 rb vs w (fun j => if j = 2 then x else tri a b c j) (fun j => if j = 2 then lx else tri la lb lc j)) : Rows w0 W0 rb vs w (tri a b x) (tri la lb lx) := by rw [tri_upd2, tri_upd2] at h; exact h
theorem own_form' {w : World} {base : Nat} {v : Value} {l : List Bool} (h : w.ownsRow base 4 1 v l.length (encs Value.bool l)) : ∃ A n c, v = .slice A n c := by
  obtain ⟨A, c, e, _⟩ := own_form h
  exact ⟨A, _, c, e⟩
theorem tri_put1 {w0 W0 w : World} {rb : Nat} {vs v : Fin 3 → Value} {la lb lc lx : List Bool} (h : Rows w0 W0 rb vs w v (fun j => if j = 1 then lx else tri la lb lc j)) : Rows w0 W0 rb vs w v (tri la lx lc) := by rw [tri_upd1] at h; exact h
theorem tri_put2 {w0 W0 w : World} {rb : Nat} {vs v : Fin 3 → Value} {la lb lc lx : List Bool} (h : Rows w0 W0 rb vs w v (fun j => if j = 2 then lx else tri la lb lc j)) : Rows w0 W0 rb vs w v (tri la lb lx) := by rw [tri_upd2] at h; exact h
end Go.Proofs.Ytegaicoddnmemaa.X

namespace Go.Proofs.Ytegaicoddnmemaa.X
open Go.RowKit Go.Proofs.YtegaicoddnmemaaW.PrintWords Go.Proofs.YtegaicoddnmemaaW.PrintLast Go.Proofs.YtegaicoddnmemaaW.PrintMore
open Go.Proofs.Ytegaicoddnmemaa.P Go.Proofs.Ytegaicoddnmemaa.Evx
set_option linter.unusedSimpArgs false
set_option linter.unusedVariables false
/-- Rows of bools of one's own, each apart from the others. -/
structure R3 {ι : Type} [DecidableEq ι] (w0 w : World) (v : ι → Value) (l : ι → List Bool) : Prop where
  o : ∀ i, w.ownsRow w0.heap.size 4 1 (v i) (l i).length (encs Value.bool (l i))
  ne : ∀ i j, i ≠ j → (v i).ownBlock = none ∨ (v i).ownBlock ≠ (v j).ownBlock
  bl : Below w0.heap.size w0 w
section
variable {ι : Type} [DecidableEq ι] {w0 W0 w w1 : World} {rb g cap : Nat} {vs v v1 : ι → Value} {l l1 : ι → List Bool}
theorem R3.below (h : R3 w0 w v l) (hb : Below w.heap.size w w1) : R3 w0 w1 v l := ⟨fun i => own_move (h.o i) (fun k hk => hb.block k (own_lt (h.o i) k hk)), h.ne, h.bl.trans (hb.mono h.bl.size)⟩
theorem R3.set (h : R3 w0 w v l) {p : Addr} (hne : ∀ i, some p.block ≠ (v i).ownBlock) (hp : w0.heap.size ≤ p.block) (u : Value) : R3 w0 (w.setCell p u) v l := ⟨fun i => own_setCell (h.o i) (hne i) u, h.ne, h.bl.setCell hp u⟩
theorem Rows.r3 (h : Rows w0 W0 rb vs w v l) : R3 w0 w v l := ⟨h.o, h.ne, h.bl⟩
theorem R3.rows (h : R3 w0 w v l) {cs : Array Value} {t : TypeId} (hb : w.heap[rb]? = some (.cells cs t (0, 0))) (ht : 4 ≠ t) (hr : w0.heap.size ≤ rb) : Rows w0 w rb v w v l :=
  { o := h.o, ne := h.ne, kp := Kept.refl _ _, n := fun _ _ e => .inl e.symm, lt := fun i => own_lt (h.o i), rl := blk_lt hb, bl := h.bl, rb0 := hr
    r := fun i e => by
      obtain ⟨cs2, hc⟩ := own_typed (h.o i) rb e.symm
      exact blk_ne hc hb ht rfl }
/-- Behind a call that was given the rows. -/
theorem Rows.call (h : Rows w0 W0 rb vs w v l) (k : R3 w0 w1 v1 l1) (hk : Kept w w1 (fun k => ∃ i, some k = (v i).ownBlock)) (hn : ∀ i k, (v1 i).ownBlock = some k → some k = (v i).ownBlock ∨ w.heap.size ≤ k) : Rows w0 W0 rb vs w1 v1 l1 :=
  { h with
    o := k.o
    ne := k.ne
    bl := k.bl
    kp := h.kp.then_ hk (fun j e => by
      obtain ⟨i, e⟩ := e
      rcases h.n i j e.symm with h1 | h1
      · exact .inl (.inl ⟨i, h1⟩)
      · exact .inr h1)
    n := fun i j e => by
      rcases hn i j e with h1 | h1
      · exact h.n i j h1.symm
      · right; have := h.kp.1; omega }
end
def rtm.T5 : Bool × List (List Nat × List Nat) := (true, [([], []), ([0], [0]), ([], []), ([2], [2]), ([1, 3], [1, 3]), ([], []), ([5], [5]), ([], []), ([6, 7, 4], [6, 7]), ([], []), ([9], [9]), ([], []), ([10, 11, 8], [10, 11]), ([0, 1, 2, 3, 4, 5, 6, 9, 10], []), ([13, 4, 12, 0, 1, 2, 3, 4, 5, 6, 9, 10], [4, 13]), ([0, 1, 2, 3, 4, 5, 6, 7, 8, 9, 10, 13, 14], []), ([15, 8, 14, 0, 1, 2, 3, 4, 5, 6, 7, 8, 9, 10, 13, 14], [8, 15]), ([0, 1, 2, 3, 4, 5, 6, 7, 8, 9, 10, 11, 12, 13, 14, 15, 16], []), ([17, 12, 16, 0, 1, 2, 3, 4, 5, 6, 7, 8, 9, 10, 11, 12, 13, 14, 15, 16], [12, 17])])
def rtm.B5 : List Nat := [0, 1, 0, 4, 15, 0, 32, 0, 255, 0, 512, 0, 4095, 1663, 16383, 32767, 65535, 131071, 262143]
theorem rtm.tab5 : rtab .any (opsOf Try.f53 5) = rtm.T5 := by kernel_rfl
theorem rtm.bits5 : waitsOk rtm.T5.2 rtm.B5 = true := by kernel_rfl
def TdAt (w0 : World) (s : S24) : Prop := ∀ (sv lt : Int) (lo ll lf : List Bool) (vo vl vf : Value) (A : Option Addr) (cp : Nat) (w : World), R3 w0 w (tri vo vl vf) (tri lo ll lf) → lo.length = ll.length → lo.length = lf.length → lo.length + tnS s ≤ 60 → Kd.C k24 w0 A s.f2.length s.f2 → s.f2.length ≤ cp → soundS s = true →
    Calls Try.prog 53 #[.agg #[.int .i64 s.f0, .int .i64 s.f1, .slice A s.f2.length cp], .int .i64 sv, .int .u32 lt, .int .i64 (lo.length : Int), .agg #[vo, vl, vf]] w fun e w' => ∃ v1 v2 v3, e = .returned (.tuple #[.int .i64 ((lo.length + tnS s : Nat) : Int), .agg #[v1, v2, v3]]) ∧ R3 w0 w' (tri v1 v2 v3) (tri (lo ++ tmO sv lt s lo.length) (ll ++ tmB sv lt s lo.length) (lf ++ tmF sv lt s lo.length)) ∧ Kept w w' (fun k => ∃ i, some k = (tri vo vl vf i).ownBlock) ∧ (∀ i k, (tri v1 v2 v3 i).ownBlock = some k → some k = (tri vo vl vf i).ownBlock ∨ w.heap.size ≤ k)
set_option maxHeartbeats 8000000 in
set_option maxRecDepth 100000 in
theorem timeds_calls (w0 : World) (s : S24) (ih : ∀ k ∈ s.f2, TdAt w0 k) : TdAt w0 s := by
  intro sv lt lo ll lf vo vl vf A cp w hR hl1 hl2 hbd hk hc hs
  have huF := Try.underlying24
  have huL := Try.underlying22
  have hut := Try.underlying68
  have hus := Try.underlying45
  obtain ⟨A1, c1, hvs, hc1⟩ := own_form (hR.o 0)
  obtain ⟨A2, c2, hvg, hc2⟩ := own_form (hR.o 1)
  obtain ⟨A3, c3, hvh, hc3⟩ := own_form (hR.o 2)
  change vo = .slice A1 lo.length c1 at hvs
  change vl = .slice A2 ll.length c2 at hvg
  change vf = .slice A3 lf.length c3 at hvh
  subst hvs hvg hvh
  obtain ⟨W4, hW4⟩ : ∃ W4, W4 = ((w.alloc (.cells #[.int .i64 s.f0, .int .i64 s.f1, .slice A s.f2.length cp] 24)).alloc (.cells #[.slice A1 lo.length c1, .slice A2 ll.length c2, .slice A3 lf.length c3] 68)).alloc (.cells #[.slice none 0 0, .slice none 0 0, .slice none 0 0] 68) := ⟨_, rfl⟩
  have hB4 : Below w.heap.size w W4 := by rw [hW4]; exact below_alloc (below_alloc (below_alloc (Below.refl _ _) _) _) _
  obtain ⟨ob, hob⟩ : ∃ ob, ob = w.heap.size + 1 := ⟨_, rfl⟩
  have hfb : W4.heap[w.heap.size]? = some (.cells #[.int .i64 s.f0, .int .i64 s.f1, .slice A s.f2.length cp] 24 (0, 0)) := by rw [hW4]; exact blk_alloc (blk_alloc (heap_alloc_new w _) _) _
  have hK4 : TriB W4 ob (.slice A1 lo.length c1) (.slice A2 ll.length c2) (.slice A3 lf.length c3) := by
    rw [hW4, hob]
    have := blk_alloc (heap_alloc_new (w.alloc (.cells #[.int .i64 s.f0, .int .i64 s.f1, .slice A s.f2.length cp] 24)) (.cells #[.slice A1 lo.length c1, .slice A2 ll.length c2, .slice A3 lf.length c3] 68)) (.cells #[.slice none 0 0, .slice none 0 0, .slice none 0 0] 68)
    simpa [TriB] using this
  have hrs : W4.heap[w.heap.size + 1 + 1]? = some (.cells #[.slice none 0 0, .slice none 0 0, .slice none 0 0] 68 (0, 0)) := by
    rw [hW4]
    have := heap_alloc_new ((w.alloc (.cells #[.int .i64 s.f0, .int .i64 s.f1, .slice A s.f2.length cp] 24)).alloc (.cells #[.slice A1 lo.length c1, .slice A2 ll.length c2, .slice A3 lf.length c3] 68)) (.cells #[.slice none 0 0, .slice none 0 0, .slice none 0 0] 68)
    simpa using this
  have hz4 : W4.heap.size = w.heap.size + 3 := by rw [hW4]; simp
  have hRW : Rows w0 W4 ob (tri (.slice A1 lo.length c1) (.slice A2 ll.length c2) (.slice A3 lf.length c3)) W4 (tri (.slice A1 lo.length c1) (.slice A2 ll.length c2) (.slice A3 lf.length c3)) (tri lo ll lf) := (hR.below hB4).rows hK4 (by decide) (by have := hR.bl.size; omega)
  have HFB := Aside0.mk (fun (w1 : World) (v1 : Fin 3 → Value) (l1 : Fin 3 → List Bool) (h : Rows w0 W4 ob (tri (.slice A1 lo.length c1) (.slice A2 ll.length c2) (.slice A3 lf.length c3)) w1 v1 l1) => (show w1.heap[w.heap.size]? = _ ∧ w1.heap[w.heap.size + 1 + 1]? = _ from ⟨blk_kept hfb h.kp (by
      rintro (⟨i, e⟩ | e)
      · exact Nat.lt_irrefl _ (own_lt (hR.o i) _ e.symm)
      · omega), blk_kept hrs h.kp (by
      rintro (⟨i, e⟩ | e)
      · have := own_lt (hR.o i) _ e.symm; omega
      · omega)⟩))
  have HOL := Aside0.mk (fun i => own_lt (hR.o i))
  have HRW := Aside0.mk hRW
  have HK4 := Aside0.mk hK4
  have HB4 := Aside0.mk hB4
  have HOB := Aside0.mk hob
  have HZ4 := Aside0.mk hz4
  have HFB4 := Aside0.mk hfb
  have HK := Aside0.mk hk
  have HS := Aside0.mk hs
  have HIH := Aside0.mk ih
  have HL1 := Aside0.mk hl1
  have HL2 := Aside0.mk hl2
  have HBD := Aside0.mk hbd
  have HTN := Aside0.mk (tn_eq s)
  have HEO := Aside0.mk (tmO_eq sv lt s lo.length)
  have HEB := Aside0.mk (tmB_eq sv lt s lo.length)
  have HEF := Aside0.mk (tmF_eq sv lt s lo.length)
  have HTD := Aside0.mk (Timed_some s.f0)
  have hk2 := sound_len hs
  have hlob : lo.length ≤ 60 := by omega
  have hlen := Kd.C_max HK.out
  have HRV := Aside0.mk (rv_all s sv lt lo.length A cp W4 (Kd.C_below hk (hR.bl.trans (hB4.mono hR.bl.size))) hc hs hbd)
  obtain ⟨x, hx⟩ : ∃ x, x = valS sv lt s lo.length := ⟨_, rfl⟩
  rw [← hx] at HRV HEO
  have x0 : W4.cell? ⟨w.heap.size, 0, none⟩ = some (.int .i64 s.f0) := (blk_cell hfb 0).trans rfl
  have x1 : W4.cell? ⟨w.heap.size, 1, none⟩ = some (.int .i64 s.f1) := (blk_cell hfb 1).trans rfl
  have x2 : W4.cell? ⟨w.heap.size, 2, none⟩ = some (.slice A s.f2.length cp) := (blk_cell hfb 2).trans rfl
  clear hR hl1 hl2 hbd hk hs ih hB4 hfb hK4 hrs hz4 hRW hx
  go_enter Try.func53, Try.ntmps53
  go_upto_region 1 with fail
  rw [← hW4, ← hob]
  clear hW4 hob
  go_upto_if 30 with (first | (go_at_call 39; refine HRV.out.mono ?_; rintro e w5 ⟨rfl, hB5⟩; have HRW5 := Aside0.mk (HRW.out.below hB5); have HK5 := Aside0.mk (show TriB w5 ob _ _ _ from (hB5.block _ (blk_lt HK4.out)).trans HK4.out); have HFB5 := Aside0.mk ((hB5.block _ (blk_lt HFB4.out)).trans HFB4.out); have y0 := (blk_cell HFB5.out 0).trans rfl; clear hB5) | (go_at_call 46; refine (parryref22_Timed.calls _ (timedS s.f0) _ HTD.out).mono ?_; rintro e w6 ⟨rfl, hd0⟩; obtain ⟨m, rfl⟩ := hd0.out))
  obtain ⟨K, hK⟩ : ∃ K, K = lo.length + tS s.f0 := ⟨_, rfl⟩
  have HKD := Aside0.mk hK
  have hK61 : K ≤ 61 := by rw [hK]; unfold tS; split <;> omega
  have hRW6 := HRW5.out.below (pw_below_drewN (Below.refl _ w5) m)
  have hK6 : TriB (w5.drewN m) ob _ _ _ := HK5.out
  obtain ⟨W5, hW5⟩ : ∃ W5, W5 = w5.drewN m := ⟨_, rfl⟩
  rw [← hW5] at hRW6 hK6
  rw [← hW5]
  have HRW6 := Aside0.mk hRW6
  have HK6 := Aside0.mk hK6
  clear hW5 hRW6 hK6 hK
  go_cut [3] (fun v3 wx => ∃ v1 v2 v3', v3 = .int .i64 ((K : Nat) : Int) ∧ Aside0 (Rows w0 W4 ob (tri (.slice A1 lo.length c1) (.slice A2 ll.length c2) (.slice A3 lf.length c3)) wx (tri v1 v2 v3') (tri (lo ++ ownE s.f0 x) (ll ++ ownE s.f0 false) (lf ++ ownE s.f0 false))) ∧ Aside0 (TriB wx ob v1 v2 v3'))
  case first =>
    cases htm : timedS s.f0 with
    | false =>
      have HQ := Aside0.mk (show K = lo.length from by rw [HKD.out]; unfold tS; rw [if_neg (by rw [htm]; simp)]; rfl)
      have HE := Aside0.mk (show ∀ b, ownE s.f0 b = [] from fun b => by unfold ownE; rw [if_neg (by rw [htm]; simp)])
      go_wp2
      go_meet
      exact ⟨_, _, _, by rw [HQ.out], ⟨by rw [HE.out, HE.out, List.append_nil, List.append_nil, List.append_nil]; exact HRW6.out⟩, HK6⟩
    | true =>
      have HQ := Aside0.mk (show K = lo.length + 1 from by rw [HKD.out]; unfold tS; rw [if_pos htm])
      have HE := Aside0.mk (show ∀ b, ownE s.f0 b = [b] from fun b => by unfold ownE; rw [if_pos htm])
      have HUS := Aside0.mk hus
      obtain ⟨iB, hiB⟩ := infoB
      have HIB := Aside0.mk hiB
      have GS := Aside0.mk (show W4.heap.size ≤ W5.drew.heap.size from HRW6.out.kp.1)
      have T0 := Aside0.mk HRW6.out.drew
      have K0 := Aside0.mk (show TriB W5.drew ob _ _ _ from HK6.out)
      have HBB := Aside0.mk (show w0.heap.size ≤ W4.heap.size from by have := HRW6.out.rb0; have := HRW6.out.rl; omega)
      have HL1' := HL1.out
      have HL2' := HL2.out
      have HBDK := HBD
      replace HBD := Aside0.mk (show ∀ i : Fin 3, ((tri lo ll lf i).length + 1 ≤ maxLen ∧ ((tri lo ll lf i).length + 1) * 1 ≤ 140737488355328) from by
        intro i
        have h1 : (tri lo ll lf i).length ≤ 60 := by match i with | 0 => exact hlob | 1 => (show ll.length ≤ 60; omega) | 2 => (show lf.length ≤ 60; omega)
        unfold maxLen
        omega)
      clear hiB HL1' HL2'
      go_upto_region 5 with fail
      refine start_ (n := 19) (S := fun w' => True) (ds := []) #[false, false, false, false, false, false, false, false, false, false, false, false, false, false, false, false, false, false, false] (by kernel_rfl) rfl rfl trivial (fun hHeld => ?_)
      refine with_tabW rtm.tab5 rtm.bits5 (fun HT_ HW_ => ?_)
      refine pure_ (i := 0) (N := some 33) (v := ?_) (a' := ?_) #[true, false, false, false, false, false, false, false, false, false, false, false, false, false, false, false, false, false, false] rfl rfl (any_of HT_.out (by kernel_rfl)) (fun _ _ _ h => h) (Or.inl ⟨by rfl, ?_⟩) ?_ ?_
      rotate_left
      · intro w'
        go_simp
        with_reducible rfl
      rotate_left
      · simp only [Act.put, List.setIfInBounds_toArray, List.set_cons_zero, List.set_cons_succ, i64_w, i32_w]
        rfl
      refine pure_ (i := 2) (N := some 35) (v := ?_) (a' := ?_) #[true, false, true, false, false, false, false, false, false, false, false, false, false, false, false, false, false, false, false] rfl rfl (any_of HT_.out (by kernel_rfl)) (fun _ _ _ h => h) (Or.inl ⟨by rfl, ?_⟩) ?_ ?_
      rotate_left
      · intro w'
        go_simp
        with_reducible rfl
      rotate_left
      · simp only [Act.put, List.setIfInBounds_toArray, List.set_cons_zero, List.set_cons_succ, i64_w, i32_w]
        rfl
      refine pure_ (i := 5) (N := some 38) (v := ?_) (a' := ?_) #[true, false, true, false, false, true, false, false, false, false, false, false, false, false, false, false, false, false, false] rfl rfl (any_of HT_.out (by kernel_rfl)) (fun _ _ _ h => h) (Or.inl ⟨by rfl, ?_⟩) ?_ ?_
      rotate_left
      · intro w'
        go_simp
        with_reducible rfl
      rotate_left
      · simp only [Act.put, List.setIfInBounds_toArray, List.set_cons_zero, List.set_cons_succ, i64_w, i32_w]
        rfl
      refine pure_ (i := 9) (N := some 42) (v := ?_) (a' := ?_) #[true, false, true, false, false, true, false, false, false, true, false, false, false, false, false, false, false, false, false] rfl rfl (any_of HT_.out (by kernel_rfl)) (fun _ _ _ h => h) (Or.inl ⟨by rfl, ?_⟩) ?_ ?_
      rotate_left
      · intro w'
        go_simp
        with_reducible rfl
      rotate_left
      · simp only [Act.put, List.setIfInBounds_toArray, List.set_cons_zero, List.set_cons_succ, i64_w, i32_w]
        rfl
      refine inv_at [1, 3, 4, 6, 7, 8, 10, 11, 12, 13, 14, 15, 16, 17, 18] (fun a0_ b a w' => ∃ (gb1 : Nat) (gb2 : Nat) (gb3 : Nat) (v1 : Value) (v2 : Value) (v3 : Value) (m3_ : Value) (m7_ : Value) (m11_ : Value), a = putSel a0_ b [(1, 34, .slice A1 lo.length c1), (3, 36, m3_), (4, 37, v1), (6, 39, .slice A2 ll.length c2), (7, 40, m7_), (8, 41, v2), (10, 43, .slice A3 lf.length c3), (11, 44, m11_), (12, 45, v3), (13, 46, .pointer (some ⟨ob, 0, none⟩)), (15, 47, .pointer (some ⟨ob, 1, none⟩)), (17, 48, .pointer (some ⟨ob, 2, none⟩))] ∧ (W4.heap.size ≤ w'.heap.size) ∧ (b 4 = false → Rows w0 W4 ob (tri (.slice A1 lo.length c1) (.slice A2 ll.length c2) (.slice A3 lf.length c3)) w' (tri (.slice A1 lo.length c1) (.slice A2 ll.length c2) (.slice A3 lf.length c3)) (tri lo ll lf)) ∧ (b 4 = true → b 8 = false → Rows w0 W4 ob (tri (.slice A1 lo.length c1) (.slice A2 ll.length c2) (.slice A3 lf.length c3)) w' (tri v1 (.slice A2 ll.length c2) (.slice A3 lf.length c3)) (tri (lo ++ [x]) ll lf)) ∧ (b 8 = true → b 12 = false → Rows w0 W4 ob (tri (.slice A1 lo.length c1) (.slice A2 ll.length c2) (.slice A3 lf.length c3)) w' (tri v1 v2 (.slice A3 lf.length c3)) (tri (lo ++ [x]) (ll ++ [false]) lf)) ∧ (b 12 = true → Rows w0 W4 ob (tri (.slice A1 lo.length c1) (.slice A2 ll.length c2) (.slice A3 lf.length c3)) w' (tri v1 v2 v3) (tri (lo ++ [x]) (ll ++ [false]) (lf ++ [false]))) ∧ (b 3 = true → b 4 = false → BX W4 w' gb1 x) ∧ (b 7 = true → b 8 = false → BX W4 w' gb2 false) ∧ (b 11 = true → b 12 = false → BX W4 w' gb3 false) ∧ (b 14 = false → TriB w' ob (.slice A1 lo.length c1) (.slice A2 ll.length c2) (.slice A3 lf.length c3)) ∧ (b 14 = true → b 16 = false → TriB w' ob v1 (.slice A2 ll.length c2) (.slice A3 lf.length c3)) ∧ (b 16 = true → b 18 = false → TriB w' ob v1 v2 (.slice A3 lf.length c3)) ∧ (b 18 = true → TriB w' ob v1 v2 v3) ∧ (b 3 = true → (m3_ : Value) = .slice (some ⟨gb1, 0, none⟩) 1 1) ∧ (b 7 = true → (m7_ : Value) = .slice (some ⟨gb2, 0, none⟩) 1 1) ∧ (b 11 = true → (m11_ : Value) = .slice (some ⟨gb3, 0, none⟩) 1 1)) HT_.out HW_.out (by kernel_rfl) (by kernel_rfl) ?_ ?_ ?_
      · exact ⟨0, 0, 0, .bool false, .bool false, .bool false, .bool false, .bool false, .bool false, by simp only [putSel, Bool.false_eq_true, if_false], GS.out, fun _ => T0.out, fun h_ => absurd h_ (by decide), fun h_ => absurd h_ (by decide), fun h_ => absurd h_ (by decide), fun h_ => absurd h_ (by decide), fun h_ => absurd h_ (by decide), fun h_ => absurd h_ (by decide), fun _ => K0.out, fun h_ => absurd h_ (by decide), fun h_ => absurd h_ (by decide), fun h_ => absurd h_ (by decide), fun h_ => absurd h_ (by decide), fun h_ => absurd h_ (by decide), fun h_ => absurd h_ (by decide)⟩
      · skip
        clear GS K0 T0
        refine steps_cons ?_ ?_
        · rintro b a w' ⟨gb1, gb2, gb3, v1, v2, v3, m3_, m7_, m11_, ha, Q_GS, Q_T0, Q_T1, Q_T2, Q_T3, Q_B1, Q_B2, Q_B3, Q_K0, Q_K1, Q_K2, Q_K3, Q_X3_, Q_X7_, Q_X11_⟩ hb_ hon hoff
          refine ⟨_, rfl, fun K hK => ?_⟩
          have e33 : a.tmps[33]? = some (.pointer (some ⟨ob, 0, none⟩)) := by rw [ha]; exact (putSel_off rfl).trans rfl
          replace ha := Aside0.mk ha
          have GS := Aside0.mk Q_GS
          have T0 := Aside0.mk (Q_T0 (hoff 4 (by kernel_rfl)))
          have K0 := Aside0.mk (Q_K0 (hoff 14 (by kernel_rfl)))
          have hk := triB_0 K0.out
          refine value_ (w1 := w') (v := .slice A1 lo.length c1) (by rfl) rfl ?_ ?_
          · go_simp
            (try simp only [i64_w])
            try rfl
          refine hK.out _ _ ⟨gb1, gb2, gb3, v1, v2, v3, m3_, m7_, m11_, (by rw [ha.out]; exact putSel_upk 0 hb_ rfl rfl rfl), Q_GS, Q_T0, fun h0_ _ => absurd ((hoff 4 (by kernel_rfl)).symm.trans h0_) (by decide), fun h0_ _ => absurd ((hoff 8 (by kernel_rfl)).symm.trans h0_) (by decide), fun h0_ => absurd ((hoff 12 (by kernel_rfl)).symm.trans h0_) (by decide), Q_B1, Q_B2, Q_B3, Q_K0, fun h0_ _ => absurd ((hoff 14 (by kernel_rfl)).symm.trans h0_) (by decide), fun h0_ _ => absurd ((hoff 16 (by kernel_rfl)).symm.trans h0_) (by decide), fun h0_ => absurd ((hoff 18 (by kernel_rfl)).symm.trans h0_) (by decide), Q_X3_, Q_X7_, Q_X11_⟩
        refine steps_cons ?_ ?_
        · rintro b a w' ⟨gb1, gb2, gb3, v1, v2, v3, m3_, m7_, m11_, ha, Q_GS, Q_T0, Q_T1, Q_T2, Q_T3, Q_B1, Q_B2, Q_B3, Q_K0, Q_K1, Q_K2, Q_K3, Q_X3_, Q_X7_, Q_X11_⟩ hb_ hon hoff
          refine ⟨_, rfl, fun K hK => ?_⟩
          have e35 : a.tmps[35]? = some (.bool x) := by rw [ha]; exact (putSel_off rfl).trans rfl
          replace ha := Aside0.mk ha
          have GS := Aside0.mk Q_GS
          have T0 := Aside0.mk (Q_T0 (hoff 4 (by kernel_rfl)))
          have K0 := Aside0.mk (Q_K0 (hoff 14 (by kernel_rfl)))
          refine value_ (w1 := w'.alloc (.cells #[.bool x] 4)) (v := .slice (some ⟨w'.heap.size, 0, none⟩) 1 1) (by rfl) rfl ?_ ?_
          · go_simp
          refine hK.out _ _ ⟨w'.heap.size, gb2, gb3, v1, v2, v3, (.slice (some ⟨w'.heap.size, 0, none⟩) 1 1), m7_, m11_, (by rw [ha.out]; exact putSel_upk 1 hb_ rfl rfl rfl), le_alloc GS.out _, fun _ => T0.out.alloc _, fun h0_ _ => absurd ((hoff 4 (by kernel_rfl)).symm.trans h0_) (by decide), fun h0_ _ => absurd ((hoff 8 (by kernel_rfl)).symm.trans h0_) (by decide), fun h0_ => absurd ((hoff 12 (by kernel_rfl)).symm.trans h0_) (by decide), fun _ _ => ⟨GS.out, heap_alloc_new w' _⟩, fun h0_ h1_ => ⟨(Q_B2 h0_ h1_).1, blk_alloc (Q_B2 h0_ h1_).2 _⟩, fun h0_ h1_ => ⟨(Q_B3 h0_ h1_).1, blk_alloc (Q_B3 h0_ h1_).2 _⟩, fun _ => blk_alloc K0.out _, fun h0_ _ => absurd ((hoff 14 (by kernel_rfl)).symm.trans h0_) (by decide), fun h0_ _ => absurd ((hoff 16 (by kernel_rfl)).symm.trans h0_) (by decide), fun h0_ => absurd ((hoff 18 (by kernel_rfl)).symm.trans h0_) (by decide), fun _ => rfl, Q_X7_, Q_X11_⟩
        refine steps_cons ?_ ?_
        · rintro b a w' ⟨gb1, gb2, gb3, v1, v2, v3, m3_, m7_, m11_, ha, Q_GS, Q_T0, Q_T1, Q_T2, Q_T3, Q_B1, Q_B2, Q_B3, Q_K0, Q_K1, Q_K2, Q_K3, Q_X3_, Q_X7_, Q_X11_⟩ hb_ hon hoff
          refine ⟨_, rfl, fun K hK => ?_⟩
          have e34 : a.tmps[34]? = some (.slice A1 lo.length c1) := by rw [ha]; exact putSel_on (e := (1, 34, .slice A1 lo.length c1)) 0 rfl rfl (hon 1 (by kernel_rfl)) rfl
          have e36 : a.tmps[36]? = some (m3_) := by rw [ha]; exact putSel_on (e := (3, 36, m3_)) 1 rfl rfl (hon 3 (by kernel_rfl)) rfl
          rw [Q_X3_ (hon 3 (by kernel_rfl))] at e36
          replace ha := Aside0.mk ha
          have GS := Aside0.mk Q_GS
          have T0 := Aside0.mk (Q_T0 hb_)
          have B1 := Aside0.mk (Q_B1 (hon 3 (by kernel_rfl)) hb_)
          have K0 := Aside0.mk (Q_K0 (hoff 14 (by kernel_rfl)))
          refine step_append_lies _ rfl (.tmp 34) (.tmp 36) 45 (by rfl) w0.heap.size 4 iB (.bool false) 1 1 HUS.out HIB.out.1 HIB.out.2.1 HIB.out.2.2.1 HIB.out.2.2.2 rfl (by decide) (.slice A1 lo.length c1) _ _ (eval_of e34) (T0.out.o 0) ⟨gb1, 0, none⟩ 1 1 [.bool x] (eval_of e36) rfl (World.news_of_block B1.out.2) (by intro u hu; rw [List.mem_singleton.1 hu]; rfl) (by decide) (HBD.out 0).1 (HBD.out 0).2 (Nat.le_trans HBB.out GS.out) w'.heap.size rfl ?_
          intro g cap w1 hown hgrow hat hlt
          refine hK.out _ _ ⟨gb1, gb2, gb3, (.slice (some ⟨g, 0, none⟩) (lo.length + 1) cap), v2, v3, m3_, m7_, m11_, (by rw [ha.out]; exact putSel_upk 2 hb_ rfl rfl rfl), Nat.le_trans GS.out hgrow.size, fun h0_ => absurd ((up_self b 4).symm.trans h0_) (by decide), fun _ _ => tri_app0 (T0.out.app 0 rfl x hown hgrow hat), fun h0_ _ => absurd ((hoff 8 (by kernel_rfl)).symm.trans h0_) (by decide), fun h0_ => absurd ((hoff 12 (by kernel_rfl)).symm.trans h0_) (by decide), fun _ h1_ => absurd ((up_self b 4).symm.trans h1_) (by decide), fun h0_ h1_ => T0.out.keepB 0 rfl (Q_B2 h0_ h1_) hgrow, fun h0_ h1_ => T0.out.keepB 0 rfl (Q_B3 h0_ h1_) hgrow, fun _ => T0.out.keepR 0 rfl K0.out hgrow, fun h0_ _ => absurd ((hoff 14 (by kernel_rfl)).symm.trans h0_) (by decide), fun h0_ _ => absurd ((hoff 16 (by kernel_rfl)).symm.trans h0_) (by decide), fun h0_ => absurd ((hoff 18 (by kernel_rfl)).symm.trans h0_) (by decide), Q_X3_, Q_X7_, Q_X11_⟩
        refine steps_cons ?_ ?_
        · rintro b a w' ⟨gb1, gb2, gb3, v1, v2, v3, m3_, m7_, m11_, ha, Q_GS, Q_T0, Q_T1, Q_T2, Q_T3, Q_B1, Q_B2, Q_B3, Q_K0, Q_K1, Q_K2, Q_K3, Q_X3_, Q_X7_, Q_X11_⟩ hb_ hon hoff
          refine ⟨_, rfl, fun K hK => ?_⟩
          have e38 : a.tmps[38]? = some (.pointer (some ⟨ob, 1, none⟩)) := by rw [ha]; exact (putSel_off rfl).trans rfl
          replace ha := Aside0.mk ha
          have GS := Aside0.mk Q_GS
          have K0 := Aside0.mk (Q_K0 (hoff 14 (by kernel_rfl)))
          have hk := triB_1 K0.out
          refine value_ (w1 := w') (v := .slice A2 ll.length c2) (by rfl) rfl ?_ ?_
          · go_simp
            (try simp only [i64_w])
            try rfl
          refine hK.out _ _ ⟨gb1, gb2, gb3, v1, v2, v3, m3_, m7_, m11_, (by rw [ha.out]; exact putSel_upk 3 hb_ rfl rfl rfl), Q_GS, Q_T0, Q_T1, fun h0_ _ => absurd ((hoff 8 (by kernel_rfl)).symm.trans h0_) (by decide), fun h0_ => absurd ((hoff 12 (by kernel_rfl)).symm.trans h0_) (by decide), Q_B1, Q_B2, Q_B3, Q_K0, fun h0_ _ => absurd ((hoff 14 (by kernel_rfl)).symm.trans h0_) (by decide), fun h0_ _ => absurd ((hoff 16 (by kernel_rfl)).symm.trans h0_) (by decide), fun h0_ => absurd ((hoff 18 (by kernel_rfl)).symm.trans h0_) (by decide), Q_X3_, Q_X7_, Q_X11_⟩
        refine steps_cons ?_ ?_
        · rintro b a w' ⟨gb1, gb2, gb3, v1, v2, v3, m3_, m7_, m11_, ha, Q_GS, Q_T0, Q_T1, Q_T2, Q_T3, Q_B1, Q_B2, Q_B3, Q_K0, Q_K1, Q_K2, Q_K3, Q_X3_, Q_X7_, Q_X11_⟩ hb_ hon hoff
          refine ⟨_, rfl, fun K hK => ?_⟩
          replace ha := Aside0.mk ha
          have GS := Aside0.mk Q_GS
          have K0 := Aside0.mk (Q_K0 (hoff 14 (by kernel_rfl)))
          refine value_ (w1 := w'.alloc (.cells #[.bool false] 4)) (v := .slice (some ⟨w'.heap.size, 0, none⟩) 1 1) (by rfl) rfl ?_ ?_
          · go_simp
          refine hK.out _ _ ⟨gb1, w'.heap.size, gb3, v1, v2, v3, m3_, (.slice (some ⟨w'.heap.size, 0, none⟩) 1 1), m11_, (by rw [ha.out]; exact putSel_upk 4 hb_ rfl rfl rfl), le_alloc GS.out _, fun h0_ => (Q_T0 h0_).alloc _, fun h0_ h1_ => (Q_T1 h0_ h1_).alloc _, fun h0_ _ => absurd ((hoff 8 (by kernel_rfl)).symm.trans h0_) (by decide), fun h0_ => absurd ((hoff 12 (by kernel_rfl)).symm.trans h0_) (by decide), fun h0_ h1_ => ⟨(Q_B1 h0_ h1_).1, blk_alloc (Q_B1 h0_ h1_).2 _⟩, fun _ _ => ⟨GS.out, heap_alloc_new w' _⟩, fun h0_ h1_ => ⟨(Q_B3 h0_ h1_).1, blk_alloc (Q_B3 h0_ h1_).2 _⟩, fun _ => blk_alloc K0.out _, fun h0_ _ => absurd ((hoff 14 (by kernel_rfl)).symm.trans h0_) (by decide), fun h0_ _ => absurd ((hoff 16 (by kernel_rfl)).symm.trans h0_) (by decide), fun h0_ => absurd ((hoff 18 (by kernel_rfl)).symm.trans h0_) (by decide), Q_X3_, fun _ => rfl, Q_X11_⟩
        refine steps_cons ?_ ?_
        · rintro b a w' ⟨gb1, gb2, gb3, v1, v2, v3, m3_, m7_, m11_, ha, Q_GS, Q_T0, Q_T1, Q_T2, Q_T3, Q_B1, Q_B2, Q_B3, Q_K0, Q_K1, Q_K2, Q_K3, Q_X3_, Q_X7_, Q_X11_⟩ hb_ hon hoff
          refine ⟨_, rfl, fun K hK => ?_⟩
          have e39 : a.tmps[39]? = some (.slice A2 ll.length c2) := by rw [ha]; exact putSel_on (e := (6, 39, .slice A2 ll.length c2)) 3 rfl rfl (hon 6 (by kernel_rfl)) rfl
          have e40 : a.tmps[40]? = some (m7_) := by rw [ha]; exact putSel_on (e := (7, 40, m7_)) 4 rfl rfl (hon 7 (by kernel_rfl)) rfl
          rw [Q_X7_ (hon 7 (by kernel_rfl))] at e40
          replace ha := Aside0.mk ha
          have GS := Aside0.mk Q_GS
          have T1 := Aside0.mk (Q_T1 (hon 4 (by kernel_rfl)) hb_)
          have B2 := Aside0.mk (Q_B2 (hon 7 (by kernel_rfl)) hb_)
          have K0 := Aside0.mk (Q_K0 (hoff 14 (by kernel_rfl)))
          refine step_append_lies _ rfl (.tmp 39) (.tmp 40) 45 (by rfl) w0.heap.size 4 iB (.bool false) 1 1 HUS.out HIB.out.1 HIB.out.2.1 HIB.out.2.2.1 HIB.out.2.2.2 rfl (by decide) (.slice A2 ll.length c2) _ _ (eval_of e39) (T1.out.o 1) ⟨gb2, 0, none⟩ 1 1 [.bool false] (eval_of e40) rfl (World.news_of_block B2.out.2) (by intro u hu; rw [List.mem_singleton.1 hu]; rfl) (by decide) (HBD.out 1).1 (HBD.out 1).2 (Nat.le_trans HBB.out GS.out) w'.heap.size rfl ?_
          intro g cap w1 hown hgrow hat hlt
          refine hK.out _ _ ⟨gb1, gb2, gb3, v1, (.slice (some ⟨g, 0, none⟩) (ll.length + 1) cap), v3, m3_, m7_, m11_, (by rw [ha.out]; exact putSel_upk 5 hb_ rfl rfl rfl), Nat.le_trans GS.out hgrow.size, fun h0_ => absurd ((hon 4 (by kernel_rfl)).symm.trans h0_) (by decide), fun _ h1_ => absurd ((up_self b 8).symm.trans h1_) (by decide), fun _ _ => tri_app1 (T1.out.app 1 rfl false hown hgrow hat), fun h0_ => absurd ((hoff 12 (by kernel_rfl)).symm.trans h0_) (by decide), fun _ h1_ => absurd ((hon 4 (by kernel_rfl)).symm.trans h1_) (by decide), fun _ h1_ => absurd ((up_self b 8).symm.trans h1_) (by decide), fun h0_ h1_ => T1.out.keepB 1 rfl (Q_B3 h0_ h1_) hgrow, fun _ => T1.out.keepR 1 rfl K0.out hgrow, fun h0_ _ => absurd ((hoff 14 (by kernel_rfl)).symm.trans h0_) (by decide), fun h0_ _ => absurd ((hoff 16 (by kernel_rfl)).symm.trans h0_) (by decide), fun h0_ => absurd ((hoff 18 (by kernel_rfl)).symm.trans h0_) (by decide), Q_X3_, Q_X7_, Q_X11_⟩
        refine steps_cons ?_ ?_
        · rintro b a w' ⟨gb1, gb2, gb3, v1, v2, v3, m3_, m7_, m11_, ha, Q_GS, Q_T0, Q_T1, Q_T2, Q_T3, Q_B1, Q_B2, Q_B3, Q_K0, Q_K1, Q_K2, Q_K3, Q_X3_, Q_X7_, Q_X11_⟩ hb_ hon hoff
          refine ⟨_, rfl, fun K hK => ?_⟩
          have e42 : a.tmps[42]? = some (.pointer (some ⟨ob, 2, none⟩)) := by rw [ha]; exact (putSel_off rfl).trans rfl
          replace ha := Aside0.mk ha
          have GS := Aside0.mk Q_GS
          have K0 := Aside0.mk (Q_K0 (hoff 14 (by kernel_rfl)))
          have hk := triB_2 K0.out
          refine value_ (w1 := w') (v := .slice A3 lf.length c3) (by rfl) rfl ?_ ?_
          · go_simp
            (try simp only [i64_w])
            try rfl
          refine hK.out _ _ ⟨gb1, gb2, gb3, v1, v2, v3, m3_, m7_, m11_, (by rw [ha.out]; exact putSel_upk 6 hb_ rfl rfl rfl), Q_GS, Q_T0, Q_T1, Q_T2, fun h0_ => absurd ((hoff 12 (by kernel_rfl)).symm.trans h0_) (by decide), Q_B1, Q_B2, Q_B3, Q_K0, fun h0_ _ => absurd ((hoff 14 (by kernel_rfl)).symm.trans h0_) (by decide), fun h0_ _ => absurd ((hoff 16 (by kernel_rfl)).symm.trans h0_) (by decide), fun h0_ => absurd ((hoff 18 (by kernel_rfl)).symm.trans h0_) (by decide), Q_X3_, Q_X7_, Q_X11_⟩
        refine steps_cons ?_ ?_
        · rintro b a w' ⟨gb1, gb2, gb3, v1, v2, v3, m3_, m7_, m11_, ha, Q_GS, Q_T0, Q_T1, Q_T2, Q_T3, Q_B1, Q_B2, Q_B3, Q_K0, Q_K1, Q_K2, Q_K3, Q_X3_, Q_X7_, Q_X11_⟩ hb_ hon hoff
          refine ⟨_, rfl, fun K hK => ?_⟩
          replace ha := Aside0.mk ha
          have GS := Aside0.mk Q_GS
          have K0 := Aside0.mk (Q_K0 (hoff 14 (by kernel_rfl)))
          refine value_ (w1 := w'.alloc (.cells #[.bool false] 4)) (v := .slice (some ⟨w'.heap.size, 0, none⟩) 1 1) (by rfl) rfl ?_ ?_
          · go_simp
          refine hK.out _ _ ⟨gb1, gb2, w'.heap.size, v1, v2, v3, m3_, m7_, (.slice (some ⟨w'.heap.size, 0, none⟩) 1 1), (by rw [ha.out]; exact putSel_upk 7 hb_ rfl rfl rfl), le_alloc GS.out _, fun h0_ => (Q_T0 h0_).alloc _, fun h0_ h1_ => (Q_T1 h0_ h1_).alloc _, fun h0_ h1_ => (Q_T2 h0_ h1_).alloc _, fun h0_ => absurd ((hoff 12 (by kernel_rfl)).symm.trans h0_) (by decide), fun h0_ h1_ => ⟨(Q_B1 h0_ h1_).1, blk_alloc (Q_B1 h0_ h1_).2 _⟩, fun h0_ h1_ => ⟨(Q_B2 h0_ h1_).1, blk_alloc (Q_B2 h0_ h1_).2 _⟩, fun _ _ => ⟨GS.out, heap_alloc_new w' _⟩, fun _ => blk_alloc K0.out _, fun h0_ _ => absurd ((hoff 14 (by kernel_rfl)).symm.trans h0_) (by decide), fun h0_ _ => absurd ((hoff 16 (by kernel_rfl)).symm.trans h0_) (by decide), fun h0_ => absurd ((hoff 18 (by kernel_rfl)).symm.trans h0_) (by decide), Q_X3_, Q_X7_, fun _ => rfl⟩
        refine steps_cons ?_ ?_
        · rintro b a w' ⟨gb1, gb2, gb3, v1, v2, v3, m3_, m7_, m11_, ha, Q_GS, Q_T0, Q_T1, Q_T2, Q_T3, Q_B1, Q_B2, Q_B3, Q_K0, Q_K1, Q_K2, Q_K3, Q_X3_, Q_X7_, Q_X11_⟩ hb_ hon hoff
          refine ⟨_, rfl, fun K hK => ?_⟩
          have e43 : a.tmps[43]? = some (.slice A3 lf.length c3) := by rw [ha]; exact putSel_on (e := (10, 43, .slice A3 lf.length c3)) 6 rfl rfl (hon 10 (by kernel_rfl)) rfl
          have e44 : a.tmps[44]? = some (m11_) := by rw [ha]; exact putSel_on (e := (11, 44, m11_)) 7 rfl rfl (hon 11 (by kernel_rfl)) rfl
          rw [Q_X11_ (hon 11 (by kernel_rfl))] at e44
          replace ha := Aside0.mk ha
          have GS := Aside0.mk Q_GS
          have T2 := Aside0.mk (Q_T2 (hon 8 (by kernel_rfl)) hb_)
          have B3 := Aside0.mk (Q_B3 (hon 11 (by kernel_rfl)) hb_)
          have K0 := Aside0.mk (Q_K0 (hoff 14 (by kernel_rfl)))
          refine step_append_lies _ rfl (.tmp 43) (.tmp 44) 45 (by rfl) w0.heap.size 4 iB (.bool false) 1 1 HUS.out HIB.out.1 HIB.out.2.1 HIB.out.2.2.1 HIB.out.2.2.2 rfl (by decide) (.slice A3 lf.length c3) _ _ (eval_of e43) (T2.out.o 2) ⟨gb3, 0, none⟩ 1 1 [.bool false] (eval_of e44) rfl (World.news_of_block B3.out.2) (by intro u hu; rw [List.mem_singleton.1 hu]; rfl) (by decide) (HBD.out 2).1 (HBD.out 2).2 (Nat.le_trans HBB.out GS.out) w'.heap.size rfl ?_
          intro g cap w1 hown hgrow hat hlt
          refine hK.out _ _ ⟨gb1, gb2, gb3, v1, v2, (.slice (some ⟨g, 0, none⟩) (lf.length + 1) cap), m3_, m7_, m11_, (by rw [ha.out]; exact putSel_upk 8 hb_ rfl rfl rfl), Nat.le_trans GS.out hgrow.size, fun h0_ => absurd ((hon 4 (by kernel_rfl)).symm.trans h0_) (by decide), fun _ h1_ => absurd ((hon 8 (by kernel_rfl)).symm.trans h1_) (by decide), fun _ h1_ => absurd ((up_self b 12).symm.trans h1_) (by decide), fun _ => tri_app2 (T2.out.app 2 rfl false hown hgrow hat), fun _ h1_ => absurd ((hon 4 (by kernel_rfl)).symm.trans h1_) (by decide), fun _ h1_ => absurd ((hon 8 (by kernel_rfl)).symm.trans h1_) (by decide), fun _ h1_ => absurd ((up_self b 12).symm.trans h1_) (by decide), fun _ => T2.out.keepR 2 rfl K0.out hgrow, fun h0_ _ => absurd ((hoff 14 (by kernel_rfl)).symm.trans h0_) (by decide), fun h0_ _ => absurd ((hoff 16 (by kernel_rfl)).symm.trans h0_) (by decide), fun h0_ => absurd ((hoff 18 (by kernel_rfl)).symm.trans h0_) (by decide), Q_X3_, Q_X7_, Q_X11_⟩
        refine steps_cons ?_ ?_
        · rintro b a w' ⟨gb1, gb2, gb3, v1, v2, v3, m3_, m7_, m11_, ha, Q_GS, Q_T0, Q_T1, Q_T2, Q_T3, Q_B1, Q_B2, Q_B3, Q_K0, Q_K1, Q_K2, Q_K3, Q_X3_, Q_X7_, Q_X11_⟩ hb_ hon hoff
          refine ⟨_, rfl, fun K hK => ?_⟩
          have e9 : a.tmps[9]? = some (.pointer (some ⟨ob, 0, none⟩)) := by rw [ha]; exact (putSel_off rfl).trans rfl
          replace ha := Aside0.mk ha
          have GS := Aside0.mk Q_GS
          have K0 := Aside0.mk (Q_K0 (hoff 14 (by kernel_rfl)))
          refine value_ (w1 := w') (v := .pointer (some ⟨ob, 0, none⟩)) (by rfl) rfl ?_ ?_
          · go_simp
            (try simp only [i64_w])
            try rfl
          refine hK.out _ _ ⟨gb1, gb2, gb3, v1, v2, v3, m3_, m7_, m11_, (by rw [ha.out]; exact putSel_upk 9 hb_ rfl rfl rfl), Q_GS, fun h0_ => absurd ((hon 4 (by kernel_rfl)).symm.trans h0_) (by decide), Q_T1, Q_T2, Q_T3, fun _ h1_ => absurd ((hon 4 (by kernel_rfl)).symm.trans h1_) (by decide), Q_B2, Q_B3, Q_K0, fun h0_ _ => absurd ((hoff 14 (by kernel_rfl)).symm.trans h0_) (by decide), fun h0_ _ => absurd ((hoff 16 (by kernel_rfl)).symm.trans h0_) (by decide), fun h0_ => absurd ((hoff 18 (by kernel_rfl)).symm.trans h0_) (by decide), Q_X3_, Q_X7_, Q_X11_⟩
        refine steps_cons ?_ ?_
        · rintro b a w' ⟨gb1, gb2, gb3, v1, v2, v3, m3_, m7_, m11_, ha, Q_GS, Q_T0, Q_T1, Q_T2, Q_T3, Q_B1, Q_B2, Q_B3, Q_K0, Q_K1, Q_K2, Q_K3, Q_X3_, Q_X7_, Q_X11_⟩ hb_ hon hoff
          refine ⟨_, rfl, fun K hK => ?_⟩
          have e46 : a.tmps[46]? = some (.pointer (some ⟨ob, 0, none⟩)) := by rw [ha]; exact putSel_on (e := (13, 46, .pointer (some ⟨ob, 0, none⟩))) 9 rfl rfl (hon 13 (by kernel_rfl)) rfl
          have e37 : a.tmps[37]? = some (v1) := by rw [ha]; exact putSel_on (e := (4, 37, v1)) 2 rfl rfl (hon 4 (by kernel_rfl)) rfl
          replace ha := Aside0.mk ha
          have GS := Aside0.mk Q_GS
          have T3 := Aside0.mk (Q_T3 (hon 12 (by kernel_rfl)))
          have K0 := Aside0.mk (Q_K0 hb_)
          obtain ⟨A_, c_, e_, _⟩ := own_form (T3.out.o 0)
          change v1 = .slice A_ (lo ++ [x]).length c_ at e_
          subst e_
          have hc := triB_0 K0.out
          have hf := blk_frozen K0.out 0
          refine skip_ (w1 := w'.setCell ⟨ob, 0, none⟩ (.slice A_ (lo ++ [x]).length c_)) (by rfl) rfl ?_ ?_
          · go_simp
          refine hK.out _ _ ⟨gb1, gb2, gb3, (.slice A_ (lo ++ [x]).length c_), v2, v3, m3_, m7_, m11_, (by rw [ha.out]; exact putSel_none (v := undef) rfl), le_set GS.out _ _, fun h0_ => absurd ((hon 4 (by kernel_rfl)).symm.trans h0_) (by decide), fun _ h1_ => absurd ((hon 8 (by kernel_rfl)).symm.trans h1_) (by decide), fun _ h1_ => absurd ((hon 12 (by kernel_rfl)).symm.trans h1_) (by decide), fun _ => T3.out.setR _ _, fun _ h1_ => absurd ((hon 4 (by kernel_rfl)).symm.trans h1_) (by decide), fun _ h1_ => absurd ((hon 8 (by kernel_rfl)).symm.trans h1_) (by decide), fun _ h1_ => absurd ((hon 12 (by kernel_rfl)).symm.trans h1_) (by decide), fun h0_ => absurd ((up_self b 14).symm.trans h0_) (by decide), fun _ _ => triB_set0 K0.out _, fun h0_ _ => absurd ((hoff 16 (by kernel_rfl)).symm.trans h0_) (by decide), fun h0_ => absurd ((hoff 18 (by kernel_rfl)).symm.trans h0_) (by decide), Q_X3_, Q_X7_, Q_X11_⟩
        refine steps_cons ?_ ?_
        · rintro b a w' ⟨gb1, gb2, gb3, v1, v2, v3, m3_, m7_, m11_, ha, Q_GS, Q_T0, Q_T1, Q_T2, Q_T3, Q_B1, Q_B2, Q_B3, Q_K0, Q_K1, Q_K2, Q_K3, Q_X3_, Q_X7_, Q_X11_⟩ hb_ hon hoff
          refine ⟨_, rfl, fun K hK => ?_⟩
          have e9 : a.tmps[9]? = some (.pointer (some ⟨ob, 0, none⟩)) := by rw [ha]; exact (putSel_off rfl).trans rfl
          replace ha := Aside0.mk ha
          have GS := Aside0.mk Q_GS
          have T3 := Aside0.mk (Q_T3 (hon 12 (by kernel_rfl)))
          have K1 := Aside0.mk (Q_K1 (hon 14 (by kernel_rfl)) (hoff 16 (by kernel_rfl)))
          refine value_ (w1 := w') (v := .pointer (some ⟨ob, 1, none⟩)) (by rfl) rfl ?_ ?_
          · go_simp
            (try simp only [i64_w])
            try rfl
          refine hK.out _ _ ⟨gb1, gb2, gb3, v1, v2, v3, m3_, m7_, m11_, (by rw [ha.out]; exact putSel_upk 10 hb_ rfl rfl rfl), Q_GS, fun h0_ => absurd ((hon 4 (by kernel_rfl)).symm.trans h0_) (by decide), fun _ h1_ => absurd ((hon 8 (by kernel_rfl)).symm.trans h1_) (by decide), fun _ h1_ => absurd ((hon 12 (by kernel_rfl)).symm.trans h1_) (by decide), Q_T3, fun _ h1_ => absurd ((hon 4 (by kernel_rfl)).symm.trans h1_) (by decide), fun _ h1_ => absurd ((hon 8 (by kernel_rfl)).symm.trans h1_) (by decide), fun _ h1_ => absurd ((hon 12 (by kernel_rfl)).symm.trans h1_) (by decide), fun h0_ => absurd ((hon 14 (by kernel_rfl)).symm.trans h0_) (by decide), Q_K1, fun h0_ _ => absurd ((hoff 16 (by kernel_rfl)).symm.trans h0_) (by decide), fun h0_ => absurd ((hoff 18 (by kernel_rfl)).symm.trans h0_) (by decide), Q_X3_, Q_X7_, Q_X11_⟩
        refine steps_cons ?_ ?_
        · rintro b a w' ⟨gb1, gb2, gb3, v1, v2, v3, m3_, m7_, m11_, ha, Q_GS, Q_T0, Q_T1, Q_T2, Q_T3, Q_B1, Q_B2, Q_B3, Q_K0, Q_K1, Q_K2, Q_K3, Q_X3_, Q_X7_, Q_X11_⟩ hb_ hon hoff
          refine ⟨_, rfl, fun K hK => ?_⟩
          have e47 : a.tmps[47]? = some (.pointer (some ⟨ob, 1, none⟩)) := by rw [ha]; exact putSel_on (e := (15, 47, .pointer (some ⟨ob, 1, none⟩))) 10 rfl rfl (hon 15 (by kernel_rfl)) rfl
          have e41 : a.tmps[41]? = some (v2) := by rw [ha]; exact putSel_on (e := (8, 41, v2)) 5 rfl rfl (hon 8 (by kernel_rfl)) rfl
          replace ha := Aside0.mk ha
          have GS := Aside0.mk Q_GS
          have T3 := Aside0.mk (Q_T3 (hon 12 (by kernel_rfl)))
          have K1 := Aside0.mk (Q_K1 (hon 14 (by kernel_rfl)) hb_)
          obtain ⟨A_, c_, e_, _⟩ := own_form (T3.out.o 1)
          change v2 = .slice A_ (ll ++ [false]).length c_ at e_
          subst e_
          have hc := triB_1 K1.out
          have hf := blk_frozen K1.out 1
          refine skip_ (w1 := w'.setCell ⟨ob, 1, none⟩ (.slice A_ (ll ++ [false]).length c_)) (by rfl) rfl ?_ ?_
          · go_simp
          refine hK.out _ _ ⟨gb1, gb2, gb3, v1, (.slice A_ (ll ++ [false]).length c_), v3, m3_, m7_, m11_, (by rw [ha.out]; exact putSel_none (v := undef) rfl), le_set GS.out _ _, fun h0_ => absurd ((hon 4 (by kernel_rfl)).symm.trans h0_) (by decide), fun _ h1_ => absurd ((hon 8 (by kernel_rfl)).symm.trans h1_) (by decide), fun _ h1_ => absurd ((hon 12 (by kernel_rfl)).symm.trans h1_) (by decide), fun _ => T3.out.setR _ _, fun _ h1_ => absurd ((hon 4 (by kernel_rfl)).symm.trans h1_) (by decide), fun _ h1_ => absurd ((hon 8 (by kernel_rfl)).symm.trans h1_) (by decide), fun _ h1_ => absurd ((hon 12 (by kernel_rfl)).symm.trans h1_) (by decide), fun h0_ => absurd ((hon 14 (by kernel_rfl)).symm.trans h0_) (by decide), fun _ h1_ => absurd ((up_self b 16).symm.trans h1_) (by decide), fun _ _ => triB_set1 K1.out _, fun h0_ => absurd ((hoff 18 (by kernel_rfl)).symm.trans h0_) (by decide), Q_X3_, Q_X7_, Q_X11_⟩
        refine steps_cons ?_ ?_
        · rintro b a w' ⟨gb1, gb2, gb3, v1, v2, v3, m3_, m7_, m11_, ha, Q_GS, Q_T0, Q_T1, Q_T2, Q_T3, Q_B1, Q_B2, Q_B3, Q_K0, Q_K1, Q_K2, Q_K3, Q_X3_, Q_X7_, Q_X11_⟩ hb_ hon hoff
          refine ⟨_, rfl, fun K hK => ?_⟩
          have e9 : a.tmps[9]? = some (.pointer (some ⟨ob, 0, none⟩)) := by rw [ha]; exact (putSel_off rfl).trans rfl
          replace ha := Aside0.mk ha
          have GS := Aside0.mk Q_GS
          have T3 := Aside0.mk (Q_T3 (hon 12 (by kernel_rfl)))
          have K2 := Aside0.mk (Q_K2 (hon 16 (by kernel_rfl)) (hoff 18 (by kernel_rfl)))
          refine value_ (w1 := w') (v := .pointer (some ⟨ob, 2, none⟩)) (by rfl) rfl ?_ ?_
          · go_simp
            (try simp only [i64_w])
            try rfl
          refine hK.out _ _ ⟨gb1, gb2, gb3, v1, v2, v3, m3_, m7_, m11_, (by rw [ha.out]; exact putSel_upk 11 hb_ rfl rfl rfl), Q_GS, fun h0_ => absurd ((hon 4 (by kernel_rfl)).symm.trans h0_) (by decide), fun _ h1_ => absurd ((hon 8 (by kernel_rfl)).symm.trans h1_) (by decide), fun _ h1_ => absurd ((hon 12 (by kernel_rfl)).symm.trans h1_) (by decide), Q_T3, fun _ h1_ => absurd ((hon 4 (by kernel_rfl)).symm.trans h1_) (by decide), fun _ h1_ => absurd ((hon 8 (by kernel_rfl)).symm.trans h1_) (by decide), fun _ h1_ => absurd ((hon 12 (by kernel_rfl)).symm.trans h1_) (by decide), fun h0_ => absurd ((hon 14 (by kernel_rfl)).symm.trans h0_) (by decide), fun _ h1_ => absurd ((hon 16 (by kernel_rfl)).symm.trans h1_) (by decide), Q_K2, fun h0_ => absurd ((hoff 18 (by kernel_rfl)).symm.trans h0_) (by decide), Q_X3_, Q_X7_, Q_X11_⟩
        refine steps_cons ?_ ?_
        · rintro b a w' ⟨gb1, gb2, gb3, v1, v2, v3, m3_, m7_, m11_, ha, Q_GS, Q_T0, Q_T1, Q_T2, Q_T3, Q_B1, Q_B2, Q_B3, Q_K0, Q_K1, Q_K2, Q_K3, Q_X3_, Q_X7_, Q_X11_⟩ hb_ hon hoff
          refine ⟨_, rfl, fun K hK => ?_⟩
          have e48 : a.tmps[48]? = some (.pointer (some ⟨ob, 2, none⟩)) := by rw [ha]; exact putSel_on (e := (17, 48, .pointer (some ⟨ob, 2, none⟩))) 11 rfl rfl (hon 17 (by kernel_rfl)) rfl
          have e45 : a.tmps[45]? = some (v3) := by rw [ha]; exact putSel_on (e := (12, 45, v3)) 8 rfl rfl (hon 12 (by kernel_rfl)) rfl
          replace ha := Aside0.mk ha
          have GS := Aside0.mk Q_GS
          have T3 := Aside0.mk (Q_T3 (hon 12 (by kernel_rfl)))
          have K2 := Aside0.mk (Q_K2 (hon 16 (by kernel_rfl)) hb_)
          obtain ⟨A_, c_, e_, _⟩ := own_form (T3.out.o 2)
          change v3 = .slice A_ (lf ++ [false]).length c_ at e_
          subst e_
          have hc := triB_2 K2.out
          have hf := blk_frozen K2.out 2
          refine skip_ (w1 := w'.setCell ⟨ob, 2, none⟩ (.slice A_ (lf ++ [false]).length c_)) (by rfl) rfl ?_ ?_
          · go_simp
          refine hK.out _ _ ⟨gb1, gb2, gb3, v1, v2, (.slice A_ (lf ++ [false]).length c_), m3_, m7_, m11_, (by rw [ha.out]; exact putSel_none (v := undef) rfl), le_set GS.out _ _, fun h0_ => absurd ((hon 4 (by kernel_rfl)).symm.trans h0_) (by decide), fun _ h1_ => absurd ((hon 8 (by kernel_rfl)).symm.trans h1_) (by decide), fun _ h1_ => absurd ((hon 12 (by kernel_rfl)).symm.trans h1_) (by decide), fun _ => T3.out.setR _ _, fun _ h1_ => absurd ((hon 4 (by kernel_rfl)).symm.trans h1_) (by decide), fun _ h1_ => absurd ((hon 8 (by kernel_rfl)).symm.trans h1_) (by decide), fun _ h1_ => absurd ((hon 12 (by kernel_rfl)).symm.trans h1_) (by decide), fun h0_ => absurd ((hon 14 (by kernel_rfl)).symm.trans h0_) (by decide), fun _ h1_ => absurd ((hon 16 (by kernel_rfl)).symm.trans h1_) (by decide), fun _ h1_ => absurd ((up_self b 18).symm.trans h1_) (by decide), fun _ => triB_set2 K2.out _, Q_X3_, Q_X7_, Q_X11_⟩
        exact steps_nil
      · rintro b a w' hall ⟨gb1, gb2, gb3, v1, v2, v3, m3_, m7_, m11_, ha, Q_GS, Q_T0, Q_T1, Q_T2, Q_T3, Q_B1, Q_B2, Q_B3, Q_K0, Q_K1, Q_K2, Q_K3, Q_X3_, Q_X7_, Q_X11_⟩
        clear GS K0 T0
        have hb1_ := hall 1 (by kernel_rfl)
        have hb3_ := hall 3 (by kernel_rfl)
        have hb4_ := hall 4 (by kernel_rfl)
        have hb6_ := hall 6 (by kernel_rfl)
        have hb7_ := hall 7 (by kernel_rfl)
        have hb8_ := hall 8 (by kernel_rfl)
        have hb10_ := hall 10 (by kernel_rfl)
        have hb11_ := hall 11 (by kernel_rfl)
        have hb12_ := hall 12 (by kernel_rfl)
        have hb13_ := hall 13 (by kernel_rfl)
        have hb14_ := hall 14 (by kernel_rfl)
        have hb15_ := hall 15 (by kernel_rfl)
        have hb16_ := hall 16 (by kernel_rfl)
        have hb17_ := hall 17 (by kernel_rfl)
        have hb18_ := hall 18 (by kernel_rfl)
        subst ha
        obtain rfl := Q_X3_ hb3_
        obtain rfl := Q_X7_ hb7_
        obtain rfl := Q_X11_ hb11_
        simp only [putSel, hb1_, hb3_, hb4_, hb6_, hb7_, hb8_, hb10_, hb11_, hb12_, hb13_, hb14_, hb15_, hb16_, hb17_, hb18_, if_true, Act.put, List.setIfInBounds_toArray, List.set_cons_zero, List.set_cons_succ]
        have GS := Aside0.mk Q_GS
        clear Q_GS
        clear Q_T0
        clear Q_T1
        clear Q_T2
        have T3 := Aside0.mk (Q_T3 hb12_)
        clear Q_T3
        clear Q_B1
        clear Q_B2
        clear Q_B3
        clear Q_K0
        clear Q_K1
        clear Q_K2
        have K3 := Aside0.mk (Q_K3 hb18_)
        clear Q_K3
        clear hall hb1_ hb3_ hb4_ hb6_ hb7_ hb8_ hb10_ hb11_ hb12_ hb13_ hb14_ hb15_ hb16_ hb17_ hb18_
        go_wp2_with fail
        go_meet
        exact ⟨v1, v2, v3, by rw [HQ.out]; rfl, ⟨by rw [HE.out, HE.out]; exact T3.out⟩, ⟨K3.out⟩⟩
  case rest =>
    obtain ⟨u1, u2, u3, rfl, HRa, HKa⟩ := hcut
    have hfba := (HFB.out wc _ _ HRa.out).1
    have z2 : wc.cell? ⟨w.heap.size, 2, none⟩ = some (.slice A s.f2.length cp) := (blk_cell hfba 2).trans rfl
    have hT60 : K + tnL s.f2 ≤ 60 := by have := HKD.out; have := HTN.out; have := HBD.out; omega
    have HT60 := Aside0.mk hT60
    clear hfba x0 x1 x2 hT60
    go_wp2
    go_loopg [52, 3] s.f2.length (fun kq v52 v3 w' => ∃ (j q : Nat) (pre pO pL pF : List Bool) (u1 u2 u3 : Value), j + kq = s.f2.length ∧ v52 = .int .i64 j ∧ v3 = .int .i64 ((q : Nat) : Int) ∧ q ≤ 61 ∧ Aside0 (pre.length = j) ∧ Aside0 (pre ++ valL sv lt (s.f2.drop j) q = valL sv lt s.f2 K) ∧ Aside0 (q + tnL (s.f2.drop j) = K + tnL s.f2) ∧ Aside0 (K + pO.length = q ∧ pL.length = pO.length ∧ pF.length = pO.length) ∧ Aside0 (pO ++ tmOL sv lt (s.f2.drop j) q = tmOL sv lt s.f2 K) ∧ Aside0 (pL ++ tmBL sv lt (s.f2.drop j) q = tmBL sv lt s.f2 K) ∧ Aside0 (pF ++ tmFL sv lt (s.f2.drop j) q = tmFL sv lt s.f2 K) ∧ Aside0 (Rows w0 W4 ob (tri (.slice A1 lo.length c1) (.slice A2 ll.length c2) (.slice A3 lf.length c3)) w' (tri u1 u2 u3) (tri (lo ++ ownE s.f0 x ++ pO) (ll ++ ownE s.f0 (pre.getLastD false) ++ pL) (lf ++ ownE s.f0 (pre.getD 0 false) ++ pF))) ∧ Aside0 (TriB w' ob u1 u2 u3))
    case atStart => exact ⟨0, K, [], [], [], [], u1, u2, u3, by omega, rfl, rfl, hK61, ⟨rfl⟩, ⟨rfl⟩, ⟨rfl⟩, ⟨⟨rfl, rfl, rfl⟩⟩, ⟨rfl⟩, ⟨rfl⟩, ⟨rfl⟩, ⟨by rw [List.append_nil, List.append_nil, List.append_nil]; exact HRa.out⟩, HKa⟩
    case round =>
      obtain ⟨j, q, pre, pO, pL, pF, u1, u2, u3, hj, rfl, rfl, hq61, HPL, HPV, HTQ, HLN, HPO, HPB, HPF, HRj, HKj⟩ := hrel
      have HJ := Aside0.mk hj
      clear hj
      have HFBj := Aside0.mk (HFB.out wr _ _ HRj.out)
      by_cases hlt : j < s.f2.length
      · obtain ⟨ad, A5, c5, e0, hx0, hx1, hx2, hl5, hk5⟩ := kid_at HK.out HRj.out.bl j hlt hlt
        cases e0
        have HK5k := Aside0.mk hk5
        have HL5k := Aside0.mk hl5
        have HD := Aside0.mk (List.drop_eq_getElem_cons hlt)
        have htq : q + tnS (s.f2[j]'hlt) ≤ 60 := by
          have h1 := HTQ.out
          rw [HD.out] at h1
          simp only [tnL] at h1
          have := HT60.out
          omega
        have HTQ60 := Aside0.mk htq
        have HSK := Aside0.mk (sound_kid HS.out j hlt)
        have HRVK := Aside0.mk (fun W (h : Below wr.heap.size wr W) => rv_all (s.f2[j]'hlt) sv lt q A5 c5 W (Kd.C_below (Kd.C_below hk5 HRj.out.bl) h) hl5 HSK.out htq)
        have HTDK := Aside0.mk (HIH.out (s.f2[j]'hlt) (List.getElem_mem hlt))
        have HPV2 := Aside0.mk (show (pre ++ [valS sv lt (s.f2[j]'hlt) q]) ++ valL sv lt (s.f2.drop (j + 1)) (q + tnS (s.f2[j]'hlt)) = valL sv lt s.f2 K from by rw [← HPV.out, HD.out, valL, List.append_assoc]; rfl)
        have HTQ2 := Aside0.mk (show q + tnS (s.f2[j]'hlt) + tnL (s.f2.drop (j + 1)) = K + tnL s.f2 from by rw [← HTQ.out, HD.out, tnL]; omega)
        have HPO2 := Aside0.mk (show (pO ++ tmO sv lt (s.f2[j]'hlt) q) ++ tmOL sv lt (s.f2.drop (j + 1)) (q + tnS (s.f2[j]'hlt)) = tmOL sv lt s.f2 K from by rw [← HPO.out, HD.out, tmOL, List.append_assoc])
        have HPB2 := Aside0.mk (show (pL ++ tmB sv lt (s.f2[j]'hlt) q) ++ tmBL sv lt (s.f2.drop (j + 1)) (q + tnS (s.f2[j]'hlt)) = tmBL sv lt s.f2 K from by rw [← HPB.out, HD.out, tmBL, List.append_assoc])
        have HPF2 := Aside0.mk (show (pF ++ tmF sv lt (s.f2[j]'hlt) q) ++ tmFL sv lt (s.f2.drop (j + 1)) (q + tnS (s.f2[j]'hlt)) = tmFL sv lt s.f2 K from by rw [← HPF.out, HD.out, tmFL, List.append_assoc])
        have HLTO := Aside0.mk (len_tmO sv lt (s.f2[j]'hlt) q)
        have HLTB := Aside0.mk (len_tmB sv lt (s.f2[j]'hlt) q)
        have HLTF := Aside0.mk (len_tmF sv lt (s.f2[j]'hlt) q)
        generalize s.f2[j]'hlt = kid at *
        generalize hvv : valS sv lt kid q = vv at *
        clear hvv hk5 hl5 htq
        obtain ⟨WK, hWK⟩ : ∃ WK, WK = wr.alloc (.cells #[.int .i64 kid.f0, .int .i64 kid.f1, .slice A5 kid.f2.length c5] 24) := ⟨_, rfl⟩
        have hBK : Below wr.heap.size wr WK := by rw [hWK]; exact below_alloc (Below.refl _ _) _
        have hkb : WK.heap[wr.heap.size]? = some (.cells #[.int .i64 kid.f0, .int .i64 kid.f1, .slice A5 kid.f2.length c5] 24 (0, 0)) := by rw [hWK]; exact heap_alloc_new wr _
        have HWK := Aside0.mk hWK
        have HBK := Aside0.mk hBK
        have HKB := Aside0.mk hkb
        have HRVW := Aside0.mk (HRVK.out WK hBK)
        clear hWK hBK hkb
        go_upto_if 67 with (first | (go_at_call 39; rw [← HWK.out]; refine HRVW.out.mono ?_; rintro e w5 ⟨rfl, hB5⟩; have HB5 := Aside0.mk (HBK.out.trans (hB5.mono HBK.out.size)); have HKB5 := Aside0.mk ((hB5.block _ (blk_lt HKB.out)).trans HKB.out); have HFB5 := Aside0.mk ((HB5.out.block _ (blk_lt HFBj.out.1)).trans HFBj.out.1); have y0 := (blk_cell HFB5.out 0).trans rfl; clear hB5) | (go_at_call 46; refine (parryref22_Timed.calls _ (timedS s.f0) _ HTD.out).mono ?_; rintro e w6 ⟨rfl, hd0⟩; obtain ⟨m2, rfl⟩ := hd0.out))
        obtain ⟨W6, hW6⟩ : ∃ W6, W6 = w5.drewN m2 := ⟨_, rfl⟩
        have hB6 : Below wr.heap.size wr W6 := by rw [hW6]; exact pw_below_drewN HB5.out _
        have hkb6 : W6.heap[wr.heap.size]? = some (.cells #[.int .i64 kid.f0, .int .i64 kid.f1, .slice A5 kid.f2.length c5] 24 (0, 0)) := by rw [hW6]; exact HKB5.out
        rw [← hW6]
        have HB6 := Aside0.mk hB6
        have HKB6 := Aside0.mk hkb6
        have HR6 := Aside0.mk (HRj.out.below hB6)
        have HK6k := Aside0.mk (show TriB W6 ob u1 u2 u3 from (hB6.block _ (blk_lt HKj.out)).trans HKj.out)
        clear hW6 hB6 hkb6
        go_cut [] (fun wx => Aside0 (Rows w0 W4 ob (tri (.slice A1 lo.length c1) (.slice A2 ll.length c2) (.slice A3 lf.length c3)) wx (tri u1 u2 u3) (tri (lo ++ ownE s.f0 x ++ pO) (ll ++ ownE s.f0 ((pre ++ [vv]).getLastD false) ++ pL) (lf ++ ownE s.f0 ((pre ++ [vv]).getD 0 false) ++ pF))) ∧ Aside0 (TriB wx ob u1 u2 u3) ∧ Aside0 (wx.heap[wr.heap.size]? = some (.cells #[.int .i64 kid.f0, .int .i64 kid.f1, .slice A5 kid.f2.length c5] 24 (0, 0))))
        case first =>
          cases htm : timedS s.f0 with
          | false =>
            have HE := Aside0.mk (show ∀ b, ownE s.f0 b = [] from fun b => by unfold ownE; rw [if_neg (by rw [htm]; simp)])
            go_wp2
            go_meet
            exact ⟨⟨by have := HR6.out; rw [HE.out, HE.out, HE.out] at this; rw [HE.out, HE.out, HE.out]; exact this⟩, HK6k, HKB6⟩
          | true =>
            have HE := Aside0.mk (show ∀ b, ownE s.f0 b = [b] from fun b => by unfold ownE; rw [if_pos htm])
            have hR6 := HR6.out
            rw [HE.out, HE.out, HE.out] at hR6
            have hlL : lo.length < (ll ++ [pre.getLastD false] ++ pL).length := by have := HL1.out; simp; omega
            have hlF : lo.length < (lf ++ [pre.getD 0 false] ++ pF).length := by have := HL2.out; simp; omega
            have hset1 : (ll ++ [pre.getLastD false] ++ pL).set lo.length vv = ll ++ [vv] ++ pL := by rw [HL1.out]; exact set_mid _ _ _ _
            have hset2 : (lf ++ [pre.getD 0 false] ++ pF).set lo.length vv = lf ++ [vv] ++ pF := by rw [HL2.out]; exact set_mid _ _ _ _
            by_cases hj0 : j = 0
            · have hp0 : pre = [] := List.length_eq_zero_iff.1 (HPL.out.trans hj0)
              have hjb : ((j : Int) == 0) = true := by rw [hj0]; rfl
              obtain ⟨g3, d3, e3, hn3, p3, q3, _, hput3⟩ := hR6.put 2 hlF
              have hR7 := tri_put2 (hput3 vv)
              change Rows _ _ _ _ _ _ (tri _ _ ((lf ++ [pre.getD 0 false] ++ pF).set lo.length vv)) at hR7
              rw [hset2] at hR7
              obtain ⟨g2, d2, e2, hn2, p2, q2, _, hput2⟩ := hR7.put 1 hlL
              have hR8 := tri_put1 (hput2 vv)
              change Rows _ _ _ _ _ _ (tri _ ((ll ++ [pre.getLastD false] ++ pL).set lo.length vv) _) at hR8
              rw [hset1] at hR8
              change u3 = .slice _ (lf ++ [pre.getD 0 false] ++ pF).length d3 at e3
              change u2 = .slice _ (ll ++ [pre.getLastD false] ++ pL).length d2 at e2
              have hg2 : g2 < wr.heap.size := own_lt (HRj.out.o 1) g2 (by show u2.ownBlock = _; rw [e2]; rfl)
              have hg3 : g3 < wr.heap.size := own_lt (HRj.out.o 2) g3 (by show u3.ownBlock = _; rw [e3]; rfl)
              have HR8 := Aside0.mk hR8
              have k1 := triB_1 HK6k.out
              have k2 := triB_2 HK6k.out
              rw [e3] at k2
              rw [e2] at k1
              have hLF : (lf ++ [pre.getD 0 false] ++ pF).length = lf.length + 1 + pF.length := by rw [List.length_append, List.length_append, List.length_singleton]
              have hLL : (ll ++ [pre.getLastD false] ++ pL).length = ll.length + 1 + pL.length := by rw [List.length_append, List.length_append, List.length_singleton]
              rw [hLF] at k2
              rw [hLL] at k1
              have b1 : lo.length < lf.length + 1 + pF.length := by omega
              have b2 : lo.length < ll.length + 1 + pL.length := by omega
              have n3 : ¬ ob = g3 := fun e => hn3 e.symm
              have n2 : ¬ ob = g2 := fun e => hn2 e.symm
              have HP0 := Aside0.mk hp0
              change W6.cell? _ = _ at p3
              change (W6.setCell _ _).cell? _ = _ at p2
              generalize (lf ++ [pre.getD 0 false] ++ pF).getD lo.length false = o3 at *
              generalize (ll ++ [pre.getLastD false] ++ pL).getD lo.length false = o2 at *
              clear hR7 hR8 hput3 hput2 hR6 hj0 hset1 hset2 hlL hlF hp0
              go_wp2
              go_meet
              refine ⟨⟨?_⟩, ⟨?_⟩, ⟨?_⟩⟩
              · rw [HE.out, HE.out, HE.out, HP0.out]
                have := HR8.out
                exact this
              · exact blk_far (p := ⟨g2, lo.length, none⟩) (blk_far (p := ⟨g3, lo.length, none⟩) HK6k.out n3 _) n2 _
              · exact blk_far (p := ⟨g2, lo.length, none⟩) (blk_far (p := ⟨g3, lo.length, none⟩) HKB6.out (by show wr.heap.size ≠ g3; omega) _) (by show wr.heap.size ≠ g2; omega) _
            · have hjb : ((j : Int) == 0) = false := beq_eq_false_iff_ne.2 (by omega)
              have hj1 : j = 1 := by omega
              obtain ⟨pa, hpa⟩ : ∃ pa, pre = [pa] := List.length_eq_one_iff.1 (HPL.out.trans hj1)
              obtain ⟨g2, d2, e2, hn2, p2, q2, _, hput2⟩ := hR6.put 1 hlL
              have hR8 := tri_put1 (hput2 vv)
              change Rows _ _ _ _ _ _ (tri _ ((ll ++ [pre.getLastD false] ++ pL).set lo.length vv) _) at hR8
              rw [hset1] at hR8
              change u2 = .slice _ (ll ++ [pre.getLastD false] ++ pL).length d2 at e2
              have hg2 : g2 < wr.heap.size := own_lt (HRj.out.o 1) g2 (by show u2.ownBlock = _; rw [e2]; rfl)
              have HR8 := Aside0.mk hR8
              have k1 := triB_1 HK6k.out
              rw [e2] at k1
              have hLL : (ll ++ [pre.getLastD false] ++ pL).length = ll.length + 1 + pL.length := by rw [List.length_append, List.length_append, List.length_singleton]
              rw [hLL] at k1
              have b2 : lo.length < ll.length + 1 + pL.length := by omega
              have n2 : ¬ ob = g2 := fun e => hn2 e.symm
              have HPA := Aside0.mk hpa
              change W6.cell? _ = _ at p2
              generalize (ll ++ [pre.getLastD false] ++ pL).getD lo.length false = o2 at *
              clear hR8 hput2 hR6 hj0 hj1 hset1 hset2 hlL hlF hpa
              go_wp2
              go_meet
              refine ⟨⟨?_⟩, ⟨?_⟩, ⟨?_⟩⟩
              · rw [HE.out, HE.out, HE.out]
                have h8 := HR8.out
                rw [HPA.out] at h8 ⊢
                exact h8
              · exact blk_far (p := ⟨g2, lo.length, none⟩) HK6k.out n2 _
              · exact blk_far (p := ⟨g2, lo.length, none⟩) HKB6.out (by show wr.heap.size ≠ g2; omega) _
        case rest =>
          obtain ⟨HRc, HKc, HKBc⟩ := hcut
          have hLO : (lo ++ ownE s.f0 x ++ pO).length = q := by rw [List.length_append, List.length_append, len_own]; have := HLN.out; have := HKD.out; omega
          have hLB : (ll ++ ownE s.f0 ((pre ++ [vv]).getLastD false) ++ pL).length = q := by rw [List.length_append, List.length_append, len_own]; have := HLN.out; have := HKD.out; have := HL1.out; omega
          have hLFq : (lf ++ ownE s.f0 ((pre ++ [vv]).getD 0 false) ++ pF).length = q := by rw [List.length_append, List.length_append, len_own]; have := HLN.out; have := HKD.out; have := HL2.out; omega
          have hcall := HTDK.out sv lt _ _ _ u1 u2 u3 A5 c5 wc HRc.out.r3 (hLO.trans hLB.symm) (hLO.trans hLFq.symm) (by rw [hLO]; exact HTQ60.out) HK5k.out HL5k.out HSK.out
          rw [hLO] at hcall
          have HCALL := Aside0.mk hcall
          have c0 := triB_0 HKc.out
          have c1' := triB_1 HKc.out
          have c2' := triB_2 HKc.out
          have b0 : wc.cell? ⟨wr.heap.size, 0, none⟩ = some (.int .i64 kid.f0) := (blk_cell HKBc.out 0).trans rfl
          have b1 : wc.cell? ⟨wr.heap.size, 1, none⟩ = some (.int .i64 kid.f1) := (blk_cell HKBc.out 1).trans rfl
          have b2 : wc.cell? ⟨wr.heap.size, 2, none⟩ = some (.slice A5 kid.f2.length c5) := (blk_cell HKBc.out 2).trans rfl
          clear hcall hLO hLB hLFq
          go_wp2_with (go_at_call 53; refine HCALL.out.mono ?_; rintro e w7 ⟨v1, v2, v3, rfl, hR7, hk7, hn7⟩; have HR7 := Aside0.mk (HRc.out.call hR7 hk7 hn7); have HK7 := Aside0.mk (show TriB w7 ob u1 u2 u3 from blk_kept HKc.out hk7 (by rintro ⟨i, e⟩; exact HRc.out.rbv i e)); have o0 := triB_0 HK7.out; have o1 := triB_1 HK7.out; have o2 := triB_2 HK7.out; have f0 := blk_frozen HK7.out 0; have f1 := blk_frozen HK7.out 1; have f2 := blk_frozen HK7.out 2; obtain ⟨A7, n7, c7, e7⟩ := own_form' (hR7.o 0); obtain ⟨A8, n8, c8, e8⟩ := own_form' (hR7.o 1); obtain ⟨A9, n9, c9, e9⟩ := own_form' (hR7.o 2); change v1 = _ at e7; change v2 = _ at e8; change v3 = _ at e9; clear hR7 hk7 hn7; subst e7 e8 e9)
          go_roundg (gk - 1)
          case measure => have := HJ.out; omega
          case rel =>
            refine ⟨j + 1, q + tnS kid, pre ++ [vv], pO ++ tmO sv lt kid q, pL ++ tmB sv lt kid q, pF ++ tmF sv lt kid q, _, _, _, by have := HJ.out; omega, by go_num, by go_num, by have := HTQ60.out; omega, ⟨by rw [List.length_append, HPL.out]; rfl⟩, HPV2, HTQ2, ⟨?_⟩, HPO2, HPB2, HPF2, ⟨?_⟩, ⟨triB_set2 (triB_set1 (triB_set0 HK7.out _) _) _⟩⟩
            · rw [List.length_append, List.length_append, List.length_append, HLTO.out, HLTB.out, HLTF.out]
              have := HLN.out
              omega
            · have h9 := ((HR7.out.setR 0 (.slice A7 n7 c7)).setR 1 (.slice A8 n8 c8)).setR 2 (.slice A9 n9 c9)
              rw [List.append_assoc, List.append_assoc, List.append_assoc] at h9
              rw [← List.append_assoc, ← List.append_assoc, ← List.append_assoc] at h9
              simp only [List.append_assoc] at h9 ⊢
              exact h9
      · have hdr : s.f2.drop j = [] := List.drop_eq_nil_of_le (by omega)
        have hpv : pre = valL sv lt s.f2 K := by have := HPV.out; rw [hdr, valL, List.append_nil] at this; exact this
        have hpo : pO = tmOL sv lt s.f2 K := by have := HPO.out; rw [hdr, tmOL, List.append_nil] at this; exact this
        have hpb : pL = tmBL sv lt s.f2 K := by have := HPB.out; rw [hdr, tmBL, List.append_nil] at this; exact this
        have hpf : pF = tmFL sv lt s.f2 K := by have := HPF.out; rw [hdr, tmFL, List.append_nil] at this; exact this
        have hqq : q = lo.length + tnS s := by have := HTQ.out; rw [hdr] at this; simp only [tnL] at this; have h3 := HKD.out; have h4 := HTN.out; omega
        have hfo : lo ++ ownE s.f0 x ++ pO = lo ++ tmO sv lt s lo.length := by rw [HEO.out, hpo, HKD.out, List.append_assoc]
        have hfl : ll ++ ownE s.f0 (pre.getLastD false) ++ pL = ll ++ tmB sv lt s lo.length := by rw [HEB.out, hpb, ← HKD.out, hpv, List.append_assoc]
        have hff : lf ++ ownE s.f0 (pre.getD 0 false) ++ pF = lf ++ tmF sv lt s lo.length := by rw [HEF.out, hpf, ← HKD.out, hpv, List.append_assoc]
        have hRf := HRj.out
        rw [hfo, hfl, hff] at hRf
        have HRf := Aside0.mk hRf
        have HQQ := Aside0.mk hqq
        obtain ⟨A7, n7, c7, e7⟩ := own_form' (hRf.o 0)
        obtain ⟨A8, n8, c8, e8⟩ := own_form' (hRf.o 1)
        obtain ⟨A9, n9, c9, e9⟩ := own_form' (hRf.o 2)
        change u1 = _ at e7
        change u2 = _ at e8
        change u3 = _ at e9
        subst e7 e8 e9
        have o0 := triB_0 HKj.out
        have o1 := triB_1 HKj.out
        have o2 := triB_2 HKj.out
        have hrs : wr.heap[ob + 1]? = some (.cells #[.slice none 0 0, .slice none 0 0, .slice none 0 0] 68 (0, 0)) := by rw [HOB.out]; exact HFBj.out.2
        have HRS := Aside0.mk hrs
        have r0 : wr.cell? ⟨ob + 1, 0, none⟩ = some (.slice none 0 0) := (blk_cell hrs 0).trans rfl
        have r1 : wr.cell? ⟨ob + 1, 1, none⟩ = some (.slice none 0 0) := (blk_cell hrs 1).trans rfl
        have r2 : wr.cell? ⟨ob + 1, 2, none⟩ = some (.slice none 0 0) := (blk_cell hrs 2).trans rfl
        have f0 := blk_frozen hrs 0
        have f1 := blk_frozen hrs 1
        have f2 := blk_frozen hrs 2
        clear hdr hpv hpo hpb hpf hqq hfo hfl hff hRf hrs
        go_upto_region 16 with fail
        go_region_law (fail)
        all_goals (
          go_wp2
          refine bodyPost_ret (v := .tuple #[.int .i64 (q : Int), .agg #[.slice A7 n7 c7, .slice A8 n8 c8, .slice A9 n9 c9]]) (by simp [results, Try.results53, go_sem, r0, r1, r2]) rfl ?_
          have hne : ∀ i, some (ob + 1) ≠ (tri (Value.slice A7 n7 c7) (Value.slice A8 n8 c8) (Value.slice A9 n9 c9) i).ownBlock := fun i e => by
            have h1 := HOB.out
            have h2 := HZ4.out
            rcases HRj.out.n i (ob + 1) e.symm with h3 | h3
            · have := HOL.out i (ob + 1) h3.symm
              omega
            · omega
          have hob0 : w0.heap.size ≤ ob + 1 := by have := HRj.out.rb0; omega
          have hobw : w.heap.size ≤ ob + 1 := by have := HOB.out; omega
          have hk0 : Kept w wr (fun k => ∃ i, some k = (tri (Value.slice A1 lo.length c1) (Value.slice A2 ll.length c2) (Value.slice A3 lf.length c3) i).ownBlock) :=
            (Kept.of_below HB4.out _).then_ HRj.out.kp (fun k e => by
              rcases e with e | e
              · exact .inl e
              · right; have := HOB.out; omega)
          refine ⟨_, _, _, by rw [HQQ.out], ?_, ?_, ?_⟩
          · exact (((HRf.out.r3.set (p := ⟨ob + 1, 0, none⟩) hne hob0 _).set (p := ⟨ob + 1, 1, none⟩) hne hob0 _).set (p := ⟨ob + 1, 2, none⟩) hne hob0 _).below (below_drew1 (Below.refl _ _))
          · exact (((hk0.setCell (p := ⟨ob + 1, 0, none⟩) (.inr hobw) _).setCell (p := ⟨ob + 1, 1, none⟩) (.inr hobw) _).setCell (p := ⟨ob + 1, 2, none⟩) (.inr hobw) _).drew
          · intro i k e
            rcases HRj.out.n i k e with h3 | h3
            · exact .inl h3
            · right; have := HZ4.out; omega)
mutual
theorem td_all (w0 : World) : ∀ s : S24, TdAt w0 s
  | ⟨op, m, kids⟩ => timeds_calls w0 ⟨op, m, kids⟩ (td_kids w0 kids)
theorem td_kids (w0 : World) : ∀ (l : List S24) (k : S24), k ∈ l → TdAt w0 k
  | [], k, hk => by simp at hk
  | a :: r, k, hk => by
    rcases List.mem_cons.1 hk with h | h
    · rw [h]
      exact td_all w0 a
    · exact td_kids w0 r k h
end
theorem r3_nil (w : World) : R3 w w (tri (.slice none 0 0) (.slice none 0 0) (.slice none 0 0)) (tri [] [] []) :=
  ⟨fun i => by match i with | 0 => exact World.ownsRow_nil _ _ _ _ | 1 => exact World.ownsRow_nil _ _ _ _ | 2 => exact World.ownsRow_nil _ _ _ _,
   fun i j _ => .inl (by match i with | 0 => rfl | 1 => rfl | 2 => rfl), Below.refl _ _⟩
set_option maxHeartbeats 3200000 in
set_option maxRecDepth 100000 in
theorem At_calls (s : S24) (sv lt : Int) (A : Option Addr) (cp : Nat) (w : World) (hr : Kd.C k24 w A s.f2.length s.f2) (hc : s.f2.length ≤ cp) (hs : soundS s = true) (ht : tnS s ≤ 60) :
    Calls Try.prog 40 #[.agg #[.int .i64 s.f0, .int .i64 s.f1, .slice A s.f2.length cp], .int .i64 sv, .int .u32 lt] w fun e w' => ∃ v1 v2 v3, e = .returned (.agg #[v1, v2, v3]) ∧ R3 w w' (tri v1 v2 v3) (tri (tmO sv lt s 0) (tmB sv lt s 0) (tmF sv lt s 0)) := by
  have huF := Try.underlying24
  have hut := Try.underlying68
  obtain ⟨W3, hW3⟩ : ∃ W3, W3 = (w.alloc (.cells #[.int .i64 s.f0, .int .i64 s.f1, .slice A s.f2.length cp] 24)).alloc (.cells #[.slice none 0 0, .slice none 0 0, .slice none 0 0] 68) := ⟨_, rfl⟩
  have hB3 : Below w.heap.size w W3 := by rw [hW3]; exact below_alloc (below_alloc (Below.refl _ _) _) _
  have hfb : W3.heap[w.heap.size]? = some (.cells #[.int .i64 s.f0, .int .i64 s.f1, .slice A s.f2.length cp] 24 (0, 0)) := by rw [hW3]; exact blk_alloc (heap_alloc_new w _) _
  have hrs : W3.heap[w.heap.size + 1]? = some (.cells #[.slice none 0 0, .slice none 0 0, .slice none 0 0] 68 (0, 0)) := by
    rw [hW3]
    have := heap_alloc_new (w.alloc (.cells #[.int .i64 s.f0, .int .i64 s.f1, .slice A s.f2.length cp] 24)) (.cells #[.slice none 0 0, .slice none 0 0, .slice none 0 0] 68)
    simpa using this
  have HC := Aside0.mk (td_all w s sv lt [] [] [] (.slice none 0 0) (.slice none 0 0) (.slice none 0 0) A cp W3 ((r3_nil w).below hB3) rfl rfl (by simpa using ht) hr hc hs)
  have HRS := Aside0.mk hrs
  have HZ3 := Aside0.mk (show W3.heap.size = w.heap.size + 2 from by rw [hW3]; simp)
  have HB3 := Aside0.mk hB3
  have x0 : W3.cell? ⟨w.heap.size, 0, none⟩ = some (.int .i64 s.f0) := (blk_cell hfb 0).trans rfl
  have x1 : W3.cell? ⟨w.heap.size, 1, none⟩ = some (.int .i64 s.f1) := (blk_cell hfb 1).trans rfl
  have x2 : W3.cell? ⟨w.heap.size, 2, none⟩ = some (.slice A s.f2.length cp) := (blk_cell hfb 2).trans rfl
  clear hr hc hs ht hB3 hfb hrs
  go_enter Try.func40, Try.ntmps40
  go_upto_region 1 with fail
  rw [← hW3]
  clear hW3
  go_wp2_with (go_at_call 53; refine HC.out.mono ?_; rintro e w2 ⟨v1, v2, v3, rfl, hR, hK, hN⟩; have HR := Aside0.mk hR; have HR2 := Aside0.mk (blk_kept HRS.out hK (by rintro ⟨i, e⟩; match i with | 0 => cases e | 1 => cases e | 2 => cases e)); have hrl := blk_lt HR2.out; have hrn : ¬ w2.heap.size = w.heap.size + 1 := (by omega); have q0 := (blk_cell HR2.out 0).trans rfl; have q1 := (blk_cell HR2.out 1).trans rfl; have q2 := (blk_cell HR2.out 2).trans rfl; have f0 := blk_frozen HR2.out 0; have f1 := blk_frozen HR2.out 1; have f2 := blk_frozen HR2.out 2; obtain ⟨A7, n7, c7, e7⟩ := own_form' (hR.o 0); obtain ⟨A8, n8, c8, e8⟩ := own_form' (hR.o 1); obtain ⟨A9, n9, c9, e9⟩ := own_form' (hR.o 2); change v1 = _ at e7; change v2 = _ at e8; change v3 = _ at e9; have HNN := Aside0.mk hN; clear hR hK hN; subst e7 e8 e9)
  refine bodyPost_ret (v := .agg #[.slice A7 n7 c7, .slice A8 n8 c8, .slice A9 n9 c9]) (by simp [results, Try.results40, go_sem, q0, q1, q2, hrl]) rfl ?_
  refine ⟨_, _, _, rfl, ?_⟩
  have hne : ∀ i, some (w.heap.size + 1) ≠ (tri (Value.slice A7 n7 c7) (Value.slice A8 n8 c8) (Value.slice A9 n9 c9) i).ownBlock := fun i e => by
    rcases HNN.out i _ e.symm with h3 | h3
    · match i with | 0 => cases h3 | 1 => cases h3 | 2 => cases h3
    · have := HZ3.out; omega
  exact (((HR.out.set (p := ⟨w.heap.size + 1, 0, none⟩) hne (by simp) _).set (p := ⟨w.heap.size + 1, 1, none⟩) hne (by simp) _).set (p := ⟨w.heap.size + 1, 2, none⟩) hne (by simp) _).below (below_alloc (Below.refl _ _) _)
end Go.Proofs.Ytegaicoddnmemaa.X

