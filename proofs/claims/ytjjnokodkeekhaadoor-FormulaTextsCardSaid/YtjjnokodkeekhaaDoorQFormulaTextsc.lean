/- A part of the claim FormulaTexts. -/
import Derived.Outline
import Derived.Test.YtjjnokodkeekhaaDoorQFormulaTextsa
import Derived.Test.YtjjnokodkeekhaaDoorQFormulaTextsb
namespace Go.Proofs.YtjjnokodkeekhaaDoor.X
open Go.RowKit Go.Proofs.YtjjnokodkeekhaaDoorW.PrintWords Go.Proofs.YtjjnokodkeekhaaDoorW.PrintLast Go.Proofs.YtjjnokodkeekhaaDoorW.PrintMore
open Go.Proofs.YtjjnokodkeekhaaDoor.P Go.Proofs.YtjjnokodkeekhaaDoor.Evx
set_option linter.unusedSimpArgs false
set_option linter.unusedVariables false
theorem Kids_ev (op : Int) : Ev (fun k => parryref22_Kids.f k op) (kidsS op) := by
  have h1 : ∀ b : Bool, b = decide (op = 3 ∨ op = 6) → ¬ (op = 1 ∨ op = 2) → Ev (fun k => parryref22_Kids.j1 k op b) (kidsS op) := by
    intro b hb h0
    refine ev_step (fun k => rfl) (ev_bool (fun h => ?_) (fun h => ?_))
    · rw [h] at hb
      have := of_decide_eq_true hb.symm
      exact ev_eq (ev_some _) (by unfold kidsS; rw [if_neg h0, if_pos this])
    · rw [h] at hb
      have := of_decide_eq_false hb.symm
      have e : kidsS op = if op = 4 ∨ op = 5 ∨ op = 7 ∨ op = 8 then 2 else -1 := by unfold kidsS; rw [if_neg h0, if_neg this]
      rw [e]
      refine ev_ite (fun c => ev_eq (ev_some _) ?_) (fun c4 => ev_ite (fun c => ev_eq (ev_some _) ?_) (fun c5 => ev_ite (fun c => ev_eq (ev_some _) ?_) (fun c7 => ev_ite (fun c => ev_eq (ev_some _) ?_) (fun c8 => ev_eq (ev_some _) ?_))))
      · rw [if_pos (by omega)]
      · rw [if_pos (by omega)]
      · rw [if_pos (by omega)]
      · rw [if_pos (by omega)]
      · rw [if_neg (by omega)]
  have h0 : ∀ b : Bool, b = decide (op = 1 ∨ op = 2) → Ev (fun k => parryref22_Kids.j0 k op b) (kidsS op) := by
    intro b hb
    refine ev_step (fun k => rfl) (ev_bool (fun h => ?_) (fun h => ?_))
    · rw [h] at hb
      have := of_decide_eq_true hb.symm
      exact ev_eq (ev_some _) (by unfold kidsS; rw [if_pos this])
    · rw [h] at hb
      have h2 := of_decide_eq_false hb.symm
      refine ev_ite (fun c => h1 _ ?_ h2) (fun c => h1 _ ?_ h2)
      · simp [c]
      · simp [c, show (op == 6) = decide (op = 6) from rfl]
  unfold parryref22_Kids.f
  refine ev_ite (fun c => h0 _ ?_) (fun c => h0 _ ?_)
  · simp [c]
  · simp [c, show (op == 2) = decide (op = 2) from rfl]
def rsd.T1 : Bool × List (List Nat × List Nat) := (true, [([], []), ([0], [0]), ([1], [1]), ([2], [2]), ([3, 2], [3]), ([4], [4]), ([5, 4], [4, 5]), ([6, 4], [4, 6]), ([4], [4]), ([8, 4], [4, 8]), ([9, 4, 4], [4, 9]), ([7, 10, 4], [4, 7, 10]), ([4, 11], [4, 11])])
def rsd.B1 : List Nat := [0, 1, 3, 7, 15, 31, 63, 127, 31, 287, 799, 2047, 4095]
theorem rsd.tab1 : rtab .any (opsOf Tryd.f40 1) = rsd.T1 := by kernel_rfl
theorem rsd.bits1 : waitsOk rsd.T1.2 rsd.B1 = true := by kernel_rfl
theorem bnot {b : Bool} (h : (!b) = true) : b = false := by simpa using h
def RsAt (s : S24) : Prop := ∀ (A : Option Addr) (cp : Nat) (w : World), Kd.C k24 w A s.f2.length s.f2 → s.f2.length ≤ cp →
    Calls Tryd.prog 40 #[.agg #[.int .i64 s.f0, .int .i64 s.f1, .slice A s.f2.length cp]] w fun e w' => e = .returned (.bool (soundS s)) ∧ Below w.heap.size w w'
set_option maxHeartbeats 4000000 in
set_option maxRecDepth 100000 in
theorem rsound_calls (s : S24) (ih : ∀ k ∈ s.f2, RsAt k) : RsAt s := by
  intro A cp w hk hc
  have huF := Tryd.underlying24
  have huL := Tryd.underlying22
  obtain ⟨W1, hW1⟩ : ∃ W1, W1 = w.alloc (.cells #[.int .i64 s.f0, .int .i64 s.f1, .slice A s.f2.length cp] 24) := ⟨_, rfl⟩
  have hB1 : Below w.heap.size w W1 := by rw [hW1]; exact below_alloc (Below.refl _ _) _
  have hbx : W1.heap[w.heap.size]? = some (.cells #[.int .i64 s.f0, .int .i64 s.f1, .slice A s.f2.length cp] 24 (0, 0)) := by rw [hW1]; exact heap_alloc_new w _
  have HBX := Aside0.mk hbx
  have HB1 := Aside0.mk hB1
  have HK := Aside0.mk hk
  have HIH := Aside0.mk ih
  obtain ⟨kk, hkk⟩ := (Kids_ev s.f0).rounds
  have hkr := kids_range s.f0
  have HKK := Aside0.mk hkk
  have HD := Aside0.mk (show soundS s = (decide (0 ≤ kidsS s.f0) && (decide ((s.f2.length : Int) = kidsS s.f0) && (decide (0 ≤ s.f1) && (decide (s.f1 ≤ mostS s.f0) && soundL s.f2)))) from by cases s; rfl)
  have HMO := Aside0.mk (show mostS s.f0 = if s.f0 = 2 then 19 else 0 from rfl)
  have x0 : W1.cell? ⟨w.heap.size, 0, none⟩ = some (.int .i64 s.f0) := (blk_cell hbx 0).trans rfl
  have x1 : W1.cell? ⟨w.heap.size, 1, none⟩ = some (.int .i64 s.f1) := (blk_cell hbx 1).trans rfl
  have x2 : W1.cell? ⟨w.heap.size, 2, none⟩ = some (.slice A s.f2.length cp) := (blk_cell hbx 2).trans rfl
  have hlen := Kd.C_max HK.out
  clear hbx hB1 hk ih hkk
  generalize kidsS s.f0 = Kq at *
  generalize mostS s.f0 = M at *
  generalize soundS s = R at *
  go_enter Tryd.func40, Tryd.ntmps40
  go_upto_region 1 with fail
  rw [← hW1]
  clear hW1
  go_cut [17] (fun v17 wx => ∃ (t : Bool) (m : Nat), v17 = .bool t ∧ Aside0 ((!(decide (0 ≤ Kq) && decide ((s.f2.length : Int) = Kq))) = t) ∧ wx = W1.drewN m)
  case first =>
    by_cases c1 : 0 ≤ Kq
    · have d1 : decide (Kq < 0) = false := decide_eq_false (by omega)
      have HC1 := Aside0.mk c1
      clear c1
      go_region_with (go_at_call 66; refine (parryref22_Kids.calls kk s.f0 Kq _ HKK.out).mono ?_; rintro e w1 ⟨rfl, hd0⟩; obtain ⟨m, rfl⟩ := hd0.out)
      all_goals (
        go_wp2_with fail
        go_meet
        exact ⟨_, _, rfl, ⟨by rw [decide_eq_true HC1.out, Bool.true_and]; rfl⟩, rfl⟩)
    · have d1 : decide (Kq < 0) = true := decide_eq_true (by omega)
      have HC1 := Aside0.mk c1
      clear c1
      refine start_ (n := 13) (S := fun w' => w'.cell? ⟨w.heap.size, 0, none⟩ = some (.int .i64 s.f0) ∧ w'.cell? ⟨w.heap.size, 2, none⟩ = some (.slice A s.f2.length cp)) (ds := []) #[false, false, false, false, false, false, false, false, false, false, false, false, false] (by kernel_rfl) rfl rfl ⟨x0, x2⟩ (fun hHeld => ?_)
      refine with_tabW rsd.tab1 rsd.bits1 (fun HT_ HW_ => ?_)
      refine pure_ (i := 0) (N := some 5) (v := ?_) (a' := ?_) #[true, false, false, false, false, false, false, false, false, false, false, false, false] rfl rfl (any_of HT_.out (by kernel_rfl)) (fun _ _ _ h => h) (Or.inl ⟨by rfl, ?_⟩) ?_ ?_
      rotate_left
      · intro w'
        go_simp
        with_reducible rfl
      rotate_left
      · simp only [Act.put, List.setIfInBounds_toArray, List.set_cons_zero, List.set_cons_succ, i64_w, i32_w]
        rfl
      refine take_ (i := 1) (N := some 6) (v := ?_) (a' := ?_) #[true, true, false, false, false, false, false, false, false, false, false, false, false] rfl rfl (take_ofW HT_.out HW_.out (by kernel_rfl)) (fun _ _ _ h => h) (Or.inl ⟨by rfl, ?_⟩) hHeld ?_ ?_
      rotate_left
      · rintro w' ⟨s0, s1⟩
        go_simp
        with_reducible rfl
      rotate_left
      · simp only [Act.put, List.setIfInBounds_toArray, List.set_cons_zero, List.set_cons_succ, i64_w, i32_w]
        rfl
      refine one_ (i := 2) (N := some 7) #[true, true, true, false, false, false, false, false, false, false, false, false, false] rfl rfl (one_of HT_.out (by kernel_rfl)) (by decide) (fun K hK => ?_)
      refine goes_ Tryd.func66 (by kernel_rfl) rfl #[.int .i64 s.f0] (by rfl) rfl rfl (by simp only [List.map_toArray, List.map_cons, List.map_nil]; rfl) ?_
      with_reducible refine (parryref22_Kids.calls kk s.f0 Kq _ HKK.out).mono ?_
      rintro e w1 ⟨rfl, hd0⟩
      obtain ⟨m, rfl⟩ := hd0.out
      refine ⟨_, rfl, ?_⟩
      refine hK.out _ _ ⟨x0, x2⟩ (fun hHeld => ?_)
      clear hK K
      refine norm_ (a' := ?_) ?_ ?_
      rotate_left
      · show Act.put _ (some 7) _ = _
        simp only [Act.put, List.setIfInBounds_toArray, List.set_cons_zero, List.set_cons_succ, i64_w, i32_w]
        rfl
      refine pure_ (i := 3) (N := some 8) (v := ?_) (a' := ?_) #[true, true, true, true, false, false, false, false, false, false, false, false, false] rfl rfl (any_of HT_.out (by kernel_rfl)) (fun _ _ _ h => h) (Or.inl ⟨by rfl, ?_⟩) ?_ ?_
      rotate_left
      · intro w'
        go_simp
        with_reducible rfl
      rotate_left
      · simp only [Act.put, List.setIfInBounds_toArray, List.set_cons_zero, List.set_cons_succ, i64_w, i32_w]
        rfl
      refine pure_ (i := 4) (N := some 9) (v := ?_) (a' := ?_) #[true, true, true, true, true, false, false, false, false, false, false, false, false] rfl rfl (any_of HT_.out (by kernel_rfl)) (fun _ _ _ h => h) (Or.inl ⟨by rfl, ?_⟩) ?_ ?_
      rotate_left
      · intro w'
        go_simp
        with_reducible rfl
      rotate_left
      · simp only [Act.put, List.setIfInBounds_toArray, List.set_cons_zero, List.set_cons_succ, i64_w, i32_w]
        rfl
      refine pure_ (i := 5) (N := some 10) (v := undef) (a' := ?_) #[true, true, true, true, true, true, false, false, false, false, false, false, false] rfl rfl (any_of HT_.out (by kernel_rfl)) (fun _ _ _ h => h) (Or.inr ⟨by rfl, rfl⟩) ?_ ?_
      rotate_left
      · simp only [Act.put, List.setIfInBounds_toArray, List.set_cons_zero, List.set_cons_succ, i64_w, i32_w]
        rfl
      refine pure_ (i := 6) (N := some 11) (v := undef) (a' := ?_) #[true, true, true, true, true, true, true, false, false, false, false, false, false] rfl rfl (any_of HT_.out (by kernel_rfl)) (fun _ _ _ h => h) (Or.inr ⟨by rfl, rfl⟩) ?_ ?_
      rotate_left
      · simp only [Act.put, List.setIfInBounds_toArray, List.set_cons_zero, List.set_cons_succ, i64_w, i32_w]
        rfl
      refine pure_ (i := 7) (N := some 12) (v := undef) (a' := ?_) #[true, true, true, true, true, true, true, true, false, false, false, false, false] rfl rfl (any_of HT_.out (by kernel_rfl)) (fun _ _ _ h => h) (Or.inr ⟨by rfl, rfl⟩) ?_ ?_
      rotate_left
      · simp only [Act.put, List.setIfInBounds_toArray, List.set_cons_zero, List.set_cons_succ, i64_w, i32_w]
        rfl
      refine pure_ (i := 8) (N := some 13) (v := undef) (a' := ?_) #[true, true, true, true, true, true, true, true, true, false, false, false, false] rfl rfl (any_of HT_.out (by kernel_rfl)) (fun _ _ _ h => h) (Or.inr ⟨by rfl, rfl⟩) ?_ ?_
      rotate_left
      · simp only [Act.put, List.setIfInBounds_toArray, List.set_cons_zero, List.set_cons_succ, i64_w, i32_w]
        rfl
      refine pure_ (i := 9) (N := some 14) (v := undef) (a' := ?_) #[true, true, true, true, true, true, true, true, true, true, false, false, false] rfl rfl (any_of HT_.out (by kernel_rfl)) (fun _ _ _ h => h) (Or.inr ⟨by rfl, rfl⟩) ?_ ?_
      rotate_left
      · simp only [Act.put, List.setIfInBounds_toArray, List.set_cons_zero, List.set_cons_succ, i64_w, i32_w]
        rfl
      refine pure_ (i := 10) (N := some 15) (v := undef) (a' := ?_) #[true, true, true, true, true, true, true, true, true, true, true, false, false] rfl rfl (any_of HT_.out (by kernel_rfl)) (fun _ _ _ h => h) (Or.inr ⟨by rfl, rfl⟩) ?_ ?_
      rotate_left
      · simp only [Act.put, List.setIfInBounds_toArray, List.set_cons_zero, List.set_cons_succ, i64_w, i32_w]
        rfl
      refine pure_ (i := 11) (N := some 16) (v := undef) (a' := ?_) #[true, true, true, true, true, true, true, true, true, true, true, true, false] rfl rfl (any_of HT_.out (by kernel_rfl)) (fun _ _ _ h => h) (Or.inr ⟨by rfl, rfl⟩) ?_ ?_
      rotate_left
      · simp only [Act.put, List.setIfInBounds_toArray, List.set_cons_zero, List.set_cons_succ, i64_w, i32_w]
        rfl
      refine pure_ (i := 12) (N := some 17) (v := ?_) (a' := ?_) #[true, true, true, true, true, true, true, true, true, true, true, true, true] rfl rfl (any_of HT_.out (by kernel_rfl)) (fun _ _ _ h => h) (Or.inl ⟨by rfl, ?_⟩) ?_ ?_
      rotate_left
      · intro w'
        go_simp
        with_reducible rfl
      rotate_left
      · simp only [Act.put, List.setIfInBounds_toArray, List.set_cons_zero, List.set_cons_succ, i64_w, i32_w]
        rfl
      refine done_ (done_of HT_.out (by kernel_rfl)) ?_
      go_wp2_with fail
      go_meet
      exact ⟨_, _, rfl, ⟨by rw [decide_eq_false (show ¬ 0 ≤ Kq by have := HC1.out; omega)]; rfl⟩, rfl⟩
  case rest =>
    obtain ⟨t, m, rfl, HT, hwc⟩ := hcut
    rw [hwc]
    clear hwc wc
    cases t with
    | true =>
      have HX := Aside0.mk (show R = false from by rw [HD.out, ← Bool.and_assoc, bnot HT.out]; rfl)
      go_wp2
      go_ret
      exact ⟨by rw [HX.out]; rfl, pw_below_drewN HB1.out _⟩
    | false =>
      have hT : (decide (0 ≤ Kq) && decide ((s.f2.length : Int) = Kq)) = true := by simpa using HT.out
      have HD2 := Aside0.mk (show R = (decide (0 ≤ s.f1) && (decide (s.f1 ≤ M) && soundL s.f2)) from by rw [HD.out, ← Bool.and_assoc, hT, Bool.true_and])
      clear hT
      go_upto_region 3 with fail
      go_cut [40] (fun v40 wx => ∃ (t : Bool), v40 = .bool t ∧ Aside0 ((!(decide (0 ≤ s.f1) && decide (s.f1 ≤ M))) = t) ∧ wx = W1.drewN m)
      case first =>
        by_cases h2 : s.f0 = 2
        · have hm : M = 19 := by rw [HMO.out, if_pos h2]
          have e2 : (s.f0 == 2) = true := beq_iff_eq.mpr h2
          have e3 : (s.f0 != 2) = false := bne_eq_false_iff_eq.mpr h2
          have HMM := Aside0.mk hm
          clear h2 hm
          by_cases c3 : s.f1 < 0
          · go_wp2
            go_meet
            exact ⟨_, rfl, ⟨by rw [decide_eq_false (show ¬ 0 ≤ s.f1 by omega)]; rfl⟩, rfl⟩
          · by_cases c4 : 20 ≤ s.f1
            · go_wp2
              go_meet
              exact ⟨_, rfl, ⟨by rw [HMM.out, decide_eq_false (show ¬ s.f1 ≤ 19 by omega), Bool.and_false]; rfl⟩, rfl⟩
            · go_wp2
              go_meet
              exact ⟨_, rfl, ⟨by rw [HMM.out, decide_eq_true (show s.f1 ≤ 19 by omega), decide_eq_true (show 0 ≤ s.f1 by omega)]; rfl⟩, rfl⟩
        · have hm : M = 0 := by rw [HMO.out, if_neg h2]
          have e2 : (s.f0 == 2) = false := beq_eq_false_iff_ne.mpr h2
          have e3 : (s.f0 != 2) = true := bne_iff_ne.mpr h2
          have HMM := Aside0.mk hm
          clear h2 hm
          go_wp2
          go_meet
          refine ⟨_, rfl, ⟨?_⟩, rfl⟩
          rw [HMM.out]
          by_cases c : s.f1 = 0
          · rw [c]; rfl
          · have h9 : (s.f1 != 0) = true := by simpa using c
            rw [h9]
            by_cases c4 : 0 ≤ s.f1
            · rw [decide_eq_false (show ¬ s.f1 ≤ 0 by omega), Bool.and_false]; rfl
            · rw [decide_eq_false c4]; rfl
      case rest =>
        obtain ⟨t, rfl, HT2, hwc⟩ := hcut
        rw [hwc]
        clear hwc wc
        cases t with
        | true =>
          have HX := Aside0.mk (show R = false from by rw [HD2.out, ← Bool.and_assoc, bnot HT2.out]; rfl)
          go_wp2
          go_ret
          exact ⟨by rw [HX.out]; rfl, pw_below_drewN HB1.out _⟩
        | false =>
          have hT : (decide (0 ≤ s.f1) && decide (s.f1 ≤ M)) = true := by simpa using HT2.out
          have HD3 := Aside0.mk (show R = soundL s.f2 from by rw [HD2.out, ← Bool.and_assoc, hT, Bool.true_and])
          clear hT
          go_wp2
          go_loopg [44] s.f2.length (fun kq v44 w' => ∃ j : Nat, j + kq = s.f2.length ∧ v44 = .int .i64 j ∧ Aside0 (soundL (s.f2.drop j) = soundL s.f2) ∧ Aside0 (Below w.heap.size w w'))
          case atStart => exact ⟨0, by omega, rfl, ⟨rfl⟩, ⟨pw_below_drewN HB1.out _⟩⟩
          case round =>
            obtain ⟨j, hj, rfl, HSL, HBj⟩ := hrel
            have HJ := Aside0.mk hj
            clear hj
            by_cases hlt : j < s.f2.length
            · obtain ⟨ad, A3, c3, e0, hx0, hx1, hx2, hl3, hk3⟩ := kid_at HK.out HBj.out j hlt hlt
              cases e0
              have HCALL := Aside0.mk (HIH.out (s.f2[j]'hlt) (List.getElem_mem hlt) A3 c3 _ (Kd.C_below (Kd.C_below hk3 HBj.out) (below_alloc (Below.refl _ _) (.cells #[.int .i64 (s.f2[j]'hlt).f0, .int .i64 (s.f2[j]'hlt).f1, .slice A3 (s.f2[j]'hlt).f2.length c3] 24))) hl3)
              have HST := Aside0.mk (show soundL s.f2 = (soundS (s.f2[j]'hlt) && soundL (s.f2.drop (j + 1))) from by rw [← HSL.out, List.drop_eq_getElem_cons hlt, soundL])
              generalize soundS (s.f2[j]'hlt) = b at *
              clear hk3 hl3
              cases b with
              | true =>
                have HS2 := Aside0.mk (show soundL (s.f2.drop (j + 1)) = soundL s.f2 from by rw [HST.out, Bool.true_and])
                go_wp2_with (go_at_call 40; refine HCALL.out.mono ?_; rintro e w2 ⟨rfl, hB⟩; have HB2 := Aside0.mk (HBj.out.trans (((below_alloc (Below.refl _ _) _ : Below wr.heap.size wr _).trans (hB.mono (by simp))).mono HBj.out.size)); clear hB)
                go_roundg (gk - 1)
                case measure => have := HJ.out; omega
                case rel => exact ⟨j + 1, by have := HJ.out; omega, by go_num, HS2, HB2⟩
              | false =>
                have HX := Aside0.mk (show R = false from by rw [HD3.out, HST.out, Bool.false_and])
                go_wp2_with (go_at_call 40; refine HCALL.out.mono ?_; rintro e w2 ⟨rfl, hB⟩; have HB2 := Aside0.mk (HBj.out.trans (((below_alloc (Below.refl _ _) _ : Below wr.heap.size wr _).trans (hB.mono (by simp))).mono HBj.out.size)); clear hB)
                go_ret
                exact ⟨by rw [HX.out]; rfl, HB2.out⟩
            · have HX := Aside0.mk (show R = true from by rw [HD3.out, ← HSL.out, List.drop_eq_nil_of_le (by omega)]; rfl)
              go_wp2
              go_ret
              exact ⟨by rw [HX.out]; rfl, HBj.out⟩
mutual
theorem rsound_all : ∀ s : S24, RsAt s
  | ⟨op, m, kids⟩ => rsound_calls ⟨op, m, kids⟩ (rsound_kids kids)
theorem rsound_kids : ∀ (l : List S24) (k : S24), k ∈ l → RsAt k
  | [], k, hk => by simp at hk
  | a :: r, k, hk => by
    rcases List.mem_cons.1 hk with h | h
    · rw [h]
      exact rsound_all a
    · exact rsound_kids r k h
end
def parryref22_sound.f (a0_0 : Int) (a0_1 : Int) (l0_2 : List S24) : Option Bool := some (soundS ⟨a0_0, a0_1, l0_2⟩)
theorem parryref22_sound.calls (a0_0 : Int) (a0_1 : Int) (A0_2 : Option Addr) (c0_2 : Nat) (l0_2 : List S24) (r : Bool) (w : World) (hr0_2 : Kd.C k24 w A0_2 l0_2.length l0_2) (hc0_2 : l0_2.length ≤ c0_2) (h : parryref22_sound.f a0_0 a0_1 l0_2 = some r) :
    Calls Tryd.prog 40 #[.agg #[.int .i64 a0_0, .int .i64 a0_1, .slice A0_2 l0_2.length c0_2]] w fun e w' => e = .returned (.bool r) ∧ Below w.heap.size w w' := by
  obtain rfl := Option.some.inj h
  exact rsound_all ⟨a0_0, a0_1, l0_2⟩ A0_2 c0_2 w hr0_2 hc0_2
end Go.Proofs.YtjjnokodkeekhaaDoor.X

namespace Go.Proofs.YtjjnokodkeekhaaDoor.P
open Go.RowKit Go.Proofs.YtjjnokodkeekhaaDoorW.PrintWords Go.Proofs.YtjjnokodkeekhaaDoorW.PrintLast Go.Proofs.YtjjnokodkeekhaaDoorW.PrintMore
attribute [local go_sem] max2_int min2_int max_two min_two max_three min_three max_four min_four   -- for this text's walks alone
set_option linter.unusedVariables false
set_option linter.unusedSimpArgs false

open Go.Proofs.YtjjnokodkeekhaaDoor.X
def parryref22_May.j0 : Nat → Bool → Int → Int → List (S24) → Option (Int)
  | 0, _, _, _, _ => none
  | k + 1, x10, x534000, x534001, x534002 => if x10 = true then (some 7) else ((parryref22_sound.f x534000 x534001 x534002).bind fun t536 => (if t536 = true then (some 0) else (some 1)))
def parryref22_May.f (k : Nat) (a0_0 : Int) (a0_1 : Int) (l0_2 : List (S24)) : Option (Int) := (parryref22_count.f k a0_0 a0_1 l0_2 1 60).bind fun bt534 => (if bt534.1 > 60 then (parryref22_May.j0 k true a0_0 a0_1 l0_2) else (parryref22_May.j0 k (decide (bt534.2 > 8)) a0_0 a0_1 l0_2))
theorem parryref22_May.mono_l : ∀ k, (∀ y0 y1 y2 y3, LeO (parryref22_May.j0 k y0 y1 y2 y3) (parryref22_May.j0 (k + 1) y0 y1 y2 y3))
  | 0 => fun _ _ _ _ r h => by simp [parryref22_May.j0] at h
  | k + 1 => by
    have ih0 := parryref22_May.mono_l k
    · intro y0 y1 y2 y3
      unfold parryref22_May.j0
      repeat' first
      | (with_reducible exact ih0 _ _ _ _)
      | (with_reducible exact parryref22_count.mono _ _ _ _ _ _)
      | (with_reducible exact LeO.refl _)
      | (with_reducible exact LeO.none _)
      | (with_reducible refine LeO.ite ?_ ?_)
      | (with_reducible refine LeO.bind ?_ (fun _ => ?_))
      | exact ih0 _ _ _ _
      | exact parryref22_count.mono _ _ _ _ _ _
      | exact LeO.none _
      | refine LeO.ite ?_ ?_
      | refine LeO.bind ?_ (fun _ => ?_)
theorem parryref22_May.mono : ∀ a0 a1 a2 k, LeO (parryref22_May.f k a0 a1 a2) (parryref22_May.f (k + 1) a0 a1 a2) := by
  intro a0 a1 a2 k
  have ih0 := parryref22_May.mono_l k
  unfold parryref22_May.f
  repeat' first
      | (with_reducible exact ih0 _ _ _ _)
      | (with_reducible exact parryref22_count.mono _ _ _ _ _ _)
      | (with_reducible exact LeO.refl _)
      | (with_reducible exact LeO.none _)
      | (with_reducible refine LeO.ite ?_ ?_)
      | (with_reducible refine LeO.bind ?_ (fun _ => ?_))
      | exact ih0 _ _ _ _
      | exact parryref22_count.mono _ _ _ _ _ _
      | exact LeO.none _
      | refine LeO.ite ?_ ?_
      | refine LeO.bind ?_ (fun _ => ?_)
set_option maxHeartbeats 8000000 in
set_option maxRecDepth 100000 in
theorem parryref22_May.calls (k : Nat) (a0_0 : Int) (a0_1 : Int) (A0_2 : Option Addr) (c0_2 : Nat) (l0_2 : List (S24)) (r : Int) (w : World) (hr0_2 : Kd.C k24 w A0_2 l0_2.length l0_2) (hc0_2 : l0_2.length ≤ c0_2) (h : parryref22_May.f k a0_0 a0_1 l0_2 = some r) :
    Calls Tryd.prog 20 #[.agg #[.int .i64 a0_0, .int .i64 a0_1, .slice A0_2 l0_2.length c0_2]] w fun e w' => e = .returned (.int .i64 r) ∧ Below w.heap.size w w' := by
  have hu24 := Tryd.underlying24
  have HR0_2 := Aside0.mk hr0_2
  have HC0_2 := Aside0.mk hc0_2
  clear hr0_2 hc0_2
  have HB := Aside0.mk (Below.refl w.heap.size w)
  have H : ((parryref22_count.f k a0_0 a0_1 l0_2 1 60).bind fun bt534 => (if bt534.1 > 60 then (parryref22_May.j0 k true a0_0 a0_1 l0_2) else (parryref22_May.j0 k (decide (bt534.2 > 8)) a0_0 a0_1 l0_2))) = some r := h
  clear h
  replace H := Option.bind_eq_some_iff.mp H
  obtain ⟨⟨t534, t535⟩, A20, H⟩ := H
  replace H : (if t534 > 60 then (parryref22_May.j0 k true a0_0 a0_1 l0_2) else (parryref22_May.j0 k (decide (t535 > 8)) a0_0 a0_1 l0_2)) = some r := H
  have A2 := Aside0.mk A20
  clear A20
  have HC3 := Aside0.mk H
  clear H
  go_enter Tryd.func20, Tryd.ntmps20
  go_upto_region 2 with (first | ((with_reducible refine gate_dst (N := 1) rfl ?_); refine box_event ?hg (N := 1) ?hd (cs := #[.int .i64 a0_0, .int .i64 a0_1, .slice A0_2 l0_2.length c0_2]) (t := 24) ?hr ?_; (case hd => rfl); (case hg => rfl); (case hr => first | (go_simp; done) | (go_simp; rfl)); intro gb533 hg w4 hbox hb; have n0_ := Aside0.mk (below_step (by repeat (first | (with_reducible first | exact HB.out | apply below_alloc | apply pw_below_drewN | apply below_drew1) | exact HB.out)) hb); have n1_ := Aside0.mk (hbox); have n2_ := Aside0.mk ((by rw [hg]; exact (below_size (by repeat (first | (with_reducible first | exact HB.out | apply below_alloc | apply pw_below_drewN | apply below_drew1) | exact HB.out))) : w.heap.size ≤ gb533)); have n3_ := Aside0.mk ((by rw [hg]; exact (below_size (by repeat (first | (with_reducible first | exact HB.out | apply below_alloc | apply pw_below_drewN | apply below_drew1) | exact HB.out))) : w.heap.size ≤ gb533)); clear HB; have HB := n0_; have BK533 := n1_; have GW533 := n2_; have GE533 := n3_; clear n0_ n1_ n2_ n3_; clear hb hbox hg; have hcz5_0 : w4.cell? ⟨gb533, 0, none⟩ = some (.int .i64 a0_0) := (blk_cell BK533.out 0).trans rfl; have hcz5_1 : w4.cell? ⟨gb533, 1, none⟩ = some (.int .i64 a0_1) := (blk_cell BK533.out 1).trans rfl; have hcz5_2 : w4.cell? ⟨gb533, 2, none⟩ = some (.slice A0_2 l0_2.length c0_2) := (blk_cell BK533.out 2).trans rfl; have hfz5_0 := blk_frozen BK533.out 0; have hfz5_1 := blk_frozen BK533.out 1; have hfz5_2 := blk_frozen BK533.out 2) | ((with_reducible refine gate_callee (f := 39) rfl ?_); refine goesL_ (some 7) rfl rfl Tryd.func39 (by kernel_rfl) rfl #[.agg #[.int .i64 a0_0, .int .i64 a0_1, .slice A0_2 l0_2.length c0_2], .int .i64 1, .int .i64 60] rfl (by (try simp only [List.map_toArray, List.map_cons, List.map_nil]); first | done | rfl | (simp only [List.length_drop, List.length_take]; rfl)) ?_; (with_reducible refine (parryref22_count.calls k a0_0 a0_1 _ _ l0_2 1 60 t534 t535 _ ?side1 ?side2 A2.out).mono ?_); (case side1 => repeat (first | exact (Kd.C_below HR0_2.out HB.out) | (with_reducible refine Kd.C_alloc ?_ _) | (with_reducible refine Kd.C_drewN ?_ _) | (with_reducible refine Kd.C_drew ?_))); (case side2 => exact HC0_2.out); rintro e w6 ⟨rfl, hb⟩; refine ⟨_, rfl, ?_⟩; have n0_ := Aside0.mk (blk_below (g := gb533) (o := .cells #[.int .i64 a0_0, .int .i64 a0_1, .slice A0_2 l0_2.length c0_2] 24 (0, 0)) (by (with_reducible repeat (first | refine blk_drewN ?_ _ | refine blk_drew ?_ | refine blk_alloc ?_ _)); exact BK533.out) hb); have n1_ := Aside0.mk (below_step (by repeat (first | (with_reducible first | exact HB.out | apply below_alloc | apply pw_below_drewN | apply below_drew1 | refine below_set ?_ GE533.out) | exact HB.out)) hb); clear BK533; clear HB; have BK533 := n0_; have HB := n1_; clear n0_ n1_; (try clear hb); (try clear hb2); (try clear hk); (try clear hi)))
  (try simp only [Act.put, List.setIfInBounds_toArray, List.set_cons_zero, List.set_cons_succ])
  go_cut [10] (fun v10 wc => ∃ (kq : Nat) (x10_2 : Bool), v10 = .bool x10_2 ∧ Aside0 (parryref22_May.j0 kq x10_2 a0_0 a0_1 l0_2 = some r) ∧ Aside0 (kq ≤ k) ∧ Aside0 (wc.heap[gb533]? = some (.cells #[.int .i64 a0_0, .int .i64 a0_1, (.slice A0_2 l0_2.length c0_2)] 24 (0, 0))) ∧ Aside0 (Below w.heap.size w wc))
  case first =>
    have H := HC3.out
    clear HC3
    by_cases c7 : t534 > 60
    · rw [if_pos c7] at H
      have c7b0 : decide (60 < t534) = true := decide_eq_true c7
      clear c7
      (first | rw [c7b0] | (simp only [i64_w, i32_w]; rw [c7b0]) | skip)
      have H' := Aside0.mk H
      clear H
      go_wp2
      go_meet
      case rel => exact ⟨_, (true), (by first | rfl | (simp; done) | (simp [*]; done)), H', ⟨by first | omega | exact Nat.le_refl _⟩, ⟨by (with_reducible repeat (first | refine blk_drewN ?_ _ | refine blk_drew ?_ | refine blk_alloc ?_ _)); exact BK533.out⟩, ⟨by repeat (first | (with_reducible first | exact HB.out | apply below_alloc | apply pw_below_drewN | apply below_drew1 | refine below_set ?_ GE533.out) | exact HB.out)⟩⟩
    · rw [if_neg c7] at H
      have c7b0 : decide (60 < t534) = false := decide_eq_false c7
      clear c7
      (first | rw [c7b0] | (simp only [i64_w, i32_w]; rw [c7b0]) | skip)
      have H' := Aside0.mk H
      clear H
      go_wp2
      go_meet
      case rel => exact ⟨_, (decide (t535 > 8)), (by first | rfl | (simp; done) | (simp [*]; done)), H', ⟨by first | omega | exact Nat.le_refl _⟩, ⟨by (with_reducible repeat (first | refine blk_drewN ?_ _ | refine blk_drew ?_ | refine blk_alloc ?_ _)); exact BK533.out⟩, ⟨by repeat (first | (with_reducible first | exact HB.out | apply below_alloc | apply pw_below_drewN | apply below_drew1 | refine below_set ?_ GE533.out) | exact HB.out)⟩⟩
  case rest =>
    clear HC3
    try clear c2
    try clear p2
    try clear c3
    try clear c7
    try clear c7b0
    try clear hcz5_0
    try clear hcz5_1
    try clear hcz5_2
    try clear hfz5_0
    try clear hfz5_1
    try clear hfz5_2
    obtain ⟨kq, x10_2, rfl, HA, HJ2, BK533, HB⟩ := hcut
    cases kq with
    | zero => exact absurd HA.out (by simp [parryref22_May.j0])
    | succ kj2 =>
      have H := HA.out
      clear HA
      simp only [parryref22_May.j0] at H
      by_cases c8 : x10_2 = true
      · subst c8
        have H1 : (some 7) = some r := by rw [if_pos rfl] at H; exact H
        clear H
        have H := H1
        clear H1
        obtain rfl := Option.some.inj H
        go_wp2
        go_ret
        exact ⟨by first | rfl | (simp [errW_none, errW_some] <;> rfl) | (simp [*, errW_none, errW_some] <;> rfl), by repeat (first | (with_reducible first | exact HB.out | apply below_alloc | apply pw_below_drewN | apply below_drew1 | refine below_set ?_ GE533.out) | exact HB.out)⟩
      · replace c8 := Bool.eq_false_iff.mpr c8
        subst c8
        have H1 : ((parryref22_sound.f a0_0 a0_1 l0_2).bind fun t536 => (if t536 = true then (some 0) else (some 1))) = some r := by rw [if_neg (show ¬ (false = true) by decide)] at H; exact H
        clear H
        have H := H1
        clear H1
        replace H := Option.bind_eq_some_iff.mp H
        obtain ⟨t536, A90, H⟩ := H
        replace H : (if t536 = true then (some 0) else (some 1)) = some r := H
        have A9 := Aside0.mk A90
        clear A90
        by_cases c10 : t536 = true
        · subst c10
          have H1 : (some 0) = some r := by rw [if_pos rfl] at H; exact H
          clear H
          have H := H1
          clear H1
          obtain rfl := Option.some.inj H
          have hcz11_0 : wc.cell? ⟨gb533, 0, none⟩ = some (.int .i64 a0_0) := (blk_cell BK533.out 0).trans rfl
          have hcz11_1 : wc.cell? ⟨gb533, 1, none⟩ = some (.int .i64 a0_1) := (blk_cell BK533.out 1).trans rfl
          have hcz11_2 : wc.cell? ⟨gb533, 2, none⟩ = some (.slice A0_2 l0_2.length c0_2) := (blk_cell BK533.out 2).trans rfl
          have hfz11_0 := blk_frozen BK533.out 0
          have hfz11_1 := blk_frozen BK533.out 1
          have hfz11_2 := blk_frozen BK533.out 2
          go_wp2_with (first | ((with_reducible refine gate_callee (f := 40) rfl ?_); refine goesL_ (some 19) rfl rfl Tryd.func40 (by kernel_rfl) rfl #[.agg #[.int .i64 a0_0, .int .i64 a0_1, .slice A0_2 l0_2.length c0_2]] rfl (by (try simp only [List.map_toArray, List.map_cons, List.map_nil]); first | done | rfl | (simp only [List.length_drop, List.length_take]; rfl)) ?_; (with_reducible refine (parryref22_sound.calls a0_0 a0_1 _ _ l0_2 true _ ?side1 ?side2 A9.out).mono ?_); (case side1 => repeat (first | exact (Kd.C_below HR0_2.out HB.out) | (with_reducible refine Kd.C_alloc ?_ _) | (with_reducible refine Kd.C_drewN ?_ _) | (with_reducible refine Kd.C_drew ?_))); (case side2 => exact HC0_2.out); rintro e w12 ⟨rfl, hb⟩; refine ⟨_, rfl, ?_⟩; have n0_ := Aside0.mk (blk_below (g := gb533) (o := .cells #[.int .i64 a0_0, .int .i64 a0_1, .slice A0_2 l0_2.length c0_2] 24 (0, 0)) (by (with_reducible repeat (first | refine blk_drewN ?_ _ | refine blk_drew ?_ | refine blk_alloc ?_ _)); exact BK533.out) hb); have n1_ := Aside0.mk (below_step (by repeat (first | (with_reducible first | exact HB.out | apply below_alloc | apply pw_below_drewN | apply below_drew1 | refine below_set ?_ GE533.out) | exact HB.out)) hb); clear BK533; clear HB; have BK533 := n0_; have HB := n1_; clear n0_ n1_; (try clear hb); (try clear hb2); (try clear hk); (try clear hi)))
          go_ret
          exact ⟨by first | rfl | (simp [errW_none, errW_some] <;> rfl) | (simp [*, errW_none, errW_some] <;> rfl), by repeat (first | (with_reducible first | exact HB.out | apply below_alloc | apply pw_below_drewN | apply below_drew1 | refine below_set ?_ GE533.out) | exact HB.out)⟩
        · replace c10 := Bool.eq_false_iff.mpr c10
          subst c10
          have H1 : (some 1) = some r := by rw [if_neg (show ¬ (false = true) by decide)] at H; exact H
          clear H
          have H := H1
          clear H1
          obtain rfl := Option.some.inj H
          have hcz13_0 : wc.cell? ⟨gb533, 0, none⟩ = some (.int .i64 a0_0) := (blk_cell BK533.out 0).trans rfl
          have hcz13_1 : wc.cell? ⟨gb533, 1, none⟩ = some (.int .i64 a0_1) := (blk_cell BK533.out 1).trans rfl
          have hcz13_2 : wc.cell? ⟨gb533, 2, none⟩ = some (.slice A0_2 l0_2.length c0_2) := (blk_cell BK533.out 2).trans rfl
          have hfz13_0 := blk_frozen BK533.out 0
          have hfz13_1 := blk_frozen BK533.out 1
          have hfz13_2 := blk_frozen BK533.out 2
          go_wp2_with (first | ((with_reducible refine gate_callee (f := 40) rfl ?_); refine goesL_ (some 19) rfl rfl Tryd.func40 (by kernel_rfl) rfl #[.agg #[.int .i64 a0_0, .int .i64 a0_1, .slice A0_2 l0_2.length c0_2]] rfl (by (try simp only [List.map_toArray, List.map_cons, List.map_nil]); first | done | rfl | (simp only [List.length_drop, List.length_take]; rfl)) ?_; (with_reducible refine (parryref22_sound.calls a0_0 a0_1 _ _ l0_2 false _ ?side1 ?side2 A9.out).mono ?_); (case side1 => repeat (first | exact (Kd.C_below HR0_2.out HB.out) | (with_reducible refine Kd.C_alloc ?_ _) | (with_reducible refine Kd.C_drewN ?_ _) | (with_reducible refine Kd.C_drew ?_))); (case side2 => exact HC0_2.out); rintro e w14 ⟨rfl, hb⟩; refine ⟨_, rfl, ?_⟩; have n0_ := Aside0.mk (blk_below (g := gb533) (o := .cells #[.int .i64 a0_0, .int .i64 a0_1, .slice A0_2 l0_2.length c0_2] 24 (0, 0)) (by (with_reducible repeat (first | refine blk_drewN ?_ _ | refine blk_drew ?_ | refine blk_alloc ?_ _)); exact BK533.out) hb); have n1_ := Aside0.mk (below_step (by repeat (first | (with_reducible first | exact HB.out | apply below_alloc | apply pw_below_drewN | apply below_drew1 | refine below_set ?_ GE533.out) | exact HB.out)) hb); clear BK533; clear HB; have BK533 := n0_; have HB := n1_; clear n0_ n1_; (try clear hb); (try clear hb2); (try clear hk); (try clear hi)))
          go_ret
          exact ⟨by first | rfl | (simp [errW_none, errW_some] <;> rfl) | (simp [*, errW_none, errW_some] <;> rfl), by repeat (first | (with_reducible first | exact HB.out | apply below_alloc | apply pw_below_drewN | apply below_drew1 | refine below_set ?_ GE533.out) | exact HB.out)⟩

end Go.Proofs.YtjjnokodkeekhaaDoor.P

namespace Go.Proofs.YtjjnokodkeekhaaDoor.X
open Go.RowKit Go.Proofs.YtjjnokodkeekhaaDoorW.PrintWords Go.Proofs.YtjjnokodkeekhaaDoorW.PrintLast Go.Proofs.YtjjnokodkeekhaaDoorW.PrintMore
open Go.Proofs.YtjjnokodkeekhaaDoor.P Go.Proofs.YtjjnokodkeekhaaDoor.Evx
set_option linter.unusedSimpArgs false
set_option linter.unusedVariables false
mutual
def sameS : S24 → S24 → Bool
  | ⟨op, m, kids⟩, t => decide (op = t.f0) && (decide (m = t.f1) && (decide (kids.length = t.f2.length) && sameL kids t.f2))
def sameL : List S24 → List S24 → Bool
  | [], _ => true
  | _ :: _, [] => true
  | k :: r, x :: q => sameS k x && sameL r q
end
mutual
theorem same_eq : ∀ s t : S24, sameS s t = true → s = t
  | ⟨op, m, kids⟩, ⟨op2, m2, kids2⟩, h => by
    simp only [sameS, Bool.and_eq_true, decide_eq_true_eq] at h
    obtain ⟨h1, h2, h3, h4⟩ := h
    rw [h1, h2, same_eqL kids kids2 h3 h4]
theorem same_eqL : ∀ l m : List S24, l.length = m.length → sameL l m = true → l = m
  | [], [], _, _ => rfl
  | k :: r, x :: q, hl, h => by
    simp only [sameL, Bool.and_eq_true] at h
    rw [same_eq k x h.1, same_eqL r q (by simpa using hl) h.2]
end
mutual
theorem same_refl : ∀ s : S24, sameS s s = true
  | ⟨op, m, kids⟩ => by simp [sameS, same_reflL kids]
theorem same_reflL : ∀ l : List S24, sameL l l = true
  | [] => rfl
  | k :: r => by simp [sameL, same_refl k, same_reflL r]
end
theorem same_iff (s t : S24) : sameS s t = true ↔ s = t := ⟨same_eq s t, fun h => h ▸ same_refl s⟩
theorem sameL_step {l m : List S24} {j : Nat} (h1 : j < l.length) (h2 : j < m.length) : sameL (l.drop j) (m.drop j) = (sameS (l[j]'h1) (m[j]'h2) && sameL (l.drop (j + 1)) (m.drop (j + 1))) := by
  rw [List.drop_eq_getElem_cons h1, List.drop_eq_getElem_cons h2, sameL]
def AlikeAt (s : S24) : Prop := ∀ (t : S24) (A : Option Addr) (cp : Nat) (B : Option Addr) (cq : Nat) (w : World), Kd.C k24 w A s.f2.length s.f2 → s.f2.length ≤ cp → Kd.C k24 w B t.f2.length t.f2 → t.f2.length ≤ cq →
    Calls Tryd.prog 41 #[.agg #[.int .i64 s.f0, .int .i64 s.f1, .slice A s.f2.length cp], .agg #[.int .i64 t.f0, .int .i64 t.f1, .slice B t.f2.length cq]] w fun e w' => e = .returned (.bool (sameS s t)) ∧ Below w.heap.size w w'
set_option maxHeartbeats 4000000 in
set_option maxRecDepth 100000 in
theorem eqf_calls (l m : List S24) (ih : ∀ k ∈ l, AlikeAt k) (A B : Option Addr) (cp cq : Nat) (w : World) (hl : Kd.C k24 w A l.length l) (hcl : l.length ≤ cp) (hm : Kd.C k24 w B m.length m) (hcm : m.length ≤ cq) :
    Calls Tryd.prog 67 #[.slice A l.length cp, .slice B m.length cq, .func (.func 41) #[] #[]] w fun e w' => e = .returned (.bool (decide (l.length = m.length) && sameL l m)) ∧ Below w.heap.size w w' := by
  have huF := Tryd.underlying24
  have he : ∀ args w, (callFunc 41 args).run Tryd.prog w = .ok (.enter 41 args) w := enters_f Tryd.func41 (by kernel_rfl) rfl
  have hlen := Kd.C_max hl
  have hlen2 := Kd.C_max hm
  have HL := Aside0.mk hl
  have HM := Aside0.mk hm
  have HIH := Aside0.mk ih
  clear hl hm ih
  by_cases hq : l.length = m.length
  · have HQ := Aside0.mk hq
    have HD := Aside0.mk (show (decide (l.length = m.length) && sameL l m) = sameL l m from by rw [decide_eq_true hq, Bool.true_and])
    generalize hR : (decide (l.length = m.length) && sameL l m) = R at *
    have HR := Aside0.mk hR
    have hne : ((l.length : Int) != (m.length : Int)) = false := by simp [hq]
    clear hR hq
    go_enter Tryd.func67, Tryd.ntmps67
    go_wp2
    go_loopg [17] l.length (fun kq v17 w' => ∃ j : Nat, j + kq = l.length ∧ v17 = .int .i64 j ∧ Aside0 (sameL (l.drop j) (m.drop j) = R) ∧ Aside0 (Below w.heap.size w w'))
    case atStart => exact ⟨0, by omega, rfl, ⟨HD.out.symm⟩, ⟨Below.refl _ _⟩⟩
    case round =>
      obtain ⟨WW, rfl⟩ : ∃ W : World, W = wr := ⟨_, rfl⟩
      obtain ⟨j, hj, rfl, HSL, HBj⟩ := hrel
      have HJ := Aside0.mk hj
      clear hj
      by_cases hlt : j < l.length
      · have hlt2 : j < m.length := by rw [← HQ.out]; exact hlt
        obtain ⟨ad, A3, c3, e0, hx0, hx1, hx2, hl3, hk3⟩ := kid_at HL.out HBj.out j hlt hlt
        cases e0
        have HST := Aside0.mk ((sameL_step hlt hlt2).symm.trans HSL.out)
        obtain ⟨W6, hW6⟩ : ∃ W6, W6 = WW.alloc (.cells #[.int .i64 (l[j]'hlt).f0, .int .i64 (l[j]'hlt).f1, .slice A3 (l[j]'hlt).f2.length c3] 24) := ⟨_, rfl⟩
        have hb6 : W6.heap[WW.heap.size]? = some (.cells #[.int .i64 (l[j]'hlt).f0, .int .i64 (l[j]'hlt).f1, .slice A3 (l[j]'hlt).f2.length c3] 24 (0, 0)) := by rw [hW6]; exact heap_alloc_new WW _
        have hB6 : Below WW.heap.size WW W6 := by rw [hW6]; exact below_alloc (Below.refl _ _) _
        have HB6 := Aside0.mk (HBj.out.trans (hB6.mono HBj.out.size))
        have HBX := Aside0.mk hb6
        have hz6 : W6.heap.size = WW.heap.size + 1 := by rw [hW6]; simp
        have HW6 := Aside0.mk hW6
        obtain ⟨ad2, A4, c4, e0, hy0, hy1, hy2, hl4, hk4⟩ := kid_at HM.out HB6.out j hlt2 hlt2
        cases e0
        have HY := Aside0.mk (And.intro hy0 (And.intro hy1 hy2))
        have hB7 : Below w.heap.size w (W6.alloc (.cells #[.int .i64 (m[j]'hlt2).f0, .int .i64 (m[j]'hlt2).f1, .slice A4 (m[j]'hlt2).f2.length c4] 24)) := below_alloc HB6.out _
        have HCALL := Aside0.mk (HIH.out (l[j]'hlt) (List.getElem_mem hlt) (m[j]'hlt2) A3 c3 A4 c4 _ (Kd.C_below hk3 hB7) hl3 (Kd.C_below hk4 hB7) hl4)
        have HB7 := Aside0.mk hB7
        generalize sameS (l[j]'hlt) (m[j]'hlt2) = b at *
        clear hW6 hB6 hb6 hy0 hy1 hy2 hB7 hk3 hk4 hl3 hl4
        go_upto_region 6 with fail
        rw [← HW6.out]
        clear hx0 hx1 hx2
        have z0 : W6.cell? ⟨WW.heap.size, 0, none⟩ = some (.int .i64 (l[j]'hlt).f0) := (blk_cell HBX.out 0).trans rfl
        have z1 : W6.cell? ⟨WW.heap.size, 1, none⟩ = some (.int .i64 (l[j]'hlt).f1) := (blk_cell HBX.out 1).trans rfl
        have z2 : W6.cell? ⟨WW.heap.size, 2, none⟩ = some (.slice A3 (l[j]'hlt).f2.length c3) := (blk_cell HBX.out 2).trans rfl
        obtain ⟨hy0, hy1, hy2⟩ := HY.out
        clear HY
        have hlq : j < m.length := hlt2
        cases b with
        | true =>
          have HS2 := Aside0.mk (show sameL (l.drop (j + 1)) (m.drop (j + 1)) = R from by rw [← HST.out, Bool.true_and])
          go_wp2_with (go_at_call 41; refine HCALL.out.mono ?_; rintro e w2 ⟨rfl, hB⟩; have HB2 := Aside0.mk (HB7.out.trans (hB.mono HB7.out.size)); clear hB)
          go_roundg (gk - 1)
          case measure => have := HJ.out; omega
          case rel => exact ⟨j + 1, by have := HJ.out; omega, by go_num, HS2, HB2⟩
        | false =>
          have HX := Aside0.mk (show R = false from by rw [← HST.out, Bool.false_and])
          go_wp2_with (go_at_call 41; refine HCALL.out.mono ?_; rintro e w2 ⟨rfl, hB⟩; have HB2 := Aside0.mk (HB7.out.trans (hB.mono HB7.out.size)); clear hB)
          go_ret
          exact ⟨by rw [HX.out]; rfl, HB2.out⟩
      · have HX := Aside0.mk (show R = true from by rw [← HSL.out, List.drop_eq_nil_of_le (by omega)]; rfl)
        go_wp2
        go_ret
        exact ⟨by rw [HX.out]; rfl, HBj.out⟩
  · have HX := Aside0.mk (show (decide (l.length = m.length) && sameL l m) = false from by rw [decide_eq_false hq, Bool.false_and])
    generalize (decide (l.length = m.length) && sameL l m) = R at *
    have hne : ((l.length : Int) != (m.length : Int)) = true := by simp; omega
    go_enter Tryd.func67, Tryd.ntmps67
    go_wp2
    go_ret
    exact ⟨by rw [HX.out]; rfl, Below.refl _ _⟩
set_option maxHeartbeats 4000000 in
set_option maxRecDepth 100000 in
theorem alike_calls (s : S24) (ih : ∀ k ∈ s.f2, AlikeAt k) : AlikeAt s := by
  intro t A cp B cq w hk hc hm hcm
  have huF := Tryd.underlying24
  have huL := Tryd.underlying22
  obtain ⟨W0, hW0⟩ : ∃ W0, W0 = w.alloc (.cells #[.int .i64 s.f0, .int .i64 s.f1, .slice A s.f2.length cp] 24) := ⟨_, rfl⟩
  obtain ⟨W1, hW1⟩ : ∃ W1, W1 = W0.alloc (.cells #[.int .i64 t.f0, .int .i64 t.f1, .slice B t.f2.length cq] 24) := ⟨_, rfl⟩
  have hz0 : W0.heap.size = w.heap.size + 1 := by rw [hW0]; simp
  have hB1 : Below w.heap.size w W1 := by rw [hW1, hW0]; exact below_alloc (below_alloc (Below.refl _ _) _) _
  have hba : W1.heap[w.heap.size]? = some (.cells #[.int .i64 s.f0, .int .i64 s.f1, .slice A s.f2.length cp] 24 (0, 0)) := by rw [hW1, hW0]; exact blk_alloc (heap_alloc_new w _) _
  have hbb : W1.heap[w.heap.size + 1]? = some (.cells #[.int .i64 t.f0, .int .i64 t.f1, .slice B t.f2.length cq] 24 (0, 0)) := by rw [hW1, ← hz0]; exact heap_alloc_new W0 _
  have HBA := Aside0.mk hba
  have HBB := Aside0.mk hbb
  have HB1 := Aside0.mk hB1
  have HW1 := Aside0.mk (show W1 = (w.alloc (.cells #[.int .i64 s.f0, .int .i64 s.f1, .slice A s.f2.length cp] 24)).alloc (.cells #[.int .i64 t.f0, .int .i64 t.f1, .slice B t.f2.length cq] 24) from by rw [hW1, hW0])
  have HEQ := Aside0.mk (eqf_calls s.f2 t.f2 ih A B cp cq W1 (Kd.C_below hk hB1) hc (Kd.C_below hm hB1) hcm)
  have HD := Aside0.mk (show sameS s t = (decide (s.f0 = t.f0) && (decide (s.f1 = t.f1) && (decide (s.f2.length = t.f2.length) && sameL s.f2 t.f2))) from by cases s; rfl)
  have x0 : W1.cell? ⟨w.heap.size, 0, none⟩ = some (.int .i64 s.f0) := (blk_cell hba 0).trans rfl
  have x1 : W1.cell? ⟨w.heap.size, 1, none⟩ = some (.int .i64 s.f1) := (blk_cell hba 1).trans rfl
  have x2 : W1.cell? ⟨w.heap.size, 2, none⟩ = some (.slice A s.f2.length cp) := (blk_cell hba 2).trans rfl
  have y0 : W1.cell? ⟨w.heap.size + 1, 0, none⟩ = some (.int .i64 t.f0) := (blk_cell hbb 0).trans rfl
  have y1 : W1.cell? ⟨w.heap.size + 1, 1, none⟩ = some (.int .i64 t.f1) := (blk_cell hbb 1).trans rfl
  have y2 : W1.cell? ⟨w.heap.size + 1, 2, none⟩ = some (.slice B t.f2.length cq) := (blk_cell hbb 2).trans rfl
  clear hba hbb hB1 hk hm ih hW0 hW1 hz0
  generalize (decide (s.f2.length = t.f2.length) && sameL s.f2 t.f2) = R at *
  generalize sameS s t = Q at *
  go_enter Tryd.func41, Tryd.ntmps41
  go_upto_region 1 with fail
  rw [← HW1.out]
  clear HW1
  by_cases c1 : s.f0 = t.f0
  · have e1 : (s.f0 == t.f0) = true := beq_iff_eq.mpr c1
    by_cases c2 : s.f1 = t.f1
    · have e2 : (s.f1 == t.f1) = true := beq_iff_eq.mpr c2
      have HX := Aside0.mk (show Q = R from by rw [HD.out, decide_eq_true c1, decide_eq_true c2, Bool.true_and, Bool.true_and])
      clear c1 c2
      go_wp2_with (go_at_call 67; refine HEQ.out.mono ?_; rintro e w1 ⟨rfl, hB1⟩; have HB9 := Aside0.mk (HB1.out.trans (hB1.mono HB1.out.size)); clear hB1)
      go_ret
      exact ⟨by rw [HX.out]; rfl, HB9.out⟩
    · have e2 : (s.f1 == t.f1) = false := beq_eq_false_iff_ne.mpr c2
      have HX := Aside0.mk (show Q = false from by rw [HD.out, decide_eq_false c2, Bool.false_and, Bool.and_false])
      clear c1 c2
      go_wp2_with fail
      go_ret
      exact ⟨by rw [HX.out]; rfl, HB1.out⟩
  · have e1 : (s.f0 == t.f0) = false := beq_eq_false_iff_ne.mpr c1
    have HX := Aside0.mk (show Q = false from by rw [HD.out, decide_eq_false c1, Bool.false_and])
    clear c1
    go_wp2_with fail
    go_ret
    exact ⟨by rw [HX.out]; rfl, HB1.out⟩
mutual
theorem alike_all : ∀ s : S24, AlikeAt s
  | ⟨op, m, kids⟩ => alike_calls ⟨op, m, kids⟩ (alike_kids kids)
theorem alike_kids : ∀ (l : List S24) (k : S24), k ∈ l → AlikeAt k
  | [], k, hk => by simp at hk
  | a :: r, k, hk => by
    rcases List.mem_cons.1 hk with h | h
    · rw [h]
      exact alike_all a
    · exact alike_kids r k h
end
def formula_alike.f (a0_0 : Int) (a0_1 : Int) (l0_2 : List S24) (a1_0 : Int) (a1_1 : Int) (l1_2 : List S24) : Option Bool := some (sameS ⟨a0_0, a0_1, l0_2⟩ ⟨a1_0, a1_1, l1_2⟩)
theorem formula_alike.calls (a0_0 : Int) (a0_1 : Int) (A0_2 : Option Addr) (c0_2 : Nat) (l0_2 : List S24) (a1_0 : Int) (a1_1 : Int) (A1_2 : Option Addr) (c1_2 : Nat) (l1_2 : List S24) (r : Bool) (w : World) (hr0_2 : Kd.C k24 w A0_2 l0_2.length l0_2) (hc0_2 : l0_2.length ≤ c0_2) (hr1_2 : Kd.C k24 w A1_2 l1_2.length l1_2) (hc1_2 : l1_2.length ≤ c1_2) (h : formula_alike.f a0_0 a0_1 l0_2 a1_0 a1_1 l1_2 = some r) :
    Calls Tryd.prog 41 #[.agg #[.int .i64 a0_0, .int .i64 a0_1, .slice A0_2 l0_2.length c0_2], .agg #[.int .i64 a1_0, .int .i64 a1_1, .slice A1_2 l1_2.length c1_2]] w fun e w' => e = .returned (.bool r) ∧ Below w.heap.size w w' := by
  obtain rfl := Option.some.inj h
  exact alike_all ⟨a0_0, a0_1, l0_2⟩ ⟨a1_0, a1_1, l1_2⟩ A0_2 c0_2 A1_2 c1_2 w hr0_2 hc0_2 hr1_2 hc1_2
end Go.Proofs.YtjjnokodkeekhaaDoor.X

namespace Go.Proofs.YtjjnokodkeekhaaDoor.P
open Go.RowKit Go.Proofs.YtjjnokodkeekhaaDoorW.PrintWords Go.Proofs.YtjjnokodkeekhaaDoorW.PrintLast Go.Proofs.YtjjnokodkeekhaaDoorW.PrintMore
attribute [local go_sem] max2_int min2_int max_two min_two max_three min_three max_four min_four   -- for this text's walks alone
set_option linter.unusedVariables false
set_option linter.unusedSimpArgs false

open Go.Proofs.YtjjnokodkeekhaaDoor.X
def formula_Same.f (a0_0 : Int) (a0_1 : Int) (l0_2 : List (S24)) (a1_0 : Int) (a1_1 : Int) (l1_2 : List (S24)) : Option (Bool) := (formula_light.f a0_0 a0_1 l0_2).bind fun t543 => (if t543 = true then ((formula_light.f a1_0 a1_1 l1_2).bind fun t544 => (if t544 = true then ((formula_alike.f a0_0 a0_1 l0_2 a1_0 a1_1 l1_2).bind fun t545 => (some t545)) else (some false))) else (some false))
set_option maxHeartbeats 8000000 in
set_option maxRecDepth 100000 in
theorem formula_Same.calls (a0_0 : Int) (a0_1 : Int) (A0_2 : Option Addr) (c0_2 : Nat) (l0_2 : List (S24)) (a1_0 : Int) (a1_1 : Int) (A1_2 : Option Addr) (c1_2 : Nat) (l1_2 : List (S24)) (r : Bool) (w : World) (hr0_2 : Kd.C k24 w A0_2 l0_2.length l0_2) (hc0_2 : l0_2.length ≤ c0_2) (hr1_2 : Kd.C k24 w A1_2 l1_2.length l1_2) (hc1_2 : l1_2.length ≤ c1_2) (h : formula_Same.f a0_0 a0_1 l0_2 a1_0 a1_1 l1_2 = some r) :
    Calls Tryd.prog 21 #[.agg #[.int .i64 a0_0, .int .i64 a0_1, .slice A0_2 l0_2.length c0_2], .agg #[.int .i64 a1_0, .int .i64 a1_1, .slice A1_2 l1_2.length c1_2]] w fun e w' => e = .returned (.bool r) ∧ Below w.heap.size w w' := by
  have hu24 := Tryd.underlying24
  have HR0_2 := Aside0.mk hr0_2
  have HC0_2 := Aside0.mk hc0_2
  clear hr0_2 hc0_2
  have HR1_2 := Aside0.mk hr1_2
  have HC1_2 := Aside0.mk hc1_2
  clear hr1_2 hc1_2
  have HB := Aside0.mk (Below.refl w.heap.size w)
  have H : ((formula_light.f a0_0 a0_1 l0_2).bind fun t543 => (if t543 = true then ((formula_light.f a1_0 a1_1 l1_2).bind fun t544 => (if t544 = true then ((formula_alike.f a0_0 a0_1 l0_2 a1_0 a1_1 l1_2).bind fun t545 => (some t545)) else (some false))) else (some false))) = some r := h
  clear h
  replace H := Option.bind_eq_some_iff.mp H
  obtain ⟨t543, A30, H⟩ := H
  replace H : (if t543 = true then ((formula_light.f a1_0 a1_1 l1_2).bind fun t544 => (if t544 = true then ((formula_alike.f a0_0 a0_1 l0_2 a1_0 a1_1 l1_2).bind fun t545 => (some t545)) else (some false))) else (some false)) = some r := H
  have A3 := Aside0.mk A30
  clear A30
  by_cases c4 : t543 = true
  · subst c4
    have H1 : ((formula_light.f a1_0 a1_1 l1_2).bind fun t544 => (if t544 = true then ((formula_alike.f a0_0 a0_1 l0_2 a1_0 a1_1 l1_2).bind fun t545 => (some t545)) else (some false))) = some r := by rw [if_pos rfl] at H; exact H
    clear H
    have H := H1
    clear H1
    replace H := Option.bind_eq_some_iff.mp H
    obtain ⟨t544, A50, H⟩ := H
    replace H : (if t544 = true then ((formula_alike.f a0_0 a0_1 l0_2 a1_0 a1_1 l1_2).bind fun t545 => (some t545)) else (some false)) = some r := H
    have A5 := Aside0.mk A50
    clear A50
    by_cases c6 : t544 = true
    · subst c6
      have H1 : ((formula_alike.f a0_0 a0_1 l0_2 a1_0 a1_1 l1_2).bind fun t545 => (some t545)) = some r := by rw [if_pos rfl] at H; exact H
      clear H
      have H := H1
      clear H1
      replace H := Option.bind_eq_some_iff.mp H
      obtain ⟨t545, A70, H⟩ := H
      replace H : (some t545) = some r := H
      have A7 := Aside0.mk A70
      clear A70
      obtain rfl := Option.some.inj H
      go_enter Tryd.func21, Tryd.ntmps21
      go_wp2_with (first | ((with_reducible refine gate_dst (N := 2) rfl ?_); refine box_event ?hg (N := 2) ?hd (cs := #[.int .i64 a0_0, .int .i64 a0_1, .slice A0_2 l0_2.length c0_2]) (t := 24) ?hr ?_; (case hd => rfl); (case hg => rfl); (case hr => first | (go_simp; done) | (go_simp; rfl)); intro gb541 hg w8 hbox hb; have n0_ := Aside0.mk (below_step (by repeat (first | (with_reducible first | exact HB.out | apply below_alloc | apply pw_below_drewN | apply below_drew1) | exact HB.out)) hb); have n1_ := Aside0.mk (hbox); have n2_ := Aside0.mk ((by rw [hg]; exact (below_size (by repeat (first | (with_reducible first | exact HB.out | apply below_alloc | apply pw_below_drewN | apply below_drew1) | exact HB.out))) : w.heap.size ≤ gb541)); have n3_ := Aside0.mk ((by rw [hg]; exact (below_size (by repeat (first | (with_reducible first | exact HB.out | apply below_alloc | apply pw_below_drewN | apply below_drew1) | exact HB.out))) : w.heap.size ≤ gb541)); clear HB; have HB := n0_; have BK541 := n1_; have GW541 := n2_; have GE541 := n3_; clear n0_ n1_ n2_ n3_; clear hb hbox hg) | ((with_reducible refine gate_dst (N := 3) rfl ?_); refine box_event ?hg (N := 3) ?hd (cs := #[.int .i64 a1_0, .int .i64 a1_1, .slice A1_2 l1_2.length c1_2]) (t := 24) ?hr ?_; (case hd => rfl); (case hg => rfl); (case hr => first | (go_simp; done) | (go_simp; rfl)); intro gb542 hg w9 hbox hb; have n0_ := Aside0.mk (blk_below (g := gb541) (o := .cells #[.int .i64 a0_0, .int .i64 a0_1, .slice A0_2 l0_2.length c0_2] 24 (0, 0)) (by (with_reducible repeat (first | refine blk_drewN ?_ _ | refine blk_drew ?_ | refine blk_alloc ?_ _)); exact BK541.out) hb); have n1_ := Aside0.mk (below_step (by repeat (first | (with_reducible first | exact HB.out | apply below_alloc | apply pw_below_drewN | apply below_drew1 | refine below_set ?_ GE541.out) | exact HB.out)) hb); have n2_ := Aside0.mk (hbox); have n3_ := Aside0.mk ((by rw [hg]; exact (below_size (by repeat (first | (with_reducible first | exact HB.out | apply below_alloc | apply pw_below_drewN | apply below_drew1 | refine below_set ?_ GE541.out) | exact HB.out))) : w.heap.size ≤ gb542)); have n4_ := Aside0.mk ((by rw [hg]; exact (below_size (by repeat (first | (with_reducible first | exact HB.out | apply below_alloc | apply pw_below_drewN | apply below_drew1 | refine below_set ?_ GE541.out) | exact HB.out))) : w.heap.size ≤ gb542)); have n5_ := Aside0.mk ((by rw [hg]; exact Nat.ne_of_lt (blk_lt (g := gb541) (o := .cells #[.int .i64 a0_0, .int .i64 a0_1, .slice A0_2 l0_2.length c0_2] 24 (0, 0)) (by (with_reducible repeat (first | refine blk_drewN ?_ _ | refine blk_drew ?_ | refine blk_alloc ?_ _)); exact BK541.out)) : gb541 ≠ gb542)); have n6_ := Aside0.mk ((by rw [hg]; exact Nat.ne_of_gt (blk_lt (g := gb541) (o := .cells #[.int .i64 a0_0, .int .i64 a0_1, .slice A0_2 l0_2.length c0_2] 24 (0, 0)) (by (with_reducible repeat (first | refine blk_drewN ?_ _ | refine blk_drew ?_ | refine blk_alloc ?_ _)); exact BK541.out)) : gb542 ≠ gb541)); clear BK541; clear HB; have BK541 := n0_; have HB := n1_; have BK542 := n2_; have GW542 := n3_; have GE542 := n4_; have NB541_542 := n5_; have NB542_541 := n6_; clear n0_ n1_ n2_ n3_ n4_ n5_ n6_; clear hb hbox hg; have hnb10 := NB541_542.out; have hnc10 := NB542_541.out; have hcz11_0 : w9.cell? ⟨gb541, 0, none⟩ = some (.int .i64 a0_0) := (blk_cell BK541.out 0).trans rfl; have hcz11_1 : w9.cell? ⟨gb541, 1, none⟩ = some (.int .i64 a0_1) := (blk_cell BK541.out 1).trans rfl; have hcz11_2 : w9.cell? ⟨gb541, 2, none⟩ = some (.slice A0_2 l0_2.length c0_2) := (blk_cell BK541.out 2).trans rfl; have hfz11_0 := blk_frozen BK541.out 0; have hfz11_1 := blk_frozen BK541.out 1; have hfz11_2 := blk_frozen BK541.out 2) | ((with_reducible refine gate_callee (f := 32) rfl ?_); refine goesL_ (some 6) rfl rfl Tryd.func32 (by kernel_rfl) rfl #[.agg #[.int .i64 a0_0, .int .i64 a0_1, .slice A0_2 l0_2.length c0_2]] rfl (by (try simp only [List.map_toArray, List.map_cons, List.map_nil]); first | done | rfl | (simp only [List.length_drop, List.length_take]; rfl)) ?_; (with_reducible refine (formula_light.calls a0_0 a0_1 _ _ l0_2 true _ ?side1 ?side2 A3.out).mono ?_); (case side1 => repeat (first | exact (Kd.C_below HR0_2.out HB.out) | (with_reducible refine Kd.C_alloc ?_ _) | (with_reducible refine Kd.C_drewN ?_ _) | (with_reducible refine Kd.C_drew ?_))); (case side2 => exact HC0_2.out); rintro e w12 ⟨rfl, hb⟩; refine ⟨_, rfl, ?_⟩; have n0_ := Aside0.mk (blk_below (g := gb541) (o := .cells #[.int .i64 a0_0, .int .i64 a0_1, .slice A0_2 l0_2.length c0_2] 24 (0, 0)) (by (with_reducible repeat (first | refine blk_drewN ?_ _ | refine blk_drew ?_ | refine blk_alloc ?_ _)); exact BK541.out) hb); have n1_ := Aside0.mk (blk_below (g := gb542) (o := .cells #[.int .i64 a1_0, .int .i64 a1_1, .slice A1_2 l1_2.length c1_2] 24 (0, 0)) (by (with_reducible repeat (first | refine blk_drewN ?_ _ | refine blk_drew ?_ | refine blk_alloc ?_ _)); exact BK542.out) hb); have n2_ := Aside0.mk (below_step (by repeat (first | (with_reducible first | exact HB.out | apply below_alloc | apply pw_below_drewN | apply below_drew1 | refine below_set ?_ GE541.out | refine below_set ?_ GE542.out) | exact HB.out)) hb); clear BK541; clear BK542; clear HB; have BK541 := n0_; have BK542 := n1_; have HB := n2_; clear n0_ n1_ n2_; (try clear hb); (try clear hb2); (try clear hk); (try clear hi); have hcz13_0 : w12.cell? ⟨gb542, 0, none⟩ = some (.int .i64 a1_0) := (blk_cell BK542.out 0).trans rfl; have hcz13_1 : w12.cell? ⟨gb542, 1, none⟩ = some (.int .i64 a1_1) := (blk_cell BK542.out 1).trans rfl; have hcz13_2 : w12.cell? ⟨gb542, 2, none⟩ = some (.slice A1_2 l1_2.length c1_2) := (blk_cell BK542.out 2).trans rfl; have hfz13_0 := blk_frozen BK542.out 0; have hfz13_1 := blk_frozen BK542.out 1; have hfz13_2 := blk_frozen BK542.out 2) | (go_at_call 32; (with_reducible refine (formula_light.calls a1_0 a1_1 _ _ l1_2 true _ ?side1 ?side2 A5.out).mono ?_); (case side1 => repeat (first | exact (Kd.C_below HR1_2.out HB.out) | (with_reducible refine Kd.C_alloc ?_ _) | (with_reducible refine Kd.C_drewN ?_ _) | (with_reducible refine Kd.C_drew ?_))); (case side2 => exact HC1_2.out); rintro e w14 ⟨rfl, hb⟩; have n0_ := Aside0.mk (blk_below (g := gb541) (o := .cells #[.int .i64 a0_0, .int .i64 a0_1, .slice A0_2 l0_2.length c0_2] 24 (0, 0)) (by (with_reducible repeat (first | refine blk_drewN ?_ _ | refine blk_drew ?_ | refine blk_alloc ?_ _)); exact BK541.out) hb); have n1_ := Aside0.mk (blk_below (g := gb542) (o := .cells #[.int .i64 a1_0, .int .i64 a1_1, .slice A1_2 l1_2.length c1_2] 24 (0, 0)) (by (with_reducible repeat (first | refine blk_drewN ?_ _ | refine blk_drew ?_ | refine blk_alloc ?_ _)); exact BK542.out) hb); have n2_ := Aside0.mk (below_step (by repeat (first | (with_reducible first | exact HB.out | apply below_alloc | apply pw_below_drewN | apply below_drew1 | refine below_set ?_ GE541.out | refine below_set ?_ GE542.out) | exact HB.out)) hb); clear BK541; clear BK542; clear HB; have BK541 := n0_; have BK542 := n1_; have HB := n2_; clear n0_ n1_ n2_; (try clear hb); (try clear hb2); (try clear hk); (try clear hi); have hcz15_0 : w14.cell? ⟨gb541, 0, none⟩ = some (.int .i64 a0_0) := (blk_cell BK541.out 0).trans rfl; have hcz15_1 : w14.cell? ⟨gb541, 1, none⟩ = some (.int .i64 a0_1) := (blk_cell BK541.out 1).trans rfl; have hcz15_2 : w14.cell? ⟨gb541, 2, none⟩ = some (.slice A0_2 l0_2.length c0_2) := (blk_cell BK541.out 2).trans rfl; have hfz15_0 := blk_frozen BK541.out 0; have hfz15_1 := blk_frozen BK541.out 1; have hfz15_2 := blk_frozen BK541.out 2; have hcz16_0 : w14.cell? ⟨gb542, 0, none⟩ = some (.int .i64 a1_0) := (blk_cell BK542.out 0).trans rfl; have hcz16_1 : w14.cell? ⟨gb542, 1, none⟩ = some (.int .i64 a1_1) := (blk_cell BK542.out 1).trans rfl; have hcz16_2 : w14.cell? ⟨gb542, 2, none⟩ = some (.slice A1_2 l1_2.length c1_2) := (blk_cell BK542.out 2).trans rfl; have hfz16_0 := blk_frozen BK542.out 0; have hfz16_1 := blk_frozen BK542.out 1; have hfz16_2 := blk_frozen BK542.out 2) | (go_at_call 41; (with_reducible refine (formula_alike.calls a0_0 a0_1 _ _ l0_2 a1_0 a1_1 _ _ l1_2 t545 _ ?side1 ?side2 ?side3 ?side4 A7.out).mono ?_); (case side1 => repeat (first | exact (Kd.C_below HR0_2.out HB.out) | (with_reducible refine Kd.C_alloc ?_ _) | (with_reducible refine Kd.C_drewN ?_ _) | (with_reducible refine Kd.C_drew ?_))); (case side2 => exact HC0_2.out); (case side3 => repeat (first | exact (Kd.C_below HR1_2.out HB.out) | (with_reducible refine Kd.C_alloc ?_ _) | (with_reducible refine Kd.C_drewN ?_ _) | (with_reducible refine Kd.C_drew ?_))); (case side4 => exact HC1_2.out); rintro e w17 ⟨rfl, hb⟩; have n0_ := Aside0.mk (blk_below (g := gb541) (o := .cells #[.int .i64 a0_0, .int .i64 a0_1, .slice A0_2 l0_2.length c0_2] 24 (0, 0)) (by (with_reducible repeat (first | refine blk_drewN ?_ _ | refine blk_drew ?_ | refine blk_alloc ?_ _)); exact BK541.out) hb); have n1_ := Aside0.mk (blk_below (g := gb542) (o := .cells #[.int .i64 a1_0, .int .i64 a1_1, .slice A1_2 l1_2.length c1_2] 24 (0, 0)) (by (with_reducible repeat (first | refine blk_drewN ?_ _ | refine blk_drew ?_ | refine blk_alloc ?_ _)); exact BK542.out) hb); have n2_ := Aside0.mk (below_step (by repeat (first | (with_reducible first | exact HB.out | apply below_alloc | apply pw_below_drewN | apply below_drew1 | refine below_set ?_ GE541.out | refine below_set ?_ GE542.out) | exact HB.out)) hb); clear BK541; clear BK542; clear HB; have BK541 := n0_; have BK542 := n1_; have HB := n2_; clear n0_ n1_ n2_; (try clear hb); (try clear hb2); (try clear hk); (try clear hi)))
      go_ret
      exact ⟨by first | rfl | (simp [errW_none, errW_some] <;> rfl) | (simp [*, errW_none, errW_some] <;> rfl), by repeat (first | (with_reducible first | exact HB.out | apply below_alloc | apply pw_below_drewN | apply below_drew1 | refine below_set ?_ GE541.out | refine below_set ?_ GE542.out) | exact HB.out)⟩
    · replace c6 := Bool.eq_false_iff.mpr c6
      subst c6
      have H1 : (some false) = some r := by rw [if_neg (show ¬ (false = true) by decide)] at H; exact H
      clear H
      have H := H1
      clear H1
      obtain rfl := Option.some.inj H
      go_enter Tryd.func21, Tryd.ntmps21
      go_wp2_with (first | ((with_reducible refine gate_dst (N := 2) rfl ?_); refine box_event ?hg (N := 2) ?hd (cs := #[.int .i64 a0_0, .int .i64 a0_1, .slice A0_2 l0_2.length c0_2]) (t := 24) ?hr ?_; (case hd => rfl); (case hg => rfl); (case hr => first | (go_simp; done) | (go_simp; rfl)); intro gb541 hg w18 hbox hb; have n0_ := Aside0.mk (below_step (by repeat (first | (with_reducible first | exact HB.out | apply below_alloc | apply pw_below_drewN | apply below_drew1) | exact HB.out)) hb); have n1_ := Aside0.mk (hbox); have n2_ := Aside0.mk ((by rw [hg]; exact (below_size (by repeat (first | (with_reducible first | exact HB.out | apply below_alloc | apply pw_below_drewN | apply below_drew1) | exact HB.out))) : w.heap.size ≤ gb541)); have n3_ := Aside0.mk ((by rw [hg]; exact (below_size (by repeat (first | (with_reducible first | exact HB.out | apply below_alloc | apply pw_below_drewN | apply below_drew1) | exact HB.out))) : w.heap.size ≤ gb541)); clear HB; have HB := n0_; have BK541 := n1_; have GW541 := n2_; have GE541 := n3_; clear n0_ n1_ n2_ n3_; clear hb hbox hg) | ((with_reducible refine gate_dst (N := 3) rfl ?_); refine box_event ?hg (N := 3) ?hd (cs := #[.int .i64 a1_0, .int .i64 a1_1, .slice A1_2 l1_2.length c1_2]) (t := 24) ?hr ?_; (case hd => rfl); (case hg => rfl); (case hr => first | (go_simp; done) | (go_simp; rfl)); intro gb542 hg w19 hbox hb; have n0_ := Aside0.mk (blk_below (g := gb541) (o := .cells #[.int .i64 a0_0, .int .i64 a0_1, .slice A0_2 l0_2.length c0_2] 24 (0, 0)) (by (with_reducible repeat (first | refine blk_drewN ?_ _ | refine blk_drew ?_ | refine blk_alloc ?_ _)); exact BK541.out) hb); have n1_ := Aside0.mk (below_step (by repeat (first | (with_reducible first | exact HB.out | apply below_alloc | apply pw_below_drewN | apply below_drew1 | refine below_set ?_ GE541.out) | exact HB.out)) hb); have n2_ := Aside0.mk (hbox); have n3_ := Aside0.mk ((by rw [hg]; exact (below_size (by repeat (first | (with_reducible first | exact HB.out | apply below_alloc | apply pw_below_drewN | apply below_drew1 | refine below_set ?_ GE541.out) | exact HB.out))) : w.heap.size ≤ gb542)); have n4_ := Aside0.mk ((by rw [hg]; exact (below_size (by repeat (first | (with_reducible first | exact HB.out | apply below_alloc | apply pw_below_drewN | apply below_drew1 | refine below_set ?_ GE541.out) | exact HB.out))) : w.heap.size ≤ gb542)); have n5_ := Aside0.mk ((by rw [hg]; exact Nat.ne_of_lt (blk_lt (g := gb541) (o := .cells #[.int .i64 a0_0, .int .i64 a0_1, .slice A0_2 l0_2.length c0_2] 24 (0, 0)) (by (with_reducible repeat (first | refine blk_drewN ?_ _ | refine blk_drew ?_ | refine blk_alloc ?_ _)); exact BK541.out)) : gb541 ≠ gb542)); have n6_ := Aside0.mk ((by rw [hg]; exact Nat.ne_of_gt (blk_lt (g := gb541) (o := .cells #[.int .i64 a0_0, .int .i64 a0_1, .slice A0_2 l0_2.length c0_2] 24 (0, 0)) (by (with_reducible repeat (first | refine blk_drewN ?_ _ | refine blk_drew ?_ | refine blk_alloc ?_ _)); exact BK541.out)) : gb542 ≠ gb541)); clear BK541; clear HB; have BK541 := n0_; have HB := n1_; have BK542 := n2_; have GW542 := n3_; have GE542 := n4_; have NB541_542 := n5_; have NB542_541 := n6_; clear n0_ n1_ n2_ n3_ n4_ n5_ n6_; clear hb hbox hg; have hnb20 := NB541_542.out; have hnc20 := NB542_541.out; have hcz21_0 : w19.cell? ⟨gb541, 0, none⟩ = some (.int .i64 a0_0) := (blk_cell BK541.out 0).trans rfl; have hcz21_1 : w19.cell? ⟨gb541, 1, none⟩ = some (.int .i64 a0_1) := (blk_cell BK541.out 1).trans rfl; have hcz21_2 : w19.cell? ⟨gb541, 2, none⟩ = some (.slice A0_2 l0_2.length c0_2) := (blk_cell BK541.out 2).trans rfl; have hfz21_0 := blk_frozen BK541.out 0; have hfz21_1 := blk_frozen BK541.out 1; have hfz21_2 := blk_frozen BK541.out 2) | ((with_reducible refine gate_callee (f := 32) rfl ?_); refine goesL_ (some 6) rfl rfl Tryd.func32 (by kernel_rfl) rfl #[.agg #[.int .i64 a0_0, .int .i64 a0_1, .slice A0_2 l0_2.length c0_2]] rfl (by (try simp only [List.map_toArray, List.map_cons, List.map_nil]); first | done | rfl | (simp only [List.length_drop, List.length_take]; rfl)) ?_; (with_reducible refine (formula_light.calls a0_0 a0_1 _ _ l0_2 true _ ?side1 ?side2 A3.out).mono ?_); (case side1 => repeat (first | exact (Kd.C_below HR0_2.out HB.out) | (with_reducible refine Kd.C_alloc ?_ _) | (with_reducible refine Kd.C_drewN ?_ _) | (with_reducible refine Kd.C_drew ?_))); (case side2 => exact HC0_2.out); rintro e w22 ⟨rfl, hb⟩; refine ⟨_, rfl, ?_⟩; have n0_ := Aside0.mk (blk_below (g := gb541) (o := .cells #[.int .i64 a0_0, .int .i64 a0_1, .slice A0_2 l0_2.length c0_2] 24 (0, 0)) (by (with_reducible repeat (first | refine blk_drewN ?_ _ | refine blk_drew ?_ | refine blk_alloc ?_ _)); exact BK541.out) hb); have n1_ := Aside0.mk (blk_below (g := gb542) (o := .cells #[.int .i64 a1_0, .int .i64 a1_1, .slice A1_2 l1_2.length c1_2] 24 (0, 0)) (by (with_reducible repeat (first | refine blk_drewN ?_ _ | refine blk_drew ?_ | refine blk_alloc ?_ _)); exact BK542.out) hb); have n2_ := Aside0.mk (below_step (by repeat (first | (with_reducible first | exact HB.out | apply below_alloc | apply pw_below_drewN | apply below_drew1 | refine below_set ?_ GE541.out | refine below_set ?_ GE542.out) | exact HB.out)) hb); clear BK541; clear BK542; clear HB; have BK541 := n0_; have BK542 := n1_; have HB := n2_; clear n0_ n1_ n2_; (try clear hb); (try clear hb2); (try clear hk); (try clear hi); have hcz23_0 : w22.cell? ⟨gb542, 0, none⟩ = some (.int .i64 a1_0) := (blk_cell BK542.out 0).trans rfl; have hcz23_1 : w22.cell? ⟨gb542, 1, none⟩ = some (.int .i64 a1_1) := (blk_cell BK542.out 1).trans rfl; have hcz23_2 : w22.cell? ⟨gb542, 2, none⟩ = some (.slice A1_2 l1_2.length c1_2) := (blk_cell BK542.out 2).trans rfl; have hfz23_0 := blk_frozen BK542.out 0; have hfz23_1 := blk_frozen BK542.out 1; have hfz23_2 := blk_frozen BK542.out 2) | (go_at_call 32; (with_reducible refine (formula_light.calls a1_0 a1_1 _ _ l1_2 false _ ?side1 ?side2 A5.out).mono ?_); (case side1 => repeat (first | exact (Kd.C_below HR1_2.out HB.out) | (with_reducible refine Kd.C_alloc ?_ _) | (with_reducible refine Kd.C_drewN ?_ _) | (with_reducible refine Kd.C_drew ?_))); (case side2 => exact HC1_2.out); rintro e w24 ⟨rfl, hb⟩; have n0_ := Aside0.mk (blk_below (g := gb541) (o := .cells #[.int .i64 a0_0, .int .i64 a0_1, .slice A0_2 l0_2.length c0_2] 24 (0, 0)) (by (with_reducible repeat (first | refine blk_drewN ?_ _ | refine blk_drew ?_ | refine blk_alloc ?_ _)); exact BK541.out) hb); have n1_ := Aside0.mk (blk_below (g := gb542) (o := .cells #[.int .i64 a1_0, .int .i64 a1_1, .slice A1_2 l1_2.length c1_2] 24 (0, 0)) (by (with_reducible repeat (first | refine blk_drewN ?_ _ | refine blk_drew ?_ | refine blk_alloc ?_ _)); exact BK542.out) hb); have n2_ := Aside0.mk (below_step (by repeat (first | (with_reducible first | exact HB.out | apply below_alloc | apply pw_below_drewN | apply below_drew1 | refine below_set ?_ GE541.out | refine below_set ?_ GE542.out) | exact HB.out)) hb); clear BK541; clear BK542; clear HB; have BK541 := n0_; have BK542 := n1_; have HB := n2_; clear n0_ n1_ n2_; (try clear hb); (try clear hb2); (try clear hk); (try clear hi)))
      go_ret
      exact ⟨by first | rfl | (simp [errW_none, errW_some] <;> rfl) | (simp [*, errW_none, errW_some] <;> rfl), by repeat (first | (with_reducible first | exact HB.out | apply below_alloc | apply pw_below_drewN | apply below_drew1 | refine below_set ?_ GE541.out | refine below_set ?_ GE542.out) | exact HB.out)⟩
  · replace c4 := Bool.eq_false_iff.mpr c4
    subst c4
    have H1 : (some false) = some r := by rw [if_neg (show ¬ (false = true) by decide)] at H; exact H
    clear H
    have H := H1
    clear H1
    obtain rfl := Option.some.inj H
    go_enter Tryd.func21, Tryd.ntmps21
    go_wp2_with (first | ((with_reducible refine gate_dst (N := 2) rfl ?_); refine box_event ?hg (N := 2) ?hd (cs := #[.int .i64 a0_0, .int .i64 a0_1, .slice A0_2 l0_2.length c0_2]) (t := 24) ?hr ?_; (case hd => rfl); (case hg => rfl); (case hr => first | (go_simp; done) | (go_simp; rfl)); intro gb541 hg w25 hbox hb; have n0_ := Aside0.mk (below_step (by repeat (first | (with_reducible first | exact HB.out | apply below_alloc | apply pw_below_drewN | apply below_drew1) | exact HB.out)) hb); have n1_ := Aside0.mk (hbox); have n2_ := Aside0.mk ((by rw [hg]; exact (below_size (by repeat (first | (with_reducible first | exact HB.out | apply below_alloc | apply pw_below_drewN | apply below_drew1) | exact HB.out))) : w.heap.size ≤ gb541)); have n3_ := Aside0.mk ((by rw [hg]; exact (below_size (by repeat (first | (with_reducible first | exact HB.out | apply below_alloc | apply pw_below_drewN | apply below_drew1) | exact HB.out))) : w.heap.size ≤ gb541)); clear HB; have HB := n0_; have BK541 := n1_; have GW541 := n2_; have GE541 := n3_; clear n0_ n1_ n2_ n3_; clear hb hbox hg) | ((with_reducible refine gate_dst (N := 3) rfl ?_); refine box_event ?hg (N := 3) ?hd (cs := #[.int .i64 a1_0, .int .i64 a1_1, .slice A1_2 l1_2.length c1_2]) (t := 24) ?hr ?_; (case hd => rfl); (case hg => rfl); (case hr => first | (go_simp; done) | (go_simp; rfl)); intro gb542 hg w26 hbox hb; have n0_ := Aside0.mk (blk_below (g := gb541) (o := .cells #[.int .i64 a0_0, .int .i64 a0_1, .slice A0_2 l0_2.length c0_2] 24 (0, 0)) (by (with_reducible repeat (first | refine blk_drewN ?_ _ | refine blk_drew ?_ | refine blk_alloc ?_ _)); exact BK541.out) hb); have n1_ := Aside0.mk (below_step (by repeat (first | (with_reducible first | exact HB.out | apply below_alloc | apply pw_below_drewN | apply below_drew1 | refine below_set ?_ GE541.out) | exact HB.out)) hb); have n2_ := Aside0.mk (hbox); have n3_ := Aside0.mk ((by rw [hg]; exact (below_size (by repeat (first | (with_reducible first | exact HB.out | apply below_alloc | apply pw_below_drewN | apply below_drew1 | refine below_set ?_ GE541.out) | exact HB.out))) : w.heap.size ≤ gb542)); have n4_ := Aside0.mk ((by rw [hg]; exact (below_size (by repeat (first | (with_reducible first | exact HB.out | apply below_alloc | apply pw_below_drewN | apply below_drew1 | refine below_set ?_ GE541.out) | exact HB.out))) : w.heap.size ≤ gb542)); have n5_ := Aside0.mk ((by rw [hg]; exact Nat.ne_of_lt (blk_lt (g := gb541) (o := .cells #[.int .i64 a0_0, .int .i64 a0_1, .slice A0_2 l0_2.length c0_2] 24 (0, 0)) (by (with_reducible repeat (first | refine blk_drewN ?_ _ | refine blk_drew ?_ | refine blk_alloc ?_ _)); exact BK541.out)) : gb541 ≠ gb542)); have n6_ := Aside0.mk ((by rw [hg]; exact Nat.ne_of_gt (blk_lt (g := gb541) (o := .cells #[.int .i64 a0_0, .int .i64 a0_1, .slice A0_2 l0_2.length c0_2] 24 (0, 0)) (by (with_reducible repeat (first | refine blk_drewN ?_ _ | refine blk_drew ?_ | refine blk_alloc ?_ _)); exact BK541.out)) : gb542 ≠ gb541)); clear BK541; clear HB; have BK541 := n0_; have HB := n1_; have BK542 := n2_; have GW542 := n3_; have GE542 := n4_; have NB541_542 := n5_; have NB542_541 := n6_; clear n0_ n1_ n2_ n3_ n4_ n5_ n6_; clear hb hbox hg; have hnb27 := NB541_542.out; have hnc27 := NB542_541.out; have hcz28_0 : w26.cell? ⟨gb541, 0, none⟩ = some (.int .i64 a0_0) := (blk_cell BK541.out 0).trans rfl; have hcz28_1 : w26.cell? ⟨gb541, 1, none⟩ = some (.int .i64 a0_1) := (blk_cell BK541.out 1).trans rfl; have hcz28_2 : w26.cell? ⟨gb541, 2, none⟩ = some (.slice A0_2 l0_2.length c0_2) := (blk_cell BK541.out 2).trans rfl; have hfz28_0 := blk_frozen BK541.out 0; have hfz28_1 := blk_frozen BK541.out 1; have hfz28_2 := blk_frozen BK541.out 2) | ((with_reducible refine gate_callee (f := 32) rfl ?_); refine goesL_ (some 6) rfl rfl Tryd.func32 (by kernel_rfl) rfl #[.agg #[.int .i64 a0_0, .int .i64 a0_1, .slice A0_2 l0_2.length c0_2]] rfl (by (try simp only [List.map_toArray, List.map_cons, List.map_nil]); first | done | rfl | (simp only [List.length_drop, List.length_take]; rfl)) ?_; (with_reducible refine (formula_light.calls a0_0 a0_1 _ _ l0_2 false _ ?side1 ?side2 A3.out).mono ?_); (case side1 => repeat (first | exact (Kd.C_below HR0_2.out HB.out) | (with_reducible refine Kd.C_alloc ?_ _) | (with_reducible refine Kd.C_drewN ?_ _) | (with_reducible refine Kd.C_drew ?_))); (case side2 => exact HC0_2.out); rintro e w29 ⟨rfl, hb⟩; refine ⟨_, rfl, ?_⟩; have n0_ := Aside0.mk (blk_below (g := gb541) (o := .cells #[.int .i64 a0_0, .int .i64 a0_1, .slice A0_2 l0_2.length c0_2] 24 (0, 0)) (by (with_reducible repeat (first | refine blk_drewN ?_ _ | refine blk_drew ?_ | refine blk_alloc ?_ _)); exact BK541.out) hb); have n1_ := Aside0.mk (blk_below (g := gb542) (o := .cells #[.int .i64 a1_0, .int .i64 a1_1, .slice A1_2 l1_2.length c1_2] 24 (0, 0)) (by (with_reducible repeat (first | refine blk_drewN ?_ _ | refine blk_drew ?_ | refine blk_alloc ?_ _)); exact BK542.out) hb); have n2_ := Aside0.mk (below_step (by repeat (first | (with_reducible first | exact HB.out | apply below_alloc | apply pw_below_drewN | apply below_drew1 | refine below_set ?_ GE541.out | refine below_set ?_ GE542.out) | exact HB.out)) hb); clear BK541; clear BK542; clear HB; have BK541 := n0_; have BK542 := n1_; have HB := n2_; clear n0_ n1_ n2_; (try clear hb); (try clear hb2); (try clear hk); (try clear hi)))
    go_ret
    exact ⟨by first | rfl | (simp [errW_none, errW_some] <;> rfl) | (simp [*, errW_none, errW_some] <;> rfl), by repeat (first | (with_reducible first | exact HB.out | apply below_alloc | apply pw_below_drewN | apply below_drew1 | refine below_set ?_ GE541.out | refine below_set ?_ GE542.out) | exact HB.out)⟩

end Go.Proofs.YtjjnokodkeekhaaDoor.P

namespace Go.Proofs.YtjjnokodkeekhaaDoor.P
open Go.RowKit Go.Proofs.YtjjnokodkeekhaaDoorW.PrintWords Go.Proofs.YtjjnokodkeekhaaDoorW.PrintLast Go.Proofs.YtjjnokodkeekhaaDoorW.PrintMore
attribute [local go_sem] max2_int min2_int max_two min_two max_three min_three max_four min_four   -- for this text's walks alone
set_option linter.unusedVariables false
set_option linter.unusedSimpArgs false

mutual
def formula_copied.l0 : Nat → List (S24) → Int → Int → Int → Int → List (S24) → Option (Int × Int × (List (S24)))
  | 0, _, _, _, _, _, _ => none
  | k + 1, x12, x13, x14, x136000, x136001, x136002 => if x14 < x13 then (if 0 ≤ x14 then (if x14 < (x12.length : Int) then ((formula_copied.f k ((rd_T24 x12 x14).f0) ((rd_T24 x12 x14).f1) ((rd_T24 x12 x14).f2)).bind fun bt138 => (if x136002.length < 3518437208883 then (formula_copied.l0 k x12 x13 (wrap64 (x14 + 1)) x136000 x136001 (x136002 ++ [(⟨bt138.1, bt138.2.1, bt138.2.2⟩ : S24)])) else (none))) else (none)) else (none)) else (some (x136000, x136001, x136002))
def formula_copied.f : Nat → Int → Int → List (S24) → Option (Int × Int × (List (S24)))
  | 0, _, _, _ => none
  | k + 1, a0_0, a0_1, l0_2 => formula_copied.l0 k l0_2 (l0_2.length : Int) 0 a0_0 a0_1 ([] : List (S24))
end
theorem formula_copied.mono_l : ∀ k, (∀ y0 y1 y2, LeO (formula_copied.f k y0 y1 y2) (formula_copied.f (k + 1) y0 y1 y2)) ∧ (∀ y0 y1 y2 y3 y4 y5, LeO (formula_copied.l0 k y0 y1 y2 y3 y4 y5) (formula_copied.l0 (k + 1) y0 y1 y2 y3 y4 y5))
  | 0 => ⟨fun _ _ _ r h => by simp [formula_copied.f] at h, fun _ _ _ _ _ _ r h => by simp [formula_copied.l0] at h⟩
  | k + 1 => by
    obtain ⟨ih0, ih1⟩ := formula_copied.mono_l k
    refine ⟨?_, ?_⟩
    · intro y0 y1 y2
      unfold formula_copied.f
      repeat' first
      | (with_reducible exact ih0 _ _ _)
      | (with_reducible exact ih1 _ _ _ _ _ _)
      | (with_reducible exact LeO.refl _)
      | (with_reducible exact LeO.none _)
      | (with_reducible refine LeO.ite ?_ ?_)
      | (with_reducible refine LeO.bind ?_ (fun _ => ?_))
      | exact ih0 _ _ _
      | exact ih1 _ _ _ _ _ _
      | exact LeO.none _
      | refine LeO.ite ?_ ?_
      | refine LeO.bind ?_ (fun _ => ?_)
    · intro y0 y1 y2 y3 y4 y5
      unfold formula_copied.l0
      repeat' first
      | (with_reducible exact ih0 _ _ _)
      | (with_reducible exact ih1 _ _ _ _ _ _)
      | (with_reducible exact LeO.refl _)
      | (with_reducible exact LeO.none _)
      | (with_reducible refine LeO.ite ?_ ?_)
      | (with_reducible refine LeO.bind ?_ (fun _ => ?_))
      | exact ih0 _ _ _
      | exact ih1 _ _ _ _ _ _
      | exact LeO.none _
      | refine LeO.ite ?_ ?_
      | refine LeO.bind ?_ (fun _ => ?_)
theorem formula_copied.mono : ∀ a0 a1 a2 k, LeO (formula_copied.f k a0 a1 a2) (formula_copied.f (k + 1) a0 a1 a2) := by
  intro a0 a1 a2 k
  obtain ⟨ih0, ih1⟩ := formula_copied.mono_l k
  exact ih0 a0 a1 a2
def formula_copied.T5 : Bool × List (List Nat × List Nat) := (true, [([], []), ([0], [0]), ([], []), ([2], [2]), ([3], [3]), ([1, 4, 3], [1, 4]), ([0, 1, 2, 3, 4, 5], []), ([6, 5, 5, 0, 1, 2, 3, 4, 5], [5, 6])])
def formula_copied.B5 : List Nat := [0, 1, 0, 4, 12, 31, 63, 127]
theorem formula_copied.tab5 : rtab .any (opsOf Tryd.f47 5) = formula_copied.T5 := by kernel_rfl
theorem formula_copied.bits5 : waitsOk formula_copied.T5.2 formula_copied.B5 = true := by kernel_rfl
set_option maxHeartbeats 8000000 in
set_option maxRecDepth 100000 in
theorem formula_copied.calls (k : Nat) : ∀ (a0_0 : Int) (a0_1 : Int) (A0_2 : Option Addr) (c0_2 : Nat) (l0_2 : List (S24)) (r1 : Int) (r2 : Int) (r3 : List (S24)) (w : World) (hr0_2 : Kd.C k24 w A0_2 l0_2.length l0_2) (hc0_2 : l0_2.length ≤ c0_2) (h : formula_copied.f k a0_0 a0_1 l0_2 = some (r1, r2, r3)),
    Calls Tryd.prog 47 #[.agg #[.int .i64 a0_0, .int .i64 a0_1, .slice A0_2 l0_2.length c0_2]] w fun e w' => ∃ v2_ : Value, e = .returned (.agg #[.int .i64 r1, .int .i64 r2, v2_]) ∧ Kd.R k24 24 w' w.heap.size (fun _ => True) v2_ r3 ∧ Below w.heap.size w w' := by
  induction k using Nat.strongRecOn with
  | _ k ih =>
  intro a0_0 a0_1 A0_2 c0_2 l0_2 r1 r2 r3 w hr0_2 hc0_2 h
  cases k with
  | zero => exact absurd h (by simp [formula_copied.f])
  | succ k =>
  simp only [formula_copied.f] at h
  have hu24 := Tryd.underlying24
  have HR0_2 := Aside0.mk hr0_2
  have HC0_2 := Aside0.mk hc0_2
  clear hr0_2 hc0_2
  have HB := Aside0.mk (Below.refl w.heap.size w)
  have H : (formula_copied.l0 k l0_2 (l0_2.length : Int) 0 a0_0 a0_1 ([] : List (S24))) = some (r1, r2, r3) := h
  clear h
  have H' := Aside0.mk H
  clear H
  go_enter Tryd.func47, Tryd.ntmps47
  go_wp2_with (first | ((with_reducible refine gate_dst (N := 1) rfl ?_); refine box_event ?hg (N := 1) ?hd (cs := #[.int .i64 a0_0, .int .i64 a0_1, .slice A0_2 l0_2.length c0_2]) (t := 24) ?hr ?_; (case hd => rfl); (case hg => rfl); (case hr => first | (go_simp; done) | (go_simp; rfl)); intro gb133 hg w2 hbox hb; have n0_ := Aside0.mk (below_step (by repeat (first | (with_reducible first | exact HB.out | apply below_alloc | apply pw_below_drewN | apply below_drew1) | exact HB.out)) hb); have n1_ := Aside0.mk (hbox); have n2_ := Aside0.mk ((by rw [hg]; exact (below_size (by repeat (first | (with_reducible first | exact HB.out | apply below_alloc | apply pw_below_drewN | apply below_drew1) | exact HB.out))) : w.heap.size ≤ gb133)); have n3_ := Aside0.mk ((by rw [hg]; exact (below_size (by repeat (first | (with_reducible first | exact HB.out | apply below_alloc | apply pw_below_drewN | apply below_drew1) | exact HB.out))) : w.heap.size ≤ gb133)); clear HB; have HB := n0_; have BK133 := n1_; have GW133 := n2_; have GE133 := n3_; clear n0_ n1_ n2_ n3_; clear hb hbox hg) | ((with_reducible refine gate_dst (N := 2) rfl ?_); refine box_event ?hg (N := 2) ?hd (cs := #[.int .i64 0, .int .i64 0, .slice none 0 0]) (t := 24) ?hr ?_; (case hd => rfl); (case hg => rfl); (case hr => first | (go_simp; done) | (go_simp; rfl)); intro gb134 hg w3 hbox hb; have n0_ := Aside0.mk (blk_below (g := gb133) (o := .cells #[.int .i64 a0_0, .int .i64 a0_1, .slice A0_2 l0_2.length c0_2] 24 (0, 0)) (by (with_reducible repeat (first | refine blk_drewN ?_ _ | refine blk_drew ?_ | refine blk_alloc ?_ _)); exact BK133.out) hb); have n1_ := Aside0.mk (below_step (by repeat (first | (with_reducible first | exact HB.out | apply below_alloc | apply pw_below_drewN | apply below_drew1 | refine below_set ?_ GE133.out) | exact HB.out)) hb); have n2_ := Aside0.mk (hbox); have n3_ := Aside0.mk ((by rw [hg]; exact (below_size (by repeat (first | (with_reducible first | exact HB.out | apply below_alloc | apply pw_below_drewN | apply below_drew1 | refine below_set ?_ GE133.out) | exact HB.out))) : w.heap.size ≤ gb134)); have n4_ := Aside0.mk ((by rw [hg]; exact (below_size (by repeat (first | (with_reducible first | exact HB.out | apply below_alloc | apply pw_below_drewN | apply below_drew1 | refine below_set ?_ GE133.out) | exact HB.out))) : w.heap.size ≤ gb134)); have n5_ := Aside0.mk ((by rw [hg]; exact Nat.ne_of_lt (blk_lt (g := gb133) (o := .cells #[.int .i64 a0_0, .int .i64 a0_1, .slice A0_2 l0_2.length c0_2] 24 (0, 0)) (by (with_reducible repeat (first | refine blk_drewN ?_ _ | refine blk_drew ?_ | refine blk_alloc ?_ _)); exact BK133.out)) : gb133 ≠ gb134)); have n6_ := Aside0.mk ((by rw [hg]; exact Nat.ne_of_gt (blk_lt (g := gb133) (o := .cells #[.int .i64 a0_0, .int .i64 a0_1, .slice A0_2 l0_2.length c0_2] 24 (0, 0)) (by (with_reducible repeat (first | refine blk_drewN ?_ _ | refine blk_drew ?_ | refine blk_alloc ?_ _)); exact BK133.out)) : gb134 ≠ gb133)); clear BK133; clear HB; have BK133 := n0_; have HB := n1_; have BK134 := n2_; have GW134 := n3_; have GE134 := n4_; have NB133_134 := n5_; have NB134_133 := n6_; clear n0_ n1_ n2_ n3_ n4_ n5_ n6_; clear hb hbox hg; have hnb4 := NB133_134.out; have hnc4 := NB134_133.out; have hcz5_0 : w3.cell? ⟨gb133, 0, none⟩ = some (.int .i64 a0_0) := (blk_cell BK133.out 0).trans rfl; have hcz5_1 : w3.cell? ⟨gb133, 1, none⟩ = some (.int .i64 a0_1) := (blk_cell BK133.out 1).trans rfl; have hcz5_2 : w3.cell? ⟨gb133, 2, none⟩ = some (.slice A0_2 l0_2.length c0_2) := (blk_cell BK133.out 2).trans rfl; have hfz5_0 := blk_frozen BK133.out 0; have hfz5_1 := blk_frozen BK133.out 1; have hfz5_2 := blk_frozen BK133.out 2) | ((with_reducible refine gate_dst (N := 3) rfl ?_); refine box_event ?hg (N := 3) ?hd (cs := #[.int .i64 0, .int .i64 0, .slice none 0 0]) (t := 24) ?hr ?_; (case hd => rfl); (case hg => rfl); (case hr => first | (go_simp; done) | (go_simp; rfl)); intro gb135 hg w6 hbox hb; have n0_ := Aside0.mk (blk_below (g := gb133) (o := .cells #[.int .i64 a0_0, .int .i64 a0_1, .slice A0_2 l0_2.length c0_2] 24 (0, 0)) (by (with_reducible repeat (first | refine blk_drewN ?_ _ | refine blk_drew ?_ | refine blk_alloc ?_ _)); exact BK133.out) hb); have n1_ := Aside0.mk (blk_below (g := gb134) (o := .cells #[.int .i64 0, .int .i64 0, .slice none 0 0] 24 (0, 0)) (by (with_reducible repeat (first | refine blk_drewN ?_ _ | refine blk_drew ?_ | refine blk_alloc ?_ _)); exact BK134.out) hb); have n2_ := Aside0.mk (below_step (by repeat (first | (with_reducible first | exact HB.out | apply below_alloc | apply pw_below_drewN | apply below_drew1 | refine below_set ?_ GE133.out | refine below_set ?_ GE134.out) | exact HB.out)) hb); have n3_ := Aside0.mk (hbox); have n4_ := Aside0.mk ((by rw [hg]; exact (below_size (by repeat (first | (with_reducible first | exact HB.out | apply below_alloc | apply pw_below_drewN | apply below_drew1 | refine below_set ?_ GE133.out | refine below_set ?_ GE134.out) | exact HB.out))) : w.heap.size ≤ gb135)); have n5_ := Aside0.mk ((by rw [hg]; exact (below_size (by repeat (first | (with_reducible first | exact HB.out | apply below_alloc | apply pw_below_drewN | apply below_drew1 | refine below_set ?_ GE133.out | refine below_set ?_ GE134.out) | exact HB.out))) : w.heap.size ≤ gb135)); have n6_ := Aside0.mk ((by rw [hg]; exact Nat.ne_of_lt (blk_lt (g := gb133) (o := .cells #[.int .i64 a0_0, .int .i64 a0_1, .slice A0_2 l0_2.length c0_2] 24 (0, 0)) (by (with_reducible repeat (first | refine blk_drewN ?_ _ | refine blk_drew ?_ | refine blk_alloc ?_ _)); exact BK133.out)) : gb133 ≠ gb135)); have n7_ := Aside0.mk ((by rw [hg]; exact Nat.ne_of_gt (blk_lt (g := gb133) (o := .cells #[.int .i64 a0_0, .int .i64 a0_1, .slice A0_2 l0_2.length c0_2] 24 (0, 0)) (by (with_reducible repeat (first | refine blk_drewN ?_ _ | refine blk_drew ?_ | refine blk_alloc ?_ _)); exact BK133.out)) : gb135 ≠ gb133)); have n8_ := Aside0.mk ((by rw [hg]; exact Nat.ne_of_lt (blk_lt (g := gb134) (o := .cells #[.int .i64 0, .int .i64 0, .slice none 0 0] 24 (0, 0)) (by (with_reducible repeat (first | refine blk_drewN ?_ _ | refine blk_drew ?_ | refine blk_alloc ?_ _)); exact BK134.out)) : gb134 ≠ gb135)); have n9_ := Aside0.mk ((by rw [hg]; exact Nat.ne_of_gt (blk_lt (g := gb134) (o := .cells #[.int .i64 0, .int .i64 0, .slice none 0 0] 24 (0, 0)) (by (with_reducible repeat (first | refine blk_drewN ?_ _ | refine blk_drew ?_ | refine blk_alloc ?_ _)); exact BK134.out)) : gb135 ≠ gb134)); clear BK133; clear BK134; clear HB; have BK133 := n0_; have BK134 := n1_; have HB := n2_; have BK135 := n3_; have GW135 := n4_; have GE135 := n5_; have NB133_135 := n6_; have NB135_133 := n7_; have NB134_135 := n8_; have NB135_134 := n9_; clear n0_ n1_ n2_ n3_ n4_ n5_ n6_ n7_ n8_ n9_; clear hb hbox hg; have hnb7 := NB135_133.out; have hnc7 := NB133_135.out; have hnb8 := NB135_134.out; have hnc8 := NB134_135.out; have hcz9_0 : w6.cell? ⟨gb135, 0, none⟩ = some (.int .i64 0) := (blk_cell BK135.out 0).trans rfl; have hcz9_1 : w6.cell? ⟨gb135, 1, none⟩ = some (.int .i64 0) := (blk_cell BK135.out 1).trans rfl; have hcz9_2 : w6.cell? ⟨gb135, 2, none⟩ = some (.slice none 0 0) := (blk_cell BK135.out 2).trans rfl; have hfz9_0 := blk_frozen BK135.out 0; have hfz9_1 := blk_frozen BK135.out 1; have hfz9_2 := blk_frozen BK135.out 2; have hcz10_0 : w6.cell? ⟨gb133, 0, none⟩ = some (.int .i64 a0_0) := (blk_cell BK133.out 0).trans rfl; have hcz10_1 : w6.cell? ⟨gb133, 1, none⟩ = some (.int .i64 a0_1) := (blk_cell BK133.out 1).trans rfl; have hcz10_2 : w6.cell? ⟨gb133, 2, none⟩ = some (.slice A0_2 l0_2.length c0_2) := (blk_cell BK133.out 2).trans rfl; have hfz10_0 := blk_frozen BK133.out 0; have hfz10_1 := blk_frozen BK133.out 1; have hfz10_2 := blk_frozen BK133.out 2))
  go_loopg [14] k (fun kq v14 w' => ∃ (x14_1 : Int) (x136002_1 : List (S24)) (u136002 : Value), v14 = .int .i64 x14_1 ∧ Aside0 (formula_copied.l0 kq l0_2 (l0_2.length : Int) x14_1 a0_0 a0_1 x136002_1 = some (r1, r2, r3)) ∧ Aside0 (kq ≤ k) ∧ Aside0 (Kd.R k24 24 w' w.heap.size (fun k_ => k_ ≠ gb133 ∧ k_ ≠ gb134 ∧ k_ ≠ gb135) u136002 x136002_1) ∧ Aside0 (w'.heap[gb133]? = some (.cells #[.int .i64 a0_0, .int .i64 a0_1, (.slice A0_2 l0_2.length c0_2)] 24 (0, 0))) ∧ Aside0 (w'.heap[gb134]? = some (.cells #[.int .i64 0, .int .i64 0, (.slice none 0 0)] 24 (0, 0))) ∧ Aside0 (w'.heap[gb135]? = some (.cells #[.int .i64 a0_0, .int .i64 a0_1, u136002] 24 (0, 0))) ∧ Aside0 (Below w.heap.size w w'))
  case atStart => exact ⟨(0), (([] : List (S24))), (.slice none 0 0), (by first | rfl | (simp; done) | (simp [*]; done)), H', ⟨Nat.le_refl _⟩, ⟨by first | exact Kd.R_nil _ _ _ _ _ | exact Kd.N_nil _ _ _ _ _ | exact Kd.V_nil _ _ _ _ _ | exact Kd.Q_nil _ _ _ _ _ | exact Kd.S_nil _ _ _ _ _⟩, ⟨by (with_reducible repeat (first | refine blk_drewN ?_ _ | refine blk_drew ?_ | refine blk_alloc ?_ _)); refine blk_far ?_ NB133_135.out _; (with_reducible repeat (first | refine blk_drewN ?_ _ | refine blk_drew ?_ | refine blk_alloc ?_ _)); refine blk_far ?_ NB133_135.out _; (with_reducible repeat (first | refine blk_drewN ?_ _ | refine blk_drew ?_ | refine blk_alloc ?_ _)); refine blk_far ?_ NB133_135.out _; (with_reducible repeat (first | refine blk_drewN ?_ _ | refine blk_drew ?_ | refine blk_alloc ?_ _)); exact BK133.out⟩, ⟨by (with_reducible repeat (first | refine blk_drewN ?_ _ | refine blk_drew ?_ | refine blk_alloc ?_ _)); refine blk_far ?_ NB134_135.out _; (with_reducible repeat (first | refine blk_drewN ?_ _ | refine blk_drew ?_ | refine blk_alloc ?_ _)); refine blk_far ?_ NB134_135.out _; (with_reducible repeat (first | refine blk_drewN ?_ _ | refine blk_drew ?_ | refine blk_alloc ?_ _)); refine blk_far ?_ NB134_135.out _; (with_reducible repeat (first | refine blk_drewN ?_ _ | refine blk_drew ?_ | refine blk_alloc ?_ _)); exact BK134.out⟩, ⟨by (with_reducible repeat (first | refine blk_drewN ?_ _ | refine blk_drew ?_ | refine blk_alloc ?_ _)); refine blk_put (cs := #[.int .i64 a0_0, .int .i64 a0_1, .slice none 0 0]) ?_ 2 _ rfl; (with_reducible repeat (first | refine blk_drewN ?_ _ | refine blk_drew ?_ | refine blk_alloc ?_ _)); refine blk_put (cs := #[.int .i64 a0_0, .int .i64 0, .slice none 0 0]) ?_ 1 _ rfl; (with_reducible repeat (first | refine blk_drewN ?_ _ | refine blk_drew ?_ | refine blk_alloc ?_ _)); refine blk_put (cs := #[.int .i64 0, .int .i64 0, .slice none 0 0]) ?_ 0 _ rfl; (with_reducible repeat (first | refine blk_drewN ?_ _ | refine blk_drew ?_ | refine blk_alloc ?_ _)); exact BK135.out⟩, ⟨by repeat (first | (with_reducible first | exact HB.out | apply below_alloc | apply pw_below_drewN | apply below_drew1 | refine below_set ?_ GE133.out | refine below_set ?_ GE134.out | refine below_set ?_ GE135.out) | exact HB.out)⟩⟩
  case round =>
    clear H'
    try clear p2
    try clear c4
    try clear c7
    try clear c8
    try clear hcz10_0
    try clear hcz10_1
    try clear hcz10_2
    try clear hcz5_0
    try clear hcz5_1
    try clear hcz5_2
    try clear hcz9_0
    try clear hcz9_1
    try clear hcz9_2
    try clear hfz10_0
    try clear hfz10_1
    try clear hfz10_2
    try clear hfz5_0
    try clear hfz5_1
    try clear hfz5_2
    try clear hfz9_0
    try clear hfz9_1
    try clear hfz9_2
    obtain ⟨x14_1, x136002_1, u136002, rfl, HA, HK1, HO_136002, BK133, BK134, BK135, HB⟩ := hrel
    cases gk with
    | zero => exact absurd HA.out (by simp [formula_copied.l0])
    | succ k1 =>
      have H := HA.out
      clear HA
      simp only [formula_copied.l0] at H
      by_cases c11 : x14_1 < (l0_2.length : Int)
      · rw [if_pos c11] at H
        have c11b0 : decide (x14_1 < (l0_2.length : Int)) = true := decide_eq_true c11
        clear c11
        by_cases c12 : 0 ≤ x14_1
        · rw [if_pos c12] at H
          have c12b0 : decide (0 ≤ x14_1) = true := decide_eq_true c12
          clear c12
          by_cases c13 : x14_1 < (l0_2.length : Int)
          · rw [if_pos c13] at H
            have c13b0 : decide (x14_1 < (l0_2.length : Int)) = true := decide_eq_true c13
            clear c13
            replace H := Option.bind_eq_some_iff.mp H
            obtain ⟨⟨t138, t139, t140⟩, A140, H⟩ := H
            replace H : (if x136002_1.length < 3518437208883 then (formula_copied.l0 k1 l0_2 (l0_2.length : Int) (wrap64 (x14_1 + 1)) a0_0 a0_1 (x136002_1 ++ [(⟨t138, t139, t140⟩ : S24)])) else (none)) = some (r1, r2, r3) := H
            have A14 := Aside0.mk A140
            clear A140
            by_cases c15 : x136002_1.length < 3518437208883
            · rw [if_pos c15] at H
              have LMc15 := Aside0.mk c15
              clear c15
              obtain ⟨y143, hy143⟩ : ∃ y_ : List (S24), y_ = (x136002_1 ++ [(⟨t138, t139, t140⟩ : S24)]) := ⟨_, rfl⟩
              replace H : (formula_copied.l0 k1 l0_2 (l0_2.length : Int) (wrap64 (x14_1 + 1)) a0_0 a0_1 y143) = some (r1, r2, r3) := by first | (rw [hy143]; with_reducible exact H) | (have H2_ := (Option.bind_some _ _).symm.trans H; rw [hy143]; with_reducible exact H2_) | (have H2_ := (Option.bind_some _ _).symm.trans H; with_reducible exact H2_) | with_reducible exact H | (rw [hy143]; exact H) | exact H
              have Ny143 := Aside0.mk hy143
              clear hy143
              have H' := Aside0.mk H
              clear H
              have p136 : 0 ≤ (x14_1 : Int) := of_decide_eq_true (by first | (with_reducible assumption) | assumption)
              have q136 : x14_1 < (l0_2.length : Int) := of_decide_eq_true (by first | (with_reducible assumption) | assumption)
              obtain ⟨ad136, A136_2, c136_2, e136, hx136_0, hx136_1, hx136_2, hl136_2, hi136_2⟩ := at_T24 HR0_2.out x14_1 p136 q136
              cases e136
              replace hx136_0 := (HB.out.cell (World.block_lt_of_cell? w _ hx136_0)).trans hx136_0
              replace hx136_1 := (HB.out.cell (World.block_lt_of_cell? w _ hx136_1)).trans hx136_1
              replace hx136_2 := (HB.out.cell (World.block_lt_of_cell? w _ hx136_2)).trans hx136_2
              have HR136_2 := Aside0.mk hi136_2
              have HC136_2 := Aside0.mk hl136_2
              clear hi136_2 hl136_2
              replace p136 := eq_true p136
              replace q136 := eq_true q136
              try go_wp2_with (first | ((with_reducible refine gate_dst (N := 5) rfl ?_); refine box_event ?hg (N := 5) ?hd (cs := #[.int .i64 0, .int .i64 0, .slice none 0 0]) (t := 24) ?hr ?_; (case hd => rfl); (case hg => rfl); (case hr => first | (go_simp; done) | (go_simp; rfl)); intro gb137 hg w16 hbox hb; have n0_ := Aside0.mk (Kd.R_below (Kd.R_elderB (by (with_reducible repeat (first | apply Kd.R_alloc | apply Kd.R_drewN | apply Kd.R_drew)); exact HO_136002.out) gb137 (Nat.le_of_eq hg.symm)) hb); have n1_ := Aside0.mk (blk_below (g := gb133) (o := .cells #[.int .i64 a0_0, .int .i64 a0_1, .slice (some ad136) l0_2.length c0_2] 24 (0, 0)) (by (with_reducible repeat (first | refine blk_drewN ?_ _ | refine blk_drew ?_ | refine blk_alloc ?_ _)); exact BK133.out) hb); have n2_ := Aside0.mk (blk_below (g := gb134) (o := .cells #[.int .i64 0, .int .i64 0, .slice none 0 0] 24 (0, 0)) (by (with_reducible repeat (first | refine blk_drewN ?_ _ | refine blk_drew ?_ | refine blk_alloc ?_ _)); exact BK134.out) hb); have n3_ := Aside0.mk (blk_below (g := gb135) (o := .cells #[.int .i64 a0_0, .int .i64 a0_1, u136002] 24 (0, 0)) (by (with_reducible repeat (first | refine blk_drewN ?_ _ | refine blk_drew ?_ | refine blk_alloc ?_ _)); exact BK135.out) hb); have n4_ := Aside0.mk (below_step (by repeat (first | (with_reducible first | exact HB.out | apply below_alloc | apply pw_below_drewN | apply below_drew1 | refine below_set ?_ GE133.out | refine below_set ?_ GE134.out | refine below_set ?_ GE135.out) | exact HB.out)) hb); have n5_ := Aside0.mk (hbox); have n6_ := Aside0.mk ((by rw [hg]; exact (below_size (by repeat (first | (with_reducible first | exact HB.out | apply below_alloc | apply pw_below_drewN | apply below_drew1 | refine below_set ?_ GE133.out | refine below_set ?_ GE134.out | refine below_set ?_ GE135.out) | exact HB.out))) : w.heap.size ≤ gb137)); have n7_ := Aside0.mk ((by rw [hg]; exact (below_size (by repeat (first | (with_reducible first | exact HB.out | apply below_alloc | apply pw_below_drewN | apply below_drew1 | refine below_set ?_ GE133.out | refine below_set ?_ GE134.out | refine below_set ?_ GE135.out) | exact HB.out))) : w.heap.size ≤ gb137)); have n8_ := Aside0.mk ((by rw [hg]; exact Nat.ne_of_lt (blk_lt (g := gb133) (o := .cells #[.int .i64 a0_0, .int .i64 a0_1, .slice (some ad136) l0_2.length c0_2] 24 (0, 0)) (by (with_reducible repeat (first | refine blk_drewN ?_ _ | refine blk_drew ?_ | refine blk_alloc ?_ _)); exact BK133.out)) : gb133 ≠ gb137)); have n9_ := Aside0.mk ((by rw [hg]; exact Nat.ne_of_gt (blk_lt (g := gb133) (o := .cells #[.int .i64 a0_0, .int .i64 a0_1, .slice (some ad136) l0_2.length c0_2] 24 (0, 0)) (by (with_reducible repeat (first | refine blk_drewN ?_ _ | refine blk_drew ?_ | refine blk_alloc ?_ _)); exact BK133.out)) : gb137 ≠ gb133)); have n10_ := Aside0.mk ((by rw [hg]; exact Nat.ne_of_lt (blk_lt (g := gb134) (o := .cells #[.int .i64 0, .int .i64 0, .slice none 0 0] 24 (0, 0)) (by (with_reducible repeat (first | refine blk_drewN ?_ _ | refine blk_drew ?_ | refine blk_alloc ?_ _)); exact BK134.out)) : gb134 ≠ gb137)); have n11_ := Aside0.mk ((by rw [hg]; exact Nat.ne_of_gt (blk_lt (g := gb134) (o := .cells #[.int .i64 0, .int .i64 0, .slice none 0 0] 24 (0, 0)) (by (with_reducible repeat (first | refine blk_drewN ?_ _ | refine blk_drew ?_ | refine blk_alloc ?_ _)); exact BK134.out)) : gb137 ≠ gb134)); have n12_ := Aside0.mk ((by rw [hg]; exact Nat.ne_of_lt (blk_lt (g := gb135) (o := .cells #[.int .i64 a0_0, .int .i64 a0_1, u136002] 24 (0, 0)) (by (with_reducible repeat (first | refine blk_drewN ?_ _ | refine blk_drew ?_ | refine blk_alloc ?_ _)); exact BK135.out)) : gb135 ≠ gb137)); have n13_ := Aside0.mk ((by rw [hg]; exact Nat.ne_of_gt (blk_lt (g := gb135) (o := .cells #[.int .i64 a0_0, .int .i64 a0_1, u136002] 24 (0, 0)) (by (with_reducible repeat (first | refine blk_drewN ?_ _ | refine blk_drew ?_ | refine blk_alloc ?_ _)); exact BK135.out)) : gb137 ≠ gb135)); clear HO_136002; clear BK133; clear BK134; clear BK135; clear HB; have HO_136002 := n0_; have BK133 := n1_; have BK134 := n2_; have BK135 := n3_; have HB := n4_; have BK137 := n5_; have GW137 := n6_; have GE137 := n7_; have NB133_137 := n8_; have NB137_133 := n9_; have NB134_137 := n10_; have NB137_134 := n11_; have NB135_137 := n12_; have NB137_135 := n13_; clear n0_ n1_ n2_ n3_ n4_ n5_ n6_ n7_ n8_ n9_ n10_ n11_ n12_ n13_; clear hb hbox hg; have hnb17 := NB137_133.out; have hnc17 := NB133_137.out; have hnb18 := NB137_134.out; have hnc18 := NB134_137.out; have hnb19 := NB137_135.out; have hnc19 := NB135_137.out; have hcz20_0 : w16.cell? ⟨gb137, 0, none⟩ = some (.int .i64 0) := (blk_cell BK137.out 0).trans rfl; have hcz20_1 : w16.cell? ⟨gb137, 1, none⟩ = some (.int .i64 0) := (blk_cell BK137.out 1).trans rfl; have hcz20_2 : w16.cell? ⟨gb137, 2, none⟩ = some (.slice none 0 0) := (blk_cell BK137.out 2).trans rfl; have hfz20_0 := blk_frozen BK137.out 0; have hfz20_1 := blk_frozen BK137.out 1; have hfz20_2 := blk_frozen BK137.out 2))
              have n0_ : Aside0 (Kd.R k24 24 (((w16.setCell ⟨gb137, 0, none⟩ (.int .i64 ((rd_T24 l0_2 x14_1).f0))).setCell ⟨gb137, 1, none⟩ (.int .i64 ((rd_T24 l0_2 x14_1).f1))).setCell ⟨gb137, 2, none⟩ (.slice A136_2 ((rd_T24 l0_2 x14_1).f2).length c136_2)) w.heap.size (fun k_ => k_ ≠ gb133 ∧ k_ ≠ gb134 ∧ k_ ≠ gb135 ∧ k_ ≠ gb137) u136002 x136002_1) := ⟨by (with_reducible repeat (first | apply Kd.R_alloc | apply Kd.R_drewN | apply Kd.R_drew)); exact Kd.R_mono (Kd.R_far (p := ⟨gb137, 2, none⟩) (Kd.R_far (p := ⟨gb137, 1, none⟩) (Kd.R_far (p := ⟨gb137, 0, none⟩) (Kd.R_mono HO_136002.out (fun k_ hk => (⟨hk, hk.2⟩ : _ ∧ k_ ≠ gb137))) (fun _ hk => hk.2) (.int .i64 ((rd_T24 l0_2 x14_1).f0))) (fun _ hk => hk.2) (.int .i64 ((rd_T24 l0_2 x14_1).f1))) (fun _ hk => hk.2) (.slice A136_2 ((rd_T24 l0_2 x14_1).f2).length c136_2)) (fun _ hk => ⟨hk.1.1.1, ⟨hk.1.1.2.1, ⟨hk.1.1.2.2, hk.1.2⟩⟩⟩)⟩
              have n1_ : Aside0 ((((w16.setCell ⟨gb137, 0, none⟩ (.int .i64 ((rd_T24 l0_2 x14_1).f0))).setCell ⟨gb137, 1, none⟩ (.int .i64 ((rd_T24 l0_2 x14_1).f1))).setCell ⟨gb137, 2, none⟩ (.slice A136_2 ((rd_T24 l0_2 x14_1).f2).length c136_2)).heap[gb133]? = some (.cells #[.int .i64 a0_0, .int .i64 a0_1, .slice (some ad136) l0_2.length c0_2] 24 (0, 0))) := ⟨by (with_reducible repeat (first | refine blk_drewN ?_ _ | refine blk_drew ?_ | refine blk_alloc ?_ _)); refine blk_far ?_ NB133_137.out _; (with_reducible repeat (first | refine blk_drewN ?_ _ | refine blk_drew ?_ | refine blk_alloc ?_ _)); refine blk_far ?_ NB133_137.out _; (with_reducible repeat (first | refine blk_drewN ?_ _ | refine blk_drew ?_ | refine blk_alloc ?_ _)); refine blk_far ?_ NB133_137.out _; (with_reducible repeat (first | refine blk_drewN ?_ _ | refine blk_drew ?_ | refine blk_alloc ?_ _)); exact BK133.out⟩
              have n2_ : Aside0 ((((w16.setCell ⟨gb137, 0, none⟩ (.int .i64 ((rd_T24 l0_2 x14_1).f0))).setCell ⟨gb137, 1, none⟩ (.int .i64 ((rd_T24 l0_2 x14_1).f1))).setCell ⟨gb137, 2, none⟩ (.slice A136_2 ((rd_T24 l0_2 x14_1).f2).length c136_2)).heap[gb134]? = some (.cells #[.int .i64 0, .int .i64 0, .slice none 0 0] 24 (0, 0))) := ⟨by (with_reducible repeat (first | refine blk_drewN ?_ _ | refine blk_drew ?_ | refine blk_alloc ?_ _)); refine blk_far ?_ NB134_137.out _; (with_reducible repeat (first | refine blk_drewN ?_ _ | refine blk_drew ?_ | refine blk_alloc ?_ _)); refine blk_far ?_ NB134_137.out _; (with_reducible repeat (first | refine blk_drewN ?_ _ | refine blk_drew ?_ | refine blk_alloc ?_ _)); refine blk_far ?_ NB134_137.out _; (with_reducible repeat (first | refine blk_drewN ?_ _ | refine blk_drew ?_ | refine blk_alloc ?_ _)); exact BK134.out⟩
              have n3_ : Aside0 ((((w16.setCell ⟨gb137, 0, none⟩ (.int .i64 ((rd_T24 l0_2 x14_1).f0))).setCell ⟨gb137, 1, none⟩ (.int .i64 ((rd_T24 l0_2 x14_1).f1))).setCell ⟨gb137, 2, none⟩ (.slice A136_2 ((rd_T24 l0_2 x14_1).f2).length c136_2)).heap[gb135]? = some (.cells #[.int .i64 a0_0, .int .i64 a0_1, u136002] 24 (0, 0))) := ⟨by (with_reducible repeat (first | refine blk_drewN ?_ _ | refine blk_drew ?_ | refine blk_alloc ?_ _)); refine blk_far ?_ NB135_137.out _; (with_reducible repeat (first | refine blk_drewN ?_ _ | refine blk_drew ?_ | refine blk_alloc ?_ _)); refine blk_far ?_ NB135_137.out _; (with_reducible repeat (first | refine blk_drewN ?_ _ | refine blk_drew ?_ | refine blk_alloc ?_ _)); refine blk_far ?_ NB135_137.out _; (with_reducible repeat (first | refine blk_drewN ?_ _ | refine blk_drew ?_ | refine blk_alloc ?_ _)); exact BK135.out⟩
              have n4_ : Aside0 ((((w16.setCell ⟨gb137, 0, none⟩ (.int .i64 ((rd_T24 l0_2 x14_1).f0))).setCell ⟨gb137, 1, none⟩ (.int .i64 ((rd_T24 l0_2 x14_1).f1))).setCell ⟨gb137, 2, none⟩ (.slice A136_2 ((rd_T24 l0_2 x14_1).f2).length c136_2)).heap[gb137]? = some (.cells #[.int .i64 ((rd_T24 l0_2 x14_1).f0), .int .i64 ((rd_T24 l0_2 x14_1).f1), .slice A136_2 ((rd_T24 l0_2 x14_1).f2).length c136_2] 24 (0, 0))) := ⟨by (with_reducible repeat (first | refine blk_drewN ?_ _ | refine blk_drew ?_ | refine blk_alloc ?_ _)); refine blk_put (cs := #[.int .i64 ((rd_T24 l0_2 x14_1).f0), .int .i64 ((rd_T24 l0_2 x14_1).f1), .slice none 0 0]) ?_ 2 _ rfl; (with_reducible repeat (first | refine blk_drewN ?_ _ | refine blk_drew ?_ | refine blk_alloc ?_ _)); refine blk_put (cs := #[.int .i64 ((rd_T24 l0_2 x14_1).f0), .int .i64 0, .slice none 0 0]) ?_ 1 _ rfl; (with_reducible repeat (first | refine blk_drewN ?_ _ | refine blk_drew ?_ | refine blk_alloc ?_ _)); refine blk_put (cs := #[.int .i64 0, .int .i64 0, .slice none 0 0]) ?_ 0 _ rfl; (with_reducible repeat (first | refine blk_drewN ?_ _ | refine blk_drew ?_ | refine blk_alloc ?_ _)); exact BK137.out⟩
              have n5_ : Aside0 (Below w.heap.size w (((w16.setCell ⟨gb137, 0, none⟩ (.int .i64 ((rd_T24 l0_2 x14_1).f0))).setCell ⟨gb137, 1, none⟩ (.int .i64 ((rd_T24 l0_2 x14_1).f1))).setCell ⟨gb137, 2, none⟩ (.slice A136_2 ((rd_T24 l0_2 x14_1).f2).length c136_2))) := ⟨by repeat (first | (with_reducible first | exact HB.out | apply below_alloc | apply pw_below_drewN | apply below_drew1 | refine below_set ?_ GE133.out | refine below_set ?_ GE134.out | refine below_set ?_ GE135.out | refine below_set ?_ GE137.out) | exact HB.out)⟩
              (try clear HO_136002)
              (try clear BK133)
              (try clear BK134)
              (try clear BK135)
              (try clear BK137)
              (try clear HB)
              generalize (((w16.setCell ⟨gb137, 0, none⟩ (.int .i64 ((rd_T24 l0_2 x14_1).f0))).setCell ⟨gb137, 1, none⟩ (.int .i64 ((rd_T24 l0_2 x14_1).f1))).setCell ⟨gb137, 2, none⟩ (.slice A136_2 ((rd_T24 l0_2 x14_1).f2).length c136_2)) = w21 at n0_ n1_ n2_ n3_ n4_ n5_ ⊢
              have HO_136002 := n0_
              have BK133 := n1_
              have BK134 := n2_
              have BK135 := n3_
              have BK137 := n4_
              have HB := n5_
              clear n0_ n1_ n2_ n3_ n4_ n5_
              have n0_ := Aside0.mk (Kd.R_drew HO_136002.out)
              have n1_ := Aside0.mk (blk_drew BK133.out)
              have n2_ := Aside0.mk (blk_drew BK134.out)
              have n3_ := Aside0.mk (blk_drew BK135.out)
              have n4_ := Aside0.mk (blk_drew BK137.out)
              have n5_ := Aside0.mk (below_drew1 HB.out)
              clear HO_136002
              clear BK133
              clear BK134
              clear BK135
              clear BK137
              clear HB
              have HO_136002 := n0_
              have BK133 := n1_
              have BK134 := n2_
              have BK135 := n3_
              have BK137 := n4_
              have HB := n5_
              clear n0_ n1_ n2_ n3_ n4_ n5_
              refine start_ (n := 8) (S := fun w' => w'.cell? ⟨gb135, 0, none⟩ = some (.int .i64 a0_0) ∧ w'.cell? ⟨gb135, 1, none⟩ = some (.int .i64 a0_1) ∧ w'.cell? ⟨gb135, 2, none⟩ = some (u136002) ∧ w'.cell? ⟨gb137, 0, none⟩ = some (.int .i64 ((rd_T24 l0_2 x14_1).f0)) ∧ w'.cell? ⟨gb137, 1, none⟩ = some (.int .i64 ((rd_T24 l0_2 x14_1).f1)) ∧ w'.cell? ⟨gb137, 2, none⟩ = some (.slice A136_2 ((rd_T24 l0_2 x14_1).f2).length c136_2)) (ds := [7]) #[false, false, false, false, false, false, false, false] (by kernel_rfl) rfl rfl ⟨(blk_cell BK135.out 0).trans rfl, (blk_cell BK135.out 1).trans rfl, (blk_cell BK135.out 2).trans rfl, (blk_cell BK137.out 0).trans rfl, (blk_cell BK137.out 1).trans rfl, (blk_cell BK137.out 2).trans rfl⟩ (fun hHeld => ?_); refine with_tabW formula_copied.tab5 formula_copied.bits5 (fun HT_ HW_ => ?_)
              generalize w21.drew = w22 at HO_136002 BK133 BK134 BK135 BK137 HB hHeld ⊢
              refine pure_ (i := 0) (N := some 18) (v := ?_) (a' := ?_) #[true, false, false, false, false, false, false, false] rfl rfl (any_of HT_.out (by kernel_rfl)) (fun _ _ _ h => h) (Or.inl ⟨by rfl, ?_⟩) ?_ ?_
              rotate_left
              · intro w'
                go_simp
                with_reducible rfl
              rotate_left
              · simp only [Act.put, List.setIfInBounds_toArray, List.set_cons_zero, List.set_cons_succ, i64_w, i32_w]
                rfl
              refine take_ (i := 1) (N := some 19) (v := ?_) (a' := ?_) #[true, true, false, false, false, false, false, false] rfl rfl (take_ofW HT_.out HW_.out (by kernel_rfl)) (fun _ _ _ h => h) (Or.inl ⟨by rfl, ?_⟩) hHeld ?_ ?_
              rotate_left
              · rintro w' ⟨s0, s1, s2, s3, s4, s5⟩
                go_simp
                with_reducible rfl
              rotate_left
              · simp only [Act.put, List.setIfInBounds_toArray, List.set_cons_zero, List.set_cons_succ, i64_w, i32_w]
                rfl
              refine take_ (i := 2) (N := some 20) (v := ?_) (a' := ?_) #[true, true, true, false, false, false, false, false] rfl rfl (take_ofW HT_.out HW_.out (by kernel_rfl)) (fun _ _ _ h => h) (Or.inl ⟨by rfl, ?_⟩) hHeld ?_ ?_
              rotate_left
              · rintro w' ⟨s0, s1, s2, s3, s4, s5⟩
                go_simp
                with_reducible rfl
              rotate_left
              · simp only [Act.put, List.setIfInBounds_toArray, List.set_cons_zero, List.set_cons_succ, i64_w, i32_w]
                rfl
              refine one_ (i := 3) (N := some 21) #[true, true, true, true, false, false, false, false] rfl rfl (one_of HT_.out (by kernel_rfl)) (by decide) (fun K hK => ?_)
              refine goes_ Tryd.func47 (by kernel_rfl) rfl #[.agg #[.int .i64 ((rd_T24 l0_2 x14_1).f0), .int .i64 ((rd_T24 l0_2 x14_1).f1), .slice A136_2 ((rd_T24 l0_2 x14_1).f2).length c136_2]] (by rfl) rfl rfl (by (try simp only [List.map_toArray, List.map_cons, List.map_nil]); first | done | rfl | (simp only [List.length_drop, List.length_take]; rfl)) ?_
              with_reducible refine (ih k1 (by have := HK1.out; omega) ((rd_T24 l0_2 x14_1).f0) ((rd_T24 l0_2 x14_1).f1) _ _ ((rd_T24 l0_2 x14_1).f2) t138 t139 t140 _ ?side1 ?side2 A14.out).mono ?_
              (case side1 => repeat (first | exact (Kd.C_below HR136_2.out HB.out) | (with_reducible refine Kd.C_alloc ?_ _) | (with_reducible refine Kd.C_drewN ?_ _) | (with_reducible refine Kd.C_drew ?_)))
              (case side2 => exact HC136_2.out)
              rintro e w23 ⟨v141, rfl, ho0, hb⟩
              refine ⟨_, rfl, ?_⟩
              have n0_ := Aside0.mk (Kd.R_elder' (by (with_reducible repeat (first | apply Kd.R_alloc | apply Kd.R_drewN | apply Kd.R_drew)); exact HO_136002.out) (Kd.R_base ho0) hb)
              have n1_ := Aside0.mk (Kd.R_lower (Kd.R_newB (Kd.R_newB (Kd.R_newB (Kd.R_newB (Kd.R_new' ho0 (Kd.R_lt (by (with_reducible repeat (first | apply Kd.R_alloc | apply Kd.R_drewN | apply Kd.R_drew)); exact HO_136002.out))) (g := gb133) (o := .cells #[.int .i64 a0_0, .int .i64 a0_1, .slice (some ad136) l0_2.length c0_2] 24 (0, 0)) (by (with_reducible repeat (first | refine blk_drewN ?_ _ | refine blk_drew ?_ | refine blk_alloc ?_ _)); exact BK133.out)) (g := gb134) (o := .cells #[.int .i64 0, .int .i64 0, .slice none 0 0] 24 (0, 0)) (by (with_reducible repeat (first | refine blk_drewN ?_ _ | refine blk_drew ?_ | refine blk_alloc ?_ _)); exact BK134.out)) (g := gb135) (o := .cells #[.int .i64 a0_0, .int .i64 a0_1, u136002] 24 (0, 0)) (by (with_reducible repeat (first | refine blk_drewN ?_ _ | refine blk_drew ?_ | refine blk_alloc ?_ _)); exact BK135.out)) (g := gb137) (o := .cells #[.int .i64 ((rd_T24 l0_2 x14_1).f0), .int .i64 ((rd_T24 l0_2 x14_1).f1), .slice A136_2 ((rd_T24 l0_2 x14_1).f2).length c136_2] 24 (0, 0)) (by (with_reducible repeat (first | refine blk_drewN ?_ _ | refine blk_drew ?_ | refine blk_alloc ?_ _)); exact BK137.out)) (below_size (by repeat (first | (with_reducible first | exact HB.out | apply below_alloc | apply pw_below_drewN | apply below_drew1 | refine below_set ?_ GE133.out | refine below_set ?_ GE134.out | refine below_set ?_ GE135.out | refine below_set ?_ GE137.out) | exact HB.out))))
              have n2_ := Aside0.mk (blk_below (g := gb133) (o := .cells #[.int .i64 a0_0, .int .i64 a0_1, .slice (some ad136) l0_2.length c0_2] 24 (0, 0)) (by (with_reducible repeat (first | refine blk_drewN ?_ _ | refine blk_drew ?_ | refine blk_alloc ?_ _)); exact BK133.out) hb)
              have n3_ := Aside0.mk (blk_below (g := gb134) (o := .cells #[.int .i64 0, .int .i64 0, .slice none 0 0] 24 (0, 0)) (by (with_reducible repeat (first | refine blk_drewN ?_ _ | refine blk_drew ?_ | refine blk_alloc ?_ _)); exact BK134.out) hb)
              have n4_ := Aside0.mk (blk_below (g := gb135) (o := .cells #[.int .i64 a0_0, .int .i64 a0_1, u136002] 24 (0, 0)) (by (with_reducible repeat (first | refine blk_drewN ?_ _ | refine blk_drew ?_ | refine blk_alloc ?_ _)); exact BK135.out) hb)
              have n5_ := Aside0.mk (blk_below (g := gb137) (o := .cells #[.int .i64 ((rd_T24 l0_2 x14_1).f0), .int .i64 ((rd_T24 l0_2 x14_1).f1), .slice A136_2 ((rd_T24 l0_2 x14_1).f2).length c136_2] 24 (0, 0)) (by (with_reducible repeat (first | refine blk_drewN ?_ _ | refine blk_drew ?_ | refine blk_alloc ?_ _)); exact BK137.out) hb)
              have n6_ := Aside0.mk (below_step (by repeat (first | (with_reducible first | exact HB.out | apply below_alloc | apply pw_below_drewN | apply below_drew1 | refine below_set ?_ GE133.out | refine below_set ?_ GE134.out | refine below_set ?_ GE135.out | refine below_set ?_ GE137.out) | exact HB.out)) hb)
              clear HO_136002
              clear BK133
              clear BK134
              clear BK135
              clear BK137
              clear HB
              have HO_136002 := n0_
              have HO142 := n1_
              have BK133 := n2_
              have BK134 := n3_
              have BK135 := n4_
              have BK137 := n5_
              have HB := n6_
              clear n0_ n1_ n2_ n3_ n4_ n5_ n6_
              (try clear hb)
              (try clear hb2)
              (try clear hk)
              (try clear hi)
              (try clear ho0)
              obtain ⟨Ao25, co25, eo25⟩ := Kd.R_slice HO142.out
              (first | subst eo25 | (injection eo25 with f1_ f2_ f3_; have f4_ := f1_.symm; have f5_ := f3_.symm; clear f1_ f2_ f3_; subst f4_; subst f5_))
              refine hK.out _ _ ⟨(blk_cell BK135.out 0).trans rfl, (blk_cell BK135.out 1).trans rfl, (blk_cell BK135.out 2).trans rfl, (blk_cell BK137.out 0).trans rfl, (blk_cell BK137.out 1).trans rfl, (blk_cell BK137.out 2).trans rfl⟩ (fun hHeld => ?_)
              clear hK K
              refine norm_ (a' := ?_) ?_ ?_
              rotate_left
              · show Act.put _ (some 21) _ = _
                simp only [Act.put, List.setIfInBounds_toArray, List.set_cons_zero, List.set_cons_succ, i64_w, i32_w]
                rfl
              refine one_ (i := 4) (N := some 22) #[true, true, true, true, true, false, false, false] rfl rfl (one_of HT_.out (by kernel_rfl)) (by decide) (fun K hK => ?_)
              refine value_ (w1 := ?_) (v := ?_) (by rfl) rfl ?_ ?_
              rotate_left 2
              · go_simp
                constructor
                · rfl
                · rfl
              refine hK.out _ _ ⟨(blk_cell (blk_alloc BK135.out _) 0).trans rfl, (blk_cell (blk_alloc BK135.out _) 1).trans rfl, (blk_cell (blk_alloc BK135.out _) 2).trans rfl, (blk_cell (blk_alloc BK137.out _) 0).trans rfl, (blk_cell (blk_alloc BK137.out _) 1).trans rfl, (blk_cell (blk_alloc BK137.out _) 2).trans rfl⟩ (fun hHeld => ?_)
              clear hK K
              refine norm_ (a' := ?_) ?_ ?_
              rotate_left
              · show Act.put _ (some 22) _ = _
                simp only [Act.put, List.setIfInBounds_toArray, List.set_cons_zero, List.set_cons_succ, i64_w, i32_w]
                rfl
              refine one_ (i := 5) (N := some 23) #[true, true, true, true, true, true, false, false] rfl rfl (one_of HT_.out (by kernel_rfl)) (by decide) (fun K hK => ?_)
              refine Kd.R_append_step k24 (w0 := w) w.heap.size (by rfl) (.tmp 19) (.tmp 22) 22 24 (.agg #[(.int .i64 0), (.int .i64 0), (.slice none 0 0)]) 40 rfl Tryd.underlying22 info24 rfl (by decide) (by omega) u136002 x136002_1 (⟨t138, t139, t140⟩ : S24) [.int .i64 t138, .int .i64 t139, .slice Ao25 t140.length co25] (fun k_ => k_ ≠ gb133 ∧ k_ ≠ gb134 ∧ k_ ≠ gb135 ∧ k_ ≠ gb137) (fun k_ => ((fun k_ => k_ ≠ gb133 ∧ k_ ≠ gb134 ∧ k_ ≠ gb135 ∧ k_ ≠ gb137)) k_ ∧ some k_ ≠ (u136002 : Value).ownBlock) rfl rfl ?aP (fun _ hk => hk) ?aF ?aO ?aB ?aS ?aL ?_
              (case aP => exact k24_mkM _ _ _ (⟨t138, t139, t140⟩ : S24) (Kd.R_mono (HO142.out) (fun k_ hk => ⟨⟨hk.1.1.1.2, ⟨hk.1.1.2, ⟨hk.1.2, hk.2⟩⟩⟩, hk.1.1.1.1.2⟩)))
              (case aB => exact (by repeat (first | (with_reducible first | exact HB.out | apply below_alloc | apply pw_below_drewN | apply below_drew1 | refine below_set ?_ GE133.out | refine below_set ?_ GE134.out | refine below_set ?_ GE135.out | refine below_set ?_ GE137.out) | exact HB.out)))
              (case aF => exact (fun k_ hk => ⟨Kd.freshB (g := gb133) (o := .cells #[.int .i64 a0_0, .int .i64 a0_1, .slice (some ad136) l0_2.length c0_2] 24 (0, 0)) (by (with_reducible repeat (first | refine blk_drewN ?_ _ | refine blk_drew ?_ | refine blk_alloc ?_ _)); exact BK133.out) k_ hk, Kd.freshB (g := gb134) (o := .cells #[.int .i64 0, .int .i64 0, .slice none 0 0] 24 (0, 0)) (by (with_reducible repeat (first | refine blk_drewN ?_ _ | refine blk_drew ?_ | refine blk_alloc ?_ _)); exact BK134.out) k_ hk, Kd.freshB (g := gb135) (o := .cells #[.int .i64 a0_0, .int .i64 a0_1, u136002] 24 (0, 0)) (by (with_reducible repeat (first | refine blk_drewN ?_ _ | refine blk_drew ?_ | refine blk_alloc ?_ _)); exact BK135.out) k_ hk, Kd.freshB (g := gb137) (o := .cells #[.int .i64 ((rd_T24 l0_2 x14_1).f0), .int .i64 ((rd_T24 l0_2 x14_1).f1), .slice A136_2 ((rd_T24 l0_2 x14_1).f2).length c136_2] 24 (0, 0)) (by (with_reducible repeat (first | refine blk_drewN ?_ _ | refine blk_drew ?_ | refine blk_alloc ?_ _)); exact BK137.out) k_ hk⟩))
              (case aO => exact (by (with_reducible repeat (first | apply Kd.R_alloc | apply Kd.R_drewN | apply Kd.R_drew)); exact Kd.R_mono HO_136002.out (fun _ hk => ⟨hk.1.1, ⟨hk.1.2.1, ⟨hk.1.2.2.1, hk.1.2.2.2⟩⟩⟩)))
              (case aS => exact (below_size (by repeat (first | (with_reducible first | exact HB.out | apply below_alloc | apply pw_below_drewN | apply below_drew1 | refine below_set ?_ GE133.out | refine below_set ?_ GE134.out | refine below_set ?_ GE135.out | refine below_set ?_ GE137.out) | exact HB.out))))
              (case aL => have := LMc15.out; omega)
              intro v144 w24 ho hb hg hat
              rw [← Ny143.out] at ho
              have n0_ := Aside0.mk (blk_grown (g := gb133) (o := .cells #[.int .i64 a0_0, .int .i64 a0_1, .slice (some ad136) l0_2.length c0_2] 24 (0, 0)) (by (with_reducible repeat (first | refine blk_drewN ?_ _ | refine blk_drew ?_ | refine blk_alloc ?_ _)); exact BK133.out) hg (Kd.R_away HO_136002.out (fun _ hk => hk.1.1)))
              have n1_ := Aside0.mk (blk_grown (g := gb134) (o := .cells #[.int .i64 0, .int .i64 0, .slice none 0 0] 24 (0, 0)) (by (with_reducible repeat (first | refine blk_drewN ?_ _ | refine blk_drew ?_ | refine blk_alloc ?_ _)); exact BK134.out) hg (Kd.R_away HO_136002.out (fun _ hk => hk.1.2.1)))
              have n2_ := Aside0.mk (blk_grown (g := gb135) (o := .cells #[.int .i64 a0_0, .int .i64 a0_1, u136002] 24 (0, 0)) (by (with_reducible repeat (first | refine blk_drewN ?_ _ | refine blk_drew ?_ | refine blk_alloc ?_ _)); exact BK135.out) hg (Kd.R_away HO_136002.out (fun _ hk => hk.1.2.2.1)))
              have n3_ := Aside0.mk (blk_grown (g := gb137) (o := .cells #[.int .i64 ((rd_T24 l0_2 x14_1).f0), .int .i64 ((rd_T24 l0_2 x14_1).f1), .slice A136_2 ((rd_T24 l0_2 x14_1).f2).length c136_2] 24 (0, 0)) (by (with_reducible repeat (first | refine blk_drewN ?_ _ | refine blk_drew ?_ | refine blk_alloc ?_ _)); exact BK137.out) hg (Kd.R_away HO_136002.out (fun _ hk => hk.1.2.2.2)))
              have n4_ := Aside0.mk (hb)
              have n5_ := Aside0.mk (ho)
              clear BK133
              clear BK134
              clear BK135
              clear BK137
              clear HB
              clear HO_136002
              clear HO142
              have BK133 := n0_
              have BK134 := n1_
              have BK135 := n2_
              have BK137 := n3_
              have HB := n4_
              have HO145 := n5_
              clear n0_ n1_ n2_ n3_ n4_ n5_
              clear ho hb hg hat
              obtain ⟨Ao26, co26, eo26⟩ := Kd.R_slice HO145.out
              (first | subst eo26 | (injection eo26 with f1_ f2_ f3_; have f4_ := f1_.symm; have f5_ := f3_.symm; clear f1_ f2_ f3_; subst f4_; subst f5_))
              refine hK.out _ _ ⟨(blk_cell BK135.out 0).trans rfl, (blk_cell BK135.out 1).trans rfl, (blk_cell BK135.out 2).trans rfl, (blk_cell BK137.out 0).trans rfl, (blk_cell BK137.out 1).trans rfl, (blk_cell BK137.out 2).trans rfl⟩ (fun hHeld => ?_)
              clear hK K
              refine norm_ (a' := ?_) ?_ ?_
              rotate_left
              · show Act.put _ (some 23) _ = _
                simp only [Act.put, List.setIfInBounds_toArray, List.set_cons_zero, List.set_cons_succ, i64_w, i32_w]
                rfl
              refine pure_ (i := 6) (N := some 24) (v := ?_) (a' := ?_) #[true, true, true, true, true, true, true, false] rfl rfl (any_of HT_.out (by kernel_rfl)) (fun _ _ _ h => h) (Or.inl ⟨by rfl, ?_⟩) ?_ ?_
              rotate_left
              · intro w'
                go_simp
                with_reducible rfl
              rotate_left
              · simp only [Act.put, List.setIfInBounds_toArray, List.set_cons_zero, List.set_cons_succ, i64_w, i32_w]
                rfl
              refine last_ (i := 7) (N := none) #[true, true, true, true, true, true, true, true] rfl rfl (one_of HT_.out (by kernel_rfl)) (by decide) (fun K hK => ?_)
              have hs27 : w24.cell? ⟨gb135, 2, none⟩ = some (u136002) := (blk_cell BK135.out 2).trans rfl
              have hfs27 := blk_frozen BK135.out 2
              have hns27_0 := NB133_135.out
              have hns27_1 := NB134_135.out
              have hns27_3 := NB137_135.out
              have hms27_0 := NB135_133.out
              have hms27_1 := NB135_134.out
              have hms27_3 := NB135_137.out
              refine skip_ (w1 := ?_) (by rfl) rfl ?_ ?_
              rotate_left
              · go_simp
                rfl
              refine hK.out _ _ ?_
              clear hK K
              refine done_ (done_of HT_.out (by kernel_rfl)) ?_
              try go_wp2
              go_roundg k1
              case measure => have := HK1.out; omega
              case rel => exact ⟨(wrap64 (x14_1 + 1)), (y143), (.slice Ao26 y143.length co26), (by first | rfl | (simp; done) | (simp [*]; done)), H', ⟨by have := HK1.out; omega⟩, ⟨by (with_reducible repeat (first | apply Kd.R_alloc | apply Kd.R_drewN | apply Kd.R_drew)); exact Kd.R_mono (Kd.R_far (p := ⟨gb135, 2, none⟩) (Kd.R_mono HO145.out (fun k_ hk => (⟨hk, hk.2.2.1⟩ : _ ∧ k_ ≠ gb135))) (fun _ hk => hk.2) (.slice Ao26 y143.length co26)) (fun _ hk => ⟨hk.1.1, ⟨hk.1.2.1, hk.1.2.2.1⟩⟩)⟩, ⟨by (with_reducible repeat (first | refine blk_drewN ?_ _ | refine blk_drew ?_ | refine blk_alloc ?_ _)); refine blk_far ?_ NB133_135.out _; (with_reducible repeat (first | refine blk_drewN ?_ _ | refine blk_drew ?_ | refine blk_alloc ?_ _)); exact BK133.out⟩, ⟨by (with_reducible repeat (first | refine blk_drewN ?_ _ | refine blk_drew ?_ | refine blk_alloc ?_ _)); refine blk_far ?_ NB134_135.out _; (with_reducible repeat (first | refine blk_drewN ?_ _ | refine blk_drew ?_ | refine blk_alloc ?_ _)); exact BK134.out⟩, ⟨by (with_reducible repeat (first | refine blk_drewN ?_ _ | refine blk_drew ?_ | refine blk_alloc ?_ _)); refine blk_put (cs := #[.int .i64 a0_0, .int .i64 a0_1, u136002]) ?_ 2 _ rfl; (with_reducible repeat (first | refine blk_drewN ?_ _ | refine blk_drew ?_ | refine blk_alloc ?_ _)); exact BK135.out⟩, ⟨by repeat (first | (with_reducible first | exact HB.out | apply below_alloc | apply pw_below_drewN | apply below_drew1 | refine below_set ?_ GE133.out | refine below_set ?_ GE134.out | refine below_set ?_ GE135.out | refine below_set ?_ GE137.out) | exact HB.out)⟩⟩
            · rw [if_neg c15] at H
              exact absurd H (by simp)
          · rw [if_neg c13] at H
            exact absurd H (by simp)
        · rw [if_neg c12] at H
          exact absurd H (by simp)
      · rw [if_neg c11] at H
        have c11b0 : decide (x14_1 < (l0_2.length : Int)) = false := decide_eq_false c11
        clear c11
        simp only [Option.some.injEq, Prod.mk.injEq] at H
        obtain ⟨rfl, rfl, rfl⟩ := H
        have hnb28 := NB135_133.out
        have hnc28 := NB133_135.out
        have hnb29 := NB135_134.out
        have hnc29 := NB134_135.out
        have hcz30_0 : wr.cell? ⟨gb135, 0, none⟩ = some (.int .i64 a0_0) := (blk_cell BK135.out 0).trans rfl
        have hcz30_1 : wr.cell? ⟨gb135, 1, none⟩ = some (.int .i64 a0_1) := (blk_cell BK135.out 1).trans rfl
        have hcz30_2 : wr.cell? ⟨gb135, 2, none⟩ = some (u136002) := (blk_cell BK135.out 2).trans rfl
        have hfz30_0 := blk_frozen BK135.out 0
        have hfz30_1 := blk_frozen BK135.out 1
        have hfz30_2 := blk_frozen BK135.out 2
        have hnb31 := NB134_133.out
        have hnc31 := NB133_134.out
        have hcz32_0 : wr.cell? ⟨gb134, 0, none⟩ = some (.int .i64 0) := (blk_cell BK134.out 0).trans rfl
        have hcz32_1 : wr.cell? ⟨gb134, 1, none⟩ = some (.int .i64 0) := (blk_cell BK134.out 1).trans rfl
        have hcz32_2 : wr.cell? ⟨gb134, 2, none⟩ = some (.slice none 0 0) := (blk_cell BK134.out 2).trans rfl
        have hfz32_0 := blk_frozen BK134.out 0
        have hfz32_1 := blk_frozen BK134.out 1
        have hfz32_2 := blk_frozen BK134.out 2
        obtain ⟨Ao33, co33, eo33⟩ := Kd.R_slice HO_136002.out
        subst eo33
        go_wp2
        refine bodyPost_ret (results_cell_row rfl _ _ gb134 24 #[.int .i64 a0_0, .int .i64 a0_1, .slice Ao33 x136002_1.length co33] (0, 0) _ rfl (by (with_reducible repeat (first | refine blk_drewN ?_ _ | refine blk_drew ?_ | refine blk_alloc ?_ _)); refine blk_put (cs := #[.int .i64 a0_0, .int .i64 a0_1, .slice none 0 0]) ?_ 2 _ rfl; (with_reducible repeat (first | refine blk_drewN ?_ _ | refine blk_drew ?_ | refine blk_alloc ?_ _)); refine blk_put (cs := #[.int .i64 a0_0, .int .i64 0, .slice none 0 0]) ?_ 1 _ rfl; (with_reducible repeat (first | refine blk_drewN ?_ _ | refine blk_drew ?_ | refine blk_alloc ?_ _)); refine blk_put (cs := #[.int .i64 0, .int .i64 0, .slice none 0 0]) ?_ 0 _ rfl; (with_reducible repeat (first | refine blk_drewN ?_ _ | refine blk_drew ?_ | refine blk_alloc ?_ _)); exact BK134.out) Tryd.underlying24 rfl (by kernel_rfl)) rfl ?_
        exact ⟨_, by first | rfl | (simp [errW_none, errW_some] <;> rfl) | (simp [*, errW_none, errW_some] <;> rfl), by (with_reducible repeat (first | apply Kd.R_alloc | apply Kd.R_drewN | apply Kd.R_drew)); exact Kd.R_mono (Kd.R_far (p := ⟨gb134, 2, none⟩) (Kd.R_far (p := ⟨gb134, 1, none⟩) (Kd.R_far (p := ⟨gb134, 0, none⟩) (Kd.R_mono HO_136002.out (fun k_ hk => (⟨hk, hk.2.1⟩ : _ ∧ k_ ≠ gb134))) (fun _ hk => hk.2) (.int .i64 a0_0)) (fun _ hk => hk.2) (.int .i64 a0_1)) (fun _ hk => hk.2) (.slice Ao33 x136002_1.length co33)) (fun _ hk => trivial), by repeat (first | (with_reducible first | exact HB.out | apply below_alloc | apply pw_below_drewN | apply below_drew1 | refine below_set ?_ GE133.out | refine below_set ?_ GE134.out | refine below_set ?_ GE135.out) | exact HB.out)⟩

end Go.Proofs.YtjjnokodkeekhaaDoor.P

namespace Go.Proofs.YtjjnokodkeekhaaDoor.P
open Go.RowKit Go.Proofs.YtjjnokodkeekhaaDoorW.PrintWords Go.Proofs.YtjjnokodkeekhaaDoorW.PrintLast Go.Proofs.YtjjnokodkeekhaaDoorW.PrintMore
attribute [local go_sem] max2_int min2_int max_two min_two max_three min_three max_four min_four   -- for this text's walks alone
set_option linter.unusedVariables false
set_option linter.unusedSimpArgs false

def formula_Not.j0 : Nat → Bool → Int → Int → List (S24) → Option (Int × Int × (List (S24)))
  | 0, _, _, _, _ => none
  | k + 1, x11, x580000, x580001, x580002 => if x11 = true then (if 0 < (x580002.length : Int) then ((formula_copied.f k ((rd_T24 x580002 0).f0) ((rd_T24 x580002 0).f1) ((rd_T24 x580002 0).f2)).bind fun bt582 => (some (bt582.1, bt582.2.1, bt582.2.2))) else (none)) else ((formula_copied.f k x580000 x580001 x580002).bind fun bt587 => (some (3, 0, (([(⟨bt587.1, bt587.2.1, bt587.2.2⟩ : S24)] : List (S24))))))
def formula_Not.f (k : Nat) (a0_0 : Int) (a0_1 : Int) (l0_2 : List (S24)) : Option (Int × Int × (List (S24))) := if a0_0 = 3 then (formula_Not.j0 k ((l0_2.length : Int) == 1) a0_0 a0_1 l0_2) else (formula_Not.j0 k false a0_0 a0_1 l0_2)
theorem formula_Not.mono_l : ∀ k, (∀ y0 y1 y2 y3, LeO (formula_Not.j0 k y0 y1 y2 y3) (formula_Not.j0 (k + 1) y0 y1 y2 y3))
  | 0 => fun _ _ _ _ r h => by simp [formula_Not.j0] at h
  | k + 1 => by
    have ih0 := formula_Not.mono_l k
    · intro y0 y1 y2 y3
      unfold formula_Not.j0
      repeat' first
      | (with_reducible exact ih0 _ _ _ _)
      | (with_reducible exact formula_copied.mono _ _ _ _)
      | (with_reducible exact LeO.refl _)
      | (with_reducible exact LeO.none _)
      | (with_reducible refine LeO.ite ?_ ?_)
      | (with_reducible refine LeO.bind ?_ (fun _ => ?_))
      | exact ih0 _ _ _ _
      | exact formula_copied.mono _ _ _ _
      | exact LeO.none _
      | refine LeO.ite ?_ ?_
      | refine LeO.bind ?_ (fun _ => ?_)
theorem formula_Not.mono : ∀ a0 a1 a2 k, LeO (formula_Not.f k a0 a1 a2) (formula_Not.f (k + 1) a0 a1 a2) := by
  intro a0 a1 a2 k
  have ih0 := formula_Not.mono_l k
  unfold formula_Not.f
  repeat' first
      | (with_reducible exact ih0 _ _ _ _)
      | (with_reducible exact formula_copied.mono _ _ _ _)
      | (with_reducible exact LeO.refl _)
      | (with_reducible exact LeO.none _)
      | (with_reducible refine LeO.ite ?_ ?_)
      | (with_reducible refine LeO.bind ?_ (fun _ => ?_))
      | exact ih0 _ _ _ _
      | exact formula_copied.mono _ _ _ _
      | exact LeO.none _
      | refine LeO.ite ?_ ?_
      | refine LeO.bind ?_ (fun _ => ?_)
set_option maxHeartbeats 8000000 in
set_option maxRecDepth 100000 in
theorem formula_Not.calls (k : Nat) (a0_0 : Int) (a0_1 : Int) (A0_2 : Option Addr) (c0_2 : Nat) (l0_2 : List (S24)) (r1 : Int) (r2 : Int) (r3 : List (S24)) (w : World) (hr0_2 : Kd.C k24 w A0_2 l0_2.length l0_2) (hc0_2 : l0_2.length ≤ c0_2) (h : formula_Not.f k a0_0 a0_1 l0_2 = some (r1, r2, r3)) :
    Calls Tryd.prog 28 #[.agg #[.int .i64 a0_0, .int .i64 a0_1, .slice A0_2 l0_2.length c0_2]] w fun e w' => ∃ v2_ : Value, e = .returned (.agg #[.int .i64 r1, .int .i64 r2, v2_]) ∧ Kd.N k24 24 w' w.heap.size (fun k_ => (w.heap.size ≤ k_)) v2_ r3 ∧ Below w.heap.size w w' := by
  have hu24 := Tryd.underlying24
  have HR0_2 := Aside0.mk hr0_2
  have HC0_2 := Aside0.mk hc0_2
  clear hr0_2 hc0_2
  have HB := Aside0.mk (Below.refl w.heap.size w)
  have H : (if a0_0 = 3 then (formula_Not.j0 k ((l0_2.length : Int) == 1) a0_0 a0_1 l0_2) else (formula_Not.j0 k false a0_0 a0_1 l0_2)) = some (r1, r2, r3) := h
  clear h
  have HC2 := Aside0.mk H
  clear H
  go_enter Tryd.func28, Tryd.ntmps28
  go_upto_region 1 with (first | ((with_reducible refine gate_dst (N := 1) rfl ?_); (try (refine gate_guard (by rfl) ?_; dsimp only)); refine box_event ?hg (N := 1) ?hd (cs := #[.int .i64 a0_0, .int .i64 a0_1, .slice A0_2 l0_2.length c0_2]) (t := 24) ?hr ?_; (case hd => rfl); (case hg => rfl); (case hr => first | (go_simp; done) | (go_simp; rfl)); intro gb579 hg w3 hbox hb; have n0_ := Aside0.mk (below_step (by repeat (first | (with_reducible first | exact HB.out | apply below_alloc | apply pw_below_drewN | apply below_drew1) | exact HB.out)) hb); have n1_ := Aside0.mk (hbox); have n2_ := Aside0.mk ((by rw [hg]; exact (below_size (by repeat (first | (with_reducible first | exact HB.out | apply below_alloc | apply pw_below_drewN | apply below_drew1) | exact HB.out))) : w.heap.size ≤ gb579)); have n3_ := Aside0.mk ((by rw [hg]; exact (below_size (by repeat (first | (with_reducible first | exact HB.out | apply below_alloc | apply pw_below_drewN | apply below_drew1) | exact HB.out))) : w.heap.size ≤ gb579)); clear HB; have HB := n0_; have BK579 := n1_; have GW579 := n2_; have GE579 := n3_; clear n0_ n1_ n2_ n3_; clear hb hbox hg) | ((with_reducible refine gate_dst (N := 2) rfl ?_); (try (refine gate_guard (by rfl) ?_; dsimp only)); refine box_event ?hg (N := 2) ?hd (cs := #[.int .i64 0, .int .i64 0, .slice none 0 0]) (t := 24) ?hr ?_; (case hd => rfl); (case hg => rfl); (case hr => first | (go_simp; done) | (go_simp; rfl)); intro gb580 hg w4 hbox hb; have n0_ := Aside0.mk (blk_below (g := gb579) (o := .cells #[.int .i64 a0_0, .int .i64 a0_1, .slice A0_2 l0_2.length c0_2] 24 (0, 0)) (by (with_reducible repeat (first | refine blk_drewN ?_ _ | refine blk_drew ?_ | refine blk_alloc ?_ _)); exact BK579.out) hb); have n1_ := Aside0.mk (below_step (by repeat (first | (with_reducible first | exact HB.out | apply below_alloc | apply pw_below_drewN | apply below_drew1 | refine below_set ?_ GE579.out) | exact HB.out)) hb); have n2_ := Aside0.mk (hbox); have n3_ := Aside0.mk ((by rw [hg]; exact (below_size (by repeat (first | (with_reducible first | exact HB.out | apply below_alloc | apply pw_below_drewN | apply below_drew1 | refine below_set ?_ GE579.out) | exact HB.out))) : w.heap.size ≤ gb580)); have n4_ := Aside0.mk ((by rw [hg]; exact (below_size (by repeat (first | (with_reducible first | exact HB.out | apply below_alloc | apply pw_below_drewN | apply below_drew1 | refine below_set ?_ GE579.out) | exact HB.out))) : w.heap.size ≤ gb580)); have n5_ := Aside0.mk ((by rw [hg]; exact Nat.ne_of_lt (blk_lt (g := gb579) (o := .cells #[.int .i64 a0_0, .int .i64 a0_1, .slice A0_2 l0_2.length c0_2] 24 (0, 0)) (by (with_reducible repeat (first | refine blk_drewN ?_ _ | refine blk_drew ?_ | refine blk_alloc ?_ _)); exact BK579.out)) : gb579 ≠ gb580)); have n6_ := Aside0.mk ((by rw [hg]; exact Nat.ne_of_gt (blk_lt (g := gb579) (o := .cells #[.int .i64 a0_0, .int .i64 a0_1, .slice A0_2 l0_2.length c0_2] 24 (0, 0)) (by (with_reducible repeat (first | refine blk_drewN ?_ _ | refine blk_drew ?_ | refine blk_alloc ?_ _)); exact BK579.out)) : gb580 ≠ gb579)); clear BK579; clear HB; have BK579 := n0_; have HB := n1_; have BK580 := n2_; have GW580 := n3_; have GE580 := n4_; have NB579_580 := n5_; have NB580_579 := n6_; clear n0_ n1_ n2_ n3_ n4_ n5_ n6_; clear hb hbox hg))
  (try simp only [Act.put, List.setIfInBounds_toArray, List.set_cons_zero, List.set_cons_succ])
  go_cut [11] (fun v11 wc => ∃ (kq : Nat) (x11_1 : Bool), v11 = .bool x11_1 ∧ Aside0 (formula_Not.j0 kq x11_1 a0_0 a0_1 l0_2 = some (r1, r2, r3)) ∧ Aside0 (kq ≤ k) ∧ Aside0 (wc.heap[gb579]? = some (.cells #[.int .i64 a0_0, .int .i64 a0_1, (.slice A0_2 l0_2.length c0_2)] 24 (0, 0))) ∧ Aside0 (wc.heap[gb580]? = some (.cells #[.int .i64 0, .int .i64 0, (.slice none 0 0)] 24 (0, 0))) ∧ Aside0 (Below w.heap.size w wc))
  case first =>
    have H := HC2.out
    clear HC2
    by_cases c5 : a0_0 = 3
    · rw [if_pos c5] at H
      have c5b0 : (a0_0 == 3) = true := beq_iff_eq.mpr c5
      have c5b1 : (a0_0 != 3) = false := bne_eq_false_iff_eq.mpr c5
      clear c5
      (first | rw [c5b0] | (simp only [i64_w, i32_w]; rw [c5b0]) | skip)
      have H' := Aside0.mk H
      clear H
      have hnb6 := NB579_580.out
      have hnc6 := NB580_579.out
      have hcz7_0 : w4.cell? ⟨gb579, 0, none⟩ = some (.int .i64 a0_0) := (blk_cell BK579.out 0).trans rfl
      have hcz7_1 : w4.cell? ⟨gb579, 1, none⟩ = some (.int .i64 a0_1) := (blk_cell BK579.out 1).trans rfl
      have hcz7_2 : w4.cell? ⟨gb579, 2, none⟩ = some (.slice A0_2 l0_2.length c0_2) := (blk_cell BK579.out 2).trans rfl
      have hfz7_0 := blk_frozen BK579.out 0
      have hfz7_1 := blk_frozen BK579.out 1
      have hfz7_2 := blk_frozen BK579.out 2
      go_wp2
      go_meet
      case rel => exact ⟨_, (((l0_2.length : Int) == 1)), (by first | rfl | (simp; done) | (simp [*]; done)), H', ⟨by first | omega | exact Nat.le_refl _⟩, ⟨by (with_reducible repeat (first | refine blk_drewN ?_ _ | refine blk_drew ?_ | refine blk_alloc ?_ _)); exact BK579.out⟩, ⟨by (with_reducible repeat (first | refine blk_drewN ?_ _ | refine blk_drew ?_ | refine blk_alloc ?_ _)); exact BK580.out⟩, ⟨by repeat (first | (with_reducible first | exact HB.out | apply below_alloc | apply pw_below_drewN | apply below_drew1 | refine below_set ?_ GE579.out | refine below_set ?_ GE580.out) | exact HB.out)⟩⟩
    · rw [if_neg c5] at H
      have c5b0 : (a0_0 == 3) = false := beq_eq_false_iff_ne.mpr c5
      have c5b1 : (a0_0 != 3) = true := bne_iff_ne.mpr c5
      (first | rw [c5b0] | (simp only [i64_w, i32_w]; rw [c5b0]) | skip)
      have H' := Aside0.mk H
      clear H
      have hnb8 := NB579_580.out
      have hnc8 := NB580_579.out
      have hcz9_0 : w4.cell? ⟨gb579, 0, none⟩ = some (.int .i64 a0_0) := (blk_cell BK579.out 0).trans rfl
      have hcz9_1 : w4.cell? ⟨gb579, 1, none⟩ = some (.int .i64 a0_1) := (blk_cell BK579.out 1).trans rfl
      have hcz9_2 : w4.cell? ⟨gb579, 2, none⟩ = some (.slice A0_2 l0_2.length c0_2) := (blk_cell BK579.out 2).trans rfl
      have hfz9_0 := blk_frozen BK579.out 0
      have hfz9_1 := blk_frozen BK579.out 1
      have hfz9_2 := blk_frozen BK579.out 2
      go_wp2
      go_meet
      case rel => exact ⟨_, (false), (by first | rfl | (simp; done) | (simp [*]; done)), H', ⟨by first | omega | exact Nat.le_refl _⟩, ⟨by (with_reducible repeat (first | refine blk_drewN ?_ _ | refine blk_drew ?_ | refine blk_alloc ?_ _)); exact BK579.out⟩, ⟨by (with_reducible repeat (first | refine blk_drewN ?_ _ | refine blk_drew ?_ | refine blk_alloc ?_ _)); exact BK580.out⟩, ⟨by repeat (first | (with_reducible first | exact HB.out | apply below_alloc | apply pw_below_drewN | apply below_drew1 | refine below_set ?_ GE579.out | refine below_set ?_ GE580.out) | exact HB.out)⟩⟩
  case rest =>
    clear HC2
    try clear c2
    try clear p2
    try clear c5
    try clear c5b0
    try clear c5b1
    try clear c6
    try clear c8
    try clear hcz7_0
    try clear hcz7_1
    try clear hcz7_2
    try clear hcz9_0
    try clear hcz9_1
    try clear hcz9_2
    try clear hfz7_0
    try clear hfz7_1
    try clear hfz7_2
    try clear hfz9_0
    try clear hfz9_1
    try clear hfz9_2
    obtain ⟨kq, x11_1, rfl, HA, HJ1, BK579, BK580, HB⟩ := hcut
    cases kq with
    | zero => exact absurd HA.out (by simp [formula_Not.j0])
    | succ kj1 =>
      have H := HA.out
      clear HA
      simp only [formula_Not.j0] at H
      by_cases c10 : x11_1 = true
      · subst c10
        have H1 : (if 0 < (l0_2.length : Int) then ((formula_copied.f kj1 ((rd_T24 l0_2 0).f0) ((rd_T24 l0_2 0).f1) ((rd_T24 l0_2 0).f2)).bind fun bt582 => (some (bt582.1, bt582.2.1, bt582.2.2))) else (none)) = some (r1, r2, r3) := by rw [if_pos rfl] at H; exact H
        clear H
        have H := H1
        clear H1
        by_cases c11 : 0 < (l0_2.length : Int)
        · rw [if_pos c11] at H
          have c11b0 : decide (0 < (l0_2.length : Int)) = true := decide_eq_true c11
          have c11b1 : decide (0 < l0_2.length) = true := decide_eq_true (by omega)
          clear c11
          replace H := Option.bind_eq_some_iff.mp H
          obtain ⟨⟨t582, t583, t584⟩, A120, H⟩ := H
          replace H : (some (t582, t583, t584)) = some (r1, r2, r3) := H
          have A12 := Aside0.mk A120
          clear A120
          simp only [Option.some.injEq, Prod.mk.injEq] at H
          obtain ⟨rfl, rfl, rfl⟩ := H
          have hnb13 := NB579_580.out
          have hnc13 := NB580_579.out
          have hcz14_0 : wc.cell? ⟨gb579, 0, none⟩ = some (.int .i64 a0_0) := (blk_cell BK579.out 0).trans rfl
          have hcz14_1 : wc.cell? ⟨gb579, 1, none⟩ = some (.int .i64 a0_1) := (blk_cell BK579.out 1).trans rfl
          have hcz14_2 : wc.cell? ⟨gb579, 2, none⟩ = some (.slice A0_2 l0_2.length c0_2) := (blk_cell BK579.out 2).trans rfl
          have hfz14_0 := blk_frozen BK579.out 0
          have hfz14_1 := blk_frozen BK579.out 1
          have hfz14_2 := blk_frozen BK579.out 2
          have p581 : 0 ≤ (0 : Int) := (by omega)
          have q581 : 0 < (l0_2.length : Int) := of_decide_eq_true (by first | (with_reducible assumption) | assumption)
          obtain ⟨ad581, A581_2, c581_2, e581, hx581_0, hx581_1, hx581_2, hl581_2, hi581_2⟩ := at_T24 HR0_2.out 0 p581 q581
          cases e581
          have qi581 : (0 < l0_2.length) = True := eq_true (by omega)
          (try rw [show ((0 : Int)).toNat = 0 from rfl] at hx581_0)
          (try rw [show 0 * 3 = 0 from rfl] at hx581_0)
          (try rw [Addr.add_zero'] at hx581_0)
          (try rw [show ((0 : Int)).toNat = 0 from rfl] at hx581_1)
          (try rw [show 0 * 3 = 0 from rfl] at hx581_1)
          (try rw [Addr.add_zero'] at hx581_1)
          (try rw [show ((0 : Int)).toNat = 0 from rfl] at hx581_2)
          (try rw [show 0 * 3 = 0 from rfl] at hx581_2)
          (try rw [Addr.add_zero'] at hx581_2)
          replace hx581_0 := (HB.out.cell (World.block_lt_of_cell? w _ hx581_0)).trans hx581_0
          replace hx581_1 := (HB.out.cell (World.block_lt_of_cell? w _ hx581_1)).trans hx581_1
          replace hx581_2 := (HB.out.cell (World.block_lt_of_cell? w _ hx581_2)).trans hx581_2
          have HR581_2 := Aside0.mk hi581_2
          have HC581_2 := Aside0.mk hl581_2
          clear hi581_2 hl581_2
          replace p581 := eq_true p581
          replace q581 := eq_true q581
          go_wp2_with (first | ((with_reducible refine gate_callee (f := 47) rfl ?_); refine goesL_ (some 16) rfl rfl Tryd.func47 (by kernel_rfl) rfl #[.agg #[.int .i64 ((rd_T24 l0_2 0).f0), .int .i64 ((rd_T24 l0_2 0).f1), .slice A581_2 ((rd_T24 l0_2 0).f2).length c581_2]] rfl (by (try simp only [List.map_toArray, List.map_cons, List.map_nil]); first | done | rfl | (simp only [List.length_drop, List.length_take]; rfl)) ?_; (with_reducible refine (formula_copied.calls kj1 ((rd_T24 l0_2 0).f0) ((rd_T24 l0_2 0).f1) _ _ ((rd_T24 l0_2 0).f2) t582 t583 t584 _ ?side1 ?side2 A12.out).mono ?_); (case side1 => repeat (first | exact (Kd.C_below HR581_2.out HB.out) | (with_reducible refine Kd.C_alloc ?_ _) | (with_reducible refine Kd.C_drewN ?_ _) | (with_reducible refine Kd.C_drew ?_))); (case side2 => exact HC581_2.out); rintro e w15 ⟨v585, rfl, ho0, hb⟩; refine ⟨_, rfl, ?_⟩; have n0_ := Aside0.mk (Kd.N_lower (Kd.N_mono (ok' := fun k_ => (w.heap.size ≤ k_) ∧ k_ ≠ gb579 ∧ k_ ≠ gb580) (Kd.R_N (Kd.R_bound ho0)) (fun k_ hk_ => ⟨(Nat.le_trans (below_size (by repeat (first | (with_reducible first | exact HB.out | apply below_alloc | apply pw_below_drewN | apply below_drew1 | refine below_set ?_ GE579.out | refine below_set ?_ GE580.out) | exact HB.out))) hk_.2.1), (Kd.freshB (g := gb579) (o := .cells #[.int .i64 a0_0, .int .i64 a0_1, .slice (some ad581) l0_2.length c0_2] 24 (0, 0)) (by (with_reducible repeat (first | refine blk_drewN ?_ _ | refine blk_drew ?_ | refine blk_alloc ?_ _)); exact BK579.out) k_ hk_.2.1), (Kd.freshB (g := gb580) (o := .cells #[.int .i64 0, .int .i64 0, .slice none 0 0] 24 (0, 0)) (by (with_reducible repeat (first | refine blk_drewN ?_ _ | refine blk_drew ?_ | refine blk_alloc ?_ _)); exact BK580.out) k_ hk_.2.1)⟩)) (below_size (by repeat (first | (with_reducible first | exact HB.out | apply below_alloc | apply pw_below_drewN | apply below_drew1 | refine below_set ?_ GE579.out | refine below_set ?_ GE580.out) | exact HB.out)))); have n1_ := Aside0.mk (blk_below (g := gb579) (o := .cells #[.int .i64 a0_0, .int .i64 a0_1, .slice (some ad581) l0_2.length c0_2] 24 (0, 0)) (by (with_reducible repeat (first | refine blk_drewN ?_ _ | refine blk_drew ?_ | refine blk_alloc ?_ _)); exact BK579.out) hb); have n2_ := Aside0.mk (blk_below (g := gb580) (o := .cells #[.int .i64 0, .int .i64 0, .slice none 0 0] 24 (0, 0)) (by (with_reducible repeat (first | refine blk_drewN ?_ _ | refine blk_drew ?_ | refine blk_alloc ?_ _)); exact BK580.out) hb); have n3_ := Aside0.mk (below_step (by repeat (first | (with_reducible first | exact HB.out | apply below_alloc | apply pw_below_drewN | apply below_drew1 | refine below_set ?_ GE579.out | refine below_set ?_ GE580.out) | exact HB.out)) hb); clear BK579; clear BK580; clear HB; have HO586 := n0_; have BK579 := n1_; have BK580 := n2_; have HB := n3_; clear n0_ n1_ n2_ n3_; (try clear hb); (try clear hb2); (try clear hk); (try clear hi); (try clear ho0); have hcz16_0 : w15.cell? ⟨gb580, 0, none⟩ = some (.int .i64 0) := (blk_cell BK580.out 0).trans rfl; have hcz16_1 : w15.cell? ⟨gb580, 1, none⟩ = some (.int .i64 0) := (blk_cell BK580.out 1).trans rfl; have hcz16_2 : w15.cell? ⟨gb580, 2, none⟩ = some (.slice none 0 0) := (blk_cell BK580.out 2).trans rfl; have hfz16_0 := blk_frozen BK580.out 0; have hfz16_1 := blk_frozen BK580.out 1; have hfz16_2 := blk_frozen BK580.out 2; obtain ⟨Ao17, co17, eo17⟩ := Kd.N_slice HO586.out; subst eo17))
          refine bodyPost_ret (results_cell_row rfl _ _ gb580 24 #[.int .i64 t582, .int .i64 t583, .slice Ao17 t584.length co17] (0, 0) _ rfl (by (with_reducible repeat (first | refine blk_drewN ?_ _ | refine blk_drew ?_ | refine blk_alloc ?_ _)); refine blk_put (cs := #[.int .i64 t582, .int .i64 t583, .slice none 0 0]) ?_ 2 _ rfl; (with_reducible repeat (first | refine blk_drewN ?_ _ | refine blk_drew ?_ | refine blk_alloc ?_ _)); refine blk_put (cs := #[.int .i64 t582, .int .i64 0, .slice none 0 0]) ?_ 1 _ rfl; (with_reducible repeat (first | refine blk_drewN ?_ _ | refine blk_drew ?_ | refine blk_alloc ?_ _)); refine blk_put (cs := #[.int .i64 0, .int .i64 0, .slice none 0 0]) ?_ 0 _ rfl; (with_reducible repeat (first | refine blk_drewN ?_ _ | refine blk_drew ?_ | refine blk_alloc ?_ _)); exact BK580.out) Tryd.underlying24 rfl (by kernel_rfl)) rfl ?_
          exact ⟨_, by first | rfl | (simp [errW_none, errW_some] <;> rfl) | (simp [*, errW_none, errW_some] <;> rfl), by (with_reducible repeat (first | apply Kd.N_alloc | apply Kd.N_drewN | apply Kd.N_drew)); exact Kd.N_mono (Kd.N_far (p := ⟨gb580, 2, none⟩) (Kd.N_far (p := ⟨gb580, 1, none⟩) (Kd.N_far (p := ⟨gb580, 0, none⟩) (Kd.N_mono HO586.out (fun k_ hk => (⟨hk, hk.2.2⟩ : _ ∧ k_ ≠ gb580))) (fun _ hk => hk.2) (.int .i64 t582)) (fun _ hk => hk.2) (.int .i64 t583)) (fun _ hk => hk.2) (.slice Ao17 t584.length co17)) (fun _ hk => hk.1.1), by repeat (first | (with_reducible first | exact HB.out | apply below_alloc | apply pw_below_drewN | apply below_drew1 | refine below_set ?_ GE579.out | refine below_set ?_ GE580.out) | exact HB.out)⟩
        · rw [if_neg c11] at H
          exact absurd H (by simp)
      · replace c10 := Bool.eq_false_iff.mpr c10
        subst c10
        have H1 : ((formula_copied.f kj1 a0_0 a0_1 l0_2).bind fun bt587 => (some (3, 0, (([(⟨bt587.1, bt587.2.1, bt587.2.2⟩ : S24)] : List (S24)))))) = some (r1, r2, r3) := by rw [if_neg (show ¬ (false = true) by decide)] at H; exact H
        clear H
        have H := H1
        clear H1
        replace H := Option.bind_eq_some_iff.mp H
        obtain ⟨⟨t587, t588, t589⟩, A180, H⟩ := H
        replace H : (some (3, 0, (([(⟨t587, t588, t589⟩ : S24)] : List (S24))))) = some (r1, r2, r3) := H
        have A18 := Aside0.mk A180
        clear A180
        obtain ⟨y592, hy592⟩ : ∃ y_ : List (S24), y_ = (([(⟨t587, t588, t589⟩ : S24)] : List (S24))) := ⟨_, rfl⟩
        replace H : (some (3, 0, y592)) = some (r1, r2, r3) := by first | (rw [hy592]; with_reducible exact H) | (have H2_ := (Option.bind_some _ _).symm.trans H; rw [hy592]; with_reducible exact H2_) | (have H2_ := (Option.bind_some _ _).symm.trans H; with_reducible exact H2_) | with_reducible exact H | (rw [hy592]; exact H) | exact H
        have Ny592 := Aside0.mk hy592
        clear hy592
        simp only [Option.some.injEq, Prod.mk.injEq] at H
        obtain ⟨rfl, rfl, rfl⟩ := H
        have hnb19 := NB579_580.out
        have hnc19 := NB580_579.out
        have hcz20_0 : wc.cell? ⟨gb579, 0, none⟩ = some (.int .i64 a0_0) := (blk_cell BK579.out 0).trans rfl
        have hcz20_1 : wc.cell? ⟨gb579, 1, none⟩ = some (.int .i64 a0_1) := (blk_cell BK579.out 1).trans rfl
        have hcz20_2 : wc.cell? ⟨gb579, 2, none⟩ = some (.slice A0_2 l0_2.length c0_2) := (blk_cell BK579.out 2).trans rfl
        have hfz20_0 := blk_frozen BK579.out 0
        have hfz20_1 := blk_frozen BK579.out 1
        have hfz20_2 := blk_frozen BK579.out 2
        go_wp2_with (first | ((with_reducible refine gate_callee (f := 47) rfl ?_); refine goesL_ (some 18) rfl rfl Tryd.func47 (by kernel_rfl) rfl #[.agg #[.int .i64 a0_0, .int .i64 a0_1, .slice A0_2 l0_2.length c0_2]] rfl (by (try simp only [List.map_toArray, List.map_cons, List.map_nil]); first | done | rfl | (simp only [List.length_drop, List.length_take]; rfl)) ?_; (with_reducible refine (formula_copied.calls kj1 a0_0 a0_1 _ _ l0_2 t587 t588 t589 _ ?side1 ?side2 A18.out).mono ?_); (case side1 => repeat (first | exact (Kd.C_below HR0_2.out HB.out) | (with_reducible refine Kd.C_alloc ?_ _) | (with_reducible refine Kd.C_drewN ?_ _) | (with_reducible refine Kd.C_drew ?_))); (case side2 => exact HC0_2.out); rintro e w21 ⟨v590, rfl, ho0, hb⟩; refine ⟨_, rfl, ?_⟩; have n0_ := Aside0.mk (Kd.N_lower (Kd.N_mono (ok' := fun k_ => (w.heap.size ≤ k_) ∧ k_ ≠ gb579 ∧ k_ ≠ gb580) (Kd.R_N (Kd.R_bound ho0)) (fun k_ hk_ => ⟨(Nat.le_trans (below_size (by repeat (first | (with_reducible first | exact HB.out | apply below_alloc | apply pw_below_drewN | apply below_drew1 | refine below_set ?_ GE579.out | refine below_set ?_ GE580.out) | exact HB.out))) hk_.2.1), (Kd.freshB (g := gb579) (o := .cells #[.int .i64 a0_0, .int .i64 a0_1, .slice A0_2 l0_2.length c0_2] 24 (0, 0)) (by (with_reducible repeat (first | refine blk_drewN ?_ _ | refine blk_drew ?_ | refine blk_alloc ?_ _)); exact BK579.out) k_ hk_.2.1), (Kd.freshB (g := gb580) (o := .cells #[.int .i64 0, .int .i64 0, .slice none 0 0] 24 (0, 0)) (by (with_reducible repeat (first | refine blk_drewN ?_ _ | refine blk_drew ?_ | refine blk_alloc ?_ _)); exact BK580.out) k_ hk_.2.1)⟩)) (below_size (by repeat (first | (with_reducible first | exact HB.out | apply below_alloc | apply pw_below_drewN | apply below_drew1 | refine below_set ?_ GE579.out | refine below_set ?_ GE580.out) | exact HB.out)))); have n1_ := Aside0.mk (blk_below (g := gb579) (o := .cells #[.int .i64 a0_0, .int .i64 a0_1, .slice A0_2 l0_2.length c0_2] 24 (0, 0)) (by (with_reducible repeat (first | refine blk_drewN ?_ _ | refine blk_drew ?_ | refine blk_alloc ?_ _)); exact BK579.out) hb); have n2_ := Aside0.mk (blk_below (g := gb580) (o := .cells #[.int .i64 0, .int .i64 0, .slice none 0 0] 24 (0, 0)) (by (with_reducible repeat (first | refine blk_drewN ?_ _ | refine blk_drew ?_ | refine blk_alloc ?_ _)); exact BK580.out) hb); have n3_ := Aside0.mk (below_step (by repeat (first | (with_reducible first | exact HB.out | apply below_alloc | apply pw_below_drewN | apply below_drew1 | refine below_set ?_ GE579.out | refine below_set ?_ GE580.out) | exact HB.out)) hb); clear BK579; clear BK580; clear HB; have HO591 := n0_; have BK579 := n1_; have BK580 := n2_; have HB := n3_; clear n0_ n1_ n2_ n3_; (try clear hb); (try clear hb2); (try clear hk); (try clear hi); (try clear ho0); obtain ⟨Ao22, co22, eo22⟩ := Kd.N_slice HO591.out; subst eo22) | ((with_reducible refine gate_dst (N := 19) rfl ?_); (try (refine gate_guard (by rfl) ?_; dsimp only)); refine Kd.N_lit k24 _ 24 ?hg (N' := 19) ?hd (xs := ([(⟨t587, t588, t589⟩ : S24)] : List (S24))) (inner := [.int .i64 t587, .int .i64 t588, .slice Ao22 t589.length co22]) (ok := (fun k_ => (w.heap.size ≤ k_) ∧ k_ ≠ gb579 ∧ k_ ≠ gb580)) (okp := (fun k_ => (w.heap.size ≤ k_) ∧ k_ ≠ gb579 ∧ k_ ≠ gb580)) ?hr ?hp (fun _ hk => hk) ((show ∀ k_, w21.heap.size ≤ k_ → (fun k_ => (w.heap.size ≤ k_) ∧ k_ ≠ gb579 ∧ k_ ≠ gb580) k_ from fun k_ hk => ⟨(Nat.le_trans (below_size (by repeat (first | (with_reducible first | exact HB.out | apply below_alloc | apply pw_below_drewN | apply below_drew1 | refine below_set ?_ GE579.out | refine below_set ?_ GE580.out) | exact HB.out))) hk), Kd.freshB (g := gb579) (o := .cells #[.int .i64 a0_0, .int .i64 a0_1, .slice A0_2 l0_2.length c0_2] 24 (0, 0)) (by (with_reducible repeat (first | refine blk_drewN ?_ _ | refine blk_drew ?_ | refine blk_alloc ?_ _)); exact BK579.out) k_ hk, Kd.freshB (g := gb580) (o := .cells #[.int .i64 0, .int .i64 0, .slice none 0 0] 24 (0, 0)) (by (with_reducible repeat (first | refine blk_drewN ?_ _ | refine blk_drew ?_ | refine blk_alloc ?_ _)); exact BK580.out) k_ hk⟩) _ (Nat.le_refl _)) (Below.refl _ _) (Nat.le_refl _) (by simp) ?_; (case hd => rfl); (case hg => rfl); (case hr => first | (go_simp; done) | (go_simp; rfl)); (case hp => exact (Reps.c3 (show Kd.FK k24 _ _ (⟨t587, t588, t589⟩ : S24) [.int .i64 t587, .int .i64 t588, .slice Ao22 t589.length co22] from (k24_mkF _ _ (⟨t587, t588, t589⟩ : S24) (Kd.N_reads' (Kd.N_mono (ok' := (fun k_ => (w.heap.size ≤ k_) ∧ k_ ≠ gb579 ∧ k_ ≠ gb580)) (HO591.out) (fun k_ hk => ⟨hk.1, ⟨hk.2.1, hk.2.2⟩⟩))).2.1 (Kd.N_F (Kd.N_mono (ok' := (fun k_ => (w.heap.size ≤ k_) ∧ k_ ≠ gb579 ∧ k_ ≠ gb580)) (HO591.out) (fun k_ hk => ⟨hk.1, ⟨hk.2.1, hk.2.2⟩⟩))))) (Reps.none _ _))); intro v593 w23 ho24 hb hg_ hnew_; clear hg_ hnew_; (first | rw [← Ny592.out] at ho24 | (simp only [Int.reduceToNat] at ho24; rw [← Ny592.out] at ho24)); have n0_ := Aside0.mk (Kd.N_lower ho24 (below_size (by repeat (first | (with_reducible first | exact HB.out | apply below_alloc | apply pw_below_drewN | apply below_drew1 | refine below_set ?_ GE579.out | refine below_set ?_ GE580.out) | exact HB.out)))); have n1_ := Aside0.mk (blk_below (g := gb579) (o := .cells #[.int .i64 a0_0, .int .i64 a0_1, .slice A0_2 l0_2.length c0_2] 24 (0, 0)) (by (with_reducible repeat (first | refine blk_drewN ?_ _ | refine blk_drew ?_ | refine blk_alloc ?_ _)); exact BK579.out) hb); have n2_ := Aside0.mk (blk_below (g := gb580) (o := .cells #[.int .i64 0, .int .i64 0, .slice none 0 0] 24 (0, 0)) (by (with_reducible repeat (first | refine blk_drewN ?_ _ | refine blk_drew ?_ | refine blk_alloc ?_ _)); exact BK580.out) hb); have n3_ := Aside0.mk (below_step (by repeat (first | (with_reducible first | exact HB.out | apply below_alloc | apply pw_below_drewN | apply below_drew1 | refine below_set ?_ GE579.out | refine below_set ?_ GE580.out) | exact HB.out)) hb); clear BK579; clear BK580; clear HB; clear HO591; have HO594 := n0_; have BK579 := n1_; have BK580 := n2_; have HB := n3_; clear n0_ n1_ n2_ n3_; clear hb ho24; obtain ⟨Ao25, co25, eo25⟩ := Kd.N_slice HO594.out; subst eo25; have hcz26_0 : w23.cell? ⟨gb580, 0, none⟩ = some (.int .i64 0) := (blk_cell BK580.out 0).trans rfl; have hcz26_1 : w23.cell? ⟨gb580, 1, none⟩ = some (.int .i64 0) := (blk_cell BK580.out 1).trans rfl; have hcz26_2 : w23.cell? ⟨gb580, 2, none⟩ = some (.slice none 0 0) := (blk_cell BK580.out 2).trans rfl; have hfz26_0 := blk_frozen BK580.out 0; have hfz26_1 := blk_frozen BK580.out 1; have hfz26_2 := blk_frozen BK580.out 2))
        refine bodyPost_ret (results_cell_row rfl _ _ gb580 24 #[.int .i64 3, .int .i64 0, .slice Ao25 y592.length co25] (0, 0) _ rfl (by (with_reducible repeat (first | refine blk_drewN ?_ _ | refine blk_drew ?_ | refine blk_alloc ?_ _)); refine blk_put (cs := #[.int .i64 3, .int .i64 0, .slice none 0 0]) ?_ 2 _ rfl; (with_reducible repeat (first | refine blk_drewN ?_ _ | refine blk_drew ?_ | refine blk_alloc ?_ _)); refine blk_put (cs := #[.int .i64 3, .int .i64 0, .slice none 0 0]) ?_ 1 _ rfl; (with_reducible repeat (first | refine blk_drewN ?_ _ | refine blk_drew ?_ | refine blk_alloc ?_ _)); refine blk_put (cs := #[.int .i64 0, .int .i64 0, .slice none 0 0]) ?_ 0 _ rfl; (with_reducible repeat (first | refine blk_drewN ?_ _ | refine blk_drew ?_ | refine blk_alloc ?_ _)); exact BK580.out) Tryd.underlying24 rfl (by kernel_rfl)) rfl ?_
        exact ⟨_, by first | rfl | (simp [errW_none, errW_some] <;> rfl) | (simp [*, errW_none, errW_some] <;> rfl), by (with_reducible repeat (first | apply Kd.N_alloc | apply Kd.N_drewN | apply Kd.N_drew)); exact Kd.N_mono (Kd.N_far (p := ⟨gb580, 2, none⟩) (Kd.N_far (p := ⟨gb580, 1, none⟩) (Kd.N_far (p := ⟨gb580, 0, none⟩) (Kd.N_mono HO594.out (fun k_ hk => (⟨hk, hk.2.2⟩ : _ ∧ k_ ≠ gb580))) (fun _ hk => hk.2) (.int .i64 3)) (fun _ hk => hk.2) (.int .i64 0)) (fun _ hk => hk.2) (.slice Ao25 y592.length co25)) (fun _ hk => hk.1.1), by repeat (first | (with_reducible first | exact HB.out | apply below_alloc | apply pw_below_drewN | apply below_drew1 | refine below_set ?_ GE579.out | refine below_set ?_ GE580.out) | exact HB.out)⟩

end Go.Proofs.YtjjnokodkeekhaaDoor.P

namespace Go.Proofs.YtjjnokodkeekhaaDoor.P
open Go.RowKit Go.Proofs.YtjjnokodkeekhaaDoorW.PrintWords Go.Proofs.YtjjnokodkeekhaaDoorW.PrintLast Go.Proofs.YtjjnokodkeekhaaDoorW.PrintMore
attribute [local go_sem] max2_int min2_int max_two min_two max_three min_three max_four min_four   -- for this text's walks alone
set_option linter.unusedVariables false
set_option linter.unusedSimpArgs false

mutual
def formula_times.j0 : Nat → List (S24) → Int → Int → List (S24) → Option ((List (S24)))
  | 0, _, _, _, _ => none
  | k + 1, x3, x147000, x147001, x147002 => formula_times.l0 k x3 x147002 (x147002.length : Int) 0
def formula_times.l0 : Nat → List (S24) → List (S24) → Int → Int → Option ((List (S24)))
  | 0, _, _, _, _ => none
  | k + 1, x3, x15, x16, x17 => if x17 < x16 then (if 0 ≤ x17 then (if x17 < (x15.length : Int) then ((formula_times.f k ((rd_T24 x15 x17).f0) ((rd_T24 x15 x17).f1) ((rd_T24 x15 x17).f2)).bind fun t158 => (if x3.length + t158.length < 3518437208883 then (formula_times.l0 k (x3 ++ t158) x15 x16 (wrap64 (x17 + 1))) else (none))) else (none)) else (none)) else (some x3)
def formula_times.f : Nat → Int → Int → List (S24) → Option ((List (S24)))
  | 0, _, _, _ => none
  | k + 1, a0_0, a0_1, l0_2 => (formula_timed.f a0_0).bind fun t147 => (if t147 = true then ((formula_copied.f k a0_0 a0_1 l0_2).bind fun bt148 => (if ([] : List (S24)).length < 3518437208883 then (formula_times.j0 k (([] : List (S24)) ++ [(⟨bt148.1, bt148.2.1, bt148.2.2⟩ : S24)]) a0_0 a0_1 l0_2) else (none))) else (formula_times.j0 k ([] : List (S24)) a0_0 a0_1 l0_2))
end
theorem formula_times.mono_l : ∀ k, (∀ y0 y1 y2, LeO (formula_times.f k y0 y1 y2) (formula_times.f (k + 1) y0 y1 y2)) ∧ (∀ y0 y1 y2 y3, LeO (formula_times.j0 k y0 y1 y2 y3) (formula_times.j0 (k + 1) y0 y1 y2 y3)) ∧ (∀ y0 y1 y2 y3, LeO (formula_times.l0 k y0 y1 y2 y3) (formula_times.l0 (k + 1) y0 y1 y2 y3))
  | 0 => ⟨fun _ _ _ r h => by simp [formula_times.f] at h, fun _ _ _ _ r h => by simp [formula_times.j0] at h, fun _ _ _ _ r h => by simp [formula_times.l0] at h⟩
  | k + 1 => by
    obtain ⟨ih0, ih1, ih2⟩ := formula_times.mono_l k
    refine ⟨?_, ?_, ?_⟩
    · intro y0 y1 y2
      unfold formula_times.f
      repeat' first
      | (with_reducible exact ih0 _ _ _)
      | (with_reducible exact ih1 _ _ _ _)
      | (with_reducible exact ih2 _ _ _ _)
      | (with_reducible exact formula_copied.mono _ _ _ _)
      | (with_reducible exact LeO.refl _)
      | (with_reducible exact LeO.none _)
      | (with_reducible refine LeO.ite ?_ ?_)
      | (with_reducible refine LeO.bind ?_ (fun _ => ?_))
      | exact ih0 _ _ _
      | exact ih1 _ _ _ _
      | exact ih2 _ _ _ _
      | exact formula_copied.mono _ _ _ _
      | exact LeO.none _
      | refine LeO.ite ?_ ?_
      | refine LeO.bind ?_ (fun _ => ?_)
    · intro y0 y1 y2 y3
      unfold formula_times.j0
      repeat' first
      | (with_reducible exact ih0 _ _ _)
      | (with_reducible exact ih1 _ _ _ _)
      | (with_reducible exact ih2 _ _ _ _)
      | (with_reducible exact formula_copied.mono _ _ _ _)
      | (with_reducible exact LeO.refl _)
      | (with_reducible exact LeO.none _)
      | (with_reducible refine LeO.ite ?_ ?_)
      | (with_reducible refine LeO.bind ?_ (fun _ => ?_))
      | exact ih0 _ _ _
      | exact ih1 _ _ _ _
      | exact ih2 _ _ _ _
      | exact formula_copied.mono _ _ _ _
      | exact LeO.none _
      | refine LeO.ite ?_ ?_
      | refine LeO.bind ?_ (fun _ => ?_)
    · intro y0 y1 y2 y3
      unfold formula_times.l0
      repeat' first
      | (with_reducible exact ih0 _ _ _)
      | (with_reducible exact ih1 _ _ _ _)
      | (with_reducible exact ih2 _ _ _ _)
      | (with_reducible exact formula_copied.mono _ _ _ _)
      | (with_reducible exact LeO.refl _)
      | (with_reducible exact LeO.none _)
      | (with_reducible refine LeO.ite ?_ ?_)
      | (with_reducible refine LeO.bind ?_ (fun _ => ?_))
      | exact ih0 _ _ _
      | exact ih1 _ _ _ _
      | exact ih2 _ _ _ _
      | exact formula_copied.mono _ _ _ _
      | exact LeO.none _
      | refine LeO.ite ?_ ?_
      | refine LeO.bind ?_ (fun _ => ?_)
theorem formula_times.mono : ∀ a0 a1 a2 k, LeO (formula_times.f k a0 a1 a2) (formula_times.f (k + 1) a0 a1 a2) := by
  intro a0 a1 a2 k
  obtain ⟨ih0, ih1, ih2⟩ := formula_times.mono_l k
  exact ih0 a0 a1 a2
set_option maxHeartbeats 8000000 in
set_option maxRecDepth 100000 in
theorem formula_times.calls (k : Nat) : ∀ (a0_0 : Int) (a0_1 : Int) (A0_2 : Option Addr) (c0_2 : Nat) (l0_2 : List (S24)) (r : List (S24)) (w : World) (hr0_2 : Kd.C k24 w A0_2 l0_2.length l0_2) (hc0_2 : l0_2.length ≤ c0_2) (h : formula_times.f k a0_0 a0_1 l0_2 = some r),
    Calls Tryd.prog 37 #[.agg #[.int .i64 a0_0, .int .i64 a0_1, .slice A0_2 l0_2.length c0_2]] w fun e w' => ∃ v0_ : Value, e = .returned (v0_) ∧ Kd.N k24 24 w' w.heap.size (fun k_ => (w.heap.size ≤ k_)) v0_ r ∧ Below w.heap.size w w' := by
  induction k using Nat.strongRecOn with
  | _ k ih =>
  intro a0_0 a0_1 A0_2 c0_2 l0_2 r w hr0_2 hc0_2 h
  cases k with
  | zero => exact absurd h (by simp [formula_times.f])
  | succ k =>
  simp only [formula_times.f] at h
  have hu24 := Tryd.underlying24
  have HR0_2 := Aside0.mk hr0_2
  have HC0_2 := Aside0.mk hc0_2
  clear hr0_2 hc0_2
  have HB := Aside0.mk (Below.refl w.heap.size w)
  have H : ((formula_timed.f a0_0).bind fun t147 => (if t147 = true then ((formula_copied.f k a0_0 a0_1 l0_2).bind fun bt148 => (if ([] : List (S24)).length < 3518437208883 then (formula_times.j0 k (([] : List (S24)) ++ [(⟨bt148.1, bt148.2.1, bt148.2.2⟩ : S24)]) a0_0 a0_1 l0_2) else (none))) else (formula_times.j0 k ([] : List (S24)) a0_0 a0_1 l0_2))) = some r := h
  clear h
  replace H := Option.bind_eq_some_iff.mp H
  obtain ⟨t147, A20, H⟩ := H
  replace H : (if t147 = true then ((formula_copied.f k a0_0 a0_1 l0_2).bind fun bt148 => (if ([] : List (S24)).length < 3518437208883 then (formula_times.j0 k (([] : List (S24)) ++ [(⟨bt148.1, bt148.2.1, bt148.2.2⟩ : S24)]) a0_0 a0_1 l0_2) else (none))) else (formula_times.j0 k ([] : List (S24)) a0_0 a0_1 l0_2)) = some r := H
  have A2 := Aside0.mk A20
  clear A20
  have HC3 := Aside0.mk H
  clear H
  go_enter Tryd.func37, Tryd.ntmps37
  go_upto_if 8 with (first | ((with_reducible refine gate_dst (N := 1) rfl ?_); refine box_event ?hg (N := 1) ?hd (cs := #[.int .i64 a0_0, .int .i64 a0_1, .slice A0_2 l0_2.length c0_2]) (t := 24) ?hr ?_; (case hd => rfl); (case hg => rfl); (case hr => first | (go_simp; done) | (go_simp; rfl)); intro gb146 hg w4 hbox hb; have n0_ := Aside0.mk (below_step (by repeat (first | (with_reducible first | exact HB.out | apply below_alloc | apply pw_below_drewN | apply below_drew1) | exact HB.out)) hb); have n1_ := Aside0.mk (hbox); have n2_ := Aside0.mk ((by rw [hg]; exact (below_size (by repeat (first | (with_reducible first | exact HB.out | apply below_alloc | apply pw_below_drewN | apply below_drew1) | exact HB.out))) : w.heap.size ≤ gb146)); have n3_ := Aside0.mk ((by rw [hg]; exact (below_size (by repeat (first | (with_reducible first | exact HB.out | apply below_alloc | apply pw_below_drewN | apply below_drew1) | exact HB.out))) : w.heap.size ≤ gb146)); clear HB; have HB := n0_; have BK146 := n1_; have GW146 := n2_; have GE146 := n3_; clear n0_ n1_ n2_ n3_; clear hb hbox hg; have hcz5_0 : w4.cell? ⟨gb146, 0, none⟩ = some (.int .i64 a0_0) := (blk_cell BK146.out 0).trans rfl; have hcz5_1 : w4.cell? ⟨gb146, 1, none⟩ = some (.int .i64 a0_1) := (blk_cell BK146.out 1).trans rfl; have hcz5_2 : w4.cell? ⟨gb146, 2, none⟩ = some (.slice A0_2 l0_2.length c0_2) := (blk_cell BK146.out 2).trans rfl; have hfz5_0 := blk_frozen BK146.out 0; have hfz5_1 := blk_frozen BK146.out 1; have hfz5_2 := blk_frozen BK146.out 2) | ((with_reducible refine gate_callee (f := 64) rfl ?_); refine goesL_ (some 8) rfl rfl Tryd.func64 (by kernel_rfl) rfl #[.int .i64 a0_0] rfl (by (try simp only [List.map_toArray, List.map_cons, List.map_nil]); first | done | rfl | (simp only [List.length_drop, List.length_take]; rfl)) ?_; (with_reducible refine (formula_timed.calls a0_0 t147 _ A2.out).mono ?_); rintro e w' ⟨rfl, ⟨nd, rfl⟩⟩; refine ⟨_, rfl, ?_⟩))
  (try simp only [Act.put, List.setIfInBounds_toArray, List.set_cons_zero, List.set_cons_succ])
  go_cut [3] (fun v3 wc => ∃ (kq : Nat) (x3_2 : List (S24)), Aside0 (formula_times.j0 kq x3_2 a0_0 a0_1 l0_2 = some r) ∧ Aside0 (kq ≤ k) ∧ Aside0 (Kd.N k24 24 wc w.heap.size (fun k_ => (w.heap.size ≤ k_) ∧ k_ ≠ gb146) v3 x3_2) ∧ Aside0 (wc.heap[gb146]? = some (.cells #[.int .i64 a0_0, .int .i64 a0_1, (.slice A0_2 l0_2.length c0_2)] 24 (0, 0))) ∧ Aside0 (Below w.heap.size w wc))
  case first =>
    have H := HC3.out
    clear HC3
    by_cases c6 : t147 = true
    · subst c6
      have H1 : ((formula_copied.f k a0_0 a0_1 l0_2).bind fun bt148 => (if ([] : List (S24)).length < 3518437208883 then (formula_times.j0 k (([] : List (S24)) ++ [(⟨bt148.1, bt148.2.1, bt148.2.2⟩ : S24)]) a0_0 a0_1 l0_2) else (none))) = some r := by rw [if_pos rfl] at H; exact H
      clear H
      have H := H1
      clear H1
      replace H := Option.bind_eq_some_iff.mp H
      obtain ⟨⟨t148, t149, t150⟩, A70, H⟩ := H
      replace H : (if ([] : List (S24)).length < 3518437208883 then (formula_times.j0 k (([] : List (S24)) ++ [(⟨t148, t149, t150⟩ : S24)]) a0_0 a0_1 l0_2) else (none)) = some r := H
      have A7 := Aside0.mk A70
      clear A70
      by_cases c8 : ([] : List (S24)).length < 3518437208883
      · rw [if_pos c8] at H
        have LMc8 := Aside0.mk c8
        clear c8
        obtain ⟨y153, hy153⟩ : ∃ y_ : List (S24), y_ = (([] : List (S24)) ++ [(⟨t148, t149, t150⟩ : S24)]) := ⟨_, rfl⟩
        replace H : (formula_times.j0 k y153 a0_0 a0_1 l0_2) = some r := by first | (rw [hy153]; with_reducible exact H) | (have H2_ := (Option.bind_some _ _).symm.trans H; rw [hy153]; with_reducible exact H2_) | (have H2_ := (Option.bind_some _ _).symm.trans H; with_reducible exact H2_) | with_reducible exact H | (rw [hy153]; exact H) | exact H
        have Ny153 := Aside0.mk hy153
        clear hy153
        have H' := Aside0.mk H
        clear H
        have hcz9_0 : w4.cell? ⟨gb146, 0, none⟩ = some (.int .i64 a0_0) := (blk_cell BK146.out 0).trans rfl
        have hcz9_1 : w4.cell? ⟨gb146, 1, none⟩ = some (.int .i64 a0_1) := (blk_cell BK146.out 1).trans rfl
        have hcz9_2 : w4.cell? ⟨gb146, 2, none⟩ = some (.slice A0_2 l0_2.length c0_2) := (blk_cell BK146.out 2).trans rfl
        have hfz9_0 := blk_frozen BK146.out 0
        have hfz9_1 := blk_frozen BK146.out 1
        have hfz9_2 := blk_frozen BK146.out 2
        go_wp2_with (first | ((with_reducible refine gate_callee (f := 47) rfl ?_); refine goesL_ (some 11) rfl rfl Tryd.func47 (by kernel_rfl) rfl #[.agg #[.int .i64 a0_0, .int .i64 a0_1, .slice A0_2 l0_2.length c0_2]] rfl (by (try simp only [List.map_toArray, List.map_cons, List.map_nil]); first | done | rfl | (simp only [List.length_drop, List.length_take]; rfl)) ?_; (with_reducible refine (formula_copied.calls k a0_0 a0_1 _ _ l0_2 t148 t149 t150 _ ?side1 ?side2 A7.out).mono ?_); (case side1 => repeat (first | exact (Kd.C_below HR0_2.out HB.out) | (with_reducible refine Kd.C_alloc ?_ _) | (with_reducible refine Kd.C_drewN ?_ _) | (with_reducible refine Kd.C_drew ?_))); (case side2 => exact HC0_2.out); rintro e w10 ⟨v151, rfl, ho0, hb⟩; refine ⟨_, rfl, ?_⟩; have n0_ := Aside0.mk (Kd.N_lower (Kd.N_mono (ok' := fun k_ => (w.heap.size ≤ k_) ∧ k_ ≠ gb146) (Kd.R_N (Kd.R_bound ho0)) (fun k_ hk_ => ⟨(Nat.le_trans (below_size (by repeat (first | (with_reducible first | exact HB.out | apply below_alloc | apply pw_below_drewN | apply below_drew1 | refine below_set ?_ GE146.out) | exact HB.out))) hk_.2.1), (Kd.freshB (g := gb146) (o := .cells #[.int .i64 a0_0, .int .i64 a0_1, .slice A0_2 l0_2.length c0_2] 24 (0, 0)) (by (with_reducible repeat (first | refine blk_drewN ?_ _ | refine blk_drew ?_ | refine blk_alloc ?_ _)); exact BK146.out) k_ hk_.2.1)⟩)) (below_size (by repeat (first | (with_reducible first | exact HB.out | apply below_alloc | apply pw_below_drewN | apply below_drew1 | refine below_set ?_ GE146.out) | exact HB.out)))); have n1_ := Aside0.mk (blk_below (g := gb146) (o := .cells #[.int .i64 a0_0, .int .i64 a0_1, .slice A0_2 l0_2.length c0_2] 24 (0, 0)) (by (with_reducible repeat (first | refine blk_drewN ?_ _ | refine blk_drew ?_ | refine blk_alloc ?_ _)); exact BK146.out) hb); have n2_ := Aside0.mk (below_step (by repeat (first | (with_reducible first | exact HB.out | apply below_alloc | apply pw_below_drewN | apply below_drew1 | refine below_set ?_ GE146.out) | exact HB.out)) hb); clear BK146; clear HB; have HO152 := n0_; have BK146 := n1_; have HB := n2_; clear n0_ n1_ n2_; (try clear hb); (try clear hb2); (try clear hk); (try clear hi); (try clear ho0); obtain ⟨Ao12, co12, eo12⟩ := Kd.N_slice HO152.out; subst eo12) | ((with_reducible refine gate_builtin (b := .append) (xs := #[.tmp 9, .tmp 12]) rfl ?_); at_builtin; refine Kd.N_append k24 (w0 := w) w.heap.size rfl (.tmp 9) (.tmp 12) 22 24 (.agg #[(.int .i64 0), (.int .i64 0), (.slice none 0 0)]) 40 rfl Tryd.underlying22 info24 rfl (by decide) (by omega) (.slice none 0 0) ([] : List (S24)) (⟨t148, t149, t150⟩ : S24) [.int .i64 t148, .int .i64 t149, .slice Ao12 t150.length co12] (fun k_ => (w.heap.size ≤ k_) ∧ k_ ≠ gb146) (fun k_ => ((fun k_ => (w.heap.size ≤ k_) ∧ k_ ≠ gb146)) k_ ∧ some k_ ≠ (.slice none 0 0 : Value).ownBlock) rfl rfl ?aP (fun _ hk => hk) ?aF ?aO ?aB ?aS ?aL ?_; (case aP => exact (k24_mkF _ _ (⟨t148, t149, t150⟩ : S24) (Kd.N_reads' (Kd.N_mono (ok' := (fun k_ => ((fun k_ => (w.heap.size ≤ k_) ∧ k_ ≠ gb146)) k_ ∧ some k_ ≠ (.slice none 0 0 : Value).ownBlock)) (HO152.out) (fun k_ hk => ⟨⟨hk.1, hk.2⟩, (by simp [Value.ownBlock])⟩))).2.1 (Kd.N_F (Kd.N_mono (ok' := (fun k_ => ((fun k_ => (w.heap.size ≤ k_) ∧ k_ ≠ gb146)) k_ ∧ some k_ ≠ (.slice none 0 0 : Value).ownBlock)) (HO152.out) (fun k_ hk => ⟨⟨hk.1, hk.2⟩, (by simp [Value.ownBlock])⟩))))); (case aB => exact (by repeat (first | (with_reducible first | exact HB.out | apply below_alloc | apply pw_below_drewN | apply below_drew1 | refine below_set ?_ GE146.out) | exact HB.out))); (case aF => exact (fun k_ hk => ⟨(Nat.le_trans (below_size (by repeat (first | (with_reducible first | exact HB.out | apply below_alloc | apply pw_below_drewN | apply below_drew1 | refine below_set ?_ GE146.out) | exact HB.out))) hk), Kd.freshB (g := gb146) (o := .cells #[.int .i64 a0_0, .int .i64 a0_1, .slice A0_2 l0_2.length c0_2] 24 (0, 0)) (by (with_reducible repeat (first | refine blk_drewN ?_ _ | refine blk_drew ?_ | refine blk_alloc ?_ _)); exact BK146.out) k_ hk⟩)); (case aO => exact ((Kd.N_nil _ _ _ _ (fun k_ => (w.heap.size ≤ k_) ∧ k_ ≠ gb146)))); (case aS => exact (below_size (by repeat (first | (with_reducible first | exact HB.out | apply below_alloc | apply pw_below_drewN | apply below_drew1 | refine below_set ?_ GE146.out) | exact HB.out)))); (case aL => have := LMc8.out; omega); intro v154 w11 ho hb hg hat; rw [← Ny153.out] at ho; have n0_ := Aside0.mk (blk_grown (g := gb146) (o := .cells #[.int .i64 a0_0, .int .i64 a0_1, .slice A0_2 l0_2.length c0_2] 24 (0, 0)) (by (with_reducible repeat (first | refine blk_drewN ?_ _ | refine blk_drew ?_ | refine blk_alloc ?_ _)); exact BK146.out) hg (by simp [Value.ownBlock])); have n1_ := Aside0.mk (hb); have n2_ := Aside0.mk (ho); clear BK146; clear HB; clear HO152; have BK146 := n0_; have HB := n1_; have HO155 := n2_; clear n0_ n1_ n2_; clear ho hb hg hat))
        go_meet
        case rel => exact ⟨_, (y153), H', ⟨by first | omega | exact Nat.le_refl _⟩, ⟨by (with_reducible repeat (first | apply Kd.N_alloc | apply Kd.N_drewN | apply Kd.N_drew)); exact HO155.out⟩, ⟨by (with_reducible repeat (first | refine blk_drewN ?_ _ | refine blk_drew ?_ | refine blk_alloc ?_ _)); exact BK146.out⟩, ⟨by repeat (first | (with_reducible first | exact HB.out | apply below_alloc | apply pw_below_drewN | apply below_drew1 | refine below_set ?_ GE146.out) | exact HB.out)⟩⟩
      · rw [if_neg c8] at H
        exact absurd H (by simp)
    · replace c6 := Bool.eq_false_iff.mpr c6
      subst c6
      have H1 : (formula_times.j0 k ([] : List (S24)) a0_0 a0_1 l0_2) = some r := by rw [if_neg (show ¬ (false = true) by decide)] at H; exact H
      clear H
      have H := H1
      clear H1
      have H' := Aside0.mk H
      clear H
      go_wp2
      go_meet
      case rel => exact ⟨_, (([] : List (S24))), H', ⟨by first | omega | exact Nat.le_refl _⟩, ⟨by first | exact Kd.R_nil _ _ _ _ _ | exact Kd.N_nil _ _ _ _ _ | exact Kd.V_nil _ _ _ _ _ | exact Kd.Q_nil _ _ _ _ _ | exact Kd.S_nil _ _ _ _ _⟩, ⟨by (with_reducible repeat (first | refine blk_drewN ?_ _ | refine blk_drew ?_ | refine blk_alloc ?_ _)); exact BK146.out⟩, ⟨by repeat (first | (with_reducible first | exact HB.out | apply below_alloc | apply pw_below_drewN | apply below_drew1 | refine below_set ?_ GE146.out) | exact HB.out)⟩⟩
  case rest =>
    clear HC3
    try clear p2
    try clear c3
    try clear c4
    try clear c6
    try clear c8
    try clear hcz5_0
    try clear hcz5_1
    try clear hcz5_2
    try clear hcz9_0
    try clear hcz9_1
    try clear hcz9_2
    try clear hfz5_0
    try clear hfz5_1
    try clear hfz5_2
    try clear hfz9_0
    try clear hfz9_1
    try clear hfz9_2
    obtain ⟨kq, x3_2, HA, HJ2, HO_3, BK146, HB⟩ := hcut
    cases kq with
    | zero => exact absurd HA.out (by simp [formula_times.j0])
    | succ kj2 =>
      have H := HA.out
      clear HA
      simp only [formula_times.j0] at H
      have H' := Aside0.mk H
      clear H
      have hcz13_0 : wc.cell? ⟨gb146, 0, none⟩ = some (.int .i64 a0_0) := (blk_cell BK146.out 0).trans rfl
      have hcz13_1 : wc.cell? ⟨gb146, 1, none⟩ = some (.int .i64 a0_1) := (blk_cell BK146.out 1).trans rfl
      have hcz13_2 : wc.cell? ⟨gb146, 2, none⟩ = some (.slice A0_2 l0_2.length c0_2) := (blk_cell BK146.out 2).trans rfl
      have hfz13_0 := blk_frozen BK146.out 0
      have hfz13_1 := blk_frozen BK146.out 1
      have hfz13_2 := blk_frozen BK146.out 2
      go_wp2
      go_loopg [3, 17] kj2 (fun kq v3 v17 w' => ∃ (x3_2 : List (S24)) (x17_2 : Int), v17 = .int .i64 x17_2 ∧ Aside0 (formula_times.l0 kq x3_2 l0_2 (l0_2.length : Int) x17_2 = some r) ∧ Aside0 (kq ≤ kj2) ∧ Aside0 (Kd.N k24 24 w' w.heap.size (fun k_ => (w.heap.size ≤ k_) ∧ k_ ≠ gb146) v3 x3_2) ∧ Aside0 (w'.heap[gb146]? = some (.cells #[.int .i64 a0_0, .int .i64 a0_1, (.slice A0_2 l0_2.length c0_2)] 24 (0, 0))) ∧ Aside0 (Below w.heap.size w w'))
      case atStart => exact ⟨(x3_2), (0), (by first | rfl | (simp; done) | (simp [*]; done)), H', ⟨Nat.le_refl _⟩, ⟨by (with_reducible repeat (first | apply Kd.N_alloc | apply Kd.N_drewN | apply Kd.N_drew)); exact HO_3.out⟩, ⟨by (with_reducible repeat (first | refine blk_drewN ?_ _ | refine blk_drew ?_ | refine blk_alloc ?_ _)); exact BK146.out⟩, ⟨by repeat (first | (with_reducible first | exact HB.out | apply below_alloc | apply pw_below_drewN | apply below_drew1 | refine below_set ?_ GE146.out) | exact HB.out)⟩⟩
      case round =>
        clear H'
        try clear p2
        try clear c3
        try clear c4
        try clear c6
        try clear c8
        try clear hcz13_0
        try clear hcz13_1
        try clear hcz13_2
        try clear hcz5_0
        try clear hcz5_1
        try clear hcz5_2
        try clear hcz9_0
        try clear hcz9_1
        try clear hcz9_2
        try clear hfz13_0
        try clear hfz13_1
        try clear hfz13_2
        try clear hfz5_0
        try clear hfz5_1
        try clear hfz5_2
        try clear hfz9_0
        try clear hfz9_1
        try clear hfz9_2
        try clear p2
        obtain ⟨x3_2, x17_2, rfl, HA, HK2, HO_3, BK146, HB⟩ := hrel
        cases gk with
        | zero => exact absurd HA.out (by simp [formula_times.l0])
        | succ k2 =>
          have H := HA.out
          clear HA
          simp only [formula_times.l0] at H
          by_cases c14 : x17_2 < (l0_2.length : Int)
          · rw [if_pos c14] at H
            have c14b0 : decide (x17_2 < (l0_2.length : Int)) = true := decide_eq_true c14
            clear c14
            by_cases c15 : 0 ≤ x17_2
            · rw [if_pos c15] at H
              have c15b0 : decide (0 ≤ x17_2) = true := decide_eq_true c15
              clear c15
              by_cases c16 : x17_2 < (l0_2.length : Int)
              · rw [if_pos c16] at H
                have c16b0 : decide (x17_2 < (l0_2.length : Int)) = true := decide_eq_true c16
                clear c16
                replace H := Option.bind_eq_some_iff.mp H
                obtain ⟨t158, A170, H⟩ := H
                replace H : (if x3_2.length + t158.length < 3518437208883 then (formula_times.l0 k2 (x3_2 ++ t158) l0_2 (l0_2.length : Int) (wrap64 (x17_2 + 1))) else (none)) = some r := H
                have A17 := Aside0.mk A170
                clear A170
                by_cases c18 : x3_2.length + t158.length < 3518437208883
                · rw [if_pos c18] at H
                  have LMc18 := Aside0.mk c18
                  clear c18
                  obtain ⟨y161, hy161⟩ : ∃ y_ : List (S24), y_ = (x3_2 ++ t158) := ⟨_, rfl⟩
                  replace H : (formula_times.l0 k2 y161 l0_2 (l0_2.length : Int) (wrap64 (x17_2 + 1))) = some r := by first | (rw [hy161]; with_reducible exact H) | (have H2_ := (Option.bind_some _ _).symm.trans H; rw [hy161]; with_reducible exact H2_) | (have H2_ := (Option.bind_some _ _).symm.trans H; with_reducible exact H2_) | with_reducible exact H | (rw [hy161]; exact H) | exact H
                  have Ny161 := Aside0.mk hy161
                  clear hy161
                  have H' := Aside0.mk H
                  clear H
                  have p156 : 0 ≤ (x17_2 : Int) := of_decide_eq_true (by first | (with_reducible assumption) | assumption)
                  have q156 : x17_2 < (l0_2.length : Int) := of_decide_eq_true (by first | (with_reducible assumption) | assumption)
                  obtain ⟨ad156, A156_2, c156_2, e156, hx156_0, hx156_1, hx156_2, hl156_2, hi156_2⟩ := at_T24 HR0_2.out x17_2 p156 q156
                  cases e156
                  replace hx156_0 := (HB.out.cell (World.block_lt_of_cell? w _ hx156_0)).trans hx156_0
                  replace hx156_1 := (HB.out.cell (World.block_lt_of_cell? w _ hx156_1)).trans hx156_1
                  replace hx156_2 := (HB.out.cell (World.block_lt_of_cell? w _ hx156_2)).trans hx156_2
                  have HR156_2 := Aside0.mk hi156_2
                  have HC156_2 := Aside0.mk hl156_2
                  clear hi156_2 hl156_2
                  replace p156 := eq_true p156
                  replace q156 := eq_true q156
                  go_wp2_with (first | ((with_reducible refine gate_dst (N := 5) rfl ?_); refine box_event ?hg (N := 5) ?hd (cs := #[.int .i64 0, .int .i64 0, .slice none 0 0]) (t := 24) ?hr ?_; (case hd => rfl); (case hg => rfl); (case hr => first | (go_simp; done) | (go_simp; rfl)); intro gb157 hg w19 hbox hb; have n0_ := Aside0.mk (Kd.N_below (Kd.N_elderB (by (with_reducible repeat (first | apply Kd.N_alloc | apply Kd.N_drewN | apply Kd.N_drew)); exact HO_3.out) gb157 (Nat.le_of_eq hg.symm)) hb); have n1_ := Aside0.mk (blk_below (g := gb146) (o := .cells #[.int .i64 a0_0, .int .i64 a0_1, .slice (some ad156) l0_2.length c0_2] 24 (0, 0)) (by (with_reducible repeat (first | refine blk_drewN ?_ _ | refine blk_drew ?_ | refine blk_alloc ?_ _)); exact BK146.out) hb); have n2_ := Aside0.mk (below_step (by repeat (first | (with_reducible first | exact HB.out | apply below_alloc | apply pw_below_drewN | apply below_drew1 | refine below_set ?_ GE146.out) | exact HB.out)) hb); have n3_ := Aside0.mk (hbox); have n4_ := Aside0.mk ((by rw [hg]; exact (below_size (by repeat (first | (with_reducible first | exact HB.out | apply below_alloc | apply pw_below_drewN | apply below_drew1 | refine below_set ?_ GE146.out) | exact HB.out))) : w.heap.size ≤ gb157)); have n5_ := Aside0.mk ((by rw [hg]; exact (below_size (by repeat (first | (with_reducible first | exact HB.out | apply below_alloc | apply pw_below_drewN | apply below_drew1 | refine below_set ?_ GE146.out) | exact HB.out))) : w.heap.size ≤ gb157)); have n6_ := Aside0.mk ((by rw [hg]; exact Nat.ne_of_lt (blk_lt (g := gb146) (o := .cells #[.int .i64 a0_0, .int .i64 a0_1, .slice (some ad156) l0_2.length c0_2] 24 (0, 0)) (by (with_reducible repeat (first | refine blk_drewN ?_ _ | refine blk_drew ?_ | refine blk_alloc ?_ _)); exact BK146.out)) : gb146 ≠ gb157)); have n7_ := Aside0.mk ((by rw [hg]; exact Nat.ne_of_gt (blk_lt (g := gb146) (o := .cells #[.int .i64 a0_0, .int .i64 a0_1, .slice (some ad156) l0_2.length c0_2] 24 (0, 0)) (by (with_reducible repeat (first | refine blk_drewN ?_ _ | refine blk_drew ?_ | refine blk_alloc ?_ _)); exact BK146.out)) : gb157 ≠ gb146)); clear HO_3; clear BK146; clear HB; have HO_3 := n0_; have BK146 := n1_; have HB := n2_; have BK157 := n3_; have GW157 := n4_; have GE157 := n5_; have NB146_157 := n6_; have NB157_146 := n7_; clear n0_ n1_ n2_ n3_ n4_ n5_ n6_ n7_; clear hb hbox hg; have hnb20 := NB157_146.out; have hnc20 := NB146_157.out; have hcz21_0 : w19.cell? ⟨gb157, 0, none⟩ = some (.int .i64 0) := (blk_cell BK157.out 0).trans rfl; have hcz21_1 : w19.cell? ⟨gb157, 1, none⟩ = some (.int .i64 0) := (blk_cell BK157.out 1).trans rfl; have hcz21_2 : w19.cell? ⟨gb157, 2, none⟩ = some (.slice none 0 0) := (blk_cell BK157.out 2).trans rfl; have hfz21_0 := blk_frozen BK157.out 0; have hfz21_1 := blk_frozen BK157.out 1; have hfz21_2 := blk_frozen BK157.out 2) | ((with_reducible refine gate_callee (f := 37) rfl ?_); refine goesL_ (some 23) rfl rfl Tryd.func37 (by kernel_rfl) rfl #[.agg #[.int .i64 ((rd_T24 l0_2 x17_2).f0), .int .i64 ((rd_T24 l0_2 x17_2).f1), .slice A156_2 ((rd_T24 l0_2 x17_2).f2).length c156_2]] rfl (by (try simp only [List.map_toArray, List.map_cons, List.map_nil]); first | done | rfl | (simp only [List.length_drop, List.length_take]; rfl)) ?_; (with_reducible refine (ih k2 (by have := HJ2.out; have := HK2.out; omega) ((rd_T24 l0_2 x17_2).f0) ((rd_T24 l0_2 x17_2).f1) _ _ ((rd_T24 l0_2 x17_2).f2) t158 _ ?side1 ?side2 A17.out).mono ?_); (case side1 => exact Kd.C_below HR156_2.out (by repeat (first | (with_reducible first | exact HB.out | apply below_alloc | apply pw_below_drewN | apply below_drew1 | refine below_set ?_ GE146.out | refine below_set ?_ GE157.out) | exact HB.out))); (case side2 => exact HC156_2.out); rintro e w22 ⟨v159, rfl, ho0, hb⟩; refine ⟨_, rfl, ?_⟩; have n0_ := Aside0.mk (Kd.N_elder' (by (with_reducible repeat (first | apply Kd.N_alloc | apply Kd.N_drewN | apply Kd.N_drew)); exact (Kd.N_mono (Kd.N_far (p := ⟨gb157, 2, none⟩) (Kd.N_far (p := ⟨gb157, 1, none⟩) (Kd.N_far (p := ⟨gb157, 0, none⟩) (Kd.N_mono HO_3.out (fun k_ hk => (⟨hk, hk.2⟩ : _ ∧ k_ ≠ gb157))) (fun _ hk => hk.2) (.int .i64 ((rd_T24 l0_2 x17_2).f0))) (fun _ hk => hk.2) (.int .i64 ((rd_T24 l0_2 x17_2).f1))) (fun _ hk => hk.2) (.slice A156_2 ((rd_T24 l0_2 x17_2).f2).length c156_2)) (fun _ h_ => h_.1))) (Kd.N_base ho0) hb); have n1_ := Aside0.mk (Kd.N_lower (Kd.N_mono (ok' := fun k_ => (w.heap.size ≤ k_) ∧ some k_ ≠ (u3 : Value).ownBlock ∧ k_ ≠ gb146 ∧ k_ ≠ gb157) ho0 (fun k_ hk_ => ⟨(Nat.le_trans (below_size (by repeat (first | (with_reducible first | exact HB.out | apply below_alloc | apply pw_below_drewN | apply below_drew1 | refine below_set ?_ GE146.out | refine below_set ?_ GE157.out) | exact HB.out))) hk_), (Kd.fresh' (Kd.N_lt (by (with_reducible repeat (first | apply Kd.N_alloc | apply Kd.N_drewN | apply Kd.N_drew)); exact (Kd.N_mono (Kd.N_far (p := ⟨gb157, 2, none⟩) (Kd.N_far (p := ⟨gb157, 1, none⟩) (Kd.N_far (p := ⟨gb157, 0, none⟩) (Kd.N_mono HO_3.out (fun k_ hk => (⟨hk, hk.2⟩ : _ ∧ k_ ≠ gb157))) (fun _ hk => hk.2) (.int .i64 ((rd_T24 l0_2 x17_2).f0))) (fun _ hk => hk.2) (.int .i64 ((rd_T24 l0_2 x17_2).f1))) (fun _ hk => hk.2) (.slice A156_2 ((rd_T24 l0_2 x17_2).f2).length c156_2)) (fun _ h_ => h_.1)))) k_ hk_), (Kd.freshB (g := gb146) (o := .cells #[.int .i64 a0_0, .int .i64 a0_1, .slice (some ad156) l0_2.length c0_2] 24 (0, 0)) (by (with_reducible repeat (first | refine blk_drewN ?_ _ | refine blk_drew ?_ | refine blk_alloc ?_ _)); refine blk_far ?_ NB146_157.out _; (with_reducible repeat (first | refine blk_drewN ?_ _ | refine blk_drew ?_ | refine blk_alloc ?_ _)); refine blk_far ?_ NB146_157.out _; (with_reducible repeat (first | refine blk_drewN ?_ _ | refine blk_drew ?_ | refine blk_alloc ?_ _)); refine blk_far ?_ NB146_157.out _; (with_reducible repeat (first | refine blk_drewN ?_ _ | refine blk_drew ?_ | refine blk_alloc ?_ _)); exact BK146.out) k_ hk_), (Kd.freshB (g := gb157) (o := .cells #[.int .i64 ((rd_T24 l0_2 x17_2).f0), .int .i64 ((rd_T24 l0_2 x17_2).f1), .slice A156_2 ((rd_T24 l0_2 x17_2).f2).length c156_2] 24 (0, 0)) (by (with_reducible repeat (first | refine blk_drewN ?_ _ | refine blk_drew ?_ | refine blk_alloc ?_ _)); refine blk_put (cs := #[.int .i64 ((rd_T24 l0_2 x17_2).f0), .int .i64 ((rd_T24 l0_2 x17_2).f1), .slice none 0 0]) ?_ 2 _ rfl; (with_reducible repeat (first | refine blk_drewN ?_ _ | refine blk_drew ?_ | refine blk_alloc ?_ _)); refine blk_put (cs := #[.int .i64 ((rd_T24 l0_2 x17_2).f0), .int .i64 0, .slice none 0 0]) ?_ 1 _ rfl; (with_reducible repeat (first | refine blk_drewN ?_ _ | refine blk_drew ?_ | refine blk_alloc ?_ _)); refine blk_put (cs := #[.int .i64 0, .int .i64 0, .slice none 0 0]) ?_ 0 _ rfl; (with_reducible repeat (first | refine blk_drewN ?_ _ | refine blk_drew ?_ | refine blk_alloc ?_ _)); exact BK157.out) k_ hk_)⟩)) (below_size (by repeat (first | (with_reducible first | exact HB.out | apply below_alloc | apply pw_below_drewN | apply below_drew1 | refine below_set ?_ GE146.out | refine below_set ?_ GE157.out) | exact HB.out)))); have n2_ := Aside0.mk (blk_below (g := gb146) (o := .cells #[.int .i64 a0_0, .int .i64 a0_1, .slice (some ad156) l0_2.length c0_2] 24 (0, 0)) (by (with_reducible repeat (first | refine blk_drewN ?_ _ | refine blk_drew ?_ | refine blk_alloc ?_ _)); refine blk_far ?_ NB146_157.out _; (with_reducible repeat (first | refine blk_drewN ?_ _ | refine blk_drew ?_ | refine blk_alloc ?_ _)); refine blk_far ?_ NB146_157.out _; (with_reducible repeat (first | refine blk_drewN ?_ _ | refine blk_drew ?_ | refine blk_alloc ?_ _)); refine blk_far ?_ NB146_157.out _; (with_reducible repeat (first | refine blk_drewN ?_ _ | refine blk_drew ?_ | refine blk_alloc ?_ _)); exact BK146.out) hb); have n3_ := Aside0.mk (blk_below (g := gb157) (o := .cells #[.int .i64 ((rd_T24 l0_2 x17_2).f0), .int .i64 ((rd_T24 l0_2 x17_2).f1), .slice A156_2 ((rd_T24 l0_2 x17_2).f2).length c156_2] 24 (0, 0)) (by (with_reducible repeat (first | refine blk_drewN ?_ _ | refine blk_drew ?_ | refine blk_alloc ?_ _)); refine blk_put (cs := #[.int .i64 ((rd_T24 l0_2 x17_2).f0), .int .i64 ((rd_T24 l0_2 x17_2).f1), .slice none 0 0]) ?_ 2 _ rfl; (with_reducible repeat (first | refine blk_drewN ?_ _ | refine blk_drew ?_ | refine blk_alloc ?_ _)); refine blk_put (cs := #[.int .i64 ((rd_T24 l0_2 x17_2).f0), .int .i64 0, .slice none 0 0]) ?_ 1 _ rfl; (with_reducible repeat (first | refine blk_drewN ?_ _ | refine blk_drew ?_ | refine blk_alloc ?_ _)); refine blk_put (cs := #[.int .i64 0, .int .i64 0, .slice none 0 0]) ?_ 0 _ rfl; (with_reducible repeat (first | refine blk_drewN ?_ _ | refine blk_drew ?_ | refine blk_alloc ?_ _)); exact BK157.out) hb); have n4_ := Aside0.mk (below_step (by repeat (first | (with_reducible first | exact HB.out | apply below_alloc | apply pw_below_drewN | apply below_drew1 | refine below_set ?_ GE146.out | refine below_set ?_ GE157.out) | exact HB.out)) hb); clear HO_3; clear BK146; clear BK157; clear HB; have HO_3 := n0_; have HO160 := n1_; have BK146 := n2_; have BK157 := n3_; have HB := n4_; clear n0_ n1_ n2_ n3_ n4_; (try clear hb); (try clear hb2); (try clear hk); (try clear hi); (try clear ho0); obtain ⟨Ao24, co24, eo24⟩ := Kd.N_slice HO160.out; subst eo24) | ((with_reducible refine gate_builtin (b := .append) (xs := #[.tmp 21, .tmp 23]) rfl ?_); at_builtin; refine Kd.N_append_rows k24 (w0 := w) w.heap.size rfl (.tmp 21) (.tmp 23) 22 24 (.agg #[(.int .i64 0), (.int .i64 0), (.slice none 0 0)]) 40 rfl Tryd.underlying22 info24 rfl (by decide) (by omega) u3 x3_2 t158 _ _ _ (fun k_ => (w.heap.size ≤ k_) ∧ k_ ≠ gb146 ∧ k_ ≠ gb157) (fun k_ => ((fun k_ => (w.heap.size ≤ k_) ∧ k_ ≠ gb146 ∧ k_ ≠ gb157)) k_ ∧ some k_ ≠ (u3 : Value).ownBlock) rfl rfl ?aO ?aR (fun _ hk => hk) ?aF ?aB ?aS ?aL ?_; (case aR => exact (by skip; exact Kd.N_F (Kd.N_mono (ok' := (fun k_ => ((fun k_ => (w.heap.size ≤ k_) ∧ k_ ≠ gb146 ∧ k_ ≠ gb157)) k_ ∧ some k_ ≠ (u3 : Value).ownBlock)) (HO160.out) (fun k_ hk => ⟨⟨hk.1, ⟨hk.2.2.1, hk.2.2.2⟩⟩, hk.2.1⟩)))); (case aB => exact (by repeat (first | (with_reducible first | exact HB.out | apply below_alloc | apply pw_below_drewN | apply below_drew1 | refine below_set ?_ GE146.out | refine below_set ?_ GE157.out) | exact HB.out))); (case aF => exact (fun k_ hk => ⟨(Nat.le_trans (below_size (by repeat (first | (with_reducible first | exact HB.out | apply below_alloc | apply pw_below_drewN | apply below_drew1 | refine below_set ?_ GE146.out | refine below_set ?_ GE157.out) | exact HB.out))) hk), Kd.freshB (g := gb146) (o := .cells #[.int .i64 a0_0, .int .i64 a0_1, .slice (some ad156) l0_2.length c0_2] 24 (0, 0)) (by (with_reducible repeat (first | refine blk_drewN ?_ _ | refine blk_drew ?_ | refine blk_alloc ?_ _)); exact BK146.out) k_ hk, Kd.freshB (g := gb157) (o := .cells #[.int .i64 ((rd_T24 l0_2 x17_2).f0), .int .i64 ((rd_T24 l0_2 x17_2).f1), .slice A156_2 ((rd_T24 l0_2 x17_2).f2).length c156_2] 24 (0, 0)) (by (with_reducible repeat (first | refine blk_drewN ?_ _ | refine blk_drew ?_ | refine blk_alloc ?_ _)); exact BK157.out) k_ hk⟩)); (case aO => exact (by (with_reducible repeat (first | apply Kd.N_alloc | apply Kd.N_drewN | apply Kd.N_drew)); exact Kd.N_mono HO_3.out (fun _ hk => ⟨hk.1.1.1, ⟨hk.1.1.2, hk.1.2⟩⟩))); (case aS => exact (below_size (by repeat (first | (with_reducible first | exact HB.out | apply below_alloc | apply pw_below_drewN | apply below_drew1 | refine below_set ?_ GE146.out | refine below_set ?_ GE157.out) | exact HB.out)))); (case aL => have := LMc18.out; omega); intro v162 w23 ho hb hg hat; rw [← Ny161.out] at ho; have n0_ := Aside0.mk (blk_grown (g := gb146) (o := .cells #[.int .i64 a0_0, .int .i64 a0_1, .slice (some ad156) l0_2.length c0_2] 24 (0, 0)) (by (with_reducible repeat (first | refine blk_drewN ?_ _ | refine blk_drew ?_ | refine blk_alloc ?_ _)); exact BK146.out) hg (Kd.N_away HO_3.out (fun _ hk => hk.1.1.2))); have n1_ := Aside0.mk (blk_grown (g := gb157) (o := .cells #[.int .i64 ((rd_T24 l0_2 x17_2).f0), .int .i64 ((rd_T24 l0_2 x17_2).f1), .slice A156_2 ((rd_T24 l0_2 x17_2).f2).length c156_2] 24 (0, 0)) (by (with_reducible repeat (first | refine blk_drewN ?_ _ | refine blk_drew ?_ | refine blk_alloc ?_ _)); exact BK157.out) hg (Kd.N_away HO_3.out (fun _ hk => hk.1.2))); have n2_ := Aside0.mk (Kd.N_afterv (ok := (fun k_ => (w.heap.size ≤ k_) ∧ k_ ≠ gb146 ∧ k_ ≠ gb157)) (by (with_reducible repeat (first | apply Kd.N_alloc | apply Kd.N_drewN | apply Kd.N_drew)); exact Kd.N_mono HO160.out (fun _ hk => ⟨⟨hk.1, ⟨hk.2.2.1, hk.2.2.2⟩⟩, hk.2.1⟩)) hg hat); have n3_ := Aside0.mk (hb); have n4_ := Aside0.mk (ho); clear BK146; clear BK157; clear HO160; clear HB; clear HO_3; have BK146 := n0_; have BK157 := n1_; have HO160 := n2_; have HB := n3_; have HO163 := n4_; clear n0_ n1_ n2_ n3_ n4_; clear ho hb hg hat))
                  go_roundg k2
                  case measure => have := HJ2.out; have := HK2.out; omega
                  case rel => exact ⟨(y161), (wrap64 (x17_2 + 1)), (by first | rfl | (simp; done) | (simp [*]; done)), H', ⟨by have := HJ2.out; have := HK2.out; omega⟩, ⟨by (with_reducible repeat (first | apply Kd.N_alloc | apply Kd.N_drewN | apply Kd.N_drew)); exact Kd.N_mono HO163.out (fun _ hk => ⟨hk.1, hk.2.1⟩)⟩, ⟨by (with_reducible repeat (first | refine blk_drewN ?_ _ | refine blk_drew ?_ | refine blk_alloc ?_ _)); exact BK146.out⟩, ⟨by repeat (first | (with_reducible first | exact HB.out | apply below_alloc | apply pw_below_drewN | apply below_drew1 | refine below_set ?_ GE146.out | refine below_set ?_ GE157.out) | exact HB.out)⟩⟩
                · rw [if_neg c18] at H
                  exact absurd H (by simp)
              · rw [if_neg c16] at H
                exact absurd H (by simp)
            · rw [if_neg c15] at H
              exact absurd H (by simp)
          · rw [if_neg c14] at H
            have c14b0 : decide (x17_2 < (l0_2.length : Int)) = false := decide_eq_false c14
            clear c14
            obtain rfl := Option.some.inj H
            go_wp2
            go_ret
            exact ⟨_, by first | rfl | (simp [errW_none, errW_some] <;> rfl) | (simp [*, errW_none, errW_some] <;> rfl), by (with_reducible repeat (first | apply Kd.N_alloc | apply Kd.N_drewN | apply Kd.N_drew)); exact Kd.N_mono HO_3.out (fun _ hk => hk.1), by repeat (first | (with_reducible first | exact HB.out | apply below_alloc | apply pw_below_drewN | apply below_drew1 | refine below_set ?_ GE146.out) | exact HB.out)⟩

end Go.Proofs.YtjjnokodkeekhaaDoor.P

namespace Go.Proofs.YtjjnokodkeekhaaDoor.P
open Go.RowKit Go.Proofs.YtjjnokodkeekhaaDoorW.PrintWords Go.Proofs.YtjjnokodkeekhaaDoorW.PrintLast Go.Proofs.YtjjnokodkeekhaaDoorW.PrintMore
attribute [local go_sem] max2_int min2_int max_two min_two max_three min_three max_four min_four   -- for this text's walks alone
set_option linter.unusedVariables false
set_option linter.unusedSimpArgs false

open Go.Proofs.YtjjnokodkeekhaaDoor.X
def formula_Times.f (k : Nat) (a0_0 : Int) (a0_1 : Int) (l0_2 : List (S24)) : Option ((List (S24))) := (formula_May.f a0_0 a0_1 l0_2).bind fun t165 => (if t165 = 0 then ((formula_times.f k a0_0 a0_1 l0_2).bind fun t166 => (some t166)) else (some ([] : List (S24))))
theorem formula_Times.mono : ∀ a0 a1 a2 k, LeO (formula_Times.f k a0 a1 a2) (formula_Times.f (k + 1) a0 a1 a2) := by
  intro a0 a1 a2 k
  unfold formula_Times.f
  repeat' first
      | (with_reducible exact formula_times.mono _ _ _ _)
      | (with_reducible exact LeO.refl _)
      | (with_reducible exact LeO.none _)
      | (with_reducible refine LeO.ite ?_ ?_)
      | (with_reducible refine LeO.bind ?_ (fun _ => ?_))
      | exact formula_times.mono _ _ _ _
      | exact LeO.none _
      | refine LeO.ite ?_ ?_
      | refine LeO.bind ?_ (fun _ => ?_)
set_option maxHeartbeats 8000000 in
set_option maxRecDepth 100000 in
theorem formula_Times.calls (k : Nat) (a0_0 : Int) (a0_1 : Int) (A0_2 : Option Addr) (c0_2 : Nat) (l0_2 : List (S24)) (r : List (S24)) (w : World) (hr0_2 : Kd.C k24 w A0_2 l0_2.length l0_2) (hc0_2 : l0_2.length ≤ c0_2) (h : formula_Times.f k a0_0 a0_1 l0_2 = some r) :
    Calls Tryd.prog 18 #[.agg #[.int .i64 a0_0, .int .i64 a0_1, .slice A0_2 l0_2.length c0_2]] w fun e w' => ∃ v0_ : Value, e = .returned (v0_) ∧ Kd.N k24 24 w' w.heap.size (fun k_ => (w.heap.size ≤ k_)) v0_ r ∧ Below w.heap.size w w' := by
  have hu24 := Tryd.underlying24
  have HR0_2 := Aside0.mk hr0_2
  have HC0_2 := Aside0.mk hc0_2
  clear hr0_2 hc0_2
  have HB := Aside0.mk (Below.refl w.heap.size w)
  have H : ((formula_May.f a0_0 a0_1 l0_2).bind fun t165 => (if t165 = 0 then ((formula_times.f k a0_0 a0_1 l0_2).bind fun t166 => (some t166)) else (some ([] : List (S24))))) = some r := h
  clear h
  replace H := Option.bind_eq_some_iff.mp H
  obtain ⟨t165, A20, H⟩ := H
  replace H : (if t165 = 0 then ((formula_times.f k a0_0 a0_1 l0_2).bind fun t166 => (some t166)) else (some ([] : List (S24)))) = some r := H
  have A2 := Aside0.mk A20
  clear A20
  by_cases c3 : t165 = 0
  · rw [if_pos c3] at H
    have c3b0 : (t165 == 0) = true := beq_iff_eq.mpr c3
    have c3b1 : (t165 != 0) = false := bne_eq_false_iff_eq.mpr c3
    clear c3
    replace H := Option.bind_eq_some_iff.mp H
    obtain ⟨t166, A40, H⟩ := H
    replace H : (some t166) = some r := H
    have A4 := Aside0.mk A40
    clear A40
    obtain rfl := Option.some.inj H
    go_enter Tryd.func18, Tryd.ntmps18
    go_wp2_with (first | ((with_reducible refine gate_dst (N := 1) rfl ?_); refine box_event ?hg (N := 1) ?hd (cs := #[.int .i64 a0_0, .int .i64 a0_1, .slice A0_2 l0_2.length c0_2]) (t := 24) ?hr ?_; (case hd => rfl); (case hg => rfl); (case hr => first | (go_simp; done) | (go_simp; rfl)); intro gb164 hg w5 hbox hb; have n0_ := Aside0.mk (below_step (by repeat (first | (with_reducible first | exact HB.out | apply below_alloc | apply pw_below_drewN | apply below_drew1) | exact HB.out)) hb); have n1_ := Aside0.mk (hbox); have n2_ := Aside0.mk ((by rw [hg]; exact (below_size (by repeat (first | (with_reducible first | exact HB.out | apply below_alloc | apply pw_below_drewN | apply below_drew1) | exact HB.out))) : w.heap.size ≤ gb164)); have n3_ := Aside0.mk ((by rw [hg]; exact (below_size (by repeat (first | (with_reducible first | exact HB.out | apply below_alloc | apply pw_below_drewN | apply below_drew1) | exact HB.out))) : w.heap.size ≤ gb164)); clear HB; have HB := n0_; have BK164 := n1_; have GW164 := n2_; have GE164 := n3_; clear n0_ n1_ n2_ n3_; clear hb hbox hg; have hcz6_0 : w5.cell? ⟨gb164, 0, none⟩ = some (.int .i64 a0_0) := (blk_cell BK164.out 0).trans rfl; have hcz6_1 : w5.cell? ⟨gb164, 1, none⟩ = some (.int .i64 a0_1) := (blk_cell BK164.out 1).trans rfl; have hcz6_2 : w5.cell? ⟨gb164, 2, none⟩ = some (.slice A0_2 l0_2.length c0_2) := (blk_cell BK164.out 2).trans rfl; have hfz6_0 := blk_frozen BK164.out 0; have hfz6_1 := blk_frozen BK164.out 1; have hfz6_2 := blk_frozen BK164.out 2) | ((with_reducible refine gate_callee (f := 13) rfl ?_); refine goesL_ (some 4) rfl rfl Tryd.func13 (by kernel_rfl) rfl #[.agg #[.int .i64 a0_0, .int .i64 a0_1, .slice A0_2 l0_2.length c0_2]] rfl (by (try simp only [List.map_toArray, List.map_cons, List.map_nil]); first | done | rfl | (simp only [List.length_drop, List.length_take]; rfl)) ?_; (with_reducible refine (formula_May.calls a0_0 a0_1 _ _ l0_2 t165 _ ?side1 ?side2 A2.out).mono ?_); (case side1 => repeat (first | exact (Kd.C_below HR0_2.out HB.out) | (with_reducible refine Kd.C_alloc ?_ _) | (with_reducible refine Kd.C_drewN ?_ _) | (with_reducible refine Kd.C_drew ?_))); (case side2 => exact HC0_2.out); rintro e w7 ⟨rfl, hb⟩; refine ⟨_, rfl, ?_⟩; have n0_ := Aside0.mk (blk_below (g := gb164) (o := .cells #[.int .i64 a0_0, .int .i64 a0_1, .slice A0_2 l0_2.length c0_2] 24 (0, 0)) (by (with_reducible repeat (first | refine blk_drewN ?_ _ | refine blk_drew ?_ | refine blk_alloc ?_ _)); exact BK164.out) hb); have n1_ := Aside0.mk (below_step (by repeat (first | (with_reducible first | exact HB.out | apply below_alloc | apply pw_below_drewN | apply below_drew1 | refine below_set ?_ GE164.out) | exact HB.out)) hb); clear BK164; clear HB; have BK164 := n0_; have HB := n1_; clear n0_ n1_; (try clear hb); (try clear hb2); (try clear hk); (try clear hi); have hcz8_0 : w7.cell? ⟨gb164, 0, none⟩ = some (.int .i64 a0_0) := (blk_cell BK164.out 0).trans rfl; have hcz8_1 : w7.cell? ⟨gb164, 1, none⟩ = some (.int .i64 a0_1) := (blk_cell BK164.out 1).trans rfl; have hcz8_2 : w7.cell? ⟨gb164, 2, none⟩ = some (.slice A0_2 l0_2.length c0_2) := (blk_cell BK164.out 2).trans rfl; have hfz8_0 := blk_frozen BK164.out 0; have hfz8_1 := blk_frozen BK164.out 1; have hfz8_2 := blk_frozen BK164.out 2) | ((with_reducible refine gate_callee (f := 37) rfl ?_); refine goesL_ (some 7) rfl rfl Tryd.func37 (by kernel_rfl) rfl #[.agg #[.int .i64 a0_0, .int .i64 a0_1, .slice A0_2 l0_2.length c0_2]] rfl (by (try simp only [List.map_toArray, List.map_cons, List.map_nil]); first | done | rfl | (simp only [List.length_drop, List.length_take]; rfl)) ?_; (with_reducible refine (formula_times.calls k a0_0 a0_1 _ _ l0_2 t166 _ ?side1 ?side2 A4.out).mono ?_); (case side1 => repeat (first | exact (Kd.C_below HR0_2.out HB.out) | (with_reducible refine Kd.C_alloc ?_ _) | (with_reducible refine Kd.C_drewN ?_ _) | (with_reducible refine Kd.C_drew ?_))); (case side2 => exact HC0_2.out); rintro e w9 ⟨v167, rfl, ho0, hb⟩; refine ⟨_, rfl, ?_⟩; have n0_ := Aside0.mk (Kd.N_lower (Kd.N_mono (ok' := fun k_ => (w.heap.size ≤ k_) ∧ k_ ≠ gb164) ho0 (fun k_ hk_ => ⟨(Nat.le_trans (below_size (by repeat (first | (with_reducible first | exact HB.out | apply below_alloc | apply pw_below_drewN | apply below_drew1 | refine below_set ?_ GE164.out) | exact HB.out))) hk_), (Kd.freshB (g := gb164) (o := .cells #[.int .i64 a0_0, .int .i64 a0_1, .slice A0_2 l0_2.length c0_2] 24 (0, 0)) (by (with_reducible repeat (first | refine blk_drewN ?_ _ | refine blk_drew ?_ | refine blk_alloc ?_ _)); exact BK164.out) k_ hk_)⟩)) (below_size (by repeat (first | (with_reducible first | exact HB.out | apply below_alloc | apply pw_below_drewN | apply below_drew1 | refine below_set ?_ GE164.out) | exact HB.out)))); have n1_ := Aside0.mk (blk_below (g := gb164) (o := .cells #[.int .i64 a0_0, .int .i64 a0_1, .slice A0_2 l0_2.length c0_2] 24 (0, 0)) (by (with_reducible repeat (first | refine blk_drewN ?_ _ | refine blk_drew ?_ | refine blk_alloc ?_ _)); exact BK164.out) hb); have n2_ := Aside0.mk (below_step (by repeat (first | (with_reducible first | exact HB.out | apply below_alloc | apply pw_below_drewN | apply below_drew1 | refine below_set ?_ GE164.out) | exact HB.out)) hb); clear BK164; clear HB; have HO168 := n0_; have BK164 := n1_; have HB := n2_; clear n0_ n1_ n2_; (try clear hb); (try clear hb2); (try clear hk); (try clear hi); (try clear ho0)))
    go_ret
    exact ⟨_, by first | rfl | (simp [errW_none, errW_some] <;> rfl) | (simp [*, errW_none, errW_some] <;> rfl), by (with_reducible repeat (first | apply Kd.N_alloc | apply Kd.N_drewN | apply Kd.N_drew)); exact Kd.N_mono HO168.out (fun _ hk => hk.1), by repeat (first | (with_reducible first | exact HB.out | apply below_alloc | apply pw_below_drewN | apply below_drew1 | refine below_set ?_ GE164.out) | exact HB.out)⟩
  · rw [if_neg c3] at H
    have c3b0 : (t165 == 0) = false := beq_eq_false_iff_ne.mpr c3
    have c3b1 : (t165 != 0) = true := bne_iff_ne.mpr c3
    obtain rfl := Option.some.inj H
    go_enter Tryd.func18, Tryd.ntmps18
    go_wp2_with (first | ((with_reducible refine gate_dst (N := 1) rfl ?_); refine box_event ?hg (N := 1) ?hd (cs := #[.int .i64 a0_0, .int .i64 a0_1, .slice A0_2 l0_2.length c0_2]) (t := 24) ?hr ?_; (case hd => rfl); (case hg => rfl); (case hr => first | (go_simp; done) | (go_simp; rfl)); intro gb164 hg w10 hbox hb; have n0_ := Aside0.mk (below_step (by repeat (first | (with_reducible first | exact HB.out | apply below_alloc | apply pw_below_drewN | apply below_drew1) | exact HB.out)) hb); have n1_ := Aside0.mk (hbox); have n2_ := Aside0.mk ((by rw [hg]; exact (below_size (by repeat (first | (with_reducible first | exact HB.out | apply below_alloc | apply pw_below_drewN | apply below_drew1) | exact HB.out))) : w.heap.size ≤ gb164)); have n3_ := Aside0.mk ((by rw [hg]; exact (below_size (by repeat (first | (with_reducible first | exact HB.out | apply below_alloc | apply pw_below_drewN | apply below_drew1) | exact HB.out))) : w.heap.size ≤ gb164)); clear HB; have HB := n0_; have BK164 := n1_; have GW164 := n2_; have GE164 := n3_; clear n0_ n1_ n2_ n3_; clear hb hbox hg; have hcz11_0 : w10.cell? ⟨gb164, 0, none⟩ = some (.int .i64 a0_0) := (blk_cell BK164.out 0).trans rfl; have hcz11_1 : w10.cell? ⟨gb164, 1, none⟩ = some (.int .i64 a0_1) := (blk_cell BK164.out 1).trans rfl; have hcz11_2 : w10.cell? ⟨gb164, 2, none⟩ = some (.slice A0_2 l0_2.length c0_2) := (blk_cell BK164.out 2).trans rfl; have hfz11_0 := blk_frozen BK164.out 0; have hfz11_1 := blk_frozen BK164.out 1; have hfz11_2 := blk_frozen BK164.out 2) | ((with_reducible refine gate_callee (f := 13) rfl ?_); refine goesL_ (some 4) rfl rfl Tryd.func13 (by kernel_rfl) rfl #[.agg #[.int .i64 a0_0, .int .i64 a0_1, .slice A0_2 l0_2.length c0_2]] rfl (by (try simp only [List.map_toArray, List.map_cons, List.map_nil]); first | done | rfl | (simp only [List.length_drop, List.length_take]; rfl)) ?_; (with_reducible refine (formula_May.calls a0_0 a0_1 _ _ l0_2 t165 _ ?side1 ?side2 A2.out).mono ?_); (case side1 => repeat (first | exact (Kd.C_below HR0_2.out HB.out) | (with_reducible refine Kd.C_alloc ?_ _) | (with_reducible refine Kd.C_drewN ?_ _) | (with_reducible refine Kd.C_drew ?_))); (case side2 => exact HC0_2.out); rintro e w12 ⟨rfl, hb⟩; refine ⟨_, rfl, ?_⟩; have n0_ := Aside0.mk (blk_below (g := gb164) (o := .cells #[.int .i64 a0_0, .int .i64 a0_1, .slice A0_2 l0_2.length c0_2] 24 (0, 0)) (by (with_reducible repeat (first | refine blk_drewN ?_ _ | refine blk_drew ?_ | refine blk_alloc ?_ _)); exact BK164.out) hb); have n1_ := Aside0.mk (below_step (by repeat (first | (with_reducible first | exact HB.out | apply below_alloc | apply pw_below_drewN | apply below_drew1 | refine below_set ?_ GE164.out) | exact HB.out)) hb); clear BK164; clear HB; have BK164 := n0_; have HB := n1_; clear n0_ n1_; (try clear hb); (try clear hb2); (try clear hk); (try clear hi)))
    go_ret
    exact ⟨_, by first | rfl | (simp [errW_none, errW_some] <;> rfl) | (simp [*, errW_none, errW_some] <;> rfl), by first | exact Kd.R_nil _ _ _ _ _ | exact Kd.N_nil _ _ _ _ _ | exact Kd.V_nil _ _ _ _ _ | exact Kd.Q_nil _ _ _ _ _ | exact Kd.S_nil _ _ _ _ _, by repeat (first | (with_reducible first | exact HB.out | apply below_alloc | apply pw_below_drewN | apply below_drew1 | refine below_set ?_ GE164.out) | exact HB.out)⟩

end Go.Proofs.YtjjnokodkeekhaaDoor.P

namespace Go.Proofs.YtjjnokodkeekhaaDoor.X
open Go.RowKit Go.Proofs.YtjjnokodkeekhaaDoorW.PrintWords Go.Proofs.YtjjnokodkeekhaaDoorW.PrintMore
open Go.Proofs.YtjjnokodkeekhaaDoor.P Go.Proofs.YtjjnokodkeekhaaDoor.Evx
set_option linter.unusedVariables false
set_option linter.unusedSimpArgs false
theorem eta_f (s : S24) : (⟨s.f0, s.f1, s.f2⟩ : S24) = s := by cases s; rfl
theorem may_some (s : S24) : formula_May.f s.f0 s.f1 s.f2 = some (mayF s) := by cases s; rfl
theorem copied_l (kids : List S24) (op m : Int) (hl : kids.length ≤ 60) (ih : ∀ k ∈ kids, Ev (fun n => formula_copied.f n k.f0 k.f1 k.f2) (k.f0, k.f1, k.f2)) :
    ∀ (d j : Nat) (acc : List S24), j + d = kids.length → acc = kids.take j → Ev (fun n => formula_copied.l0 n kids (kids.length : Int) j op m acc) (op, m, kids)
  | 0, j, acc, hj, ha => by
    refine ev_step (fun k => rfl) (ev_neg (by omega) ?_)
    refine ev_eq (ev_some _) ?_
    rw [ha, List.take_of_length_le (by omega)]
  | d + 1, j, acc, hj, ha => by
    have hlt : j < kids.length := by omega
    refine ev_step (fun k => rfl) (ev_pos (by omega) (ev_pos (by omega) (ev_pos (by omega) ?_)))
    rw [rdT_nat kids j hlt]
    refine ev_bind (ih _ (List.getElem_mem hlt)) ?_
    refine ev_pos (by rw [ha, List.length_take]; omega) ?_
    rw [w64 (by omega) (by omega)]
    have := copied_l kids op m hl ih d (j + 1) (acc ++ [⟨(kids[j]'hlt).f0, (kids[j]'hlt).f1, (kids[j]'hlt).f2⟩]) (by omega) (by rw [ha, List.take_succ_eq_append_getElem hlt, eta_f])
    exact_mod_cast this
mutual
theorem copied_ev : ∀ s : S24, soundS s = true → Ev (fun n => formula_copied.f n s.f0 s.f1 s.f2) (s.f0, s.f1, s.f2)
  | ⟨op, m, kids⟩, h => by
    refine ev_step (fun k => rfl) ?_
    exact copied_l kids op m (by have := sound_len h; simp only at this; omega) (copied_evL kids (sound_kids_all h)) kids.length 0 [] (by omega) rfl
theorem copied_evL : ∀ l : List S24, soundL l = true → ∀ k ∈ l, Ev (fun n => formula_copied.f n k.f0 k.f1 k.f2) (k.f0, k.f1, k.f2)
  | [], _, k, hk => by cases hk
  | a :: r, h, k, hk => by
    simp only [soundL, Bool.and_eq_true] at h
    rcases List.mem_cons.1 hk with e | e
    · rw [e]; exact copied_ev a h.1
    · exact copied_evL r h.2 k e
end
theorem times_l (kids : List S24) (T : List S24) (hT : T.length ≤ 1000) (hb : kids.length ≤ 60) (ih : ∀ k ∈ kids, Ev (fun n => formula_times.f n k.f0 k.f1 k.f2) (timesS k)) :
    ∀ (d j : Nat) (acc : List S24), j + d = kids.length → acc ++ timesL (kids.drop j) = T → Ev (fun n => formula_times.l0 n acc kids (kids.length : Int) j) T
  | 0, j, acc, hj, ha => by
    refine ev_step (fun k => rfl) (ev_neg (by omega) ?_)
    refine ev_eq (ev_some _) ?_
    rw [← ha, List.drop_eq_nil_of_le (by omega), timesL, List.append_nil]
  | d + 1, j, acc, hj, ha => by
    have hlt : j < kids.length := by omega
    have hd := List.drop_eq_getElem_cons hlt
    rw [hd, timesL, ← List.append_assoc] at ha
    refine ev_step (fun k => rfl) (ev_pos (by omega) (ev_pos (by omega) (ev_pos (by omega) ?_)))
    rw [rdT_nat kids j hlt]
    refine ev_bind (ih _ (List.getElem_mem hlt)) ?_
    refine ev_pos (by rw [← ha] at hT; simp only [List.length_append] at hT; omega) ?_
    rw [w64 (by omega) (by omega)]
    have := times_l kids T hT hb ih d (j + 1) (acc ++ timesS (kids[j]'hlt)) (by omega) ha
    exact_mod_cast this
mutual
theorem times_ev : ∀ s : S24, soundS s = true → tnS s ≤ 1000 → Ev (fun n => formula_times.f n s.f0 s.f1 s.f2) (timesS s)
  | ⟨op, m, kids⟩, h, ht => by
    have hk : kids.length ≤ 60 := by have := sound_len h; simp only at this; omega
    have hL : (timesS (⟨op, m, kids⟩ : S24)).length ≤ 1000 := by rw [len_times]; exact ht
    have h0 : ∀ (acc : List S24) (x y : Int), acc = (if timedS op = true then [(⟨op, m, kids⟩ : S24)] else []) → Ev (fun n => formula_times.j0 n acc x y kids) (timesS (⟨op, m, kids⟩ : S24)) := by
      intro acc x y ha
      refine ev_step (fun k => rfl) ?_
      exact times_l kids _ hL hk (times_evL kids (sound_kids_all h) (by simp only [tnS] at ht; omega)) kids.length 0 acc (by omega) (by rw [ha, timesS]; rfl)
    refine ev_step (fun k => rfl) ?_
    refine ev_bindv (timed_some op) (ev_bool (fun c => ?_) (fun c => ?_))
    · refine ev_bind (copied_ev _ h) (ev_pos (by simp) ?_)
      exact h0 _ _ _ (by rw [if_pos c]; rfl)
    · exact h0 _ _ _ (by rw [if_neg (by rw [c]; simp)])
theorem times_evL : ∀ l : List S24, soundL l = true → tnL l ≤ 1000 → ∀ k ∈ l, Ev (fun n => formula_times.f n k.f0 k.f1 k.f2) (timesS k)
  | [], _, _, k, hk => by cases hk
  | a :: r, h, ht, k, hk => by
    simp only [soundL, Bool.and_eq_true] at h
    simp only [tnL] at ht
    rcases List.mem_cons.1 hk with e | e
    · rw [e]; exact times_ev a h.1 (by omega)
    · exact times_evL r h.2 (by omega) k e
end
def TimesS (s : S24) : List S24 := if mayF s = 0 then timesS s else []
theorem Times_ev (s : S24) : Ev (fun n => formula_Times.f n s.f0 s.f1 s.f2) (TimesS s) := by
  unfold formula_Times.f
  refine ev_bindv (may_some s) (ev_ite (fun c => ?_) (fun c => ?_))
  · have hz := may_zero c
    refine ev_bind (times_ev s hz.2.2.2 (by omega)) (ev_eq (ev_some _) ?_)
    unfold TimesS
    rw [if_pos c]
  · exact ev_eq (ev_some _) (by unfold TimesS; rw [if_neg c])
end Go.Proofs.YtjjnokodkeekhaaDoor.X

namespace Go.Proofs.YtjjnokodkeekhaaDoor.X
open Go.RowKit Go.Proofs.YtjjnokodkeekhaaDoorW.PrintWords Go.Proofs.YtjjnokodkeekhaaDoorW.PrintLast Go.Proofs.YtjjnokodkeekhaaDoorW.PrintMore
open Go.Proofs.YtjjnokodkeekhaaDoor.P
set_option linter.unusedSimpArgs false
set_option linter.unusedVariables false
theorem infoU32 : (Tryd.prog.info? 49).map (fun i => (i.zero, i.size, i.bytes)) = some (some (.int .u32 0), 1, 4) := by kernel_rfl
set_option maxHeartbeats 1600000 in
theorem Grow_nil (m : Int) (w : World) (h0 : 0 < m) (h1 : m < 1000000000) :
    Calls Tryd.prog 52 #[.slice none 0 0, .int .i64 m] w fun e w' => ∃ v, e = .returned v ∧ Kd.R (Kd.int .u32) 49 w' w.heap.size (fun _ => True) v [] ∧ Below w.heap.size w w' := by
  have hus := Tryd.underlying25
  have hui := Tryd.underlying3
  have hnn : ¬ m < 0 := by omega
  go_enter Tryd.func52, Tryd.ntmps52
  go_wp2_with ((with_reducible refine gate_builtin (b := .append) (xs := #[.tmp 20, .tmp 21]) rfl ?_); at_builtin; refine Kd.R_append_zeros (Kd.int .u32) (w0 := w) w.heap.size rfl (.tmp 20) (.tmp 21) 25 3 49 (.int .u32 0) 4 rfl hus hui infoU32 rfl (by decide) (by decide) (.slice none 0 0) [] 0 (kx := .i64) m (fun _ => True) rfl rfl rfl (fun _ _ => trivial) (Kd.R_nil _ _ _ _ _) (by omega) (Below.refl _ _) (Nat.le_refl _) (by simp; omega) ?_; intro v1 w1 hR hB hg hat; obtain ⟨A1, c1, hv1⟩ := Kd.R_slice hR; subst hv1; have HR := Aside0.mk hR; have HB := Aside0.mk hB; clear hR hB hg hat)
  go_ret
  exact ⟨_, rfl, by have := Kd.R_take (m := 0) HR.out (by simp); simpa using this, HB.out⟩
set_option maxHeartbeats 4000000 in
set_option maxRecDepth 100000 in
theorem Concat_calls (gb : Nat) (A1 A2 : Option Addr) (c1 c2 : Nat) (l1 l2 : List Int) (w : World) (hb : w.heap[gb]? = some (.cells #[.slice A1 l1.length c1, .slice A2 l2.length c2] 25 (0, 0))) (hr1 : Kd.C (Kd.int .u32) w A1 l1.length l1) (hr2 : Kd.C (Kd.int .u32) w A2 l2.length l2) (h0 : 0 < l1.length + l2.length) (h1 : l1.length + l2.length < 1000000000) :
    Calls Tryd.prog 35 #[.slice (some ⟨gb, 0, none⟩) 2 2] w fun e w' => ∃ v, e = .returned v ∧ Kd.R (Kd.int .u32) 49 w' w.heap.size (fun _ => True) v (l1 ++ l2) ∧ Below w.heap.size w w' := by
  have hus := Tryd.underlying25
  have huss := Tryd.underlying66
  have hui := Tryd.underlying3
  have hgb : gb < w.heap.size := blk_lt hb
  have x0 : w.cell? ⟨gb, 0, none⟩ = some (.slice A1 l1.length c1) := (blk_cell hb 0).trans rfl
  have x1 : w.cell? ⟨gb, 1, none⟩ = some (.slice A2 l2.length c2) := (blk_cell hb 1).trans rfl
  have R1 := Aside0.mk hr1
  have R2 := Aside0.mk hr2
  have X0 := Aside0.mk x0
  have X1 := Aside0.mk x1
  clear hb hr1 hr2 x0 x1
  go_enter Tryd.func35, Tryd.ntmps35
  go_wp2
  go_loopg [3, 11] 2 (fun kq v3 v11 w' => (kq = 2 ∧ v3 = .int .i64 0 ∧ v11 = .int .i64 0 ∧ w' = w) ∨ (kq = 1 ∧ v3 = .int .i64 (l1.length : Int) ∧ v11 = .int .i64 1 ∧ w' = w) ∨ (kq = 0 ∧ v3 = .int .i64 ((l1.length : Int) + (l2.length : Int)) ∧ v11 = .int .i64 2 ∧ w' = w))
  case atStart => exact .inl ⟨rfl, rfl, rfl, rfl⟩
  case round =>
    rcases hrel with ⟨rfl, rfl, rfl, rfl⟩ | ⟨rfl, rfl, rfl, rfl⟩ | ⟨rfl, rfl, rfl, rfl⟩
    · have y0 := X0.out
      have hn : ¬ ((l1.length : Int) < 0) := by omega
      go_wp2
      go_roundg 1
      case measure => omega
      case rel => exact .inr (.inl ⟨rfl, by first | rfl | (simp; done), rfl, rfl⟩)
    · have y1 := X1.out
      have hn : ¬ ((l1.length : Int) + (l2.length : Int) < 0) := by omega
      go_wp2
      go_roundg 0
      case measure => omega
      case rel => exact .inr (.inr ⟨rfl, by first | rfl | (simp; done), rfl, rfl⟩)
    · obtain ⟨WW, rfl⟩ : ∃ W : World, W = wr := ⟨_, rfl⟩
      go_wp2_with (go_at_call 52; refine (Grow_nil _ _ (by omega) (by omega)).mono ?_; rintro e w1 ⟨v, rfl, hR, hB⟩; have HR := Aside0.mk hR; have HB := Aside0.mk hB; clear hR hB)
      go_loopg [6, 27] 2 (fun kq v6 v27 w' => Aside0 (Below WW.heap.size WW w') ∧ ((kq = 2 ∧ v27 = .int .i64 0 ∧ Aside0 (Kd.R (Kd.int .u32) 49 w' WW.heap.size (fun _ => True) v6 [])) ∨ (kq = 1 ∧ v27 = .int .i64 1 ∧ Aside0 (Kd.R (Kd.int .u32) 49 w' WW.heap.size (fun _ => True) v6 l1)) ∨ (kq = 0 ∧ v27 = .int .i64 2 ∧ Aside0 (Kd.R (Kd.int .u32) 49 w' WW.heap.size (fun _ => True) v6 (l1 ++ l2)))))
      case atStart => exact ⟨HB, .inl ⟨rfl, rfl, HR⟩⟩
      case round =>
        obtain ⟨HBV, hrel⟩ := hrel
        rcases hrel with ⟨rfl, rfl, HV⟩ | ⟨rfl, rfl, HV⟩ | ⟨rfl, rfl, HV⟩
        · have y0 := (HBV.out.cell (World.block_lt_of_cell? _ _ X0.out)).trans X0.out
          go_wp2_with (first | ((with_reducible refine gate_builtin (b := .append) (xs := #[.tmp 31, .tmp 32]) rfl ?_); at_builtin; refine Kd.R_append_row (Value.int .u32) (0 : Int) (h1 := fun _ => rfl) (w0 := WW) WW.heap.size rfl (.tmp 31) (.tmp 32) 25 49 (.int .u32 0) 4 rfl hus infoU32 rfl (by decide) u6 [] l1 A1 l1.length c1 (fun _ => True) rfl rfl (fun _ _ => trivial) HV.out (Kd.C_below R1.out HBV.out) HBV.out HBV.out.size (by first | omega | (simp; omega)) ?_; intro v1 w2 hR hB hg hat; have HV2 := Aside0.mk hR; have HBV2 := Aside0.mk hB; clear hR hB hg hat))
          go_roundg 1
          case measure => omega
          case rel => exact ⟨HBV2, .inr (.inl ⟨rfl, rfl, HV2⟩)⟩
        · have y1 := (HBV.out.cell (World.block_lt_of_cell? _ _ X1.out)).trans X1.out
          go_wp2_with (first | ((with_reducible refine gate_builtin (b := .append) (xs := #[.tmp 31, .tmp 32]) rfl ?_); at_builtin; refine Kd.R_append_row (Value.int .u32) (0 : Int) (h1 := fun _ => rfl) (w0 := WW) WW.heap.size rfl (.tmp 31) (.tmp 32) 25 49 (.int .u32 0) 4 rfl hus infoU32 rfl (by decide) u6 l1 l2 A2 l2.length c2 (fun _ => True) rfl rfl (fun _ _ => trivial) HV.out (Kd.C_below R2.out HBV.out) HBV.out HBV.out.size (by first | omega | (simp; omega)) ?_; intro v1 w2 hR hB hg hat; have HV2 := Aside0.mk hR; have HBV2 := Aside0.mk hB; clear hR hB hg hat))
          go_roundg 0
          case measure => omega
          case rel => exact ⟨HBV2, .inr (.inr ⟨rfl, rfl, HV2⟩)⟩
        · go_wp2
          go_ret
          exact ⟨_, rfl, HV.out, HBV.out⟩
end Go.Proofs.YtjjnokodkeekhaaDoor.X

namespace Go.Proofs.YtjjnokodkeekhaaDoor.X
open Go.RowKit Go.Proofs.YtjjnokodkeekhaaDoorW.PrintWords Go.Proofs.YtjjnokodkeekhaaDoorW.PrintLast Go.Proofs.YtjjnokodkeekhaaDoorW.PrintMore
open Go.Proofs.YtjjnokodkeekhaaDoor.P Go.Proofs.YtjjnokodkeekhaaDoor.Evx
set_option linter.unusedSimpArgs false
set_option linter.unusedVariables false
mutual
theorem row_all (ls : List Int) (b : Nat) : ∀ s : S24, RowAt ls b s
  | ⟨op, m, kids⟩ => row_calls ls b ⟨op, m, kids⟩ (row_kids ls b kids)
theorem row_kids (ls : List Int) (b : Nat) : ∀ (l : List S24) (k : S24), k ∈ l → RowAt ls b k
  | [], k, hk => by simp at hk
  | a :: r, k, hk => by
    rcases List.mem_cons.1 hk with h | h
    · rw [h]
      exact row_all ls b a
    · exact row_kids ls b r k h
end
/-- May a word be? -/
def wordS (st lp : List Int) : Bool := decide (st.length ≤ 3000 ∧ 1 ≤ lp.length ∧ lp.length ≤ 27000)
theorem mayWord_some (st lp : List Int) : formula_MayWord.f st lp = some (wordS st lp) := by
  unfold formula_MayWord.f wordS
  split
  · split
    · congr 1
      rw [decide_eq_decide]
      omega
    · rw [decide_eq_false]
      omega
  · rw [decide_eq_false]
    omega
theorem brow_R {w w' : World} {g n : Nat} {l : List Bool} (h : BRow w' g l) (hl : l.length = n) (hg : w.heap.size ≤ g) (hn : n < 1000000000) : Kd.R Kd.bool 4 w' w.heap.size (fun _ => True) (.slice (some ⟨g, 0, none⟩) n n) l := by
  refine Kd.R_of_own ?_ (fun _ _ => trivial)
  rw [hl]
  refine ⟨by simp [encs, hl], .inr ⟨g, n, (boolsOf l).toArray, rfl, hg, h, Nat.le_refl _, by simp [maxLen]; omega, by simp [boolsOf, hl], ?_⟩⟩
  simp [boolsOf, encs, hl]
  rw [List.take_of_length_le (by simp [hl])]
theorem rower_new (w : World) (A : Option Addr) (n c b : Nat) : IsRower (w.alloc (.cells #[.slice A n c, .int .i64 (b : Int)] 58)) w.heap.size A n c b := heap_alloc_new _ _
def rowF (s : S24) (st lp : List Int) : List Bool := if mayF s = 0 ∧ wordS st lp = true then rowS (st ++ lp) st.length s else []
theorem may_sound {s : S24} (h : mayF s = 0) : soundS s = true := by
  unfold mayF at h
  split at h
  · split at h
    · assumption
    · simp at h
  · simp at h
set_option maxHeartbeats 8000000 in
set_option maxRecDepth 100000 in
theorem Row_calls (s : S24) (st lp : List Int) (A : Option Addr) (cp : Nat) (A1 A2 : Option Addr) (c1 c2 : Nat) (w : World) (hr : Kd.C k24 w A s.f2.length s.f2) (hc : s.f2.length ≤ cp) (hr1 : Kd.C (Kd.int .u32) w A1 st.length st) (hc1 : st.length ≤ c1) (hr2 : Kd.C (Kd.int .u32) w A2 lp.length lp) (hc2 : lp.length ≤ c2) :
    Calls Tryd.prog 15 #[.agg #[.int .i64 s.f0, .int .i64 s.f1, .slice A s.f2.length cp], .agg #[.slice A1 st.length c1, .slice A2 lp.length c2]] w fun e w' => ∃ v0_ : Value, e = .returned v0_ ∧ Kd.R Kd.bool 4 w' w.heap.size (fun _ => True) v0_ (rowF s st lp) ∧ Below w.heap.size w w' := by
  have huF := Tryd.underlying24
  have huL := Tryd.underlying22
  have huW := Tryd.underlying27
  have huR := Tryd.underlying58
  have hus := Tryd.underlying35
  have huu := Tryd.underlying25
  have huuu := Tryd.underlying66
  obtain ⟨W2, hW2⟩ : ∃ W2, W2 = (w.alloc (.cells #[.int .i64 s.f0, .int .i64 s.f1, .slice A s.f2.length cp] 24)).alloc (.cells #[.slice A1 st.length c1, .slice A2 lp.length c2] 27) := ⟨_, rfl⟩
  have hB2 : Below w.heap.size w W2 := by rw [hW2]; exact below_alloc (below_alloc (Below.refl _ _) _) _
  have hb1 : W2.heap[w.heap.size]? = some (.cells #[.int .i64 s.f0, .int .i64 s.f1, .slice A s.f2.length cp] 24 (0, 0)) := by rw [hW2]; exact blk_alloc (heap_alloc_new w _) _
  have hb2 : W2.heap[w.heap.size + 1]? = some (.cells #[.slice A1 st.length c1, .slice A2 lp.length c2] 27 (0, 0)) := by
    rw [hW2]
    have := heap_alloc_new (w.alloc (.cells #[.int .i64 s.f0, .int .i64 s.f1, .slice A s.f2.length cp] 24)) (.cells #[.slice A1 st.length c1, .slice A2 lp.length c2] 27)
    simpa using this
  have HMAY := Aside0.mk (May_calls s A cp W2 (Kd.C_below hr hB2) hc)
  have HW2 := Aside0.mk hW2
  have x0 : W2.cell? ⟨w.heap.size, 0, none⟩ = some (.int .i64 s.f0) := (blk_cell hb1 0).trans rfl
  have x1 : W2.cell? ⟨w.heap.size, 1, none⟩ = some (.int .i64 s.f1) := (blk_cell hb1 1).trans rfl
  have x2 : W2.cell? ⟨w.heap.size, 2, none⟩ = some (.slice A s.f2.length cp) := (blk_cell hb1 2).trans rfl
  have HB2 := Aside0.mk hB2
  have HBX1 := Aside0.mk hb1
  have HBX2 := Aside0.mk hb2
  have HRR := Aside0.mk hr
  have HRF := Aside0.mk (show rowF s st lp = if mayF s = 0 ∧ wordS st lp = true then rowS (st ++ lp) st.length s else [] from rfl)
  have HC1 := Aside0.mk (Kd.C_below hr1 hB2)
  have HC2 := Aside0.mk (Kd.C_below hr2 hB2)
  have HMS := Aside0.mk (@may_sound s)
  clear hb1 hb2 hr hr1 hr2
  generalize mayF s = mv at *
  by_cases hm : mv = 0
  · have em : (mv != 0) = false := by rw [hm]; rfl
    cases hw : wordS st lp with
    | false =>
      have HX := Aside0.mk (show rowF s st lp = [] from by rw [HRF.out, hw, if_neg (by simp)])
      have HWD := Aside0.mk ((mayWord_some st lp).trans (by rw [hw]))
      clear hw
      go_enter Tryd.func15, Tryd.ntmps15
      go_upto_region 1 with fail
      rw [← hW2]
      clear hW2 hB2
      go_wp2_with (first | (go_at_call 13; refine HMAY.out.mono ?_; rintro e w3 ⟨rfl, hB3⟩; have HB3 := Aside0.mk hB3; have HBX3 := Aside0.mk ((hB3.block _ (blk_lt HBX2.out)).trans HBX2.out); have y0 := (blk_cell HBX3.out 0).trans rfl; have y1 := (blk_cell HBX3.out 1).trans rfl; clear hB3) | (go_at_call 14; refine (formula_MayWord.calls A1 c1 st A2 c2 lp false _ (Kd.C_below HC1.out HB3.out) hc1 (Kd.C_below HC2.out HB3.out) hc2 HWD.out).mono ?_; rintro e w4 ⟨rfl, hB4⟩; have HB4 := Aside0.mk hB4; clear hB4))
      go_ret
      exact ⟨_, rfl, by rw [HX.out]; exact Kd.R_nil _ _ _ _ _, (HB2.out.trans (HB3.out.mono HB2.out.size)).trans (HB4.out.mono (Nat.le_trans HB2.out.size HB3.out.size))⟩
    | true =>
      have hwp : st.length ≤ 3000 ∧ 1 ≤ lp.length ∧ lp.length ≤ 27000 := of_decide_eq_true hw
      have HX := Aside0.mk (show rowF s st lp = rowS (st ++ lp) st.length s from by rw [HRF.out, hw, if_pos ⟨hm, rfl⟩])
      have HWD := Aside0.mk ((mayWord_some st lp).trans (by rw [hw]))
      have HSO := Aside0.mk (HMS.out hm)
      clear hw
      go_enter Tryd.func15, Tryd.ntmps15
      go_upto_region 1 with fail
      rw [← hW2]
      clear hW2 hB2
      go_upto_region 3 with (first | (go_at_call 13; refine HMAY.out.mono ?_; rintro e w3 ⟨rfl, hB3⟩; have HB3 := Aside0.mk hB3; have HBX3 := Aside0.mk ((hB3.block _ (blk_lt HBX2.out)).trans HBX2.out); have HBY3 := Aside0.mk ((hB3.block _ (blk_lt HBX1.out)).trans HBX1.out); have y0 := (blk_cell HBX3.out 0).trans rfl; have y1 := (blk_cell HBX3.out 1).trans rfl; clear hB3) | (go_at_call 14; refine (formula_MayWord.calls A1 c1 st A2 c2 lp true _ (Kd.C_below HC1.out HB3.out) hc1 (Kd.C_below HC2.out HB3.out) hc2 HWD.out).mono ?_; rintro e w4 ⟨rfl, hB4⟩; have HB4 := Aside0.mk hB4; have HBX4 := Aside0.mk ((hB4.block _ (blk_lt HBX3.out)).trans HBX3.out); have HBY4 := Aside0.mk ((hB4.block _ (blk_lt HBY3.out)).trans HBY3.out); have z0 := (blk_cell HBX4.out 0).trans rfl; have z1 := (blk_cell HBX4.out 1).trans rfl; clear hB4))
      have HCA := Aside0.mk (Kd.C_below HC1.out (HB3.out.trans (HB4.out.mono HB3.out.size)))
      have HCB := Aside0.mk (Kd.C_below HC2.out (HB3.out.trans (HB4.out.mono HB3.out.size)))
      have HCAT := Aside0.mk (Concat_calls w4.heap.size A1 A2 c1 c2 st lp (w4.drew.alloc (.cells #[.slice A1 st.length c1, .slice A2 lp.length c2] 25)) (heap_alloc_new w4.drew _) (Kd.C_alloc (Kd.C_drew HCA.out) _) (Kd.C_alloc (Kd.C_drew HCB.out) _) (by omega) (by omega))
      have hb4 : Below w4.heap.size w4 (w4.drew.alloc (.cells #[.slice A1 st.length c1, .slice A2 lp.length c2] 25)) := below_alloc (below_drew1 (Below.refl _ _)) _
      have HB44 := Aside0.mk hb4
      have z0a : w4.cell? ⟨w.heap.size + 1, 0, none⟩ = some (.slice A1 st.length c1) := (blk_cell HBX4.out 0).trans rfl
      have z1a : w4.cell? ⟨w.heap.size + 1, 1, none⟩ = some (.slice A2 lp.length c2) := (blk_cell HBX4.out 1).trans rfl
      have z0b : (w4.drew.alloc (.cells #[.slice A1 st.length c1, .slice A2 lp.length c2] 25)).cell? ⟨w.heap.size + 1, 0, none⟩ = some (.slice A1 st.length c1) := (HB44.out.cell (World.block_lt_of_cell? _ _ z0a)).trans z0a
      have z0c : (w4.alloc (.cells #[.slice A1 st.length c1, .slice A2 lp.length c2] 25)).cell? ⟨w.heap.size + 1, 0, none⟩ = some (.slice A1 st.length c1) := ((below_alloc (Below.refl _ _) _ : Below w4.heap.size w4 _).cell (World.block_lt_of_cell? _ _ z0a)).trans z0a
      clear hb4
      go_cut [5] from 14 to 24 (fun v5 wx => ∃ rb A5 c5, v5 = .pointer (some ⟨rb, 0, none⟩) ∧ Aside0 (IsRower wx rb A5 (st.length + lp.length) c5 st.length) ∧ Aside0 (Kd.C (Kd.int .u32) wx A5 (st.length + lp.length) (st ++ lp)) ∧ Aside0 (Below w4.heap.size w4 wx))
      case first =>
        go_region_with (go_at_call 35; refine HCAT.out.mono ?_; rintro e w5 ⟨v5, rfl, hR5, hB5⟩; obtain ⟨A5, c5, e5⟩ := Kd.R_slice hR5; subst e5; have HR5 := Aside0.mk hR5; have HB5 := Aside0.mk (HB44.out.trans (hB5.mono HB44.out.size)); have HBX5 := Aside0.mk ((HB5.out.block _ (blk_lt HBX4.out)).trans HBX4.out); have q0 : w5.cell? ⟨w.heap.size + 1, 0, none⟩ = some (.slice A1 st.length c1) := (blk_cell HBX5.out 0).trans rfl; clear hR5 hB5)
        all_goals (
          go_wp2_with fail
          go_meet
          exact ⟨_, A5, c5, rfl, ⟨rower_new w5 A5 (st.length + lp.length) c5 st.length⟩, ⟨Kd.C_alloc (by have := (Kd.R_reads' HR5.out).2.2; rwa [List.length_append] at this) _⟩, ⟨HB5.out.trans (below_alloc (Below.refl _ _) _ |>.mono HB5.out.size)⟩⟩)
      case rest =>
        obtain ⟨rb, A5, c5, rfl, HIR, HCC, HB5⟩ := hcut
        have HB5w : Below w.heap.size w wc := HB2.out.trans ((HB3.out.trans ((HB4.out.trans (HB5.out.mono HB4.out.size)).mono HB3.out.size)).mono HB2.out.size)
        have HBY5 := Aside0.mk ((HB5.out.block _ (blk_lt HBY4.out)).trans HBY4.out)
        have t0 : wc.cell? ⟨w.heap.size, 0, none⟩ = some (.int .i64 s.f0) := (blk_cell HBY5.out 0).trans rfl
        have t1 : wc.cell? ⟨w.heap.size, 1, none⟩ = some (.int .i64 s.f1) := (blk_cell HBY5.out 1).trans rfl
        have t2 : wc.cell? ⟨w.heap.size, 2, none⟩ = some (.slice A s.f2.length cp) := (blk_cell HBY5.out 2).trans rfl
        have HROW := Aside0.mk (row_all (st ++ lp) st.length s rb A5 c5 (st.length + lp.length) A cp wc (by simp) HIR.out HCC.out (by omega) (by omega) (by omega) (Kd.C_below HRR.out HB5w) hc HSO.out)
        have HBW := Aside0.mk HB5w
        clear HB5w
        go_wp2_with (go_at_call 36; refine HROW.out.mono ?_; rintro e w6 ⟨g, rfl, hg, hG, hB6⟩; have HG6 := Aside0.mk hG; have HGS := Aside0.mk hg; have HB6 := Aside0.mk hB6; clear hG hg hB6)
        go_ret
        exact ⟨_, rfl, by rw [HX.out]; exact brow_R HG6.out ((len_row _ _ _).trans (by first | rfl | simp)) (Nat.le_trans HBW.out.size HGS.out) (by first | omega | (simp; omega)), HBW.out.trans (HB6.out.mono HBW.out.size)⟩
  · have em : (mv != 0) = true := by simpa using hm
    have HX := Aside0.mk (show rowF s st lp = [] from by rw [HRF.out, if_neg (fun h => hm h.1)])
    go_enter Tryd.func15, Tryd.ntmps15
    go_upto_region 1 with fail
    rw [← hW2]
    clear hW2 hB2
    go_wp2_with (go_at_call 13; refine HMAY.out.mono ?_; rintro e w3 ⟨rfl, hB3⟩; have HB3 := Aside0.mk hB3; clear hB3)
    go_ret
    exact ⟨_, rfl, by rw [HX.out]; exact Kd.R_nil _ _ _ _ _, HB2.out.trans (HB3.out.mono HB2.out.size)⟩
def formula_Row.f (a0_0 : Int) (a0_1 : Int) (l0_2 : List S24) (l1_0 : List Int) (l1_1 : List Int) : Option (List Bool) := some (rowF ⟨a0_0, a0_1, l0_2⟩ l1_0 l1_1)
theorem formula_Row.calls (a0_0 : Int) (a0_1 : Int) (A0_2 : Option Addr) (c0_2 : Nat) (l0_2 : List S24) (A1_0 : Option Addr) (c1_0 : Nat) (l1_0 : List Int) (A1_1 : Option Addr) (c1_1 : Nat) (l1_1 : List Int) (r : List Bool) (w : World) (hr0_2 : Kd.C k24 w A0_2 l0_2.length l0_2) (hc0_2 : l0_2.length ≤ c0_2) (hr1_0 : Kd.C (Kd.int .u32) w A1_0 l1_0.length l1_0) (hc1_0 : l1_0.length ≤ c1_0) (hr1_1 : Kd.C (Kd.int .u32) w A1_1 l1_1.length l1_1) (hc1_1 : l1_1.length ≤ c1_1) (h : formula_Row.f a0_0 a0_1 l0_2 l1_0 l1_1 = some r) :
    Calls Tryd.prog 15 #[.agg #[.int .i64 a0_0, .int .i64 a0_1, .slice A0_2 l0_2.length c0_2], .agg #[.slice A1_0 l1_0.length c1_0, .slice A1_1 l1_1.length c1_1]] w fun e w' => ∃ v0_ : Value, e = .returned v0_ ∧ Kd.R Kd.bool 4 w' w.heap.size (fun _ => True) v0_ r ∧ Below w.heap.size w w' := by
  obtain rfl := Option.some.inj h
  exact Row_calls ⟨a0_0, a0_1, l0_2⟩ l1_0 l1_1 A0_2 c0_2 A1_0 A1_1 c1_0 c1_1 w hr0_2 hc0_2 hr1_0 hc1_0 hr1_1 hc1_1
end Go.Proofs.YtjjnokodkeekhaaDoor.X

namespace Go.Proofs.YtjjnokodkeekhaaDoor.P
open Go.RowKit Go.Proofs.YtjjnokodkeekhaaDoorW.PrintWords Go.Proofs.YtjjnokodkeekhaaDoorW.PrintLast Go.Proofs.YtjjnokodkeekhaaDoorW.PrintMore
attribute [local go_sem] max2_int min2_int max_two min_two max_three min_three max_four min_four   -- for this text's walks alone
set_option linter.unusedVariables false
set_option linter.unusedSimpArgs false

open Go.Proofs.YtjjnokodkeekhaaDoor.X
def formula_Holds.f (a0_0 : Int) (a0_1 : Int) (l0_2 : List (S24)) (l1_0 : List Int) (l1_1 : List Int) : Option (Bool) := (formula_Row.f a0_0 a0_1 l0_2 l1_0 l1_1).bind fun t129 => (if (t129.length : Int) > 0 then (if 0 < (t129.length : Int) then (some (rdOf false t129 0)) else (none)) else (some false))
set_option maxHeartbeats 8000000 in
set_option maxRecDepth 100000 in
theorem formula_Holds.calls (a0_0 : Int) (a0_1 : Int) (A0_2 : Option Addr) (c0_2 : Nat) (l0_2 : List (S24)) (A1_0 : Option Addr) (c1_0 : Nat) (l1_0 : List Int) (A1_1 : Option Addr) (c1_1 : Nat) (l1_1 : List Int) (r : Bool) (w : World) (hr0_2 : Kd.C k24 w A0_2 l0_2.length l0_2) (hc0_2 : l0_2.length ≤ c0_2) (hr1_0 : Kd.C (Kd.int .u32) w A1_0 l1_0.length l1_0) (hc1_0 : l1_0.length ≤ c1_0) (hr1_1 : Kd.C (Kd.int .u32) w A1_1 l1_1.length l1_1) (hc1_1 : l1_1.length ≤ c1_1) (h : formula_Holds.f a0_0 a0_1 l0_2 l1_0 l1_1 = some r) :
    Calls Tryd.prog 17 #[.agg #[.int .i64 a0_0, .int .i64 a0_1, .slice A0_2 l0_2.length c0_2], .agg #[.slice A1_0 l1_0.length c1_0, .slice A1_1 l1_1.length c1_1]] w fun e w' => e = .returned (.bool r) ∧ Below w.heap.size w w' := by
  have hu24 := Tryd.underlying24
  have hu27 := Tryd.underlying27
  have HR0_2 := Aside0.mk hr0_2
  have HC0_2 := Aside0.mk hc0_2
  clear hr0_2 hc0_2
  have HR1_0 := Aside0.mk hr1_0
  have HC1_0 := Aside0.mk hc1_0
  clear hr1_0 hc1_0
  have HR1_1 := Aside0.mk hr1_1
  have HC1_1 := Aside0.mk hc1_1
  clear hr1_1 hc1_1
  have HB := Aside0.mk (Below.refl w.heap.size w)
  have H : ((formula_Row.f a0_0 a0_1 l0_2 l1_0 l1_1).bind fun t129 => (if (t129.length : Int) > 0 then (if 0 < (t129.length : Int) then (some (rdOf false t129 0)) else (none)) else (some false))) = some r := h
  clear h
  replace H := Option.bind_eq_some_iff.mp H
  obtain ⟨t129, A30, H⟩ := H
  replace H : (if (t129.length : Int) > 0 then (if 0 < (t129.length : Int) then (some (rdOf false t129 0)) else (none)) else (some false)) = some r := H
  have A3 := Aside0.mk A30
  clear A30
  by_cases c4 : (t129.length : Int) > 0
  · rw [if_pos c4] at H
    have c4b0 : decide (0 < (t129.length : Int)) = true := decide_eq_true c4
    have c4b1 : decide (0 < t129.length) = true := decide_eq_true (by omega)
    clear c4
    by_cases c5 : 0 < (t129.length : Int)
    · rw [if_pos c5] at H
      have c5b0 : decide (0 < (t129.length : Int)) = true := decide_eq_true c5
      have c5b1 : decide (0 < t129.length) = true := decide_eq_true (by omega)
      clear c5
      obtain rfl := Option.some.inj H
      go_enter Tryd.func17, Tryd.ntmps17
      go_wp2_with (first | ((with_reducible refine gate_dst (N := 2) rfl ?_); refine box_event ?hg (N := 2) ?hd (cs := #[.int .i64 a0_0, .int .i64 a0_1, .slice A0_2 l0_2.length c0_2]) (t := 24) ?hr ?_; (case hd => rfl); (case hg => rfl); (case hr => first | (go_simp; done) | (go_simp; rfl)); intro gb127 hg w6 hbox hb; have n0_ := Aside0.mk (below_step (by repeat (first | (with_reducible first | exact HB.out | apply below_alloc | apply pw_below_drewN | apply below_drew1) | exact HB.out)) hb); have n1_ := Aside0.mk (hbox); have n2_ := Aside0.mk ((by rw [hg]; exact (below_size (by repeat (first | (with_reducible first | exact HB.out | apply below_alloc | apply pw_below_drewN | apply below_drew1) | exact HB.out))) : w.heap.size ≤ gb127)); have n3_ := Aside0.mk ((by rw [hg]; exact (below_size (by repeat (first | (with_reducible first | exact HB.out | apply below_alloc | apply pw_below_drewN | apply below_drew1) | exact HB.out))) : w.heap.size ≤ gb127)); clear HB; have HB := n0_; have BK127 := n1_; have GW127 := n2_; have GE127 := n3_; clear n0_ n1_ n2_ n3_; clear hb hbox hg) | ((with_reducible refine gate_dst (N := 3) rfl ?_); refine box_event ?hg (N := 3) ?hd (cs := #[.slice A1_0 l1_0.length c1_0, .slice A1_1 l1_1.length c1_1]) (t := 27) ?hr ?_; (case hd => rfl); (case hg => rfl); (case hr => first | (go_simp; done) | (go_simp; rfl)); intro gb128 hg w7 hbox hb; have n0_ := Aside0.mk (blk_below (g := gb127) (o := .cells #[.int .i64 a0_0, .int .i64 a0_1, .slice A0_2 l0_2.length c0_2] 24 (0, 0)) (by (with_reducible repeat (first | refine blk_drewN ?_ _ | refine blk_drew ?_ | refine blk_alloc ?_ _)); exact BK127.out) hb); have n1_ := Aside0.mk (below_step (by repeat (first | (with_reducible first | exact HB.out | apply below_alloc | apply pw_below_drewN | apply below_drew1 | refine below_set ?_ GE127.out) | exact HB.out)) hb); have n2_ := Aside0.mk (hbox); have n3_ := Aside0.mk ((by rw [hg]; exact (below_size (by repeat (first | (with_reducible first | exact HB.out | apply below_alloc | apply pw_below_drewN | apply below_drew1 | refine below_set ?_ GE127.out) | exact HB.out))) : w.heap.size ≤ gb128)); have n4_ := Aside0.mk ((by rw [hg]; exact (below_size (by repeat (first | (with_reducible first | exact HB.out | apply below_alloc | apply pw_below_drewN | apply below_drew1 | refine below_set ?_ GE127.out) | exact HB.out))) : w.heap.size ≤ gb128)); have n5_ := Aside0.mk ((by rw [hg]; exact Nat.ne_of_lt (blk_lt (g := gb127) (o := .cells #[.int .i64 a0_0, .int .i64 a0_1, .slice A0_2 l0_2.length c0_2] 24 (0, 0)) (by (with_reducible repeat (first | refine blk_drewN ?_ _ | refine blk_drew ?_ | refine blk_alloc ?_ _)); exact BK127.out)) : gb127 ≠ gb128)); have n6_ := Aside0.mk ((by rw [hg]; exact Nat.ne_of_gt (blk_lt (g := gb127) (o := .cells #[.int .i64 a0_0, .int .i64 a0_1, .slice A0_2 l0_2.length c0_2] 24 (0, 0)) (by (with_reducible repeat (first | refine blk_drewN ?_ _ | refine blk_drew ?_ | refine blk_alloc ?_ _)); exact BK127.out)) : gb128 ≠ gb127)); clear BK127; clear HB; have BK127 := n0_; have HB := n1_; have BK128 := n2_; have GW128 := n3_; have GE128 := n4_; have NB127_128 := n5_; have NB128_127 := n6_; clear n0_ n1_ n2_ n3_ n4_ n5_ n6_; clear hb hbox hg; have hnb8 := NB127_128.out; have hnc8 := NB128_127.out; have hcz9_0 : w7.cell? ⟨gb127, 0, none⟩ = some (.int .i64 a0_0) := (blk_cell BK127.out 0).trans rfl; have hcz9_1 : w7.cell? ⟨gb127, 1, none⟩ = some (.int .i64 a0_1) := (blk_cell BK127.out 1).trans rfl; have hcz9_2 : w7.cell? ⟨gb127, 2, none⟩ = some (.slice A0_2 l0_2.length c0_2) := (blk_cell BK127.out 2).trans rfl; have hfz9_0 := blk_frozen BK127.out 0; have hfz9_1 := blk_frozen BK127.out 1; have hfz9_2 := blk_frozen BK127.out 2; have hcz10_0 : w7.cell? ⟨gb128, 0, none⟩ = some (.slice A1_0 l1_0.length c1_0) := (blk_cell BK128.out 0).trans rfl; have hcz10_1 : w7.cell? ⟨gb128, 1, none⟩ = some (.slice A1_1 l1_1.length c1_1) := (blk_cell BK128.out 1).trans rfl; have hfz10_0 := blk_frozen BK128.out 0; have hfz10_1 := blk_frozen BK128.out 1) | ((with_reducible refine gate_callee (f := 15) rfl ?_); refine goesL_ (some 8) rfl rfl Tryd.func15 (by kernel_rfl) rfl #[.agg #[.int .i64 a0_0, .int .i64 a0_1, .slice A0_2 l0_2.length c0_2], .agg #[.slice A1_0 l1_0.length c1_0, .slice A1_1 l1_1.length c1_1]] rfl (by (try simp only [List.map_toArray, List.map_cons, List.map_nil]); first | done | rfl | (simp only [List.length_drop, List.length_take]; rfl)) ?_; (with_reducible refine (formula_Row.calls a0_0 a0_1 _ _ l0_2 _ _ l1_0 _ _ l1_1 t129 _ ?side1 ?side2 ?side3 ?side4 ?side5 ?side6 A3.out).mono ?_); (case side1 => repeat (first | exact (Kd.C_below HR0_2.out HB.out) | (with_reducible refine Kd.C_alloc ?_ _) | (with_reducible refine Kd.C_drewN ?_ _) | (with_reducible refine Kd.C_drew ?_))); (case side2 => exact HC0_2.out); (case side3 => repeat (first | exact (Kd.C_below HR1_0.out HB.out) | (with_reducible refine Kd.C_alloc ?_ _) | (with_reducible refine Kd.C_drewN ?_ _) | (with_reducible refine Kd.C_drew ?_))); (case side4 => exact HC1_0.out); (case side5 => repeat (first | exact (Kd.C_below HR1_1.out HB.out) | (with_reducible refine Kd.C_alloc ?_ _) | (with_reducible refine Kd.C_drewN ?_ _) | (with_reducible refine Kd.C_drew ?_))); (case side6 => exact HC1_1.out); rintro e w11 ⟨v130, rfl, ho0, hb⟩; refine ⟨_, rfl, ?_⟩; have n0_ := Aside0.mk (Kd.R_lower ho0 (below_size (by repeat (first | (with_reducible first | exact HB.out | apply below_alloc | apply pw_below_drewN | apply below_drew1 | refine below_set ?_ GE127.out | refine below_set ?_ GE128.out) | exact HB.out)))); have n1_ := Aside0.mk (blk_below (g := gb127) (o := .cells #[.int .i64 a0_0, .int .i64 a0_1, .slice A0_2 l0_2.length c0_2] 24 (0, 0)) (by (with_reducible repeat (first | refine blk_drewN ?_ _ | refine blk_drew ?_ | refine blk_alloc ?_ _)); exact BK127.out) hb); have n2_ := Aside0.mk (blk_below (g := gb128) (o := .cells #[.slice A1_0 l1_0.length c1_0, .slice A1_1 l1_1.length c1_1] 27 (0, 0)) (by (with_reducible repeat (first | refine blk_drewN ?_ _ | refine blk_drew ?_ | refine blk_alloc ?_ _)); exact BK128.out) hb); have n3_ := Aside0.mk (below_step (by repeat (first | (with_reducible first | exact HB.out | apply below_alloc | apply pw_below_drewN | apply below_drew1 | refine below_set ?_ GE127.out | refine below_set ?_ GE128.out) | exact HB.out)) hb); clear BK127; clear BK128; clear HB; have HO131 := n0_; have BK127 := n1_; have BK128 := n2_; have HB := n3_; clear n0_ n1_ n2_ n3_; (try clear hb); (try clear hb2); (try clear hk); (try clear hi); (try clear ho0); obtain ⟨Ao12, co12, eo12⟩ := Kd.R_slice HO131.out; subst eo12; have p132 : 0 ≤ (0 : Int) := (by omega); have q132 : 0 < (t129.length : Int) := of_decide_eq_true (by first | (with_reducible assumption) | assumption); obtain ⟨ad132, e132, hx132_0⟩ := Kd.at_bool (Kd.R_reads' HO131.out).2.2 0 p132 q132; cases e132; have qi132 : (0 < t129.length) = True := eq_true (by omega); (try rw [show ((0 : Int)).toNat = 0 from rfl] at hx132_0); (try rw [Addr.add_zero'] at hx132_0); replace p132 := eq_true p132; replace q132 := eq_true q132))
      go_ret
      exact ⟨by first | rfl | (simp [errW_none, errW_some] <;> rfl) | (simp [*, errW_none, errW_some] <;> rfl), by repeat (first | (with_reducible first | exact HB.out | apply below_alloc | apply pw_below_drewN | apply below_drew1 | refine below_set ?_ GE127.out | refine below_set ?_ GE128.out) | exact HB.out)⟩
    · rw [if_neg c5] at H
      exact absurd H (by simp)
  · rw [if_neg c4] at H
    have c4b0 : decide (0 < (t129.length : Int)) = false := decide_eq_false c4
    have c4b1 : decide (0 < t129.length) = false := decide_eq_false (by omega)
    clear c4
    obtain rfl := Option.some.inj H
    go_enter Tryd.func17, Tryd.ntmps17
    go_wp2_with (first | ((with_reducible refine gate_dst (N := 2) rfl ?_); refine box_event ?hg (N := 2) ?hd (cs := #[.int .i64 a0_0, .int .i64 a0_1, .slice A0_2 l0_2.length c0_2]) (t := 24) ?hr ?_; (case hd => rfl); (case hg => rfl); (case hr => first | (go_simp; done) | (go_simp; rfl)); intro gb127 hg w13 hbox hb; have n0_ := Aside0.mk (below_step (by repeat (first | (with_reducible first | exact HB.out | apply below_alloc | apply pw_below_drewN | apply below_drew1) | exact HB.out)) hb); have n1_ := Aside0.mk (hbox); have n2_ := Aside0.mk ((by rw [hg]; exact (below_size (by repeat (first | (with_reducible first | exact HB.out | apply below_alloc | apply pw_below_drewN | apply below_drew1) | exact HB.out))) : w.heap.size ≤ gb127)); have n3_ := Aside0.mk ((by rw [hg]; exact (below_size (by repeat (first | (with_reducible first | exact HB.out | apply below_alloc | apply pw_below_drewN | apply below_drew1) | exact HB.out))) : w.heap.size ≤ gb127)); clear HB; have HB := n0_; have BK127 := n1_; have GW127 := n2_; have GE127 := n3_; clear n0_ n1_ n2_ n3_; clear hb hbox hg) | ((with_reducible refine gate_dst (N := 3) rfl ?_); refine box_event ?hg (N := 3) ?hd (cs := #[.slice A1_0 l1_0.length c1_0, .slice A1_1 l1_1.length c1_1]) (t := 27) ?hr ?_; (case hd => rfl); (case hg => rfl); (case hr => first | (go_simp; done) | (go_simp; rfl)); intro gb128 hg w14 hbox hb; have n0_ := Aside0.mk (blk_below (g := gb127) (o := .cells #[.int .i64 a0_0, .int .i64 a0_1, .slice A0_2 l0_2.length c0_2] 24 (0, 0)) (by (with_reducible repeat (first | refine blk_drewN ?_ _ | refine blk_drew ?_ | refine blk_alloc ?_ _)); exact BK127.out) hb); have n1_ := Aside0.mk (below_step (by repeat (first | (with_reducible first | exact HB.out | apply below_alloc | apply pw_below_drewN | apply below_drew1 | refine below_set ?_ GE127.out) | exact HB.out)) hb); have n2_ := Aside0.mk (hbox); have n3_ := Aside0.mk ((by rw [hg]; exact (below_size (by repeat (first | (with_reducible first | exact HB.out | apply below_alloc | apply pw_below_drewN | apply below_drew1 | refine below_set ?_ GE127.out) | exact HB.out))) : w.heap.size ≤ gb128)); have n4_ := Aside0.mk ((by rw [hg]; exact (below_size (by repeat (first | (with_reducible first | exact HB.out | apply below_alloc | apply pw_below_drewN | apply below_drew1 | refine below_set ?_ GE127.out) | exact HB.out))) : w.heap.size ≤ gb128)); have n5_ := Aside0.mk ((by rw [hg]; exact Nat.ne_of_lt (blk_lt (g := gb127) (o := .cells #[.int .i64 a0_0, .int .i64 a0_1, .slice A0_2 l0_2.length c0_2] 24 (0, 0)) (by (with_reducible repeat (first | refine blk_drewN ?_ _ | refine blk_drew ?_ | refine blk_alloc ?_ _)); exact BK127.out)) : gb127 ≠ gb128)); have n6_ := Aside0.mk ((by rw [hg]; exact Nat.ne_of_gt (blk_lt (g := gb127) (o := .cells #[.int .i64 a0_0, .int .i64 a0_1, .slice A0_2 l0_2.length c0_2] 24 (0, 0)) (by (with_reducible repeat (first | refine blk_drewN ?_ _ | refine blk_drew ?_ | refine blk_alloc ?_ _)); exact BK127.out)) : gb128 ≠ gb127)); clear BK127; clear HB; have BK127 := n0_; have HB := n1_; have BK128 := n2_; have GW128 := n3_; have GE128 := n4_; have NB127_128 := n5_; have NB128_127 := n6_; clear n0_ n1_ n2_ n3_ n4_ n5_ n6_; clear hb hbox hg; have hnb15 := NB127_128.out; have hnc15 := NB128_127.out; have hcz16_0 : w14.cell? ⟨gb127, 0, none⟩ = some (.int .i64 a0_0) := (blk_cell BK127.out 0).trans rfl; have hcz16_1 : w14.cell? ⟨gb127, 1, none⟩ = some (.int .i64 a0_1) := (blk_cell BK127.out 1).trans rfl; have hcz16_2 : w14.cell? ⟨gb127, 2, none⟩ = some (.slice A0_2 l0_2.length c0_2) := (blk_cell BK127.out 2).trans rfl; have hfz16_0 := blk_frozen BK127.out 0; have hfz16_1 := blk_frozen BK127.out 1; have hfz16_2 := blk_frozen BK127.out 2; have hcz17_0 : w14.cell? ⟨gb128, 0, none⟩ = some (.slice A1_0 l1_0.length c1_0) := (blk_cell BK128.out 0).trans rfl; have hcz17_1 : w14.cell? ⟨gb128, 1, none⟩ = some (.slice A1_1 l1_1.length c1_1) := (blk_cell BK128.out 1).trans rfl; have hfz17_0 := blk_frozen BK128.out 0; have hfz17_1 := blk_frozen BK128.out 1) | ((with_reducible refine gate_callee (f := 15) rfl ?_); refine goesL_ (some 8) rfl rfl Tryd.func15 (by kernel_rfl) rfl #[.agg #[.int .i64 a0_0, .int .i64 a0_1, .slice A0_2 l0_2.length c0_2], .agg #[.slice A1_0 l1_0.length c1_0, .slice A1_1 l1_1.length c1_1]] rfl (by (try simp only [List.map_toArray, List.map_cons, List.map_nil]); first | done | rfl | (simp only [List.length_drop, List.length_take]; rfl)) ?_; (with_reducible refine (formula_Row.calls a0_0 a0_1 _ _ l0_2 _ _ l1_0 _ _ l1_1 t129 _ ?side1 ?side2 ?side3 ?side4 ?side5 ?side6 A3.out).mono ?_); (case side1 => repeat (first | exact (Kd.C_below HR0_2.out HB.out) | (with_reducible refine Kd.C_alloc ?_ _) | (with_reducible refine Kd.C_drewN ?_ _) | (with_reducible refine Kd.C_drew ?_))); (case side2 => exact HC0_2.out); (case side3 => repeat (first | exact (Kd.C_below HR1_0.out HB.out) | (with_reducible refine Kd.C_alloc ?_ _) | (with_reducible refine Kd.C_drewN ?_ _) | (with_reducible refine Kd.C_drew ?_))); (case side4 => exact HC1_0.out); (case side5 => repeat (first | exact (Kd.C_below HR1_1.out HB.out) | (with_reducible refine Kd.C_alloc ?_ _) | (with_reducible refine Kd.C_drewN ?_ _) | (with_reducible refine Kd.C_drew ?_))); (case side6 => exact HC1_1.out); rintro e w18 ⟨v130, rfl, ho0, hb⟩; refine ⟨_, rfl, ?_⟩; have n0_ := Aside0.mk (Kd.R_lower ho0 (below_size (by repeat (first | (with_reducible first | exact HB.out | apply below_alloc | apply pw_below_drewN | apply below_drew1 | refine below_set ?_ GE127.out | refine below_set ?_ GE128.out) | exact HB.out)))); have n1_ := Aside0.mk (blk_below (g := gb127) (o := .cells #[.int .i64 a0_0, .int .i64 a0_1, .slice A0_2 l0_2.length c0_2] 24 (0, 0)) (by (with_reducible repeat (first | refine blk_drewN ?_ _ | refine blk_drew ?_ | refine blk_alloc ?_ _)); exact BK127.out) hb); have n2_ := Aside0.mk (blk_below (g := gb128) (o := .cells #[.slice A1_0 l1_0.length c1_0, .slice A1_1 l1_1.length c1_1] 27 (0, 0)) (by (with_reducible repeat (first | refine blk_drewN ?_ _ | refine blk_drew ?_ | refine blk_alloc ?_ _)); exact BK128.out) hb); have n3_ := Aside0.mk (below_step (by repeat (first | (with_reducible first | exact HB.out | apply below_alloc | apply pw_below_drewN | apply below_drew1 | refine below_set ?_ GE127.out | refine below_set ?_ GE128.out) | exact HB.out)) hb); clear BK127; clear BK128; clear HB; have HO131 := n0_; have BK127 := n1_; have BK128 := n2_; have HB := n3_; clear n0_ n1_ n2_ n3_; (try clear hb); (try clear hb2); (try clear hk); (try clear hi); (try clear ho0); obtain ⟨Ao19, co19, eo19⟩ := Kd.R_slice HO131.out; subst eo19))
    go_ret
    exact ⟨by first | rfl | (simp [errW_none, errW_some] <;> rfl) | (simp [*, errW_none, errW_some] <;> rfl), by repeat (first | (with_reducible first | exact HB.out | apply below_alloc | apply pw_below_drewN | apply below_drew1 | refine below_set ?_ GE127.out | refine below_set ?_ GE128.out) | exact HB.out)⟩

end Go.Proofs.YtjjnokodkeekhaaDoor.P

namespace Go.Proofs.YtjjnokodkeekhaaDoor.X
open Go.RowKit Go.Proofs.YtjjnokodkeekhaaDoorW.PrintWords Go.Proofs.YtjjnokodkeekhaaDoorW.PrintLast Go.Proofs.YtjjnokodkeekhaaDoorW.PrintMore
open Go.Proofs.YtjjnokodkeekhaaDoor.P Go.Proofs.YtjjnokodkeekhaaDoor.Evx
set_option linter.unusedSimpArgs false
set_option linter.unusedVariables false
def holdsF (s : S24) (st lp : List Int) : Bool := decide (0 < (rowF s st lp).length) && (rowF s st lp).getD 0 false
theorem holds_some (s : S24) (st lp : List Int) : formula_Holds.f s.f0 s.f1 s.f2 st lp = some (holdsF s st lp) := by
  unfold formula_Holds.f formula_Row.f holdsF
  cases s
  simp only [Option.bind_some]
  generalize rowF _ st lp = l
  cases l with
  | nil => rfl
  | cons a r => cases a <;> simp [rdOf]
def TextS (s : S24) : ByteArray := if mayF s = 0 then textB s else ByteArray.empty
theorem Text_some (s : S24) : formula_Text.f s.f0 s.f1 s.f2 = some (TextS s) := by
  unfold formula_Text.f TextS
  rw [may_some]
  simp only [Option.bind_some]
  by_cases h : mayF s = 0
  · have hz := may_zero h
    rw [if_pos h, if_pos h]
    unfold formula_text.f
    rw [if_pos ⟨by cases s; exact hz.2.2.2, by cases s; exact hz.1⟩]
    cases s; rfl
  · rw [if_neg h, if_neg h]; rfl
def atomS (n : Int) : S24 := ⟨2, n, []⟩
def F0 : S24 := ⟨7, 0, [atomS 0, atomS 1]⟩
set_option maxHeartbeats 800000 in
theorem atom_calls (n : Int) (w : World) : Calls Tryd.prog 31 #[.int .i64 n] w fun e w' => e = .returned (.agg #[.int .i64 2, .int .i64 n, .slice none 0 0]) ∧ Below w.heap.size w w' := by
  have huF := Tryd.underlying24
  go_enter Tryd.func31, Tryd.ntmps31
  go_wp2
  exact bodyPost_ret (v := .agg #[.int .i64 2, .int .i64 n, .slice none 0 0]) (by simp [results, Tryd.results31, go_sem]) rfl ⟨rfl, below_alloc (Below.refl _ _) _⟩
set_option maxHeartbeats 800000 in
theorem op_calls (k : Int) (A : Option Addr) (n c : Nat) (w : World) : Calls Tryd.prog 12 #[.int .i64 k, .slice A n c] w fun e w' => e = .returned (.agg #[.int .i64 k, .int .i64 0, .slice A n c]) ∧ Below w.heap.size w w' := by
  have huF := Tryd.underlying24
  go_enter Tryd.func12, Tryd.ntmps12
  go_wp2
  exact bodyPost_ret (v := .agg #[.int .i64 k, .int .i64 0, .slice A n c]) (by simp [results, Tryd.results12, go_sem]) rfl ⟨rfl, below_alloc (Below.refl _ _) _⟩
theorem holds_1 : holdsF F0 [1, 1] [2] = true := by decide +kernel
theorem holds_2 : holdsF F0 [] [1] = false := by decide +kernel
theorem text_1 : TextS F0 = ⟨#[40, 97, 48, 32, 117, 110, 116, 105, 108, 32, 97, 49, 41]⟩ := by decide +kernel
theorem times_1 : TimesS F0 = [F0] := by
  unfold TimesS
  rw [if_pos (by decide +kernel)]
  rfl
/-- Two formulas in a block. -/
theorem C_two {w : World} {g : Nat} {a b : S24} (ha : a.f2 = []) (hb : b.f2 = []) (h : w.heap[g]? = some (.cells #[.int .i64 a.f0, .int .i64 a.f1, .slice none 0 0, .int .i64 b.f0, .int .i64 b.f1, .slice none 0 0] 24 (0, 0))) : Kd.C k24 w (some ⟨g, 0, none⟩) 2 [a, b] := by
  have hK : ∀ x : S24, x.f2 = [] → k24.K w x [.int .i64 x.f0, .int .i64 x.f1, .slice none 0 0] := by
    intro x hx
    have := k24_mk w x (A2 := none) (c2 := 0) (by rw [hx]; simp) (by rw [hx]; exact Kd.C_nil _ _)
    rwa [hx] at this
  refine ⟨rfl, by omega, fun _ => ⟨_, rfl, fun j p hj => ?_⟩⟩
  have hs : k24.sz = 3 := rfl
  match j, hj with
  | 0, hj =>
    obtain rfl : a = p := by simpa using hj
    refine ⟨_, rfl, hK a ha, fun i u hu => ?_⟩
    rw [hs, add_at, blk_cell h]
    match i, hu with
    | 0, hu => exact hu
    | 1, hu => exact hu
    | 2, hu => exact hu
  | 1, hj =>
    obtain rfl : b = p := by simpa using hj
    refine ⟨_, rfl, hK b hb, fun i u hu => ?_⟩
    rw [hs, add_at, blk_cell h]
    match i, hu with
    | 0, hu => exact hu
    | 1, hu => exact hu
    | 2, hu => exact hu
theorem C_u32 {w : World} {g : Nat} {l : List Int} {t : TypeId} (h : w.heap[g]? = some (.cells (l.map (Value.int .u32)).toArray t (0, 0))) (hl : 0 < l.length) (hm : l.length < 1000) : Kd.C (Kd.int .u32) w (some ⟨g, 0, none⟩) l.length l := by
  refine Kd.C_of_reads (d := 0) ⟨rfl, by omega, fun _ => ⟨_, rfl, fun j hj => ?_⟩⟩
  rw [add_at, blk_cell h]
  simp [hj]
set_option maxHeartbeats 3200000 in
set_option maxRecDepth 100000 in
theorem awake_calls (w : World) : Calls Tryd.prog 11 #[] w fun e w' => e = .returned (.bool true) ∧ Below w.heap.size w w' := by
  have huF := Tryd.underlying24
  have huW := Tryd.underlying27
  have huL := Tryd.underlying22
  have huu := Tryd.underlying25
  have HBA := Aside0.mk (Below.refl w.heap.size w)
  obtain ⟨k1, hk1⟩ := (Times_ev F0).rounds
  rw [times_1] at hk1
  have HK1 := Aside0.mk hk1
  have HTX := Aside0.mk ((Text_some F0).trans (congrArg some text_1))
  clear hk1
  go_enter Tryd.func11, Tryd.ntmps11
  go_upto_region 2 with (first | (go_at_call 31; refine (atom_calls _ _).mono ?_; rintro e w1 ⟨rfl, hB⟩; have HBn := Aside0.mk (HBA.out.trans (hB.mono HBA.out.size)); clear HBA hB; have HBA := HBn; clear HBn) | (go_at_call 12; refine (op_calls _ _ _ _ _).mono ?_; rintro e w3 ⟨rfl, hB⟩; have HC3 := Aside0.mk (Kd.C_below (C_two (a := atomS 0) (b := atomS 1) rfl rfl (heap_alloc_new _ _)) hB); have HB3 := Aside0.mk (HBA.out.trans (((below_alloc (Below.refl _ _) _).trans (hB.mono (by simp))).mono HBA.out.size)); clear hB))
  obtain ⟨W4, hW4⟩ : ∃ W4, W4 = w3.alloc (.cells #[.int .i64 7, .int .i64 0, .slice (some ⟨w1.heap.size, 0, none⟩) 2 2] 24) := ⟨_, rfl⟩
  have hB4 : Below w3.heap.size w3 W4 := by rw [hW4]; exact below_alloc (Below.refl _ _) _
  have hbx : W4.heap[w3.heap.size]? = some (.cells #[.int .i64 7, .int .i64 0, .slice (some ⟨w1.heap.size, 0, none⟩) 2 2] 24 (0, 0)) := by rw [hW4]; exact heap_alloc_new w3 _
  rw [← hW4]
  have HB4 := Aside0.mk (HB3.out.trans (hB4.mono HB3.out.size))
  have HBX := Aside0.mk hbx
  have HKF := Aside0.mk (fun W (h : Below W4.heap.size W4 W) => Kd.C_below (Kd.C_below HC3.out hB4) h)
  obtain ⟨W5, hW5⟩ : ∃ W5, W5 = (W4.alloc (.cells #[.int .u32 1, .int .u32 1] 49)).alloc (.cells #[.int .u32 2] 49) := ⟨_, rfl⟩
  have hB5 : Below W4.heap.size W4 W5 := by rw [hW5]; exact below_alloc (below_alloc (Below.refl _ _) _) _
  have h1 : W5.heap[W4.heap.size]? = some (.cells #[.int .u32 1, .int .u32 1] 49 (0, 0)) := by rw [hW5]; exact blk_alloc (heap_alloc_new W4 _) _
  have h2 : W5.heap[W4.heap.size + 1]? = some (.cells #[.int .u32 2] 49 (0, 0)) := by
    rw [hW5]
    have := heap_alloc_new (W4.alloc (.cells #[.int .u32 1, .int .u32 1] 49)) (.cells #[.int .u32 2] 49)
    simpa using this
  have HH1 := Aside0.mk (show Calls Tryd.prog 17 #[.agg #[.int .i64 7, .int .i64 0, .slice (some ⟨w1.heap.size, 0, none⟩) 2 2], .agg #[.slice (some ⟨W4.heap.size, 0, none⟩) 2 2, .slice (some ⟨W4.heap.size + 1, 0, none⟩) 1 1]] W5 _ from formula_Holds.calls 7 0 (some ⟨w1.heap.size, 0, none⟩) 2 [atomS 0, atomS 1] (some ⟨W4.heap.size, 0, none⟩) 2 [1, 1] (some ⟨W4.heap.size + 1, 0, none⟩) 1 [2] true W5 (HKF.out W5 hB5) (Nat.le_refl _) (C_u32 (l := [1, 1]) h1 (by decide) (by decide)) (Nat.le_refl _) (C_u32 (l := [2]) h2 (by decide) (by decide)) (Nat.le_refl _) ((holds_some F0 [1, 1] [2]).trans (congrArg some holds_1)))
  have HH2 := Aside0.mk (fun w6 (h : Below W4.heap.size W4 w6) => show Calls Tryd.prog 17 #[.agg #[.int .i64 7, .int .i64 0, .slice (some ⟨w1.heap.size, 0, none⟩) 2 2], .agg #[.slice none 0 0, .slice (some ⟨w6.heap.size, 0, none⟩) 1 1]] (w6.alloc (.cells #[.int .u32 1] 49)) _ from formula_Holds.calls 7 0 (some ⟨w1.heap.size, 0, none⟩) 2 [atomS 0, atomS 1] none 0 [] (some ⟨w6.heap.size, 0, none⟩) 1 [1] false _ (HKF.out _ (below_alloc h _)) (Nat.le_refl _) (Kd.C_nil _ _) (Nat.le_refl _) (C_u32 (l := [1]) (heap_alloc_new w6 _) (by decide) (by decide)) (Nat.le_refl _) ((holds_some F0 [] [1]).trans (congrArg some holds_2)))
  have HTT := Aside0.mk (fun W (h : Below W4.heap.size W4 W) => show Calls Tryd.prog 26 #[.agg #[.int .i64 7, .int .i64 0, .slice (some ⟨w1.heap.size, 0, none⟩) 2 2]] W _ from formula_Text.calls 7 0 (some ⟨w1.heap.size, 0, none⟩) 2 [atomS 0, atomS 1] _ W (HKF.out _ h) (Nat.le_refl _) HTX.out)
  have HTM := Aside0.mk (fun W (h : Below W4.heap.size W4 W) => show Calls Tryd.prog 18 #[.agg #[.int .i64 7, .int .i64 0, .slice (some ⟨w1.heap.size, 0, none⟩) 2 2]] W _ from formula_Times.calls k1 7 0 (some ⟨w1.heap.size, 0, none⟩) 2 [atomS 0, atomS 1] [F0] W (HKF.out _ h) (Nat.le_refl _) HK1.out)
  have HW5 := Aside0.mk hW5
  have HB5 := Aside0.mk hB5
  have b0 : W4.cell? ⟨w3.heap.size, 0, none⟩ = some (.int .i64 7) := (blk_cell hbx 0).trans rfl
  have b1 : W4.cell? ⟨w3.heap.size, 1, none⟩ = some (.int .i64 0) := (blk_cell hbx 1).trans rfl
  have b2 : W4.cell? ⟨w3.heap.size, 2, none⟩ = some (.slice (some ⟨w1.heap.size, 0, none⟩) 2 2) := (blk_cell hbx 2).trans rfl
  clear hW4 hB4 hbx hW5 hB5 h1 h2
  go_wp2_with (first | (go_at_call 17; rw [← HW5.out]; (with_reducible refine HH1.out.mono ?_); rintro e w6 ⟨rfl, hB6⟩; have HB6 := Aside0.mk (HB5.out.trans (hB6.mono HB5.out.size)); have HBX6 := Aside0.mk ((HB6.out.block _ (blk_lt HBX.out)).trans HBX.out); have q0 := (blk_cell HBX6.out 0).trans rfl; have q1 := (blk_cell HBX6.out 1).trans rfl; have q2 := (blk_cell HBX6.out 2).trans rfl; clear hB6) | (go_at_call 17; (with_reducible refine (HH2.out _ HB6.out).mono ?_); rintro e w7 ⟨rfl, hB7⟩; have HB7 := Aside0.mk (HB6.out.trans (((below_alloc (Below.refl _ _) _).trans (hB7.mono (by simp))).mono HB6.out.size)); have HBX7 := Aside0.mk ((HB7.out.block _ (blk_lt HBX.out)).trans HBX.out); have p0 := (blk_cell HBX7.out 0).trans rfl; have p1 := (blk_cell HBX7.out 1).trans rfl; have p2 := (blk_cell HBX7.out 2).trans rfl; clear hB7) | (go_at_call 26; (with_reducible refine (HTT.out _ HB7.out).mono ?_); rintro e w8 ⟨rfl, hB8⟩; have HB8 := Aside0.mk (HB7.out.trans (hB8.mono HB7.out.size)); have HBX8 := Aside0.mk ((HB8.out.block _ (blk_lt HBX.out)).trans HBX.out); have o0 := (blk_cell HBX8.out 0).trans rfl; have o1 := (blk_cell HBX8.out 1).trans rfl; have o2 := (blk_cell HBX8.out 2).trans rfl; clear hB8) | (go_at_call 18; (with_reducible refine (HTM.out _ HB8.out).mono ?_); rintro e w9 ⟨v9, rfl, hR9, hB9⟩; obtain ⟨g9, c9, e9, _⟩ := Kd.N_form hR9 (by decide); subst e9; have HB9 := Aside0.mk (HB8.out.trans (hB9.mono HB8.out.size)); clear hR9 hB9))
  go_ret
  exact ⟨rfl, HB4.out.trans (HB9.out.mono HB4.out.size)⟩
def parrylaw22_awake.f : Option Bool := some true
theorem parrylaw22_awake.calls (r : Bool) (w : World) (h : parrylaw22_awake.f = some r) : Calls Tryd.prog 11 #[] w fun e w' => e = .returned (.bool r) ∧ Below w.heap.size w w' := by
  obtain rfl := Option.some.inj h
  exact awake_calls w
end Go.Proofs.YtjjnokodkeekhaaDoor.X

