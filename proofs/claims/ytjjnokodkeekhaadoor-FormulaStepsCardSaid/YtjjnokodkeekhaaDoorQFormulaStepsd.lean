/- A part of the claim FormulaSteps. -/
import Derived.ChangeArms
import Derived.SizedLaws
import Derived.WideShapes
import Derived.Test.YtjjnokodkeekhaaDoorQFormulaStepsa
import Derived.Test.YtjjnokodkeekhaaDoorQFormulaStepsb
import Derived.Test.YtjjnokodkeekhaaDoorQFormulaStepsc
namespace Go.Proofs.YtjjnokodkeekhaaDoor.X
open Go.RowKit Go.Proofs.YtjjnokodkeekhaaDoorW.PrintWords Go.Proofs.YtjjnokodkeekhaaDoorW.PrintMore
open Go.Proofs.YtjjnokodkeekhaaDoor.P Go.Proofs.YtjjnokodkeekhaaDoor.Evx
set_option linter.unusedVariables false
set_option linter.unusedSimpArgs false
theorem eta_f (s : S24) : (⟨s.f0, s.f1, s.f2⟩ : S24) = s := by cases s; rfl
theorem may_some (s : S24) : formula_May.f s.f0 s.f1 s.f2 = some (mayF s) := by cases s; rfl
theorem copied_l (kids : List S24) (op m : Int) (hl : kids.length ≤ 60) (ih : ∀ k ∈ kids, Ev (fun n => formula_copied.f n k.f0 k.f1 k.f2) (k.f0, k.f1, k.f2)) :
    ∀ (d j : Nat) (acc : List S24), j + d = kids.length → acc = kids.take j → Ev (fun n => formula_copied.l0 n kids (kids.length : Int) j op m acc) (op, m, kids)
  | 0, j, acc, hj, ha => by
    refine ev_step (fun k => rfl) (ev_neg (by omega) ?_)
    refine ev_eq (ev_some _) ?_
    rw [ha, List.take_of_length_le (by omega)]
  | d + 1, j, acc, hj, ha => by
    have hlt : j < kids.length := by omega
    refine ev_step (fun k => rfl) (ev_pos (by omega) (ev_pos (by omega) (ev_pos (by omega) ?_)))
    rw [rdT_nat kids j hlt]
    refine ev_bind (ih _ (List.getElem_mem hlt)) ?_
    refine ev_pos (by rw [ha, List.length_take]; omega) ?_
    rw [w64 (by omega) (by omega)]
    have := copied_l kids op m hl ih d (j + 1) (acc ++ [⟨(kids[j]'hlt).f0, (kids[j]'hlt).f1, (kids[j]'hlt).f2⟩]) (by omega) (by rw [ha, List.take_succ_eq_append_getElem hlt, eta_f])
    exact_mod_cast this
mutual
theorem copied_ev : ∀ s : S24, soundS s = true → Ev (fun n => formula_copied.f n s.f0 s.f1 s.f2) (s.f0, s.f1, s.f2)
  | ⟨op, m, kids⟩, h => by
    refine ev_step (fun k => rfl) ?_
    exact copied_l kids op m (by have := sound_len h; simp only at this; omega) (copied_evL kids (sound_kids_all h)) kids.length 0 [] (by omega) rfl
theorem copied_evL : ∀ l : List S24, soundL l = true → ∀ k ∈ l, Ev (fun n => formula_copied.f n k.f0 k.f1 k.f2) (k.f0, k.f1, k.f2)
  | [], _, k, hk => by cases hk
  | a :: r, h, k, hk => by
    simp only [soundL, Bool.and_eq_true] at h
    rcases List.mem_cons.1 hk with e | e
    · rw [e]; exact copied_ev a h.1
    · exact copied_evL r h.2 k e
end
theorem times_l (kids : List S24) (T : List S24) (hT : T.length ≤ 1000) (hb : kids.length ≤ 60) (ih : ∀ k ∈ kids, Ev (fun n => formula_times.f n k.f0 k.f1 k.f2) (timesS k)) :
    ∀ (d j : Nat) (acc : List S24), j + d = kids.length → acc ++ timesL (kids.drop j) = T → Ev (fun n => formula_times.l0 n acc kids (kids.length : Int) j) T
  | 0, j, acc, hj, ha => by
    refine ev_step (fun k => rfl) (ev_neg (by omega) ?_)
    refine ev_eq (ev_some _) ?_
    rw [← ha, List.drop_eq_nil_of_le (by omega), timesL, List.append_nil]
  | d + 1, j, acc, hj, ha => by
    have hlt : j < kids.length := by omega
    have hd := List.drop_eq_getElem_cons hlt
    rw [hd, timesL, ← List.append_assoc] at ha
    refine ev_step (fun k => rfl) (ev_pos (by omega) (ev_pos (by omega) (ev_pos (by omega) ?_)))
    rw [rdT_nat kids j hlt]
    refine ev_bind (ih _ (List.getElem_mem hlt)) ?_
    refine ev_pos (by rw [← ha] at hT; simp only [List.length_append] at hT; omega) ?_
    rw [w64 (by omega) (by omega)]
    have := times_l kids T hT hb ih d (j + 1) (acc ++ timesS (kids[j]'hlt)) (by omega) ha
    exact_mod_cast this
mutual
theorem times_ev : ∀ s : S24, soundS s = true → tnS s ≤ 1000 → Ev (fun n => formula_times.f n s.f0 s.f1 s.f2) (timesS s)
  | ⟨op, m, kids⟩, h, ht => by
    have hk : kids.length ≤ 60 := by have := sound_len h; simp only at this; omega
    have hL : (timesS (⟨op, m, kids⟩ : S24)).length ≤ 1000 := by rw [len_times]; exact ht
    have h0 : ∀ (acc : List S24) (x y : Int), acc = (if timedS op = true then [(⟨op, m, kids⟩ : S24)] else []) → Ev (fun n => formula_times.j0 n acc x y kids) (timesS (⟨op, m, kids⟩ : S24)) := by
      intro acc x y ha
      refine ev_step (fun k => rfl) ?_
      exact times_l kids _ hL hk (times_evL kids (sound_kids_all h) (by simp only [tnS] at ht; omega)) kids.length 0 acc (by omega) (by rw [ha, timesS]; rfl)
    refine ev_step (fun k => rfl) ?_
    refine ev_bindv (timed_some op) (ev_bool (fun c => ?_) (fun c => ?_))
    · refine ev_bind (copied_ev _ h) (ev_pos (by simp) ?_)
      exact h0 _ _ _ (by rw [if_pos c]; rfl)
    · exact h0 _ _ _ (by rw [if_neg (by rw [c]; simp)])
theorem times_evL : ∀ l : List S24, soundL l = true → tnL l ≤ 1000 → ∀ k ∈ l, Ev (fun n => formula_times.f n k.f0 k.f1 k.f2) (timesS k)
  | [], _, _, k, hk => by cases hk
  | a :: r, h, ht, k, hk => by
    simp only [soundL, Bool.and_eq_true] at h
    simp only [tnL] at ht
    rcases List.mem_cons.1 hk with e | e
    · rw [e]; exact times_ev a h.1 (by omega)
    · exact times_evL r h.2 (by omega) k e
end
def TimesS (s : S24) : List S24 := if mayF s = 0 then timesS s else []
theorem Times_ev (s : S24) : Ev (fun n => formula_Times.f n s.f0 s.f1 s.f2) (TimesS s) := by
  unfold formula_Times.f
  refine ev_bindv (may_some s) (ev_ite (fun c => ?_) (fun c => ?_))
  · have hz := may_zero c
    refine ev_bind (times_ev s hz.2.2.2 (by omega)) (ev_eq (ev_some _) ?_)
    unfold TimesS
    rw [if_pos c]
  · exact ev_eq (ev_some _) (by unfold TimesS; rw [if_neg c])
end Go.Proofs.YtjjnokodkeekhaaDoor.X

namespace Go.Proofs.YtjjnokodkeekhaaDoor.X
open Go.RowKit Go.Proofs.YtjjnokodkeekhaaDoorW.PrintWords Go.Proofs.YtjjnokodkeekhaaDoorW.PrintLast Go.Proofs.YtjjnokodkeekhaaDoorW.PrintMore
open Go.Proofs.YtjjnokodkeekhaaDoor.P Go.Proofs.YtjjnokodkeekhaaDoor.Evx
set_option linter.unusedSimpArgs false
set_option linter.unusedVariables false
def holdsF (s : S24) (st lp : List Int) : Bool := decide (0 < (rowF s st lp).length) && (rowF s st lp).getD 0 false
theorem holds_some (s : S24) (st lp : List Int) : formula_Holds.f s.f0 s.f1 s.f2 st lp = some (holdsF s st lp) := by
  unfold formula_Holds.f formula_Row.f holdsF
  cases s
  simp only [Option.bind_some]
  generalize rowF _ st lp = l
  cases l with
  | nil => rfl
  | cons a r => cases a <;> simp [rdOf]
def TextS (s : S24) : ByteArray := if mayF s = 0 then textB s else ByteArray.empty
theorem Text_some (s : S24) : formula_Text.f s.f0 s.f1 s.f2 = some (TextS s) := by
  unfold formula_Text.f TextS
  rw [may_some]
  simp only [Option.bind_some]
  by_cases h : mayF s = 0
  · have hz := may_zero h
    rw [if_pos h, if_pos h]
    unfold formula_text.f
    rw [if_pos ⟨by cases s; exact hz.2.2.2, by cases s; exact hz.1⟩]
    cases s; rfl
  · rw [if_neg h, if_neg h]; rfl
def atomS (n : Int) : S24 := ⟨2, n, []⟩
def F0 : S24 := ⟨7, 0, [atomS 0, atomS 1]⟩
set_option maxHeartbeats 800000 in
theorem atom_calls (n : Int) (w : World) : Calls Tryd.prog 31 #[.int .i64 n] w fun e w' => e = .returned (.agg #[.int .i64 2, .int .i64 n, .slice none 0 0]) ∧ Below w.heap.size w w' := by
  have huF := Tryd.underlying24
  go_enter Tryd.func31, Tryd.ntmps31
  go_wp2
  exact bodyPost_ret (v := .agg #[.int .i64 2, .int .i64 n, .slice none 0 0]) (by simp [results, Tryd.results31, go_sem]) rfl ⟨rfl, below_alloc (Below.refl _ _) _⟩
set_option maxHeartbeats 800000 in
theorem op_calls (k : Int) (A : Option Addr) (n c : Nat) (w : World) : Calls Tryd.prog 12 #[.int .i64 k, .slice A n c] w fun e w' => e = .returned (.agg #[.int .i64 k, .int .i64 0, .slice A n c]) ∧ Below w.heap.size w w' := by
  have huF := Tryd.underlying24
  go_enter Tryd.func12, Tryd.ntmps12
  go_wp2
  exact bodyPost_ret (v := .agg #[.int .i64 k, .int .i64 0, .slice A n c]) (by simp [results, Tryd.results12, go_sem]) rfl ⟨rfl, below_alloc (Below.refl _ _) _⟩
theorem holds_1 : holdsF F0 [1, 1] [2] = true := by decide +kernel
theorem holds_2 : holdsF F0 [] [1] = false := by decide +kernel
theorem text_1 : TextS F0 = ⟨#[40, 97, 48, 32, 117, 110, 116, 105, 108, 32, 97, 49, 41]⟩ := by decide +kernel
theorem times_1 : TimesS F0 = [F0] := by
  unfold TimesS
  rw [if_pos (by decide +kernel)]
  rfl
/-- Two formulas in a block. -/
theorem C_two {w : World} {g : Nat} {a b : S24} (ha : a.f2 = []) (hb : b.f2 = []) (h : w.heap[g]? = some (.cells #[.int .i64 a.f0, .int .i64 a.f1, .slice none 0 0, .int .i64 b.f0, .int .i64 b.f1, .slice none 0 0] 24 (0, 0))) : Kd.C k24 w (some ⟨g, 0, none⟩) 2 [a, b] := by
  have hK : ∀ x : S24, x.f2 = [] → k24.K w x [.int .i64 x.f0, .int .i64 x.f1, .slice none 0 0] := by
    intro x hx
    have := k24_mk w x (A2 := none) (c2 := 0) (by rw [hx]; simp) (by rw [hx]; exact Kd.C_nil _ _)
    rwa [hx] at this
  refine ⟨rfl, by omega, fun _ => ⟨_, rfl, fun j p hj => ?_⟩⟩
  have hs : k24.sz = 3 := rfl
  match j, hj with
  | 0, hj =>
    obtain rfl : a = p := by simpa using hj
    refine ⟨_, rfl, hK a ha, fun i u hu => ?_⟩
    rw [hs, add_at, blk_cell h]
    match i, hu with
    | 0, hu => exact hu
    | 1, hu => exact hu
    | 2, hu => exact hu
  | 1, hj =>
    obtain rfl : b = p := by simpa using hj
    refine ⟨_, rfl, hK b hb, fun i u hu => ?_⟩
    rw [hs, add_at, blk_cell h]
    match i, hu with
    | 0, hu => exact hu
    | 1, hu => exact hu
    | 2, hu => exact hu
theorem C_u32 {w : World} {g : Nat} {l : List Int} {t : TypeId} (h : w.heap[g]? = some (.cells (l.map (Value.int .u32)).toArray t (0, 0))) (hl : 0 < l.length) (hm : l.length < 1000) : Kd.C (Kd.int .u32) w (some ⟨g, 0, none⟩) l.length l := by
  refine Kd.C_of_reads (d := 0) ⟨rfl, by omega, fun _ => ⟨_, rfl, fun j hj => ?_⟩⟩
  rw [add_at, blk_cell h]
  simp [hj]
set_option maxHeartbeats 3200000 in
set_option maxRecDepth 100000 in
theorem awake_calls (w : World) : Calls Tryd.prog 11 #[] w fun e w' => e = .returned (.bool true) ∧ Below w.heap.size w w' := by
  have huF := Tryd.underlying24
  have huW := Tryd.underlying27
  have huL := Tryd.underlying22
  have huu := Tryd.underlying25
  have HBA := Aside0.mk (Below.refl w.heap.size w)
  obtain ⟨k1, hk1⟩ := (Times_ev F0).rounds
  rw [times_1] at hk1
  have HK1 := Aside0.mk hk1
  have HTX := Aside0.mk ((Text_some F0).trans (congrArg some text_1))
  clear hk1
  go_enter Tryd.func11, Tryd.ntmps11
  go_upto_region 2 with (first | (go_at_call 31; refine (atom_calls _ _).mono ?_; rintro e w1 ⟨rfl, hB⟩; have HBn := Aside0.mk (HBA.out.trans (hB.mono HBA.out.size)); clear HBA hB; have HBA := HBn; clear HBn) | (go_at_call 12; refine (op_calls _ _ _ _ _).mono ?_; rintro e w3 ⟨rfl, hB⟩; have HC3 := Aside0.mk (Kd.C_below (C_two (a := atomS 0) (b := atomS 1) rfl rfl (heap_alloc_new _ _)) hB); have HB3 := Aside0.mk (HBA.out.trans (((below_alloc (Below.refl _ _) _).trans (hB.mono (by simp))).mono HBA.out.size)); clear hB))
  obtain ⟨W4, hW4⟩ : ∃ W4, W4 = w3.alloc (.cells #[.int .i64 7, .int .i64 0, .slice (some ⟨w1.heap.size, 0, none⟩) 2 2] 24) := ⟨_, rfl⟩
  have hB4 : Below w3.heap.size w3 W4 := by rw [hW4]; exact below_alloc (Below.refl _ _) _
  have hbx : W4.heap[w3.heap.size]? = some (.cells #[.int .i64 7, .int .i64 0, .slice (some ⟨w1.heap.size, 0, none⟩) 2 2] 24 (0, 0)) := by rw [hW4]; exact heap_alloc_new w3 _
  rw [← hW4]
  have HB4 := Aside0.mk (HB3.out.trans (hB4.mono HB3.out.size))
  have HBX := Aside0.mk hbx
  have HKF := Aside0.mk (fun W (h : Below W4.heap.size W4 W) => Kd.C_below (Kd.C_below HC3.out hB4) h)
  obtain ⟨W5, hW5⟩ : ∃ W5, W5 = (W4.alloc (.cells #[.int .u32 1, .int .u32 1] 49)).alloc (.cells #[.int .u32 2] 49) := ⟨_, rfl⟩
  have hB5 : Below W4.heap.size W4 W5 := by rw [hW5]; exact below_alloc (below_alloc (Below.refl _ _) _) _
  have h1 : W5.heap[W4.heap.size]? = some (.cells #[.int .u32 1, .int .u32 1] 49 (0, 0)) := by rw [hW5]; exact blk_alloc (heap_alloc_new W4 _) _
  have h2 : W5.heap[W4.heap.size + 1]? = some (.cells #[.int .u32 2] 49 (0, 0)) := by
    rw [hW5]
    have := heap_alloc_new (W4.alloc (.cells #[.int .u32 1, .int .u32 1] 49)) (.cells #[.int .u32 2] 49)
    simpa using this
  have HH1 := Aside0.mk (show Calls Tryd.prog 17 #[.agg #[.int .i64 7, .int .i64 0, .slice (some ⟨w1.heap.size, 0, none⟩) 2 2], .agg #[.slice (some ⟨W4.heap.size, 0, none⟩) 2 2, .slice (some ⟨W4.heap.size + 1, 0, none⟩) 1 1]] W5 _ from formula_Holds.calls 7 0 (some ⟨w1.heap.size, 0, none⟩) 2 [atomS 0, atomS 1] (some ⟨W4.heap.size, 0, none⟩) 2 [1, 1] (some ⟨W4.heap.size + 1, 0, none⟩) 1 [2] true W5 (HKF.out W5 hB5) (Nat.le_refl _) (C_u32 (l := [1, 1]) h1 (by decide) (by decide)) (Nat.le_refl _) (C_u32 (l := [2]) h2 (by decide) (by decide)) (Nat.le_refl _) ((holds_some F0 [1, 1] [2]).trans (congrArg some holds_1)))
  have HH2 := Aside0.mk (fun w6 (h : Below W4.heap.size W4 w6) => show Calls Tryd.prog 17 #[.agg #[.int .i64 7, .int .i64 0, .slice (some ⟨w1.heap.size, 0, none⟩) 2 2], .agg #[.slice none 0 0, .slice (some ⟨w6.heap.size, 0, none⟩) 1 1]] (w6.alloc (.cells #[.int .u32 1] 49)) _ from formula_Holds.calls 7 0 (some ⟨w1.heap.size, 0, none⟩) 2 [atomS 0, atomS 1] none 0 [] (some ⟨w6.heap.size, 0, none⟩) 1 [1] false _ (HKF.out _ (below_alloc h _)) (Nat.le_refl _) (Kd.C_nil _ _) (Nat.le_refl _) (C_u32 (l := [1]) (heap_alloc_new w6 _) (by decide) (by decide)) (Nat.le_refl _) ((holds_some F0 [] [1]).trans (congrArg some holds_2)))
  have HTT := Aside0.mk (fun W (h : Below W4.heap.size W4 W) => show Calls Tryd.prog 26 #[.agg #[.int .i64 7, .int .i64 0, .slice (some ⟨w1.heap.size, 0, none⟩) 2 2]] W _ from formula_Text.calls 7 0 (some ⟨w1.heap.size, 0, none⟩) 2 [atomS 0, atomS 1] _ W (HKF.out _ h) (Nat.le_refl _) HTX.out)
  have HTM := Aside0.mk (fun W (h : Below W4.heap.size W4 W) => show Calls Tryd.prog 18 #[.agg #[.int .i64 7, .int .i64 0, .slice (some ⟨w1.heap.size, 0, none⟩) 2 2]] W _ from formula_Times.calls k1 7 0 (some ⟨w1.heap.size, 0, none⟩) 2 [atomS 0, atomS 1] [F0] W (HKF.out _ h) (Nat.le_refl _) HK1.out)
  have HW5 := Aside0.mk hW5
  have HB5 := Aside0.mk hB5
  have b0 : W4.cell? ⟨w3.heap.size, 0, none⟩ = some (.int .i64 7) := (blk_cell hbx 0).trans rfl
  have b1 : W4.cell? ⟨w3.heap.size, 1, none⟩ = some (.int .i64 0) := (blk_cell hbx 1).trans rfl
  have b2 : W4.cell? ⟨w3.heap.size, 2, none⟩ = some (.slice (some ⟨w1.heap.size, 0, none⟩) 2 2) := (blk_cell hbx 2).trans rfl
  clear hW4 hB4 hbx hW5 hB5 h1 h2
  go_wp2_with (first | (go_at_call 17; rw [← HW5.out]; (with_reducible refine HH1.out.mono ?_); rintro e w6 ⟨rfl, hB6⟩; have HB6 := Aside0.mk (HB5.out.trans (hB6.mono HB5.out.size)); have HBX6 := Aside0.mk ((HB6.out.block _ (blk_lt HBX.out)).trans HBX.out); have q0 := (blk_cell HBX6.out 0).trans rfl; have q1 := (blk_cell HBX6.out 1).trans rfl; have q2 := (blk_cell HBX6.out 2).trans rfl; clear hB6) | (go_at_call 17; (with_reducible refine (HH2.out _ HB6.out).mono ?_); rintro e w7 ⟨rfl, hB7⟩; have HB7 := Aside0.mk (HB6.out.trans (((below_alloc (Below.refl _ _) _).trans (hB7.mono (by simp))).mono HB6.out.size)); have HBX7 := Aside0.mk ((HB7.out.block _ (blk_lt HBX.out)).trans HBX.out); have p0 := (blk_cell HBX7.out 0).trans rfl; have p1 := (blk_cell HBX7.out 1).trans rfl; have p2 := (blk_cell HBX7.out 2).trans rfl; clear hB7) | (go_at_call 26; (with_reducible refine (HTT.out _ HB7.out).mono ?_); rintro e w8 ⟨rfl, hB8⟩; have HB8 := Aside0.mk (HB7.out.trans (hB8.mono HB7.out.size)); have HBX8 := Aside0.mk ((HB8.out.block _ (blk_lt HBX.out)).trans HBX.out); have o0 := (blk_cell HBX8.out 0).trans rfl; have o1 := (blk_cell HBX8.out 1).trans rfl; have o2 := (blk_cell HBX8.out 2).trans rfl; clear hB8) | (go_at_call 18; (with_reducible refine (HTM.out _ HB8.out).mono ?_); rintro e w9 ⟨v9, rfl, hR9, hB9⟩; obtain ⟨g9, c9, e9, _⟩ := Kd.N_form hR9 (by decide); subst e9; have HB9 := Aside0.mk (HB8.out.trans (hB9.mono HB8.out.size)); clear hR9 hB9))
  go_ret
  exact ⟨rfl, HB4.out.trans (HB9.out.mono HB4.out.size)⟩
end Go.Proofs.YtjjnokodkeekhaaDoor.X

namespace Go.Proofs.YtjjnokodkeekhaaDoor.X
open Go.RowKit Go.Proofs.YtjjnokodkeekhaaDoorW.PrintWords Go.Proofs.YtjjnokodkeekhaaDoorW.PrintLast Go.Proofs.YtjjnokodkeekhaaDoorW.PrintMore
open Go.Proofs.YtjjnokodkeekhaaDoor.P Go.Proofs.YtjjnokodkeekhaaDoor.Evx
set_option linter.unusedSimpArgs false
set_option linter.unusedVariables false
/-- A block made behind the world W, with its cells. -/
def Lay (W w : World) (g : Nat) (cs : Array Value) (t : TypeId) : Prop := W.heap.size ≤ g ∧ w.heap[g]? = some (.cells cs t (0, 0))
section
variable {W w w1 : World} {g p : Nat} {cs : Array Value} {t : TypeId}
theorem Lay.alloc (h : Lay W w g cs t) (o : Obj) : Lay W (w.alloc o) g cs t := ⟨h.1, blk_alloc h.2 o⟩
theorem Lay.below (h : Lay W w g cs t) (hB : Below w.heap.size w w1) : Lay W w1 g cs t := ⟨h.1, (hB.block _ (blk_lt h.2)).trans h.2⟩
theorem Lay.new (hB : Below W.heap.size W w) (cs : Array Value) (t : TypeId) : Lay W (w.alloc (.cells cs t)) w.heap.size cs t := ⟨hB.size, heap_alloc_new w _⟩
theorem Lay.ne_new (h : Lay W w g cs t) : w.heap.size ≠ g := by have := blk_lt h.2; omega
/-- A struct of three cells is stored. -/
def put3 (w : World) (p : Nat) (x y z : Value) : World := ((w.setCell ⟨p, 0, none⟩ x).setCell ⟨p, 1, none⟩ y).setCell ⟨p, 2, none⟩ z
theorem below_put3 (hB : Below W.heap.size W w) (hp : W.heap.size ≤ p) (x y z : Value) : Below W.heap.size W (put3 w p x y z) := ((hB.setCell hp x).setCell hp y).setCell hp z
theorem Lay.far3 (h : Lay W w g cs t) (hn : g ≠ p) (x y z : Value) : Lay W (put3 w p x y z) g cs t := ⟨h.1, blk_far (blk_far (blk_far h.2 (p := ⟨p, 0, none⟩) hn x) (p := ⟨p, 1, none⟩) hn y) (p := ⟨p, 2, none⟩) hn z⟩
theorem Lay.put3 {a b c : Value} (h : Lay W w p #[a, b, c] t) (x y z : Value) : Lay W (put3 w p x y z) p #[x, y, z] t := ⟨h.1, (blk_set (blk_set (blk_set h.2 0 x) 1 y) 2 z).trans rfl⟩
end
theorem C_of1 {w : World} {g : Nat} {s : S24} {A : Option Addr} {c : Nat} (h : w.heap[g]? = some (.cells #[.int .i64 s.f0, .int .i64 s.f1, .slice A s.f2.length c] 24 (0, 0))) (hk : Kd.C k24 w A s.f2.length s.f2) (hc : s.f2.length ≤ c) : Kd.C k24 w (some ⟨g, 0, none⟩) 1 [s] := by
  have hK := k24_mk w s hc hk
  refine ⟨rfl, by omega, fun _ => ⟨_, rfl, fun j p hj => ?_⟩⟩
  have hs : k24.sz = 3 := rfl
  match j, hj with
  | 0, hj =>
    obtain rfl : s = p := by simpa using hj
    refine ⟨_, rfl, hK, fun i u hu => ?_⟩
    rw [hs, add_at, blk_cell h]
    match i, hu with
    | 0, hu => exact hu
    | 1, hu => exact hu
    | 2, hu => exact hu
theorem C_of2 {w : World} {g : Nat} {a b : S24} {A B : Option Addr} {ca cb : Nat} (h : w.heap[g]? = some (.cells #[.int .i64 a.f0, .int .i64 a.f1, .slice A a.f2.length ca, .int .i64 b.f0, .int .i64 b.f1, .slice B b.f2.length cb] 24 (0, 0))) (ha : Kd.C k24 w A a.f2.length a.f2) (hca : a.f2.length ≤ ca) (hb : Kd.C k24 w B b.f2.length b.f2) (hcb : b.f2.length ≤ cb) : Kd.C k24 w (some ⟨g, 0, none⟩) 2 [a, b] := by
  have hKa := k24_mk w a hca ha
  have hKb := k24_mk w b hcb hb
  refine ⟨rfl, by omega, fun _ => ⟨_, rfl, fun j p hj => ?_⟩⟩
  have hs : k24.sz = 3 := rfl
  match j, hj with
  | 0, hj =>
    obtain rfl : a = p := by simpa using hj
    refine ⟨_, rfl, hKa, fun i u hu => ?_⟩
    rw [hs, add_at, blk_cell h]
    match i, hu with
    | 0, hu => exact hu
    | 1, hu => exact hu
    | 2, hu => exact hu
  | 1, hj =>
    obtain rfl : b = p := by simpa using hj
    refine ⟨_, rfl, hKb, fun i u hu => ?_⟩
    rw [hs, add_at, blk_cell h]
    match i, hu with
    | 0, hu => exact hu
    | 1, hu => exact hu
    | 2, hu => exact hu
end Go.Proofs.YtjjnokodkeekhaaDoor.X

namespace Go.Proofs.YtjjnokodkeekhaaDoor.X
open Go.RowKit Go.Proofs.YtjjnokodkeekhaaDoorW.PrintWords Go.Proofs.YtjjnokodkeekhaaDoorW.PrintMore
set_option linter.unusedVariables false
set_option linter.unusedSimpArgs false
/-- The value at place i, d places ahead of the end, where v stands behind the end. -/
def pvd (f : Nat → Bool → Bool) (v : Bool) : Nat → Nat → Bool
  | _, 0 => v
  | i, d + 1 => f i (pvd f v (i + 1) d)
theorem getD_set (l : List Bool) (i j : Nat) (x : Bool) (hi : i < l.length) : (l.set i x).getD j false = if j = i then x else l.getD j false := by
  rw [List.getD_eq_getElem?_getD, List.getElem?_set, List.getD_eq_getElem?_getD]
  by_cases h : i = j
  · subst h
    rw [if_pos rfl, if_pos rfl, if_pos hi]; rfl
  · rw [if_neg h, if_neg (fun e => h e.symm)]
theorem pass_spec (f : Nat → Bool → Bool) (n b : Nat) (v : Bool) : ∀ (j : Nat) (out : List Bool), j ≤ n → b < n → out.length = n → (∀ i, j ≤ i → i < n → out.getD i false = pvd f v i (n - i)) → (j = n → out.getD b false = v) → ∀ i, i < n → (passD f n b j out).getD i false = pvd f v i (n - i)
  | 0, out, _, _, _, h, _, i, hi => by rw [passD]; exact h i (Nat.zero_le _) hi
  | j + 1, out, hj, hb, hl, h, hv, i, hi => by
    rw [passD]
    have hx : f j (out.getD (nextS n b j) false) = pvd f v j (n - j) := by
      unfold nextS
      by_cases hlt : j + 1 < n
      · rw [if_pos hlt, h (j + 1) (Nat.le_refl _) hlt, show n - j = (n - (j + 1)) + 1 by omega]; rfl
      · rw [if_neg hlt, hv (by omega), show n - j = 1 by omega]; rfl
    refine pass_spec f n b v j _ (by omega) hb (by simp [hl]) (fun i' h1 h2 => ?_) (fun e => by omega) i hi
    rw [getD_set _ _ _ _ (by omega)]
    by_cases e : i' = j
    · subst e; rw [if_pos rfl]; exact hx
    · rw [if_neg e]; exact h i' (by omega) h2
theorem pass_get (f : Nat → Bool → Bool) (n b : Nat) (out : List Bool) (hb : b < n) (hl : out.length = n) (i : Nat) (hi : i < n) : (passD f n b n out).getD i false = pvd f (out.getD b false) i (n - i) :=
  pass_spec f n b _ n out (Nat.le_refl _) hb hl (fun i h1 h2 => by omega) (fun _ => rfl) i hi
theorem rep_getD (n : Nat) (x : Bool) (b : Nat) (hb : b < n) : (List.replicate n x).getD b false = x := by
  rw [List.getD_eq_getElem?_getD, List.getElem?_replicate, if_pos hb]; rfl
theorem settle_get (f : Nat → Bool → Bool) (n b : Nat) (first : Bool) (hb : b < n) (i : Nat) (hi : i < n) : (settleS f n b first).getD i false = pvd f (pvd f first b (n - b)) i (n - i) := by
  unfold settleS
  rw [pass_get f n b _ hb (by simp [len_pass]) i hi, pass_get f n b _ hb (by simp) b hb, rep_getD n first b hb]
def MonoB (f : Nat → Bool → Bool) : Prop := ∀ i, f i false = true → f i true = true
theorem pvd_mono {f : Nat → Bool → Bool} (h : MonoB f) : ∀ (d i : Nat), pvd f false i d = true → pvd f true i d = true
  | 0, i, h0 => by cases h0
  | d + 1, i, h0 => by
    simp only [pvd] at h0 ⊢
    cases h1 : pvd f false (i + 1) d with
    | true => rw [h1] at h0; rw [pvd_mono h d (i + 1) h1]; exact h0
    | false =>
      rw [h1] at h0
      cases pvd f true (i + 1) d with
      | true => exact h i h0
      | false => exact h0
theorem pvd_idem {f : Nat → Bool → Bool} (h : MonoB f) (d i : Nat) (v : Bool) : pvd f (pvd f v i d) i d = pvd f v i d := by
  have hm := pvd_mono h d i
  cases v <;> cases h1 : pvd f false i d <;> cases h2 : pvd f true i d <;> simp_all
theorem ext_getD {l m : List Bool} {n : Nat} (hl : l.length = n) (hm : m.length = n) (h : ∀ i, i < n → l.getD i false = m.getD i false) : l = m := by
  apply List.ext_getElem (by omega)
  intro i h1 h2
  have := h i (by omega)
  rwa [List.getD_eq_getElem?_getD, List.getD_eq_getElem?_getD, List.getElem?_eq_getElem h1, List.getElem?_eq_getElem h2] at this
/-- A fixed point. -/
theorem settle_fix {f : Nat → Bool → Bool} (h : MonoB f) (n b : Nat) (first : Bool) (hb : b < n) (i : Nat) (hi : i < n) : (settleS f n b first).getD i false = f i ((settleS f n b first).getD (nextS n b i) false) := by
  rw [settle_get f n b first hb i hi, settle_get f n b first hb _ (nextS_lt hb)]
  unfold nextS
  by_cases hlt : i + 1 < n
  · rw [if_pos hlt, show n - i = (n - (i + 1)) + 1 by omega]; rfl
  · rw [if_neg hlt, pvd_idem h, show n - i = 1 by omega]; rfl
/-- What does not look at the next place. -/
theorem settle_const (f : Nat → Bool) (n b : Nat) (first : Bool) (hb : b < n) : settleS (fun i _ => f i) n b first = (List.range n).map f := by
  refine ext_getD (len_settle _ _ _ _) (by simp) (fun i hi => ?_)
  rw [settle_get _ n b first hb i hi, show n - i = (n - (i + 1)) + 1 by omega]
  simp [pvd, hi]
theorem mono_const (f : Nat → Bool) : MonoB (fun i _ => f i) := fun _ h => h
theorem mono_until (p q : Nat → Bool) : MonoB (fun i nx => q i || p i && nx) := fun i h => by cases h1 : q i <;> cases h2 : p i <;> simp_all
theorem mono_release (p q : Nat → Bool) : MonoB (fun i nx => q i && (p i || nx)) := fun i h => by cases h1 : q i <;> cases h2 : p i <;> simp_all
end Go.Proofs.YtjjnokodkeekhaaDoor.X

namespace Go.Proofs.YtjjnokodkeekhaaDoor.X
open Go.RowKit Go.Proofs.YtjjnokodkeekhaaDoorW.PrintWords Go.Proofs.YtjjnokodkeekhaaDoorW.PrintMore
open Go.Proofs.YtjjnokodkeekhaaDoor.P
set_option linter.unusedVariables false
set_option linter.unusedSimpArgs false
section
variable {ls : List Int} {b i : Nat} {m : Int} {f g : S24}
theorem const_at (φ : Nat → Bool) (n b : Nat) (first : Bool) (hb : b < n) (i : Nat) (hi : i < n) : (settleS (fun i _ => φ i) n b first).getD i false = φ i := by
  rw [settle_const φ n b first hb, List.getD_eq_getElem?_getD, List.getElem?_map, List.getElem?_range hi]
  rfl
theorem at_not (hb : b < ls.length) (hi : i < ls.length) : (rowS ls b ⟨3, m, [f]⟩).getD i false = !(rowS ls b f).getD i false := by rw [rowS]; exact const_at (fun i => !(rowS ls b f).getD i false) _ _ false hb i hi
theorem at_and (hb : b < ls.length) (hi : i < ls.length) : (rowS ls b ⟨4, m, [f, g]⟩).getD i false = ((rowS ls b f).getD i false && (rowS ls b g).getD i false) := by rw [rowS]; exact const_at (fun i => (rowS ls b f).getD i false && (rowS ls b g).getD i false) _ _ false hb i hi
theorem at_or (hb : b < ls.length) (hi : i < ls.length) : (rowS ls b ⟨5, m, [f, g]⟩).getD i false = ((rowS ls b f).getD i false || (rowS ls b g).getD i false) := by rw [rowS]; exact const_at (fun i => (rowS ls b f).getD i false || (rowS ls b g).getD i false) _ _ false hb i hi
theorem at_next (hb : b < ls.length) (hi : i < ls.length) : (rowS ls b ⟨6, m, [f]⟩).getD i false = (rowS ls b f).getD (nextS ls.length b i) false := by rw [rowS]; exact const_at (fun i => (rowS ls b f).getD (nextS ls.length b i) false) _ _ false hb i hi
theorem row_until (ls : List Int) (b : Nat) (m : Int) (f g : S24) : rowS ls b ⟨7, m, [f, g]⟩ = settleS (fun i nx => (rowS ls b g).getD i false || (rowS ls b f).getD i false && nx) ls.length b false := by rw [rowS]; rfl
theorem row_release (ls : List Int) (b : Nat) (m : Int) (f g : S24) : rowS ls b ⟨8, m, [f, g]⟩ = settleS (fun i nx => (rowS ls b g).getD i false && ((rowS ls b f).getD i false || nx)) ls.length b true := by rw [rowS]; rfl
theorem at_until (hb : b < ls.length) (hi : i < ls.length) : (rowS ls b ⟨7, m, [f, g]⟩).getD i false = ((rowS ls b g).getD i false || (rowS ls b f).getD i false && (rowS ls b ⟨7, m, [f, g]⟩).getD (nextS ls.length b i) false) := by
  rw [row_until]; exact settle_fix (mono_until (fun i => (rowS ls b f).getD i false) (fun i => (rowS ls b g).getD i false)) _ _ false hb i hi
theorem at_release (hb : b < ls.length) (hi : i < ls.length) : (rowS ls b ⟨8, m, [f, g]⟩).getD i false = ((rowS ls b g).getD i false && ((rowS ls b f).getD i false || (rowS ls b ⟨8, m, [f, g]⟩).getD (nextS ls.length b i) false)) := by
  rw [row_release]; exact settle_fix (mono_release (fun i => (rowS ls b f).getD i false) (fun i => (rowS ls b g).getD i false)) _ _ true hb i hi
end
/-- WHAT IS UNTIL IS THE SECOND, OR THE FIRST AND IT NEXT. -/
theorem until_unfold (ls : List Int) (b : Nat) (hb : b < ls.length) (f g : S24) : rowS ls b ⟨5, 0, [g, ⟨4, 0, [f, ⟨6, 0, [⟨7, 0, [f, g]⟩]⟩]⟩]⟩ = rowS ls b ⟨7, 0, [f, g]⟩ := by
  refine ext_getD (len_row _ _ _) (len_row _ _ _) (fun i hi => ?_)
  rw [at_or hb hi, at_and hb hi, at_next hb hi, ← at_until hb hi]
theorem release_unfold (ls : List Int) (b : Nat) (hb : b < ls.length) (f g : S24) : rowS ls b ⟨4, 0, [g, ⟨5, 0, [f, ⟨6, 0, [⟨8, 0, [f, g]⟩]⟩]⟩]⟩ = rowS ls b ⟨8, 0, [f, g]⟩ := by
  refine ext_getD (len_row _ _ _) (len_row _ _ _) (fun i hi => ?_)
  rw [at_and hb hi, at_or hb hi, at_next hb hi, ← at_release hb hi]
theorem pvd_not (f1 f2 : Nat → Bool → Bool) (n : Nat) (h : ∀ i nx, i < n → f2 i (!nx) = !f1 i nx) (v : Bool) : ∀ (d i : Nat), i + d ≤ n → pvd f2 (!v) i d = !pvd f1 v i d
  | 0, i, _ => rfl
  | d + 1, i, hi => by simp only [pvd]; rw [pvd_not f1 f2 n h v d (i + 1) (by omega), h i _ (by omega)]
theorem settle_not (F G : Nat → Bool → Bool) (n b : Nat) (hb : b < n) (h : ∀ i nx, i < n → G i (!nx) = !F i nx) (i : Nat) (hi : i < n) : (!(settleS F n b false).getD i false) = (settleS G n b true).getD i false := by
  rw [settle_get _ _ _ _ hb i hi, settle_get _ _ _ _ hb i hi, ← pvd_not F G n h _ (n - i) i (by omega), ← pvd_not F G n h _ (n - b) b (by omega)]
  rfl
/-- Release is until, turned about by not. -/
theorem release_dual (ls : List Int) (b : Nat) (hb : b < ls.length) (f g : S24) : rowS ls b ⟨3, 0, [⟨7, 0, [⟨3, 0, [f]⟩, ⟨3, 0, [g]⟩]⟩]⟩ = rowS ls b ⟨8, 0, [f, g]⟩ := by
  refine ext_getD (len_row _ _ _) (len_row _ _ _) (fun i hi => ?_)
  rw [at_not hb hi, row_until, row_release]
  refine settle_not _ _ ls.length b hb (fun j nx hj => ?_) i hi
  rw [at_not hb hj, at_not hb hj]
  cases (rowS ls b g).getD j false <;> cases (rowS ls b f).getD j false <;> cases nx <;> rfl
end Go.Proofs.YtjjnokodkeekhaaDoor.X

namespace Go.Proofs.YtjjnokodkeekhaaDoor.X
open Go.RowKit Go.Proofs.YtjjnokodkeekhaaDoorW.PrintWords Go.Proofs.YtjjnokodkeekhaaDoorW.PrintMore
open Go.Proofs.YtjjnokodkeekhaaDoor.P Go.Proofs.YtjjnokodkeekhaaDoor.Evx
set_option linter.unusedVariables false
set_option linter.unusedSimpArgs false
/-- Smaller. -/
structure SubF (t s : S24) : Prop where
  pn : nS t ≤ nS s
  ph : hS t ≤ hS s
  pt : tnS t ≤ tnS s
  ps : soundS s = true → soundS t = true
theorem SubF.refl (s : S24) : SubF s s := ⟨Nat.le_refl _, Nat.le_refl _, Nat.le_refl _, id⟩
theorem SubF.trans {a b c : S24} (h : SubF a b) (k : SubF b c) : SubF a c := ⟨Nat.le_trans h.pn k.pn, Nat.le_trans h.ph k.ph, Nat.le_trans h.pt k.pt, fun x => h.ps (k.ps x)⟩
theorem SubF.may {t s : S24} (h : SubF t s) (hm : mayF s = 0) : mayF t = 0 := by
  obtain ⟨h1, h2, h3, h4⟩ := may_zero hm
  rw [may_eq, if_pos (show nS t ≤ 60 ∧ hS t ≤ 12 ∧ tnS t ≤ 8 from ⟨Nat.le_trans h.pn h1, Nat.le_trans h.ph h2, Nat.le_trans h.pt h3⟩), if_pos (h.ps h4)]
theorem nL_mem : ∀ {l : List S24} {k : S24}, k ∈ l → nS k ≤ nL l ∧ hS k ≤ hL l ∧ tnS k ≤ tnL l
  | a :: r, k, h => by
    simp only [nL, hL, tnL]
    rcases List.mem_cons.1 h with e | e
    · subst e; omega
    · have := nL_mem e; omega
theorem SubF.kid {s k : S24} (h : k ∈ s.f2) : SubF k s := by
  obtain ⟨op, m, kids⟩ := s
  have := nL_mem (show k ∈ kids from h)
  refine ⟨?_, ?_, ?_, fun hs => sound_in (sound_kids_all hs) k h⟩
  · simp only [nS]; exact Nat.le_trans this.1 (by omega)
  · simp only [hS]; exact Nat.le_trans this.2.1 (by omega)
  · simp only [tnS]; exact Nat.le_trans this.2.2 (by omega)
theorem len_rowF {t : S24} {st lp : List Int} (h : mayF t = 0) (hw : wordS st lp = true) : (rowF t st lp).length = st.length + lp.length := by
  unfold rowF
  rw [if_pos ⟨h, hw⟩, len_row, List.length_append]
end Go.Proofs.YtjjnokodkeekhaaDoor.X

namespace Go.Proofs.YtjjnokodkeekhaaDoor.X
open Go.RowKit Go.Proofs.YtjjnokodkeekhaaDoorW.PrintWords Go.Proofs.YtjjnokodkeekhaaDoorW.PrintMore
open Go.Proofs.YtjjnokodkeekhaaDoor.P Go.Proofs.YtjjnokodkeekhaaDoor.Evx
set_option linter.unusedVariables false
set_option linter.unusedSimpArgs false
def untilS (s t : S24) : S24 := ⟨7, 0, [s, t]⟩
def releaseS (s t : S24) : S24 := ⟨8, 0, [s, t]⟩
def unfoldS (s t : S24) : S24 := ⟨5, 0, [t, ⟨4, 0, [s, ⟨6, 0, [⟨7, 0, [s, t]⟩]⟩]⟩]⟩
def openS (s t : S24) : S24 := ⟨4, 0, [t, ⟨5, 0, [s, ⟨6, 0, [⟨8, 0, [s, t]⟩]⟩]⟩]⟩
def dualS (s t : S24) : S24 := ⟨3, 0, [⟨7, 0, [⟨3, 0, [s]⟩, ⟨3, 0, [t]⟩]⟩]⟩
theorem sub_unfold (s t : S24) : SubF (untilS s t) (unfoldS s t) :=
  (SubF.kid (s := ⟨6, 0, [⟨7, 0, [s, t]⟩]⟩) (by simp [untilS])).trans ((SubF.kid (s := ⟨4, 0, [s, ⟨6, 0, [⟨7, 0, [s, t]⟩]⟩]⟩) (by simp)).trans (SubF.kid (s := unfoldS s t) (by simp [unfoldS])))
theorem sub_open (s t : S24) : SubF (releaseS s t) (openS s t) :=
  (SubF.kid (s := ⟨6, 0, [⟨8, 0, [s, t]⟩]⟩) (by simp [releaseS])).trans ((SubF.kid (s := ⟨5, 0, [s, ⟨6, 0, [⟨8, 0, [s, t]⟩]⟩]⟩) (by simp)).trans (SubF.kid (s := openS s t) (by simp [openS])))
theorem word_loop {st lp : List Int} (h : wordS st lp = true) : st.length < (st ++ lp).length := by
  unfold wordS at h
  have := of_decide_eq_true h
  rw [List.length_append]
  omega
theorem word_small {st lp : List Int} (h : wordS st lp = true) : st.length ≤ 3000 ∧ 1 ≤ lp.length ∧ lp.length ≤ 27000 := of_decide_eq_true h
theorem len_small {n a b : Nat} (h : n = a + b) (k : a ≤ 3000 ∧ 1 ≤ b ∧ b ≤ 27000) : n < 1000000000 := by omega
theorem len_wrap {a b : Nat} (k : a ≤ 3000 ∧ 1 ≤ b ∧ b ≤ 27000) : wrap64 ((a : Int) + (b : Int)) = (a : Int) + (b : Int) := w64 (by omega) (by omega)
theorem len_beq {n a b : Nat} (h : n = a + b) : ((n : Int) == (a : Int) + (b : Int)) = true := by rw [h]; simp
theorem rowF_of {s : S24} {st lp : List Int} (h : mayF s = 0) (hw : wordS st lp = true) : rowF s st lp = rowS (st ++ lp) st.length s := by unfold rowF; rw [if_pos ⟨h, hw⟩]
theorem steps_unfold {s t : S24} {st lp : List Int} (h : mayF (unfoldS s t) = 0) (hw : wordS st lp = true) : rowF (unfoldS s t) st lp = rowF (untilS s t) st lp := by
  rw [rowF_of h hw, rowF_of ((sub_unfold s t).may h) hw]
  exact until_unfold _ _ (word_loop hw) s t
theorem steps_open {s t : S24} {st lp : List Int} (h : mayF (openS s t) = 0) (hw : wordS st lp = true) : rowF (openS s t) st lp = rowF (releaseS s t) st lp := by
  rw [rowF_of h hw, rowF_of ((sub_open s t).may h) hw]
  exact release_unfold _ _ (word_loop hw) s t
theorem steps_dual {s t : S24} {st lp : List Int} (h : mayF (dualS s t) = 0) (k : mayF (openS s t) = 0) (hw : wordS st lp = true) : rowF (dualS s t) st lp = rowF (releaseS s t) st lp := by
  rw [rowF_of h hw, rowF_of ((sub_open s t).may k) hw]
  exact release_dual _ _ (word_loop hw) s t
end Go.Proofs.YtjjnokodkeekhaaDoor.X

namespace Go.Proofs.YtjjnokodkeekhaaDoor.X
open Go.RowKit Go.Proofs.YtjjnokodkeekhaaDoorW.PrintWords Go.Proofs.YtjjnokodkeekhaaDoorW.PrintMore
open Go.Proofs.YtjjnokodkeekhaaDoor.P Go.Proofs.YtjjnokodkeekhaaDoor.Evx
set_option linter.unusedVariables false
set_option linter.unusedSimpArgs false
/-- What weigh tells is a number from 1 to 1000. -/
def WeiAt (s : S24) : Prop := ∀ (d r : Int), 0 ≤ d → d ≤ 41 → 0 ≤ r → r ≤ 500 → ∃ n : Int, Ev (fun k => parrylaw22_weigh.f k s.f0 s.f1 s.f2 d r) n ∧ 1 ≤ n ∧ n ≤ 1000
theorem weigh_l (kids : List S24) (d r : Int) (hd0 : 0 ≤ d) (hd : d ≤ 40) (hr0 : 1 ≤ r) (hr : r ≤ 500) (ih : ∀ k ∈ kids, WeiAt k) :
    ∀ (e j : Nat) (n : Int), j + e = kids.length → (j : Int) < n → n ≤ r → ∃ n' : Int, Ev (fun k => parrylaw22_weigh.l0 k d r n kids (kids.length : Int) j) n' ∧ 1 ≤ n' ∧ n' ≤ 1000
  | 0, j, n, hj, h1, h2 => ⟨n, ev_step (fun k => rfl) (ev_neg (by omega) (ev_some _)), by omega, by omega⟩
  | e + 1, j, n, hj, h1, h2 => by
    have hlt : j < kids.length := by omega
    obtain ⟨x, hx, x1, x2⟩ := ih _ (List.getElem_mem hlt) (d + 1) (r - n) (by omega) (by omega) (by omega) (by omega)
    by_cases hc : n + x > r
    · refine ⟨1000, ev_step (fun k => rfl) (ev_pos (by omega) (ev_pos (by omega) (ev_pos (by omega) ?_))), by omega, by omega⟩
      rw [rdT_nat kids j hlt, w64 (x := d + 1) (by omega) (by omega), w64 (x := r - n) (by omega) (by omega)]
      refine ev_bind hx ?_
      rw [w64 (by omega) (by omega)]
      exact ev_pos hc (ev_some _)
    · obtain ⟨n', hn', a1, a2⟩ := weigh_l kids d r hd0 hd hr0 hr ih e (j + 1) (n + x) (by omega) (by omega) (by omega)
      refine ⟨n', ev_step (fun k => rfl) (ev_pos (by omega) (ev_pos (by omega) (ev_pos (by omega) ?_))), a1, a2⟩
      rw [rdT_nat kids j hlt, w64 (x := d + 1) (by omega) (by omega), w64 (x := r - n) (by omega) (by omega)]
      refine ev_bind hx ?_
      rw [w64 (x := n + x) (by omega) (by omega), w64 (x := (j : Int) + 1) (by omega) (by omega)]
      refine ev_neg hc ?_
      exact_mod_cast hn'
mutual
theorem weigh_ev : ∀ s : S24, WeiAt s
  | ⟨op, m, kids⟩ => by
    intro d r h1 h2 h3 h4
    have ih := weigh_evL kids
    by_cases hd : d > 40
    · exact ⟨1000, ev_step (fun k => rfl) (ev_pos hd (ev_step (f := fun _ => some 1000) (fun k => rfl) (ev_some _))), by omega, by omega⟩
    · by_cases hr : r < 1
      · exact ⟨1000, ev_step (fun k => rfl) (ev_neg hd (ev_step (fun k => rfl) (ev_pos (decide_eq_true hr) (ev_some _)))), by omega, by omega⟩
      · obtain ⟨n', hn', a1, a2⟩ := weigh_l kids d r h1 (by omega) (by omega) h4 ih kids.length 0 1 (by omega) (by omega) (by omega)
        exact ⟨n', ev_step (fun k => rfl) (ev_neg hd (ev_step (fun k => rfl) (ev_neg (by rw [decide_eq_false hr]; simp) hn'))), a1, a2⟩
theorem weigh_evL : ∀ l : List S24, ∀ k ∈ l, WeiAt k
  | [], k, hk => by cases hk
  | a :: r, k, hk => by
    rcases List.mem_cons.1 hk with e | e
    · rw [e]; exact weigh_ev a
    · exact weigh_evL r k e
end
theorem heavy_ev (s : S24) : ∃ n : Int, Ev (fun k => parrylaw22_Heavy.f k s.f0 s.f1 s.f2) n ∧ 0 ≤ n ∧ n ≤ 1000 := by
  obtain ⟨n, hn, a1, a2⟩ := weigh_ev s 0 500 (by omega) (by omega) (by omega) (by omega)
  unfold parrylaw22_Heavy.f
  by_cases h : n > 300
  · exact ⟨n, ev_bind hn (ev_pos h (ev_some _)), by omega, by omega⟩
  · exact ⟨0, ev_bind hn (ev_neg h (ev_some _)), by omega, by omega⟩
theorem long_some (st lp : List Int) : ∃ n : Int, parrylaw22_Long.f st lp = some n ∧ 0 ≤ n ∧ n ≤ 1 ∧ (n = 0 → st.length ≤ 60 ∧ lp.length ≤ 60) := by
  unfold parrylaw22_Long.f
  by_cases h1 : (st.length : Int) > 60
  · exact ⟨1, by rw [if_pos h1], by omega, by omega, by omega⟩
  · by_cases h2 : (lp.length : Int) > 60
    · exact ⟨1, by rw [if_neg h1, if_pos h2], by omega, by omega, by omega⟩
    · exact ⟨0, by rw [if_neg h1, if_neg h2], by omega, by omega, by omega⟩
end Go.Proofs.YtjjnokodkeekhaaDoor.X

namespace Go.Proofs.YtjjnokodkeekhaaDoor.X
open Go.RowKit Go.Proofs.YtjjnokodkeekhaaDoorW.PrintWords Go.Proofs.YtjjnokodkeekhaaDoorW.PrintLast Go.Proofs.YtjjnokodkeekhaaDoorW.PrintMore
open Go.Proofs.YtjjnokodkeekhaaDoor.P Go.Proofs.YtjjnokodkeekhaaDoor.Evx
set_option linter.unusedSimpArgs false
set_option linter.unusedVariables false
theorem same_row_l (l : List Bool) (hl : l.length < 1000000000) : ∀ (e j : Nat), j + e = l.length → Ev (fun k => parryref9_SameRow.l0 k l l (l.length : Int) j) true
  | 0, j, hj => ev_step (fun k => rfl) (ev_neg (by omega) (ev_some _))
  | e + 1, j, hj => by
    refine ev_step (fun k => rfl) (ev_pos (by omega) (ev_pos (by omega) (ev_pos (by omega) (ev_pos (by omega) (ev_neg (by simp) ?_)))))
    rw [w64 (by omega) (by omega)]
    exact_mod_cast same_row_l l hl e (j + 1) (by omega)
theorem same_row_ev (l : List Bool) (hl : l.length < 1000000000) : Ev (fun k => parryref9_SameRow.f k l l) true := by
  unfold parryref9_SameRow.f
  exact ev_pos rfl (same_row_l l hl l.length 0 (by omega))
theorem same_row_calls (l : List Bool) (A B : Option Addr) (ca cb : Nat) (W : World) (h1 : Kd.C Kd.bool W A l.length l) (hc1 : l.length ≤ ca) (h2 : Kd.C Kd.bool W B l.length l) (hc2 : l.length ≤ cb) (hl : l.length < 1000000000) :
    Calls Tryd.prog 16 #[.slice A l.length ca, .slice B l.length cb] W fun e w' => e = .returned (.bool true) ∧ Below W.heap.size W w' := by
  obtain ⟨k, hk⟩ := (same_row_ev l hl).rounds
  exact (parryref9_SameRow.calls k A ca l B cb l true W h1 hc1 h2 hc2 hk).mono (fun e w' h => ⟨h.1, h.2.below⟩)
def fst.T1 : Bool × List (List Nat × List Nat) := (true, [([], []), ([0], [0]), ([], []), ([2, 1], [2]), ([1, 3], [1, 3]), ([], []), ([5, 3], [5]), ([4, 6], [4, 6]), ([7], [7])])
def fst.B1 : List Nat := [0, 1, 0, 7, 15, 0, 47, 127, 255]
theorem fst.tab1 : rtab .any (opsOf Tryd.f3 1) = fst.T1 := by kernel_rfl
theorem fst.bits1 : waitsOk fst.T1.2 fst.B1 = true := by kernel_rfl
def fst.T3 : Bool × List (List Nat × List Nat) := (true, [([], []), ([], []), ([0, 1], [0, 1]), ([2], [2]), ([], []), ([], []), ([4, 5], [4, 5]), ([6, 3], [6]), ([], []), ([], []), ([8, 3, 7, 0, 1, 2, 3, 8, 9], [3, 8]), ([9, 7, 10, 0, 1, 2, 3, 4, 5, 6, 7, 8, 9, 10], [7, 9])])
def fst.B3 : List Nat := [0, 0, 3, 7, 0, 0, 48, 127, 0, 0, 1023, 2047]
theorem fst.tab3 : rtab .any (opsOf Tryd.f3 3) = fst.T3 := by kernel_rfl
theorem fst.bits3 : waitsOk fst.T3.2 fst.B3 = true := by kernel_rfl
def fst.T4 : Bool × List (List Nat × List Nat) := (true, [([], []), ([], []), ([], []), ([2], [2]), ([3], [3]), ([1, 4], [1, 4]), ([5, 4], [5]), ([0, 6], [0, 6]), ([7, 6], [7]), ([], []), ([9, 8, 8, 0, 1, 2, 3, 4, 5, 6, 7, 8, 9], [8, 9])])
def fst.B4 : List Nat := [0, 0, 0, 4, 12, 30, 62, 127, 255, 0, 1023]
theorem fst.tab4 : rtab .any (opsOf Tryd.f3 4) = fst.T4 := by kernel_rfl
theorem fst.bits4 : waitsOk fst.T4.2 fst.B4 = true := by kernel_rfl
def fst.T5 : Bool × List (List Nat × List Nat) := (true, [([], []), ([0], [0]), ([1], [1]), ([], []), ([3], [3]), ([4, 2], [4]), ([2, 5], [2, 5]), ([6, 5], [6]), ([7], [7]), ([8, 7], [8]), ([], []), ([10, 9, 9, 0, 1, 2, 3, 4, 5, 6, 7, 8, 9, 10], [9, 10])])
def fst.B5 : List Nat := [0, 1, 3, 0, 8, 31, 63, 127, 255, 511, 0, 2047]
theorem fst.tab5 : rtab .any (opsOf Tryd.f3 5) = fst.T5 := by kernel_rfl
theorem fst.bits5 : waitsOk fst.T5.2 fst.B5 = true := by kernel_rfl
def fst.T6 : Bool × List (List Nat × List Nat) := (true, [([], []), ([], []), ([], []), ([2], [2]), ([3], [3]), ([1, 4], [1, 4]), ([5, 4], [5]), ([0, 6], [0, 6]), ([7, 6], [7]), ([], []), ([9, 8, 8, 0, 1, 2, 3, 4, 5, 6, 7, 8, 9], [8, 9])])
def fst.B6 : List Nat := [0, 0, 0, 4, 12, 30, 62, 127, 255, 0, 1023]
theorem fst.tab6 : rtab .any (opsOf Tryd.f3 6) = fst.T6 := by kernel_rfl
theorem fst.bits6 : waitsOk fst.T6.2 fst.B6 = true := by kernel_rfl
def fst.T10 : Bool × List (List Nat × List Nat) := (true, [([], []), ([], []), ([0, 1], [0, 1]), ([], []), ([], []), ([3, 4, 2], [3, 4]), ([], []), ([], []), ([6, 7, 5], [6, 7]), ([2, 8, 0, 1, 2], [2]), ([5, 9, 0, 1, 2, 3, 4, 5, 9], [5]), ([8, 10, 0, 1, 2, 3, 4, 5, 6, 7, 8, 9, 10], [8])])
def fst.B10 : List Nat := [0, 0, 3, 0, 0, 31, 0, 0, 255, 511, 1023, 2047]
theorem fst.tab10 : rtab .any (opsOf Tryd.f3 10) = fst.T10 := by kernel_rfl
theorem fst.bits10 : waitsOk fst.T10.2 fst.B10 = true := by kernel_rfl
set_option maxHeartbeats 16000000 in
set_option maxRecDepth 100000 in
theorem steps_calls (s t : S24) (st lp : List Int) (A B A1 A2 : Option Addr) (cp cq c1 c2 : Nat) (w : World) (hk : Kd.C k24 w A s.f2.length s.f2) (hc : s.f2.length ≤ cp) (hm : Kd.C k24 w B t.f2.length t.f2) (hcm : t.f2.length ≤ cq) (h1 : Kd.C (Kd.int .u32) w A1 st.length st) (hc1 : st.length ≤ c1) (h2 : Kd.C (Kd.int .u32) w A2 lp.length lp) (hc2 : lp.length ≤ c2) :
    Calls Tryd.prog 3 #[.agg #[.int .i64 s.f0, .int .i64 s.f1, .slice A s.f2.length cp], .agg #[.int .i64 t.f0, .int .i64 t.f1, .slice B t.f2.length cq], .agg #[.slice A1 st.length c1, .slice A2 lp.length c2]] w fun e w' => e = .returned (.bool true) ∧ Below w.heap.size w w' := by
  have huF := Tryd.underlying24
  have huW := Tryd.underlying27
  have huL := Tryd.underlying22
  have huu := Tryd.underlying25
  have hub := Tryd.underlying35
  obtain ⟨V1, hV1⟩ : ∃ V1, V1 = w.alloc (.cells #[.int .i64 s.f0, .int .i64 s.f1, .slice A s.f2.length cp] 24) := ⟨_, rfl⟩
  obtain ⟨V2, hV2⟩ : ∃ V2, V2 = V1.alloc (.cells #[.int .i64 t.f0, .int .i64 t.f1, .slice B t.f2.length cq] 24) := ⟨_, rfl⟩
  obtain ⟨W0, hW0⟩ : ∃ W0, W0 = V2.alloc (.cells #[.slice A1 st.length c1, .slice A2 lp.length c2] 27) := ⟨_, rfl⟩
  have hz1 : V1.heap.size = w.heap.size + 1 := by rw [hV1]; simp
  have hz2 : V2.heap.size = w.heap.size + 1 + 1 := by rw [hV2, ← hz1]; simp
  have HB0 := Aside0.mk (show Below w.heap.size w W0 from by rw [hW0, hV2, hV1]; exact below_alloc (below_alloc (below_alloc (Below.refl _ _) _) _) _)
  have HF0 := Aside0.mk (show W0.heap[w.heap.size]? = some (.cells #[.int .i64 s.f0, .int .i64 s.f1, .slice A s.f2.length cp] 24 (0, 0)) from by rw [hW0, hV2, hV1]; exact blk_alloc (blk_alloc (heap_alloc_new w _) _) _)
  have HG0 := Aside0.mk (show W0.heap[w.heap.size + 1]? = some (.cells #[.int .i64 t.f0, .int .i64 t.f1, .slice B t.f2.length cq] 24 (0, 0)) from by rw [hW0, hV2, ← hz1]; exact blk_alloc (heap_alloc_new V1 _) _)
  have HL0 := Aside0.mk (show W0.heap[w.heap.size + 1 + 1]? = some (.cells #[.slice A1 st.length c1, .slice A2 lp.length c2] 27 (0, 0)) from by rw [hW0, ← hz2]; exact heap_alloc_new V2 _)
  have HW0 := Aside0.mk (show W0 = ((w.alloc (.cells #[.int .i64 s.f0, .int .i64 s.f1, .slice A s.f2.length cp] 24)).alloc (.cells #[.int .i64 t.f0, .int .i64 t.f1, .slice B t.f2.length cq] 24)).alloc (.cells #[.slice A1 st.length c1, .slice A2 lp.length c2] 27) from by rw [hW0, hV2, hV1])
  clear hV1 hV2 hW0 hz1 hz2
  have HKs := Aside0.mk hk
  have HKt := Aside0.mk hm
  have HK1 := Aside0.mk h1
  have HK2 := Aside0.mk h2
  obtain ⟨v1, hv1, n1, m1⟩ := heavy_ev s
  obtain ⟨v2, hv2, n2, m2⟩ := heavy_ev t
  obtain ⟨v3, hv3, n3, m3, _⟩ := long_some st lp
  obtain ⟨k1, hk1⟩ := hv1.rounds
  obtain ⟨k2, hk2⟩ := hv2.rounds
  have HHF := Aside0.mk (fun W (h : Below w.heap.size w W) => parrylaw22_Heavy.calls k1 s.f0 s.f1 A cp s.f2 v1 W (Kd.C_below hk h) hc hk1)
  have HHG := Aside0.mk (fun W (h : Below w.heap.size w W) => parrylaw22_Heavy.calls k2 t.f0 t.f1 B cq t.f2 v2 W (Kd.C_below hm h) hcm hk2)
  have HHL := Aside0.mk (fun W (h : Below w.heap.size w W) => parrylaw22_Long.calls A1 c1 st A2 c2 lp v3 W (Kd.C_below h1 h) hc1 (Kd.C_below h2 h) hc2 hv3)
  have hw1 : wrap64 (v1 + v2) = v1 + v2 := w64 (by omega) (by omega)
  have hw2 : wrap64 (v1 + v2 + v3) = v1 + v2 + v3 := w64 (by omega) (by omega)
  clear hk hm h1 h2 hv1 hv2 hv3 hk1 hk2
  go_enter Tryd.func3, Tryd.ntmps3
  go_upto_region 1 with fail
  rw [← HW0.out]
  clear HW0
  go_cut [24] (fun v24 wx => ∃ hb : Bool, v24 = .bool hb ∧ Aside0 (Below W0.heap.size W0 wx))
  case first =>
    refine start_ (n := 9) (S := fun w' => w'.cell? ⟨w.heap.size, 0, none⟩ = some (.int .i64 s.f0) ∧ w'.cell? ⟨w.heap.size, 1, none⟩ = some (.int .i64 s.f1) ∧ w'.cell? ⟨w.heap.size, 2, none⟩ = some (.slice A s.f2.length cp) ∧ w'.cell? ⟨w.heap.size + 1, 0, none⟩ = some (.int .i64 t.f0) ∧ w'.cell? ⟨w.heap.size + 1, 1, none⟩ = some (.int .i64 t.f1) ∧ w'.cell? ⟨w.heap.size + 1, 2, none⟩ = some (.slice B t.f2.length cq) ∧ w'.cell? ⟨w.heap.size + 1 + 1, 0, none⟩ = some (.slice A1 st.length c1) ∧ w'.cell? ⟨w.heap.size + 1 + 1, 1, none⟩ = some (.slice A2 lp.length c2)) (ds := []) #[false, false, false, false, false, false, false, false, false] (by kernel_rfl) rfl rfl ⟨((blk_cell HF0.out 0).trans rfl), ((blk_cell HF0.out 1).trans rfl), ((blk_cell HF0.out 2).trans rfl), ((blk_cell HG0.out 0).trans rfl), ((blk_cell HG0.out 1).trans rfl), ((blk_cell HG0.out 2).trans rfl), ((blk_cell HL0.out 0).trans rfl), ((blk_cell HL0.out 1).trans rfl)⟩ (fun hHeld => ?_)
    refine with_tabW fst.tab1 fst.bits1 (fun HT_ HW_ => ?_)
    refine take_ (i := 0) (N := some 16) (v := ?_) (a' := ?_) #[true, false, false, false, false, false, false, false, false] rfl rfl (take_ofW HT_.out HW_.out (by kernel_rfl)) (fun _ _ _ h => h) (Or.inl ⟨by rfl, ?_⟩) hHeld ?_ ?_
    rotate_left
    · rintro w' ⟨s0, s1, s2, s3, s4, s5, s6, s7⟩
      go_simp
      with_reducible rfl
    rotate_left
    · simp only [Act.put, List.setIfInBounds_toArray, List.set_cons_zero, List.set_cons_succ, i64_w, i32_w]
      rfl
    refine take_ (i := 2) (N := some 18) (v := ?_) (a' := ?_) #[true, false, true, false, false, false, false, false, false] rfl rfl (take_ofW HT_.out HW_.out (by kernel_rfl)) (fun _ _ _ h => h) (Or.inl ⟨by rfl, ?_⟩) hHeld ?_ ?_
    rotate_left
    · rintro w' ⟨s0, s1, s2, s3, s4, s5, s6, s7⟩
      go_simp
      with_reducible rfl
    rotate_left
    · simp only [Act.put, List.setIfInBounds_toArray, List.set_cons_zero, List.set_cons_succ, i64_w, i32_w]
      rfl
    refine take_ (i := 5) (N := some 21) (v := ?_) (a' := ?_) #[true, false, true, false, false, true, false, false, false] rfl rfl (take_ofW HT_.out HW_.out (by kernel_rfl)) (fun _ _ _ h => h) (Or.inl ⟨by rfl, ?_⟩) hHeld ?_ ?_
    rotate_left
    · rintro w' ⟨s0, s1, s2, s3, s4, s5, s6, s7⟩
      go_simp
      with_reducible rfl
    rotate_left
    · simp only [Act.put, List.setIfInBounds_toArray, List.set_cons_zero, List.set_cons_succ, i64_w, i32_w]
      rfl
    refine one_ (i := 1) (N := some 17) #[true, true, true, false, false, true, false, false, false] rfl rfl (one_of HT_.out (by kernel_rfl)) (by decide) (fun K hK => ?_)
    refine goes_ Tryd.func9 (by kernel_rfl) rfl #[.agg #[.int .i64 s.f0, .int .i64 s.f1, .slice A s.f2.length cp]] (by rfl) rfl rfl (by simp only [List.map_toArray, List.map_cons, List.map_nil]; rfl) ?_
    with_reducible refine (HHF.out _ (HB0.out.trans ((show Below W0.heap.size W0 W0.drew from below_drew1 (Below.refl _ _)).mono HB0.out.size))).mono ?_
    rintro e_ wc1 ⟨rfl, hB⟩
    have HBc1 := Aside0.mk (show Below W0.heap.size W0 wc1 from (below_drew1 (Below.refl _ _)).trans hB)
    clear hB
    have hkF1 := (HBc1.out.block _ (blk_lt HF0.out)).trans HF0.out
    have hkG1 := (HBc1.out.block _ (blk_lt HG0.out)).trans HG0.out
    have hkL1 := (HBc1.out.block _ (blk_lt HL0.out)).trans HL0.out
    refine ⟨_, rfl, ?_⟩
    refine hK.out _ _ ⟨((blk_cell hkF1 0).trans rfl), ((blk_cell hkF1 1).trans rfl), ((blk_cell hkF1 2).trans rfl), ((blk_cell hkG1 0).trans rfl), ((blk_cell hkG1 1).trans rfl), ((blk_cell hkG1 2).trans rfl), ((blk_cell hkL1 0).trans rfl), ((blk_cell hkL1 1).trans rfl)⟩ (fun hHeld => ?_)
    clear hK K
    refine norm_ (a' := ?_) ?_ ?_
    rotate_left
    · show Act.put _ (some 17) _ = _
      simp only [Act.put, List.setIfInBounds_toArray, List.set_cons_zero, List.set_cons_succ, i64_w, i32_w]
      rfl
    refine one_ (i := 3) (N := some 19) #[true, true, true, true, false, true, false, false, false] rfl rfl (one_of HT_.out (by kernel_rfl)) (by decide) (fun K hK => ?_)
    refine goes_ Tryd.func9 (by kernel_rfl) rfl #[.agg #[.int .i64 t.f0, .int .i64 t.f1, .slice B t.f2.length cq]] (by rfl) rfl rfl (by simp only [List.map_toArray, List.map_cons, List.map_nil]; rfl) ?_
    with_reducible refine (HHG.out _ (HB0.out.trans (HBc1.out.mono HB0.out.size))).mono ?_
    rintro e_ wc3 ⟨rfl, hB⟩
    have HBc3 := Aside0.mk (show Below W0.heap.size W0 wc3 from HBc1.out.trans (hB.mono HBc1.out.size))
    clear hB
    have hkF3 := (HBc3.out.block _ (blk_lt HF0.out)).trans HF0.out
    have hkG3 := (HBc3.out.block _ (blk_lt HG0.out)).trans HG0.out
    have hkL3 := (HBc3.out.block _ (blk_lt HL0.out)).trans HL0.out
    refine ⟨_, rfl, ?_⟩
    refine hK.out _ _ ⟨((blk_cell hkF3 0).trans rfl), ((blk_cell hkF3 1).trans rfl), ((blk_cell hkF3 2).trans rfl), ((blk_cell hkG3 0).trans rfl), ((blk_cell hkG3 1).trans rfl), ((blk_cell hkG3 2).trans rfl), ((blk_cell hkL3 0).trans rfl), ((blk_cell hkL3 1).trans rfl)⟩ (fun hHeld => ?_)
    clear hK K
    refine norm_ (a' := ?_) ?_ ?_
    rotate_left
    · show Act.put _ (some 19) _ = _
      simp only [Act.put, List.setIfInBounds_toArray, List.set_cons_zero, List.set_cons_succ, i64_w, i32_w]
      rfl
    refine pure_ (i := 4) (N := some 20) (v := ?_) (a' := ?_) #[true, true, true, true, true, true, false, false, false] rfl rfl (any_of HT_.out (by kernel_rfl)) (fun _ _ _ h => h) (Or.inl ⟨by rfl, ?_⟩) ?_ ?_
    rotate_left
    · intro w'
      go_simp
      with_reducible rfl
    rotate_left
    · simp only [Act.put, List.setIfInBounds_toArray, List.set_cons_zero, List.set_cons_succ, i64_w, i32_w]
      rfl
    refine one_ (i := 6) (N := some 22) #[true, true, true, true, true, true, true, false, false] rfl rfl (one_of HT_.out (by kernel_rfl)) (by decide) (fun K hK => ?_)
    refine goes_ Tryd.func10 (by kernel_rfl) rfl #[.agg #[.slice A1 st.length c1, .slice A2 lp.length c2]] (by rfl) rfl rfl (by simp only [List.map_toArray, List.map_cons, List.map_nil]; rfl) ?_
    with_reducible refine (HHL.out _ (HB0.out.trans (HBc3.out.mono HB0.out.size))).mono ?_
    rintro e_ wc6 ⟨rfl, hB⟩
    have HBc6 := Aside0.mk (show Below W0.heap.size W0 wc6 from HBc3.out.trans (hB.mono HBc3.out.size))
    clear hB
    have hkF6 := (HBc6.out.block _ (blk_lt HF0.out)).trans HF0.out
    have hkG6 := (HBc6.out.block _ (blk_lt HG0.out)).trans HG0.out
    have hkL6 := (HBc6.out.block _ (blk_lt HL0.out)).trans HL0.out
    refine ⟨_, rfl, ?_⟩
    refine hK.out _ _ ⟨((blk_cell hkF6 0).trans rfl), ((blk_cell hkF6 1).trans rfl), ((blk_cell hkF6 2).trans rfl), ((blk_cell hkG6 0).trans rfl), ((blk_cell hkG6 1).trans rfl), ((blk_cell hkG6 2).trans rfl), ((blk_cell hkL6 0).trans rfl), ((blk_cell hkL6 1).trans rfl)⟩ (fun hHeld => ?_)
    clear hK K
    refine norm_ (a' := ?_) ?_ ?_
    rotate_left
    · show Act.put _ (some 22) _ = _
      simp only [Act.put, List.setIfInBounds_toArray, List.set_cons_zero, List.set_cons_succ, i64_w, i32_w]
      rfl
    refine pure_ (i := 7) (N := some 23) (v := ?_) (a' := ?_) #[true, true, true, true, true, true, true, true, false] rfl rfl (any_of HT_.out (by kernel_rfl)) (fun _ _ _ h => h) (Or.inl ⟨by rfl, ?_⟩) ?_ ?_
    rotate_left
    · intro w'
      go_simp
      with_reducible rfl
    rotate_left
    · simp only [Act.put, List.setIfInBounds_toArray, List.set_cons_zero, List.set_cons_succ, i64_w, i32_w]
      rfl
    refine pure_ (i := 8) (N := some 24) (v := ?_) (a' := ?_) #[true, true, true, true, true, true, true, true, true] rfl rfl (any_of HT_.out (by kernel_rfl)) (fun _ _ _ h => h) (Or.inl ⟨by rfl, ?_⟩) ?_ ?_
    rotate_left
    · intro w'
      go_simp
      with_reducible rfl
    rotate_left
    · simp only [Act.put, List.setIfInBounds_toArray, List.set_cons_zero, List.set_cons_succ, i64_w, i32_w]
      rfl
    refine done_ (done_of HT_.out (by kernel_rfl)) ?_
    go_wp2_with fail
    go_meet
    exact ⟨_, rfl, HBc6⟩
  case rest =>
    obtain ⟨hb, rfl, HBc⟩ := hcut
    have HB2 := Aside0.mk (HB0.out.trans (HBc.out.mono HB0.out.size))
    obtain ⟨W2, rfl⟩ : ∃ W2 : World, W2 = wc := ⟨_, rfl⟩
    have HF2 := Aside0.mk ((HBc.out.block _ (blk_lt HF0.out)).trans HF0.out)
    have HG2 := Aside0.mk ((HBc.out.block _ (blk_lt HG0.out)).trans HG0.out)
    have HL2 := Aside0.mk ((HBc.out.block _ (blk_lt HL0.out)).trans HL0.out)
    clear hw1 hw2
    cases hb with
    | true =>
      go_wp2_with (go_at_call 11; refine (awake_calls _).mono ?_; rintro e_ w9 ⟨rfl, hB⟩; have HBz := Aside0.mk (HB2.out.trans (hB.mono HB2.out.size)); clear hB)
      go_ret
      exact ⟨rfl, HBz.out⟩
    | false =>
      clear n1 m1 n2 m2 n3 m3
      go_upto_region 3 with fail
      have BW := Aside0.mk (below_drew1 (Below.refl W2.heap.size W2))
      refine start_ (n := 12) (S := fun w' => True) (ds := []) #[false, false, false, false, false, false, false, false, false, false, false, false] (by kernel_rfl) rfl rfl trivial (fun hHeld => ?_)
      refine with_tabW fst.tab3 fst.bits3 (fun HT_ HW_ => ?_)
      refine inv_at [0, 1, 2, 3, 4, 5, 6, 7, 8, 9, 10, 11] (fun a0_ b a w' => ∃ (ga2 : Nat) (ga6 : Nat) (pa8 : Nat) (pa9 : Nat) (m2_ : Value) (m3_ : Value) (m6_ : Value) (m7_ : Value) (m8_ : Value) (m9_ : Value), a = putSel a0_ b [(0, 26, .agg #[.int .i64 s.f0, .int .i64 s.f1, .slice A s.f2.length cp]), (1, 27, .agg #[.int .i64 t.f0, .int .i64 t.f1, .slice B t.f2.length cq]), (2, 28, m2_), (3, 29, m3_), (4, 30, .agg #[.int .i64 s.f0, .int .i64 s.f1, .slice A s.f2.length cp]), (5, 31, .agg #[.int .i64 t.f0, .int .i64 t.f1, .slice B t.f2.length cq]), (6, 32, m6_), (7, 33, m7_), (8, 7, m8_), (9, 8, m9_)] ∧ (Below W2.heap.size W2 w') ∧ (b 2 = true → Lay W2 w' ga2 #[.int .i64 s.f0, .int .i64 s.f1, .slice A s.f2.length cp, .int .i64 t.f0, .int .i64 t.f1, .slice B t.f2.length cq] 24) ∧ (b 6 = true → Lay W2 w' ga6 #[.int .i64 s.f0, .int .i64 s.f1, .slice A s.f2.length cp, .int .i64 t.f0, .int .i64 t.f1, .slice B t.f2.length cq] 24) ∧ (b 8 = true → b 10 = false → Lay W2 w' pa8 #[.int .i64 0, .int .i64 0, .slice none 0 0] 24) ∧ (b 9 = true → b 11 = false → Lay W2 w' pa9 #[.int .i64 0, .int .i64 0, .slice none 0 0] 24) ∧ (b 10 = true → Lay W2 w' pa8 #[.int .i64 7, .int .i64 0, .slice (some ⟨ga2, 0, none⟩) 2 2] 24) ∧ (b 11 = true → Lay W2 w' pa9 #[.int .i64 8, .int .i64 0, .slice (some ⟨ga6, 0, none⟩) 2 2] 24) ∧ (b 2 = true → b 8 = true → ga2 ≠ pa8) ∧ (b 2 = true → b 9 = true → ga2 ≠ pa9) ∧ (b 6 = true → b 8 = true → ga6 ≠ pa8) ∧ (b 6 = true → b 9 = true → ga6 ≠ pa9) ∧ (b 8 = true → b 9 = true → pa8 ≠ pa9) ∧ (b 2 = true → (m2_ : Value) = .slice (some ⟨ga2, 0, none⟩) 2 2) ∧ (b 3 = true → (m3_ : Value) = .agg #[.int .i64 7, .int .i64 0, .slice (some ⟨ga2, 0, none⟩) 2 2]) ∧ (b 6 = true → (m6_ : Value) = .slice (some ⟨ga6, 0, none⟩) 2 2) ∧ (b 7 = true → (m7_ : Value) = .agg #[.int .i64 8, .int .i64 0, .slice (some ⟨ga6, 0, none⟩) 2 2]) ∧ (b 8 = true → (m8_ : Value) = .pointer (some ⟨pa8, 0, none⟩)) ∧ (b 9 = true → (m9_ : Value) = .pointer (some ⟨pa9, 0, none⟩))) HT_.out HW_.out (by kernel_rfl) (by kernel_rfl) ?_ ?_ ?_
      · exact ⟨0, 0, 0, 0, .bool false, .bool false, .bool false, .bool false, .bool false, .bool false, by simp only [putSel, Bool.false_eq_true, if_false], BW.out, fun h_ => absurd h_ (by decide), fun h_ => absurd h_ (by decide), fun h_ => absurd h_ (by decide), fun h_ => absurd h_ (by decide), fun h_ => absurd h_ (by decide), fun h_ => absurd h_ (by decide), fun h_ => absurd h_ (by decide), fun h_ => absurd h_ (by decide), fun h_ => absurd h_ (by decide), fun h_ => absurd h_ (by decide), fun h_ => absurd h_ (by decide), fun h_ => absurd h_ (by decide), fun h_ => absurd h_ (by decide), fun h_ => absurd h_ (by decide), fun h_ => absurd h_ (by decide), fun h_ => absurd h_ (by decide), fun h_ => absurd h_ (by decide)⟩
      · skip
        clear BW
        refine steps_cons ?_ ?_
        · rintro b a w' ⟨ga2, ga6, pa8, pa9, m2_, m3_, m6_, m7_, m8_, m9_, ha, Q_BW, Q_Ra2, Q_Ra6, Q_Pa8, Q_Pa9, Q_Sa8, Q_Sa9, Q_Na2_8, Q_Na2_9, Q_Na6_8, Q_Na6_9, Q_Na8_9, Q_X2_, Q_X3_, Q_X6_, Q_X7_, Q_X8_, Q_X9_⟩ hb_ hon hoff
          refine ⟨_, rfl, fun K hK => ?_⟩
          have e3 : a.tmps[3]? = some (.pointer (some ⟨w.heap.size, 0, none⟩)) := by rw [ha]; exact (putSel_off rfl).trans rfl
          replace ha := Aside0.mk ha
          have BW := Aside0.mk Q_BW
          have hk_ := (BW.out.block _ (blk_lt HF2.out)).trans HF2.out
          have q0_ := (blk_cell hk_ 0).trans rfl
          have q1_ := (blk_cell hk_ 1).trans rfl
          have q2_ := (blk_cell hk_ 2).trans rfl
          refine value_ (w1 := w') (v := .agg #[.int .i64 s.f0, .int .i64 s.f1, .slice A s.f2.length cp]) (by rfl) rfl ?_ ?_
          · go_simp
            (try simp only [i64_w])
            try rfl
          refine hK.out _ _ ⟨ga2, ga6, pa8, pa9, m2_, m3_, m6_, m7_, m8_, m9_, (by rw [ha.out]; exact putSel_upk 0 hb_ rfl rfl rfl), Q_BW, fun h0_ => absurd ((hoff 2 (by kernel_rfl)).symm.trans h0_) (by decide), Q_Ra6, Q_Pa8, Q_Pa9, fun h0_ => absurd ((hoff 10 (by kernel_rfl)).symm.trans h0_) (by decide), fun h0_ => absurd ((hoff 11 (by kernel_rfl)).symm.trans h0_) (by decide), fun h0_ _ => absurd ((hoff 2 (by kernel_rfl)).symm.trans h0_) (by decide), fun h0_ _ => absurd ((hoff 2 (by kernel_rfl)).symm.trans h0_) (by decide), Q_Na6_8, Q_Na6_9, Q_Na8_9, fun h0_ => absurd ((hoff 2 (by kernel_rfl)).symm.trans h0_) (by decide), fun h0_ => absurd ((hoff 3 (by kernel_rfl)).symm.trans h0_) (by decide), Q_X6_, fun h0_ => absurd ((hoff 7 (by kernel_rfl)).symm.trans h0_) (by decide), Q_X8_, Q_X9_⟩
        refine steps_cons ?_ ?_
        · rintro b a w' ⟨ga2, ga6, pa8, pa9, m2_, m3_, m6_, m7_, m8_, m9_, ha, Q_BW, Q_Ra2, Q_Ra6, Q_Pa8, Q_Pa9, Q_Sa8, Q_Sa9, Q_Na2_8, Q_Na2_9, Q_Na6_8, Q_Na6_9, Q_Na8_9, Q_X2_, Q_X3_, Q_X6_, Q_X7_, Q_X8_, Q_X9_⟩ hb_ hon hoff
          refine ⟨_, rfl, fun K hK => ?_⟩
          have e4 : a.tmps[4]? = some (.pointer (some ⟨w.heap.size + 1, 0, none⟩)) := by rw [ha]; exact (putSel_off rfl).trans rfl
          replace ha := Aside0.mk ha
          have BW := Aside0.mk Q_BW
          have hk_ := (BW.out.block _ (blk_lt HG2.out)).trans HG2.out
          have q0_ := (blk_cell hk_ 0).trans rfl
          have q1_ := (blk_cell hk_ 1).trans rfl
          have q2_ := (blk_cell hk_ 2).trans rfl
          refine value_ (w1 := w') (v := .agg #[.int .i64 t.f0, .int .i64 t.f1, .slice B t.f2.length cq]) (by rfl) rfl ?_ ?_
          · go_simp
            (try simp only [i64_w])
            try rfl
          refine hK.out _ _ ⟨ga2, ga6, pa8, pa9, m2_, m3_, m6_, m7_, m8_, m9_, (by rw [ha.out]; exact putSel_upk 1 hb_ rfl rfl rfl), Q_BW, fun h0_ => absurd ((hoff 2 (by kernel_rfl)).symm.trans h0_) (by decide), Q_Ra6, Q_Pa8, Q_Pa9, fun h0_ => absurd ((hoff 10 (by kernel_rfl)).symm.trans h0_) (by decide), fun h0_ => absurd ((hoff 11 (by kernel_rfl)).symm.trans h0_) (by decide), fun h0_ _ => absurd ((hoff 2 (by kernel_rfl)).symm.trans h0_) (by decide), fun h0_ _ => absurd ((hoff 2 (by kernel_rfl)).symm.trans h0_) (by decide), Q_Na6_8, Q_Na6_9, Q_Na8_9, fun h0_ => absurd ((hoff 2 (by kernel_rfl)).symm.trans h0_) (by decide), fun h0_ => absurd ((hoff 3 (by kernel_rfl)).symm.trans h0_) (by decide), Q_X6_, fun h0_ => absurd ((hoff 7 (by kernel_rfl)).symm.trans h0_) (by decide), Q_X8_, Q_X9_⟩
        refine steps_cons ?_ ?_
        · rintro b a w' ⟨ga2, ga6, pa8, pa9, m2_, m3_, m6_, m7_, m8_, m9_, ha, Q_BW, Q_Ra2, Q_Ra6, Q_Pa8, Q_Pa9, Q_Sa8, Q_Sa9, Q_Na2_8, Q_Na2_9, Q_Na6_8, Q_Na6_9, Q_Na8_9, Q_X2_, Q_X3_, Q_X6_, Q_X7_, Q_X8_, Q_X9_⟩ hb_ hon hoff
          refine ⟨_, rfl, fun K hK => ?_⟩
          have e26 : a.tmps[26]? = some (.agg #[.int .i64 s.f0, .int .i64 s.f1, .slice A s.f2.length cp]) := by rw [ha]; exact putSel_on (e := (0, 26, .agg #[.int .i64 s.f0, .int .i64 s.f1, .slice A s.f2.length cp])) 0 rfl rfl (hon 0 (by kernel_rfl)) rfl
          have e27 : a.tmps[27]? = some (.agg #[.int .i64 t.f0, .int .i64 t.f1, .slice B t.f2.length cq]) := by rw [ha]; exact putSel_on (e := (1, 27, .agg #[.int .i64 t.f0, .int .i64 t.f1, .slice B t.f2.length cq])) 1 rfl rfl (hon 1 (by kernel_rfl)) rfl
          replace ha := Aside0.mk ha
          have BW := Aside0.mk Q_BW
          refine value_ (w1 := w'.alloc (.cells #[.int .i64 s.f0, .int .i64 s.f1, .slice A s.f2.length cp, .int .i64 t.f0, .int .i64 t.f1, .slice B t.f2.length cq] 24)) (v := .slice (some ⟨w'.heap.size, 0, none⟩) 2 2) (by rfl) rfl ?_ ?_
          · (go_simp; try rfl)
          refine hK.out _ _ ⟨w'.heap.size, ga6, pa8, pa9, (.slice (some ⟨w'.heap.size, 0, none⟩) 2 2), m3_, m6_, m7_, m8_, m9_, (by rw [ha.out]; exact putSel_upk 2 hb_ rfl rfl rfl), below_alloc BW.out _, fun _ => Lay.new BW.out _ _, fun h0_ => (Q_Ra6 h0_).alloc _, fun h0_ h1_ => (Q_Pa8 h0_ h1_).alloc _, fun h0_ h1_ => (Q_Pa9 h0_ h1_).alloc _, fun h0_ => absurd ((hoff 10 (by kernel_rfl)).symm.trans h0_) (by decide), fun h0_ => absurd ((hoff 11 (by kernel_rfl)).symm.trans h0_) (by decide), fun _ h_ => (Q_Pa8 h_ (hoff 10 (by kernel_rfl))).ne_new, fun _ h_ => (Q_Pa9 h_ (hoff 11 (by kernel_rfl))).ne_new, Q_Na6_8, Q_Na6_9, Q_Na8_9, fun _ => rfl, fun h0_ => absurd ((hoff 3 (by kernel_rfl)).symm.trans h0_) (by decide), Q_X6_, fun h0_ => absurd ((hoff 7 (by kernel_rfl)).symm.trans h0_) (by decide), Q_X8_, Q_X9_⟩
        refine steps_cons ?_ ?_
        · rintro b a w' ⟨ga2, ga6, pa8, pa9, m2_, m3_, m6_, m7_, m8_, m9_, ha, Q_BW, Q_Ra2, Q_Ra6, Q_Pa8, Q_Pa9, Q_Sa8, Q_Sa9, Q_Na2_8, Q_Na2_9, Q_Na6_8, Q_Na6_9, Q_Na8_9, Q_X2_, Q_X3_, Q_X6_, Q_X7_, Q_X8_, Q_X9_⟩ hb_ hon hoff
          refine ⟨_, rfl, fun K hK => ?_⟩
          have e28 : a.tmps[28]? = some (m2_) := by rw [ha]; exact putSel_on (e := (2, 28, m2_)) 2 rfl rfl (hon 2 (by kernel_rfl)) rfl
          rw [Q_X2_ (hon 2 (by kernel_rfl))] at e28
          replace ha := Aside0.mk ha
          have BW := Aside0.mk Q_BW
          have Ra2 := Aside0.mk (Q_Ra2 (hon 2 (by kernel_rfl)))
          refine goes_ Tryd.func12 (by kernel_rfl) rfl #[.int .i64 7, .slice (some ⟨ga2, 0, none⟩) 2 2] (by rfl) rfl rfl (by first | (simp only [List.map_toArray, List.map_cons, List.map_nil, Act.eval, Array.getD_eq_getD_getElem?, Option.getD_some, e28]; done) | (simp only [List.map_toArray, List.map_cons, List.map_nil, Act.eval, Array.getD_eq_getD_getElem?, Option.getD_some, e28]; rfl)) ?_
          with_reducible refine (op_calls _ _ _ _ _).mono ?_
          rintro e_ w1 ⟨rfl, hB⟩
          refine ⟨_, rfl, ?_⟩
          refine hK.out _ _ ⟨ga2, ga6, pa8, pa9, m2_, (.agg #[.int .i64 7, .int .i64 0, .slice (some ⟨ga2, 0, none⟩) 2 2]), m6_, m7_, m8_, m9_, (by rw [ha.out]; exact putSel_upk 3 hb_ rfl rfl rfl), BW.out.trans (hB.mono BW.out.size), fun _ => Ra2.out.below hB, fun h0_ => (Q_Ra6 h0_).below hB, fun h0_ h1_ => (Q_Pa8 h0_ h1_).below hB, fun h0_ h1_ => (Q_Pa9 h0_ h1_).below hB, fun h0_ => absurd ((hoff 10 (by kernel_rfl)).symm.trans h0_) (by decide), fun h0_ => absurd ((hoff 11 (by kernel_rfl)).symm.trans h0_) (by decide), Q_Na2_8, Q_Na2_9, Q_Na6_8, Q_Na6_9, Q_Na8_9, Q_X2_, fun _ => rfl, Q_X6_, fun h0_ => absurd ((hoff 7 (by kernel_rfl)).symm.trans h0_) (by decide), Q_X8_, Q_X9_⟩
        refine steps_cons ?_ ?_
        · rintro b a w' ⟨ga2, ga6, pa8, pa9, m2_, m3_, m6_, m7_, m8_, m9_, ha, Q_BW, Q_Ra2, Q_Ra6, Q_Pa8, Q_Pa9, Q_Sa8, Q_Sa9, Q_Na2_8, Q_Na2_9, Q_Na6_8, Q_Na6_9, Q_Na8_9, Q_X2_, Q_X3_, Q_X6_, Q_X7_, Q_X8_, Q_X9_⟩ hb_ hon hoff
          refine ⟨_, rfl, fun K hK => ?_⟩
          have e3 : a.tmps[3]? = some (.pointer (some ⟨w.heap.size, 0, none⟩)) := by rw [ha]; exact (putSel_off rfl).trans rfl
          replace ha := Aside0.mk ha
          have BW := Aside0.mk Q_BW
          have hk_ := (BW.out.block _ (blk_lt HF2.out)).trans HF2.out
          have q0_ := (blk_cell hk_ 0).trans rfl
          have q1_ := (blk_cell hk_ 1).trans rfl
          have q2_ := (blk_cell hk_ 2).trans rfl
          refine value_ (w1 := w') (v := .agg #[.int .i64 s.f0, .int .i64 s.f1, .slice A s.f2.length cp]) (by rfl) rfl ?_ ?_
          · go_simp
            (try simp only [i64_w])
            try rfl
          refine hK.out _ _ ⟨ga2, ga6, pa8, pa9, m2_, m3_, m6_, m7_, m8_, m9_, (by rw [ha.out]; exact putSel_upk 4 hb_ rfl rfl rfl), Q_BW, Q_Ra2, fun h0_ => absurd ((hoff 6 (by kernel_rfl)).symm.trans h0_) (by decide), Q_Pa8, Q_Pa9, fun h0_ => absurd ((hoff 10 (by kernel_rfl)).symm.trans h0_) (by decide), fun h0_ => absurd ((hoff 11 (by kernel_rfl)).symm.trans h0_) (by decide), Q_Na2_8, Q_Na2_9, fun h0_ _ => absurd ((hoff 6 (by kernel_rfl)).symm.trans h0_) (by decide), fun h0_ _ => absurd ((hoff 6 (by kernel_rfl)).symm.trans h0_) (by decide), Q_Na8_9, Q_X2_, Q_X3_, fun h0_ => absurd ((hoff 6 (by kernel_rfl)).symm.trans h0_) (by decide), fun h0_ => absurd ((hoff 7 (by kernel_rfl)).symm.trans h0_) (by decide), Q_X8_, Q_X9_⟩
        refine steps_cons ?_ ?_
        · rintro b a w' ⟨ga2, ga6, pa8, pa9, m2_, m3_, m6_, m7_, m8_, m9_, ha, Q_BW, Q_Ra2, Q_Ra6, Q_Pa8, Q_Pa9, Q_Sa8, Q_Sa9, Q_Na2_8, Q_Na2_9, Q_Na6_8, Q_Na6_9, Q_Na8_9, Q_X2_, Q_X3_, Q_X6_, Q_X7_, Q_X8_, Q_X9_⟩ hb_ hon hoff
          refine ⟨_, rfl, fun K hK => ?_⟩
          have e4 : a.tmps[4]? = some (.pointer (some ⟨w.heap.size + 1, 0, none⟩)) := by rw [ha]; exact (putSel_off rfl).trans rfl
          replace ha := Aside0.mk ha
          have BW := Aside0.mk Q_BW
          have hk_ := (BW.out.block _ (blk_lt HG2.out)).trans HG2.out
          have q0_ := (blk_cell hk_ 0).trans rfl
          have q1_ := (blk_cell hk_ 1).trans rfl
          have q2_ := (blk_cell hk_ 2).trans rfl
          refine value_ (w1 := w') (v := .agg #[.int .i64 t.f0, .int .i64 t.f1, .slice B t.f2.length cq]) (by rfl) rfl ?_ ?_
          · go_simp
            (try simp only [i64_w])
            try rfl
          refine hK.out _ _ ⟨ga2, ga6, pa8, pa9, m2_, m3_, m6_, m7_, m8_, m9_, (by rw [ha.out]; exact putSel_upk 5 hb_ rfl rfl rfl), Q_BW, Q_Ra2, fun h0_ => absurd ((hoff 6 (by kernel_rfl)).symm.trans h0_) (by decide), Q_Pa8, Q_Pa9, fun h0_ => absurd ((hoff 10 (by kernel_rfl)).symm.trans h0_) (by decide), fun h0_ => absurd ((hoff 11 (by kernel_rfl)).symm.trans h0_) (by decide), Q_Na2_8, Q_Na2_9, fun h0_ _ => absurd ((hoff 6 (by kernel_rfl)).symm.trans h0_) (by decide), fun h0_ _ => absurd ((hoff 6 (by kernel_rfl)).symm.trans h0_) (by decide), Q_Na8_9, Q_X2_, Q_X3_, fun h0_ => absurd ((hoff 6 (by kernel_rfl)).symm.trans h0_) (by decide), fun h0_ => absurd ((hoff 7 (by kernel_rfl)).symm.trans h0_) (by decide), Q_X8_, Q_X9_⟩
        refine steps_cons ?_ ?_
        · rintro b a w' ⟨ga2, ga6, pa8, pa9, m2_, m3_, m6_, m7_, m8_, m9_, ha, Q_BW, Q_Ra2, Q_Ra6, Q_Pa8, Q_Pa9, Q_Sa8, Q_Sa9, Q_Na2_8, Q_Na2_9, Q_Na6_8, Q_Na6_9, Q_Na8_9, Q_X2_, Q_X3_, Q_X6_, Q_X7_, Q_X8_, Q_X9_⟩ hb_ hon hoff
          refine ⟨_, rfl, fun K hK => ?_⟩
          have e30 : a.tmps[30]? = some (.agg #[.int .i64 s.f0, .int .i64 s.f1, .slice A s.f2.length cp]) := by rw [ha]; exact putSel_on (e := (4, 30, .agg #[.int .i64 s.f0, .int .i64 s.f1, .slice A s.f2.length cp])) 4 rfl rfl (hon 4 (by kernel_rfl)) rfl
          have e31 : a.tmps[31]? = some (.agg #[.int .i64 t.f0, .int .i64 t.f1, .slice B t.f2.length cq]) := by rw [ha]; exact putSel_on (e := (5, 31, .agg #[.int .i64 t.f0, .int .i64 t.f1, .slice B t.f2.length cq])) 5 rfl rfl (hon 5 (by kernel_rfl)) rfl
          replace ha := Aside0.mk ha
          have BW := Aside0.mk Q_BW
          refine value_ (w1 := w'.alloc (.cells #[.int .i64 s.f0, .int .i64 s.f1, .slice A s.f2.length cp, .int .i64 t.f0, .int .i64 t.f1, .slice B t.f2.length cq] 24)) (v := .slice (some ⟨w'.heap.size, 0, none⟩) 2 2) (by rfl) rfl ?_ ?_
          · (go_simp; try rfl)
          refine hK.out _ _ ⟨ga2, w'.heap.size, pa8, pa9, m2_, m3_, (.slice (some ⟨w'.heap.size, 0, none⟩) 2 2), m7_, m8_, m9_, (by rw [ha.out]; exact putSel_upk 6 hb_ rfl rfl rfl), below_alloc BW.out _, fun h0_ => (Q_Ra2 h0_).alloc _, fun _ => Lay.new BW.out _ _, fun h0_ h1_ => (Q_Pa8 h0_ h1_).alloc _, fun h0_ h1_ => (Q_Pa9 h0_ h1_).alloc _, fun h0_ => absurd ((hoff 10 (by kernel_rfl)).symm.trans h0_) (by decide), fun h0_ => absurd ((hoff 11 (by kernel_rfl)).symm.trans h0_) (by decide), Q_Na2_8, Q_Na2_9, fun _ h_ => (Q_Pa8 h_ (hoff 10 (by kernel_rfl))).ne_new, fun _ h_ => (Q_Pa9 h_ (hoff 11 (by kernel_rfl))).ne_new, Q_Na8_9, Q_X2_, Q_X3_, fun _ => rfl, fun h0_ => absurd ((hoff 7 (by kernel_rfl)).symm.trans h0_) (by decide), Q_X8_, Q_X9_⟩
        refine steps_cons ?_ ?_
        · rintro b a w' ⟨ga2, ga6, pa8, pa9, m2_, m3_, m6_, m7_, m8_, m9_, ha, Q_BW, Q_Ra2, Q_Ra6, Q_Pa8, Q_Pa9, Q_Sa8, Q_Sa9, Q_Na2_8, Q_Na2_9, Q_Na6_8, Q_Na6_9, Q_Na8_9, Q_X2_, Q_X3_, Q_X6_, Q_X7_, Q_X8_, Q_X9_⟩ hb_ hon hoff
          refine ⟨_, rfl, fun K hK => ?_⟩
          have e32 : a.tmps[32]? = some (m6_) := by rw [ha]; exact putSel_on (e := (6, 32, m6_)) 6 rfl rfl (hon 6 (by kernel_rfl)) rfl
          rw [Q_X6_ (hon 6 (by kernel_rfl))] at e32
          replace ha := Aside0.mk ha
          have BW := Aside0.mk Q_BW
          have Ra2 := Aside0.mk (Q_Ra2 (hon 2 (by kernel_rfl)))
          have Ra6 := Aside0.mk (Q_Ra6 (hon 6 (by kernel_rfl)))
          refine goes_ Tryd.func12 (by kernel_rfl) rfl #[.int .i64 8, .slice (some ⟨ga6, 0, none⟩) 2 2] (by rfl) rfl rfl (by first | (simp only [List.map_toArray, List.map_cons, List.map_nil, Act.eval, Array.getD_eq_getD_getElem?, Option.getD_some, e32]; done) | (simp only [List.map_toArray, List.map_cons, List.map_nil, Act.eval, Array.getD_eq_getD_getElem?, Option.getD_some, e32]; rfl)) ?_
          with_reducible refine (op_calls _ _ _ _ _).mono ?_
          rintro e_ w1 ⟨rfl, hB⟩
          refine ⟨_, rfl, ?_⟩
          refine hK.out _ _ ⟨ga2, ga6, pa8, pa9, m2_, m3_, m6_, (.agg #[.int .i64 8, .int .i64 0, .slice (some ⟨ga6, 0, none⟩) 2 2]), m8_, m9_, (by rw [ha.out]; exact putSel_upk 7 hb_ rfl rfl rfl), BW.out.trans (hB.mono BW.out.size), fun _ => Ra2.out.below hB, fun _ => Ra6.out.below hB, fun h0_ h1_ => (Q_Pa8 h0_ h1_).below hB, fun h0_ h1_ => (Q_Pa9 h0_ h1_).below hB, fun h0_ => absurd ((hoff 10 (by kernel_rfl)).symm.trans h0_) (by decide), fun h0_ => absurd ((hoff 11 (by kernel_rfl)).symm.trans h0_) (by decide), Q_Na2_8, Q_Na2_9, Q_Na6_8, Q_Na6_9, Q_Na8_9, Q_X2_, Q_X3_, Q_X6_, fun _ => rfl, Q_X8_, Q_X9_⟩
        refine steps_cons ?_ ?_
        · rintro b a w' ⟨ga2, ga6, pa8, pa9, m2_, m3_, m6_, m7_, m8_, m9_, ha, Q_BW, Q_Ra2, Q_Ra6, Q_Pa8, Q_Pa9, Q_Sa8, Q_Sa9, Q_Na2_8, Q_Na2_9, Q_Na6_8, Q_Na6_9, Q_Na8_9, Q_X2_, Q_X3_, Q_X6_, Q_X7_, Q_X8_, Q_X9_⟩ hb_ hon hoff
          refine ⟨_, rfl, fun K hK => ?_⟩
          replace ha := Aside0.mk ha
          have BW := Aside0.mk Q_BW
          refine value_ (w1 := w'.alloc (.cells #[.int .i64 0, .int .i64 0, .slice none 0 0] 24)) (v := .pointer (some ⟨w'.heap.size, 0, none⟩)) (by rfl) rfl ?_ ?_
          · (go_simp; try rfl)
          refine hK.out _ _ ⟨ga2, ga6, w'.heap.size, pa9, m2_, m3_, m6_, m7_, (.pointer (some ⟨w'.heap.size, 0, none⟩)), m9_, (by rw [ha.out]; exact putSel_upk 8 hb_ rfl rfl rfl), below_alloc BW.out _, fun h0_ => (Q_Ra2 h0_).alloc _, fun h0_ => (Q_Ra6 h0_).alloc _, fun _ _ => Lay.new BW.out _ _, fun h0_ h1_ => (Q_Pa9 h0_ h1_).alloc _, fun h0_ => absurd ((hoff 10 (by kernel_rfl)).symm.trans h0_) (by decide), fun h0_ => absurd ((hoff 11 (by kernel_rfl)).symm.trans h0_) (by decide), fun h_ _ => (Q_Ra2 h_).ne_new.symm, Q_Na2_9, fun h_ _ => (Q_Ra6 h_).ne_new.symm, Q_Na6_9, fun _ h_ => (Q_Pa9 h_ (hoff 11 (by kernel_rfl))).ne_new, Q_X2_, Q_X3_, Q_X6_, Q_X7_, fun _ => rfl, Q_X9_⟩
        refine steps_cons ?_ ?_
        · rintro b a w' ⟨ga2, ga6, pa8, pa9, m2_, m3_, m6_, m7_, m8_, m9_, ha, Q_BW, Q_Ra2, Q_Ra6, Q_Pa8, Q_Pa9, Q_Sa8, Q_Sa9, Q_Na2_8, Q_Na2_9, Q_Na6_8, Q_Na6_9, Q_Na8_9, Q_X2_, Q_X3_, Q_X6_, Q_X7_, Q_X8_, Q_X9_⟩ hb_ hon hoff
          refine ⟨_, rfl, fun K hK => ?_⟩
          replace ha := Aside0.mk ha
          have BW := Aside0.mk Q_BW
          refine value_ (w1 := w'.alloc (.cells #[.int .i64 0, .int .i64 0, .slice none 0 0] 24)) (v := .pointer (some ⟨w'.heap.size, 0, none⟩)) (by rfl) rfl ?_ ?_
          · (go_simp; try rfl)
          refine hK.out _ _ ⟨ga2, ga6, pa8, w'.heap.size, m2_, m3_, m6_, m7_, m8_, (.pointer (some ⟨w'.heap.size, 0, none⟩)), (by rw [ha.out]; exact putSel_upk 9 hb_ rfl rfl rfl), below_alloc BW.out _, fun h0_ => (Q_Ra2 h0_).alloc _, fun h0_ => (Q_Ra6 h0_).alloc _, fun h0_ h1_ => (Q_Pa8 h0_ h1_).alloc _, fun _ _ => Lay.new BW.out _ _, fun h0_ => absurd ((hoff 10 (by kernel_rfl)).symm.trans h0_) (by decide), fun h0_ => absurd ((hoff 11 (by kernel_rfl)).symm.trans h0_) (by decide), Q_Na2_8, fun h_ _ => (Q_Ra2 h_).ne_new.symm, Q_Na6_8, fun h_ _ => (Q_Ra6 h_).ne_new.symm, fun h_ _ => (Q_Pa8 h_ (hoff 10 (by kernel_rfl))).ne_new.symm, Q_X2_, Q_X3_, Q_X6_, Q_X7_, Q_X8_, fun _ => rfl⟩
        refine steps_cons ?_ ?_
        · rintro b a w' ⟨ga2, ga6, pa8, pa9, m2_, m3_, m6_, m7_, m8_, m9_, ha, Q_BW, Q_Ra2, Q_Ra6, Q_Pa8, Q_Pa9, Q_Sa8, Q_Sa9, Q_Na2_8, Q_Na2_9, Q_Na6_8, Q_Na6_9, Q_Na8_9, Q_X2_, Q_X3_, Q_X6_, Q_X7_, Q_X8_, Q_X9_⟩ hb_ hon hoff
          refine ⟨_, rfl, fun K hK => ?_⟩
          have e7 : a.tmps[7]? = some (m8_) := by rw [ha]; exact putSel_on (e := (8, 7, m8_)) 8 rfl rfl (hon 8 (by kernel_rfl)) rfl
          rw [Q_X8_ (hon 8 (by kernel_rfl))] at e7
          have e29 : a.tmps[29]? = some (m3_) := by rw [ha]; exact putSel_on (e := (3, 29, m3_)) 3 rfl rfl (hon 3 (by kernel_rfl)) rfl
          rw [Q_X3_ (hon 3 (by kernel_rfl))] at e29
          replace ha := Aside0.mk ha
          have BW := Aside0.mk Q_BW
          have Ra2 := Aside0.mk (Q_Ra2 (hon 2 (by kernel_rfl)))
          have Ra6 := Aside0.mk (Q_Ra6 (hon 6 (by kernel_rfl)))
          have Pa8 := Aside0.mk (Q_Pa8 (hon 8 (by kernel_rfl)) hb_)
          have Pa9 := Aside0.mk (Q_Pa9 (hon 9 (by kernel_rfl)) (hoff 11 (by kernel_rfl)))
          have Na2_8 := Aside0.mk (Q_Na2_8 (hon 2 (by kernel_rfl)) (hon 8 (by kernel_rfl)))
          have Na2_9 := Aside0.mk (Q_Na2_9 (hon 2 (by kernel_rfl)) (hon 9 (by kernel_rfl)))
          have Na6_8 := Aside0.mk (Q_Na6_8 (hon 6 (by kernel_rfl)) (hon 8 (by kernel_rfl)))
          have Na6_9 := Aside0.mk (Q_Na6_9 (hon 6 (by kernel_rfl)) (hon 9 (by kernel_rfl)))
          have Na8_9 := Aside0.mk (Q_Na8_9 (hon 8 (by kernel_rfl)) (hon 9 (by kernel_rfl)))
          have z0_ := (blk_cell Pa8.out.2 0).trans rfl
          have z1_ := (blk_cell Pa8.out.2 1).trans rfl
          have z2_ := (blk_cell Pa8.out.2 2).trans rfl
          have f0_ := blk_frozen Pa8.out.2 0
          have f1_ := blk_frozen Pa8.out.2 1
          have f2_ := blk_frozen Pa8.out.2 2
          refine skip_ (w1 := put3 w' pa8 (.int .i64 7) (.int .i64 0) (.slice (some ⟨ga2, 0, none⟩) 2 2)) (by rfl) rfl ?_ ?_
          · (unfold put3; go_simp; try rfl)
          refine hK.out _ _ ⟨ga2, ga6, pa8, pa9, m2_, m3_, m6_, m7_, m8_, m9_, (by rw [ha.out]; exact putSel_none (v := undef) rfl), below_put3 BW.out Pa8.out.1 _ _ _, fun _ => Ra2.out.far3 Na2_8.out _ _ _, fun _ => Ra6.out.far3 Na6_8.out _ _ _, fun _ h1_ => absurd ((up_self b 10).symm.trans h1_) (by decide), fun _ _ => Pa9.out.far3 Na8_9.out.symm _ _ _, fun _ => Pa8.out.put3 _ _ _, fun h0_ => absurd ((hoff 11 (by kernel_rfl)).symm.trans h0_) (by decide), Q_Na2_8, Q_Na2_9, Q_Na6_8, Q_Na6_9, Q_Na8_9, Q_X2_, Q_X3_, Q_X6_, Q_X7_, Q_X8_, Q_X9_⟩
        refine steps_cons ?_ ?_
        · rintro b a w' ⟨ga2, ga6, pa8, pa9, m2_, m3_, m6_, m7_, m8_, m9_, ha, Q_BW, Q_Ra2, Q_Ra6, Q_Pa8, Q_Pa9, Q_Sa8, Q_Sa9, Q_Na2_8, Q_Na2_9, Q_Na6_8, Q_Na6_9, Q_Na8_9, Q_X2_, Q_X3_, Q_X6_, Q_X7_, Q_X8_, Q_X9_⟩ hb_ hon hoff
          refine ⟨_, rfl, fun K hK => ?_⟩
          have e8 : a.tmps[8]? = some (m9_) := by rw [ha]; exact putSel_on (e := (9, 8, m9_)) 9 rfl rfl (hon 9 (by kernel_rfl)) rfl
          rw [Q_X9_ (hon 9 (by kernel_rfl))] at e8
          have e33 : a.tmps[33]? = some (m7_) := by rw [ha]; exact putSel_on (e := (7, 33, m7_)) 7 rfl rfl (hon 7 (by kernel_rfl)) rfl
          rw [Q_X7_ (hon 7 (by kernel_rfl))] at e33
          replace ha := Aside0.mk ha
          have BW := Aside0.mk Q_BW
          have Ra2 := Aside0.mk (Q_Ra2 (hon 2 (by kernel_rfl)))
          have Ra6 := Aside0.mk (Q_Ra6 (hon 6 (by kernel_rfl)))
          have Pa9 := Aside0.mk (Q_Pa9 (hon 9 (by kernel_rfl)) hb_)
          have Sa8 := Aside0.mk (Q_Sa8 (hon 10 (by kernel_rfl)))
          have Na2_8 := Aside0.mk (Q_Na2_8 (hon 2 (by kernel_rfl)) (hon 8 (by kernel_rfl)))
          have Na2_9 := Aside0.mk (Q_Na2_9 (hon 2 (by kernel_rfl)) (hon 9 (by kernel_rfl)))
          have Na6_8 := Aside0.mk (Q_Na6_8 (hon 6 (by kernel_rfl)) (hon 8 (by kernel_rfl)))
          have Na6_9 := Aside0.mk (Q_Na6_9 (hon 6 (by kernel_rfl)) (hon 9 (by kernel_rfl)))
          have Na8_9 := Aside0.mk (Q_Na8_9 (hon 8 (by kernel_rfl)) (hon 9 (by kernel_rfl)))
          have z0_ := (blk_cell Pa9.out.2 0).trans rfl
          have z1_ := (blk_cell Pa9.out.2 1).trans rfl
          have z2_ := (blk_cell Pa9.out.2 2).trans rfl
          have f0_ := blk_frozen Pa9.out.2 0
          have f1_ := blk_frozen Pa9.out.2 1
          have f2_ := blk_frozen Pa9.out.2 2
          refine skip_ (w1 := put3 w' pa9 (.int .i64 8) (.int .i64 0) (.slice (some ⟨ga6, 0, none⟩) 2 2)) (by rfl) rfl ?_ ?_
          · (unfold put3; go_simp; try rfl)
          refine hK.out _ _ ⟨ga2, ga6, pa8, pa9, m2_, m3_, m6_, m7_, m8_, m9_, (by rw [ha.out]; exact putSel_none (v := undef) rfl), below_put3 BW.out Pa9.out.1 _ _ _, fun _ => Ra2.out.far3 Na2_9.out _ _ _, fun _ => Ra6.out.far3 Na6_9.out _ _ _, fun _ h1_ => absurd ((hon 10 (by kernel_rfl)).symm.trans h1_) (by decide), fun _ h1_ => absurd ((up_self b 11).symm.trans h1_) (by decide), fun _ => Sa8.out.far3 Na8_9.out _ _ _, fun _ => Pa9.out.put3 _ _ _, Q_Na2_8, Q_Na2_9, Q_Na6_8, Q_Na6_9, Q_Na8_9, Q_X2_, Q_X3_, Q_X6_, Q_X7_, Q_X8_, Q_X9_⟩
        exact steps_nil
      · rintro b a w' hall ⟨ga2, ga6, pa8, pa9, m2_, m3_, m6_, m7_, m8_, m9_, ha, Q_BW, Q_Ra2, Q_Ra6, Q_Pa8, Q_Pa9, Q_Sa8, Q_Sa9, Q_Na2_8, Q_Na2_9, Q_Na6_8, Q_Na6_9, Q_Na8_9, Q_X2_, Q_X3_, Q_X6_, Q_X7_, Q_X8_, Q_X9_⟩
        clear BW
        have hb0_ := hall 0 (by kernel_rfl)
        have hb1_ := hall 1 (by kernel_rfl)
        have hb2_ := hall 2 (by kernel_rfl)
        have hb3_ := hall 3 (by kernel_rfl)
        have hb4_ := hall 4 (by kernel_rfl)
        have hb5_ := hall 5 (by kernel_rfl)
        have hb6_ := hall 6 (by kernel_rfl)
        have hb7_ := hall 7 (by kernel_rfl)
        have hb8_ := hall 8 (by kernel_rfl)
        have hb9_ := hall 9 (by kernel_rfl)
        have hb10_ := hall 10 (by kernel_rfl)
        have hb11_ := hall 11 (by kernel_rfl)
        subst ha
        obtain rfl := Q_X2_ hb2_
        obtain rfl := Q_X3_ hb3_
        obtain rfl := Q_X6_ hb6_
        obtain rfl := Q_X7_ hb7_
        obtain rfl := Q_X8_ hb8_
        obtain rfl := Q_X9_ hb9_
        simp only [putSel, hb0_, hb1_, hb2_, hb3_, hb4_, hb5_, hb6_, hb7_, hb8_, hb9_, hb10_, hb11_, if_true, Act.put, List.setIfInBounds_toArray, List.set_cons_zero, List.set_cons_succ]
        have BW := Aside0.mk Q_BW
        clear Q_BW
        have Ra2 := Aside0.mk (Q_Ra2 hb2_)
        clear Q_Ra2
        have Ra6 := Aside0.mk (Q_Ra6 hb6_)
        clear Q_Ra6
        clear Q_Pa8
        clear Q_Pa9
        have Sa8 := Aside0.mk (Q_Sa8 hb10_)
        clear Q_Sa8
        have Sa9 := Aside0.mk (Q_Sa9 hb11_)
        clear Q_Sa9
        have Na2_8 := Aside0.mk (Q_Na2_8 hb2_ hb8_)
        clear Q_Na2_8
        have Na2_9 := Aside0.mk (Q_Na2_9 hb2_ hb9_)
        clear Q_Na2_9
        have Na6_8 := Aside0.mk (Q_Na6_8 hb6_ hb8_)
        clear Q_Na6_8
        have Na6_9 := Aside0.mk (Q_Na6_9 hb6_ hb9_)
        clear Q_Na6_9
        have Na8_9 := Aside0.mk (Q_Na8_9 hb8_ hb9_)
        clear Q_Na8_9
        clear hall hb0_ hb1_ hb2_ hb3_ hb4_ hb5_ hb6_ hb7_ hb8_ hb9_ hb10_ hb11_
        obtain ⟨W3, rfl⟩ : ∃ W : World, W = w' := ⟨_, rfl⟩
        have HBW3 := BW
        clear BW
        have HB3 := Aside0.mk (HB2.out.trans (HBW3.out.mono HB2.out.size))
        have HF3 := Aside0.mk ((HBW3.out.block _ (blk_lt HF2.out)).trans HF2.out)
        have HG3 := Aside0.mk ((HBW3.out.block _ (blk_lt HG2.out)).trans HG2.out)
        have HL3 := Aside0.mk ((HBW3.out.block _ (blk_lt HL2.out)).trans HL2.out)
        have HU3 := Aside0.mk Sa8.out.2
        have HR3 := Aside0.mk Sa9.out.2
        have CU3 := Aside0.mk (C_of2 Ra2.out.2 (Kd.C_below HKs.out HB3.out) hc (Kd.C_below HKt.out HB3.out) hcm)
        have CR3 := Aside0.mk (C_of2 Ra6.out.2 (Kd.C_below HKs.out HB3.out) hc (Kd.C_below HKt.out HB3.out) hcm)
        clear Sa8 Sa9 Ra2 Ra6
        go_upto_region 4 with fail
        have BW := Aside0.mk (below_drew1 (Below.refl W3.heap.size W3))
        refine start_ (n := 11) (S := fun w' => True) (ds := []) #[false, false, false, false, false, false, false, false, false, false, false] (by kernel_rfl) rfl rfl trivial (fun hHeld => ?_)
        refine with_tabW fst.tab4 fst.bits4 (fun HT_ HW_ => ?_)
        refine inv_at [0, 1, 2, 3, 4, 5, 6, 7, 8, 9, 10] (fun a0_ b a w' => ∃ (gb3 : Nat) (gb5 : Nat) (gb7 : Nat) (pb9 : Nat) (m3_ : Value) (m4_ : Value) (m5_ : Value) (m6_ : Value) (m7_ : Value) (m8_ : Value) (m9_ : Value), a = putSel a0_ b [(0, 34, .agg #[.int .i64 t.f0, .int .i64 t.f1, .slice B t.f2.length cq]), (1, 35, .agg #[.int .i64 s.f0, .int .i64 s.f1, .slice A s.f2.length cp]), (2, 36, .agg #[.int .i64 7, .int .i64 0, .slice (some ⟨ga2, 0, none⟩) 2 2]), (3, 37, m3_), (4, 38, m4_), (5, 39, m5_), (6, 40, m6_), (7, 41, m7_), (8, 42, m8_), (9, 9, m9_)] ∧ (Below W3.heap.size W3 w') ∧ (b 3 = true → Lay W3 w' gb3 #[.int .i64 7, .int .i64 0, .slice (some ⟨ga2, 0, none⟩) 2 2] 24) ∧ (b 5 = true → Lay W3 w' gb5 #[.int .i64 s.f0, .int .i64 s.f1, .slice A s.f2.length cp, .int .i64 6, .int .i64 0, .slice (some ⟨gb3, 0, none⟩) 1 1] 24) ∧ (b 7 = true → Lay W3 w' gb7 #[.int .i64 t.f0, .int .i64 t.f1, .slice B t.f2.length cq, .int .i64 4, .int .i64 0, .slice (some ⟨gb5, 0, none⟩) 2 2] 24) ∧ (b 9 = true → b 10 = false → Lay W3 w' pb9 #[.int .i64 0, .int .i64 0, .slice none 0 0] 24) ∧ (b 10 = true → Lay W3 w' pb9 #[.int .i64 5, .int .i64 0, .slice (some ⟨gb7, 0, none⟩) 2 2] 24) ∧ (b 3 = true → b 9 = true → gb3 ≠ pb9) ∧ (b 5 = true → b 9 = true → gb5 ≠ pb9) ∧ (b 7 = true → b 9 = true → gb7 ≠ pb9) ∧ (b 3 = true → (m3_ : Value) = .slice (some ⟨gb3, 0, none⟩) 1 1) ∧ (b 4 = true → (m4_ : Value) = .agg #[.int .i64 6, .int .i64 0, .slice (some ⟨gb3, 0, none⟩) 1 1]) ∧ (b 5 = true → (m5_ : Value) = .slice (some ⟨gb5, 0, none⟩) 2 2) ∧ (b 6 = true → (m6_ : Value) = .agg #[.int .i64 4, .int .i64 0, .slice (some ⟨gb5, 0, none⟩) 2 2]) ∧ (b 7 = true → (m7_ : Value) = .slice (some ⟨gb7, 0, none⟩) 2 2) ∧ (b 8 = true → (m8_ : Value) = .agg #[.int .i64 5, .int .i64 0, .slice (some ⟨gb7, 0, none⟩) 2 2]) ∧ (b 9 = true → (m9_ : Value) = .pointer (some ⟨pb9, 0, none⟩))) HT_.out HW_.out (by kernel_rfl) (by kernel_rfl) ?_ ?_ ?_
        · exact ⟨0, 0, 0, 0, .bool false, .bool false, .bool false, .bool false, .bool false, .bool false, .bool false, by simp only [putSel, Bool.false_eq_true, if_false], BW.out, fun h_ => absurd h_ (by decide), fun h_ => absurd h_ (by decide), fun h_ => absurd h_ (by decide), fun h_ => absurd h_ (by decide), fun h_ => absurd h_ (by decide), fun h_ => absurd h_ (by decide), fun h_ => absurd h_ (by decide), fun h_ => absurd h_ (by decide), fun h_ => absurd h_ (by decide), fun h_ => absurd h_ (by decide), fun h_ => absurd h_ (by decide), fun h_ => absurd h_ (by decide), fun h_ => absurd h_ (by decide), fun h_ => absurd h_ (by decide), fun h_ => absurd h_ (by decide)⟩
        · skip
          clear BW
          refine steps_cons ?_ ?_
          · rintro b a w' ⟨gb3, gb5, gb7, pb9, m3_, m4_, m5_, m6_, m7_, m8_, m9_, ha, Q_BW, Q_Rb3, Q_Rb5, Q_Rb7, Q_Pb9, Q_Sb9, Q_Nb3_9, Q_Nb5_9, Q_Nb7_9, Q_X3_, Q_X4_, Q_X5_, Q_X6_, Q_X7_, Q_X8_, Q_X9_⟩ hb_ hon hoff
            refine ⟨_, rfl, fun K hK => ?_⟩
            have e4 : a.tmps[4]? = some (.pointer (some ⟨w.heap.size + 1, 0, none⟩)) := by rw [ha]; exact (putSel_off rfl).trans rfl
            replace ha := Aside0.mk ha
            have BW := Aside0.mk Q_BW
            have hk_ := (BW.out.block _ (blk_lt HG3.out)).trans HG3.out
            have q0_ := (blk_cell hk_ 0).trans rfl
            have q1_ := (blk_cell hk_ 1).trans rfl
            have q2_ := (blk_cell hk_ 2).trans rfl
            refine value_ (w1 := w') (v := .agg #[.int .i64 t.f0, .int .i64 t.f1, .slice B t.f2.length cq]) (by rfl) rfl ?_ ?_
            · go_simp
              (try simp only [i64_w])
              try rfl
            refine hK.out _ _ ⟨gb3, gb5, gb7, pb9, m3_, m4_, m5_, m6_, m7_, m8_, m9_, (by rw [ha.out]; exact putSel_upk 0 hb_ rfl rfl rfl), Q_BW, Q_Rb3, Q_Rb5, fun h0_ => absurd ((hoff 7 (by kernel_rfl)).symm.trans h0_) (by decide), Q_Pb9, fun h0_ => absurd ((hoff 10 (by kernel_rfl)).symm.trans h0_) (by decide), Q_Nb3_9, Q_Nb5_9, fun h0_ _ => absurd ((hoff 7 (by kernel_rfl)).symm.trans h0_) (by decide), Q_X3_, Q_X4_, Q_X5_, Q_X6_, fun h0_ => absurd ((hoff 7 (by kernel_rfl)).symm.trans h0_) (by decide), fun h0_ => absurd ((hoff 8 (by kernel_rfl)).symm.trans h0_) (by decide), Q_X9_⟩
          refine steps_cons ?_ ?_
          · rintro b a w' ⟨gb3, gb5, gb7, pb9, m3_, m4_, m5_, m6_, m7_, m8_, m9_, ha, Q_BW, Q_Rb3, Q_Rb5, Q_Rb7, Q_Pb9, Q_Sb9, Q_Nb3_9, Q_Nb5_9, Q_Nb7_9, Q_X3_, Q_X4_, Q_X5_, Q_X6_, Q_X7_, Q_X8_, Q_X9_⟩ hb_ hon hoff
            refine ⟨_, rfl, fun K hK => ?_⟩
            have e3 : a.tmps[3]? = some (.pointer (some ⟨w.heap.size, 0, none⟩)) := by rw [ha]; exact (putSel_off rfl).trans rfl
            replace ha := Aside0.mk ha
            have BW := Aside0.mk Q_BW
            have hk_ := (BW.out.block _ (blk_lt HF3.out)).trans HF3.out
            have q0_ := (blk_cell hk_ 0).trans rfl
            have q1_ := (blk_cell hk_ 1).trans rfl
            have q2_ := (blk_cell hk_ 2).trans rfl
            refine value_ (w1 := w') (v := .agg #[.int .i64 s.f0, .int .i64 s.f1, .slice A s.f2.length cp]) (by rfl) rfl ?_ ?_
            · go_simp
              (try simp only [i64_w])
              try rfl
            refine hK.out _ _ ⟨gb3, gb5, gb7, pb9, m3_, m4_, m5_, m6_, m7_, m8_, m9_, (by rw [ha.out]; exact putSel_upk 1 hb_ rfl rfl rfl), Q_BW, Q_Rb3, fun h0_ => absurd ((hoff 5 (by kernel_rfl)).symm.trans h0_) (by decide), fun h0_ => absurd ((hoff 7 (by kernel_rfl)).symm.trans h0_) (by decide), Q_Pb9, fun h0_ => absurd ((hoff 10 (by kernel_rfl)).symm.trans h0_) (by decide), Q_Nb3_9, fun h0_ _ => absurd ((hoff 5 (by kernel_rfl)).symm.trans h0_) (by decide), fun h0_ _ => absurd ((hoff 7 (by kernel_rfl)).symm.trans h0_) (by decide), Q_X3_, Q_X4_, fun h0_ => absurd ((hoff 5 (by kernel_rfl)).symm.trans h0_) (by decide), fun h0_ => absurd ((hoff 6 (by kernel_rfl)).symm.trans h0_) (by decide), fun h0_ => absurd ((hoff 7 (by kernel_rfl)).symm.trans h0_) (by decide), fun h0_ => absurd ((hoff 8 (by kernel_rfl)).symm.trans h0_) (by decide), Q_X9_⟩
          refine steps_cons ?_ ?_
          · rintro b a w' ⟨gb3, gb5, gb7, pb9, m3_, m4_, m5_, m6_, m7_, m8_, m9_, ha, Q_BW, Q_Rb3, Q_Rb5, Q_Rb7, Q_Pb9, Q_Sb9, Q_Nb3_9, Q_Nb5_9, Q_Nb7_9, Q_X3_, Q_X4_, Q_X5_, Q_X6_, Q_X7_, Q_X8_, Q_X9_⟩ hb_ hon hoff
            refine ⟨_, rfl, fun K hK => ?_⟩
            have e7 : a.tmps[7]? = some (.pointer (some ⟨pa8, 0, none⟩)) := by rw [ha]; exact (putSel_off rfl).trans rfl
            replace ha := Aside0.mk ha
            have BW := Aside0.mk Q_BW
            have hk_ := (BW.out.block _ (blk_lt HU3.out)).trans HU3.out
            have q0_ := (blk_cell hk_ 0).trans rfl
            have q1_ := (blk_cell hk_ 1).trans rfl
            have q2_ := (blk_cell hk_ 2).trans rfl
            refine value_ (w1 := w') (v := .agg #[.int .i64 7, .int .i64 0, .slice (some ⟨ga2, 0, none⟩) 2 2]) (by rfl) rfl ?_ ?_
            · go_simp
              (try simp only [i64_w])
              try rfl
            refine hK.out _ _ ⟨gb3, gb5, gb7, pb9, m3_, m4_, m5_, m6_, m7_, m8_, m9_, (by rw [ha.out]; exact putSel_upk 2 hb_ rfl rfl rfl), Q_BW, fun h0_ => absurd ((hoff 3 (by kernel_rfl)).symm.trans h0_) (by decide), fun h0_ => absurd ((hoff 5 (by kernel_rfl)).symm.trans h0_) (by decide), fun h0_ => absurd ((hoff 7 (by kernel_rfl)).symm.trans h0_) (by decide), Q_Pb9, fun h0_ => absurd ((hoff 10 (by kernel_rfl)).symm.trans h0_) (by decide), fun h0_ _ => absurd ((hoff 3 (by kernel_rfl)).symm.trans h0_) (by decide), fun h0_ _ => absurd ((hoff 5 (by kernel_rfl)).symm.trans h0_) (by decide), fun h0_ _ => absurd ((hoff 7 (by kernel_rfl)).symm.trans h0_) (by decide), fun h0_ => absurd ((hoff 3 (by kernel_rfl)).symm.trans h0_) (by decide), fun h0_ => absurd ((hoff 4 (by kernel_rfl)).symm.trans h0_) (by decide), fun h0_ => absurd ((hoff 5 (by kernel_rfl)).symm.trans h0_) (by decide), fun h0_ => absurd ((hoff 6 (by kernel_rfl)).symm.trans h0_) (by decide), fun h0_ => absurd ((hoff 7 (by kernel_rfl)).symm.trans h0_) (by decide), fun h0_ => absurd ((hoff 8 (by kernel_rfl)).symm.trans h0_) (by decide), Q_X9_⟩
          refine steps_cons ?_ ?_
          · rintro b a w' ⟨gb3, gb5, gb7, pb9, m3_, m4_, m5_, m6_, m7_, m8_, m9_, ha, Q_BW, Q_Rb3, Q_Rb5, Q_Rb7, Q_Pb9, Q_Sb9, Q_Nb3_9, Q_Nb5_9, Q_Nb7_9, Q_X3_, Q_X4_, Q_X5_, Q_X6_, Q_X7_, Q_X8_, Q_X9_⟩ hb_ hon hoff
            refine ⟨_, rfl, fun K hK => ?_⟩
            have e36 : a.tmps[36]? = some (.agg #[.int .i64 7, .int .i64 0, .slice (some ⟨ga2, 0, none⟩) 2 2]) := by rw [ha]; exact putSel_on (e := (2, 36, .agg #[.int .i64 7, .int .i64 0, .slice (some ⟨ga2, 0, none⟩) 2 2])) 2 rfl rfl (hon 2 (by kernel_rfl)) rfl
            replace ha := Aside0.mk ha
            have BW := Aside0.mk Q_BW
            refine value_ (w1 := w'.alloc (.cells #[.int .i64 7, .int .i64 0, .slice (some ⟨ga2, 0, none⟩) 2 2] 24)) (v := .slice (some ⟨w'.heap.size, 0, none⟩) 1 1) (by rfl) rfl ?_ ?_
            · (go_simp; try rfl)
            refine hK.out _ _ ⟨w'.heap.size, gb5, gb7, pb9, (.slice (some ⟨w'.heap.size, 0, none⟩) 1 1), m4_, m5_, m6_, m7_, m8_, m9_, (by rw [ha.out]; exact putSel_upk 3 hb_ rfl rfl rfl), below_alloc BW.out _, fun _ => Lay.new BW.out _ _, fun h0_ => absurd ((hoff 5 (by kernel_rfl)).symm.trans h0_) (by decide), fun h0_ => absurd ((hoff 7 (by kernel_rfl)).symm.trans h0_) (by decide), fun h0_ h1_ => (Q_Pb9 h0_ h1_).alloc _, fun h0_ => absurd ((hoff 10 (by kernel_rfl)).symm.trans h0_) (by decide), fun _ h_ => (Q_Pb9 h_ (hoff 10 (by kernel_rfl))).ne_new, fun h0_ _ => absurd ((hoff 5 (by kernel_rfl)).symm.trans h0_) (by decide), fun h0_ _ => absurd ((hoff 7 (by kernel_rfl)).symm.trans h0_) (by decide), fun _ => rfl, fun h0_ => absurd ((hoff 4 (by kernel_rfl)).symm.trans h0_) (by decide), fun h0_ => absurd ((hoff 5 (by kernel_rfl)).symm.trans h0_) (by decide), fun h0_ => absurd ((hoff 6 (by kernel_rfl)).symm.trans h0_) (by decide), fun h0_ => absurd ((hoff 7 (by kernel_rfl)).symm.trans h0_) (by decide), fun h0_ => absurd ((hoff 8 (by kernel_rfl)).symm.trans h0_) (by decide), Q_X9_⟩
          refine steps_cons ?_ ?_
          · rintro b a w' ⟨gb3, gb5, gb7, pb9, m3_, m4_, m5_, m6_, m7_, m8_, m9_, ha, Q_BW, Q_Rb3, Q_Rb5, Q_Rb7, Q_Pb9, Q_Sb9, Q_Nb3_9, Q_Nb5_9, Q_Nb7_9, Q_X3_, Q_X4_, Q_X5_, Q_X6_, Q_X7_, Q_X8_, Q_X9_⟩ hb_ hon hoff
            refine ⟨_, rfl, fun K hK => ?_⟩
            have e37 : a.tmps[37]? = some (m3_) := by rw [ha]; exact putSel_on (e := (3, 37, m3_)) 3 rfl rfl (hon 3 (by kernel_rfl)) rfl
            rw [Q_X3_ (hon 3 (by kernel_rfl))] at e37
            replace ha := Aside0.mk ha
            have BW := Aside0.mk Q_BW
            have Rb3 := Aside0.mk (Q_Rb3 (hon 3 (by kernel_rfl)))
            refine goes_ Tryd.func12 (by kernel_rfl) rfl #[.int .i64 6, .slice (some ⟨gb3, 0, none⟩) 1 1] (by rfl) rfl rfl (by first | (simp only [List.map_toArray, List.map_cons, List.map_nil, Act.eval, Array.getD_eq_getD_getElem?, Option.getD_some, e37]; done) | (simp only [List.map_toArray, List.map_cons, List.map_nil, Act.eval, Array.getD_eq_getD_getElem?, Option.getD_some, e37]; rfl)) ?_
            with_reducible refine (op_calls _ _ _ _ _).mono ?_
            rintro e_ w1 ⟨rfl, hB⟩
            refine ⟨_, rfl, ?_⟩
            refine hK.out _ _ ⟨gb3, gb5, gb7, pb9, m3_, (.agg #[.int .i64 6, .int .i64 0, .slice (some ⟨gb3, 0, none⟩) 1 1]), m5_, m6_, m7_, m8_, m9_, (by rw [ha.out]; exact putSel_upk 4 hb_ rfl rfl rfl), BW.out.trans (hB.mono BW.out.size), fun _ => Rb3.out.below hB, fun h0_ => absurd ((hoff 5 (by kernel_rfl)).symm.trans h0_) (by decide), fun h0_ => absurd ((hoff 7 (by kernel_rfl)).symm.trans h0_) (by decide), fun h0_ h1_ => (Q_Pb9 h0_ h1_).below hB, fun h0_ => absurd ((hoff 10 (by kernel_rfl)).symm.trans h0_) (by decide), Q_Nb3_9, fun h0_ _ => absurd ((hoff 5 (by kernel_rfl)).symm.trans h0_) (by decide), fun h0_ _ => absurd ((hoff 7 (by kernel_rfl)).symm.trans h0_) (by decide), Q_X3_, fun _ => rfl, fun h0_ => absurd ((hoff 5 (by kernel_rfl)).symm.trans h0_) (by decide), fun h0_ => absurd ((hoff 6 (by kernel_rfl)).symm.trans h0_) (by decide), fun h0_ => absurd ((hoff 7 (by kernel_rfl)).symm.trans h0_) (by decide), fun h0_ => absurd ((hoff 8 (by kernel_rfl)).symm.trans h0_) (by decide), Q_X9_⟩
          refine steps_cons ?_ ?_
          · rintro b a w' ⟨gb3, gb5, gb7, pb9, m3_, m4_, m5_, m6_, m7_, m8_, m9_, ha, Q_BW, Q_Rb3, Q_Rb5, Q_Rb7, Q_Pb9, Q_Sb9, Q_Nb3_9, Q_Nb5_9, Q_Nb7_9, Q_X3_, Q_X4_, Q_X5_, Q_X6_, Q_X7_, Q_X8_, Q_X9_⟩ hb_ hon hoff
            refine ⟨_, rfl, fun K hK => ?_⟩
            have e35 : a.tmps[35]? = some (.agg #[.int .i64 s.f0, .int .i64 s.f1, .slice A s.f2.length cp]) := by rw [ha]; exact putSel_on (e := (1, 35, .agg #[.int .i64 s.f0, .int .i64 s.f1, .slice A s.f2.length cp])) 1 rfl rfl (hon 1 (by kernel_rfl)) rfl
            have e38 : a.tmps[38]? = some (m4_) := by rw [ha]; exact putSel_on (e := (4, 38, m4_)) 4 rfl rfl (hon 4 (by kernel_rfl)) rfl
            rw [Q_X4_ (hon 4 (by kernel_rfl))] at e38
            replace ha := Aside0.mk ha
            have BW := Aside0.mk Q_BW
            have Rb3 := Aside0.mk (Q_Rb3 (hon 3 (by kernel_rfl)))
            refine value_ (w1 := w'.alloc (.cells #[.int .i64 s.f0, .int .i64 s.f1, .slice A s.f2.length cp, .int .i64 6, .int .i64 0, .slice (some ⟨gb3, 0, none⟩) 1 1] 24)) (v := .slice (some ⟨w'.heap.size, 0, none⟩) 2 2) (by rfl) rfl ?_ ?_
            · (go_simp; try rfl)
            refine hK.out _ _ ⟨gb3, w'.heap.size, gb7, pb9, m3_, m4_, (.slice (some ⟨w'.heap.size, 0, none⟩) 2 2), m6_, m7_, m8_, m9_, (by rw [ha.out]; exact putSel_upk 5 hb_ rfl rfl rfl), below_alloc BW.out _, fun _ => Rb3.out.alloc _, fun _ => Lay.new BW.out _ _, fun h0_ => absurd ((hoff 7 (by kernel_rfl)).symm.trans h0_) (by decide), fun h0_ h1_ => (Q_Pb9 h0_ h1_).alloc _, fun h0_ => absurd ((hoff 10 (by kernel_rfl)).symm.trans h0_) (by decide), Q_Nb3_9, fun _ h_ => (Q_Pb9 h_ (hoff 10 (by kernel_rfl))).ne_new, fun h0_ _ => absurd ((hoff 7 (by kernel_rfl)).symm.trans h0_) (by decide), Q_X3_, Q_X4_, fun _ => rfl, fun h0_ => absurd ((hoff 6 (by kernel_rfl)).symm.trans h0_) (by decide), fun h0_ => absurd ((hoff 7 (by kernel_rfl)).symm.trans h0_) (by decide), fun h0_ => absurd ((hoff 8 (by kernel_rfl)).symm.trans h0_) (by decide), Q_X9_⟩
          refine steps_cons ?_ ?_
          · rintro b a w' ⟨gb3, gb5, gb7, pb9, m3_, m4_, m5_, m6_, m7_, m8_, m9_, ha, Q_BW, Q_Rb3, Q_Rb5, Q_Rb7, Q_Pb9, Q_Sb9, Q_Nb3_9, Q_Nb5_9, Q_Nb7_9, Q_X3_, Q_X4_, Q_X5_, Q_X6_, Q_X7_, Q_X8_, Q_X9_⟩ hb_ hon hoff
            refine ⟨_, rfl, fun K hK => ?_⟩
            have e39 : a.tmps[39]? = some (m5_) := by rw [ha]; exact putSel_on (e := (5, 39, m5_)) 5 rfl rfl (hon 5 (by kernel_rfl)) rfl
            rw [Q_X5_ (hon 5 (by kernel_rfl))] at e39
            replace ha := Aside0.mk ha
            have BW := Aside0.mk Q_BW
            have Rb3 := Aside0.mk (Q_Rb3 (hon 3 (by kernel_rfl)))
            have Rb5 := Aside0.mk (Q_Rb5 (hon 5 (by kernel_rfl)))
            refine goes_ Tryd.func12 (by kernel_rfl) rfl #[.int .i64 4, .slice (some ⟨gb5, 0, none⟩) 2 2] (by rfl) rfl rfl (by first | (simp only [List.map_toArray, List.map_cons, List.map_nil, Act.eval, Array.getD_eq_getD_getElem?, Option.getD_some, e39]; done) | (simp only [List.map_toArray, List.map_cons, List.map_nil, Act.eval, Array.getD_eq_getD_getElem?, Option.getD_some, e39]; rfl)) ?_
            with_reducible refine (op_calls _ _ _ _ _).mono ?_
            rintro e_ w1 ⟨rfl, hB⟩
            refine ⟨_, rfl, ?_⟩
            refine hK.out _ _ ⟨gb3, gb5, gb7, pb9, m3_, m4_, m5_, (.agg #[.int .i64 4, .int .i64 0, .slice (some ⟨gb5, 0, none⟩) 2 2]), m7_, m8_, m9_, (by rw [ha.out]; exact putSel_upk 6 hb_ rfl rfl rfl), BW.out.trans (hB.mono BW.out.size), fun _ => Rb3.out.below hB, fun _ => Rb5.out.below hB, fun h0_ => absurd ((hoff 7 (by kernel_rfl)).symm.trans h0_) (by decide), fun h0_ h1_ => (Q_Pb9 h0_ h1_).below hB, fun h0_ => absurd ((hoff 10 (by kernel_rfl)).symm.trans h0_) (by decide), Q_Nb3_9, Q_Nb5_9, fun h0_ _ => absurd ((hoff 7 (by kernel_rfl)).symm.trans h0_) (by decide), Q_X3_, Q_X4_, Q_X5_, fun _ => rfl, fun h0_ => absurd ((hoff 7 (by kernel_rfl)).symm.trans h0_) (by decide), fun h0_ => absurd ((hoff 8 (by kernel_rfl)).symm.trans h0_) (by decide), Q_X9_⟩
          refine steps_cons ?_ ?_
          · rintro b a w' ⟨gb3, gb5, gb7, pb9, m3_, m4_, m5_, m6_, m7_, m8_, m9_, ha, Q_BW, Q_Rb3, Q_Rb5, Q_Rb7, Q_Pb9, Q_Sb9, Q_Nb3_9, Q_Nb5_9, Q_Nb7_9, Q_X3_, Q_X4_, Q_X5_, Q_X6_, Q_X7_, Q_X8_, Q_X9_⟩ hb_ hon hoff
            refine ⟨_, rfl, fun K hK => ?_⟩
            have e34 : a.tmps[34]? = some (.agg #[.int .i64 t.f0, .int .i64 t.f1, .slice B t.f2.length cq]) := by rw [ha]; exact putSel_on (e := (0, 34, .agg #[.int .i64 t.f0, .int .i64 t.f1, .slice B t.f2.length cq])) 0 rfl rfl (hon 0 (by kernel_rfl)) rfl
            have e40 : a.tmps[40]? = some (m6_) := by rw [ha]; exact putSel_on (e := (6, 40, m6_)) 6 rfl rfl (hon 6 (by kernel_rfl)) rfl
            rw [Q_X6_ (hon 6 (by kernel_rfl))] at e40
            replace ha := Aside0.mk ha
            have BW := Aside0.mk Q_BW
            have Rb3 := Aside0.mk (Q_Rb3 (hon 3 (by kernel_rfl)))
            have Rb5 := Aside0.mk (Q_Rb5 (hon 5 (by kernel_rfl)))
            refine value_ (w1 := w'.alloc (.cells #[.int .i64 t.f0, .int .i64 t.f1, .slice B t.f2.length cq, .int .i64 4, .int .i64 0, .slice (some ⟨gb5, 0, none⟩) 2 2] 24)) (v := .slice (some ⟨w'.heap.size, 0, none⟩) 2 2) (by rfl) rfl ?_ ?_
            · (go_simp; try rfl)
            refine hK.out _ _ ⟨gb3, gb5, w'.heap.size, pb9, m3_, m4_, m5_, m6_, (.slice (some ⟨w'.heap.size, 0, none⟩) 2 2), m8_, m9_, (by rw [ha.out]; exact putSel_upk 7 hb_ rfl rfl rfl), below_alloc BW.out _, fun _ => Rb3.out.alloc _, fun _ => Rb5.out.alloc _, fun _ => Lay.new BW.out _ _, fun h0_ h1_ => (Q_Pb9 h0_ h1_).alloc _, fun h0_ => absurd ((hoff 10 (by kernel_rfl)).symm.trans h0_) (by decide), Q_Nb3_9, Q_Nb5_9, fun _ h_ => (Q_Pb9 h_ (hoff 10 (by kernel_rfl))).ne_new, Q_X3_, Q_X4_, Q_X5_, Q_X6_, fun _ => rfl, fun h0_ => absurd ((hoff 8 (by kernel_rfl)).symm.trans h0_) (by decide), Q_X9_⟩
          refine steps_cons ?_ ?_
          · rintro b a w' ⟨gb3, gb5, gb7, pb9, m3_, m4_, m5_, m6_, m7_, m8_, m9_, ha, Q_BW, Q_Rb3, Q_Rb5, Q_Rb7, Q_Pb9, Q_Sb9, Q_Nb3_9, Q_Nb5_9, Q_Nb7_9, Q_X3_, Q_X4_, Q_X5_, Q_X6_, Q_X7_, Q_X8_, Q_X9_⟩ hb_ hon hoff
            refine ⟨_, rfl, fun K hK => ?_⟩
            have e41 : a.tmps[41]? = some (m7_) := by rw [ha]; exact putSel_on (e := (7, 41, m7_)) 7 rfl rfl (hon 7 (by kernel_rfl)) rfl
            rw [Q_X7_ (hon 7 (by kernel_rfl))] at e41
            replace ha := Aside0.mk ha
            have BW := Aside0.mk Q_BW
            have Rb3 := Aside0.mk (Q_Rb3 (hon 3 (by kernel_rfl)))
            have Rb5 := Aside0.mk (Q_Rb5 (hon 5 (by kernel_rfl)))
            have Rb7 := Aside0.mk (Q_Rb7 (hon 7 (by kernel_rfl)))
            refine goes_ Tryd.func12 (by kernel_rfl) rfl #[.int .i64 5, .slice (some ⟨gb7, 0, none⟩) 2 2] (by rfl) rfl rfl (by first | (simp only [List.map_toArray, List.map_cons, List.map_nil, Act.eval, Array.getD_eq_getD_getElem?, Option.getD_some, e41]; done) | (simp only [List.map_toArray, List.map_cons, List.map_nil, Act.eval, Array.getD_eq_getD_getElem?, Option.getD_some, e41]; rfl)) ?_
            with_reducible refine (op_calls _ _ _ _ _).mono ?_
            rintro e_ w1 ⟨rfl, hB⟩
            refine ⟨_, rfl, ?_⟩
            refine hK.out _ _ ⟨gb3, gb5, gb7, pb9, m3_, m4_, m5_, m6_, m7_, (.agg #[.int .i64 5, .int .i64 0, .slice (some ⟨gb7, 0, none⟩) 2 2]), m9_, (by rw [ha.out]; exact putSel_upk 8 hb_ rfl rfl rfl), BW.out.trans (hB.mono BW.out.size), fun _ => Rb3.out.below hB, fun _ => Rb5.out.below hB, fun _ => Rb7.out.below hB, fun h0_ h1_ => (Q_Pb9 h0_ h1_).below hB, fun h0_ => absurd ((hoff 10 (by kernel_rfl)).symm.trans h0_) (by decide), Q_Nb3_9, Q_Nb5_9, Q_Nb7_9, Q_X3_, Q_X4_, Q_X5_, Q_X6_, Q_X7_, fun _ => rfl, Q_X9_⟩
          refine steps_cons ?_ ?_
          · rintro b a w' ⟨gb3, gb5, gb7, pb9, m3_, m4_, m5_, m6_, m7_, m8_, m9_, ha, Q_BW, Q_Rb3, Q_Rb5, Q_Rb7, Q_Pb9, Q_Sb9, Q_Nb3_9, Q_Nb5_9, Q_Nb7_9, Q_X3_, Q_X4_, Q_X5_, Q_X6_, Q_X7_, Q_X8_, Q_X9_⟩ hb_ hon hoff
            refine ⟨_, rfl, fun K hK => ?_⟩
            replace ha := Aside0.mk ha
            have BW := Aside0.mk Q_BW
            refine value_ (w1 := w'.alloc (.cells #[.int .i64 0, .int .i64 0, .slice none 0 0] 24)) (v := .pointer (some ⟨w'.heap.size, 0, none⟩)) (by rfl) rfl ?_ ?_
            · (go_simp; try rfl)
            refine hK.out _ _ ⟨gb3, gb5, gb7, w'.heap.size, m3_, m4_, m5_, m6_, m7_, m8_, (.pointer (some ⟨w'.heap.size, 0, none⟩)), (by rw [ha.out]; exact putSel_upk 9 hb_ rfl rfl rfl), below_alloc BW.out _, fun h0_ => (Q_Rb3 h0_).alloc _, fun h0_ => (Q_Rb5 h0_).alloc _, fun h0_ => (Q_Rb7 h0_).alloc _, fun _ _ => Lay.new BW.out _ _, fun h0_ => absurd ((hoff 10 (by kernel_rfl)).symm.trans h0_) (by decide), fun h_ _ => (Q_Rb3 h_).ne_new.symm, fun h_ _ => (Q_Rb5 h_).ne_new.symm, fun h_ _ => (Q_Rb7 h_).ne_new.symm, Q_X3_, Q_X4_, Q_X5_, Q_X6_, Q_X7_, Q_X8_, fun _ => rfl⟩
          refine steps_cons ?_ ?_
          · rintro b a w' ⟨gb3, gb5, gb7, pb9, m3_, m4_, m5_, m6_, m7_, m8_, m9_, ha, Q_BW, Q_Rb3, Q_Rb5, Q_Rb7, Q_Pb9, Q_Sb9, Q_Nb3_9, Q_Nb5_9, Q_Nb7_9, Q_X3_, Q_X4_, Q_X5_, Q_X6_, Q_X7_, Q_X8_, Q_X9_⟩ hb_ hon hoff
            refine ⟨_, rfl, fun K hK => ?_⟩
            have e9 : a.tmps[9]? = some (m9_) := by rw [ha]; exact putSel_on (e := (9, 9, m9_)) 9 rfl rfl (hon 9 (by kernel_rfl)) rfl
            rw [Q_X9_ (hon 9 (by kernel_rfl))] at e9
            have e42 : a.tmps[42]? = some (m8_) := by rw [ha]; exact putSel_on (e := (8, 42, m8_)) 8 rfl rfl (hon 8 (by kernel_rfl)) rfl
            rw [Q_X8_ (hon 8 (by kernel_rfl))] at e42
            replace ha := Aside0.mk ha
            have BW := Aside0.mk Q_BW
            have Rb3 := Aside0.mk (Q_Rb3 (hon 3 (by kernel_rfl)))
            have Rb5 := Aside0.mk (Q_Rb5 (hon 5 (by kernel_rfl)))
            have Rb7 := Aside0.mk (Q_Rb7 (hon 7 (by kernel_rfl)))
            have Pb9 := Aside0.mk (Q_Pb9 (hon 9 (by kernel_rfl)) hb_)
            have Nb3_9 := Aside0.mk (Q_Nb3_9 (hon 3 (by kernel_rfl)) (hon 9 (by kernel_rfl)))
            have Nb5_9 := Aside0.mk (Q_Nb5_9 (hon 5 (by kernel_rfl)) (hon 9 (by kernel_rfl)))
            have Nb7_9 := Aside0.mk (Q_Nb7_9 (hon 7 (by kernel_rfl)) (hon 9 (by kernel_rfl)))
            have z0_ := (blk_cell Pb9.out.2 0).trans rfl
            have z1_ := (blk_cell Pb9.out.2 1).trans rfl
            have z2_ := (blk_cell Pb9.out.2 2).trans rfl
            have f0_ := blk_frozen Pb9.out.2 0
            have f1_ := blk_frozen Pb9.out.2 1
            have f2_ := blk_frozen Pb9.out.2 2
            refine skip_ (w1 := put3 w' pb9 (.int .i64 5) (.int .i64 0) (.slice (some ⟨gb7, 0, none⟩) 2 2)) (by rfl) rfl ?_ ?_
            · (unfold put3; go_simp; try rfl)
            refine hK.out _ _ ⟨gb3, gb5, gb7, pb9, m3_, m4_, m5_, m6_, m7_, m8_, m9_, (by rw [ha.out]; exact putSel_none (v := undef) rfl), below_put3 BW.out Pb9.out.1 _ _ _, fun _ => Rb3.out.far3 Nb3_9.out _ _ _, fun _ => Rb5.out.far3 Nb5_9.out _ _ _, fun _ => Rb7.out.far3 Nb7_9.out _ _ _, fun _ h1_ => absurd ((up_self b 10).symm.trans h1_) (by decide), fun _ => Pb9.out.put3 _ _ _, Q_Nb3_9, Q_Nb5_9, Q_Nb7_9, Q_X3_, Q_X4_, Q_X5_, Q_X6_, Q_X7_, Q_X8_, Q_X9_⟩
          exact steps_nil
        · rintro b a w' hall ⟨gb3, gb5, gb7, pb9, m3_, m4_, m5_, m6_, m7_, m8_, m9_, ha, Q_BW, Q_Rb3, Q_Rb5, Q_Rb7, Q_Pb9, Q_Sb9, Q_Nb3_9, Q_Nb5_9, Q_Nb7_9, Q_X3_, Q_X4_, Q_X5_, Q_X6_, Q_X7_, Q_X8_, Q_X9_⟩
          clear BW
          have hb0_ := hall 0 (by kernel_rfl)
          have hb1_ := hall 1 (by kernel_rfl)
          have hb2_ := hall 2 (by kernel_rfl)
          have hb3_ := hall 3 (by kernel_rfl)
          have hb4_ := hall 4 (by kernel_rfl)
          have hb5_ := hall 5 (by kernel_rfl)
          have hb6_ := hall 6 (by kernel_rfl)
          have hb7_ := hall 7 (by kernel_rfl)
          have hb8_ := hall 8 (by kernel_rfl)
          have hb9_ := hall 9 (by kernel_rfl)
          have hb10_ := hall 10 (by kernel_rfl)
          subst ha
          obtain rfl := Q_X3_ hb3_
          obtain rfl := Q_X4_ hb4_
          obtain rfl := Q_X5_ hb5_
          obtain rfl := Q_X6_ hb6_
          obtain rfl := Q_X7_ hb7_
          obtain rfl := Q_X8_ hb8_
          obtain rfl := Q_X9_ hb9_
          simp only [putSel, hb0_, hb1_, hb2_, hb3_, hb4_, hb5_, hb6_, hb7_, hb8_, hb9_, hb10_, if_true, Act.put, List.setIfInBounds_toArray, List.set_cons_zero, List.set_cons_succ]
          have BW := Aside0.mk Q_BW
          clear Q_BW
          have Rb3 := Aside0.mk (Q_Rb3 hb3_)
          clear Q_Rb3
          have Rb5 := Aside0.mk (Q_Rb5 hb5_)
          clear Q_Rb5
          have Rb7 := Aside0.mk (Q_Rb7 hb7_)
          clear Q_Rb7
          clear Q_Pb9
          have Sb9 := Aside0.mk (Q_Sb9 hb10_)
          clear Q_Sb9
          have Nb3_9 := Aside0.mk (Q_Nb3_9 hb3_ hb9_)
          clear Q_Nb3_9
          have Nb5_9 := Aside0.mk (Q_Nb5_9 hb5_ hb9_)
          clear Q_Nb5_9
          have Nb7_9 := Aside0.mk (Q_Nb7_9 hb7_ hb9_)
          clear Q_Nb7_9
          clear hall hb0_ hb1_ hb2_ hb3_ hb4_ hb5_ hb6_ hb7_ hb8_ hb9_ hb10_
          obtain ⟨W4, rfl⟩ : ∃ W : World, W = w' := ⟨_, rfl⟩
          have HBW4 := BW
          clear BW
          have HB4 := Aside0.mk (HB3.out.trans (HBW4.out.mono HB3.out.size))
          have HF4 := Aside0.mk ((HBW4.out.block _ (blk_lt HF3.out)).trans HF3.out)
          have HG4 := Aside0.mk ((HBW4.out.block _ (blk_lt HG3.out)).trans HG3.out)
          have HL4 := Aside0.mk ((HBW4.out.block _ (blk_lt HL3.out)).trans HL3.out)
          have HU4 := Aside0.mk ((HBW4.out.block _ (blk_lt HU3.out)).trans HU3.out)
          have HR4 := Aside0.mk ((HBW4.out.block _ (blk_lt HR3.out)).trans HR3.out)
          have HX4 := Aside0.mk Sb9.out.2
          have CR4 := Aside0.mk (Kd.C_below CR3.out HBW4.out)
          have CU4 := Aside0.mk (Kd.C_below CU3.out HBW4.out)
          have cb3 := C_of1 (s := untilS s t) Rb3.out.2 CU4.out (Nat.le_refl _)
          have cb5 := C_of2 (a := s) (b := ⟨6, 0, [untilS s t]⟩) Rb5.out.2 (Kd.C_below HKs.out HB4.out) hc cb3 (Nat.le_refl _)
          have CX4 := Aside0.mk (C_of2 (a := t) (b := ⟨4, 0, [s, ⟨6, 0, [untilS s t]⟩]⟩) Rb7.out.2 (Kd.C_below HKt.out HB4.out) hcm cb5 (Nat.le_refl _))
          clear cb3 cb5 Rb3 Rb5 Rb7 Sb9 CU3 CR3
          go_upto_region 5 with fail
          have BW := Aside0.mk (below_drew1 (Below.refl W4.heap.size W4))
          refine start_ (n := 12) (S := fun w' => True) (ds := []) #[false, false, false, false, false, false, false, false, false, false, false, false] (by kernel_rfl) rfl rfl trivial (fun hHeld => ?_)
          refine with_tabW fst.tab5 fst.bits5 (fun HT_ HW_ => ?_)
          refine inv_at [0, 1, 2, 3, 4, 5, 6, 7, 8, 9, 10, 11] (fun a0_ b a w' => ∃ (gc1 : Nat) (gc4 : Nat) (gc6 : Nat) (gc8 : Nat) (pc10 : Nat) (m1_ : Value) (m2_ : Value) (m4_ : Value) (m5_ : Value) (m6_ : Value) (m7_ : Value) (m8_ : Value) (m9_ : Value) (m10_ : Value), a = putSel a0_ b [(0, 43, .agg #[.int .i64 s.f0, .int .i64 s.f1, .slice A s.f2.length cp]), (1, 44, m1_), (2, 45, m2_), (3, 46, .agg #[.int .i64 t.f0, .int .i64 t.f1, .slice B t.f2.length cq]), (4, 47, m4_), (5, 48, m5_), (6, 49, m6_), (7, 50, m7_), (8, 51, m8_), (9, 52, m9_), (10, 10, m10_)] ∧ (Below W4.heap.size W4 w') ∧ (b 1 = true → Lay W4 w' gc1 #[.int .i64 s.f0, .int .i64 s.f1, .slice A s.f2.length cp] 24) ∧ (b 4 = true → Lay W4 w' gc4 #[.int .i64 t.f0, .int .i64 t.f1, .slice B t.f2.length cq] 24) ∧ (b 6 = true → Lay W4 w' gc6 #[.int .i64 3, .int .i64 0, .slice (some ⟨gc1, 0, none⟩) 1 1, .int .i64 3, .int .i64 0, .slice (some ⟨gc4, 0, none⟩) 1 1] 24) ∧ (b 8 = true → Lay W4 w' gc8 #[.int .i64 7, .int .i64 0, .slice (some ⟨gc6, 0, none⟩) 2 2] 24) ∧ (b 10 = true → b 11 = false → Lay W4 w' pc10 #[.int .i64 0, .int .i64 0, .slice none 0 0] 24) ∧ (b 11 = true → Lay W4 w' pc10 #[.int .i64 3, .int .i64 0, .slice (some ⟨gc8, 0, none⟩) 1 1] 24) ∧ (b 1 = true → b 10 = true → gc1 ≠ pc10) ∧ (b 4 = true → b 10 = true → gc4 ≠ pc10) ∧ (b 6 = true → b 10 = true → gc6 ≠ pc10) ∧ (b 8 = true → b 10 = true → gc8 ≠ pc10) ∧ (b 1 = true → (m1_ : Value) = .slice (some ⟨gc1, 0, none⟩) 1 1) ∧ (b 2 = true → (m2_ : Value) = .agg #[.int .i64 3, .int .i64 0, .slice (some ⟨gc1, 0, none⟩) 1 1]) ∧ (b 4 = true → (m4_ : Value) = .slice (some ⟨gc4, 0, none⟩) 1 1) ∧ (b 5 = true → (m5_ : Value) = .agg #[.int .i64 3, .int .i64 0, .slice (some ⟨gc4, 0, none⟩) 1 1]) ∧ (b 6 = true → (m6_ : Value) = .slice (some ⟨gc6, 0, none⟩) 2 2) ∧ (b 7 = true → (m7_ : Value) = .agg #[.int .i64 7, .int .i64 0, .slice (some ⟨gc6, 0, none⟩) 2 2]) ∧ (b 8 = true → (m8_ : Value) = .slice (some ⟨gc8, 0, none⟩) 1 1) ∧ (b 9 = true → (m9_ : Value) = .agg #[.int .i64 3, .int .i64 0, .slice (some ⟨gc8, 0, none⟩) 1 1]) ∧ (b 10 = true → (m10_ : Value) = .pointer (some ⟨pc10, 0, none⟩))) HT_.out HW_.out (by kernel_rfl) (by kernel_rfl) ?_ ?_ ?_
          · exact ⟨0, 0, 0, 0, 0, .bool false, .bool false, .bool false, .bool false, .bool false, .bool false, .bool false, .bool false, .bool false, by simp only [putSel, Bool.false_eq_true, if_false], BW.out, fun h_ => absurd h_ (by decide), fun h_ => absurd h_ (by decide), fun h_ => absurd h_ (by decide), fun h_ => absurd h_ (by decide), fun h_ => absurd h_ (by decide), fun h_ => absurd h_ (by decide), fun h_ => absurd h_ (by decide), fun h_ => absurd h_ (by decide), fun h_ => absurd h_ (by decide), fun h_ => absurd h_ (by decide), fun h_ => absurd h_ (by decide), fun h_ => absurd h_ (by decide), fun h_ => absurd h_ (by decide), fun h_ => absurd h_ (by decide), fun h_ => absurd h_ (by decide), fun h_ => absurd h_ (by decide), fun h_ => absurd h_ (by decide), fun h_ => absurd h_ (by decide), fun h_ => absurd h_ (by decide)⟩
          · skip
            clear BW
            refine steps_cons ?_ ?_
            · rintro b a w' ⟨gc1, gc4, gc6, gc8, pc10, m1_, m2_, m4_, m5_, m6_, m7_, m8_, m9_, m10_, ha, Q_BW, Q_Rc1, Q_Rc4, Q_Rc6, Q_Rc8, Q_Pc10, Q_Sc10, Q_Nc1_10, Q_Nc4_10, Q_Nc6_10, Q_Nc8_10, Q_X1_, Q_X2_, Q_X4_, Q_X5_, Q_X6_, Q_X7_, Q_X8_, Q_X9_, Q_X10_⟩ hb_ hon hoff
              refine ⟨_, rfl, fun K hK => ?_⟩
              have e3 : a.tmps[3]? = some (.pointer (some ⟨w.heap.size, 0, none⟩)) := by rw [ha]; exact (putSel_off rfl).trans rfl
              replace ha := Aside0.mk ha
              have BW := Aside0.mk Q_BW
              have hk_ := (BW.out.block _ (blk_lt HF4.out)).trans HF4.out
              have q0_ := (blk_cell hk_ 0).trans rfl
              have q1_ := (blk_cell hk_ 1).trans rfl
              have q2_ := (blk_cell hk_ 2).trans rfl
              refine value_ (w1 := w') (v := .agg #[.int .i64 s.f0, .int .i64 s.f1, .slice A s.f2.length cp]) (by rfl) rfl ?_ ?_
              · go_simp
                (try simp only [i64_w])
                try rfl
              refine hK.out _ _ ⟨gc1, gc4, gc6, gc8, pc10, m1_, m2_, m4_, m5_, m6_, m7_, m8_, m9_, m10_, (by rw [ha.out]; exact putSel_upk 0 hb_ rfl rfl rfl), Q_BW, fun h0_ => absurd ((hoff 1 (by kernel_rfl)).symm.trans h0_) (by decide), Q_Rc4, fun h0_ => absurd ((hoff 6 (by kernel_rfl)).symm.trans h0_) (by decide), fun h0_ => absurd ((hoff 8 (by kernel_rfl)).symm.trans h0_) (by decide), Q_Pc10, fun h0_ => absurd ((hoff 11 (by kernel_rfl)).symm.trans h0_) (by decide), fun h0_ _ => absurd ((hoff 1 (by kernel_rfl)).symm.trans h0_) (by decide), Q_Nc4_10, fun h0_ _ => absurd ((hoff 6 (by kernel_rfl)).symm.trans h0_) (by decide), fun h0_ _ => absurd ((hoff 8 (by kernel_rfl)).symm.trans h0_) (by decide), fun h0_ => absurd ((hoff 1 (by kernel_rfl)).symm.trans h0_) (by decide), fun h0_ => absurd ((hoff 2 (by kernel_rfl)).symm.trans h0_) (by decide), Q_X4_, fun h0_ => absurd ((hoff 5 (by kernel_rfl)).symm.trans h0_) (by decide), fun h0_ => absurd ((hoff 6 (by kernel_rfl)).symm.trans h0_) (by decide), fun h0_ => absurd ((hoff 7 (by kernel_rfl)).symm.trans h0_) (by decide), fun h0_ => absurd ((hoff 8 (by kernel_rfl)).symm.trans h0_) (by decide), fun h0_ => absurd ((hoff 9 (by kernel_rfl)).symm.trans h0_) (by decide), Q_X10_⟩
            refine steps_cons ?_ ?_
            · rintro b a w' ⟨gc1, gc4, gc6, gc8, pc10, m1_, m2_, m4_, m5_, m6_, m7_, m8_, m9_, m10_, ha, Q_BW, Q_Rc1, Q_Rc4, Q_Rc6, Q_Rc8, Q_Pc10, Q_Sc10, Q_Nc1_10, Q_Nc4_10, Q_Nc6_10, Q_Nc8_10, Q_X1_, Q_X2_, Q_X4_, Q_X5_, Q_X6_, Q_X7_, Q_X8_, Q_X9_, Q_X10_⟩ hb_ hon hoff
              refine ⟨_, rfl, fun K hK => ?_⟩
              have e43 : a.tmps[43]? = some (.agg #[.int .i64 s.f0, .int .i64 s.f1, .slice A s.f2.length cp]) := by rw [ha]; exact putSel_on (e := (0, 43, .agg #[.int .i64 s.f0, .int .i64 s.f1, .slice A s.f2.length cp])) 0 rfl rfl (hon 0 (by kernel_rfl)) rfl
              replace ha := Aside0.mk ha
              have BW := Aside0.mk Q_BW
              refine value_ (w1 := w'.alloc (.cells #[.int .i64 s.f0, .int .i64 s.f1, .slice A s.f2.length cp] 24)) (v := .slice (some ⟨w'.heap.size, 0, none⟩) 1 1) (by rfl) rfl ?_ ?_
              · (go_simp; try rfl)
              refine hK.out _ _ ⟨w'.heap.size, gc4, gc6, gc8, pc10, (.slice (some ⟨w'.heap.size, 0, none⟩) 1 1), m2_, m4_, m5_, m6_, m7_, m8_, m9_, m10_, (by rw [ha.out]; exact putSel_upk 1 hb_ rfl rfl rfl), below_alloc BW.out _, fun _ => Lay.new BW.out _ _, fun h0_ => (Q_Rc4 h0_).alloc _, fun h0_ => absurd ((hoff 6 (by kernel_rfl)).symm.trans h0_) (by decide), fun h0_ => absurd ((hoff 8 (by kernel_rfl)).symm.trans h0_) (by decide), fun h0_ h1_ => (Q_Pc10 h0_ h1_).alloc _, fun h0_ => absurd ((hoff 11 (by kernel_rfl)).symm.trans h0_) (by decide), fun _ h_ => (Q_Pc10 h_ (hoff 11 (by kernel_rfl))).ne_new, Q_Nc4_10, fun h0_ _ => absurd ((hoff 6 (by kernel_rfl)).symm.trans h0_) (by decide), fun h0_ _ => absurd ((hoff 8 (by kernel_rfl)).symm.trans h0_) (by decide), fun _ => rfl, fun h0_ => absurd ((hoff 2 (by kernel_rfl)).symm.trans h0_) (by decide), Q_X4_, fun h0_ => absurd ((hoff 5 (by kernel_rfl)).symm.trans h0_) (by decide), fun h0_ => absurd ((hoff 6 (by kernel_rfl)).symm.trans h0_) (by decide), fun h0_ => absurd ((hoff 7 (by kernel_rfl)).symm.trans h0_) (by decide), fun h0_ => absurd ((hoff 8 (by kernel_rfl)).symm.trans h0_) (by decide), fun h0_ => absurd ((hoff 9 (by kernel_rfl)).symm.trans h0_) (by decide), Q_X10_⟩
            refine steps_cons ?_ ?_
            · rintro b a w' ⟨gc1, gc4, gc6, gc8, pc10, m1_, m2_, m4_, m5_, m6_, m7_, m8_, m9_, m10_, ha, Q_BW, Q_Rc1, Q_Rc4, Q_Rc6, Q_Rc8, Q_Pc10, Q_Sc10, Q_Nc1_10, Q_Nc4_10, Q_Nc6_10, Q_Nc8_10, Q_X1_, Q_X2_, Q_X4_, Q_X5_, Q_X6_, Q_X7_, Q_X8_, Q_X9_, Q_X10_⟩ hb_ hon hoff
              refine ⟨_, rfl, fun K hK => ?_⟩
              have e44 : a.tmps[44]? = some (m1_) := by rw [ha]; exact putSel_on (e := (1, 44, m1_)) 1 rfl rfl (hon 1 (by kernel_rfl)) rfl
              rw [Q_X1_ (hon 1 (by kernel_rfl))] at e44
              replace ha := Aside0.mk ha
              have BW := Aside0.mk Q_BW
              have Rc1 := Aside0.mk (Q_Rc1 (hon 1 (by kernel_rfl)))
              refine goes_ Tryd.func12 (by kernel_rfl) rfl #[.int .i64 3, .slice (some ⟨gc1, 0, none⟩) 1 1] (by rfl) rfl rfl (by first | (simp only [List.map_toArray, List.map_cons, List.map_nil, Act.eval, Array.getD_eq_getD_getElem?, Option.getD_some, e44]; done) | (simp only [List.map_toArray, List.map_cons, List.map_nil, Act.eval, Array.getD_eq_getD_getElem?, Option.getD_some, e44]; rfl)) ?_
              with_reducible refine (op_calls _ _ _ _ _).mono ?_
              rintro e_ w1 ⟨rfl, hB⟩
              refine ⟨_, rfl, ?_⟩
              refine hK.out _ _ ⟨gc1, gc4, gc6, gc8, pc10, m1_, (.agg #[.int .i64 3, .int .i64 0, .slice (some ⟨gc1, 0, none⟩) 1 1]), m4_, m5_, m6_, m7_, m8_, m9_, m10_, (by rw [ha.out]; exact putSel_upk 2 hb_ rfl rfl rfl), BW.out.trans (hB.mono BW.out.size), fun _ => Rc1.out.below hB, fun h0_ => (Q_Rc4 h0_).below hB, fun h0_ => absurd ((hoff 6 (by kernel_rfl)).symm.trans h0_) (by decide), fun h0_ => absurd ((hoff 8 (by kernel_rfl)).symm.trans h0_) (by decide), fun h0_ h1_ => (Q_Pc10 h0_ h1_).below hB, fun h0_ => absurd ((hoff 11 (by kernel_rfl)).symm.trans h0_) (by decide), Q_Nc1_10, Q_Nc4_10, fun h0_ _ => absurd ((hoff 6 (by kernel_rfl)).symm.trans h0_) (by decide), fun h0_ _ => absurd ((hoff 8 (by kernel_rfl)).symm.trans h0_) (by decide), Q_X1_, fun _ => rfl, Q_X4_, fun h0_ => absurd ((hoff 5 (by kernel_rfl)).symm.trans h0_) (by decide), fun h0_ => absurd ((hoff 6 (by kernel_rfl)).symm.trans h0_) (by decide), fun h0_ => absurd ((hoff 7 (by kernel_rfl)).symm.trans h0_) (by decide), fun h0_ => absurd ((hoff 8 (by kernel_rfl)).symm.trans h0_) (by decide), fun h0_ => absurd ((hoff 9 (by kernel_rfl)).symm.trans h0_) (by decide), Q_X10_⟩
            refine steps_cons ?_ ?_
            · rintro b a w' ⟨gc1, gc4, gc6, gc8, pc10, m1_, m2_, m4_, m5_, m6_, m7_, m8_, m9_, m10_, ha, Q_BW, Q_Rc1, Q_Rc4, Q_Rc6, Q_Rc8, Q_Pc10, Q_Sc10, Q_Nc1_10, Q_Nc4_10, Q_Nc6_10, Q_Nc8_10, Q_X1_, Q_X2_, Q_X4_, Q_X5_, Q_X6_, Q_X7_, Q_X8_, Q_X9_, Q_X10_⟩ hb_ hon hoff
              refine ⟨_, rfl, fun K hK => ?_⟩
              have e4 : a.tmps[4]? = some (.pointer (some ⟨w.heap.size + 1, 0, none⟩)) := by rw [ha]; exact (putSel_off rfl).trans rfl
              replace ha := Aside0.mk ha
              have BW := Aside0.mk Q_BW
              have hk_ := (BW.out.block _ (blk_lt HG4.out)).trans HG4.out
              have q0_ := (blk_cell hk_ 0).trans rfl
              have q1_ := (blk_cell hk_ 1).trans rfl
              have q2_ := (blk_cell hk_ 2).trans rfl
              refine value_ (w1 := w') (v := .agg #[.int .i64 t.f0, .int .i64 t.f1, .slice B t.f2.length cq]) (by rfl) rfl ?_ ?_
              · go_simp
                (try simp only [i64_w])
                try rfl
              refine hK.out _ _ ⟨gc1, gc4, gc6, gc8, pc10, m1_, m2_, m4_, m5_, m6_, m7_, m8_, m9_, m10_, (by rw [ha.out]; exact putSel_upk 3 hb_ rfl rfl rfl), Q_BW, Q_Rc1, fun h0_ => absurd ((hoff 4 (by kernel_rfl)).symm.trans h0_) (by decide), fun h0_ => absurd ((hoff 6 (by kernel_rfl)).symm.trans h0_) (by decide), fun h0_ => absurd ((hoff 8 (by kernel_rfl)).symm.trans h0_) (by decide), Q_Pc10, fun h0_ => absurd ((hoff 11 (by kernel_rfl)).symm.trans h0_) (by decide), Q_Nc1_10, fun h0_ _ => absurd ((hoff 4 (by kernel_rfl)).symm.trans h0_) (by decide), fun h0_ _ => absurd ((hoff 6 (by kernel_rfl)).symm.trans h0_) (by decide), fun h0_ _ => absurd ((hoff 8 (by kernel_rfl)).symm.trans h0_) (by decide), Q_X1_, Q_X2_, fun h0_ => absurd ((hoff 4 (by kernel_rfl)).symm.trans h0_) (by decide), fun h0_ => absurd ((hoff 5 (by kernel_rfl)).symm.trans h0_) (by decide), fun h0_ => absurd ((hoff 6 (by kernel_rfl)).symm.trans h0_) (by decide), fun h0_ => absurd ((hoff 7 (by kernel_rfl)).symm.trans h0_) (by decide), fun h0_ => absurd ((hoff 8 (by kernel_rfl)).symm.trans h0_) (by decide), fun h0_ => absurd ((hoff 9 (by kernel_rfl)).symm.trans h0_) (by decide), Q_X10_⟩
            refine steps_cons ?_ ?_
            · rintro b a w' ⟨gc1, gc4, gc6, gc8, pc10, m1_, m2_, m4_, m5_, m6_, m7_, m8_, m9_, m10_, ha, Q_BW, Q_Rc1, Q_Rc4, Q_Rc6, Q_Rc8, Q_Pc10, Q_Sc10, Q_Nc1_10, Q_Nc4_10, Q_Nc6_10, Q_Nc8_10, Q_X1_, Q_X2_, Q_X4_, Q_X5_, Q_X6_, Q_X7_, Q_X8_, Q_X9_, Q_X10_⟩ hb_ hon hoff
              refine ⟨_, rfl, fun K hK => ?_⟩
              have e46 : a.tmps[46]? = some (.agg #[.int .i64 t.f0, .int .i64 t.f1, .slice B t.f2.length cq]) := by rw [ha]; exact putSel_on (e := (3, 46, .agg #[.int .i64 t.f0, .int .i64 t.f1, .slice B t.f2.length cq])) 3 rfl rfl (hon 3 (by kernel_rfl)) rfl
              replace ha := Aside0.mk ha
              have BW := Aside0.mk Q_BW
              refine value_ (w1 := w'.alloc (.cells #[.int .i64 t.f0, .int .i64 t.f1, .slice B t.f2.length cq] 24)) (v := .slice (some ⟨w'.heap.size, 0, none⟩) 1 1) (by rfl) rfl ?_ ?_
              · (go_simp; try rfl)
              refine hK.out _ _ ⟨gc1, w'.heap.size, gc6, gc8, pc10, m1_, m2_, (.slice (some ⟨w'.heap.size, 0, none⟩) 1 1), m5_, m6_, m7_, m8_, m9_, m10_, (by rw [ha.out]; exact putSel_upk 4 hb_ rfl rfl rfl), below_alloc BW.out _, fun h0_ => (Q_Rc1 h0_).alloc _, fun _ => Lay.new BW.out _ _, fun h0_ => absurd ((hoff 6 (by kernel_rfl)).symm.trans h0_) (by decide), fun h0_ => absurd ((hoff 8 (by kernel_rfl)).symm.trans h0_) (by decide), fun h0_ h1_ => (Q_Pc10 h0_ h1_).alloc _, fun h0_ => absurd ((hoff 11 (by kernel_rfl)).symm.trans h0_) (by decide), Q_Nc1_10, fun _ h_ => (Q_Pc10 h_ (hoff 11 (by kernel_rfl))).ne_new, fun h0_ _ => absurd ((hoff 6 (by kernel_rfl)).symm.trans h0_) (by decide), fun h0_ _ => absurd ((hoff 8 (by kernel_rfl)).symm.trans h0_) (by decide), Q_X1_, Q_X2_, fun _ => rfl, fun h0_ => absurd ((hoff 5 (by kernel_rfl)).symm.trans h0_) (by decide), fun h0_ => absurd ((hoff 6 (by kernel_rfl)).symm.trans h0_) (by decide), fun h0_ => absurd ((hoff 7 (by kernel_rfl)).symm.trans h0_) (by decide), fun h0_ => absurd ((hoff 8 (by kernel_rfl)).symm.trans h0_) (by decide), fun h0_ => absurd ((hoff 9 (by kernel_rfl)).symm.trans h0_) (by decide), Q_X10_⟩
            refine steps_cons ?_ ?_
            · rintro b a w' ⟨gc1, gc4, gc6, gc8, pc10, m1_, m2_, m4_, m5_, m6_, m7_, m8_, m9_, m10_, ha, Q_BW, Q_Rc1, Q_Rc4, Q_Rc6, Q_Rc8, Q_Pc10, Q_Sc10, Q_Nc1_10, Q_Nc4_10, Q_Nc6_10, Q_Nc8_10, Q_X1_, Q_X2_, Q_X4_, Q_X5_, Q_X6_, Q_X7_, Q_X8_, Q_X9_, Q_X10_⟩ hb_ hon hoff
              refine ⟨_, rfl, fun K hK => ?_⟩
              have e47 : a.tmps[47]? = some (m4_) := by rw [ha]; exact putSel_on (e := (4, 47, m4_)) 4 rfl rfl (hon 4 (by kernel_rfl)) rfl
              rw [Q_X4_ (hon 4 (by kernel_rfl))] at e47
              replace ha := Aside0.mk ha
              have BW := Aside0.mk Q_BW
              have Rc1 := Aside0.mk (Q_Rc1 (hon 1 (by kernel_rfl)))
              have Rc4 := Aside0.mk (Q_Rc4 (hon 4 (by kernel_rfl)))
              refine goes_ Tryd.func12 (by kernel_rfl) rfl #[.int .i64 3, .slice (some ⟨gc4, 0, none⟩) 1 1] (by rfl) rfl rfl (by first | (simp only [List.map_toArray, List.map_cons, List.map_nil, Act.eval, Array.getD_eq_getD_getElem?, Option.getD_some, e47]; done) | (simp only [List.map_toArray, List.map_cons, List.map_nil, Act.eval, Array.getD_eq_getD_getElem?, Option.getD_some, e47]; rfl)) ?_
              with_reducible refine (op_calls _ _ _ _ _).mono ?_
              rintro e_ w1 ⟨rfl, hB⟩
              refine ⟨_, rfl, ?_⟩
              refine hK.out _ _ ⟨gc1, gc4, gc6, gc8, pc10, m1_, m2_, m4_, (.agg #[.int .i64 3, .int .i64 0, .slice (some ⟨gc4, 0, none⟩) 1 1]), m6_, m7_, m8_, m9_, m10_, (by rw [ha.out]; exact putSel_upk 5 hb_ rfl rfl rfl), BW.out.trans (hB.mono BW.out.size), fun _ => Rc1.out.below hB, fun _ => Rc4.out.below hB, fun h0_ => absurd ((hoff 6 (by kernel_rfl)).symm.trans h0_) (by decide), fun h0_ => absurd ((hoff 8 (by kernel_rfl)).symm.trans h0_) (by decide), fun h0_ h1_ => (Q_Pc10 h0_ h1_).below hB, fun h0_ => absurd ((hoff 11 (by kernel_rfl)).symm.trans h0_) (by decide), Q_Nc1_10, Q_Nc4_10, fun h0_ _ => absurd ((hoff 6 (by kernel_rfl)).symm.trans h0_) (by decide), fun h0_ _ => absurd ((hoff 8 (by kernel_rfl)).symm.trans h0_) (by decide), Q_X1_, Q_X2_, Q_X4_, fun _ => rfl, fun h0_ => absurd ((hoff 6 (by kernel_rfl)).symm.trans h0_) (by decide), fun h0_ => absurd ((hoff 7 (by kernel_rfl)).symm.trans h0_) (by decide), fun h0_ => absurd ((hoff 8 (by kernel_rfl)).symm.trans h0_) (by decide), fun h0_ => absurd ((hoff 9 (by kernel_rfl)).symm.trans h0_) (by decide), Q_X10_⟩
            refine steps_cons ?_ ?_
            · rintro b a w' ⟨gc1, gc4, gc6, gc8, pc10, m1_, m2_, m4_, m5_, m6_, m7_, m8_, m9_, m10_, ha, Q_BW, Q_Rc1, Q_Rc4, Q_Rc6, Q_Rc8, Q_Pc10, Q_Sc10, Q_Nc1_10, Q_Nc4_10, Q_Nc6_10, Q_Nc8_10, Q_X1_, Q_X2_, Q_X4_, Q_X5_, Q_X6_, Q_X7_, Q_X8_, Q_X9_, Q_X10_⟩ hb_ hon hoff
              refine ⟨_, rfl, fun K hK => ?_⟩
              have e45 : a.tmps[45]? = some (m2_) := by rw [ha]; exact putSel_on (e := (2, 45, m2_)) 2 rfl rfl (hon 2 (by kernel_rfl)) rfl
              rw [Q_X2_ (hon 2 (by kernel_rfl))] at e45
              have e48 : a.tmps[48]? = some (m5_) := by rw [ha]; exact putSel_on (e := (5, 48, m5_)) 5 rfl rfl (hon 5 (by kernel_rfl)) rfl
              rw [Q_X5_ (hon 5 (by kernel_rfl))] at e48
              replace ha := Aside0.mk ha
              have BW := Aside0.mk Q_BW
              have Rc1 := Aside0.mk (Q_Rc1 (hon 1 (by kernel_rfl)))
              have Rc4 := Aside0.mk (Q_Rc4 (hon 4 (by kernel_rfl)))
              refine value_ (w1 := w'.alloc (.cells #[.int .i64 3, .int .i64 0, .slice (some ⟨gc1, 0, none⟩) 1 1, .int .i64 3, .int .i64 0, .slice (some ⟨gc4, 0, none⟩) 1 1] 24)) (v := .slice (some ⟨w'.heap.size, 0, none⟩) 2 2) (by rfl) rfl ?_ ?_
              · (go_simp; try rfl)
              refine hK.out _ _ ⟨gc1, gc4, w'.heap.size, gc8, pc10, m1_, m2_, m4_, m5_, (.slice (some ⟨w'.heap.size, 0, none⟩) 2 2), m7_, m8_, m9_, m10_, (by rw [ha.out]; exact putSel_upk 6 hb_ rfl rfl rfl), below_alloc BW.out _, fun _ => Rc1.out.alloc _, fun _ => Rc4.out.alloc _, fun _ => Lay.new BW.out _ _, fun h0_ => absurd ((hoff 8 (by kernel_rfl)).symm.trans h0_) (by decide), fun h0_ h1_ => (Q_Pc10 h0_ h1_).alloc _, fun h0_ => absurd ((hoff 11 (by kernel_rfl)).symm.trans h0_) (by decide), Q_Nc1_10, Q_Nc4_10, fun _ h_ => (Q_Pc10 h_ (hoff 11 (by kernel_rfl))).ne_new, fun h0_ _ => absurd ((hoff 8 (by kernel_rfl)).symm.trans h0_) (by decide), Q_X1_, Q_X2_, Q_X4_, Q_X5_, fun _ => rfl, fun h0_ => absurd ((hoff 7 (by kernel_rfl)).symm.trans h0_) (by decide), fun h0_ => absurd ((hoff 8 (by kernel_rfl)).symm.trans h0_) (by decide), fun h0_ => absurd ((hoff 9 (by kernel_rfl)).symm.trans h0_) (by decide), Q_X10_⟩
            refine steps_cons ?_ ?_
            · rintro b a w' ⟨gc1, gc4, gc6, gc8, pc10, m1_, m2_, m4_, m5_, m6_, m7_, m8_, m9_, m10_, ha, Q_BW, Q_Rc1, Q_Rc4, Q_Rc6, Q_Rc8, Q_Pc10, Q_Sc10, Q_Nc1_10, Q_Nc4_10, Q_Nc6_10, Q_Nc8_10, Q_X1_, Q_X2_, Q_X4_, Q_X5_, Q_X6_, Q_X7_, Q_X8_, Q_X9_, Q_X10_⟩ hb_ hon hoff
              refine ⟨_, rfl, fun K hK => ?_⟩
              have e49 : a.tmps[49]? = some (m6_) := by rw [ha]; exact putSel_on (e := (6, 49, m6_)) 6 rfl rfl (hon 6 (by kernel_rfl)) rfl
              rw [Q_X6_ (hon 6 (by kernel_rfl))] at e49
              replace ha := Aside0.mk ha
              have BW := Aside0.mk Q_BW
              have Rc1 := Aside0.mk (Q_Rc1 (hon 1 (by kernel_rfl)))
              have Rc4 := Aside0.mk (Q_Rc4 (hon 4 (by kernel_rfl)))
              have Rc6 := Aside0.mk (Q_Rc6 (hon 6 (by kernel_rfl)))
              refine goes_ Tryd.func12 (by kernel_rfl) rfl #[.int .i64 7, .slice (some ⟨gc6, 0, none⟩) 2 2] (by rfl) rfl rfl (by first | (simp only [List.map_toArray, List.map_cons, List.map_nil, Act.eval, Array.getD_eq_getD_getElem?, Option.getD_some, e49]; done) | (simp only [List.map_toArray, List.map_cons, List.map_nil, Act.eval, Array.getD_eq_getD_getElem?, Option.getD_some, e49]; rfl)) ?_
              with_reducible refine (op_calls _ _ _ _ _).mono ?_
              rintro e_ w1 ⟨rfl, hB⟩
              refine ⟨_, rfl, ?_⟩
              refine hK.out _ _ ⟨gc1, gc4, gc6, gc8, pc10, m1_, m2_, m4_, m5_, m6_, (.agg #[.int .i64 7, .int .i64 0, .slice (some ⟨gc6, 0, none⟩) 2 2]), m8_, m9_, m10_, (by rw [ha.out]; exact putSel_upk 7 hb_ rfl rfl rfl), BW.out.trans (hB.mono BW.out.size), fun _ => Rc1.out.below hB, fun _ => Rc4.out.below hB, fun _ => Rc6.out.below hB, fun h0_ => absurd ((hoff 8 (by kernel_rfl)).symm.trans h0_) (by decide), fun h0_ h1_ => (Q_Pc10 h0_ h1_).below hB, fun h0_ => absurd ((hoff 11 (by kernel_rfl)).symm.trans h0_) (by decide), Q_Nc1_10, Q_Nc4_10, Q_Nc6_10, fun h0_ _ => absurd ((hoff 8 (by kernel_rfl)).symm.trans h0_) (by decide), Q_X1_, Q_X2_, Q_X4_, Q_X5_, Q_X6_, fun _ => rfl, fun h0_ => absurd ((hoff 8 (by kernel_rfl)).symm.trans h0_) (by decide), fun h0_ => absurd ((hoff 9 (by kernel_rfl)).symm.trans h0_) (by decide), Q_X10_⟩
            refine steps_cons ?_ ?_
            · rintro b a w' ⟨gc1, gc4, gc6, gc8, pc10, m1_, m2_, m4_, m5_, m6_, m7_, m8_, m9_, m10_, ha, Q_BW, Q_Rc1, Q_Rc4, Q_Rc6, Q_Rc8, Q_Pc10, Q_Sc10, Q_Nc1_10, Q_Nc4_10, Q_Nc6_10, Q_Nc8_10, Q_X1_, Q_X2_, Q_X4_, Q_X5_, Q_X6_, Q_X7_, Q_X8_, Q_X9_, Q_X10_⟩ hb_ hon hoff
              refine ⟨_, rfl, fun K hK => ?_⟩
              have e50 : a.tmps[50]? = some (m7_) := by rw [ha]; exact putSel_on (e := (7, 50, m7_)) 7 rfl rfl (hon 7 (by kernel_rfl)) rfl
              rw [Q_X7_ (hon 7 (by kernel_rfl))] at e50
              replace ha := Aside0.mk ha
              have BW := Aside0.mk Q_BW
              have Rc1 := Aside0.mk (Q_Rc1 (hon 1 (by kernel_rfl)))
              have Rc4 := Aside0.mk (Q_Rc4 (hon 4 (by kernel_rfl)))
              have Rc6 := Aside0.mk (Q_Rc6 (hon 6 (by kernel_rfl)))
              refine value_ (w1 := w'.alloc (.cells #[.int .i64 7, .int .i64 0, .slice (some ⟨gc6, 0, none⟩) 2 2] 24)) (v := .slice (some ⟨w'.heap.size, 0, none⟩) 1 1) (by rfl) rfl ?_ ?_
              · (go_simp; try rfl)
              refine hK.out _ _ ⟨gc1, gc4, gc6, w'.heap.size, pc10, m1_, m2_, m4_, m5_, m6_, m7_, (.slice (some ⟨w'.heap.size, 0, none⟩) 1 1), m9_, m10_, (by rw [ha.out]; exact putSel_upk 8 hb_ rfl rfl rfl), below_alloc BW.out _, fun _ => Rc1.out.alloc _, fun _ => Rc4.out.alloc _, fun _ => Rc6.out.alloc _, fun _ => Lay.new BW.out _ _, fun h0_ h1_ => (Q_Pc10 h0_ h1_).alloc _, fun h0_ => absurd ((hoff 11 (by kernel_rfl)).symm.trans h0_) (by decide), Q_Nc1_10, Q_Nc4_10, Q_Nc6_10, fun _ h_ => (Q_Pc10 h_ (hoff 11 (by kernel_rfl))).ne_new, Q_X1_, Q_X2_, Q_X4_, Q_X5_, Q_X6_, Q_X7_, fun _ => rfl, fun h0_ => absurd ((hoff 9 (by kernel_rfl)).symm.trans h0_) (by decide), Q_X10_⟩
            refine steps_cons ?_ ?_
            · rintro b a w' ⟨gc1, gc4, gc6, gc8, pc10, m1_, m2_, m4_, m5_, m6_, m7_, m8_, m9_, m10_, ha, Q_BW, Q_Rc1, Q_Rc4, Q_Rc6, Q_Rc8, Q_Pc10, Q_Sc10, Q_Nc1_10, Q_Nc4_10, Q_Nc6_10, Q_Nc8_10, Q_X1_, Q_X2_, Q_X4_, Q_X5_, Q_X6_, Q_X7_, Q_X8_, Q_X9_, Q_X10_⟩ hb_ hon hoff
              refine ⟨_, rfl, fun K hK => ?_⟩
              have e51 : a.tmps[51]? = some (m8_) := by rw [ha]; exact putSel_on (e := (8, 51, m8_)) 8 rfl rfl (hon 8 (by kernel_rfl)) rfl
              rw [Q_X8_ (hon 8 (by kernel_rfl))] at e51
              replace ha := Aside0.mk ha
              have BW := Aside0.mk Q_BW
              have Rc1 := Aside0.mk (Q_Rc1 (hon 1 (by kernel_rfl)))
              have Rc4 := Aside0.mk (Q_Rc4 (hon 4 (by kernel_rfl)))
              have Rc6 := Aside0.mk (Q_Rc6 (hon 6 (by kernel_rfl)))
              have Rc8 := Aside0.mk (Q_Rc8 (hon 8 (by kernel_rfl)))
              refine goes_ Tryd.func12 (by kernel_rfl) rfl #[.int .i64 3, .slice (some ⟨gc8, 0, none⟩) 1 1] (by rfl) rfl rfl (by first | (simp only [List.map_toArray, List.map_cons, List.map_nil, Act.eval, Array.getD_eq_getD_getElem?, Option.getD_some, e51]; done) | (simp only [List.map_toArray, List.map_cons, List.map_nil, Act.eval, Array.getD_eq_getD_getElem?, Option.getD_some, e51]; rfl)) ?_
              with_reducible refine (op_calls _ _ _ _ _).mono ?_
              rintro e_ w1 ⟨rfl, hB⟩
              refine ⟨_, rfl, ?_⟩
              refine hK.out _ _ ⟨gc1, gc4, gc6, gc8, pc10, m1_, m2_, m4_, m5_, m6_, m7_, m8_, (.agg #[.int .i64 3, .int .i64 0, .slice (some ⟨gc8, 0, none⟩) 1 1]), m10_, (by rw [ha.out]; exact putSel_upk 9 hb_ rfl rfl rfl), BW.out.trans (hB.mono BW.out.size), fun _ => Rc1.out.below hB, fun _ => Rc4.out.below hB, fun _ => Rc6.out.below hB, fun _ => Rc8.out.below hB, fun h0_ h1_ => (Q_Pc10 h0_ h1_).below hB, fun h0_ => absurd ((hoff 11 (by kernel_rfl)).symm.trans h0_) (by decide), Q_Nc1_10, Q_Nc4_10, Q_Nc6_10, Q_Nc8_10, Q_X1_, Q_X2_, Q_X4_, Q_X5_, Q_X6_, Q_X7_, Q_X8_, fun _ => rfl, Q_X10_⟩
            refine steps_cons ?_ ?_
            · rintro b a w' ⟨gc1, gc4, gc6, gc8, pc10, m1_, m2_, m4_, m5_, m6_, m7_, m8_, m9_, m10_, ha, Q_BW, Q_Rc1, Q_Rc4, Q_Rc6, Q_Rc8, Q_Pc10, Q_Sc10, Q_Nc1_10, Q_Nc4_10, Q_Nc6_10, Q_Nc8_10, Q_X1_, Q_X2_, Q_X4_, Q_X5_, Q_X6_, Q_X7_, Q_X8_, Q_X9_, Q_X10_⟩ hb_ hon hoff
              refine ⟨_, rfl, fun K hK => ?_⟩
              replace ha := Aside0.mk ha
              have BW := Aside0.mk Q_BW
              refine value_ (w1 := w'.alloc (.cells #[.int .i64 0, .int .i64 0, .slice none 0 0] 24)) (v := .pointer (some ⟨w'.heap.size, 0, none⟩)) (by rfl) rfl ?_ ?_
              · (go_simp; try rfl)
              refine hK.out _ _ ⟨gc1, gc4, gc6, gc8, w'.heap.size, m1_, m2_, m4_, m5_, m6_, m7_, m8_, m9_, (.pointer (some ⟨w'.heap.size, 0, none⟩)), (by rw [ha.out]; exact putSel_upk 10 hb_ rfl rfl rfl), below_alloc BW.out _, fun h0_ => (Q_Rc1 h0_).alloc _, fun h0_ => (Q_Rc4 h0_).alloc _, fun h0_ => (Q_Rc6 h0_).alloc _, fun h0_ => (Q_Rc8 h0_).alloc _, fun _ _ => Lay.new BW.out _ _, fun h0_ => absurd ((hoff 11 (by kernel_rfl)).symm.trans h0_) (by decide), fun h_ _ => (Q_Rc1 h_).ne_new.symm, fun h_ _ => (Q_Rc4 h_).ne_new.symm, fun h_ _ => (Q_Rc6 h_).ne_new.symm, fun h_ _ => (Q_Rc8 h_).ne_new.symm, Q_X1_, Q_X2_, Q_X4_, Q_X5_, Q_X6_, Q_X7_, Q_X8_, Q_X9_, fun _ => rfl⟩
            refine steps_cons ?_ ?_
            · rintro b a w' ⟨gc1, gc4, gc6, gc8, pc10, m1_, m2_, m4_, m5_, m6_, m7_, m8_, m9_, m10_, ha, Q_BW, Q_Rc1, Q_Rc4, Q_Rc6, Q_Rc8, Q_Pc10, Q_Sc10, Q_Nc1_10, Q_Nc4_10, Q_Nc6_10, Q_Nc8_10, Q_X1_, Q_X2_, Q_X4_, Q_X5_, Q_X6_, Q_X7_, Q_X8_, Q_X9_, Q_X10_⟩ hb_ hon hoff
              refine ⟨_, rfl, fun K hK => ?_⟩
              have e10 : a.tmps[10]? = some (m10_) := by rw [ha]; exact putSel_on (e := (10, 10, m10_)) 10 rfl rfl (hon 10 (by kernel_rfl)) rfl
              rw [Q_X10_ (hon 10 (by kernel_rfl))] at e10
              have e52 : a.tmps[52]? = some (m9_) := by rw [ha]; exact putSel_on (e := (9, 52, m9_)) 9 rfl rfl (hon 9 (by kernel_rfl)) rfl
              rw [Q_X9_ (hon 9 (by kernel_rfl))] at e52
              replace ha := Aside0.mk ha
              have BW := Aside0.mk Q_BW
              have Rc1 := Aside0.mk (Q_Rc1 (hon 1 (by kernel_rfl)))
              have Rc4 := Aside0.mk (Q_Rc4 (hon 4 (by kernel_rfl)))
              have Rc6 := Aside0.mk (Q_Rc6 (hon 6 (by kernel_rfl)))
              have Rc8 := Aside0.mk (Q_Rc8 (hon 8 (by kernel_rfl)))
              have Pc10 := Aside0.mk (Q_Pc10 (hon 10 (by kernel_rfl)) hb_)
              have Nc1_10 := Aside0.mk (Q_Nc1_10 (hon 1 (by kernel_rfl)) (hon 10 (by kernel_rfl)))
              have Nc4_10 := Aside0.mk (Q_Nc4_10 (hon 4 (by kernel_rfl)) (hon 10 (by kernel_rfl)))
              have Nc6_10 := Aside0.mk (Q_Nc6_10 (hon 6 (by kernel_rfl)) (hon 10 (by kernel_rfl)))
              have Nc8_10 := Aside0.mk (Q_Nc8_10 (hon 8 (by kernel_rfl)) (hon 10 (by kernel_rfl)))
              have z0_ := (blk_cell Pc10.out.2 0).trans rfl
              have z1_ := (blk_cell Pc10.out.2 1).trans rfl
              have z2_ := (blk_cell Pc10.out.2 2).trans rfl
              have f0_ := blk_frozen Pc10.out.2 0
              have f1_ := blk_frozen Pc10.out.2 1
              have f2_ := blk_frozen Pc10.out.2 2
              refine skip_ (w1 := put3 w' pc10 (.int .i64 3) (.int .i64 0) (.slice (some ⟨gc8, 0, none⟩) 1 1)) (by rfl) rfl ?_ ?_
              · (unfold put3; go_simp; try rfl)
              refine hK.out _ _ ⟨gc1, gc4, gc6, gc8, pc10, m1_, m2_, m4_, m5_, m6_, m7_, m8_, m9_, m10_, (by rw [ha.out]; exact putSel_none (v := undef) rfl), below_put3 BW.out Pc10.out.1 _ _ _, fun _ => Rc1.out.far3 Nc1_10.out _ _ _, fun _ => Rc4.out.far3 Nc4_10.out _ _ _, fun _ => Rc6.out.far3 Nc6_10.out _ _ _, fun _ => Rc8.out.far3 Nc8_10.out _ _ _, fun _ h1_ => absurd ((up_self b 11).symm.trans h1_) (by decide), fun _ => Pc10.out.put3 _ _ _, Q_Nc1_10, Q_Nc4_10, Q_Nc6_10, Q_Nc8_10, Q_X1_, Q_X2_, Q_X4_, Q_X5_, Q_X6_, Q_X7_, Q_X8_, Q_X9_, Q_X10_⟩
            exact steps_nil
          · rintro b a w' hall ⟨gc1, gc4, gc6, gc8, pc10, m1_, m2_, m4_, m5_, m6_, m7_, m8_, m9_, m10_, ha, Q_BW, Q_Rc1, Q_Rc4, Q_Rc6, Q_Rc8, Q_Pc10, Q_Sc10, Q_Nc1_10, Q_Nc4_10, Q_Nc6_10, Q_Nc8_10, Q_X1_, Q_X2_, Q_X4_, Q_X5_, Q_X6_, Q_X7_, Q_X8_, Q_X9_, Q_X10_⟩
            clear BW
            have hb0_ := hall 0 (by kernel_rfl)
            have hb1_ := hall 1 (by kernel_rfl)
            have hb2_ := hall 2 (by kernel_rfl)
            have hb3_ := hall 3 (by kernel_rfl)
            have hb4_ := hall 4 (by kernel_rfl)
            have hb5_ := hall 5 (by kernel_rfl)
            have hb6_ := hall 6 (by kernel_rfl)
            have hb7_ := hall 7 (by kernel_rfl)
            have hb8_ := hall 8 (by kernel_rfl)
            have hb9_ := hall 9 (by kernel_rfl)
            have hb10_ := hall 10 (by kernel_rfl)
            have hb11_ := hall 11 (by kernel_rfl)
            subst ha
            obtain rfl := Q_X1_ hb1_
            obtain rfl := Q_X2_ hb2_
            obtain rfl := Q_X4_ hb4_
            obtain rfl := Q_X5_ hb5_
            obtain rfl := Q_X6_ hb6_
            obtain rfl := Q_X7_ hb7_
            obtain rfl := Q_X8_ hb8_
            obtain rfl := Q_X9_ hb9_
            obtain rfl := Q_X10_ hb10_
            simp only [putSel, hb0_, hb1_, hb2_, hb3_, hb4_, hb5_, hb6_, hb7_, hb8_, hb9_, hb10_, hb11_, if_true, Act.put, List.setIfInBounds_toArray, List.set_cons_zero, List.set_cons_succ]
            have BW := Aside0.mk Q_BW
            clear Q_BW
            have Rc1 := Aside0.mk (Q_Rc1 hb1_)
            clear Q_Rc1
            have Rc4 := Aside0.mk (Q_Rc4 hb4_)
            clear Q_Rc4
            have Rc6 := Aside0.mk (Q_Rc6 hb6_)
            clear Q_Rc6
            have Rc8 := Aside0.mk (Q_Rc8 hb8_)
            clear Q_Rc8
            clear Q_Pc10
            have Sc10 := Aside0.mk (Q_Sc10 hb11_)
            clear Q_Sc10
            have Nc1_10 := Aside0.mk (Q_Nc1_10 hb1_ hb10_)
            clear Q_Nc1_10
            have Nc4_10 := Aside0.mk (Q_Nc4_10 hb4_ hb10_)
            clear Q_Nc4_10
            have Nc6_10 := Aside0.mk (Q_Nc6_10 hb6_ hb10_)
            clear Q_Nc6_10
            have Nc8_10 := Aside0.mk (Q_Nc8_10 hb8_ hb10_)
            clear Q_Nc8_10
            clear hall hb0_ hb1_ hb2_ hb3_ hb4_ hb5_ hb6_ hb7_ hb8_ hb9_ hb10_ hb11_
            obtain ⟨W5, rfl⟩ : ∃ W : World, W = w' := ⟨_, rfl⟩
            have HBW5 := BW
            clear BW
            have HB5 := Aside0.mk (HB4.out.trans (HBW5.out.mono HB4.out.size))
            have HF5 := Aside0.mk ((HBW5.out.block _ (blk_lt HF4.out)).trans HF4.out)
            have HG5 := Aside0.mk ((HBW5.out.block _ (blk_lt HG4.out)).trans HG4.out)
            have HL5 := Aside0.mk ((HBW5.out.block _ (blk_lt HL4.out)).trans HL4.out)
            have HU5 := Aside0.mk ((HBW5.out.block _ (blk_lt HU4.out)).trans HU4.out)
            have HR5 := Aside0.mk ((HBW5.out.block _ (blk_lt HR4.out)).trans HR4.out)
            have HX5 := Aside0.mk ((HBW5.out.block _ (blk_lt HX4.out)).trans HX4.out)
            have HD5 := Aside0.mk Sc10.out.2
            have CU5 := Aside0.mk (Kd.C_below CU4.out HBW5.out)
            have CR5 := Aside0.mk (Kd.C_below CR4.out HBW5.out)
            have CX5 := Aside0.mk (Kd.C_below CX4.out HBW5.out)
            have cc1 := C_of1 (s := s) Rc1.out.2 (Kd.C_below HKs.out HB5.out) hc
            have cc4 := C_of1 (s := t) Rc4.out.2 (Kd.C_below HKt.out HB5.out) hcm
            have cc6 := C_of2 (a := ⟨3, 0, [s]⟩) (b := ⟨3, 0, [t]⟩) Rc6.out.2 cc1 (Nat.le_refl _) cc4 (Nat.le_refl _)
            have CD5 := Aside0.mk (C_of1 (s := ⟨7, 0, [⟨3, 0, [s]⟩, ⟨3, 0, [t]⟩]⟩) Rc8.out.2 cc6 (Nat.le_refl _))
            clear cc1 cc4 cc6 Rc1 Rc4 Rc6 Rc8 Sc10 CU4 CR4 CX4
            go_upto_region 6 with fail
            have BW := Aside0.mk (below_drew1 (Below.refl W5.heap.size W5))
            refine start_ (n := 11) (S := fun w' => True) (ds := []) #[false, false, false, false, false, false, false, false, false, false, false] (by kernel_rfl) rfl rfl trivial (fun hHeld => ?_)
            refine with_tabW fst.tab6 fst.bits6 (fun HT_ HW_ => ?_)
            refine inv_at [0, 1, 2, 3, 4, 5, 6, 7, 8, 9, 10] (fun a0_ b a w' => ∃ (gd3 : Nat) (gd5 : Nat) (gd7 : Nat) (pd9 : Nat) (m3_ : Value) (m4_ : Value) (m5_ : Value) (m6_ : Value) (m7_ : Value) (m8_ : Value) (m9_ : Value), a = putSel a0_ b [(0, 53, .agg #[.int .i64 t.f0, .int .i64 t.f1, .slice B t.f2.length cq]), (1, 54, .agg #[.int .i64 s.f0, .int .i64 s.f1, .slice A s.f2.length cp]), (2, 55, .agg #[.int .i64 8, .int .i64 0, .slice (some ⟨ga6, 0, none⟩) 2 2]), (3, 56, m3_), (4, 57, m4_), (5, 58, m5_), (6, 59, m6_), (7, 60, m7_), (8, 61, m8_), (9, 11, m9_)] ∧ (Below W5.heap.size W5 w') ∧ (b 3 = true → Lay W5 w' gd3 #[.int .i64 8, .int .i64 0, .slice (some ⟨ga6, 0, none⟩) 2 2] 24) ∧ (b 5 = true → Lay W5 w' gd5 #[.int .i64 s.f0, .int .i64 s.f1, .slice A s.f2.length cp, .int .i64 6, .int .i64 0, .slice (some ⟨gd3, 0, none⟩) 1 1] 24) ∧ (b 7 = true → Lay W5 w' gd7 #[.int .i64 t.f0, .int .i64 t.f1, .slice B t.f2.length cq, .int .i64 5, .int .i64 0, .slice (some ⟨gd5, 0, none⟩) 2 2] 24) ∧ (b 9 = true → b 10 = false → Lay W5 w' pd9 #[.int .i64 0, .int .i64 0, .slice none 0 0] 24) ∧ (b 10 = true → Lay W5 w' pd9 #[.int .i64 4, .int .i64 0, .slice (some ⟨gd7, 0, none⟩) 2 2] 24) ∧ (b 3 = true → b 9 = true → gd3 ≠ pd9) ∧ (b 5 = true → b 9 = true → gd5 ≠ pd9) ∧ (b 7 = true → b 9 = true → gd7 ≠ pd9) ∧ (b 3 = true → (m3_ : Value) = .slice (some ⟨gd3, 0, none⟩) 1 1) ∧ (b 4 = true → (m4_ : Value) = .agg #[.int .i64 6, .int .i64 0, .slice (some ⟨gd3, 0, none⟩) 1 1]) ∧ (b 5 = true → (m5_ : Value) = .slice (some ⟨gd5, 0, none⟩) 2 2) ∧ (b 6 = true → (m6_ : Value) = .agg #[.int .i64 5, .int .i64 0, .slice (some ⟨gd5, 0, none⟩) 2 2]) ∧ (b 7 = true → (m7_ : Value) = .slice (some ⟨gd7, 0, none⟩) 2 2) ∧ (b 8 = true → (m8_ : Value) = .agg #[.int .i64 4, .int .i64 0, .slice (some ⟨gd7, 0, none⟩) 2 2]) ∧ (b 9 = true → (m9_ : Value) = .pointer (some ⟨pd9, 0, none⟩))) HT_.out HW_.out (by kernel_rfl) (by kernel_rfl) ?_ ?_ ?_
            · exact ⟨0, 0, 0, 0, .bool false, .bool false, .bool false, .bool false, .bool false, .bool false, .bool false, by simp only [putSel, Bool.false_eq_true, if_false], BW.out, fun h_ => absurd h_ (by decide), fun h_ => absurd h_ (by decide), fun h_ => absurd h_ (by decide), fun h_ => absurd h_ (by decide), fun h_ => absurd h_ (by decide), fun h_ => absurd h_ (by decide), fun h_ => absurd h_ (by decide), fun h_ => absurd h_ (by decide), fun h_ => absurd h_ (by decide), fun h_ => absurd h_ (by decide), fun h_ => absurd h_ (by decide), fun h_ => absurd h_ (by decide), fun h_ => absurd h_ (by decide), fun h_ => absurd h_ (by decide), fun h_ => absurd h_ (by decide)⟩
            · skip
              clear BW
              refine steps_cons ?_ ?_
              · rintro b a w' ⟨gd3, gd5, gd7, pd9, m3_, m4_, m5_, m6_, m7_, m8_, m9_, ha, Q_BW, Q_Rd3, Q_Rd5, Q_Rd7, Q_Pd9, Q_Sd9, Q_Nd3_9, Q_Nd5_9, Q_Nd7_9, Q_X3_, Q_X4_, Q_X5_, Q_X6_, Q_X7_, Q_X8_, Q_X9_⟩ hb_ hon hoff
                refine ⟨_, rfl, fun K hK => ?_⟩
                have e4 : a.tmps[4]? = some (.pointer (some ⟨w.heap.size + 1, 0, none⟩)) := by rw [ha]; exact (putSel_off rfl).trans rfl
                replace ha := Aside0.mk ha
                have BW := Aside0.mk Q_BW
                have hk_ := (BW.out.block _ (blk_lt HG5.out)).trans HG5.out
                have q0_ := (blk_cell hk_ 0).trans rfl
                have q1_ := (blk_cell hk_ 1).trans rfl
                have q2_ := (blk_cell hk_ 2).trans rfl
                refine value_ (w1 := w') (v := .agg #[.int .i64 t.f0, .int .i64 t.f1, .slice B t.f2.length cq]) (by rfl) rfl ?_ ?_
                · go_simp
                  (try simp only [i64_w])
                  try rfl
                refine hK.out _ _ ⟨gd3, gd5, gd7, pd9, m3_, m4_, m5_, m6_, m7_, m8_, m9_, (by rw [ha.out]; exact putSel_upk 0 hb_ rfl rfl rfl), Q_BW, Q_Rd3, Q_Rd5, fun h0_ => absurd ((hoff 7 (by kernel_rfl)).symm.trans h0_) (by decide), Q_Pd9, fun h0_ => absurd ((hoff 10 (by kernel_rfl)).symm.trans h0_) (by decide), Q_Nd3_9, Q_Nd5_9, fun h0_ _ => absurd ((hoff 7 (by kernel_rfl)).symm.trans h0_) (by decide), Q_X3_, Q_X4_, Q_X5_, Q_X6_, fun h0_ => absurd ((hoff 7 (by kernel_rfl)).symm.trans h0_) (by decide), fun h0_ => absurd ((hoff 8 (by kernel_rfl)).symm.trans h0_) (by decide), Q_X9_⟩
              refine steps_cons ?_ ?_
              · rintro b a w' ⟨gd3, gd5, gd7, pd9, m3_, m4_, m5_, m6_, m7_, m8_, m9_, ha, Q_BW, Q_Rd3, Q_Rd5, Q_Rd7, Q_Pd9, Q_Sd9, Q_Nd3_9, Q_Nd5_9, Q_Nd7_9, Q_X3_, Q_X4_, Q_X5_, Q_X6_, Q_X7_, Q_X8_, Q_X9_⟩ hb_ hon hoff
                refine ⟨_, rfl, fun K hK => ?_⟩
                have e3 : a.tmps[3]? = some (.pointer (some ⟨w.heap.size, 0, none⟩)) := by rw [ha]; exact (putSel_off rfl).trans rfl
                replace ha := Aside0.mk ha
                have BW := Aside0.mk Q_BW
                have hk_ := (BW.out.block _ (blk_lt HF5.out)).trans HF5.out
                have q0_ := (blk_cell hk_ 0).trans rfl
                have q1_ := (blk_cell hk_ 1).trans rfl
                have q2_ := (blk_cell hk_ 2).trans rfl
                refine value_ (w1 := w') (v := .agg #[.int .i64 s.f0, .int .i64 s.f1, .slice A s.f2.length cp]) (by rfl) rfl ?_ ?_
                · go_simp
                  (try simp only [i64_w])
                  try rfl
                refine hK.out _ _ ⟨gd3, gd5, gd7, pd9, m3_, m4_, m5_, m6_, m7_, m8_, m9_, (by rw [ha.out]; exact putSel_upk 1 hb_ rfl rfl rfl), Q_BW, Q_Rd3, fun h0_ => absurd ((hoff 5 (by kernel_rfl)).symm.trans h0_) (by decide), fun h0_ => absurd ((hoff 7 (by kernel_rfl)).symm.trans h0_) (by decide), Q_Pd9, fun h0_ => absurd ((hoff 10 (by kernel_rfl)).symm.trans h0_) (by decide), Q_Nd3_9, fun h0_ _ => absurd ((hoff 5 (by kernel_rfl)).symm.trans h0_) (by decide), fun h0_ _ => absurd ((hoff 7 (by kernel_rfl)).symm.trans h0_) (by decide), Q_X3_, Q_X4_, fun h0_ => absurd ((hoff 5 (by kernel_rfl)).symm.trans h0_) (by decide), fun h0_ => absurd ((hoff 6 (by kernel_rfl)).symm.trans h0_) (by decide), fun h0_ => absurd ((hoff 7 (by kernel_rfl)).symm.trans h0_) (by decide), fun h0_ => absurd ((hoff 8 (by kernel_rfl)).symm.trans h0_) (by decide), Q_X9_⟩
              refine steps_cons ?_ ?_
              · rintro b a w' ⟨gd3, gd5, gd7, pd9, m3_, m4_, m5_, m6_, m7_, m8_, m9_, ha, Q_BW, Q_Rd3, Q_Rd5, Q_Rd7, Q_Pd9, Q_Sd9, Q_Nd3_9, Q_Nd5_9, Q_Nd7_9, Q_X3_, Q_X4_, Q_X5_, Q_X6_, Q_X7_, Q_X8_, Q_X9_⟩ hb_ hon hoff
                refine ⟨_, rfl, fun K hK => ?_⟩
                have e8 : a.tmps[8]? = some (.pointer (some ⟨pa9, 0, none⟩)) := by rw [ha]; exact (putSel_off rfl).trans rfl
                replace ha := Aside0.mk ha
                have BW := Aside0.mk Q_BW
                have hk_ := (BW.out.block _ (blk_lt HR5.out)).trans HR5.out
                have q0_ := (blk_cell hk_ 0).trans rfl
                have q1_ := (blk_cell hk_ 1).trans rfl
                have q2_ := (blk_cell hk_ 2).trans rfl
                refine value_ (w1 := w') (v := .agg #[.int .i64 8, .int .i64 0, .slice (some ⟨ga6, 0, none⟩) 2 2]) (by rfl) rfl ?_ ?_
                · go_simp
                  (try simp only [i64_w])
                  try rfl
                refine hK.out _ _ ⟨gd3, gd5, gd7, pd9, m3_, m4_, m5_, m6_, m7_, m8_, m9_, (by rw [ha.out]; exact putSel_upk 2 hb_ rfl rfl rfl), Q_BW, fun h0_ => absurd ((hoff 3 (by kernel_rfl)).symm.trans h0_) (by decide), fun h0_ => absurd ((hoff 5 (by kernel_rfl)).symm.trans h0_) (by decide), fun h0_ => absurd ((hoff 7 (by kernel_rfl)).symm.trans h0_) (by decide), Q_Pd9, fun h0_ => absurd ((hoff 10 (by kernel_rfl)).symm.trans h0_) (by decide), fun h0_ _ => absurd ((hoff 3 (by kernel_rfl)).symm.trans h0_) (by decide), fun h0_ _ => absurd ((hoff 5 (by kernel_rfl)).symm.trans h0_) (by decide), fun h0_ _ => absurd ((hoff 7 (by kernel_rfl)).symm.trans h0_) (by decide), fun h0_ => absurd ((hoff 3 (by kernel_rfl)).symm.trans h0_) (by decide), fun h0_ => absurd ((hoff 4 (by kernel_rfl)).symm.trans h0_) (by decide), fun h0_ => absurd ((hoff 5 (by kernel_rfl)).symm.trans h0_) (by decide), fun h0_ => absurd ((hoff 6 (by kernel_rfl)).symm.trans h0_) (by decide), fun h0_ => absurd ((hoff 7 (by kernel_rfl)).symm.trans h0_) (by decide), fun h0_ => absurd ((hoff 8 (by kernel_rfl)).symm.trans h0_) (by decide), Q_X9_⟩
              refine steps_cons ?_ ?_
              · rintro b a w' ⟨gd3, gd5, gd7, pd9, m3_, m4_, m5_, m6_, m7_, m8_, m9_, ha, Q_BW, Q_Rd3, Q_Rd5, Q_Rd7, Q_Pd9, Q_Sd9, Q_Nd3_9, Q_Nd5_9, Q_Nd7_9, Q_X3_, Q_X4_, Q_X5_, Q_X6_, Q_X7_, Q_X8_, Q_X9_⟩ hb_ hon hoff
                refine ⟨_, rfl, fun K hK => ?_⟩
                have e55 : a.tmps[55]? = some (.agg #[.int .i64 8, .int .i64 0, .slice (some ⟨ga6, 0, none⟩) 2 2]) := by rw [ha]; exact putSel_on (e := (2, 55, .agg #[.int .i64 8, .int .i64 0, .slice (some ⟨ga6, 0, none⟩) 2 2])) 2 rfl rfl (hon 2 (by kernel_rfl)) rfl
                replace ha := Aside0.mk ha
                have BW := Aside0.mk Q_BW
                refine value_ (w1 := w'.alloc (.cells #[.int .i64 8, .int .i64 0, .slice (some ⟨ga6, 0, none⟩) 2 2] 24)) (v := .slice (some ⟨w'.heap.size, 0, none⟩) 1 1) (by rfl) rfl ?_ ?_
                · (go_simp; try rfl)
                refine hK.out _ _ ⟨w'.heap.size, gd5, gd7, pd9, (.slice (some ⟨w'.heap.size, 0, none⟩) 1 1), m4_, m5_, m6_, m7_, m8_, m9_, (by rw [ha.out]; exact putSel_upk 3 hb_ rfl rfl rfl), below_alloc BW.out _, fun _ => Lay.new BW.out _ _, fun h0_ => absurd ((hoff 5 (by kernel_rfl)).symm.trans h0_) (by decide), fun h0_ => absurd ((hoff 7 (by kernel_rfl)).symm.trans h0_) (by decide), fun h0_ h1_ => (Q_Pd9 h0_ h1_).alloc _, fun h0_ => absurd ((hoff 10 (by kernel_rfl)).symm.trans h0_) (by decide), fun _ h_ => (Q_Pd9 h_ (hoff 10 (by kernel_rfl))).ne_new, fun h0_ _ => absurd ((hoff 5 (by kernel_rfl)).symm.trans h0_) (by decide), fun h0_ _ => absurd ((hoff 7 (by kernel_rfl)).symm.trans h0_) (by decide), fun _ => rfl, fun h0_ => absurd ((hoff 4 (by kernel_rfl)).symm.trans h0_) (by decide), fun h0_ => absurd ((hoff 5 (by kernel_rfl)).symm.trans h0_) (by decide), fun h0_ => absurd ((hoff 6 (by kernel_rfl)).symm.trans h0_) (by decide), fun h0_ => absurd ((hoff 7 (by kernel_rfl)).symm.trans h0_) (by decide), fun h0_ => absurd ((hoff 8 (by kernel_rfl)).symm.trans h0_) (by decide), Q_X9_⟩
              refine steps_cons ?_ ?_
              · rintro b a w' ⟨gd3, gd5, gd7, pd9, m3_, m4_, m5_, m6_, m7_, m8_, m9_, ha, Q_BW, Q_Rd3, Q_Rd5, Q_Rd7, Q_Pd9, Q_Sd9, Q_Nd3_9, Q_Nd5_9, Q_Nd7_9, Q_X3_, Q_X4_, Q_X5_, Q_X6_, Q_X7_, Q_X8_, Q_X9_⟩ hb_ hon hoff
                refine ⟨_, rfl, fun K hK => ?_⟩
                have e56 : a.tmps[56]? = some (m3_) := by rw [ha]; exact putSel_on (e := (3, 56, m3_)) 3 rfl rfl (hon 3 (by kernel_rfl)) rfl
                rw [Q_X3_ (hon 3 (by kernel_rfl))] at e56
                replace ha := Aside0.mk ha
                have BW := Aside0.mk Q_BW
                have Rd3 := Aside0.mk (Q_Rd3 (hon 3 (by kernel_rfl)))
                refine goes_ Tryd.func12 (by kernel_rfl) rfl #[.int .i64 6, .slice (some ⟨gd3, 0, none⟩) 1 1] (by rfl) rfl rfl (by first | (simp only [List.map_toArray, List.map_cons, List.map_nil, Act.eval, Array.getD_eq_getD_getElem?, Option.getD_some, e56]; done) | (simp only [List.map_toArray, List.map_cons, List.map_nil, Act.eval, Array.getD_eq_getD_getElem?, Option.getD_some, e56]; rfl)) ?_
                with_reducible refine (op_calls _ _ _ _ _).mono ?_
                rintro e_ w1 ⟨rfl, hB⟩
                refine ⟨_, rfl, ?_⟩
                refine hK.out _ _ ⟨gd3, gd5, gd7, pd9, m3_, (.agg #[.int .i64 6, .int .i64 0, .slice (some ⟨gd3, 0, none⟩) 1 1]), m5_, m6_, m7_, m8_, m9_, (by rw [ha.out]; exact putSel_upk 4 hb_ rfl rfl rfl), BW.out.trans (hB.mono BW.out.size), fun _ => Rd3.out.below hB, fun h0_ => absurd ((hoff 5 (by kernel_rfl)).symm.trans h0_) (by decide), fun h0_ => absurd ((hoff 7 (by kernel_rfl)).symm.trans h0_) (by decide), fun h0_ h1_ => (Q_Pd9 h0_ h1_).below hB, fun h0_ => absurd ((hoff 10 (by kernel_rfl)).symm.trans h0_) (by decide), Q_Nd3_9, fun h0_ _ => absurd ((hoff 5 (by kernel_rfl)).symm.trans h0_) (by decide), fun h0_ _ => absurd ((hoff 7 (by kernel_rfl)).symm.trans h0_) (by decide), Q_X3_, fun _ => rfl, fun h0_ => absurd ((hoff 5 (by kernel_rfl)).symm.trans h0_) (by decide), fun h0_ => absurd ((hoff 6 (by kernel_rfl)).symm.trans h0_) (by decide), fun h0_ => absurd ((hoff 7 (by kernel_rfl)).symm.trans h0_) (by decide), fun h0_ => absurd ((hoff 8 (by kernel_rfl)).symm.trans h0_) (by decide), Q_X9_⟩
              refine steps_cons ?_ ?_
              · rintro b a w' ⟨gd3, gd5, gd7, pd9, m3_, m4_, m5_, m6_, m7_, m8_, m9_, ha, Q_BW, Q_Rd3, Q_Rd5, Q_Rd7, Q_Pd9, Q_Sd9, Q_Nd3_9, Q_Nd5_9, Q_Nd7_9, Q_X3_, Q_X4_, Q_X5_, Q_X6_, Q_X7_, Q_X8_, Q_X9_⟩ hb_ hon hoff
                refine ⟨_, rfl, fun K hK => ?_⟩
                have e54 : a.tmps[54]? = some (.agg #[.int .i64 s.f0, .int .i64 s.f1, .slice A s.f2.length cp]) := by rw [ha]; exact putSel_on (e := (1, 54, .agg #[.int .i64 s.f0, .int .i64 s.f1, .slice A s.f2.length cp])) 1 rfl rfl (hon 1 (by kernel_rfl)) rfl
                have e57 : a.tmps[57]? = some (m4_) := by rw [ha]; exact putSel_on (e := (4, 57, m4_)) 4 rfl rfl (hon 4 (by kernel_rfl)) rfl
                rw [Q_X4_ (hon 4 (by kernel_rfl))] at e57
                replace ha := Aside0.mk ha
                have BW := Aside0.mk Q_BW
                have Rd3 := Aside0.mk (Q_Rd3 (hon 3 (by kernel_rfl)))
                refine value_ (w1 := w'.alloc (.cells #[.int .i64 s.f0, .int .i64 s.f1, .slice A s.f2.length cp, .int .i64 6, .int .i64 0, .slice (some ⟨gd3, 0, none⟩) 1 1] 24)) (v := .slice (some ⟨w'.heap.size, 0, none⟩) 2 2) (by rfl) rfl ?_ ?_
                · (go_simp; try rfl)
                refine hK.out _ _ ⟨gd3, w'.heap.size, gd7, pd9, m3_, m4_, (.slice (some ⟨w'.heap.size, 0, none⟩) 2 2), m6_, m7_, m8_, m9_, (by rw [ha.out]; exact putSel_upk 5 hb_ rfl rfl rfl), below_alloc BW.out _, fun _ => Rd3.out.alloc _, fun _ => Lay.new BW.out _ _, fun h0_ => absurd ((hoff 7 (by kernel_rfl)).symm.trans h0_) (by decide), fun h0_ h1_ => (Q_Pd9 h0_ h1_).alloc _, fun h0_ => absurd ((hoff 10 (by kernel_rfl)).symm.trans h0_) (by decide), Q_Nd3_9, fun _ h_ => (Q_Pd9 h_ (hoff 10 (by kernel_rfl))).ne_new, fun h0_ _ => absurd ((hoff 7 (by kernel_rfl)).symm.trans h0_) (by decide), Q_X3_, Q_X4_, fun _ => rfl, fun h0_ => absurd ((hoff 6 (by kernel_rfl)).symm.trans h0_) (by decide), fun h0_ => absurd ((hoff 7 (by kernel_rfl)).symm.trans h0_) (by decide), fun h0_ => absurd ((hoff 8 (by kernel_rfl)).symm.trans h0_) (by decide), Q_X9_⟩
              refine steps_cons ?_ ?_
              · rintro b a w' ⟨gd3, gd5, gd7, pd9, m3_, m4_, m5_, m6_, m7_, m8_, m9_, ha, Q_BW, Q_Rd3, Q_Rd5, Q_Rd7, Q_Pd9, Q_Sd9, Q_Nd3_9, Q_Nd5_9, Q_Nd7_9, Q_X3_, Q_X4_, Q_X5_, Q_X6_, Q_X7_, Q_X8_, Q_X9_⟩ hb_ hon hoff
                refine ⟨_, rfl, fun K hK => ?_⟩
                have e58 : a.tmps[58]? = some (m5_) := by rw [ha]; exact putSel_on (e := (5, 58, m5_)) 5 rfl rfl (hon 5 (by kernel_rfl)) rfl
                rw [Q_X5_ (hon 5 (by kernel_rfl))] at e58
                replace ha := Aside0.mk ha
                have BW := Aside0.mk Q_BW
                have Rd3 := Aside0.mk (Q_Rd3 (hon 3 (by kernel_rfl)))
                have Rd5 := Aside0.mk (Q_Rd5 (hon 5 (by kernel_rfl)))
                refine goes_ Tryd.func12 (by kernel_rfl) rfl #[.int .i64 5, .slice (some ⟨gd5, 0, none⟩) 2 2] (by rfl) rfl rfl (by first | (simp only [List.map_toArray, List.map_cons, List.map_nil, Act.eval, Array.getD_eq_getD_getElem?, Option.getD_some, e58]; done) | (simp only [List.map_toArray, List.map_cons, List.map_nil, Act.eval, Array.getD_eq_getD_getElem?, Option.getD_some, e58]; rfl)) ?_
                with_reducible refine (op_calls _ _ _ _ _).mono ?_
                rintro e_ w1 ⟨rfl, hB⟩
                refine ⟨_, rfl, ?_⟩
                refine hK.out _ _ ⟨gd3, gd5, gd7, pd9, m3_, m4_, m5_, (.agg #[.int .i64 5, .int .i64 0, .slice (some ⟨gd5, 0, none⟩) 2 2]), m7_, m8_, m9_, (by rw [ha.out]; exact putSel_upk 6 hb_ rfl rfl rfl), BW.out.trans (hB.mono BW.out.size), fun _ => Rd3.out.below hB, fun _ => Rd5.out.below hB, fun h0_ => absurd ((hoff 7 (by kernel_rfl)).symm.trans h0_) (by decide), fun h0_ h1_ => (Q_Pd9 h0_ h1_).below hB, fun h0_ => absurd ((hoff 10 (by kernel_rfl)).symm.trans h0_) (by decide), Q_Nd3_9, Q_Nd5_9, fun h0_ _ => absurd ((hoff 7 (by kernel_rfl)).symm.trans h0_) (by decide), Q_X3_, Q_X4_, Q_X5_, fun _ => rfl, fun h0_ => absurd ((hoff 7 (by kernel_rfl)).symm.trans h0_) (by decide), fun h0_ => absurd ((hoff 8 (by kernel_rfl)).symm.trans h0_) (by decide), Q_X9_⟩
              refine steps_cons ?_ ?_
              · rintro b a w' ⟨gd3, gd5, gd7, pd9, m3_, m4_, m5_, m6_, m7_, m8_, m9_, ha, Q_BW, Q_Rd3, Q_Rd5, Q_Rd7, Q_Pd9, Q_Sd9, Q_Nd3_9, Q_Nd5_9, Q_Nd7_9, Q_X3_, Q_X4_, Q_X5_, Q_X6_, Q_X7_, Q_X8_, Q_X9_⟩ hb_ hon hoff
                refine ⟨_, rfl, fun K hK => ?_⟩
                have e53 : a.tmps[53]? = some (.agg #[.int .i64 t.f0, .int .i64 t.f1, .slice B t.f2.length cq]) := by rw [ha]; exact putSel_on (e := (0, 53, .agg #[.int .i64 t.f0, .int .i64 t.f1, .slice B t.f2.length cq])) 0 rfl rfl (hon 0 (by kernel_rfl)) rfl
                have e59 : a.tmps[59]? = some (m6_) := by rw [ha]; exact putSel_on (e := (6, 59, m6_)) 6 rfl rfl (hon 6 (by kernel_rfl)) rfl
                rw [Q_X6_ (hon 6 (by kernel_rfl))] at e59
                replace ha := Aside0.mk ha
                have BW := Aside0.mk Q_BW
                have Rd3 := Aside0.mk (Q_Rd3 (hon 3 (by kernel_rfl)))
                have Rd5 := Aside0.mk (Q_Rd5 (hon 5 (by kernel_rfl)))
                refine value_ (w1 := w'.alloc (.cells #[.int .i64 t.f0, .int .i64 t.f1, .slice B t.f2.length cq, .int .i64 5, .int .i64 0, .slice (some ⟨gd5, 0, none⟩) 2 2] 24)) (v := .slice (some ⟨w'.heap.size, 0, none⟩) 2 2) (by rfl) rfl ?_ ?_
                · (go_simp; try rfl)
                refine hK.out _ _ ⟨gd3, gd5, w'.heap.size, pd9, m3_, m4_, m5_, m6_, (.slice (some ⟨w'.heap.size, 0, none⟩) 2 2), m8_, m9_, (by rw [ha.out]; exact putSel_upk 7 hb_ rfl rfl rfl), below_alloc BW.out _, fun _ => Rd3.out.alloc _, fun _ => Rd5.out.alloc _, fun _ => Lay.new BW.out _ _, fun h0_ h1_ => (Q_Pd9 h0_ h1_).alloc _, fun h0_ => absurd ((hoff 10 (by kernel_rfl)).symm.trans h0_) (by decide), Q_Nd3_9, Q_Nd5_9, fun _ h_ => (Q_Pd9 h_ (hoff 10 (by kernel_rfl))).ne_new, Q_X3_, Q_X4_, Q_X5_, Q_X6_, fun _ => rfl, fun h0_ => absurd ((hoff 8 (by kernel_rfl)).symm.trans h0_) (by decide), Q_X9_⟩
              refine steps_cons ?_ ?_
              · rintro b a w' ⟨gd3, gd5, gd7, pd9, m3_, m4_, m5_, m6_, m7_, m8_, m9_, ha, Q_BW, Q_Rd3, Q_Rd5, Q_Rd7, Q_Pd9, Q_Sd9, Q_Nd3_9, Q_Nd5_9, Q_Nd7_9, Q_X3_, Q_X4_, Q_X5_, Q_X6_, Q_X7_, Q_X8_, Q_X9_⟩ hb_ hon hoff
                refine ⟨_, rfl, fun K hK => ?_⟩
                have e60 : a.tmps[60]? = some (m7_) := by rw [ha]; exact putSel_on (e := (7, 60, m7_)) 7 rfl rfl (hon 7 (by kernel_rfl)) rfl
                rw [Q_X7_ (hon 7 (by kernel_rfl))] at e60
                replace ha := Aside0.mk ha
                have BW := Aside0.mk Q_BW
                have Rd3 := Aside0.mk (Q_Rd3 (hon 3 (by kernel_rfl)))
                have Rd5 := Aside0.mk (Q_Rd5 (hon 5 (by kernel_rfl)))
                have Rd7 := Aside0.mk (Q_Rd7 (hon 7 (by kernel_rfl)))
                refine goes_ Tryd.func12 (by kernel_rfl) rfl #[.int .i64 4, .slice (some ⟨gd7, 0, none⟩) 2 2] (by rfl) rfl rfl (by first | (simp only [List.map_toArray, List.map_cons, List.map_nil, Act.eval, Array.getD_eq_getD_getElem?, Option.getD_some, e60]; done) | (simp only [List.map_toArray, List.map_cons, List.map_nil, Act.eval, Array.getD_eq_getD_getElem?, Option.getD_some, e60]; rfl)) ?_
                with_reducible refine (op_calls _ _ _ _ _).mono ?_
                rintro e_ w1 ⟨rfl, hB⟩
                refine ⟨_, rfl, ?_⟩
                refine hK.out _ _ ⟨gd3, gd5, gd7, pd9, m3_, m4_, m5_, m6_, m7_, (.agg #[.int .i64 4, .int .i64 0, .slice (some ⟨gd7, 0, none⟩) 2 2]), m9_, (by rw [ha.out]; exact putSel_upk 8 hb_ rfl rfl rfl), BW.out.trans (hB.mono BW.out.size), fun _ => Rd3.out.below hB, fun _ => Rd5.out.below hB, fun _ => Rd7.out.below hB, fun h0_ h1_ => (Q_Pd9 h0_ h1_).below hB, fun h0_ => absurd ((hoff 10 (by kernel_rfl)).symm.trans h0_) (by decide), Q_Nd3_9, Q_Nd5_9, Q_Nd7_9, Q_X3_, Q_X4_, Q_X5_, Q_X6_, Q_X7_, fun _ => rfl, Q_X9_⟩
              refine steps_cons ?_ ?_
              · rintro b a w' ⟨gd3, gd5, gd7, pd9, m3_, m4_, m5_, m6_, m7_, m8_, m9_, ha, Q_BW, Q_Rd3, Q_Rd5, Q_Rd7, Q_Pd9, Q_Sd9, Q_Nd3_9, Q_Nd5_9, Q_Nd7_9, Q_X3_, Q_X4_, Q_X5_, Q_X6_, Q_X7_, Q_X8_, Q_X9_⟩ hb_ hon hoff
                refine ⟨_, rfl, fun K hK => ?_⟩
                replace ha := Aside0.mk ha
                have BW := Aside0.mk Q_BW
                refine value_ (w1 := w'.alloc (.cells #[.int .i64 0, .int .i64 0, .slice none 0 0] 24)) (v := .pointer (some ⟨w'.heap.size, 0, none⟩)) (by rfl) rfl ?_ ?_
                · (go_simp; try rfl)
                refine hK.out _ _ ⟨gd3, gd5, gd7, w'.heap.size, m3_, m4_, m5_, m6_, m7_, m8_, (.pointer (some ⟨w'.heap.size, 0, none⟩)), (by rw [ha.out]; exact putSel_upk 9 hb_ rfl rfl rfl), below_alloc BW.out _, fun h0_ => (Q_Rd3 h0_).alloc _, fun h0_ => (Q_Rd5 h0_).alloc _, fun h0_ => (Q_Rd7 h0_).alloc _, fun _ _ => Lay.new BW.out _ _, fun h0_ => absurd ((hoff 10 (by kernel_rfl)).symm.trans h0_) (by decide), fun h_ _ => (Q_Rd3 h_).ne_new.symm, fun h_ _ => (Q_Rd5 h_).ne_new.symm, fun h_ _ => (Q_Rd7 h_).ne_new.symm, Q_X3_, Q_X4_, Q_X5_, Q_X6_, Q_X7_, Q_X8_, fun _ => rfl⟩
              refine steps_cons ?_ ?_
              · rintro b a w' ⟨gd3, gd5, gd7, pd9, m3_, m4_, m5_, m6_, m7_, m8_, m9_, ha, Q_BW, Q_Rd3, Q_Rd5, Q_Rd7, Q_Pd9, Q_Sd9, Q_Nd3_9, Q_Nd5_9, Q_Nd7_9, Q_X3_, Q_X4_, Q_X5_, Q_X6_, Q_X7_, Q_X8_, Q_X9_⟩ hb_ hon hoff
                refine ⟨_, rfl, fun K hK => ?_⟩
                have e11 : a.tmps[11]? = some (m9_) := by rw [ha]; exact putSel_on (e := (9, 11, m9_)) 9 rfl rfl (hon 9 (by kernel_rfl)) rfl
                rw [Q_X9_ (hon 9 (by kernel_rfl))] at e11
                have e61 : a.tmps[61]? = some (m8_) := by rw [ha]; exact putSel_on (e := (8, 61, m8_)) 8 rfl rfl (hon 8 (by kernel_rfl)) rfl
                rw [Q_X8_ (hon 8 (by kernel_rfl))] at e61
                replace ha := Aside0.mk ha
                have BW := Aside0.mk Q_BW
                have Rd3 := Aside0.mk (Q_Rd3 (hon 3 (by kernel_rfl)))
                have Rd5 := Aside0.mk (Q_Rd5 (hon 5 (by kernel_rfl)))
                have Rd7 := Aside0.mk (Q_Rd7 (hon 7 (by kernel_rfl)))
                have Pd9 := Aside0.mk (Q_Pd9 (hon 9 (by kernel_rfl)) hb_)
                have Nd3_9 := Aside0.mk (Q_Nd3_9 (hon 3 (by kernel_rfl)) (hon 9 (by kernel_rfl)))
                have Nd5_9 := Aside0.mk (Q_Nd5_9 (hon 5 (by kernel_rfl)) (hon 9 (by kernel_rfl)))
                have Nd7_9 := Aside0.mk (Q_Nd7_9 (hon 7 (by kernel_rfl)) (hon 9 (by kernel_rfl)))
                have z0_ := (blk_cell Pd9.out.2 0).trans rfl
                have z1_ := (blk_cell Pd9.out.2 1).trans rfl
                have z2_ := (blk_cell Pd9.out.2 2).trans rfl
                have f0_ := blk_frozen Pd9.out.2 0
                have f1_ := blk_frozen Pd9.out.2 1
                have f2_ := blk_frozen Pd9.out.2 2
                refine skip_ (w1 := put3 w' pd9 (.int .i64 4) (.int .i64 0) (.slice (some ⟨gd7, 0, none⟩) 2 2)) (by rfl) rfl ?_ ?_
                · (unfold put3; go_simp; try rfl)
                refine hK.out _ _ ⟨gd3, gd5, gd7, pd9, m3_, m4_, m5_, m6_, m7_, m8_, m9_, (by rw [ha.out]; exact putSel_none (v := undef) rfl), below_put3 BW.out Pd9.out.1 _ _ _, fun _ => Rd3.out.far3 Nd3_9.out _ _ _, fun _ => Rd5.out.far3 Nd5_9.out _ _ _, fun _ => Rd7.out.far3 Nd7_9.out _ _ _, fun _ h1_ => absurd ((up_self b 10).symm.trans h1_) (by decide), fun _ => Pd9.out.put3 _ _ _, Q_Nd3_9, Q_Nd5_9, Q_Nd7_9, Q_X3_, Q_X4_, Q_X5_, Q_X6_, Q_X7_, Q_X8_, Q_X9_⟩
              exact steps_nil
            · rintro b a w' hall ⟨gd3, gd5, gd7, pd9, m3_, m4_, m5_, m6_, m7_, m8_, m9_, ha, Q_BW, Q_Rd3, Q_Rd5, Q_Rd7, Q_Pd9, Q_Sd9, Q_Nd3_9, Q_Nd5_9, Q_Nd7_9, Q_X3_, Q_X4_, Q_X5_, Q_X6_, Q_X7_, Q_X8_, Q_X9_⟩
              clear BW
              have hb0_ := hall 0 (by kernel_rfl)
              have hb1_ := hall 1 (by kernel_rfl)
              have hb2_ := hall 2 (by kernel_rfl)
              have hb3_ := hall 3 (by kernel_rfl)
              have hb4_ := hall 4 (by kernel_rfl)
              have hb5_ := hall 5 (by kernel_rfl)
              have hb6_ := hall 6 (by kernel_rfl)
              have hb7_ := hall 7 (by kernel_rfl)
              have hb8_ := hall 8 (by kernel_rfl)
              have hb9_ := hall 9 (by kernel_rfl)
              have hb10_ := hall 10 (by kernel_rfl)
              subst ha
              obtain rfl := Q_X3_ hb3_
              obtain rfl := Q_X4_ hb4_
              obtain rfl := Q_X5_ hb5_
              obtain rfl := Q_X6_ hb6_
              obtain rfl := Q_X7_ hb7_
              obtain rfl := Q_X8_ hb8_
              obtain rfl := Q_X9_ hb9_
              simp only [putSel, hb0_, hb1_, hb2_, hb3_, hb4_, hb5_, hb6_, hb7_, hb8_, hb9_, hb10_, if_true, Act.put, List.setIfInBounds_toArray, List.set_cons_zero, List.set_cons_succ]
              have BW := Aside0.mk Q_BW
              clear Q_BW
              have Rd3 := Aside0.mk (Q_Rd3 hb3_)
              clear Q_Rd3
              have Rd5 := Aside0.mk (Q_Rd5 hb5_)
              clear Q_Rd5
              have Rd7 := Aside0.mk (Q_Rd7 hb7_)
              clear Q_Rd7
              clear Q_Pd9
              have Sd9 := Aside0.mk (Q_Sd9 hb10_)
              clear Q_Sd9
              have Nd3_9 := Aside0.mk (Q_Nd3_9 hb3_ hb9_)
              clear Q_Nd3_9
              have Nd5_9 := Aside0.mk (Q_Nd5_9 hb5_ hb9_)
              clear Q_Nd5_9
              have Nd7_9 := Aside0.mk (Q_Nd7_9 hb7_ hb9_)
              clear Q_Nd7_9
              clear hall hb0_ hb1_ hb2_ hb3_ hb4_ hb5_ hb6_ hb7_ hb8_ hb9_ hb10_
              obtain ⟨W6, rfl⟩ : ∃ W : World, W = w' := ⟨_, rfl⟩
              have HBW6 := BW
              clear BW
              have HB6 := Aside0.mk (HB5.out.trans (HBW6.out.mono HB5.out.size))
              have HF6 := Aside0.mk ((HBW6.out.block _ (blk_lt HF5.out)).trans HF5.out)
              have HG6 := Aside0.mk ((HBW6.out.block _ (blk_lt HG5.out)).trans HG5.out)
              have HL6 := Aside0.mk ((HBW6.out.block _ (blk_lt HL5.out)).trans HL5.out)
              have HU6 := Aside0.mk ((HBW6.out.block _ (blk_lt HU5.out)).trans HU5.out)
              have HR6 := Aside0.mk ((HBW6.out.block _ (blk_lt HR5.out)).trans HR5.out)
              have HX6 := Aside0.mk ((HBW6.out.block _ (blk_lt HX5.out)).trans HX5.out)
              have HD6 := Aside0.mk ((HBW6.out.block _ (blk_lt HD5.out)).trans HD5.out)
              have HO6 := Aside0.mk Sd9.out.2
              have CU6 := Aside0.mk (Kd.C_below CU5.out HBW6.out)
              have CR6 := Aside0.mk (Kd.C_below CR5.out HBW6.out)
              have CX6 := Aside0.mk (Kd.C_below CX5.out HBW6.out)
              have CD6 := Aside0.mk (Kd.C_below CD5.out HBW6.out)
              have cd3 := C_of1 (s := releaseS s t) Rd3.out.2 CR6.out (Nat.le_refl _)
              have cd5 := C_of2 (a := s) (b := ⟨6, 0, [releaseS s t]⟩) Rd5.out.2 (Kd.C_below HKs.out HB6.out) hc cd3 (Nat.le_refl _)
              have CO6 := Aside0.mk (C_of2 (a := t) (b := ⟨5, 0, [s, ⟨6, 0, [releaseS s t]⟩]⟩) Rd7.out.2 (Kd.C_below HKt.out HB6.out) hcm cd5 (Nat.le_refl _))
              clear cd3 cd5 Rd3 Rd5 Rd7 Sd9 CU5 CR5 CX5 CD5
              have HMX := Aside0.mk (fun W (h : Below W6.heap.size W6 W) => show Calls Tryd.prog 13 #[.agg #[.int .i64 5, .int .i64 0, .slice (some ⟨gb7, 0, none⟩) 2 2]] W _ from May_calls (unfoldS s t) _ _ W (Kd.C_below CX6.out h) (Nat.le_refl _))
              have HMO := Aside0.mk (fun W (h : Below W6.heap.size W6 W) => show Calls Tryd.prog 13 #[.agg #[.int .i64 4, .int .i64 0, .slice (some ⟨gd7, 0, none⟩) 2 2]] W _ from May_calls (openS s t) _ _ W (Kd.C_below CO6.out h) (Nat.le_refl _))
              have HMD := Aside0.mk (fun W (h : Below W6.heap.size W6 W) => show Calls Tryd.prog 13 #[.agg #[.int .i64 3, .int .i64 0, .slice (some ⟨gc8, 0, none⟩) 1 1]] W _ from May_calls (dualS s t) _ _ W (Kd.C_below CD6.out h) (Nat.le_refl _))
              have HMW := Aside0.mk (fun W (h : Below W6.heap.size W6 W) => formula_MayWord.calls A1 c1 st A2 c2 lp (wordS st lp) W (Kd.C_below HK1.out (HB6.out.trans (h.mono HB6.out.size))) hc1 (Kd.C_below HK2.out (HB6.out.trans (h.mono HB6.out.size))) hc2 (mayWord_some st lp))
              have HRU := Aside0.mk (fun W (h : Below W6.heap.size W6 W) => show Calls Tryd.prog 15 #[.agg #[.int .i64 7, .int .i64 0, .slice (some ⟨ga2, 0, none⟩) 2 2], .agg #[.slice A1 st.length c1, .slice A2 lp.length c2]] W _ from Row_calls (untilS s t) st lp _ _ A1 A2 c1 c2 W (Kd.C_below CU6.out h) (Nat.le_refl _) (Kd.C_below HK1.out (HB6.out.trans (h.mono HB6.out.size))) hc1 (Kd.C_below HK2.out (HB6.out.trans (h.mono HB6.out.size))) hc2)
              have HRX := Aside0.mk (fun W (h : Below W6.heap.size W6 W) => show Calls Tryd.prog 15 #[.agg #[.int .i64 5, .int .i64 0, .slice (some ⟨gb7, 0, none⟩) 2 2], .agg #[.slice A1 st.length c1, .slice A2 lp.length c2]] W _ from Row_calls (unfoldS s t) st lp _ _ A1 A2 c1 c2 W (Kd.C_below CX6.out h) (Nat.le_refl _) (Kd.C_below HK1.out (HB6.out.trans (h.mono HB6.out.size))) hc1 (Kd.C_below HK2.out (HB6.out.trans (h.mono HB6.out.size))) hc2)
              have HRR := Aside0.mk (fun W (h : Below W6.heap.size W6 W) => show Calls Tryd.prog 15 #[.agg #[.int .i64 8, .int .i64 0, .slice (some ⟨ga6, 0, none⟩) 2 2], .agg #[.slice A1 st.length c1, .slice A2 lp.length c2]] W _ from Row_calls (releaseS s t) st lp _ _ A1 A2 c1 c2 W (Kd.C_below CR6.out h) (Nat.le_refl _) (Kd.C_below HK1.out (HB6.out.trans (h.mono HB6.out.size))) hc1 (Kd.C_below HK2.out (HB6.out.trans (h.mono HB6.out.size))) hc2)
              have HRD := Aside0.mk (fun W (h : Below W6.heap.size W6 W) => show Calls Tryd.prog 15 #[.agg #[.int .i64 3, .int .i64 0, .slice (some ⟨gc8, 0, none⟩) 1 1], .agg #[.slice A1 st.length c1, .slice A2 lp.length c2]] W _ from Row_calls (dualS s t) st lp _ _ A1 A2 c1 c2 W (Kd.C_below CD6.out h) (Nat.le_refl _) (Kd.C_below HK1.out (HB6.out.trans (h.mono HB6.out.size))) hc1 (Kd.C_below HK2.out (HB6.out.trans (h.mono HB6.out.size))) hc2)
              have HRO := Aside0.mk (fun W (h : Below W6.heap.size W6 W) => show Calls Tryd.prog 15 #[.agg #[.int .i64 4, .int .i64 0, .slice (some ⟨gd7, 0, none⟩) 2 2], .agg #[.slice A1 st.length c1, .slice A2 lp.length c2]] W _ from Row_calls (openS s t) st lp _ _ A1 A2 c1 c2 W (Kd.C_below CO6.out h) (Nat.le_refl _) (Kd.C_below HK1.out (HB6.out.trans (h.mono HB6.out.size))) hc1 (Kd.C_below HK2.out (HB6.out.trans (h.mono HB6.out.size))) hc2)
              have HEX := Aside0.mk (@steps_unfold s t st lp)
              have HEO := Aside0.mk (@steps_open s t st lp)
              have HED := Aside0.mk (@steps_dual s t st lp)
              have HLU := Aside0.mk (fun (h : mayF (unfoldS s t) = 0) (hw : wordS st lp = true) => len_rowF ((sub_unfold s t).may h) hw)
              have HLR := Aside0.mk (fun (h : mayF (openS s t) = 0) (hw : wordS st lp = true) => len_rowF ((sub_open s t).may h) hw)
              have HSM := Aside0.mk (@word_small st lp)
              generalize hmx : mayF (unfoldS s t) = mx at *
              generalize hmo : mayF (openS s t) = mo at *
              generalize hmd : mayF (dualS s t) = md at *
              generalize hwd : wordS st lp = wd at *
              clear hmx hmo hmd hwd
              have qX60 := (blk_cell HX6.out 0).trans rfl
              have qX61 := (blk_cell HX6.out 1).trans rfl
              have qX62 := (blk_cell HX6.out 2).trans rfl
              by_cases ex : mx = 0
              · have bx : (mx != 0) = false := by rw [ex]; rfl
                by_cases eo : mo = 0
                · have bo : (mo != 0) = false := by rw [eo]; rfl
                  by_cases ed : md = 0
                  · have bd : (md != 0) = false := by rw [ed]; rfl
                    cases wd with
                    | true =>
                      have hsm := HSM.out rfl
                      have hlu := HLU.out ex rfl
                      have hlr := HLR.out eo rfl
                      rw [HEX.out ex rfl] at HRX
                      rw [HEO.out eo rfl] at HRO
                      rw [HED.out ed eo rfl] at HRD
                      have hn : wrap64 ((st.length : Int) + (lp.length : Int)) = (st.length : Int) + (lp.length : Int) := len_wrap hsm
                      generalize rowF (untilS s t) st lp = ru at *
                      generalize rowF (releaseS s t) st lp = rr at *
                      have bu : ((ru.length : Int) == (st.length : Int) + (lp.length : Int)) = true := len_beq hlu
                      have br : ((rr.length : Int) == (st.length : Int) + (lp.length : Int)) = true := len_beq hlr
                      have HNU := Aside0.mk (len_small hlu hsm)
                      have HNR := Aside0.mk (len_small hlr hsm)
                      clear hsm hlu hlr HSM HLU HLR HEX HEO HED ex eo ed
                      go_upto_region 10 with (first | (go_at_call 13; (with_reducible refine (HMX.out _ (Below.refl _ _)).mono ?_); rintro e_ w61 ⟨rfl, hB⟩; have HB61 := Aside0.mk (hB); clear hB; have HO61 := Aside0.mk ((HB61.out.block _ (blk_lt HO6.out)).trans HO6.out); have qO610 := (blk_cell HO61.out 0).trans rfl; have qO611 := (blk_cell HO61.out 1).trans rfl; have qO612 := (blk_cell HO61.out 2).trans rfl) | (go_at_call 13; (with_reducible refine (HMO.out _ HB61.out).mono ?_); rintro e_ w62 ⟨rfl, hB⟩; have HB62 := Aside0.mk (HB61.out.trans (hB.mono HB61.out.size)); clear hB; have HD62 := Aside0.mk ((HB62.out.block _ (blk_lt HD6.out)).trans HD6.out); have qD620 := (blk_cell HD62.out 0).trans rfl; have qD621 := (blk_cell HD62.out 1).trans rfl; have qD622 := (blk_cell HD62.out 2).trans rfl) | (go_at_call 13; (with_reducible refine (HMD.out _ HB62.out).mono ?_); rintro e_ w63 ⟨rfl, hB⟩; have HB63 := Aside0.mk (HB62.out.trans (hB.mono HB62.out.size)); clear hB; have HL63 := Aside0.mk ((HB63.out.block _ (blk_lt HL6.out)).trans HL6.out); have qL630 := (blk_cell HL63.out 0).trans rfl; have qL631 := (blk_cell HL63.out 1).trans rfl) | (go_at_call 14; (with_reducible refine (HMW.out _ HB63.out).mono ?_); rintro e_ w64 ⟨rfl, hB⟩; have HB64 := Aside0.mk (HB63.out.trans (hB.mono HB63.out.size)); clear hB; have HL64 := Aside0.mk ((HB64.out.block _ (blk_lt HL6.out)).trans HL6.out); have qL640 := (blk_cell HL64.out 0).trans rfl; have qL641 := (blk_cell HL64.out 1).trans rfl; have HU64 := Aside0.mk ((HB64.out.block _ (blk_lt HU6.out)).trans HU6.out); have qU640 := (blk_cell HU64.out 0).trans rfl; have qU641 := (blk_cell HU64.out 1).trans rfl; have qU642 := (blk_cell HU64.out 2).trans rfl; have HR64 := Aside0.mk ((HB64.out.block _ (blk_lt HR6.out)).trans HR6.out); have qR640 := (blk_cell HR64.out 0).trans rfl; have qR641 := (blk_cell HR64.out 1).trans rfl; have qR642 := (blk_cell HR64.out 2).trans rfl; have HX64 := Aside0.mk ((HB64.out.block _ (blk_lt HX6.out)).trans HX6.out); have qX640 := (blk_cell HX64.out 0).trans rfl; have qX641 := (blk_cell HX64.out 1).trans rfl; have qX642 := (blk_cell HX64.out 2).trans rfl; have HD64 := Aside0.mk ((HB64.out.block _ (blk_lt HD6.out)).trans HD6.out); have qD640 := (blk_cell HD64.out 0).trans rfl; have qD641 := (blk_cell HD64.out 1).trans rfl; have qD642 := (blk_cell HD64.out 2).trans rfl; have HO64 := Aside0.mk ((HB64.out.block _ (blk_lt HO6.out)).trans HO6.out); have qO640 := (blk_cell HO64.out 0).trans rfl; have qO641 := (blk_cell HO64.out 1).trans rfl; have qO642 := (blk_cell HO64.out 2).trans rfl) | (go_at_call 11; refine (awake_calls _).mono ?_; rintro e_ w9 ⟨rfl, hB⟩; first | (have HBz := Aside0.mk (HB64.out.trans (hB.mono HB64.out.size)); clear hB) | (have HBz := Aside0.mk (HB63.out.trans (hB.mono HB63.out.size)); clear hB) | (have HBz := Aside0.mk (HB62.out.trans (hB.mono HB62.out.size)); clear hB) | (have HBz := Aside0.mk (HB61.out.trans (hB.mono HB61.out.size)); clear hB)))
                      refine start_ (n := 12) (S := fun w' => w'.cell? ⟨w.heap.size + 1 + 1, 0, none⟩ = some (.slice A1 st.length c1) ∧ w'.cell? ⟨w.heap.size + 1 + 1, 1, none⟩ = some (.slice A2 lp.length c2) ∧ w'.cell? ⟨pa8, 0, none⟩ = some (.int .i64 7) ∧ w'.cell? ⟨pa8, 1, none⟩ = some (.int .i64 0) ∧ w'.cell? ⟨pa8, 2, none⟩ = some (.slice (some ⟨ga2, 0, none⟩) 2 2) ∧ w'.cell? ⟨pa9, 0, none⟩ = some (.int .i64 8) ∧ w'.cell? ⟨pa9, 1, none⟩ = some (.int .i64 0) ∧ w'.cell? ⟨pa9, 2, none⟩ = some (.slice (some ⟨ga6, 0, none⟩) 2 2) ∧ w'.cell? ⟨pb9, 0, none⟩ = some (.int .i64 5) ∧ w'.cell? ⟨pb9, 1, none⟩ = some (.int .i64 0) ∧ w'.cell? ⟨pb9, 2, none⟩ = some (.slice (some ⟨gb7, 0, none⟩) 2 2)) (ds := []) #[false, false, false, false, false, false, false, false, false, false, false, false] (by kernel_rfl) rfl rfl ⟨((blk_cell HL64.out 0).trans rfl), ((blk_cell HL64.out 1).trans rfl), ((blk_cell HU64.out 0).trans rfl), ((blk_cell HU64.out 1).trans rfl), ((blk_cell HU64.out 2).trans rfl), ((blk_cell HR64.out 0).trans rfl), ((blk_cell HR64.out 1).trans rfl), ((blk_cell HR64.out 2).trans rfl), ((blk_cell HX64.out 0).trans rfl), ((blk_cell HX64.out 1).trans rfl), ((blk_cell HX64.out 2).trans rfl)⟩ (fun hHeld => ?_)
                      refine with_tabW fst.tab10 fst.bits10 (fun HT_ HW_ => ?_)
                      refine take_ (i := 0) (N := some 88) (v := ?_) (a' := ?_) #[true, false, false, false, false, false, false, false, false, false, false, false] rfl rfl (take_ofW HT_.out HW_.out (by kernel_rfl)) (fun _ _ _ h => h) (Or.inl ⟨by rfl, ?_⟩) hHeld ?_ ?_
                      rotate_left
                      · rintro w' ⟨s0, s1, s2, s3, s4, s5, s6, s7, s8, s9, s10⟩
                        go_simp
                        with_reducible rfl
                      rotate_left
                      · simp only [Act.put, List.setIfInBounds_toArray, List.set_cons_zero, List.set_cons_succ, i64_w, i32_w]
                        rfl
                      refine take_ (i := 1) (N := some 89) (v := ?_) (a' := ?_) #[true, true, false, false, false, false, false, false, false, false, false, false] rfl rfl (take_ofW HT_.out HW_.out (by kernel_rfl)) (fun _ _ _ h => h) (Or.inl ⟨by rfl, ?_⟩) hHeld ?_ ?_
                      rotate_left
                      · rintro w' ⟨s0, s1, s2, s3, s4, s5, s6, s7, s8, s9, s10⟩
                        go_simp
                        with_reducible rfl
                      rotate_left
                      · simp only [Act.put, List.setIfInBounds_toArray, List.set_cons_zero, List.set_cons_succ, i64_w, i32_w]
                        rfl
                      refine take_ (i := 3) (N := some 91) (v := ?_) (a' := ?_) #[true, true, false, true, false, false, false, false, false, false, false, false] rfl rfl (take_ofW HT_.out HW_.out (by kernel_rfl)) (fun _ _ _ h => h) (Or.inl ⟨by rfl, ?_⟩) hHeld ?_ ?_
                      rotate_left
                      · rintro w' ⟨s0, s1, s2, s3, s4, s5, s6, s7, s8, s9, s10⟩
                        go_simp
                        with_reducible rfl
                      rotate_left
                      · simp only [Act.put, List.setIfInBounds_toArray, List.set_cons_zero, List.set_cons_succ, i64_w, i32_w]
                        rfl
                      refine take_ (i := 4) (N := some 92) (v := ?_) (a' := ?_) #[true, true, false, true, true, false, false, false, false, false, false, false] rfl rfl (take_ofW HT_.out HW_.out (by kernel_rfl)) (fun _ _ _ h => h) (Or.inl ⟨by rfl, ?_⟩) hHeld ?_ ?_
                      rotate_left
                      · rintro w' ⟨s0, s1, s2, s3, s4, s5, s6, s7, s8, s9, s10⟩
                        go_simp
                        with_reducible rfl
                      rotate_left
                      · simp only [Act.put, List.setIfInBounds_toArray, List.set_cons_zero, List.set_cons_succ, i64_w, i32_w]
                        rfl
                      refine take_ (i := 6) (N := some 94) (v := ?_) (a' := ?_) #[true, true, false, true, true, false, true, false, false, false, false, false] rfl rfl (take_ofW HT_.out HW_.out (by kernel_rfl)) (fun _ _ _ h => h) (Or.inl ⟨by rfl, ?_⟩) hHeld ?_ ?_
                      rotate_left
                      · rintro w' ⟨s0, s1, s2, s3, s4, s5, s6, s7, s8, s9, s10⟩
                        go_simp
                        with_reducible rfl
                      rotate_left
                      · simp only [Act.put, List.setIfInBounds_toArray, List.set_cons_zero, List.set_cons_succ, i64_w, i32_w]
                        rfl
                      refine take_ (i := 7) (N := some 95) (v := ?_) (a' := ?_) #[true, true, false, true, true, false, true, true, false, false, false, false] rfl rfl (take_ofW HT_.out HW_.out (by kernel_rfl)) (fun _ _ _ h => h) (Or.inl ⟨by rfl, ?_⟩) hHeld ?_ ?_
                      rotate_left
                      · rintro w' ⟨s0, s1, s2, s3, s4, s5, s6, s7, s8, s9, s10⟩
                        go_simp
                        with_reducible rfl
                      rotate_left
                      · simp only [Act.put, List.setIfInBounds_toArray, List.set_cons_zero, List.set_cons_succ, i64_w, i32_w]
                        rfl
                      refine one_ (i := 2) (N := some 90) #[true, true, true, true, true, false, true, true, false, false, false, false] rfl rfl (one_of HT_.out (by kernel_rfl)) (by decide) (fun K hK => ?_)
                      refine goes_ Tryd.func15 (by kernel_rfl) rfl #[.agg #[.int .i64 7, .int .i64 0, .slice (some ⟨ga2, 0, none⟩) 2 2], .agg #[.slice A1 st.length c1, .slice A2 lp.length c2]] (by rfl) rfl rfl (by simp only [List.map_toArray, List.map_cons, List.map_nil]; rfl) ?_
                      with_reducible refine (HRU.out _ (HB64.out.trans ((show Below w64.heap.size w64 w64.drew from below_drew1 (Below.refl _ _)).mono HB64.out.size))).mono ?_
                      rintro e_ wc2 ⟨va, rfl, hR, hB⟩
                      have HBc2 := Aside0.mk (show Below w64.heap.size w64 wc2 from (below_drew1 (Below.refl _ _)).trans hB)
                      have HVva := Aside0.mk hR
                      clear hR
                      clear hB
                      have hkL2 := (HBc2.out.block _ (blk_lt HL64.out)).trans HL64.out
                      have hkU2 := (HBc2.out.block _ (blk_lt HU64.out)).trans HU64.out
                      have hkR2 := (HBc2.out.block _ (blk_lt HR64.out)).trans HR64.out
                      have hkX2 := (HBc2.out.block _ (blk_lt HX64.out)).trans HX64.out
                      refine ⟨_, rfl, ?_⟩
                      refine hK.out _ _ ⟨((blk_cell hkL2 0).trans rfl), ((blk_cell hkL2 1).trans rfl), ((blk_cell hkU2 0).trans rfl), ((blk_cell hkU2 1).trans rfl), ((blk_cell hkU2 2).trans rfl), ((blk_cell hkR2 0).trans rfl), ((blk_cell hkR2 1).trans rfl), ((blk_cell hkR2 2).trans rfl), ((blk_cell hkX2 0).trans rfl), ((blk_cell hkX2 1).trans rfl), ((blk_cell hkX2 2).trans rfl)⟩ (fun hHeld => ?_)
                      clear hK K
                      refine norm_ (a' := ?_) ?_ ?_
                      rotate_left
                      · show Act.put _ (some 90) _ = _
                        simp only [Act.put, List.setIfInBounds_toArray, List.set_cons_zero, List.set_cons_succ, i64_w, i32_w]
                        rfl
                      refine one_ (i := 5) (N := some 93) #[true, true, true, true, true, true, true, true, false, false, false, false] rfl rfl (one_of HT_.out (by kernel_rfl)) (by decide) (fun K hK => ?_)
                      refine goes_ Tryd.func15 (by kernel_rfl) rfl #[.agg #[.int .i64 5, .int .i64 0, .slice (some ⟨gb7, 0, none⟩) 2 2], .agg #[.slice A1 st.length c1, .slice A2 lp.length c2]] (by rfl) rfl rfl (by simp only [List.map_toArray, List.map_cons, List.map_nil]; rfl) ?_
                      with_reducible refine (HRX.out _ (HB64.out.trans (HBc2.out.mono HB64.out.size))).mono ?_
                      rintro e_ wc5 ⟨vb, rfl, hR, hB⟩
                      have HBc5 := Aside0.mk (show Below w64.heap.size w64 wc5 from HBc2.out.trans (hB.mono HBc2.out.size))
                      have HVvb := Aside0.mk hR
                      clear hR
                      have HVva := Aside0.mk (Kd.R_below HVva.out hB)
                      clear hB
                      have hkL5 := (HBc5.out.block _ (blk_lt HL64.out)).trans HL64.out
                      have hkU5 := (HBc5.out.block _ (blk_lt HU64.out)).trans HU64.out
                      have hkR5 := (HBc5.out.block _ (blk_lt HR64.out)).trans HR64.out
                      have hkX5 := (HBc5.out.block _ (blk_lt HX64.out)).trans HX64.out
                      refine ⟨_, rfl, ?_⟩
                      refine hK.out _ _ ⟨((blk_cell hkL5 0).trans rfl), ((blk_cell hkL5 1).trans rfl), ((blk_cell hkU5 0).trans rfl), ((blk_cell hkU5 1).trans rfl), ((blk_cell hkU5 2).trans rfl), ((blk_cell hkR5 0).trans rfl), ((blk_cell hkR5 1).trans rfl), ((blk_cell hkR5 2).trans rfl), ((blk_cell hkX5 0).trans rfl), ((blk_cell hkX5 1).trans rfl), ((blk_cell hkX5 2).trans rfl)⟩ (fun hHeld => ?_)
                      clear hK K
                      refine norm_ (a' := ?_) ?_ ?_
                      rotate_left
                      · show Act.put _ (some 93) _ = _
                        simp only [Act.put, List.setIfInBounds_toArray, List.set_cons_zero, List.set_cons_succ, i64_w, i32_w]
                        rfl
                      refine one_ (i := 8) (N := some 96) #[true, true, true, true, true, true, true, true, true, false, false, false] rfl rfl (one_of HT_.out (by kernel_rfl)) (by decide) (fun K hK => ?_)
                      refine goes_ Tryd.func15 (by kernel_rfl) rfl #[.agg #[.int .i64 8, .int .i64 0, .slice (some ⟨ga6, 0, none⟩) 2 2], .agg #[.slice A1 st.length c1, .slice A2 lp.length c2]] (by rfl) rfl rfl (by simp only [List.map_toArray, List.map_cons, List.map_nil]; rfl) ?_
                      with_reducible refine (HRR.out _ (HB64.out.trans (HBc5.out.mono HB64.out.size))).mono ?_
                      rintro e_ wc8 ⟨vc, rfl, hR, hB⟩
                      have HBc8 := Aside0.mk (show Below w64.heap.size w64 wc8 from HBc5.out.trans (hB.mono HBc5.out.size))
                      have HVvc := Aside0.mk hR
                      clear hR
                      have HVva := Aside0.mk (Kd.R_below HVva.out hB)
                      have HVvb := Aside0.mk (Kd.R_below HVvb.out hB)
                      clear hB
                      have hkL8 := (HBc8.out.block _ (blk_lt HL64.out)).trans HL64.out
                      have hkU8 := (HBc8.out.block _ (blk_lt HU64.out)).trans HU64.out
                      have hkR8 := (HBc8.out.block _ (blk_lt HR64.out)).trans HR64.out
                      have hkX8 := (HBc8.out.block _ (blk_lt HX64.out)).trans HX64.out
                      refine ⟨_, rfl, ?_⟩
                      refine hK.out _ _ ⟨((blk_cell hkL8 0).trans rfl), ((blk_cell hkL8 1).trans rfl), ((blk_cell hkU8 0).trans rfl), ((blk_cell hkU8 1).trans rfl), ((blk_cell hkU8 2).trans rfl), ((blk_cell hkR8 0).trans rfl), ((blk_cell hkR8 1).trans rfl), ((blk_cell hkR8 2).trans rfl), ((blk_cell hkX8 0).trans rfl), ((blk_cell hkX8 1).trans rfl), ((blk_cell hkX8 2).trans rfl)⟩ (fun hHeld => ?_)
                      clear hK K
                      refine norm_ (a' := ?_) ?_ ?_
                      rotate_left
                      · show Act.put _ (some 96) _ = _
                        simp only [Act.put, List.setIfInBounds_toArray, List.set_cons_zero, List.set_cons_succ, i64_w, i32_w]
                        rfl
                      refine pure_ (i := 9) (N := some 13) (v := ?_) (a' := ?_) #[true, true, true, true, true, true, true, true, true, true, false, false] rfl rfl (any_of HT_.out (by kernel_rfl)) (fun _ _ _ h => h) (Or.inl ⟨by rfl, ?_⟩) ?_ ?_
                      rotate_left
                      · intro w'
                        go_simp
                        with_reducible rfl
                      rotate_left
                      · simp only [Act.put, List.setIfInBounds_toArray, List.set_cons_zero, List.set_cons_succ, i64_w, i32_w]
                        rfl
                      refine pure_ (i := 10) (N := some 14) (v := ?_) (a' := ?_) #[true, true, true, true, true, true, true, true, true, true, true, false] rfl rfl (any_of HT_.out (by kernel_rfl)) (fun _ _ _ h => h) (Or.inl ⟨by rfl, ?_⟩) ?_ ?_
                      rotate_left
                      · intro w'
                        go_simp
                        with_reducible rfl
                      rotate_left
                      · simp only [Act.put, List.setIfInBounds_toArray, List.set_cons_zero, List.set_cons_succ, i64_w, i32_w]
                        rfl
                      refine pure_ (i := 11) (N := some 15) (v := ?_) (a' := ?_) #[true, true, true, true, true, true, true, true, true, true, true, true] rfl rfl (any_of HT_.out (by kernel_rfl)) (fun _ _ _ h => h) (Or.inl ⟨by rfl, ?_⟩) ?_ ?_
                      rotate_left
                      · intro w'
                        go_simp
                        with_reducible rfl
                      rotate_left
                      · simp only [Act.put, List.setIfInBounds_toArray, List.set_cons_zero, List.set_cons_succ, i64_w, i32_w]
                        rfl
                      refine done_ (done_of HT_.out (by kernel_rfl)) ?_
                      obtain ⟨Aa, ca, ea, hca, hCa⟩ := Kd.R_reads HVva.out
                      obtain ⟨Ab, cb, eb, hcb, hCb⟩ := Kd.R_reads HVvb.out
                      obtain ⟨Ac, cc, ec, hcc, hCc⟩ := Kd.R_reads HVvc.out
                      subst ea eb ec
                      have HCa := Aside0.mk hCa
                      have HCb := Aside0.mk hCb
                      have HCc := Aside0.mk hCc
                      have HB8 := Aside0.mk (HB64.out.trans (HBc8.out.mono HB64.out.size))
                      have HL8 := Aside0.mk ((HBc8.out.block _ (blk_lt HL64.out)).trans HL64.out)
                      have HD8 := Aside0.mk ((HBc8.out.block _ (blk_lt HD64.out)).trans HD64.out)
                      have HO8 := Aside0.mk ((HBc8.out.block _ (blk_lt HO64.out)).trans HO64.out)
                      clear hCa hCb hCc HVva HVvb HVvc
                      have HS1 := Aside0.mk (same_row_calls ru Aa Ab ca cb wc8 HCa.out hca HCb.out hcb HNU.out)
                      go_wp2_with (first | (go_at_call 16; (with_reducible refine (HS1.out).mono ?_); rintro e_ w81 ⟨rfl, hB⟩; have HB81 := Aside0.mk (hB); have HD81 := Aside0.mk ((HB81.out.block _ (blk_lt HD8.out)).trans HD8.out); have qD810 := (blk_cell HD81.out 0).trans rfl; have qD811 := (blk_cell HD81.out 1).trans rfl; have qD812 := (blk_cell HD81.out 2).trans rfl; have HL81 := Aside0.mk ((HB81.out.block _ (blk_lt HL8.out)).trans HL8.out); have qL810 := (blk_cell HL81.out 0).trans rfl; have qL811 := (blk_cell HL81.out 1).trans rfl; clear hB) | (go_at_call 15; (with_reducible refine (HRD.out _ (HB8.out.trans (HB81.out.mono HB8.out.size))).mono ?_); rintro e_ w82 ⟨v82, rfl, hR, hB⟩; have HB82 := Aside0.mk (HB81.out.trans (hB.mono HB81.out.size)); obtain ⟨Ad, cd, e0_, hcd, hC_⟩ := Kd.R_reads hR; subst e0_; clear hR; have HS3 := Aside0.mk (same_row_calls rr Ac Ad cc cd w82 (Kd.C_below HCc.out HB82.out) hcc hC_ hcd HNR.out); clear hC_; clear hB) | (go_at_call 16; (with_reducible refine (HS3.out).mono ?_); rintro e_ w83 ⟨rfl, hB⟩; have HB83 := Aside0.mk (HB82.out.trans (hB.mono HB82.out.size)); have HO83 := Aside0.mk ((HB83.out.block _ (blk_lt HO8.out)).trans HO8.out); have qO830 := (blk_cell HO83.out 0).trans rfl; have qO831 := (blk_cell HO83.out 1).trans rfl; have qO832 := (blk_cell HO83.out 2).trans rfl; have HL83 := Aside0.mk ((HB83.out.block _ (blk_lt HL8.out)).trans HL8.out); have qL830 := (blk_cell HL83.out 0).trans rfl; have qL831 := (blk_cell HL83.out 1).trans rfl; clear hB) | (go_at_call 15; (with_reducible refine (HRO.out _ (HB8.out.trans (HB83.out.mono HB8.out.size))).mono ?_); rintro e_ w84 ⟨v84, rfl, hR, hB⟩; have HB84 := Aside0.mk (HB83.out.trans (hB.mono HB83.out.size)); obtain ⟨Ae, ce, e0_, hce, hC_⟩ := Kd.R_reads hR; subst e0_; clear hR; have HS5 := Aside0.mk (same_row_calls rr Ac Ae cc ce w84 (Kd.C_below HCc.out HB84.out) hcc hC_ hce HNR.out); clear hC_; clear hB) | (go_at_call 16; (with_reducible refine (HS5.out).mono ?_); rintro e_ w85 ⟨rfl, hB⟩; have HB85 := Aside0.mk (HB84.out.trans (hB.mono HB84.out.size)); clear hB) | (go_at_call 11; refine (awake_calls _).mono ?_; rintro e_ w9 ⟨rfl, hB⟩; have HBz := Aside0.mk (HB85.out.trans (hB.mono HB85.out.size)); clear hB))
                      go_ret
                      exact ⟨rfl, HB6.out.trans ((HB8.out.trans (HBz.out.mono HB8.out.size)).mono HB6.out.size)⟩
                    | false =>
                      go_wp2_with (first | (go_at_call 13; (with_reducible refine (HMX.out _ (Below.refl _ _)).mono ?_); rintro e_ w61 ⟨rfl, hB⟩; have HB61 := Aside0.mk (hB); clear hB; have HO61 := Aside0.mk ((HB61.out.block _ (blk_lt HO6.out)).trans HO6.out); have qO610 := (blk_cell HO61.out 0).trans rfl; have qO611 := (blk_cell HO61.out 1).trans rfl; have qO612 := (blk_cell HO61.out 2).trans rfl) | (go_at_call 13; (with_reducible refine (HMO.out _ HB61.out).mono ?_); rintro e_ w62 ⟨rfl, hB⟩; have HB62 := Aside0.mk (HB61.out.trans (hB.mono HB61.out.size)); clear hB; have HD62 := Aside0.mk ((HB62.out.block _ (blk_lt HD6.out)).trans HD6.out); have qD620 := (blk_cell HD62.out 0).trans rfl; have qD621 := (blk_cell HD62.out 1).trans rfl; have qD622 := (blk_cell HD62.out 2).trans rfl) | (go_at_call 13; (with_reducible refine (HMD.out _ HB62.out).mono ?_); rintro e_ w63 ⟨rfl, hB⟩; have HB63 := Aside0.mk (HB62.out.trans (hB.mono HB62.out.size)); clear hB; have HL63 := Aside0.mk ((HB63.out.block _ (blk_lt HL6.out)).trans HL6.out); have qL630 := (blk_cell HL63.out 0).trans rfl; have qL631 := (blk_cell HL63.out 1).trans rfl) | (go_at_call 14; (with_reducible refine (HMW.out _ HB63.out).mono ?_); rintro e_ w64 ⟨rfl, hB⟩; have HB64 := Aside0.mk (HB63.out.trans (hB.mono HB63.out.size)); clear hB; have HL64 := Aside0.mk ((HB64.out.block _ (blk_lt HL6.out)).trans HL6.out); have qL640 := (blk_cell HL64.out 0).trans rfl; have qL641 := (blk_cell HL64.out 1).trans rfl; have HU64 := Aside0.mk ((HB64.out.block _ (blk_lt HU6.out)).trans HU6.out); have qU640 := (blk_cell HU64.out 0).trans rfl; have qU641 := (blk_cell HU64.out 1).trans rfl; have qU642 := (blk_cell HU64.out 2).trans rfl; have HR64 := Aside0.mk ((HB64.out.block _ (blk_lt HR6.out)).trans HR6.out); have qR640 := (blk_cell HR64.out 0).trans rfl; have qR641 := (blk_cell HR64.out 1).trans rfl; have qR642 := (blk_cell HR64.out 2).trans rfl; have HX64 := Aside0.mk ((HB64.out.block _ (blk_lt HX6.out)).trans HX6.out); have qX640 := (blk_cell HX64.out 0).trans rfl; have qX641 := (blk_cell HX64.out 1).trans rfl; have qX642 := (blk_cell HX64.out 2).trans rfl; have HD64 := Aside0.mk ((HB64.out.block _ (blk_lt HD6.out)).trans HD6.out); have qD640 := (blk_cell HD64.out 0).trans rfl; have qD641 := (blk_cell HD64.out 1).trans rfl; have qD642 := (blk_cell HD64.out 2).trans rfl; have HO64 := Aside0.mk ((HB64.out.block _ (blk_lt HO6.out)).trans HO6.out); have qO640 := (blk_cell HO64.out 0).trans rfl; have qO641 := (blk_cell HO64.out 1).trans rfl; have qO642 := (blk_cell HO64.out 2).trans rfl) | (go_at_call 11; refine (awake_calls _).mono ?_; rintro e_ w9 ⟨rfl, hB⟩; first | (have HBz := Aside0.mk (HB64.out.trans (hB.mono HB64.out.size)); clear hB) | (have HBz := Aside0.mk (HB63.out.trans (hB.mono HB63.out.size)); clear hB) | (have HBz := Aside0.mk (HB62.out.trans (hB.mono HB62.out.size)); clear hB) | (have HBz := Aside0.mk (HB61.out.trans (hB.mono HB61.out.size)); clear hB)))
                      go_ret
                      exact ⟨rfl, HB6.out.trans (HBz.out.mono HB6.out.size)⟩
                  · have bd : (md != 0) = true := by simpa using ed
                    go_wp2_with (first | (go_at_call 13; (with_reducible refine (HMX.out _ (Below.refl _ _)).mono ?_); rintro e_ w61 ⟨rfl, hB⟩; have HB61 := Aside0.mk (hB); clear hB; have HO61 := Aside0.mk ((HB61.out.block _ (blk_lt HO6.out)).trans HO6.out); have qO610 := (blk_cell HO61.out 0).trans rfl; have qO611 := (blk_cell HO61.out 1).trans rfl; have qO612 := (blk_cell HO61.out 2).trans rfl) | (go_at_call 13; (with_reducible refine (HMO.out _ HB61.out).mono ?_); rintro e_ w62 ⟨rfl, hB⟩; have HB62 := Aside0.mk (HB61.out.trans (hB.mono HB61.out.size)); clear hB; have HD62 := Aside0.mk ((HB62.out.block _ (blk_lt HD6.out)).trans HD6.out); have qD620 := (blk_cell HD62.out 0).trans rfl; have qD621 := (blk_cell HD62.out 1).trans rfl; have qD622 := (blk_cell HD62.out 2).trans rfl) | (go_at_call 13; (with_reducible refine (HMD.out _ HB62.out).mono ?_); rintro e_ w63 ⟨rfl, hB⟩; have HB63 := Aside0.mk (HB62.out.trans (hB.mono HB62.out.size)); clear hB; have HL63 := Aside0.mk ((HB63.out.block _ (blk_lt HL6.out)).trans HL6.out); have qL630 := (blk_cell HL63.out 0).trans rfl; have qL631 := (blk_cell HL63.out 1).trans rfl) | (go_at_call 14; (with_reducible refine (HMW.out _ HB63.out).mono ?_); rintro e_ w64 ⟨rfl, hB⟩; have HB64 := Aside0.mk (HB63.out.trans (hB.mono HB63.out.size)); clear hB; have HL64 := Aside0.mk ((HB64.out.block _ (blk_lt HL6.out)).trans HL6.out); have qL640 := (blk_cell HL64.out 0).trans rfl; have qL641 := (blk_cell HL64.out 1).trans rfl; have HU64 := Aside0.mk ((HB64.out.block _ (blk_lt HU6.out)).trans HU6.out); have qU640 := (blk_cell HU64.out 0).trans rfl; have qU641 := (blk_cell HU64.out 1).trans rfl; have qU642 := (blk_cell HU64.out 2).trans rfl; have HR64 := Aside0.mk ((HB64.out.block _ (blk_lt HR6.out)).trans HR6.out); have qR640 := (blk_cell HR64.out 0).trans rfl; have qR641 := (blk_cell HR64.out 1).trans rfl; have qR642 := (blk_cell HR64.out 2).trans rfl; have HX64 := Aside0.mk ((HB64.out.block _ (blk_lt HX6.out)).trans HX6.out); have qX640 := (blk_cell HX64.out 0).trans rfl; have qX641 := (blk_cell HX64.out 1).trans rfl; have qX642 := (blk_cell HX64.out 2).trans rfl; have HD64 := Aside0.mk ((HB64.out.block _ (blk_lt HD6.out)).trans HD6.out); have qD640 := (blk_cell HD64.out 0).trans rfl; have qD641 := (blk_cell HD64.out 1).trans rfl; have qD642 := (blk_cell HD64.out 2).trans rfl; have HO64 := Aside0.mk ((HB64.out.block _ (blk_lt HO6.out)).trans HO6.out); have qO640 := (blk_cell HO64.out 0).trans rfl; have qO641 := (blk_cell HO64.out 1).trans rfl; have qO642 := (blk_cell HO64.out 2).trans rfl) | (go_at_call 11; refine (awake_calls _).mono ?_; rintro e_ w9 ⟨rfl, hB⟩; first | (have HBz := Aside0.mk (HB64.out.trans (hB.mono HB64.out.size)); clear hB) | (have HBz := Aside0.mk (HB63.out.trans (hB.mono HB63.out.size)); clear hB) | (have HBz := Aside0.mk (HB62.out.trans (hB.mono HB62.out.size)); clear hB) | (have HBz := Aside0.mk (HB61.out.trans (hB.mono HB61.out.size)); clear hB)))
                    go_ret
                    exact ⟨rfl, HB6.out.trans (HBz.out.mono HB6.out.size)⟩
                · have bo : (mo != 0) = true := by simpa using eo
                  go_wp2_with (first | (go_at_call 13; (with_reducible refine (HMX.out _ (Below.refl _ _)).mono ?_); rintro e_ w61 ⟨rfl, hB⟩; have HB61 := Aside0.mk (hB); clear hB; have HO61 := Aside0.mk ((HB61.out.block _ (blk_lt HO6.out)).trans HO6.out); have qO610 := (blk_cell HO61.out 0).trans rfl; have qO611 := (blk_cell HO61.out 1).trans rfl; have qO612 := (blk_cell HO61.out 2).trans rfl) | (go_at_call 13; (with_reducible refine (HMO.out _ HB61.out).mono ?_); rintro e_ w62 ⟨rfl, hB⟩; have HB62 := Aside0.mk (HB61.out.trans (hB.mono HB61.out.size)); clear hB; have HD62 := Aside0.mk ((HB62.out.block _ (blk_lt HD6.out)).trans HD6.out); have qD620 := (blk_cell HD62.out 0).trans rfl; have qD621 := (blk_cell HD62.out 1).trans rfl; have qD622 := (blk_cell HD62.out 2).trans rfl) | (go_at_call 13; (with_reducible refine (HMD.out _ HB62.out).mono ?_); rintro e_ w63 ⟨rfl, hB⟩; have HB63 := Aside0.mk (HB62.out.trans (hB.mono HB62.out.size)); clear hB; have HL63 := Aside0.mk ((HB63.out.block _ (blk_lt HL6.out)).trans HL6.out); have qL630 := (blk_cell HL63.out 0).trans rfl; have qL631 := (blk_cell HL63.out 1).trans rfl) | (go_at_call 14; (with_reducible refine (HMW.out _ HB63.out).mono ?_); rintro e_ w64 ⟨rfl, hB⟩; have HB64 := Aside0.mk (HB63.out.trans (hB.mono HB63.out.size)); clear hB; have HL64 := Aside0.mk ((HB64.out.block _ (blk_lt HL6.out)).trans HL6.out); have qL640 := (blk_cell HL64.out 0).trans rfl; have qL641 := (blk_cell HL64.out 1).trans rfl; have HU64 := Aside0.mk ((HB64.out.block _ (blk_lt HU6.out)).trans HU6.out); have qU640 := (blk_cell HU64.out 0).trans rfl; have qU641 := (blk_cell HU64.out 1).trans rfl; have qU642 := (blk_cell HU64.out 2).trans rfl; have HR64 := Aside0.mk ((HB64.out.block _ (blk_lt HR6.out)).trans HR6.out); have qR640 := (blk_cell HR64.out 0).trans rfl; have qR641 := (blk_cell HR64.out 1).trans rfl; have qR642 := (blk_cell HR64.out 2).trans rfl; have HX64 := Aside0.mk ((HB64.out.block _ (blk_lt HX6.out)).trans HX6.out); have qX640 := (blk_cell HX64.out 0).trans rfl; have qX641 := (blk_cell HX64.out 1).trans rfl; have qX642 := (blk_cell HX64.out 2).trans rfl; have HD64 := Aside0.mk ((HB64.out.block _ (blk_lt HD6.out)).trans HD6.out); have qD640 := (blk_cell HD64.out 0).trans rfl; have qD641 := (blk_cell HD64.out 1).trans rfl; have qD642 := (blk_cell HD64.out 2).trans rfl; have HO64 := Aside0.mk ((HB64.out.block _ (blk_lt HO6.out)).trans HO6.out); have qO640 := (blk_cell HO64.out 0).trans rfl; have qO641 := (blk_cell HO64.out 1).trans rfl; have qO642 := (blk_cell HO64.out 2).trans rfl) | (go_at_call 11; refine (awake_calls _).mono ?_; rintro e_ w9 ⟨rfl, hB⟩; first | (have HBz := Aside0.mk (HB64.out.trans (hB.mono HB64.out.size)); clear hB) | (have HBz := Aside0.mk (HB63.out.trans (hB.mono HB63.out.size)); clear hB) | (have HBz := Aside0.mk (HB62.out.trans (hB.mono HB62.out.size)); clear hB) | (have HBz := Aside0.mk (HB61.out.trans (hB.mono HB61.out.size)); clear hB)))
                  go_ret
                  exact ⟨rfl, HB6.out.trans (HBz.out.mono HB6.out.size)⟩
              · have bx : (mx != 0) = true := by simpa using ex
                go_wp2_with (first | (go_at_call 13; (with_reducible refine (HMX.out _ (Below.refl _ _)).mono ?_); rintro e_ w61 ⟨rfl, hB⟩; have HB61 := Aside0.mk (hB); clear hB; have HO61 := Aside0.mk ((HB61.out.block _ (blk_lt HO6.out)).trans HO6.out); have qO610 := (blk_cell HO61.out 0).trans rfl; have qO611 := (blk_cell HO61.out 1).trans rfl; have qO612 := (blk_cell HO61.out 2).trans rfl) | (go_at_call 13; (with_reducible refine (HMO.out _ HB61.out).mono ?_); rintro e_ w62 ⟨rfl, hB⟩; have HB62 := Aside0.mk (HB61.out.trans (hB.mono HB61.out.size)); clear hB; have HD62 := Aside0.mk ((HB62.out.block _ (blk_lt HD6.out)).trans HD6.out); have qD620 := (blk_cell HD62.out 0).trans rfl; have qD621 := (blk_cell HD62.out 1).trans rfl; have qD622 := (blk_cell HD62.out 2).trans rfl) | (go_at_call 13; (with_reducible refine (HMD.out _ HB62.out).mono ?_); rintro e_ w63 ⟨rfl, hB⟩; have HB63 := Aside0.mk (HB62.out.trans (hB.mono HB62.out.size)); clear hB; have HL63 := Aside0.mk ((HB63.out.block _ (blk_lt HL6.out)).trans HL6.out); have qL630 := (blk_cell HL63.out 0).trans rfl; have qL631 := (blk_cell HL63.out 1).trans rfl) | (go_at_call 14; (with_reducible refine (HMW.out _ HB63.out).mono ?_); rintro e_ w64 ⟨rfl, hB⟩; have HB64 := Aside0.mk (HB63.out.trans (hB.mono HB63.out.size)); clear hB; have HL64 := Aside0.mk ((HB64.out.block _ (blk_lt HL6.out)).trans HL6.out); have qL640 := (blk_cell HL64.out 0).trans rfl; have qL641 := (blk_cell HL64.out 1).trans rfl; have HU64 := Aside0.mk ((HB64.out.block _ (blk_lt HU6.out)).trans HU6.out); have qU640 := (blk_cell HU64.out 0).trans rfl; have qU641 := (blk_cell HU64.out 1).trans rfl; have qU642 := (blk_cell HU64.out 2).trans rfl; have HR64 := Aside0.mk ((HB64.out.block _ (blk_lt HR6.out)).trans HR6.out); have qR640 := (blk_cell HR64.out 0).trans rfl; have qR641 := (blk_cell HR64.out 1).trans rfl; have qR642 := (blk_cell HR64.out 2).trans rfl; have HX64 := Aside0.mk ((HB64.out.block _ (blk_lt HX6.out)).trans HX6.out); have qX640 := (blk_cell HX64.out 0).trans rfl; have qX641 := (blk_cell HX64.out 1).trans rfl; have qX642 := (blk_cell HX64.out 2).trans rfl; have HD64 := Aside0.mk ((HB64.out.block _ (blk_lt HD6.out)).trans HD6.out); have qD640 := (blk_cell HD64.out 0).trans rfl; have qD641 := (blk_cell HD64.out 1).trans rfl; have qD642 := (blk_cell HD64.out 2).trans rfl; have HO64 := Aside0.mk ((HB64.out.block _ (blk_lt HO6.out)).trans HO6.out); have qO640 := (blk_cell HO64.out 0).trans rfl; have qO641 := (blk_cell HO64.out 1).trans rfl; have qO642 := (blk_cell HO64.out 2).trans rfl) | (go_at_call 11; refine (awake_calls _).mono ?_; rintro e_ w9 ⟨rfl, hB⟩; first | (have HBz := Aside0.mk (HB64.out.trans (hB.mono HB64.out.size)); clear hB) | (have HBz := Aside0.mk (HB63.out.trans (hB.mono HB63.out.size)); clear hB) | (have HBz := Aside0.mk (HB62.out.trans (hB.mono HB62.out.size)); clear hB) | (have HBz := Aside0.mk (HB61.out.trans (hB.mono HB61.out.size)); clear hB)))
                go_ret
                exact ⟨rfl, HB6.out.trans (HBz.out.mono HB6.out.size)⟩
def parrylaw22_FormulaSteps.f (a0_0 : Int) (a0_1 : Int) (l0_2 : List S24) (a1_0 : Int) (a1_1 : Int) (l1_2 : List S24) (l2_0 : List Int) (l2_1 : List Int) : Option Bool := some true
theorem parrylaw22_FormulaSteps.calls (a0_0 : Int) (a0_1 : Int) (A0_2 : Option Addr) (c0_2 : Nat) (l0_2 : List S24) (a1_0 : Int) (a1_1 : Int) (A1_2 : Option Addr) (c1_2 : Nat) (l1_2 : List S24) (A2_0 : Option Addr) (c2_0 : Nat) (l2_0 : List Int) (A2_1 : Option Addr) (c2_1 : Nat) (l2_1 : List Int) (r : Bool) (w : World) (hr0_2 : Kd.C k24 w A0_2 l0_2.length l0_2) (hc0_2 : l0_2.length ≤ c0_2) (hr1_2 : Kd.C k24 w A1_2 l1_2.length l1_2) (hc1_2 : l1_2.length ≤ c1_2) (hr2_0 : Kd.C (Kd.int .u32) w A2_0 l2_0.length l2_0) (hc2_0 : l2_0.length ≤ c2_0) (hr2_1 : Kd.C (Kd.int .u32) w A2_1 l2_1.length l2_1) (hc2_1 : l2_1.length ≤ c2_1) (h : parrylaw22_FormulaSteps.f a0_0 a0_1 l0_2 a1_0 a1_1 l1_2 l2_0 l2_1 = some r) (hrt : r = true) :
    Calls Tryd.prog 3 #[.agg #[.int .i64 a0_0, .int .i64 a0_1, .slice A0_2 l0_2.length c0_2], .agg #[.int .i64 a1_0, .int .i64 a1_1, .slice A1_2 l1_2.length c1_2], .agg #[.slice A2_0 l2_0.length c2_0, .slice A2_1 l2_1.length c2_1]] w fun e w' => e = .returned (.bool r) ∧ Below w.heap.size w w' := by
  subst hrt
  exact steps_calls ⟨a0_0, a0_1, l0_2⟩ ⟨a1_0, a1_1, l1_2⟩ l2_0 l2_1 A0_2 A1_2 A2_0 A2_1 c0_2 c1_2 c2_0 c2_1 w hr0_2 hc0_2 hr1_2 hc1_2 hr2_0 hc2_0 hr2_1 hc2_1
end Go.Proofs.YtjjnokodkeekhaaDoor.X

namespace Go.Proofs.YtjjnokodkeekhaaDoor.Op
open Go.RowKit Go.Proofs.YtjjnokodkeekhaaDoorW.PrintWords
set_option linter.unusedVariables false
set_option linter.unusedSimpArgs false

def Opens (N : Nat) (P : Program) (T : TypeId) {α : Type} (d : Kd α) (G : α → Prop) : Prop :=
  ∀ (H : Type) (enc : TypeId × Value → H) (W : World) (base : Nat) (spare : Nat → Bool) (held : Bool) (fuel : Nat) (cs : List Value) (x : DataW H × List MemPlace),
    fuel ≤ N → DataW.trod enc P W base spare held fuel T cs = some x → (∀ n ∈ x.1.weights P T, n ≤ reachBytes) → ∃ y, d.K W y cs ∧ G y

theorem Opens.mono {N M : Nat} {P : Program} {T : TypeId} {α : Type} {d : Kd α} {G : α → Prop} (h : Opens N P T d G) (hm : M ≤ N) : Opens M P T d G :=
  fun H enc W base spare held fuel cs x hf => h H enc W base spare held fuel cs x (Nat.le_trans hf hm)

theorem opens_int {N : Nat} {P : Program} {T : TypeId} {k : IntKind} (ht : P.underlying T = some (.int k)) : Opens N P T (Kd.int k) (fun n => (Lit.int k n).wf = true) := by
  intro H enc W base spare held fuel cs x _ h _
  obtain ⟨n, rfl, _, hw⟩ := DataW.trod_int ht h
  exact ⟨n, rfl, hw⟩
theorem weightsAll_mem {H : Type} {P : Program} {e : TypeId} : ∀ {l : List (DataW H)} {i : Nat} {d : DataW H}, l[i]? = some d → ∀ n ∈ d.weights P e, n ∈ DataW.weightsAll P e l
  | [], i, d, h => by simp at h
  | a :: r, 0, d, h => fun n hn => by
    simp at h
    subst h
    simp only [DataW.weightsAll, List.mem_append]
    exact .inl hn
  | a :: r, i + 1, d, h => fun n hn => by
    simp only [DataW.weightsAll, List.mem_append]
    exact .inr (weightsAll_mem (by simpa using h) n hn)
theorem choose_list {α : Type} {p : Nat → α → Prop} : ∀ n, (∀ i, i < n → ∃ x, p i x) → ∃ l : List α, l.length = n ∧ ∀ i x, l[i]? = some x → p i x
  | 0, _ => ⟨[], rfl, fun i x h => by simp at h⟩
  | n + 1, h => by
    obtain ⟨l, hl, hp⟩ := choose_list n (fun i hi => h i (by omega))
    obtain ⟨x, hx⟩ := h n (by omega)
    refine ⟨l ++ [x], by simp [hl], fun i y hy => ?_⟩
    rcases Nat.lt_or_ge i l.length with hi | hi
    · rw [List.getElem?_append_left hi] at hy
      exact hp i y hy
    · rw [List.getElem?_append_right hi] at hy
      have hi0 : i - l.length = 0 := by
        rcases Nat.eq_zero_or_pos (i - l.length) with h0 | h0
        · exact h0
        · rw [List.getElem?_eq_none (by simp; omega)] at hy
          cases hy
      rw [hi0] at hy
      simp at hy
      subst hy
      rw [show i = n by omega]
      exact hx
theorem opens_slice {N : Nat} {P : Program} {T e : TypeId} {α : Type} {d : Kd α} {G : α → Prop} (ht : P.underlying T = some (.slice e)) (hsz : P.cellsOf e = d.sz) (hd : Opens N P e d G) :
    Opens (N + 1) P T (Kd.slice e d) (fun xs => (∀ x ∈ xs, G x) ∧ xs.length * P.bytesOf e ≤ reachBytes) := by
  intro H enc W base spare held fuel cs x hN h hw
  rcases DataW.trod_slice ht h with ⟨rfl, rfl⟩ | ⟨a, len, cap, elems, rest, n, rfl, rfl, rfl, hb, hl, hm, hlen, hel, _, _⟩
  · exact ⟨[], ⟨none, 0, rfl, by simp, ⟨rfl, by simp, fun h => absurd h (Nat.lt_irrefl 0)⟩⟩, fun x hx => by simp at hx, by simp⟩
  · have hw2 : ∀ m ∈ (DataW.slice (elems.map (·.1)) (rest.map (·.1)) : DataW H).weights P T, m ≤ reachBytes := hw
    simp only [DataW.weights, ht, List.mem_cons, List.mem_append] at hw2
    have one : ∀ i, i < len → ∃ y : α, G y ∧ ∃ c : List Value, c.length = d.sz ∧ d.K W y c ∧ ∀ j u, c[j]? = some u → W.cell? (a.add (i * d.sz + j)) = some u := by
      intro i hi
      have hi2 := hel i hi
      rw [List.getElem?_eq_getElem (by omega)] at hi2
      obtain ⟨c, h1, h2⟩ := Option.bind_eq_some_iff.1 hi2
      obtain ⟨y, hK, hG⟩ := hd H enc W base spare held n c _ (by omega) h2 (fun m hm2 => hw2 m (.inr (.inl (weightsAll_mem (i := i) (by simp [List.getElem?_eq_getElem (show i < elems.length by omega)]) m hm2))))
      obtain ⟨_, h3, h4⟩ := World.cells?_some h1
      refine ⟨y, hG, c, by rw [h3, hsz], hK, fun j u hu => ?_⟩
      have hj : j < c.length := (List.getElem?_eq_some_iff.1 hu).1
      have h5 := h4 j (by omega)
      rw [hu] at h5
      have e1 : (a.add (i * P.cellsOf e)).add j = a.add (i * d.sz + j) := by
        rw [hsz]
        unfold Addr.add
        by_cases hi0 : i * d.sz = 0 <;> by_cases hj0 : j = 0 <;> simp [hi0, hj0, Nat.add_assoc]
      rw [← e1]
      exact h5
    obtain ⟨l, hl2, hp⟩ := choose_list len one
    refine ⟨l, ⟨some a, cap, by rw [hl2], by omega, ⟨rfl, by unfold maxLen at hm; omega, fun _ => ⟨a, rfl, fun j p hj => (hp j p hj).2⟩⟩⟩, fun x hx => ?_, ?_⟩
    · obtain ⟨i, hi⟩ := List.getElem?_of_mem hx
      exact (hp i x hi).1
    · have h6 := hw2 _ (.inl rfl)
      simp only [List.length_map] at h6
      rw [hl2]
      exact Nat.le_trans (Nat.mul_le_mul_right _ (by omega)) h6

/-- Fields that lie side by side from cell o on, n cells in all. -/
def OpensF (N : Nat) (P : Program) (fs : List Field) (o n : Nat) {α : Type} (d : Kd α) (G : α → Prop) : Prop :=
  ∀ (H : Type) (enc : TypeId × Value → H) (W : World) (base : Nat) (spare : Nat → Bool) (held : Bool) (fuel : Nat) (cs : List Value) (xs : List (DataW H × List MemPlace)),
    fuel ≤ N → xs.length = fs.length → (∀ (i : Nat) (f : Field), fs[i]? = some f → DataW.trod enc P W base spare held fuel f.type ((cs.drop f.offset).take (P.cellsOf f.type)) = xs[i]?) →
    (∀ m ∈ DataW.weightsEach P (fs.map (·.type)) (xs.map (·.1)), m ≤ reachBytes) → ∃ y, d.K W y ((cs.drop o).take n) ∧ G y
theorem opensF_one {N : Nat} {P : Program} {f : Field} {o n : Nat} {α : Type} {d : Kd α} {G : α → Prop} (ho : f.offset = o) (hn : P.cellsOf f.type = n) (h : Opens N P f.type d G) : OpensF N P [f] o n d G := by
  intro H enc W base spare held fuel cs xs hN hl hx hw
  obtain ⟨x, rfl⟩ : ∃ x, xs = [x] := by
    match xs, hl with
    | [x], _ => exact ⟨x, rfl⟩
  have h1 := hx 0 f rfl
  rw [ho, hn] at h1
  exact h H enc W base spare held fuel _ x hN h1 (fun m hm => hw m (by simpa [DataW.weightsEach] using hm))
theorem opensF_cons {N : Nat} {P : Program} {f : Field} {fs : List Field} {o a n : Nat} {α β : Type} {d : Kd α} {d' : Kd β} {G : α → Prop} {G' : β → Prop} (ho : f.offset = o) (ha : P.cellsOf f.type = a) (h : Opens N P f.type d G) (hr : OpensF N P fs (o + a) n d' G') :
    OpensF N P (f :: fs) o (a + n) (Kd.pair d d') (fun y => G y.1 ∧ G' y.2) := by
  intro H enc W base spare held fuel cs xs hN hl hx hw
  match xs, hl with
  | x :: xs, hl =>
    have h1 := hx 0 f rfl
    rw [ho, ha] at h1
    simp only [List.map_cons, DataW.weightsEach, List.mem_append] at hw
    obtain ⟨y, hy, gy⟩ := h H enc W base spare held fuel _ x hN h1 (fun m hm => hw m (.inl hm))
    obtain ⟨z, hz, gz⟩ := hr H enc W base spare held fuel cs xs hN (by simpa using hl) (fun i g hg => by simpa using hx (i + 1) g (by simpa using hg)) (fun m hm => hw m (.inr hm))
    refine ⟨(y, z), ⟨_, _, ?_, hy, hz⟩, gy, gz⟩
    rw [List.take_add, List.drop_drop]
theorem opens_struct {N : Nat} {P : Program} {T : TypeId} {fs : List Field} {n : Nat} {α β : Type} {d : Kd α} {G : α → Prop} (ht : P.underlying T = some (.struct fs.toArray)) (hn : P.cellsOf T = n) (f : β → α) (g : α → β) (hg : ∀ y, f (g y) = y)
    (h : OpensF N P fs 0 n d G) : Opens (N + 1) P T (Kd.iso d f) (fun y => G (f y)) := by
  intro H enc W base spare held fuel cs x hN hx hw
  obtain ⟨xs, m, rfl, rfl, hl, hlx, hf⟩ := DataW.trod_struct ht hx
  obtain ⟨y, hy, gy⟩ := h H enc W base spare held m cs xs (by omega) (by simpa using hlx) (fun i f0 hi => hf i f0 (by simpa using hi)) (fun k hk => hw k (by
    simp only [DataW.weights, ht]
    exact hk))
  refine ⟨g y, ?_, ?_⟩
  · show d.K W (f (g y)) cs
    rw [hg]
    rw [← hn, ← hl, List.drop_zero, List.take_length] at hy
    exact hy
  · show G (f (g y))
    rw [hg]
    exact gy
theorem Opens.imp {N : Nat} {P : Program} {T : TypeId} {α : Type} {d : Kd α} {G G' : α → Prop} (h : Opens N P T d G) (hi : ∀ y, G y → G' y) : Opens N P T d G' := by
  intro H enc W base spare held fuel cs x hN hx hw
  obtain ⟨y, hy, gy⟩ := h H enc W base spare held fuel cs x hN hx hw
  exact ⟨y, hy, hi y gy⟩
theorem opens_upto {P : Program} {T : TypeId} {α : Type} {F : Kd α → Kd α} {sz : Nat} {E : List Nat} {G : α → Prop} (step : ∀ N (d : Kd α), d.sz = sz → Opens N P T d G → Opens (N + 1) P T (F d) G) (hs : ∀ n, (Kd.upto F sz E n).sz = sz) : ∀ N, Opens N P T (Kd.upto F sz E N) G
  | 0 => fun H enc W base spare held fuel cs x hN h _ => by
    obtain rfl : fuel = 0 := by omega
    simp [DataW.trod] at h
  | N + 1 => step N _ (hs N) (opens_upto step hs N)
theorem opens_fix {P : Program} {T : TypeId} {α : Type} {F : Kd α → Kd α} {sz : Nat} {E : List Nat} {G : α → Prop} {hs : ∀ n, (Kd.upto F sz E n).sz = sz} {hE : ∀ n q, q ∈ (Kd.upto F sz E n).E → q ∈ E} (step : ∀ N (d : Kd α), d.sz = sz → Opens N P T d G → Opens (N + 1) P T (F d) G) (N : Nat) : Opens N P T (Kd.fix F sz E hs hE) G := by
  intro H enc W base spare held fuel cs x hN hx hw
  obtain ⟨y, hy, gy⟩ := opens_upto step hs N H enc W base spare held fuel cs x hN hx hw
  exact ⟨y, ⟨N, hy⟩, gy⟩
theorem bytes_le {a b n r : Nat} (e : a = b) (h : n * a ≤ r) : n * b ≤ r := e ▸ h
/-- An argument. -/
theorem opened {P : Program} {T : TypeId} {α : Type} {d : Kd α} {G : α → Prop} (h : ∀ N, Opens N P T d G) {H : Type} {enc : TypeId × Value → H} {W : World} {base : Nat} {spare : Nat → Bool} {held : Bool} {v : Value} {x : DataW H} {p : List MemPlace} (ht : DataW.Trod enc P W base spare held T v x p)
    {ts : List TypeId} {ds : List (DataW H)} {j : Nat} (hz : (DataW.weightsEach P ts ds).all (· ≤ reachBytes) = true) (hj : ts[j]? = some T) (hd : ds[j]? = some x) : ∃ y, d.K W y v.cells.toList ∧ G y := by
  obtain ⟨fuel, hf⟩ := ht
  exact h fuel H enc W base spare held fuel _ _ (Nat.le_refl _) hf (fun n hn => by
    have := List.all_eq_true.1 hz n (DataW.weights_mem_each hj hd n hn)
    simpa using this)
end Go.Proofs.YtjjnokodkeekhaaDoor.Op

namespace Go.Proofs.YtjjnokodkeekhaaDoor.Ki
open Go.RowKit Go.Proofs.YtjjnokodkeekhaaDoorW.PrintWords Go.Proofs.YtjjnokodkeekhaaDoor.Op Go.Proofs.YtjjnokodkeekhaaDoor.P
set_option linter.unusedVariables false
inductive G24 : S24 → Prop
  | mk (s : S24) : (Lit.int .i64 s.f0).wf = true → (Lit.int .i64 s.f1).wf = true → (∀ x ∈ s.f2, G24 x) → s.f2.length * 40 ≤ reachBytes → G24 s
theorem op24 (N : Nat) : Opens N Tryd.prog 24 k24 G24 := by
  refine opens_fix (fun N d hz hd => ?_) N
  refine (opens_struct Tryd.underlying24 (n := 3) (by kernel_rfl) _ (fun y : Int × Int × (List (S24)) => (⟨y.1, y.2.1, y.2.2⟩ : S24)) (fun _ => rfl) (opensF_cons (a := 1) (n := 2) rfl (by kernel_rfl) (opens_int Tryd.underlying3) (opensF_cons (a := 1) (n := 1) rfl (by kernel_rfl) (opens_int Tryd.underlying3) (opensF_one (n := 1) rfl (by kernel_rfl) ((opens_slice Tryd.underlying22 (hz ▸ by kernel_rfl) hd).mono (Nat.le_succ N)))))).imp (fun s h => ?_)
  exact G24.mk s (h.1) (h.2.1) (h.2.2.1) (bytes_le (by kernel_rfl : Tryd.prog.bytesOf 24 = 40) h.2.2.2)
def G25 (l : List (Int)) : Prop := (∀ x ∈ l, (Lit.int .u32 x).wf = true) ∧ l.length * 4 ≤ reachBytes
theorem op25 (N : Nat) : Opens N Tryd.prog 25 (Kd.slice 49 (Kd.int .u32)) G25 := ((opens_slice Tryd.underlying25 (by kernel_rfl) (opens_int Tryd.underlying49)).imp (fun l h => ⟨h.1, bytes_le (by kernel_rfl : Tryd.prog.bytesOf 49 = 4) h.2⟩)).mono (Nat.le_succ N)
def G27 (s : S27) : Prop := G25 s.f0 ∧ G25 s.f1
theorem op27 (N : Nat) : Opens N Tryd.prog 27 k27 G27 := by
  refine Opens.mono (N := N + 1) ?_ (Nat.le_succ N)
  unfold k27
  have h0 := opens_struct (N := N) Tryd.underlying27 (n := 2) (by kernel_rfl) (fun x : S27 => (x.f0, x.f1)) (fun y : (List (Int)) × (List (Int)) => (⟨y.1, y.2⟩ : S27)) (fun _ => rfl) (opensF_cons (a := 1) (n := 1) rfl (by kernel_rfl) (op25 _) (opensF_one (n := 1) rfl (by kernel_rfl) (op25 _)))
  exact Opens.imp h0 (fun s h => h)
end Go.Proofs.YtjjnokodkeekhaaDoor.Ki

namespace Go.Proofs.YtjjnokodkeekhaaDoor.Pu
open Go.RowKit Go.Proofs.YtjjnokodkeekhaaDoorW.PrintWords Go.Proofs.YtjjnokodkeekhaaDoorW.PrintMore
open Go.Proofs.YtjjnokodkeekhaaDoor.P Go.Proofs.YtjjnokodkeekhaaDoor.Evx Go.Proofs.YtjjnokodkeekhaaDoor.X Go.Proofs.YtjjnokodkeekhaaDoor.Ki
set_option linter.unusedVariables false
theorem FormulaSteps_pure (s0 : S24) (g0 : G24 s0) (s1 : S24) (g1 : G24 s1) (s2 : S27) (g2 : G27 s2) : parrylaw22_FormulaSteps.f s0.f0 s0.f1 s0.f2 s1.f0 s1.f1 s1.f2 s2.f0 s2.f1 = some true := rfl
end Go.Proofs.YtjjnokodkeekhaaDoor.Pu

