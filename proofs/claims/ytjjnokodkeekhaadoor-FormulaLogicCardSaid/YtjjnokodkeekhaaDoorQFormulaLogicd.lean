/- A part of the claim FormulaLogic. -/
import Derived.ChangeArms
import Derived.SizedLaws
import Derived.WideShapes
import Derived.Test.YtjjnokodkeekhaaDoorQFormulaLogica
import Derived.Test.YtjjnokodkeekhaaDoorQFormulaLogicb
import Derived.Test.YtjjnokodkeekhaaDoorQFormulaLogicc
namespace Go.Proofs.YtjjnokodkeekhaaDoor.X
open Go.RowKit Go.Proofs.YtjjnokodkeekhaaDoorW.PrintWords Go.Proofs.YtjjnokodkeekhaaDoorW.PrintMore
open Go.Proofs.YtjjnokodkeekhaaDoor.P Go.Proofs.YtjjnokodkeekhaaDoor.Evx
set_option linter.unusedVariables false
set_option linter.unusedSimpArgs false
theorem eta_f (s : S24) : (⟨s.f0, s.f1, s.f2⟩ : S24) = s := by cases s; rfl
theorem may_some (s : S24) : formula_May.f s.f0 s.f1 s.f2 = some (mayF s) := by cases s; rfl
theorem copied_l (kids : List S24) (op m : Int) (hl : kids.length ≤ 60) (ih : ∀ k ∈ kids, Ev (fun n => formula_copied.f n k.f0 k.f1 k.f2) (k.f0, k.f1, k.f2)) :
    ∀ (d j : Nat) (acc : List S24), j + d = kids.length → acc = kids.take j → Ev (fun n => formula_copied.l0 n kids (kids.length : Int) j op m acc) (op, m, kids)
  | 0, j, acc, hj, ha => by
    refine ev_step (fun k => rfl) (ev_neg (by omega) ?_)
    refine ev_eq (ev_some _) ?_
    rw [ha, List.take_of_length_le (by omega)]
  | d + 1, j, acc, hj, ha => by
    have hlt : j < kids.length := by omega
    refine ev_step (fun k => rfl) (ev_pos (by omega) (ev_pos (by omega) (ev_pos (by omega) ?_)))
    rw [rdT_nat kids j hlt]
    refine ev_bind (ih _ (List.getElem_mem hlt)) ?_
    refine ev_pos (by rw [ha, List.length_take]; omega) ?_
    rw [w64 (by omega) (by omega)]
    have := copied_l kids op m hl ih d (j + 1) (acc ++ [⟨(kids[j]'hlt).f0, (kids[j]'hlt).f1, (kids[j]'hlt).f2⟩]) (by omega) (by rw [ha, List.take_succ_eq_append_getElem hlt, eta_f])
    exact_mod_cast this
mutual
theorem copied_ev : ∀ s : S24, soundS s = true → Ev (fun n => formula_copied.f n s.f0 s.f1 s.f2) (s.f0, s.f1, s.f2)
  | ⟨op, m, kids⟩, h => by
    refine ev_step (fun k => rfl) ?_
    exact copied_l kids op m (by have := sound_len h; simp only at this; omega) (copied_evL kids (sound_kids_all h)) kids.length 0 [] (by omega) rfl
theorem copied_evL : ∀ l : List S24, soundL l = true → ∀ k ∈ l, Ev (fun n => formula_copied.f n k.f0 k.f1 k.f2) (k.f0, k.f1, k.f2)
  | [], _, k, hk => by cases hk
  | a :: r, h, k, hk => by
    simp only [soundL, Bool.and_eq_true] at h
    rcases List.mem_cons.1 hk with e | e
    · rw [e]; exact copied_ev a h.1
    · exact copied_evL r h.2 k e
end
theorem times_l (kids : List S24) (T : List S24) (hT : T.length ≤ 1000) (hb : kids.length ≤ 60) (ih : ∀ k ∈ kids, Ev (fun n => formula_times.f n k.f0 k.f1 k.f2) (timesS k)) :
    ∀ (d j : Nat) (acc : List S24), j + d = kids.length → acc ++ timesL (kids.drop j) = T → Ev (fun n => formula_times.l0 n acc kids (kids.length : Int) j) T
  | 0, j, acc, hj, ha => by
    refine ev_step (fun k => rfl) (ev_neg (by omega) ?_)
    refine ev_eq (ev_some _) ?_
    rw [← ha, List.drop_eq_nil_of_le (by omega), timesL, List.append_nil]
  | d + 1, j, acc, hj, ha => by
    have hlt : j < kids.length := by omega
    have hd := List.drop_eq_getElem_cons hlt
    rw [hd, timesL, ← List.append_assoc] at ha
    refine ev_step (fun k => rfl) (ev_pos (by omega) (ev_pos (by omega) (ev_pos (by omega) ?_)))
    rw [rdT_nat kids j hlt]
    refine ev_bind (ih _ (List.getElem_mem hlt)) ?_
    refine ev_pos (by rw [← ha] at hT; simp only [List.length_append] at hT; omega) ?_
    rw [w64 (by omega) (by omega)]
    have := times_l kids T hT hb ih d (j + 1) (acc ++ timesS (kids[j]'hlt)) (by omega) ha
    exact_mod_cast this
mutual
theorem times_ev : ∀ s : S24, soundS s = true → tnS s ≤ 1000 → Ev (fun n => formula_times.f n s.f0 s.f1 s.f2) (timesS s)
  | ⟨op, m, kids⟩, h, ht => by
    have hk : kids.length ≤ 60 := by have := sound_len h; simp only at this; omega
    have hL : (timesS (⟨op, m, kids⟩ : S24)).length ≤ 1000 := by rw [len_times]; exact ht
    have h0 : ∀ (acc : List S24) (x y : Int), acc = (if timedS op = true then [(⟨op, m, kids⟩ : S24)] else []) → Ev (fun n => formula_times.j0 n acc x y kids) (timesS (⟨op, m, kids⟩ : S24)) := by
      intro acc x y ha
      refine ev_step (fun k => rfl) ?_
      exact times_l kids _ hL hk (times_evL kids (sound_kids_all h) (by simp only [tnS] at ht; omega)) kids.length 0 acc (by omega) (by rw [ha, timesS]; rfl)
    refine ev_step (fun k => rfl) ?_
    refine ev_bindv (timed_some op) (ev_bool (fun c => ?_) (fun c => ?_))
    · refine ev_bind (copied_ev _ h) (ev_pos (by simp) ?_)
      exact h0 _ _ _ (by rw [if_pos c]; rfl)
    · exact h0 _ _ _ (by rw [if_neg (by rw [c]; simp)])
theorem times_evL : ∀ l : List S24, soundL l = true → tnL l ≤ 1000 → ∀ k ∈ l, Ev (fun n => formula_times.f n k.f0 k.f1 k.f2) (timesS k)
  | [], _, _, k, hk => by cases hk
  | a :: r, h, ht, k, hk => by
    simp only [soundL, Bool.and_eq_true] at h
    simp only [tnL] at ht
    rcases List.mem_cons.1 hk with e | e
    · rw [e]; exact times_ev a h.1 (by omega)
    · exact times_evL r h.2 (by omega) k e
end
def TimesS (s : S24) : List S24 := if mayF s = 0 then timesS s else []
theorem Times_ev (s : S24) : Ev (fun n => formula_Times.f n s.f0 s.f1 s.f2) (TimesS s) := by
  unfold formula_Times.f
  refine ev_bindv (may_some s) (ev_ite (fun c => ?_) (fun c => ?_))
  · have hz := may_zero c
    refine ev_bind (times_ev s hz.2.2.2 (by omega)) (ev_eq (ev_some _) ?_)
    unfold TimesS
    rw [if_pos c]
  · exact ev_eq (ev_some _) (by unfold TimesS; rw [if_neg c])
end Go.Proofs.YtjjnokodkeekhaaDoor.X

namespace Go.Proofs.YtjjnokodkeekhaaDoor.X
open Go.RowKit Go.Proofs.YtjjnokodkeekhaaDoorW.PrintWords Go.Proofs.YtjjnokodkeekhaaDoorW.PrintLast Go.Proofs.YtjjnokodkeekhaaDoorW.PrintMore
open Go.Proofs.YtjjnokodkeekhaaDoor.P Go.Proofs.YtjjnokodkeekhaaDoor.Evx
set_option linter.unusedSimpArgs false
set_option linter.unusedVariables false
def holdsF (s : S24) (st lp : List Int) : Bool := decide (0 < (rowF s st lp).length) && (rowF s st lp).getD 0 false
theorem holds_some (s : S24) (st lp : List Int) : formula_Holds.f s.f0 s.f1 s.f2 st lp = some (holdsF s st lp) := by
  unfold formula_Holds.f formula_Row.f holdsF
  cases s
  simp only [Option.bind_some]
  generalize rowF _ st lp = l
  cases l with
  | nil => rfl
  | cons a r => cases a <;> simp [rdOf]
def TextS (s : S24) : ByteArray := if mayF s = 0 then textB s else ByteArray.empty
theorem Text_some (s : S24) : formula_Text.f s.f0 s.f1 s.f2 = some (TextS s) := by
  unfold formula_Text.f TextS
  rw [may_some]
  simp only [Option.bind_some]
  by_cases h : mayF s = 0
  · have hz := may_zero h
    rw [if_pos h, if_pos h]
    unfold formula_text.f
    rw [if_pos ⟨by cases s; exact hz.2.2.2, by cases s; exact hz.1⟩]
    cases s; rfl
  · rw [if_neg h, if_neg h]; rfl
def atomS (n : Int) : S24 := ⟨2, n, []⟩
def F0 : S24 := ⟨7, 0, [atomS 0, atomS 1]⟩
set_option maxHeartbeats 800000 in
theorem atom_calls (n : Int) (w : World) : Calls Tryd.prog 31 #[.int .i64 n] w fun e w' => e = .returned (.agg #[.int .i64 2, .int .i64 n, .slice none 0 0]) ∧ Below w.heap.size w w' := by
  have huF := Tryd.underlying24
  go_enter Tryd.func31, Tryd.ntmps31
  go_wp2
  exact bodyPost_ret (v := .agg #[.int .i64 2, .int .i64 n, .slice none 0 0]) (by simp [results, Tryd.results31, go_sem]) rfl ⟨rfl, below_alloc (Below.refl _ _) _⟩
set_option maxHeartbeats 800000 in
theorem op_calls (k : Int) (A : Option Addr) (n c : Nat) (w : World) : Calls Tryd.prog 12 #[.int .i64 k, .slice A n c] w fun e w' => e = .returned (.agg #[.int .i64 k, .int .i64 0, .slice A n c]) ∧ Below w.heap.size w w' := by
  have huF := Tryd.underlying24
  go_enter Tryd.func12, Tryd.ntmps12
  go_wp2
  exact bodyPost_ret (v := .agg #[.int .i64 k, .int .i64 0, .slice A n c]) (by simp [results, Tryd.results12, go_sem]) rfl ⟨rfl, below_alloc (Below.refl _ _) _⟩
theorem holds_1 : holdsF F0 [1, 1] [2] = true := by decide +kernel
theorem holds_2 : holdsF F0 [] [1] = false := by decide +kernel
theorem text_1 : TextS F0 = ⟨#[40, 97, 48, 32, 117, 110, 116, 105, 108, 32, 97, 49, 41]⟩ := by decide +kernel
theorem times_1 : TimesS F0 = [F0] := by
  unfold TimesS
  rw [if_pos (by decide +kernel)]
  rfl
/-- Two formulas in a block. -/
theorem C_two {w : World} {g : Nat} {a b : S24} (ha : a.f2 = []) (hb : b.f2 = []) (h : w.heap[g]? = some (.cells #[.int .i64 a.f0, .int .i64 a.f1, .slice none 0 0, .int .i64 b.f0, .int .i64 b.f1, .slice none 0 0] 24 (0, 0))) : Kd.C k24 w (some ⟨g, 0, none⟩) 2 [a, b] := by
  have hK : ∀ x : S24, x.f2 = [] → k24.K w x [.int .i64 x.f0, .int .i64 x.f1, .slice none 0 0] := by
    intro x hx
    have := k24_mk w x (A2 := none) (c2 := 0) (by rw [hx]; simp) (by rw [hx]; exact Kd.C_nil _ _)
    rwa [hx] at this
  refine ⟨rfl, by omega, fun _ => ⟨_, rfl, fun j p hj => ?_⟩⟩
  have hs : k24.sz = 3 := rfl
  match j, hj with
  | 0, hj =>
    obtain rfl : a = p := by simpa using hj
    refine ⟨_, rfl, hK a ha, fun i u hu => ?_⟩
    rw [hs, add_at, blk_cell h]
    match i, hu with
    | 0, hu => exact hu
    | 1, hu => exact hu
    | 2, hu => exact hu
  | 1, hj =>
    obtain rfl : b = p := by simpa using hj
    refine ⟨_, rfl, hK b hb, fun i u hu => ?_⟩
    rw [hs, add_at, blk_cell h]
    match i, hu with
    | 0, hu => exact hu
    | 1, hu => exact hu
    | 2, hu => exact hu
theorem C_u32 {w : World} {g : Nat} {l : List Int} {t : TypeId} (h : w.heap[g]? = some (.cells (l.map (Value.int .u32)).toArray t (0, 0))) (hl : 0 < l.length) (hm : l.length < 1000) : Kd.C (Kd.int .u32) w (some ⟨g, 0, none⟩) l.length l := by
  refine Kd.C_of_reads (d := 0) ⟨rfl, by omega, fun _ => ⟨_, rfl, fun j hj => ?_⟩⟩
  rw [add_at, blk_cell h]
  simp [hj]
set_option maxHeartbeats 3200000 in
set_option maxRecDepth 100000 in
theorem awake_calls (w : World) : Calls Tryd.prog 11 #[] w fun e w' => e = .returned (.bool true) ∧ Below w.heap.size w w' := by
  have huF := Tryd.underlying24
  have huW := Tryd.underlying27
  have huL := Tryd.underlying22
  have huu := Tryd.underlying25
  have HBA := Aside0.mk (Below.refl w.heap.size w)
  obtain ⟨k1, hk1⟩ := (Times_ev F0).rounds
  rw [times_1] at hk1
  have HK1 := Aside0.mk hk1
  have HTX := Aside0.mk ((Text_some F0).trans (congrArg some text_1))
  clear hk1
  go_enter Tryd.func11, Tryd.ntmps11
  go_upto_region 2 with (first | (go_at_call 31; refine (atom_calls _ _).mono ?_; rintro e w1 ⟨rfl, hB⟩; have HBn := Aside0.mk (HBA.out.trans (hB.mono HBA.out.size)); clear HBA hB; have HBA := HBn; clear HBn) | (go_at_call 12; refine (op_calls _ _ _ _ _).mono ?_; rintro e w3 ⟨rfl, hB⟩; have HC3 := Aside0.mk (Kd.C_below (C_two (a := atomS 0) (b := atomS 1) rfl rfl (heap_alloc_new _ _)) hB); have HB3 := Aside0.mk (HBA.out.trans (((below_alloc (Below.refl _ _) _).trans (hB.mono (by simp))).mono HBA.out.size)); clear hB))
  obtain ⟨W4, hW4⟩ : ∃ W4, W4 = w3.alloc (.cells #[.int .i64 7, .int .i64 0, .slice (some ⟨w1.heap.size, 0, none⟩) 2 2] 24) := ⟨_, rfl⟩
  have hB4 : Below w3.heap.size w3 W4 := by rw [hW4]; exact below_alloc (Below.refl _ _) _
  have hbx : W4.heap[w3.heap.size]? = some (.cells #[.int .i64 7, .int .i64 0, .slice (some ⟨w1.heap.size, 0, none⟩) 2 2] 24 (0, 0)) := by rw [hW4]; exact heap_alloc_new w3 _
  rw [← hW4]
  have HB4 := Aside0.mk (HB3.out.trans (hB4.mono HB3.out.size))
  have HBX := Aside0.mk hbx
  have HKF := Aside0.mk (fun W (h : Below W4.heap.size W4 W) => Kd.C_below (Kd.C_below HC3.out hB4) h)
  obtain ⟨W5, hW5⟩ : ∃ W5, W5 = (W4.alloc (.cells #[.int .u32 1, .int .u32 1] 49)).alloc (.cells #[.int .u32 2] 49) := ⟨_, rfl⟩
  have hB5 : Below W4.heap.size W4 W5 := by rw [hW5]; exact below_alloc (below_alloc (Below.refl _ _) _) _
  have h1 : W5.heap[W4.heap.size]? = some (.cells #[.int .u32 1, .int .u32 1] 49 (0, 0)) := by rw [hW5]; exact blk_alloc (heap_alloc_new W4 _) _
  have h2 : W5.heap[W4.heap.size + 1]? = some (.cells #[.int .u32 2] 49 (0, 0)) := by
    rw [hW5]
    have := heap_alloc_new (W4.alloc (.cells #[.int .u32 1, .int .u32 1] 49)) (.cells #[.int .u32 2] 49)
    simpa using this
  have HH1 := Aside0.mk (show Calls Tryd.prog 17 #[.agg #[.int .i64 7, .int .i64 0, .slice (some ⟨w1.heap.size, 0, none⟩) 2 2], .agg #[.slice (some ⟨W4.heap.size, 0, none⟩) 2 2, .slice (some ⟨W4.heap.size + 1, 0, none⟩) 1 1]] W5 _ from formula_Holds.calls 7 0 (some ⟨w1.heap.size, 0, none⟩) 2 [atomS 0, atomS 1] (some ⟨W4.heap.size, 0, none⟩) 2 [1, 1] (some ⟨W4.heap.size + 1, 0, none⟩) 1 [2] true W5 (HKF.out W5 hB5) (Nat.le_refl _) (C_u32 (l := [1, 1]) h1 (by decide) (by decide)) (Nat.le_refl _) (C_u32 (l := [2]) h2 (by decide) (by decide)) (Nat.le_refl _) ((holds_some F0 [1, 1] [2]).trans (congrArg some holds_1)))
  have HH2 := Aside0.mk (fun w6 (h : Below W4.heap.size W4 w6) => show Calls Tryd.prog 17 #[.agg #[.int .i64 7, .int .i64 0, .slice (some ⟨w1.heap.size, 0, none⟩) 2 2], .agg #[.slice none 0 0, .slice (some ⟨w6.heap.size, 0, none⟩) 1 1]] (w6.alloc (.cells #[.int .u32 1] 49)) _ from formula_Holds.calls 7 0 (some ⟨w1.heap.size, 0, none⟩) 2 [atomS 0, atomS 1] none 0 [] (some ⟨w6.heap.size, 0, none⟩) 1 [1] false _ (HKF.out _ (below_alloc h _)) (Nat.le_refl _) (Kd.C_nil _ _) (Nat.le_refl _) (C_u32 (l := [1]) (heap_alloc_new w6 _) (by decide) (by decide)) (Nat.le_refl _) ((holds_some F0 [] [1]).trans (congrArg some holds_2)))
  have HTT := Aside0.mk (fun W (h : Below W4.heap.size W4 W) => show Calls Tryd.prog 26 #[.agg #[.int .i64 7, .int .i64 0, .slice (some ⟨w1.heap.size, 0, none⟩) 2 2]] W _ from formula_Text.calls 7 0 (some ⟨w1.heap.size, 0, none⟩) 2 [atomS 0, atomS 1] _ W (HKF.out _ h) (Nat.le_refl _) HTX.out)
  have HTM := Aside0.mk (fun W (h : Below W4.heap.size W4 W) => show Calls Tryd.prog 18 #[.agg #[.int .i64 7, .int .i64 0, .slice (some ⟨w1.heap.size, 0, none⟩) 2 2]] W _ from formula_Times.calls k1 7 0 (some ⟨w1.heap.size, 0, none⟩) 2 [atomS 0, atomS 1] [F0] W (HKF.out _ h) (Nat.le_refl _) HK1.out)
  have HW5 := Aside0.mk hW5
  have HB5 := Aside0.mk hB5
  have b0 : W4.cell? ⟨w3.heap.size, 0, none⟩ = some (.int .i64 7) := (blk_cell hbx 0).trans rfl
  have b1 : W4.cell? ⟨w3.heap.size, 1, none⟩ = some (.int .i64 0) := (blk_cell hbx 1).trans rfl
  have b2 : W4.cell? ⟨w3.heap.size, 2, none⟩ = some (.slice (some ⟨w1.heap.size, 0, none⟩) 2 2) := (blk_cell hbx 2).trans rfl
  clear hW4 hB4 hbx hW5 hB5 h1 h2
  go_wp2_with (first | (go_at_call 17; rw [← HW5.out]; (with_reducible refine HH1.out.mono ?_); rintro e w6 ⟨rfl, hB6⟩; have HB6 := Aside0.mk (HB5.out.trans (hB6.mono HB5.out.size)); have HBX6 := Aside0.mk ((HB6.out.block _ (blk_lt HBX.out)).trans HBX.out); have q0 := (blk_cell HBX6.out 0).trans rfl; have q1 := (blk_cell HBX6.out 1).trans rfl; have q2 := (blk_cell HBX6.out 2).trans rfl; clear hB6) | (go_at_call 17; (with_reducible refine (HH2.out _ HB6.out).mono ?_); rintro e w7 ⟨rfl, hB7⟩; have HB7 := Aside0.mk (HB6.out.trans (((below_alloc (Below.refl _ _) _).trans (hB7.mono (by simp))).mono HB6.out.size)); have HBX7 := Aside0.mk ((HB7.out.block _ (blk_lt HBX.out)).trans HBX.out); have p0 := (blk_cell HBX7.out 0).trans rfl; have p1 := (blk_cell HBX7.out 1).trans rfl; have p2 := (blk_cell HBX7.out 2).trans rfl; clear hB7) | (go_at_call 26; (with_reducible refine (HTT.out _ HB7.out).mono ?_); rintro e w8 ⟨rfl, hB8⟩; have HB8 := Aside0.mk (HB7.out.trans (hB8.mono HB7.out.size)); have HBX8 := Aside0.mk ((HB8.out.block _ (blk_lt HBX.out)).trans HBX.out); have o0 := (blk_cell HBX8.out 0).trans rfl; have o1 := (blk_cell HBX8.out 1).trans rfl; have o2 := (blk_cell HBX8.out 2).trans rfl; clear hB8) | (go_at_call 18; (with_reducible refine (HTM.out _ HB8.out).mono ?_); rintro e w9 ⟨v9, rfl, hR9, hB9⟩; obtain ⟨g9, c9, e9, _⟩ := Kd.N_form hR9 (by decide); subst e9; have HB9 := Aside0.mk (HB8.out.trans (hB9.mono HB8.out.size)); clear hR9 hB9))
  go_ret
  exact ⟨rfl, HB4.out.trans (HB9.out.mono HB4.out.size)⟩
end Go.Proofs.YtjjnokodkeekhaaDoor.X

namespace Go.Proofs.YtjjnokodkeekhaaDoor.X
open Go.RowKit Go.Proofs.YtjjnokodkeekhaaDoorW.PrintWords Go.Proofs.YtjjnokodkeekhaaDoorW.PrintLast Go.Proofs.YtjjnokodkeekhaaDoorW.PrintMore
open Go.Proofs.YtjjnokodkeekhaaDoor.P Go.Proofs.YtjjnokodkeekhaaDoor.Evx
set_option linter.unusedSimpArgs false
set_option linter.unusedVariables false
/-- A block made behind the world W, with its cells. -/
def Lay (W w : World) (g : Nat) (cs : Array Value) (t : TypeId) : Prop := W.heap.size ≤ g ∧ w.heap[g]? = some (.cells cs t (0, 0))
section
variable {W w w1 : World} {g p : Nat} {cs : Array Value} {t : TypeId}
theorem Lay.alloc (h : Lay W w g cs t) (o : Obj) : Lay W (w.alloc o) g cs t := ⟨h.1, blk_alloc h.2 o⟩
theorem Lay.below (h : Lay W w g cs t) (hB : Below w.heap.size w w1) : Lay W w1 g cs t := ⟨h.1, (hB.block _ (blk_lt h.2)).trans h.2⟩
theorem Lay.new (hB : Below W.heap.size W w) (cs : Array Value) (t : TypeId) : Lay W (w.alloc (.cells cs t)) w.heap.size cs t := ⟨hB.size, heap_alloc_new w _⟩
end
section
variable {W w w1 : World} {g p : Nat} {cs : Array Value} {t : TypeId}
theorem Lay.grown (h : Lay W w g cs t) {row : Option Nat} (hg : w.grownBy w1 row) (hn : some g ≠ row) : Lay W w1 g cs t := ⟨h.1, blk_grown h.2 hg hn⟩
end
/-- Two rows whose blocks are not one. -/
def Apart (u v : Value) : Prop := ∀ k, u.ownBlock = some k → v.ownBlock ≠ some k
section
variable {α : Type} {d : Kd α} {e base : Nat} {ok : Nat → Prop} {W : World} {u u1 v : Value} {xs : List α}
theorem Apart.symm (h : Apart u v) : Apart v u := fun k hv hu => h k hu hv
end
theorem C_of1 {w : World} {g : Nat} {s : S24} {A : Option Addr} {c : Nat} (h : w.heap[g]? = some (.cells #[.int .i64 s.f0, .int .i64 s.f1, .slice A s.f2.length c] 24 (0, 0))) (hk : Kd.C k24 w A s.f2.length s.f2) (hc : s.f2.length ≤ c) : Kd.C k24 w (some ⟨g, 0, none⟩) 1 [s] := by
  have hK := k24_mk w s hc hk
  refine ⟨rfl, by omega, fun _ => ⟨_, rfl, fun j p hj => ?_⟩⟩
  have hs : k24.sz = 3 := rfl
  match j, hj with
  | 0, hj =>
    obtain rfl : s = p := by simpa using hj
    refine ⟨_, rfl, hK, fun i u hu => ?_⟩
    rw [hs, add_at, blk_cell h]
    match i, hu with
    | 0, hu => exact hu
    | 1, hu => exact hu
    | 2, hu => exact hu
theorem C_of2 {w : World} {g : Nat} {a b : S24} {A B : Option Addr} {ca cb : Nat} (h : w.heap[g]? = some (.cells #[.int .i64 a.f0, .int .i64 a.f1, .slice A a.f2.length ca, .int .i64 b.f0, .int .i64 b.f1, .slice B b.f2.length cb] 24 (0, 0))) (ha : Kd.C k24 w A a.f2.length a.f2) (hca : a.f2.length ≤ ca) (hb : Kd.C k24 w B b.f2.length b.f2) (hcb : b.f2.length ≤ cb) : Kd.C k24 w (some ⟨g, 0, none⟩) 2 [a, b] := by
  have hKa := k24_mk w a hca ha
  have hKb := k24_mk w b hcb hb
  refine ⟨rfl, by omega, fun _ => ⟨_, rfl, fun j p hj => ?_⟩⟩
  have hs : k24.sz = 3 := rfl
  match j, hj with
  | 0, hj =>
    obtain rfl : a = p := by simpa using hj
    refine ⟨_, rfl, hKa, fun i u hu => ?_⟩
    rw [hs, add_at, blk_cell h]
    match i, hu with
    | 0, hu => exact hu
    | 1, hu => exact hu
    | 2, hu => exact hu
  | 1, hj =>
    obtain rfl : b = p := by simpa using hj
    refine ⟨_, rfl, hKb, fun i u hu => ?_⟩
    rw [hs, add_at, blk_cell h]
    match i, hu with
    | 0, hu => exact hu
    | 1, hu => exact hu
    | 2, hu => exact hu
end Go.Proofs.YtjjnokodkeekhaaDoor.X

namespace Go.Proofs.YtjjnokodkeekhaaDoor.X
open Go.RowKit Go.Proofs.YtjjnokodkeekhaaDoorW.PrintWords Go.Proofs.YtjjnokodkeekhaaDoorW.PrintMore
set_option linter.unusedVariables false
set_option linter.unusedSimpArgs false
/-- The value at place i, d places ahead of the end, where v stands behind the end. -/
def pvd (f : Nat → Bool → Bool) (v : Bool) : Nat → Nat → Bool
  | _, 0 => v
  | i, d + 1 => f i (pvd f v (i + 1) d)
theorem getD_set (l : List Bool) (i j : Nat) (x : Bool) (hi : i < l.length) : (l.set i x).getD j false = if j = i then x else l.getD j false := by
  rw [List.getD_eq_getElem?_getD, List.getElem?_set, List.getD_eq_getElem?_getD]
  by_cases h : i = j
  · subst h
    rw [if_pos rfl, if_pos rfl, if_pos hi]; rfl
  · rw [if_neg h, if_neg (fun e => h e.symm)]
theorem pass_spec (f : Nat → Bool → Bool) (n b : Nat) (v : Bool) : ∀ (j : Nat) (out : List Bool), j ≤ n → b < n → out.length = n → (∀ i, j ≤ i → i < n → out.getD i false = pvd f v i (n - i)) → (j = n → out.getD b false = v) → ∀ i, i < n → (passD f n b j out).getD i false = pvd f v i (n - i)
  | 0, out, _, _, _, h, _, i, hi => by rw [passD]; exact h i (Nat.zero_le _) hi
  | j + 1, out, hj, hb, hl, h, hv, i, hi => by
    rw [passD]
    have hx : f j (out.getD (nextS n b j) false) = pvd f v j (n - j) := by
      unfold nextS
      by_cases hlt : j + 1 < n
      · rw [if_pos hlt, h (j + 1) (Nat.le_refl _) hlt, show n - j = (n - (j + 1)) + 1 by omega]; rfl
      · rw [if_neg hlt, hv (by omega), show n - j = 1 by omega]; rfl
    refine pass_spec f n b v j _ (by omega) hb (by simp [hl]) (fun i' h1 h2 => ?_) (fun e => by omega) i hi
    rw [getD_set _ _ _ _ (by omega)]
    by_cases e : i' = j
    · subst e; rw [if_pos rfl]; exact hx
    · rw [if_neg e]; exact h i' (by omega) h2
theorem pass_get (f : Nat → Bool → Bool) (n b : Nat) (out : List Bool) (hb : b < n) (hl : out.length = n) (i : Nat) (hi : i < n) : (passD f n b n out).getD i false = pvd f (out.getD b false) i (n - i) :=
  pass_spec f n b _ n out (Nat.le_refl _) hb hl (fun i h1 h2 => by omega) (fun _ => rfl) i hi
theorem rep_getD (n : Nat) (x : Bool) (b : Nat) (hb : b < n) : (List.replicate n x).getD b false = x := by
  rw [List.getD_eq_getElem?_getD, List.getElem?_replicate, if_pos hb]; rfl
theorem settle_get (f : Nat → Bool → Bool) (n b : Nat) (first : Bool) (hb : b < n) (i : Nat) (hi : i < n) : (settleS f n b first).getD i false = pvd f (pvd f first b (n - b)) i (n - i) := by
  unfold settleS
  rw [pass_get f n b _ hb (by simp [len_pass]) i hi, pass_get f n b _ hb (by simp) b hb, rep_getD n first b hb]
def MonoB (f : Nat → Bool → Bool) : Prop := ∀ i, f i false = true → f i true = true
theorem ext_getD {l m : List Bool} {n : Nat} (hl : l.length = n) (hm : m.length = n) (h : ∀ i, i < n → l.getD i false = m.getD i false) : l = m := by
  apply List.ext_getElem (by omega)
  intro i h1 h2
  have := h i (by omega)
  rwa [List.getD_eq_getElem?_getD, List.getD_eq_getElem?_getD, List.getElem?_eq_getElem h1, List.getElem?_eq_getElem h2] at this
/-- What does not look at the next place. -/
theorem settle_const (f : Nat → Bool) (n b : Nat) (first : Bool) (hb : b < n) : settleS (fun i _ => f i) n b first = (List.range n).map f := by
  refine ext_getD (len_settle _ _ _ _) (by simp) (fun i hi => ?_)
  rw [settle_get _ n b first hb i hi, show n - i = (n - (i + 1)) + 1 by omega]
  simp [pvd, hi]
theorem mono_const (f : Nat → Bool) : MonoB (fun i _ => f i) := fun _ h => h
end Go.Proofs.YtjjnokodkeekhaaDoor.X

namespace Go.Proofs.YtjjnokodkeekhaaDoor.X
open Go.RowKit Go.Proofs.YtjjnokodkeekhaaDoorW.PrintWords Go.Proofs.YtjjnokodkeekhaaDoorW.PrintMore
open Go.Proofs.YtjjnokodkeekhaaDoor.P
set_option linter.unusedVariables false
set_option linter.unusedSimpArgs false
section
variable {ls : List Int} {b i : Nat} {m : Int} {f g : S24}
theorem const_at (φ : Nat → Bool) (n b : Nat) (first : Bool) (hb : b < n) (i : Nat) (hi : i < n) : (settleS (fun i _ => φ i) n b first).getD i false = φ i := by
  rw [settle_const φ n b first hb, List.getD_eq_getElem?_getD, List.getElem?_map, List.getElem?_range hi]
  rfl
theorem at_true (hb : b < ls.length) (hi : i < ls.length) (l : List S24) : (rowS ls b ⟨1, m, l⟩).getD i false = true := by rw [rowS]; exact const_at (fun _ => true) _ _ false hb i hi
theorem at_not (hb : b < ls.length) (hi : i < ls.length) : (rowS ls b ⟨3, m, [f]⟩).getD i false = !(rowS ls b f).getD i false := by rw [rowS]; exact const_at (fun i => !(rowS ls b f).getD i false) _ _ false hb i hi
theorem at_and (hb : b < ls.length) (hi : i < ls.length) : (rowS ls b ⟨4, m, [f, g]⟩).getD i false = ((rowS ls b f).getD i false && (rowS ls b g).getD i false) := by rw [rowS]; exact const_at (fun i => (rowS ls b f).getD i false && (rowS ls b g).getD i false) _ _ false hb i hi
theorem at_or (hb : b < ls.length) (hi : i < ls.length) : (rowS ls b ⟨5, m, [f, g]⟩).getD i false = ((rowS ls b f).getD i false || (rowS ls b g).getD i false) := by rw [rowS]; exact const_at (fun i => (rowS ls b f).getD i false || (rowS ls b g).getD i false) _ _ false hb i hi
theorem at_next (hb : b < ls.length) (hi : i < ls.length) : (rowS ls b ⟨6, m, [f]⟩).getD i false = (rowS ls b f).getD (nextS ls.length b i) false := by rw [rowS]; exact const_at (fun i => (rowS ls b f).getD (nextS ls.length b i) false) _ _ false hb i hi
end
end Go.Proofs.YtjjnokodkeekhaaDoor.X

namespace Go.Proofs.YtjjnokodkeekhaaDoor.X
open Go.RowKit Go.Proofs.YtjjnokodkeekhaaDoorW.PrintWords Go.Proofs.YtjjnokodkeekhaaDoorW.PrintMore
open Go.Proofs.YtjjnokodkeekhaaDoor.P Go.Proofs.YtjjnokodkeekhaaDoor.Evx
set_option linter.unusedVariables false
set_option linter.unusedSimpArgs false
/-- Smaller. -/
structure SubF (t s : S24) : Prop where
  pn : nS t ≤ nS s
  ph : hS t ≤ hS s
  pt : tnS t ≤ tnS s
  ps : soundS s = true → soundS t = true
theorem SubF.refl (s : S24) : SubF s s := ⟨Nat.le_refl _, Nat.le_refl _, Nat.le_refl _, id⟩
theorem SubF.trans {a b c : S24} (h : SubF a b) (k : SubF b c) : SubF a c := ⟨Nat.le_trans h.pn k.pn, Nat.le_trans h.ph k.ph, Nat.le_trans h.pt k.pt, fun x => h.ps (k.ps x)⟩
theorem SubF.may {t s : S24} (h : SubF t s) (hm : mayF s = 0) : mayF t = 0 := by
  obtain ⟨h1, h2, h3, h4⟩ := may_zero hm
  rw [may_eq, if_pos (show nS t ≤ 60 ∧ hS t ≤ 12 ∧ tnS t ≤ 8 from ⟨Nat.le_trans h.pn h1, Nat.le_trans h.ph h2, Nat.le_trans h.pt h3⟩), if_pos (h.ps h4)]
theorem nL_mem : ∀ {l : List S24} {k : S24}, k ∈ l → nS k ≤ nL l ∧ hS k ≤ hL l ∧ tnS k ≤ tnL l
  | a :: r, k, h => by
    simp only [nL, hL, tnL]
    rcases List.mem_cons.1 h with e | e
    · subst e; omega
    · have := nL_mem e; omega
theorem SubF.kid {s k : S24} (h : k ∈ s.f2) : SubF k s := by
  obtain ⟨op, m, kids⟩ := s
  have := nL_mem (show k ∈ kids from h)
  refine ⟨?_, ?_, ?_, fun hs => sound_in (sound_kids_all hs) k h⟩
  · simp only [nS]; exact Nat.le_trans this.1 (by omega)
  · simp only [hS]; exact Nat.le_trans this.2.1 (by omega)
  · simp only [tnS]; exact Nat.le_trans this.2.2 (by omega)
theorem len_rowF {t : S24} {st lp : List Int} (h : mayF t = 0) (hw : wordS st lp = true) : (rowF t st lp).length = st.length + lp.length := by
  unfold rowF
  rw [if_pos ⟨h, hw⟩, len_row, List.length_append]
end Go.Proofs.YtjjnokodkeekhaaDoor.X

namespace Go.Proofs.YtjjnokodkeekhaaDoor.X
open Go.RowKit Go.Proofs.YtjjnokodkeekhaaDoorW.PrintWords Go.Proofs.YtjjnokodkeekhaaDoorW.PrintMore
open Go.Proofs.YtjjnokodkeekhaaDoor.P Go.Proofs.YtjjnokodkeekhaaDoor.Evx
set_option linter.unusedVariables false
set_option linter.unusedSimpArgs false
theorem word_loop {st lp : List Int} (h : wordS st lp = true) : st.length < (st ++ lp).length := by
  unfold wordS at h
  have := of_decide_eq_true h
  rw [List.length_append]
  omega
theorem word_small {st lp : List Int} (h : wordS st lp = true) : st.length ≤ 3000 ∧ 1 ≤ lp.length ∧ lp.length ≤ 27000 := of_decide_eq_true h
theorem len_bne {n a b : Nat} (h : n = a + b) : ((n : Int) != (a : Int) + (b : Int)) = false := by rw [h]; simp
theorem rowF_of {s : S24} {st lp : List Int} (h : mayF s = 0) (hw : wordS st lp = true) : rowF s st lp = rowS (st ++ lp) st.length s := by unfold rowF; rw [if_pos ⟨h, hw⟩]
end Go.Proofs.YtjjnokodkeekhaaDoor.X

namespace Go.Proofs.YtjjnokodkeekhaaDoor.X
open Go.RowKit Go.Proofs.YtjjnokodkeekhaaDoorW.PrintWords Go.Proofs.YtjjnokodkeekhaaDoorW.PrintMore
open Go.Proofs.YtjjnokodkeekhaaDoor.P Go.Proofs.YtjjnokodkeekhaaDoor.Evx
set_option linter.unusedVariables false
set_option linter.unusedSimpArgs false
def notN (s : S24) : S24 := ⟨3, 0, [s]⟩
def andN (s t : S24) : S24 := ⟨4, 0, [s, t]⟩
def orN (s t : S24) : S24 := ⟨5, 0, [s, t]⟩
def nextN (s : S24) : S24 := ⟨6, 0, [s]⟩
def yesN : S24 := ⟨1, 0, []⟩
def logicL (s t : S24) : List S24 := [notN s, andN s t, orN s t, nextN s, yesN]
theorem logic_first {s t : S24} (h : ∀ k ∈ logicL s t, mayF k = 0) : mayF s = 0 := (SubF.kid (s := notN s) (by simp [notN])).may (h _ (by simp [logicL]))
theorem logic_second {s t : S24} (h : ∀ k ∈ logicL s t, mayF k = 0) : mayF t = 0 := (SubF.kid (s := andN s t) (by simp [andN])).may (h _ (by simp [logicL]))
theorem logic_len {s t : S24} {st lp : List Int} (h : ∀ k ∈ logicL s t, mayF k = 0) (hw : wordS st lp = true) : (rowF s st lp).length = st.length + lp.length ∧ (rowF t st lp).length = st.length + lp.length ∧ (rowF (notN s) st lp).length = st.length + lp.length ∧ (rowF (andN s t) st lp).length = st.length + lp.length ∧ (rowF (orN s t) st lp).length = st.length + lp.length ∧ (rowF (nextN s) st lp).length = st.length + lp.length ∧ (rowF yesN st lp).length = st.length + lp.length :=
  ⟨len_rowF (logic_first h) hw, len_rowF (logic_second h) hw, len_rowF (h _ (by simp [logicL])) hw, len_rowF (h _ (by simp [logicL])) hw, len_rowF (h _ (by simp [logicL])) hw, len_rowF (h _ (by simp [logicL])) hw, len_rowF (h _ (by simp [logicL])) hw⟩
theorem logic_at {s t : S24} {st lp : List Int} (h : ∀ k ∈ logicL s t, mayF k = 0) (hw : wordS st lp = true) (i : Nat) (hi : i < st.length + lp.length) :
    (rowF (notN s) st lp).getD i false = (!(rowF s st lp).getD i false) ∧ (rowF (andN s t) st lp).getD i false = ((rowF s st lp).getD i false && (rowF t st lp).getD i false) ∧ (rowF (orN s t) st lp).getD i false = ((rowF s st lp).getD i false || (rowF t st lp).getD i false) ∧ (rowF (nextN s) st lp).getD i false = (rowF s st lp).getD (nextS (st.length + lp.length) st.length i) false ∧ (rowF yesN st lp).getD i false = true := by
  have hb := word_loop hw
  rw [rowF_of (logic_first h) hw, rowF_of (logic_second h) hw, rowF_of (h _ (by simp [logicL])) hw, rowF_of (s := andN s t) (h _ (by simp [logicL])) hw, rowF_of (s := orN s t) (h _ (by simp [logicL])) hw, rowF_of (s := nextN s) (h _ (by simp [logicL])) hw, rowF_of (s := yesN) (h _ (by simp [logicL])) hw]
  have hi2 : i < (st ++ lp).length := by rw [List.length_append]; exact hi
  refine ⟨at_not hb hi2, at_and hb hi2, at_or hb hi2, ?_, at_true hb hi2 []⟩
  rw [← List.length_append]
  exact at_next hb hi2
theorem take_may {l : List S24} {j : Nat} (hj : j < l.length) (h : ∀ k ∈ l.take j, mayF k = 0) (h2 : mayF (l[j]'hj) = 0) : ∀ k ∈ l.take (j + 1), mayF k = 0 := by
  intro k hk
  rw [List.take_succ_eq_append_getElem hj] at hk
  rcases List.mem_append.1 hk with e | e
  · exact h k e
  · rw [List.mem_singleton.1 e]; exact h2
theorem next_in {a b : Nat} (i : Nat) (k : a ≤ 3000 ∧ 1 ≤ b ∧ b ≤ 27000) : nextS (a + b) a i < a + b := nextS_lt (by omega)
theorem int_lt {i a b : Nat} (h : i < a + b) : (i : Int) < (a : Int) + (b : Int) := by omega
theorem int_ge {i a b : Nat} (h : ¬ i < a + b) : ¬ (i : Int) < (a : Int) + (b : Int) := by omega
theorem next_last {i a b : Nat} (h : i + 1 = a + b) : nextS (a + b) a i = a ∧ (((i : Int) + 1) == (a : Int) + (b : Int)) = true := ⟨by unfold nextS; rw [if_neg (by omega)], by rw [beq_iff_eq]; omega⟩
theorem next_mid {i a b : Nat} (h : ¬ i + 1 = a + b) (hi : i < a + b) : nextS (a + b) a i = i + 1 ∧ (((i : Int) + 1) == (a : Int) + (b : Int)) = false := ⟨by unfold nextS; rw [if_pos (by omega)], by rw [beq_eq_false_iff_ne]; omega⟩
theorem lt7 {j : Nat} (h : j < 7) : j = 0 ∨ j = 1 ∨ j = 2 ∨ j = 3 ∨ j = 4 ∨ j = 5 ∨ j = 6 := by omega
end Go.Proofs.YtjjnokodkeekhaaDoor.X

namespace Go.Proofs.YtjjnokodkeekhaaDoor.X
open Go.RowKit Go.Proofs.YtjjnokodkeekhaaDoorW.PrintWords Go.Proofs.YtjjnokodkeekhaaDoorW.PrintLast Go.Proofs.YtjjnokodkeekhaaDoorW.PrintMore
open Go.Proofs.YtjjnokodkeekhaaDoor.P Go.Proofs.YtjjnokodkeekhaaDoor.Evx
set_option linter.unusedSimpArgs false
set_option linter.unusedVariables false
def blockAt (n : Nat) : Code → Option Code
  | .block m c => if m = n then some (.block m c) else blockAt n c
  | .loop c => blockAt n c
  | .seq a b => match blockAt n a with
    | some c => some c
    | none => blockAt n b
  | .scope c => blockAt n c
  | .cond _ a b => match blockAt n a with
    | some c => some c
    | none => blockAt n b
  | _ => none
def bodyOf (c : Option Code) (n : Nat) : Code := ((c.bind (blockAt n)).getD .skip)
def regionAt (n : Nat) : Code → Option Code
  | .region m a b => if m = n then some (.region m a b) else none
  | .block _ c => regionAt n c
  | .loop c => regionAt n c
  | .seq a b => match regionAt n a with
    | some c => some c
    | none => regionAt n b
  | .scope c => regionAt n c
  | .cond _ a b => match regionAt n a with
    | some c => some c
    | none => regionAt n b
  | _ => none
def regionOf (c : Option Code) (n : Nat) : Code := ((c.bind (regionAt n)).getD .skip)
set_option maxHeartbeats 16000000 in
set_option maxRecDepth 100000 in
theorem logic_r25tt (z : Bool) (i k ma mb mn md mo mx my : Nat) (hia : i < ma) (hib : i < mb) (hin : i < mn) (hid : i < md) (hio : i < mo) (hix : i < mx) (hiy : i < my) (hk : k < ma) (W : World) (ada adb adn add ado adx ady : Addr) (ca7 cb7 cn7 cd7 co7 cx7 cy7 : Nat) (sl0 sl1 sl2 sl3 sl4 sl5 sl6 sl7 sl8 sl9 sl10 sl18 sl19 sl22 sl23 sl24 sl25 sl26 sl27 sl28 sl29 sl30 sl31 sl32 sl33 sl34 sl35 sl36 sl37 sl38 sl39 sl40 sl41 sl42 sl43 sl44 sl45 sl46 sl47 sl48 sl49 sl50 sl51 sl52 sl53 sl54 sl55 sl56 sl57 sl58 sl59 sl60 sl61 sl62 sl63 sl64 sl65 sl66 sl67 sl68 sl69 sl70 sl71 sl72 sl73 sl74 sl75 sl76 sl77 sl78 sl79 sl80 sl81 sl82 sl83 sl84 sl85 sl86 sl87 sl88 sl89 sl90 sl91 sl92 sl93 sl94 sl95 sl96 sl97 sl98 sl99 sl100 sl101 sl102 sl103 sl104 sl105 sl106 sl107 sl108 sl109 sl110 sl111 sl112 sl113 sl114 sl115 sl116 sl117 sl118 sl119 sl120 sl121 sl122 sl123 sl124 sl125 sl126 sl127 sl128 sl129 sl130 sl131 sl132 sl133 sl134 sl135 sl136 sl137 sl138 sl139 sl140 sl141 sl142 sl143 sl144 sl145 sl146 sl147 sl148 sl149 sl150 sl151 sl152 sl153 sl154 sl155 sl156 sl157 sl158 sl159 sl160 sl161 sl162 sl163 sl164 sl165 sl166 sl167 sl168 sl169 sl170 sl171 sl172 sl173 sl174 sl175 sl176 sl177 sl178 sl179 sl180 sl181 sl182 sl183 sl184 sl185 sl186 sl187 sl188 sl189 sl190 sl191 sl192 : Value)
    (za : W.cell? (ada.add i) = some (.bool true))
    (zb : W.cell? (adb.add i) = some (.bool true))
    (zn : W.cell? (adn.add i) = some (.bool false))
    (zd : W.cell? (add.add i) = some (.bool true))
    (zo : W.cell? (ado.add i) = some (.bool true))
    (zx : W.cell? (adx.add i) = some (.bool z))
    (zy : W.cell? (ady.add i) = some (.bool true))
    (zk : W.cell? (ada.add k) = some (.bool z))
    (K : Act → World → Prop) (Q : Exit → Act → World → Prop) (HK : Aside0 (∀ (u130 u131 u132 u133 u134 u135 u136 u137 u138 u139 u140 u141 u142 u143 u144 u145 u146 u147 u148 u149 u150 u151 u152 u153 u154 u155 u156 u157 u158 u159 u160 u161 u162 u163 u164 u165 u166 u167 u168 u169 u170 u171 u172 u173 u174 u175 u176 u177 u178 u179 u180 u181 u182 u183 u184 u185 u186 u187 u188 u189 : Value) (q : Nat), K ⟨#[sl0, sl1, sl2, sl3, sl4, sl5, sl6, sl7, sl8, sl9, sl10, .slice (some ada) ma ca7, .slice (some adb) mb cb7, .slice (some adn) mn cn7, .slice (some add) md cd7, .slice (some ado) mo co7, .slice (some adx) mx cx7, .slice (some ady) my cy7, sl18, sl19, .int .i64 (i : Int), .int .i64 (k : Int), sl22, sl23, sl24, sl25, sl26, sl27, sl28, sl29, sl30, sl31, sl32, sl33, sl34, sl35, sl36, sl37, sl38, sl39, sl40, sl41, sl42, sl43, sl44, sl45, sl46, sl47, sl48, sl49, sl50, sl51, sl52, sl53, sl54, sl55, sl56, sl57, sl58, sl59, sl60, sl61, sl62, sl63, sl64, sl65, sl66, sl67, sl68, sl69, sl70, sl71, sl72, sl73, sl74, sl75, sl76, sl77, sl78, sl79, sl80, sl81, sl82, sl83, sl84, sl85, sl86, sl87, sl88, sl89, sl90, sl91, sl92, sl93, sl94, sl95, sl96, sl97, sl98, sl99, sl100, sl101, sl102, sl103, sl104, sl105, sl106, sl107, sl108, sl109, sl110, sl111, sl112, sl113, sl114, sl115, sl116, sl117, sl118, sl119, sl120, sl121, sl122, sl123, sl124, sl125, sl126, sl127, sl128, sl129, u130, u131, u132, u133, u134, u135, u136, u137, u138, u139, u140, u141, u142, u143, u144, u145, u146, u147, u148, u149, u150, u151, u152, u153, u154, u155, u156, u157, u158, u159, u160, u161, u162, u163, u164, u165, u166, u167, u168, u169, u170, u171, u172, u173, u174, u175, u176, u177, u178, u179, u180, u181, u182, u183, u184, u185, u186, u187, u188, u189, .bool false, sl191, sl192], []⟩ (W.drewN q))) :
    Code.wp Tryd.prog (regionOf Tryd.f5.body 25) (Exit.then K Q) ⟨#[sl0, sl1, sl2, sl3, sl4, sl5, sl6, sl7, sl8, sl9, sl10, .slice (some ada) ma ca7, .slice (some adb) mb cb7, .slice (some adn) mn cn7, .slice (some add) md cd7, .slice (some ado) mo co7, .slice (some adx) mx cx7, .slice (some ady) my cy7, sl18, sl19, .int .i64 (i : Int), .int .i64 (k : Int), sl22, sl23, sl24, sl25, sl26, sl27, sl28, sl29, sl30, sl31, sl32, sl33, sl34, sl35, sl36, sl37, sl38, sl39, sl40, sl41, sl42, sl43, sl44, sl45, sl46, sl47, sl48, sl49, sl50, sl51, sl52, sl53, sl54, sl55, sl56, sl57, sl58, sl59, sl60, sl61, sl62, sl63, sl64, sl65, sl66, sl67, sl68, sl69, sl70, sl71, sl72, sl73, sl74, sl75, sl76, sl77, sl78, sl79, sl80, sl81, sl82, sl83, sl84, sl85, sl86, sl87, sl88, sl89, sl90, sl91, sl92, sl93, sl94, sl95, sl96, sl97, sl98, sl99, sl100, sl101, sl102, sl103, sl104, sl105, sl106, sl107, sl108, sl109, sl110, sl111, sl112, sl113, sl114, sl115, sl116, sl117, sl118, sl119, sl120, sl121, sl122, sl123, sl124, sl125, sl126, sl127, sl128, sl129, sl130, sl131, sl132, sl133, sl134, sl135, sl136, sl137, sl138, sl139, sl140, sl141, sl142, sl143, sl144, sl145, sl146, sl147, sl148, sl149, sl150, sl151, sl152, sl153, sl154, sl155, sl156, sl157, sl158, sl159, sl160, sl161, sl162, sl163, sl164, sl165, sl166, sl167, sl168, sl169, sl170, sl171, sl172, sl173, sl174, sl175, sl176, sl177, sl178, sl179, sl180, sl181, sl182, sl183, sl184, sl185, sl186, sl187, sl188, sl189, sl190, sl191, sl192], []⟩ W := by
  have hub := Tryd.underlying35
  conv => arg 2; whnf
  go_quiet (fail)
  go_wp2
  exact HK.out _ _ _ _ _ _ _ _ _ _ _ _ _ _ _ _ _ _ _ _ _ _ _ _ _ _ _ _ _ _ _ _ _ _ _ _ _ _ _ _ _ _ _ _ _ _ _ _ _ _ _ _ _ _ _ _ _ _ _ _ _
set_option maxHeartbeats 16000000 in
set_option maxRecDepth 100000 in
theorem logic_r25tf (z : Bool) (i k ma mb mn md mo mx my : Nat) (hia : i < ma) (hib : i < mb) (hin : i < mn) (hid : i < md) (hio : i < mo) (hix : i < mx) (hiy : i < my) (hk : k < ma) (W : World) (ada adb adn add ado adx ady : Addr) (ca7 cb7 cn7 cd7 co7 cx7 cy7 : Nat) (sl0 sl1 sl2 sl3 sl4 sl5 sl6 sl7 sl8 sl9 sl10 sl18 sl19 sl22 sl23 sl24 sl25 sl26 sl27 sl28 sl29 sl30 sl31 sl32 sl33 sl34 sl35 sl36 sl37 sl38 sl39 sl40 sl41 sl42 sl43 sl44 sl45 sl46 sl47 sl48 sl49 sl50 sl51 sl52 sl53 sl54 sl55 sl56 sl57 sl58 sl59 sl60 sl61 sl62 sl63 sl64 sl65 sl66 sl67 sl68 sl69 sl70 sl71 sl72 sl73 sl74 sl75 sl76 sl77 sl78 sl79 sl80 sl81 sl82 sl83 sl84 sl85 sl86 sl87 sl88 sl89 sl90 sl91 sl92 sl93 sl94 sl95 sl96 sl97 sl98 sl99 sl100 sl101 sl102 sl103 sl104 sl105 sl106 sl107 sl108 sl109 sl110 sl111 sl112 sl113 sl114 sl115 sl116 sl117 sl118 sl119 sl120 sl121 sl122 sl123 sl124 sl125 sl126 sl127 sl128 sl129 sl130 sl131 sl132 sl133 sl134 sl135 sl136 sl137 sl138 sl139 sl140 sl141 sl142 sl143 sl144 sl145 sl146 sl147 sl148 sl149 sl150 sl151 sl152 sl153 sl154 sl155 sl156 sl157 sl158 sl159 sl160 sl161 sl162 sl163 sl164 sl165 sl166 sl167 sl168 sl169 sl170 sl171 sl172 sl173 sl174 sl175 sl176 sl177 sl178 sl179 sl180 sl181 sl182 sl183 sl184 sl185 sl186 sl187 sl188 sl189 sl190 sl191 sl192 : Value)
    (za : W.cell? (ada.add i) = some (.bool true))
    (zb : W.cell? (adb.add i) = some (.bool false))
    (zn : W.cell? (adn.add i) = some (.bool false))
    (zd : W.cell? (add.add i) = some (.bool false))
    (zo : W.cell? (ado.add i) = some (.bool true))
    (zx : W.cell? (adx.add i) = some (.bool z))
    (zy : W.cell? (ady.add i) = some (.bool true))
    (zk : W.cell? (ada.add k) = some (.bool z))
    (K : Act → World → Prop) (Q : Exit → Act → World → Prop) (HK : Aside0 (∀ (u130 u131 u132 u133 u134 u135 u136 u137 u138 u139 u140 u141 u142 u143 u144 u145 u146 u147 u148 u149 u150 u151 u152 u153 u154 u155 u156 u157 u158 u159 u160 u161 u162 u163 u164 u165 u166 u167 u168 u169 u170 u171 u172 u173 u174 u175 u176 u177 u178 u179 u180 u181 u182 u183 u184 u185 u186 u187 u188 u189 : Value) (q : Nat), K ⟨#[sl0, sl1, sl2, sl3, sl4, sl5, sl6, sl7, sl8, sl9, sl10, .slice (some ada) ma ca7, .slice (some adb) mb cb7, .slice (some adn) mn cn7, .slice (some add) md cd7, .slice (some ado) mo co7, .slice (some adx) mx cx7, .slice (some ady) my cy7, sl18, sl19, .int .i64 (i : Int), .int .i64 (k : Int), sl22, sl23, sl24, sl25, sl26, sl27, sl28, sl29, sl30, sl31, sl32, sl33, sl34, sl35, sl36, sl37, sl38, sl39, sl40, sl41, sl42, sl43, sl44, sl45, sl46, sl47, sl48, sl49, sl50, sl51, sl52, sl53, sl54, sl55, sl56, sl57, sl58, sl59, sl60, sl61, sl62, sl63, sl64, sl65, sl66, sl67, sl68, sl69, sl70, sl71, sl72, sl73, sl74, sl75, sl76, sl77, sl78, sl79, sl80, sl81, sl82, sl83, sl84, sl85, sl86, sl87, sl88, sl89, sl90, sl91, sl92, sl93, sl94, sl95, sl96, sl97, sl98, sl99, sl100, sl101, sl102, sl103, sl104, sl105, sl106, sl107, sl108, sl109, sl110, sl111, sl112, sl113, sl114, sl115, sl116, sl117, sl118, sl119, sl120, sl121, sl122, sl123, sl124, sl125, sl126, sl127, sl128, sl129, u130, u131, u132, u133, u134, u135, u136, u137, u138, u139, u140, u141, u142, u143, u144, u145, u146, u147, u148, u149, u150, u151, u152, u153, u154, u155, u156, u157, u158, u159, u160, u161, u162, u163, u164, u165, u166, u167, u168, u169, u170, u171, u172, u173, u174, u175, u176, u177, u178, u179, u180, u181, u182, u183, u184, u185, u186, u187, u188, u189, .bool false, sl191, sl192], []⟩ (W.drewN q))) :
    Code.wp Tryd.prog (regionOf Tryd.f5.body 25) (Exit.then K Q) ⟨#[sl0, sl1, sl2, sl3, sl4, sl5, sl6, sl7, sl8, sl9, sl10, .slice (some ada) ma ca7, .slice (some adb) mb cb7, .slice (some adn) mn cn7, .slice (some add) md cd7, .slice (some ado) mo co7, .slice (some adx) mx cx7, .slice (some ady) my cy7, sl18, sl19, .int .i64 (i : Int), .int .i64 (k : Int), sl22, sl23, sl24, sl25, sl26, sl27, sl28, sl29, sl30, sl31, sl32, sl33, sl34, sl35, sl36, sl37, sl38, sl39, sl40, sl41, sl42, sl43, sl44, sl45, sl46, sl47, sl48, sl49, sl50, sl51, sl52, sl53, sl54, sl55, sl56, sl57, sl58, sl59, sl60, sl61, sl62, sl63, sl64, sl65, sl66, sl67, sl68, sl69, sl70, sl71, sl72, sl73, sl74, sl75, sl76, sl77, sl78, sl79, sl80, sl81, sl82, sl83, sl84, sl85, sl86, sl87, sl88, sl89, sl90, sl91, sl92, sl93, sl94, sl95, sl96, sl97, sl98, sl99, sl100, sl101, sl102, sl103, sl104, sl105, sl106, sl107, sl108, sl109, sl110, sl111, sl112, sl113, sl114, sl115, sl116, sl117, sl118, sl119, sl120, sl121, sl122, sl123, sl124, sl125, sl126, sl127, sl128, sl129, sl130, sl131, sl132, sl133, sl134, sl135, sl136, sl137, sl138, sl139, sl140, sl141, sl142, sl143, sl144, sl145, sl146, sl147, sl148, sl149, sl150, sl151, sl152, sl153, sl154, sl155, sl156, sl157, sl158, sl159, sl160, sl161, sl162, sl163, sl164, sl165, sl166, sl167, sl168, sl169, sl170, sl171, sl172, sl173, sl174, sl175, sl176, sl177, sl178, sl179, sl180, sl181, sl182, sl183, sl184, sl185, sl186, sl187, sl188, sl189, sl190, sl191, sl192], []⟩ W := by
  have hub := Tryd.underlying35
  conv => arg 2; whnf
  go_quiet (fail)
  go_wp2
  exact HK.out _ _ _ _ _ _ _ _ _ _ _ _ _ _ _ _ _ _ _ _ _ _ _ _ _ _ _ _ _ _ _ _ _ _ _ _ _ _ _ _ _ _ _ _ _ _ _ _ _ _ _ _ _ _ _ _ _ _ _ _ _
set_option maxHeartbeats 16000000 in
set_option maxRecDepth 100000 in
theorem logic_r25ft (z : Bool) (i k ma mb mn md mo mx my : Nat) (hia : i < ma) (hib : i < mb) (hin : i < mn) (hid : i < md) (hio : i < mo) (hix : i < mx) (hiy : i < my) (hk : k < ma) (W : World) (ada adb adn add ado adx ady : Addr) (ca7 cb7 cn7 cd7 co7 cx7 cy7 : Nat) (sl0 sl1 sl2 sl3 sl4 sl5 sl6 sl7 sl8 sl9 sl10 sl18 sl19 sl22 sl23 sl24 sl25 sl26 sl27 sl28 sl29 sl30 sl31 sl32 sl33 sl34 sl35 sl36 sl37 sl38 sl39 sl40 sl41 sl42 sl43 sl44 sl45 sl46 sl47 sl48 sl49 sl50 sl51 sl52 sl53 sl54 sl55 sl56 sl57 sl58 sl59 sl60 sl61 sl62 sl63 sl64 sl65 sl66 sl67 sl68 sl69 sl70 sl71 sl72 sl73 sl74 sl75 sl76 sl77 sl78 sl79 sl80 sl81 sl82 sl83 sl84 sl85 sl86 sl87 sl88 sl89 sl90 sl91 sl92 sl93 sl94 sl95 sl96 sl97 sl98 sl99 sl100 sl101 sl102 sl103 sl104 sl105 sl106 sl107 sl108 sl109 sl110 sl111 sl112 sl113 sl114 sl115 sl116 sl117 sl118 sl119 sl120 sl121 sl122 sl123 sl124 sl125 sl126 sl127 sl128 sl129 sl130 sl131 sl132 sl133 sl134 sl135 sl136 sl137 sl138 sl139 sl140 sl141 sl142 sl143 sl144 sl145 sl146 sl147 sl148 sl149 sl150 sl151 sl152 sl153 sl154 sl155 sl156 sl157 sl158 sl159 sl160 sl161 sl162 sl163 sl164 sl165 sl166 sl167 sl168 sl169 sl170 sl171 sl172 sl173 sl174 sl175 sl176 sl177 sl178 sl179 sl180 sl181 sl182 sl183 sl184 sl185 sl186 sl187 sl188 sl189 sl190 sl191 sl192 : Value)
    (za : W.cell? (ada.add i) = some (.bool false))
    (zb : W.cell? (adb.add i) = some (.bool true))
    (zn : W.cell? (adn.add i) = some (.bool true))
    (zd : W.cell? (add.add i) = some (.bool false))
    (zo : W.cell? (ado.add i) = some (.bool true))
    (zx : W.cell? (adx.add i) = some (.bool z))
    (zy : W.cell? (ady.add i) = some (.bool true))
    (zk : W.cell? (ada.add k) = some (.bool z))
    (K : Act → World → Prop) (Q : Exit → Act → World → Prop) (HK : Aside0 (∀ (u130 u131 u132 u133 u134 u135 u136 u137 u138 u139 u140 u141 u142 u143 u144 u145 u146 u147 u148 u149 u150 u151 u152 u153 u154 u155 u156 u157 u158 u159 u160 u161 u162 u163 u164 u165 u166 u167 u168 u169 u170 u171 u172 u173 u174 u175 u176 u177 u178 u179 u180 u181 u182 u183 u184 u185 u186 u187 u188 u189 : Value) (q : Nat), K ⟨#[sl0, sl1, sl2, sl3, sl4, sl5, sl6, sl7, sl8, sl9, sl10, .slice (some ada) ma ca7, .slice (some adb) mb cb7, .slice (some adn) mn cn7, .slice (some add) md cd7, .slice (some ado) mo co7, .slice (some adx) mx cx7, .slice (some ady) my cy7, sl18, sl19, .int .i64 (i : Int), .int .i64 (k : Int), sl22, sl23, sl24, sl25, sl26, sl27, sl28, sl29, sl30, sl31, sl32, sl33, sl34, sl35, sl36, sl37, sl38, sl39, sl40, sl41, sl42, sl43, sl44, sl45, sl46, sl47, sl48, sl49, sl50, sl51, sl52, sl53, sl54, sl55, sl56, sl57, sl58, sl59, sl60, sl61, sl62, sl63, sl64, sl65, sl66, sl67, sl68, sl69, sl70, sl71, sl72, sl73, sl74, sl75, sl76, sl77, sl78, sl79, sl80, sl81, sl82, sl83, sl84, sl85, sl86, sl87, sl88, sl89, sl90, sl91, sl92, sl93, sl94, sl95, sl96, sl97, sl98, sl99, sl100, sl101, sl102, sl103, sl104, sl105, sl106, sl107, sl108, sl109, sl110, sl111, sl112, sl113, sl114, sl115, sl116, sl117, sl118, sl119, sl120, sl121, sl122, sl123, sl124, sl125, sl126, sl127, sl128, sl129, u130, u131, u132, u133, u134, u135, u136, u137, u138, u139, u140, u141, u142, u143, u144, u145, u146, u147, u148, u149, u150, u151, u152, u153, u154, u155, u156, u157, u158, u159, u160, u161, u162, u163, u164, u165, u166, u167, u168, u169, u170, u171, u172, u173, u174, u175, u176, u177, u178, u179, u180, u181, u182, u183, u184, u185, u186, u187, u188, u189, .bool false, sl191, sl192], []⟩ (W.drewN q))) :
    Code.wp Tryd.prog (regionOf Tryd.f5.body 25) (Exit.then K Q) ⟨#[sl0, sl1, sl2, sl3, sl4, sl5, sl6, sl7, sl8, sl9, sl10, .slice (some ada) ma ca7, .slice (some adb) mb cb7, .slice (some adn) mn cn7, .slice (some add) md cd7, .slice (some ado) mo co7, .slice (some adx) mx cx7, .slice (some ady) my cy7, sl18, sl19, .int .i64 (i : Int), .int .i64 (k : Int), sl22, sl23, sl24, sl25, sl26, sl27, sl28, sl29, sl30, sl31, sl32, sl33, sl34, sl35, sl36, sl37, sl38, sl39, sl40, sl41, sl42, sl43, sl44, sl45, sl46, sl47, sl48, sl49, sl50, sl51, sl52, sl53, sl54, sl55, sl56, sl57, sl58, sl59, sl60, sl61, sl62, sl63, sl64, sl65, sl66, sl67, sl68, sl69, sl70, sl71, sl72, sl73, sl74, sl75, sl76, sl77, sl78, sl79, sl80, sl81, sl82, sl83, sl84, sl85, sl86, sl87, sl88, sl89, sl90, sl91, sl92, sl93, sl94, sl95, sl96, sl97, sl98, sl99, sl100, sl101, sl102, sl103, sl104, sl105, sl106, sl107, sl108, sl109, sl110, sl111, sl112, sl113, sl114, sl115, sl116, sl117, sl118, sl119, sl120, sl121, sl122, sl123, sl124, sl125, sl126, sl127, sl128, sl129, sl130, sl131, sl132, sl133, sl134, sl135, sl136, sl137, sl138, sl139, sl140, sl141, sl142, sl143, sl144, sl145, sl146, sl147, sl148, sl149, sl150, sl151, sl152, sl153, sl154, sl155, sl156, sl157, sl158, sl159, sl160, sl161, sl162, sl163, sl164, sl165, sl166, sl167, sl168, sl169, sl170, sl171, sl172, sl173, sl174, sl175, sl176, sl177, sl178, sl179, sl180, sl181, sl182, sl183, sl184, sl185, sl186, sl187, sl188, sl189, sl190, sl191, sl192], []⟩ W := by
  have hub := Tryd.underlying35
  conv => arg 2; whnf
  go_quiet (fail)
  go_wp2
  exact HK.out _ _ _ _ _ _ _ _ _ _ _ _ _ _ _ _ _ _ _ _ _ _ _ _ _ _ _ _ _ _ _ _ _ _ _ _ _ _ _ _ _ _ _ _ _ _ _ _ _ _ _ _ _ _ _ _ _ _ _ _ _
set_option maxHeartbeats 16000000 in
set_option maxRecDepth 100000 in
theorem logic_r25ff (z : Bool) (i k ma mb mn md mo mx my : Nat) (hia : i < ma) (hib : i < mb) (hin : i < mn) (hid : i < md) (hio : i < mo) (hix : i < mx) (hiy : i < my) (hk : k < ma) (W : World) (ada adb adn add ado adx ady : Addr) (ca7 cb7 cn7 cd7 co7 cx7 cy7 : Nat) (sl0 sl1 sl2 sl3 sl4 sl5 sl6 sl7 sl8 sl9 sl10 sl18 sl19 sl22 sl23 sl24 sl25 sl26 sl27 sl28 sl29 sl30 sl31 sl32 sl33 sl34 sl35 sl36 sl37 sl38 sl39 sl40 sl41 sl42 sl43 sl44 sl45 sl46 sl47 sl48 sl49 sl50 sl51 sl52 sl53 sl54 sl55 sl56 sl57 sl58 sl59 sl60 sl61 sl62 sl63 sl64 sl65 sl66 sl67 sl68 sl69 sl70 sl71 sl72 sl73 sl74 sl75 sl76 sl77 sl78 sl79 sl80 sl81 sl82 sl83 sl84 sl85 sl86 sl87 sl88 sl89 sl90 sl91 sl92 sl93 sl94 sl95 sl96 sl97 sl98 sl99 sl100 sl101 sl102 sl103 sl104 sl105 sl106 sl107 sl108 sl109 sl110 sl111 sl112 sl113 sl114 sl115 sl116 sl117 sl118 sl119 sl120 sl121 sl122 sl123 sl124 sl125 sl126 sl127 sl128 sl129 sl130 sl131 sl132 sl133 sl134 sl135 sl136 sl137 sl138 sl139 sl140 sl141 sl142 sl143 sl144 sl145 sl146 sl147 sl148 sl149 sl150 sl151 sl152 sl153 sl154 sl155 sl156 sl157 sl158 sl159 sl160 sl161 sl162 sl163 sl164 sl165 sl166 sl167 sl168 sl169 sl170 sl171 sl172 sl173 sl174 sl175 sl176 sl177 sl178 sl179 sl180 sl181 sl182 sl183 sl184 sl185 sl186 sl187 sl188 sl189 sl190 sl191 sl192 : Value)
    (za : W.cell? (ada.add i) = some (.bool false))
    (zb : W.cell? (adb.add i) = some (.bool false))
    (zn : W.cell? (adn.add i) = some (.bool true))
    (zd : W.cell? (add.add i) = some (.bool false))
    (zo : W.cell? (ado.add i) = some (.bool false))
    (zx : W.cell? (adx.add i) = some (.bool z))
    (zy : W.cell? (ady.add i) = some (.bool true))
    (zk : W.cell? (ada.add k) = some (.bool z))
    (K : Act → World → Prop) (Q : Exit → Act → World → Prop) (HK : Aside0 (∀ (u130 u131 u132 u133 u134 u135 u136 u137 u138 u139 u140 u141 u142 u143 u144 u145 u146 u147 u148 u149 u150 u151 u152 u153 u154 u155 u156 u157 u158 u159 u160 u161 u162 u163 u164 u165 u166 u167 u168 u169 u170 u171 u172 u173 u174 u175 u176 u177 u178 u179 u180 u181 u182 u183 u184 u185 u186 u187 u188 u189 : Value) (q : Nat), K ⟨#[sl0, sl1, sl2, sl3, sl4, sl5, sl6, sl7, sl8, sl9, sl10, .slice (some ada) ma ca7, .slice (some adb) mb cb7, .slice (some adn) mn cn7, .slice (some add) md cd7, .slice (some ado) mo co7, .slice (some adx) mx cx7, .slice (some ady) my cy7, sl18, sl19, .int .i64 (i : Int), .int .i64 (k : Int), sl22, sl23, sl24, sl25, sl26, sl27, sl28, sl29, sl30, sl31, sl32, sl33, sl34, sl35, sl36, sl37, sl38, sl39, sl40, sl41, sl42, sl43, sl44, sl45, sl46, sl47, sl48, sl49, sl50, sl51, sl52, sl53, sl54, sl55, sl56, sl57, sl58, sl59, sl60, sl61, sl62, sl63, sl64, sl65, sl66, sl67, sl68, sl69, sl70, sl71, sl72, sl73, sl74, sl75, sl76, sl77, sl78, sl79, sl80, sl81, sl82, sl83, sl84, sl85, sl86, sl87, sl88, sl89, sl90, sl91, sl92, sl93, sl94, sl95, sl96, sl97, sl98, sl99, sl100, sl101, sl102, sl103, sl104, sl105, sl106, sl107, sl108, sl109, sl110, sl111, sl112, sl113, sl114, sl115, sl116, sl117, sl118, sl119, sl120, sl121, sl122, sl123, sl124, sl125, sl126, sl127, sl128, sl129, u130, u131, u132, u133, u134, u135, u136, u137, u138, u139, u140, u141, u142, u143, u144, u145, u146, u147, u148, u149, u150, u151, u152, u153, u154, u155, u156, u157, u158, u159, u160, u161, u162, u163, u164, u165, u166, u167, u168, u169, u170, u171, u172, u173, u174, u175, u176, u177, u178, u179, u180, u181, u182, u183, u184, u185, u186, u187, u188, u189, .bool false, sl191, sl192], []⟩ (W.drewN q))) :
    Code.wp Tryd.prog (regionOf Tryd.f5.body 25) (Exit.then K Q) ⟨#[sl0, sl1, sl2, sl3, sl4, sl5, sl6, sl7, sl8, sl9, sl10, .slice (some ada) ma ca7, .slice (some adb) mb cb7, .slice (some adn) mn cn7, .slice (some add) md cd7, .slice (some ado) mo co7, .slice (some adx) mx cx7, .slice (some ady) my cy7, sl18, sl19, .int .i64 (i : Int), .int .i64 (k : Int), sl22, sl23, sl24, sl25, sl26, sl27, sl28, sl29, sl30, sl31, sl32, sl33, sl34, sl35, sl36, sl37, sl38, sl39, sl40, sl41, sl42, sl43, sl44, sl45, sl46, sl47, sl48, sl49, sl50, sl51, sl52, sl53, sl54, sl55, sl56, sl57, sl58, sl59, sl60, sl61, sl62, sl63, sl64, sl65, sl66, sl67, sl68, sl69, sl70, sl71, sl72, sl73, sl74, sl75, sl76, sl77, sl78, sl79, sl80, sl81, sl82, sl83, sl84, sl85, sl86, sl87, sl88, sl89, sl90, sl91, sl92, sl93, sl94, sl95, sl96, sl97, sl98, sl99, sl100, sl101, sl102, sl103, sl104, sl105, sl106, sl107, sl108, sl109, sl110, sl111, sl112, sl113, sl114, sl115, sl116, sl117, sl118, sl119, sl120, sl121, sl122, sl123, sl124, sl125, sl126, sl127, sl128, sl129, sl130, sl131, sl132, sl133, sl134, sl135, sl136, sl137, sl138, sl139, sl140, sl141, sl142, sl143, sl144, sl145, sl146, sl147, sl148, sl149, sl150, sl151, sl152, sl153, sl154, sl155, sl156, sl157, sl158, sl159, sl160, sl161, sl162, sl163, sl164, sl165, sl166, sl167, sl168, sl169, sl170, sl171, sl172, sl173, sl174, sl175, sl176, sl177, sl178, sl179, sl180, sl181, sl182, sl183, sl184, sl185, sl186, sl187, sl188, sl189, sl190, sl191, sl192], []⟩ W := by
  have hub := Tryd.underlying35
  conv => arg 2; whnf
  go_quiet (fail)
  go_wp2
  exact HK.out _ _ _ _ _ _ _ _ _ _ _ _ _ _ _ _ _ _ _ _ _ _ _ _ _ _ _ _ _ _ _ _ _ _ _ _ _ _ _ _ _ _ _ _ _ _ _ _ _ _ _ _ _ _ _ _ _ _ _ _ _
end Go.Proofs.YtjjnokodkeekhaaDoor.X

namespace Go.Proofs.YtjjnokodkeekhaaDoor.X
open Go.RowKit Go.Proofs.YtjjnokodkeekhaaDoorW.PrintWords Go.Proofs.YtjjnokodkeekhaaDoorW.PrintLast Go.Proofs.YtjjnokodkeekhaaDoorW.PrintMore
open Go.Proofs.YtjjnokodkeekhaaDoor.P Go.Proofs.YtjjnokodkeekhaaDoor.Evx
set_option linter.unusedSimpArgs false
set_option linter.unusedVariables false
set_option maxHeartbeats 16000000 in
set_option maxRecDepth 100000 in
theorem logic_loop (st lp : List Int) (A1 A2 : Option Addr) (c1 c2 gL : Nat) (wn : World) (ra rb rn rd ro rx ry : List Bool) (ada adb adn add ado adx ady : Addr) (ca7 cb7 cn7 cd7 co7 cx7 cy7 : Nat) (sl0 sl1 sl2 sl3 sl4 sl6 sl7 sl8 sl9 sl18 sl19 sl20 sl21 sl22 sl23 sl24 sl25 sl26 sl27 sl28 sl29 sl30 sl31 sl32 sl33 sl34 sl35 sl36 sl37 sl38 sl39 sl40 sl41 sl42 sl43 sl44 sl45 sl46 sl47 sl48 sl49 sl50 sl51 sl52 sl53 sl54 sl55 sl56 sl57 sl58 sl59 sl60 sl61 sl62 sl63 sl64 sl65 sl66 sl67 sl68 sl69 sl70 sl71 sl72 sl73 sl74 sl75 sl76 sl77 sl78 sl79 sl80 sl81 sl82 sl83 sl84 sl85 sl86 sl87 sl88 sl89 sl90 sl91 sl92 sl93 sl94 sl95 sl96 sl97 sl98 sl99 sl100 sl101 sl102 sl103 sl104 sl105 sl106 sl107 sl108 sl109 sl110 sl111 sl112 sl113 sl114 sl115 sl116 sl117 sl120 sl121 sl122 sl123 sl124 sl125 sl126 sl127 sl128 sl129 sl130 sl131 sl132 sl133 sl134 sl135 sl136 sl137 sl138 sl139 sl140 sl141 sl142 sl143 sl144 sl145 sl146 sl147 sl148 sl149 sl150 sl151 sl152 sl153 sl154 sl155 sl156 sl157 sl158 sl159 sl160 sl161 sl162 sl163 sl164 sl165 sl166 sl167 sl168 sl169 sl170 sl171 sl172 sl173 sl174 sl175 sl176 sl177 sl178 sl179 sl180 sl181 sl182 sl183 sl184 sl185 sl186 sl187 sl188 sl189 sl190 sl191 sl192 : Value)
    (HLn : Aside0 (wn.heap[gL]? = some (.cells #[.slice A1 st.length c1, .slice A2 lp.length c2] 27 (0, 0))))
    (HAT2 : Aside0 (∀ i, i < st.length + lp.length → rn.getD i false = (!ra.getD i false) ∧ rd.getD i false = (ra.getD i false && rb.getD i false) ∧ ro.getD i false = (ra.getD i false || rb.getD i false) ∧ rx.getD i false = ra.getD (nextS (st.length + lp.length) st.length i) false ∧ ry.getD i false = true))
    (HSM : Aside0 (st.length ≤ 3000 ∧ 1 ≤ lp.length ∧ lp.length ≤ 27000))
    (HLA : Aside0 (ra.length = st.length + lp.length ∧ rb.length = st.length + lp.length ∧ rn.length = st.length + lp.length ∧ rd.length = st.length + lp.length ∧ ro.length = st.length + lp.length ∧ rx.length = st.length + lp.length ∧ ry.length = st.length + lp.length))
    (HCa : Aside0 (∀ (j : Nat), j < ra.length → wn.cell? (ada.add j) = some (.bool (ra.getD j false))))
    (HCb : Aside0 (∀ (j : Nat), j < rb.length → wn.cell? (adb.add j) = some (.bool (rb.getD j false))))
    (HCn : Aside0 (∀ (j : Nat), j < rn.length → wn.cell? (adn.add j) = some (.bool (rn.getD j false))))
    (HCd : Aside0 (∀ (j : Nat), j < rd.length → wn.cell? (add.add j) = some (.bool (rd.getD j false))))
    (HCo : Aside0 (∀ (j : Nat), j < ro.length → wn.cell? (ado.add j) = some (.bool (ro.getD j false))))
    (HCx : Aside0 (∀ (j : Nat), j < rx.length → wn.cell? (adx.add j) = some (.bool (rx.getD j false))))
    (HCy : Aside0 (∀ (j : Nat), j < ry.length → wn.cell? (ady.add j) = some (.bool (ry.getD j false))))
    (K : Act → World → Prop) (Q : Exit → Act → World → Prop) (HK : Aside0 (∀ (u6 u20 u21 u119 u120 u121 u122 u123 u124 u125 u126 u127 u128 u129 u130 u131 u132 u133 u134 u135 u136 u137 u138 u139 u140 u141 u142 u143 u144 u145 u146 u147 u148 u149 u150 u151 u152 u153 u154 u155 u156 u157 u158 u159 u160 u161 u162 u163 u164 u165 u166 u167 u168 u169 u170 u171 u172 u173 u174 u175 u176 u177 u178 u179 u180 u181 u182 u183 u184 u185 u186 u187 u188 u189 u190 u191 : Value) (w' : World), Below wn.heap.size wn w' → K ⟨#[sl0, sl1, sl2, sl3, sl4, .pointer (some ⟨gL, 0, none⟩), u6, sl7, sl8, sl9, .int .i64 ((st.length : Int) + (lp.length : Int)), .slice (some ada) ra.length ca7, .slice (some adb) rb.length cb7, .slice (some adn) rn.length cn7, .slice (some add) rd.length cd7, .slice (some ado) ro.length co7, .slice (some adx) rx.length cx7, .slice (some ady) ry.length cy7, sl18, sl19, u20, u21, sl22, sl23, sl24, sl25, sl26, sl27, sl28, sl29, sl30, sl31, sl32, sl33, sl34, sl35, sl36, sl37, sl38, sl39, sl40, sl41, sl42, sl43, sl44, sl45, sl46, sl47, sl48, sl49, sl50, sl51, sl52, sl53, sl54, sl55, sl56, sl57, sl58, sl59, sl60, sl61, sl62, sl63, sl64, sl65, sl66, sl67, sl68, sl69, sl70, sl71, sl72, sl73, sl74, sl75, sl76, sl77, sl78, sl79, sl80, sl81, sl82, sl83, sl84, sl85, sl86, sl87, sl88, sl89, sl90, sl91, sl92, sl93, sl94, sl95, sl96, sl97, sl98, sl99, sl100, sl101, sl102, sl103, sl104, sl105, sl106, sl107, sl108, sl109, sl110, sl111, sl112, sl113, sl114, sl115, sl116, sl117, .int .i64 ((st.length : Int) + (lp.length : Int)), u119, u120, u121, u122, u123, u124, u125, u126, u127, u128, u129, u130, u131, u132, u133, u134, u135, u136, u137, u138, u139, u140, u141, u142, u143, u144, u145, u146, u147, u148, u149, u150, u151, u152, u153, u154, u155, u156, u157, u158, u159, u160, u161, u162, u163, u164, u165, u166, u167, u168, u169, u170, u171, u172, u173, u174, u175, u176, u177, u178, u179, u180, u181, u182, u183, u184, u185, u186, u187, u188, u189, u190, u191, sl192], []⟩ w')) :
    Code.wp Tryd.prog (bodyOf Tryd.f5.body 4) (Exit.then K Q) ⟨#[sl0, sl1, sl2, sl3, sl4, .pointer (some ⟨gL, 0, none⟩), sl6, sl7, sl8, sl9, .int .i64 ((st.length : Int) + (lp.length : Int)), .slice (some ada) ra.length ca7, .slice (some adb) rb.length cb7, .slice (some adn) rn.length cn7, .slice (some add) rd.length cd7, .slice (some ado) ro.length co7, .slice (some adx) rx.length cx7, .slice (some ady) ry.length cy7, sl18, sl19, sl20, sl21, sl22, sl23, sl24, sl25, sl26, sl27, sl28, sl29, sl30, sl31, sl32, sl33, sl34, sl35, sl36, sl37, sl38, sl39, sl40, sl41, sl42, sl43, sl44, sl45, sl46, sl47, sl48, sl49, sl50, sl51, sl52, sl53, sl54, sl55, sl56, sl57, sl58, sl59, sl60, sl61, sl62, sl63, sl64, sl65, sl66, sl67, sl68, sl69, sl70, sl71, sl72, sl73, sl74, sl75, sl76, sl77, sl78, sl79, sl80, sl81, sl82, sl83, sl84, sl85, sl86, sl87, sl88, sl89, sl90, sl91, sl92, sl93, sl94, sl95, sl96, sl97, sl98, sl99, sl100, sl101, sl102, sl103, sl104, sl105, sl106, sl107, sl108, sl109, sl110, sl111, sl112, sl113, sl114, sl115, sl116, sl117, .int .i64 ((st.length : Int) + (lp.length : Int)), .int .i64 0, sl120, sl121, sl122, sl123, sl124, sl125, sl126, sl127, sl128, sl129, sl130, sl131, sl132, sl133, sl134, sl135, sl136, sl137, sl138, sl139, sl140, sl141, sl142, sl143, sl144, sl145, sl146, sl147, sl148, sl149, sl150, sl151, sl152, sl153, sl154, sl155, sl156, sl157, sl158, sl159, sl160, sl161, sl162, sl163, sl164, sl165, sl166, sl167, sl168, sl169, sl170, sl171, sl172, sl173, sl174, sl175, sl176, sl177, sl178, sl179, sl180, sl181, sl182, sl183, sl184, sl185, sl186, sl187, sl188, sl189, sl190, sl191, sl192], []⟩ wn := by
  have huF := Tryd.underlying24
  have huW := Tryd.underlying27
  have hub := Tryd.underlying35
  conv => arg 2; whnf
  go_wp2
  go_loopg [119] (st.length + lp.length) (fun kq v119 w' => ∃ i : Nat, i + kq = st.length + lp.length ∧ v119 = .int .i64 i ∧ Aside0 (Below wn.heap.size wn w'))
  case atStart => exact ⟨0, by omega, rfl, ⟨Below.refl _ _⟩⟩
  case round =>
    obtain ⟨WX, rfl⟩ : ∃ W : World, W = wr := ⟨_, rfl⟩
    obtain ⟨i, hi, rfl, HBi⟩ := hrel
    have HI := Aside0.mk hi
    clear hi
    by_cases hlt : i < st.length + lp.length
    · obtain ⟨gn, gd, go_, gx, gy⟩ := HAT2.out i hlt
      have hsm := HSM.out
      obtain ⟨la, lb, ln, ld, lo, lx, ly⟩ := HLA.out
      have iha : i < ra.length := by rw [la]; exact hlt
      have za := (HBi.out.cell (World.block_lt_of_cell? wn _ (HCa.out i iha))).trans (HCa.out i iha)
      have ihb : i < rb.length := by rw [lb]; exact hlt
      have zb := (HBi.out.cell (World.block_lt_of_cell? wn _ (HCb.out i ihb))).trans (HCb.out i ihb)
      have ihn : i < rn.length := by rw [ln]; exact hlt
      have zn := (HBi.out.cell (World.block_lt_of_cell? wn _ (HCn.out i ihn))).trans (HCn.out i ihn)
      have ihd : i < rd.length := by rw [ld]; exact hlt
      have zd := (HBi.out.cell (World.block_lt_of_cell? wn _ (HCd.out i ihd))).trans (HCd.out i ihd)
      have iho : i < ro.length := by rw [lo]; exact hlt
      have zo := (HBi.out.cell (World.block_lt_of_cell? wn _ (HCo.out i iho))).trans (HCo.out i iho)
      have ihx : i < rx.length := by rw [lx]; exact hlt
      have zx := (HBi.out.cell (World.block_lt_of_cell? wn _ (HCx.out i ihx))).trans (HCx.out i ihx)
      have ihy : i < ry.length := by rw [ly]; exact hlt
      have zy := (HBi.out.cell (World.block_lt_of_cell? wn _ (HCy.out i ihy))).trans (HCy.out i ihy)
      rw [gn] at zn
      rw [gd] at zd
      rw [go_] at zo
      rw [gx] at zx
      rw [gy] at zy
      have hwi : i + 1 ≤ 30000 := by omega
      obtain ⟨kx, hkx⟩ : ∃ kx, kx = nextS (st.length + lp.length) st.length i := ⟨_, rfl⟩
      rw [← hkx] at zx
      have hnl : kx < ra.length := by rw [la, hkx]; exact next_in i hsm
      have zk := (HBi.out.cell (World.block_lt_of_cell? wn _ (HCa.out _ hnl))).trans (HCa.out _ hnl)
      have hil := int_lt hlt
      have HKX := Aside0.mk hkx
      have HLT := Aside0.mk hlt
      have HLi := Aside0.mk ((HBi.out.block _ (blk_lt HLn.out)).trans HLn.out)
      have qLi0 := (blk_cell HLi.out 0).trans rfl
      have qLi1 := (blk_cell HLi.out 1).trans rfl
      clear gn gd go_ gx gy la lb ln ld lo lx ly hsm hkx
      generalize ra.getD kx false = z at *
      generalize ra.getD i false = x at *
      generalize rb.getD i false = y at *
      go_upto_if 126 with fail
      go_cut [21] from 120 to 191 (fun v21 wx => v21 = .int .i64 (kx : Int) ∧ wx = WX)
      case first =>
        by_cases he : i + 1 = st.length + lp.length
        · obtain ⟨e1, e2⟩ := next_last he
          rw [e1] at HKX
          clear e1 he
          go_wp2
          go_meet
          exact ⟨by rw [HKX.out], rfl⟩
        · obtain ⟨e1, e2⟩ := next_mid he HLT.out
          rw [e1] at HKX
          clear e1 he
          go_wp2
          go_meet
          exact ⟨by rw [HKX.out]; first | rfl | go_num | simp, rfl⟩
      case rest =>
        obtain ⟨rfl, hwc⟩ := hcut
        rw [hwc]
        clear hwc wc qLi0 qLi1
        have HRD := Aside0.mk (fun q => pw_below_drewN HBi.out q)
        go_upto_region 25 with fail
        cases x <;> cases y
        · simp only [Bool.not_true, Bool.not_false, Bool.and_true, Bool.and_false, Bool.or_true, Bool.or_false, Bool.true_and, Bool.false_and, Bool.true_or, Bool.false_or] at zn zd zo
          refine logic_r25ff z i kx _ _ _ _ _ _ _ iha ihb ihn ihd iho ihx ihy hnl WX _ _ _ _ _ _ _ _ _ _ _ _ _ _ _ _ _ _ _ _ _ _ _ _ _ _ _ _ _ _ _ _ _ _ _ _ _ _ _ _ _ _ _ _ _ _ _ _ _ _ _ _ _ _ _ _ _ _ _ _ _ _ _ _ _ _ _ _ _ _ _ _ _ _ _ _ _ _ _ _ _ _ _ _ _ _ _ _ _ _ _ _ _ _ _ _ _ _ _ _ _ _ _ _ _ _ _ _ _ _ _ _ _ _ _ _ _ _ _ _ _ _ _ _ _ _ _ _ _ _ _ _ _ _ _ _ _ _ _ _ _ _ _ _ _ _ _ _ _ _ _ _ _ _ _ _ _ _ _ _ _ _ _ _ _ _ _ _ _ _ _ _ _ _ _ _ _ _ _ _ _ _ _ _ _ _ _ _ _ _ _ _ _ _ _ _ _ _ za zb zn zd zo zx zy zk _ _ ⟨fun v130 v131 v132 v133 v134 v135 v136 v137 v138 v139 v140 v141 v142 v143 v144 v145 v146 v147 v148 v149 v150 v151 v152 v153 v154 v155 v156 v157 v158 v159 v160 v161 v162 v163 v164 v165 v166 v167 v168 v169 v170 v171 v172 v173 v174 v175 v176 v177 v178 v179 v180 v181 v182 v183 v184 v185 v186 v187 v188 v189 q => ?_⟩
          go_step
          go_wp2
          go_roundg (gk - 1)
          case measure => have := HI.out; omega
          case rel => exact ⟨i + 1, by have := HI.out; omega, by go_num, ⟨HRD.out q⟩⟩
        · simp only [Bool.not_true, Bool.not_false, Bool.and_true, Bool.and_false, Bool.or_true, Bool.or_false, Bool.true_and, Bool.false_and, Bool.true_or, Bool.false_or] at zn zd zo
          refine logic_r25ft z i kx _ _ _ _ _ _ _ iha ihb ihn ihd iho ihx ihy hnl WX _ _ _ _ _ _ _ _ _ _ _ _ _ _ _ _ _ _ _ _ _ _ _ _ _ _ _ _ _ _ _ _ _ _ _ _ _ _ _ _ _ _ _ _ _ _ _ _ _ _ _ _ _ _ _ _ _ _ _ _ _ _ _ _ _ _ _ _ _ _ _ _ _ _ _ _ _ _ _ _ _ _ _ _ _ _ _ _ _ _ _ _ _ _ _ _ _ _ _ _ _ _ _ _ _ _ _ _ _ _ _ _ _ _ _ _ _ _ _ _ _ _ _ _ _ _ _ _ _ _ _ _ _ _ _ _ _ _ _ _ _ _ _ _ _ _ _ _ _ _ _ _ _ _ _ _ _ _ _ _ _ _ _ _ _ _ _ _ _ _ _ _ _ _ _ _ _ _ _ _ _ _ _ _ _ _ _ _ _ _ _ _ _ _ _ _ _ _ za zb zn zd zo zx zy zk _ _ ⟨fun v130 v131 v132 v133 v134 v135 v136 v137 v138 v139 v140 v141 v142 v143 v144 v145 v146 v147 v148 v149 v150 v151 v152 v153 v154 v155 v156 v157 v158 v159 v160 v161 v162 v163 v164 v165 v166 v167 v168 v169 v170 v171 v172 v173 v174 v175 v176 v177 v178 v179 v180 v181 v182 v183 v184 v185 v186 v187 v188 v189 q => ?_⟩
          go_step
          go_wp2
          go_roundg (gk - 1)
          case measure => have := HI.out; omega
          case rel => exact ⟨i + 1, by have := HI.out; omega, by go_num, ⟨HRD.out q⟩⟩
        · simp only [Bool.not_true, Bool.not_false, Bool.and_true, Bool.and_false, Bool.or_true, Bool.or_false, Bool.true_and, Bool.false_and, Bool.true_or, Bool.false_or] at zn zd zo
          refine logic_r25tf z i kx _ _ _ _ _ _ _ iha ihb ihn ihd iho ihx ihy hnl WX _ _ _ _ _ _ _ _ _ _ _ _ _ _ _ _ _ _ _ _ _ _ _ _ _ _ _ _ _ _ _ _ _ _ _ _ _ _ _ _ _ _ _ _ _ _ _ _ _ _ _ _ _ _ _ _ _ _ _ _ _ _ _ _ _ _ _ _ _ _ _ _ _ _ _ _ _ _ _ _ _ _ _ _ _ _ _ _ _ _ _ _ _ _ _ _ _ _ _ _ _ _ _ _ _ _ _ _ _ _ _ _ _ _ _ _ _ _ _ _ _ _ _ _ _ _ _ _ _ _ _ _ _ _ _ _ _ _ _ _ _ _ _ _ _ _ _ _ _ _ _ _ _ _ _ _ _ _ _ _ _ _ _ _ _ _ _ _ _ _ _ _ _ _ _ _ _ _ _ _ _ _ _ _ _ _ _ _ _ _ _ _ _ _ _ _ _ _ za zb zn zd zo zx zy zk _ _ ⟨fun v130 v131 v132 v133 v134 v135 v136 v137 v138 v139 v140 v141 v142 v143 v144 v145 v146 v147 v148 v149 v150 v151 v152 v153 v154 v155 v156 v157 v158 v159 v160 v161 v162 v163 v164 v165 v166 v167 v168 v169 v170 v171 v172 v173 v174 v175 v176 v177 v178 v179 v180 v181 v182 v183 v184 v185 v186 v187 v188 v189 q => ?_⟩
          go_step
          go_wp2
          go_roundg (gk - 1)
          case measure => have := HI.out; omega
          case rel => exact ⟨i + 1, by have := HI.out; omega, by go_num, ⟨HRD.out q⟩⟩
        · simp only [Bool.not_true, Bool.not_false, Bool.and_true, Bool.and_false, Bool.or_true, Bool.or_false, Bool.true_and, Bool.false_and, Bool.true_or, Bool.false_or] at zn zd zo
          refine logic_r25tt z i kx _ _ _ _ _ _ _ iha ihb ihn ihd iho ihx ihy hnl WX _ _ _ _ _ _ _ _ _ _ _ _ _ _ _ _ _ _ _ _ _ _ _ _ _ _ _ _ _ _ _ _ _ _ _ _ _ _ _ _ _ _ _ _ _ _ _ _ _ _ _ _ _ _ _ _ _ _ _ _ _ _ _ _ _ _ _ _ _ _ _ _ _ _ _ _ _ _ _ _ _ _ _ _ _ _ _ _ _ _ _ _ _ _ _ _ _ _ _ _ _ _ _ _ _ _ _ _ _ _ _ _ _ _ _ _ _ _ _ _ _ _ _ _ _ _ _ _ _ _ _ _ _ _ _ _ _ _ _ _ _ _ _ _ _ _ _ _ _ _ _ _ _ _ _ _ _ _ _ _ _ _ _ _ _ _ _ _ _ _ _ _ _ _ _ _ _ _ _ _ _ _ _ _ _ _ _ _ _ _ _ _ _ _ _ _ _ _ za zb zn zd zo zx zy zk _ _ ⟨fun v130 v131 v132 v133 v134 v135 v136 v137 v138 v139 v140 v141 v142 v143 v144 v145 v146 v147 v148 v149 v150 v151 v152 v153 v154 v155 v156 v157 v158 v159 v160 v161 v162 v163 v164 v165 v166 v167 v168 v169 v170 v171 v172 v173 v174 v175 v176 v177 v178 v179 v180 v181 v182 v183 v184 v185 v186 v187 v188 v189 q => ?_⟩
          go_step
          go_wp2
          go_roundg (gk - 1)
          case measure => have := HI.out; omega
          case rel => exact ⟨i + 1, by have := HI.out; omega, by go_num, ⟨HRD.out q⟩⟩
    · have hil := int_ge hlt
      have HBe := HBi.out
      go_wp2
      exact HK.out _ _ _ _ _ _ _ _ _ _ _ _ _ _ _ _ _ _ _ _ _ _ _ _ _ _ _ _ _ _ _ _ _ _ _ _ _ _ _ _ _ _ _ _ _ _ _ _ _ _ _ _ _ _ _ _ _ _ _ _ _ _ _ _ _ _ _ _ _ _ _ _ _ _ _ _ _ HBe
end Go.Proofs.YtjjnokodkeekhaaDoor.X

namespace Go.Proofs.YtjjnokodkeekhaaDoor.X
open Go.RowKit Go.Proofs.YtjjnokodkeekhaaDoorW.PrintWords Go.Proofs.YtjjnokodkeekhaaDoorW.PrintMore
open Go.Proofs.YtjjnokodkeekhaaDoor.P Go.Proofs.YtjjnokodkeekhaaDoor.Evx
set_option linter.unusedVariables false
set_option linter.unusedSimpArgs false
/-- What weigh tells is a number from 1 to 1000. -/
def WeiAt (s : S24) : Prop := ∀ (d r : Int), 0 ≤ d → d ≤ 41 → 0 ≤ r → r ≤ 500 → ∃ n : Int, Ev (fun k => parrylaw22_weigh.f k s.f0 s.f1 s.f2 d r) n ∧ 1 ≤ n ∧ n ≤ 1000
theorem weigh_l (kids : List S24) (d r : Int) (hd0 : 0 ≤ d) (hd : d ≤ 40) (hr0 : 1 ≤ r) (hr : r ≤ 500) (ih : ∀ k ∈ kids, WeiAt k) :
    ∀ (e j : Nat) (n : Int), j + e = kids.length → (j : Int) < n → n ≤ r → ∃ n' : Int, Ev (fun k => parrylaw22_weigh.l0 k d r n kids (kids.length : Int) j) n' ∧ 1 ≤ n' ∧ n' ≤ 1000
  | 0, j, n, hj, h1, h2 => ⟨n, ev_step (fun k => rfl) (ev_neg (by omega) (ev_some _)), by omega, by omega⟩
  | e + 1, j, n, hj, h1, h2 => by
    have hlt : j < kids.length := by omega
    obtain ⟨x, hx, x1, x2⟩ := ih _ (List.getElem_mem hlt) (d + 1) (r - n) (by omega) (by omega) (by omega) (by omega)
    by_cases hc : n + x > r
    · refine ⟨1000, ev_step (fun k => rfl) (ev_pos (by omega) (ev_pos (by omega) (ev_pos (by omega) ?_))), by omega, by omega⟩
      rw [rdT_nat kids j hlt, w64 (x := d + 1) (by omega) (by omega), w64 (x := r - n) (by omega) (by omega)]
      refine ev_bind hx ?_
      rw [w64 (by omega) (by omega)]
      exact ev_pos hc (ev_some _)
    · obtain ⟨n', hn', a1, a2⟩ := weigh_l kids d r hd0 hd hr0 hr ih e (j + 1) (n + x) (by omega) (by omega) (by omega)
      refine ⟨n', ev_step (fun k => rfl) (ev_pos (by omega) (ev_pos (by omega) (ev_pos (by omega) ?_))), a1, a2⟩
      rw [rdT_nat kids j hlt, w64 (x := d + 1) (by omega) (by omega), w64 (x := r - n) (by omega) (by omega)]
      refine ev_bind hx ?_
      rw [w64 (x := n + x) (by omega) (by omega), w64 (x := (j : Int) + 1) (by omega) (by omega)]
      refine ev_neg hc ?_
      exact_mod_cast hn'
mutual
theorem weigh_ev : ∀ s : S24, WeiAt s
  | ⟨op, m, kids⟩ => by
    intro d r h1 h2 h3 h4
    have ih := weigh_evL kids
    by_cases hd : d > 40
    · exact ⟨1000, ev_step (fun k => rfl) (ev_pos hd (ev_step (f := fun _ => some 1000) (fun k => rfl) (ev_some _))), by omega, by omega⟩
    · by_cases hr : r < 1
      · exact ⟨1000, ev_step (fun k => rfl) (ev_neg hd (ev_step (fun k => rfl) (ev_pos (decide_eq_true hr) (ev_some _)))), by omega, by omega⟩
      · obtain ⟨n', hn', a1, a2⟩ := weigh_l kids d r h1 (by omega) (by omega) h4 ih kids.length 0 1 (by omega) (by omega) (by omega)
        exact ⟨n', ev_step (fun k => rfl) (ev_neg hd (ev_step (fun k => rfl) (ev_neg (by rw [decide_eq_false hr]; simp) hn'))), a1, a2⟩
theorem weigh_evL : ∀ l : List S24, ∀ k ∈ l, WeiAt k
  | [], k, hk => by cases hk
  | a :: r, k, hk => by
    rcases List.mem_cons.1 hk with e | e
    · rw [e]; exact weigh_ev a
    · exact weigh_evL r k e
end
theorem heavy_ev (s : S24) : ∃ n : Int, Ev (fun k => parrylaw22_Heavy.f k s.f0 s.f1 s.f2) n ∧ 0 ≤ n ∧ n ≤ 1000 := by
  obtain ⟨n, hn, a1, a2⟩ := weigh_ev s 0 500 (by omega) (by omega) (by omega) (by omega)
  unfold parrylaw22_Heavy.f
  by_cases h : n > 300
  · exact ⟨n, ev_bind hn (ev_pos h (ev_some _)), by omega, by omega⟩
  · exact ⟨0, ev_bind hn (ev_neg h (ev_some _)), by omega, by omega⟩
theorem long_some (st lp : List Int) : ∃ n : Int, parrylaw22_Long.f st lp = some n ∧ 0 ≤ n ∧ n ≤ 1 ∧ (n = 0 → st.length ≤ 60 ∧ lp.length ≤ 60) := by
  unfold parrylaw22_Long.f
  by_cases h1 : (st.length : Int) > 60
  · exact ⟨1, by rw [if_pos h1], by omega, by omega, by omega⟩
  · by_cases h2 : (lp.length : Int) > 60
    · exact ⟨1, by rw [if_neg h1, if_pos h2], by omega, by omega, by omega⟩
    · exact ⟨0, by rw [if_neg h1, if_neg h2], by omega, by omega, by omega⟩
end Go.Proofs.YtjjnokodkeekhaaDoor.X

namespace Go.Proofs.YtjjnokodkeekhaaDoor.X
open Go.RowKit Go.Proofs.YtjjnokodkeekhaaDoorW.PrintWords Go.Proofs.YtjjnokodkeekhaaDoorW.PrintLast Go.Proofs.YtjjnokodkeekhaaDoorW.PrintMore
open Go.Proofs.YtjjnokodkeekhaaDoor.P Go.Proofs.YtjjnokodkeekhaaDoor.Evx
set_option linter.unusedSimpArgs false
set_option linter.unusedVariables false
def flo.T1 : Bool × List (List Nat × List Nat) := (true, [([], []), ([0], [0]), ([], []), ([2, 1], [2]), ([1, 3], [1, 3]), ([], []), ([5, 3], [5]), ([4, 6], [4, 6]), ([7], [7]), ([8, 6], [8]), ([9], [9]), ([10, 9, 9], [9, 10]), ([11, 9], [9, 11]), ([9, 12], [9, 12])])
def flo.B1 : List Nat := [0, 1, 0, 7, 15, 0, 47, 127, 255, 511, 1023, 2047, 4095, 8191]
theorem flo.tab1 : rtab .any (opsOf Tryd.f5 1) = flo.T1 := by kernel_rfl
theorem flo.bits1 : waitsOk flo.T1.2 flo.B1 = true := by kernel_rfl
def flo.T3 : Bool × List (List Nat × List Nat) := (true, [([], []), ([0], [0]), ([1], [1]), ([], []), ([], []), ([3, 4], [3, 4]), ([5, 2], [5]), ([], []), ([], []), ([7, 8], [7, 8]), ([9, 6], [9]), ([], []), ([11], [11]), ([12, 10], [12]), ([13], []), ([2, 6, 10, 13, 14], [2, 6, 10, 13, 14]), ([15, 14, 0, 1, 2, 3, 4, 5, 6, 7, 8, 9, 10, 11, 12, 13, 14, 15], [15])])
def flo.B3 : List Nat := [0, 1, 3, 0, 0, 24, 63, 0, 0, 384, 1023, 0, 2048, 8191, 16383, 32767, 65535]
theorem flo.tab3 : rtab .any (opsOf Tryd.f5 3) = flo.T3 := by kernel_rfl
theorem flo.bits3 : waitsOk flo.T3.2 flo.B3 = true := by kernel_rfl
def flo.T11 : Bool × List (List Nat × List Nat) := (true, [([], []), ([], []), ([0, 1], [0, 1]), ([], []), ([], []), ([3, 4, 2], [3, 4]), ([2, 5, 0, 1, 2], [2]), ([5, 6, 0, 1, 2, 3, 4, 5, 6], [5])])
def flo.B11 : List Nat := [0, 0, 3, 0, 0, 31, 63, 127]
theorem flo.tab11 : rtab .any (opsOf Tryd.f5 11) = flo.T11 := by kernel_rfl
theorem flo.bits11 : waitsOk flo.T11.2 flo.B11 = true := by kernel_rfl
def flo.T12 : Bool × List (List Nat × List Nat) := (true, [([], []), ([0], [0]), ([1], [1]), ([], []), ([2, 3], [2, 3]), ([], []), ([5], [5]), ([6], [6]), ([], []), ([7, 8, 4], [7, 8]), ([], []), ([10], [10]), ([11], [11]), ([], []), ([12, 13, 9], [12, 13]), ([], []), ([15], [15]), ([16], [16]), ([], []), ([17, 18, 14], [17, 18]), ([], []), ([20], [20]), ([21], [21]), ([], []), ([22, 23, 19], [22, 23]), ([4, 24, 0, 1, 2, 3, 4], [4]), ([9, 25, 0, 1, 2, 3, 4, 5, 6, 7, 8, 9, 25], [9]), ([14, 26, 0, 1, 2, 3, 4, 5, 6, 7, 8, 9, 10, 11, 12, 13, 14, 25, 26], [14]), ([19, 27, 0, 1, 2, 3, 4, 5, 6, 7, 8, 9, 10, 11, 12, 13, 14, 15, 16, 17, 18, 19, 25, 26, 27], [19]), ([24, 28, 0, 1, 2, 3, 4, 5, 6, 7, 8, 9, 10, 11, 12, 13, 14, 15, 16, 17, 18, 19, 20, 21, 22, 23, 24, 25, 26, 27, 28], [24])])
def flo.B12 : List Nat := [0, 1, 3, 0, 15, 0, 32, 96, 0, 511, 0, 1024, 3072, 0, 16383, 0, 32768, 98304, 0, 524287, 0, 1048576, 3145728, 0, 16777215, 33554431, 67108863, 134217727, 268435455, 536870911]
theorem flo.tab12 : rtab .any (opsOf Tryd.f5 12) = flo.T12 := by kernel_rfl
theorem flo.bits12 : waitsOk flo.T12.2 flo.B12 = true := by kernel_rfl
theorem C_of5 {w : World} {g : Nat} {a b c d e : S24} {A B C D E : Option Addr} {ca cb cc cd ce : Nat} (h : w.heap[g]? = some (.cells #[.int .i64 a.f0, .int .i64 a.f1, .slice A a.f2.length ca, .int .i64 b.f0, .int .i64 b.f1, .slice B b.f2.length cb, .int .i64 c.f0, .int .i64 c.f1, .slice C c.f2.length cc, .int .i64 d.f0, .int .i64 d.f1, .slice D d.f2.length cd, .int .i64 e.f0, .int .i64 e.f1, .slice E e.f2.length ce] 24 (0, 0)))
    (ha : Kd.C k24 w A a.f2.length a.f2) (hca : a.f2.length ≤ ca) (hb : Kd.C k24 w B b.f2.length b.f2) (hcb : b.f2.length ≤ cb) (hc : Kd.C k24 w C c.f2.length c.f2) (hcc : c.f2.length ≤ cc) (hd : Kd.C k24 w D d.f2.length d.f2) (hcd : d.f2.length ≤ cd) (he : Kd.C k24 w E e.f2.length e.f2) (hce : e.f2.length ≤ ce) : Kd.C k24 w (some ⟨g, 0, none⟩) 5 [a, b, c, d, e] := by
  have hK1 := k24_mk w a hca ha
  have hK2 := k24_mk w b hcb hb
  have hK3 := k24_mk w c hcc hc
  have hK4 := k24_mk w d hcd hd
  have hK5 := k24_mk w e hce he
  refine ⟨rfl, by omega, fun _ => ⟨_, rfl, fun j p hj => ?_⟩⟩
  have hs : k24.sz = 3 := rfl
  match j, hj with
  | 0, hj =>
    obtain rfl : a = p := by simpa using hj
    refine ⟨_, rfl, hK1, fun i u hu => ?_⟩
    rw [hs, add_at, blk_cell h]
    match i, hu with
    | 0, hu => exact hu
    | 1, hu => exact hu
    | 2, hu => exact hu
  | 1, hj =>
    obtain rfl : b = p := by simpa using hj
    refine ⟨_, rfl, hK2, fun i u hu => ?_⟩
    rw [hs, add_at, blk_cell h]
    match i, hu with
    | 0, hu => exact hu
    | 1, hu => exact hu
    | 2, hu => exact hu
  | 2, hj =>
    obtain rfl : c = p := by simpa using hj
    refine ⟨_, rfl, hK3, fun i u hu => ?_⟩
    rw [hs, add_at, blk_cell h]
    match i, hu with
    | 0, hu => exact hu
    | 1, hu => exact hu
    | 2, hu => exact hu
  | 3, hj =>
    obtain rfl : d = p := by simpa using hj
    refine ⟨_, rfl, hK4, fun i u hu => ?_⟩
    rw [hs, add_at, blk_cell h]
    match i, hu with
    | 0, hu => exact hu
    | 1, hu => exact hu
    | 2, hu => exact hu
  | 4, hj =>
    obtain rfl : e = p := by simpa using hj
    refine ⟨_, rfl, hK5, fun i u hu => ?_⟩
    rw [hs, add_at, blk_cell h]
    match i, hu with
    | 0, hu => exact hu
    | 1, hu => exact hu
    | 2, hu => exact hu
theorem idx7_0 (a0 a1 a2 a3 a4 a5 a6 : Value) (w : World) : (Instr.index 42 (.agg #[a0, a1, a2, a3, a4, a5, a6]) (.int .i64 0)).run Tryd.prog w = .ok a0 w := by kernel_rfl
theorem idx7_1 (a0 a1 a2 a3 a4 a5 a6 : Value) (w : World) : (Instr.index 42 (.agg #[a0, a1, a2, a3, a4, a5, a6]) (.int .i64 1)).run Tryd.prog w = .ok a1 w := by kernel_rfl
theorem idx7_2 (a0 a1 a2 a3 a4 a5 a6 : Value) (w : World) : (Instr.index 42 (.agg #[a0, a1, a2, a3, a4, a5, a6]) (.int .i64 2)).run Tryd.prog w = .ok a2 w := by kernel_rfl
theorem idx7_3 (a0 a1 a2 a3 a4 a5 a6 : Value) (w : World) : (Instr.index 42 (.agg #[a0, a1, a2, a3, a4, a5, a6]) (.int .i64 3)).run Tryd.prog w = .ok a3 w := by kernel_rfl
theorem idx7_4 (a0 a1 a2 a3 a4 a5 a6 : Value) (w : World) : (Instr.index 42 (.agg #[a0, a1, a2, a3, a4, a5, a6]) (.int .i64 4)).run Tryd.prog w = .ok a4 w := by kernel_rfl
theorem idx7_5 (a0 a1 a2 a3 a4 a5 a6 : Value) (w : World) : (Instr.index 42 (.agg #[a0, a1, a2, a3, a4, a5, a6]) (.int .i64 5)).run Tryd.prog w = .ok a5 w := by kernel_rfl
theorem idx7_6 (a0 a1 a2 a3 a4 a5 a6 : Value) (w : World) : (Instr.index 42 (.agg #[a0, a1, a2, a3, a4, a5, a6]) (.int .i64 6)).run Tryd.prog w = .ok a6 w := by kernel_rfl
set_option maxHeartbeats 16000000 in
set_option maxRecDepth 100000 in
theorem logic_calls (s t : S24) (st lp : List Int) (A B A1 A2 : Option Addr) (cp cq c1 c2 : Nat) (w : World) (hk : Kd.C k24 w A s.f2.length s.f2) (hc : s.f2.length ≤ cp) (hm : Kd.C k24 w B t.f2.length t.f2) (hcm : t.f2.length ≤ cq) (h1 : Kd.C (Kd.int .u32) w A1 st.length st) (hc1 : st.length ≤ c1) (h2 : Kd.C (Kd.int .u32) w A2 lp.length lp) (hc2 : lp.length ≤ c2) :
    Calls Tryd.prog 5 #[.agg #[.int .i64 s.f0, .int .i64 s.f1, .slice A s.f2.length cp], .agg #[.int .i64 t.f0, .int .i64 t.f1, .slice B t.f2.length cq], .agg #[.slice A1 st.length c1, .slice A2 lp.length c2]] w fun e w' => e = .returned (.bool true) ∧ Below w.heap.size w w' := by
  have huF := Tryd.underlying24
  have huW := Tryd.underlying27
  have huL := Tryd.underlying22
  have huu := Tryd.underlying25
  have hub := Tryd.underlying35
  have hu7 := Tryd.underlying42
  obtain ⟨V1, hV1⟩ : ∃ V1, V1 = w.alloc (.cells #[.int .i64 s.f0, .int .i64 s.f1, .slice A s.f2.length cp] 24) := ⟨_, rfl⟩
  obtain ⟨V2, hV2⟩ : ∃ V2, V2 = V1.alloc (.cells #[.int .i64 t.f0, .int .i64 t.f1, .slice B t.f2.length cq] 24) := ⟨_, rfl⟩
  obtain ⟨W0, hW0⟩ : ∃ W0, W0 = V2.alloc (.cells #[.slice A1 st.length c1, .slice A2 lp.length c2] 27) := ⟨_, rfl⟩
  have hz1 : V1.heap.size = w.heap.size + 1 := by rw [hV1]; simp
  have hz2 : V2.heap.size = w.heap.size + 1 + 1 := by rw [hV2, ← hz1]; simp
  have HB0 := Aside0.mk (show Below w.heap.size w W0 from by rw [hW0, hV2, hV1]; exact below_alloc (below_alloc (below_alloc (Below.refl _ _) _) _) _)
  have HF0 := Aside0.mk (show W0.heap[w.heap.size]? = some (.cells #[.int .i64 s.f0, .int .i64 s.f1, .slice A s.f2.length cp] 24 (0, 0)) from by rw [hW0, hV2, hV1]; exact blk_alloc (blk_alloc (heap_alloc_new w _) _) _)
  have HG0 := Aside0.mk (show W0.heap[w.heap.size + 1]? = some (.cells #[.int .i64 t.f0, .int .i64 t.f1, .slice B t.f2.length cq] 24 (0, 0)) from by rw [hW0, hV2, ← hz1]; exact blk_alloc (heap_alloc_new V1 _) _)
  have HL0 := Aside0.mk (show W0.heap[w.heap.size + 1 + 1]? = some (.cells #[.slice A1 st.length c1, .slice A2 lp.length c2] 27 (0, 0)) from by rw [hW0, ← hz2]; exact heap_alloc_new V2 _)
  have HW0 := Aside0.mk (show W0 = ((w.alloc (.cells #[.int .i64 s.f0, .int .i64 s.f1, .slice A s.f2.length cp] 24)).alloc (.cells #[.int .i64 t.f0, .int .i64 t.f1, .slice B t.f2.length cq] 24)).alloc (.cells #[.slice A1 st.length c1, .slice A2 lp.length c2] 27) from by rw [hW0, hV2, hV1])
  clear hV1 hV2 hW0 hz1 hz2
  have HKs := Aside0.mk hk
  have HKt := Aside0.mk hm
  have HK1 := Aside0.mk h1
  have HK2 := Aside0.mk h2
  obtain ⟨v1, hv1, n1, m1⟩ := heavy_ev s
  obtain ⟨v2, hv2, n2, m2⟩ := heavy_ev t
  obtain ⟨v3, hv3, n3, m3, _⟩ := long_some st lp
  obtain ⟨k1, hk1⟩ := hv1.rounds
  obtain ⟨k2, hk2⟩ := hv2.rounds
  have HHF := Aside0.mk (fun W (h : Below w.heap.size w W) => parrylaw22_Heavy.calls k1 s.f0 s.f1 A cp s.f2 v1 W (Kd.C_below hk h) hc hk1)
  have HHG := Aside0.mk (fun W (h : Below w.heap.size w W) => parrylaw22_Heavy.calls k2 t.f0 t.f1 B cq t.f2 v2 W (Kd.C_below hm h) hcm hk2)
  have HHL := Aside0.mk (fun W (h : Below w.heap.size w W) => parrylaw22_Long.calls A1 c1 st A2 c2 lp v3 W (Kd.C_below h1 h) hc1 (Kd.C_below h2 h) hc2 hv3)
  have hw1 : wrap64 (v1 + v2) = v1 + v2 := w64 (by omega) (by omega)
  have hw2 : wrap64 (v1 + v2 + v3) = v1 + v2 + v3 := w64 (by omega) (by omega)
  obtain ⟨wd, hwd⟩ : ∃ b, b = wordS st lp := ⟨_, rfl⟩
  have HMW := Aside0.mk (fun W (h : Below w.heap.size w W) => formula_MayWord.calls A1 c1 st A2 c2 lp (wordS st lp) W (Kd.C_below h1 h) hc1 (Kd.C_below h2 h) hc2 (mayWord_some st lp))
  rw [← hwd] at HMW
  have HWDD := Aside0.mk hwd
  clear hk hm h1 h2 hv1 hv2 hv3 hk1 hk2 hwd
  go_enter Tryd.func5, Tryd.ntmps5
  go_upto_region 1 with fail
  rw [← HW0.out]
  clear HW0
  go_cut [35] (fun v35 wx => ∃ hb : Bool, v35 = .bool hb ∧ Aside0 (hb = false → wd = true) ∧ Aside0 (Below W0.heap.size W0 wx))
  case first =>
    as_aux_lemma =>
      by_cases h0 : 0 < v1 + v2 + v3
      · have hd : decide (0 < v1 + v2 + v3) = true := decide_eq_true h0
        clear n1 m1 n2 m2 n3 m3
        refine start_ (n := 14) (S := fun w' => w'.cell? ⟨w.heap.size, 0, none⟩ = some (.int .i64 s.f0) ∧ w'.cell? ⟨w.heap.size, 1, none⟩ = some (.int .i64 s.f1) ∧ w'.cell? ⟨w.heap.size, 2, none⟩ = some (.slice A s.f2.length cp) ∧ w'.cell? ⟨w.heap.size + 1, 0, none⟩ = some (.int .i64 t.f0) ∧ w'.cell? ⟨w.heap.size + 1, 1, none⟩ = some (.int .i64 t.f1) ∧ w'.cell? ⟨w.heap.size + 1, 2, none⟩ = some (.slice B t.f2.length cq) ∧ w'.cell? ⟨w.heap.size + 1 + 1, 0, none⟩ = some (.slice A1 st.length c1) ∧ w'.cell? ⟨w.heap.size + 1 + 1, 1, none⟩ = some (.slice A2 lp.length c2)) (ds := []) #[false, false, false, false, false, false, false, false, false, false, false, false, false, false] (by kernel_rfl) rfl rfl ⟨((blk_cell HF0.out 0).trans rfl), ((blk_cell HF0.out 1).trans rfl), ((blk_cell HF0.out 2).trans rfl), ((blk_cell HG0.out 0).trans rfl), ((blk_cell HG0.out 1).trans rfl), ((blk_cell HG0.out 2).trans rfl), ((blk_cell HL0.out 0).trans rfl), ((blk_cell HL0.out 1).trans rfl)⟩ (fun hHeld => ?_)
        refine with_tabW flo.tab1 flo.bits1 (fun HT_ HW_ => ?_)
        refine take_ (i := 0) (N := some 22) (v := ?_) (a' := ?_) #[true, false, false, false, false, false, false, false, false, false, false, false, false, false] rfl rfl (take_ofW HT_.out HW_.out (by kernel_rfl)) (fun _ _ _ h => h) (Or.inl ⟨by rfl, ?_⟩) hHeld ?_ ?_
        rotate_left
        · rintro w' ⟨s0, s1, s2, s3, s4, s5, s6, s7⟩
          go_simp
          with_reducible rfl
        rotate_left
        · simp only [Act.put, List.setIfInBounds_toArray, List.set_cons_zero, List.set_cons_succ, i64_w, i32_w]
          rfl
        refine take_ (i := 2) (N := some 24) (v := ?_) (a' := ?_) #[true, false, true, false, false, false, false, false, false, false, false, false, false, false] rfl rfl (take_ofW HT_.out HW_.out (by kernel_rfl)) (fun _ _ _ h => h) (Or.inl ⟨by rfl, ?_⟩) hHeld ?_ ?_
        rotate_left
        · rintro w' ⟨s0, s1, s2, s3, s4, s5, s6, s7⟩
          go_simp
          with_reducible rfl
        rotate_left
        · simp only [Act.put, List.setIfInBounds_toArray, List.set_cons_zero, List.set_cons_succ, i64_w, i32_w]
          rfl
        refine take_ (i := 5) (N := some 27) (v := ?_) (a' := ?_) #[true, false, true, false, false, true, false, false, false, false, false, false, false, false] rfl rfl (take_ofW HT_.out HW_.out (by kernel_rfl)) (fun _ _ _ h => h) (Or.inl ⟨by rfl, ?_⟩) hHeld ?_ ?_
        rotate_left
        · rintro w' ⟨s0, s1, s2, s3, s4, s5, s6, s7⟩
          go_simp
          with_reducible rfl
        rotate_left
        · simp only [Act.put, List.setIfInBounds_toArray, List.set_cons_zero, List.set_cons_succ, i64_w, i32_w]
          rfl
        refine one_ (i := 1) (N := some 23) #[true, true, true, false, false, true, false, false, false, false, false, false, false, false] rfl rfl (one_of HT_.out (by kernel_rfl)) (by decide) (fun K hK => ?_)
        refine goes_ Tryd.func9 (by kernel_rfl) rfl #[.agg #[.int .i64 s.f0, .int .i64 s.f1, .slice A s.f2.length cp]] (by rfl) rfl rfl (by simp only [List.map_toArray, List.map_cons, List.map_nil]; rfl) ?_
        with_reducible refine (HHF.out _ (HB0.out.trans ((show Below W0.heap.size W0 W0.drew from below_drew1 (Below.refl _ _)).mono HB0.out.size))).mono ?_
        rintro e_ wc1 ⟨rfl, hB⟩
        have HBc1 := Aside0.mk (show Below W0.heap.size W0 wc1 from (below_drew1 (Below.refl _ _)).trans hB)
        clear hB hHeld
        have hkF1 := (HBc1.out.block _ (blk_lt HF0.out)).trans HF0.out
        have hkG1 := (HBc1.out.block _ (blk_lt HG0.out)).trans HG0.out
        have hkL1 := (HBc1.out.block _ (blk_lt HL0.out)).trans HL0.out
        refine ⟨_, rfl, ?_⟩
        refine hK.out _ _ ⟨((blk_cell hkF1 0).trans rfl), ((blk_cell hkF1 1).trans rfl), ((blk_cell hkF1 2).trans rfl), ((blk_cell hkG1 0).trans rfl), ((blk_cell hkG1 1).trans rfl), ((blk_cell hkG1 2).trans rfl), ((blk_cell hkL1 0).trans rfl), ((blk_cell hkL1 1).trans rfl)⟩ (fun hHeld => ?_)
        clear hK K
        refine norm_ (a' := ?_) ?_ ?_
        rotate_left
        · show Act.put _ (some 23) _ = _
          simp only [Act.put, List.setIfInBounds_toArray, List.set_cons_zero, List.set_cons_succ, i64_w, i32_w]
          rfl
        refine one_ (i := 3) (N := some 25) #[true, true, true, true, false, true, false, false, false, false, false, false, false, false] rfl rfl (one_of HT_.out (by kernel_rfl)) (by decide) (fun K hK => ?_)
        refine goes_ Tryd.func9 (by kernel_rfl) rfl #[.agg #[.int .i64 t.f0, .int .i64 t.f1, .slice B t.f2.length cq]] (by rfl) rfl rfl (by simp only [List.map_toArray, List.map_cons, List.map_nil]; rfl) ?_
        with_reducible refine (HHG.out _ (HB0.out.trans (HBc1.out.mono HB0.out.size))).mono ?_
        rintro e_ wc3 ⟨rfl, hB⟩
        have HBc3 := Aside0.mk (show Below W0.heap.size W0 wc3 from HBc1.out.trans (hB.mono HBc1.out.size))
        clear hB hHeld
        have hkF3 := (HBc3.out.block _ (blk_lt HF0.out)).trans HF0.out
        have hkG3 := (HBc3.out.block _ (blk_lt HG0.out)).trans HG0.out
        have hkL3 := (HBc3.out.block _ (blk_lt HL0.out)).trans HL0.out
        refine ⟨_, rfl, ?_⟩
        refine hK.out _ _ ⟨((blk_cell hkF3 0).trans rfl), ((blk_cell hkF3 1).trans rfl), ((blk_cell hkF3 2).trans rfl), ((blk_cell hkG3 0).trans rfl), ((blk_cell hkG3 1).trans rfl), ((blk_cell hkG3 2).trans rfl), ((blk_cell hkL3 0).trans rfl), ((blk_cell hkL3 1).trans rfl)⟩ (fun hHeld => ?_)
        clear hK K
        refine norm_ (a' := ?_) ?_ ?_
        rotate_left
        · show Act.put _ (some 25) _ = _
          simp only [Act.put, List.setIfInBounds_toArray, List.set_cons_zero, List.set_cons_succ, i64_w, i32_w]
          rfl
        refine pure_ (i := 4) (N := some 26) (v := ?_) (a' := ?_) #[true, true, true, true, true, true, false, false, false, false, false, false, false, false] rfl rfl (any_of HT_.out (by kernel_rfl)) (fun _ _ _ h => h) (Or.inl ⟨by rfl, ?_⟩) ?_ ?_
        rotate_left
        · intro w'
          go_simp
          with_reducible rfl
        rotate_left
        · simp only [Act.put, List.setIfInBounds_toArray, List.set_cons_zero, List.set_cons_succ, i64_w, i32_w]
          rfl
        refine one_ (i := 6) (N := some 28) #[true, true, true, true, true, true, true, false, false, false, false, false, false, false] rfl rfl (one_of HT_.out (by kernel_rfl)) (by decide) (fun K hK => ?_)
        refine goes_ Tryd.func10 (by kernel_rfl) rfl #[.agg #[.slice A1 st.length c1, .slice A2 lp.length c2]] (by rfl) rfl rfl (by simp only [List.map_toArray, List.map_cons, List.map_nil]; rfl) ?_
        with_reducible refine (HHL.out _ (HB0.out.trans (HBc3.out.mono HB0.out.size))).mono ?_
        rintro e_ wc6 ⟨rfl, hB⟩
        have HBc6 := Aside0.mk (show Below W0.heap.size W0 wc6 from HBc3.out.trans (hB.mono HBc3.out.size))
        clear hB hHeld
        have hkF6 := (HBc6.out.block _ (blk_lt HF0.out)).trans HF0.out
        have hkG6 := (HBc6.out.block _ (blk_lt HG0.out)).trans HG0.out
        have hkL6 := (HBc6.out.block _ (blk_lt HL0.out)).trans HL0.out
        refine ⟨_, rfl, ?_⟩
        refine hK.out _ _ ⟨((blk_cell hkF6 0).trans rfl), ((blk_cell hkF6 1).trans rfl), ((blk_cell hkF6 2).trans rfl), ((blk_cell hkG6 0).trans rfl), ((blk_cell hkG6 1).trans rfl), ((blk_cell hkG6 2).trans rfl), ((blk_cell hkL6 0).trans rfl), ((blk_cell hkL6 1).trans rfl)⟩ (fun hHeld => ?_)
        clear hK K
        refine norm_ (a' := ?_) ?_ ?_
        rotate_left
        · show Act.put _ (some 28) _ = _
          simp only [Act.put, List.setIfInBounds_toArray, List.set_cons_zero, List.set_cons_succ, i64_w, i32_w]
          rfl
        refine pure_ (i := 7) (N := some 29) (v := ?_) (a' := ?_) #[true, true, true, true, true, true, true, true, false, false, false, false, false, false] rfl rfl (any_of HT_.out (by kernel_rfl)) (fun _ _ _ h => h) (Or.inl ⟨by rfl, ?_⟩) ?_ ?_
        rotate_left
        · intro w'
          go_simp
          with_reducible rfl
        rotate_left
        · simp only [Act.put, List.setIfInBounds_toArray, List.set_cons_zero, List.set_cons_succ, i64_w, i32_w]
          rfl
        refine pure_ (i := 8) (N := some 30) (v := ?_) (a' := ?_) #[true, true, true, true, true, true, true, true, true, false, false, false, false, false] rfl rfl (any_of HT_.out (by kernel_rfl)) (fun _ _ _ h => h) (Or.inl ⟨by rfl, ?_⟩) ?_ ?_
        rotate_left
        · intro w'
          go_simp
          with_reducible rfl
        rotate_left
        · simp only [Act.put, List.setIfInBounds_toArray, List.set_cons_zero, List.set_cons_succ, i64_w, i32_w]
          rfl
        refine pure_ (i := 9) (N := some 31) (v := ?_) (a' := ?_) #[true, true, true, true, true, true, true, true, true, true, false, false, false, false] rfl rfl (any_of HT_.out (by kernel_rfl)) (fun _ _ _ h => h) (Or.inl ⟨by rfl, ?_⟩) ?_ ?_
        rotate_left
        · intro w'
          go_simp
          with_reducible rfl
        rotate_left
        · simp only [Act.put, List.setIfInBounds_toArray, List.set_cons_zero, List.set_cons_succ, i64_w, i32_w]
          rfl
        refine pure_ (i := 10) (N := some 32) (v := undef) (a' := ?_) #[true, true, true, true, true, true, true, true, true, true, true, false, false, false] rfl rfl (any_of HT_.out (by kernel_rfl)) (fun _ _ _ h => h) (Or.inr ⟨by rfl, rfl⟩) ?_ ?_
        rotate_left
        · simp only [Act.put, List.setIfInBounds_toArray, List.set_cons_zero, List.set_cons_succ, i64_w, i32_w]
          rfl
        refine pure_ (i := 11) (N := some 33) (v := undef) (a' := ?_) #[true, true, true, true, true, true, true, true, true, true, true, true, false, false] rfl rfl (any_of HT_.out (by kernel_rfl)) (fun _ _ _ h => h) (Or.inr ⟨by rfl, rfl⟩) ?_ ?_
        rotate_left
        · simp only [Act.put, List.setIfInBounds_toArray, List.set_cons_zero, List.set_cons_succ, i64_w, i32_w]
          rfl
        refine pure_ (i := 12) (N := some 34) (v := undef) (a' := ?_) #[true, true, true, true, true, true, true, true, true, true, true, true, true, false] rfl rfl (any_of HT_.out (by kernel_rfl)) (fun _ _ _ h => h) (Or.inr ⟨by rfl, rfl⟩) ?_ ?_
        rotate_left
        · simp only [Act.put, List.setIfInBounds_toArray, List.set_cons_zero, List.set_cons_succ, i64_w, i32_w]
          rfl
        refine pure_ (i := 13) (N := some 35) (v := ?_) (a' := ?_) #[true, true, true, true, true, true, true, true, true, true, true, true, true, true] rfl rfl (any_of HT_.out (by kernel_rfl)) (fun _ _ _ h => h) (Or.inl ⟨by rfl, ?_⟩) ?_ ?_
        rotate_left
        · intro w'
          go_simp
          with_reducible rfl
        rotate_left
        · simp only [Act.put, List.setIfInBounds_toArray, List.set_cons_zero, List.set_cons_succ, i64_w, i32_w]
          rfl
        refine done_ (done_of HT_.out (by kernel_rfl)) ?_
        clear hHeld HT_ HW_ hkF1 hkG1 hkL1 hkF3 hkG3 hkL3 hkF6 hkG6 hkL6
        go_wp2_with fail
        go_meet
        exact ⟨true, rfl, ⟨fun h => absurd h (by decide)⟩, HBc6⟩
      · have hd : decide (0 < v1 + v2 + v3) = false := decide_eq_false h0
        clear n1 m1 n2 m2 n3 m3 h0
        refine start_ (n := 14) (S := fun w' => w'.cell? ⟨w.heap.size, 0, none⟩ = some (.int .i64 s.f0) ∧ w'.cell? ⟨w.heap.size, 1, none⟩ = some (.int .i64 s.f1) ∧ w'.cell? ⟨w.heap.size, 2, none⟩ = some (.slice A s.f2.length cp) ∧ w'.cell? ⟨w.heap.size + 1, 0, none⟩ = some (.int .i64 t.f0) ∧ w'.cell? ⟨w.heap.size + 1, 1, none⟩ = some (.int .i64 t.f1) ∧ w'.cell? ⟨w.heap.size + 1, 2, none⟩ = some (.slice B t.f2.length cq) ∧ w'.cell? ⟨w.heap.size + 1 + 1, 0, none⟩ = some (.slice A1 st.length c1) ∧ w'.cell? ⟨w.heap.size + 1 + 1, 1, none⟩ = some (.slice A2 lp.length c2)) (ds := []) #[false, false, false, false, false, false, false, false, false, false, false, false, false, false] (by kernel_rfl) rfl rfl ⟨((blk_cell HF0.out 0).trans rfl), ((blk_cell HF0.out 1).trans rfl), ((blk_cell HF0.out 2).trans rfl), ((blk_cell HG0.out 0).trans rfl), ((blk_cell HG0.out 1).trans rfl), ((blk_cell HG0.out 2).trans rfl), ((blk_cell HL0.out 0).trans rfl), ((blk_cell HL0.out 1).trans rfl)⟩ (fun hHeld => ?_)
        refine with_tabW flo.tab1 flo.bits1 (fun HT_ HW_ => ?_)
        refine take_ (i := 0) (N := some 22) (v := ?_) (a' := ?_) #[true, false, false, false, false, false, false, false, false, false, false, false, false, false] rfl rfl (take_ofW HT_.out HW_.out (by kernel_rfl)) (fun _ _ _ h => h) (Or.inl ⟨by rfl, ?_⟩) hHeld ?_ ?_
        rotate_left
        · rintro w' ⟨s0, s1, s2, s3, s4, s5, s6, s7⟩
          go_simp
          with_reducible rfl
        rotate_left
        · simp only [Act.put, List.setIfInBounds_toArray, List.set_cons_zero, List.set_cons_succ, i64_w, i32_w]
          rfl
        refine take_ (i := 2) (N := some 24) (v := ?_) (a' := ?_) #[true, false, true, false, false, false, false, false, false, false, false, false, false, false] rfl rfl (take_ofW HT_.out HW_.out (by kernel_rfl)) (fun _ _ _ h => h) (Or.inl ⟨by rfl, ?_⟩) hHeld ?_ ?_
        rotate_left
        · rintro w' ⟨s0, s1, s2, s3, s4, s5, s6, s7⟩
          go_simp
          with_reducible rfl
        rotate_left
        · simp only [Act.put, List.setIfInBounds_toArray, List.set_cons_zero, List.set_cons_succ, i64_w, i32_w]
          rfl
        refine take_ (i := 5) (N := some 27) (v := ?_) (a' := ?_) #[true, false, true, false, false, true, false, false, false, false, false, false, false, false] rfl rfl (take_ofW HT_.out HW_.out (by kernel_rfl)) (fun _ _ _ h => h) (Or.inl ⟨by rfl, ?_⟩) hHeld ?_ ?_
        rotate_left
        · rintro w' ⟨s0, s1, s2, s3, s4, s5, s6, s7⟩
          go_simp
          with_reducible rfl
        rotate_left
        · simp only [Act.put, List.setIfInBounds_toArray, List.set_cons_zero, List.set_cons_succ, i64_w, i32_w]
          rfl
        refine one_ (i := 1) (N := some 23) #[true, true, true, false, false, true, false, false, false, false, false, false, false, false] rfl rfl (one_of HT_.out (by kernel_rfl)) (by decide) (fun K hK => ?_)
        refine goes_ Tryd.func9 (by kernel_rfl) rfl #[.agg #[.int .i64 s.f0, .int .i64 s.f1, .slice A s.f2.length cp]] (by rfl) rfl rfl (by simp only [List.map_toArray, List.map_cons, List.map_nil]; rfl) ?_
        with_reducible refine (HHF.out _ (HB0.out.trans ((show Below W0.heap.size W0 W0.drew from below_drew1 (Below.refl _ _)).mono HB0.out.size))).mono ?_
        rintro e_ wc1 ⟨rfl, hB⟩
        have HBc1 := Aside0.mk (show Below W0.heap.size W0 wc1 from (below_drew1 (Below.refl _ _)).trans hB)
        clear hB hHeld
        have hkF1 := (HBc1.out.block _ (blk_lt HF0.out)).trans HF0.out
        have hkG1 := (HBc1.out.block _ (blk_lt HG0.out)).trans HG0.out
        have hkL1 := (HBc1.out.block _ (blk_lt HL0.out)).trans HL0.out
        refine ⟨_, rfl, ?_⟩
        refine hK.out _ _ ⟨((blk_cell hkF1 0).trans rfl), ((blk_cell hkF1 1).trans rfl), ((blk_cell hkF1 2).trans rfl), ((blk_cell hkG1 0).trans rfl), ((blk_cell hkG1 1).trans rfl), ((blk_cell hkG1 2).trans rfl), ((blk_cell hkL1 0).trans rfl), ((blk_cell hkL1 1).trans rfl)⟩ (fun hHeld => ?_)
        clear hK K
        refine norm_ (a' := ?_) ?_ ?_
        rotate_left
        · show Act.put _ (some 23) _ = _
          simp only [Act.put, List.setIfInBounds_toArray, List.set_cons_zero, List.set_cons_succ, i64_w, i32_w]
          rfl
        refine one_ (i := 3) (N := some 25) #[true, true, true, true, false, true, false, false, false, false, false, false, false, false] rfl rfl (one_of HT_.out (by kernel_rfl)) (by decide) (fun K hK => ?_)
        refine goes_ Tryd.func9 (by kernel_rfl) rfl #[.agg #[.int .i64 t.f0, .int .i64 t.f1, .slice B t.f2.length cq]] (by rfl) rfl rfl (by simp only [List.map_toArray, List.map_cons, List.map_nil]; rfl) ?_
        with_reducible refine (HHG.out _ (HB0.out.trans (HBc1.out.mono HB0.out.size))).mono ?_
        rintro e_ wc3 ⟨rfl, hB⟩
        have HBc3 := Aside0.mk (show Below W0.heap.size W0 wc3 from HBc1.out.trans (hB.mono HBc1.out.size))
        clear hB hHeld
        have hkF3 := (HBc3.out.block _ (blk_lt HF0.out)).trans HF0.out
        have hkG3 := (HBc3.out.block _ (blk_lt HG0.out)).trans HG0.out
        have hkL3 := (HBc3.out.block _ (blk_lt HL0.out)).trans HL0.out
        refine ⟨_, rfl, ?_⟩
        refine hK.out _ _ ⟨((blk_cell hkF3 0).trans rfl), ((blk_cell hkF3 1).trans rfl), ((blk_cell hkF3 2).trans rfl), ((blk_cell hkG3 0).trans rfl), ((blk_cell hkG3 1).trans rfl), ((blk_cell hkG3 2).trans rfl), ((blk_cell hkL3 0).trans rfl), ((blk_cell hkL3 1).trans rfl)⟩ (fun hHeld => ?_)
        clear hK K
        refine norm_ (a' := ?_) ?_ ?_
        rotate_left
        · show Act.put _ (some 25) _ = _
          simp only [Act.put, List.setIfInBounds_toArray, List.set_cons_zero, List.set_cons_succ, i64_w, i32_w]
          rfl
        refine pure_ (i := 4) (N := some 26) (v := ?_) (a' := ?_) #[true, true, true, true, true, true, false, false, false, false, false, false, false, false] rfl rfl (any_of HT_.out (by kernel_rfl)) (fun _ _ _ h => h) (Or.inl ⟨by rfl, ?_⟩) ?_ ?_
        rotate_left
        · intro w'
          go_simp
          with_reducible rfl
        rotate_left
        · simp only [Act.put, List.setIfInBounds_toArray, List.set_cons_zero, List.set_cons_succ, i64_w, i32_w]
          rfl
        refine one_ (i := 6) (N := some 28) #[true, true, true, true, true, true, true, false, false, false, false, false, false, false] rfl rfl (one_of HT_.out (by kernel_rfl)) (by decide) (fun K hK => ?_)
        refine goes_ Tryd.func10 (by kernel_rfl) rfl #[.agg #[.slice A1 st.length c1, .slice A2 lp.length c2]] (by rfl) rfl rfl (by simp only [List.map_toArray, List.map_cons, List.map_nil]; rfl) ?_
        with_reducible refine (HHL.out _ (HB0.out.trans (HBc3.out.mono HB0.out.size))).mono ?_
        rintro e_ wc6 ⟨rfl, hB⟩
        have HBc6 := Aside0.mk (show Below W0.heap.size W0 wc6 from HBc3.out.trans (hB.mono HBc3.out.size))
        clear hB hHeld
        have hkF6 := (HBc6.out.block _ (blk_lt HF0.out)).trans HF0.out
        have hkG6 := (HBc6.out.block _ (blk_lt HG0.out)).trans HG0.out
        have hkL6 := (HBc6.out.block _ (blk_lt HL0.out)).trans HL0.out
        refine ⟨_, rfl, ?_⟩
        refine hK.out _ _ ⟨((blk_cell hkF6 0).trans rfl), ((blk_cell hkF6 1).trans rfl), ((blk_cell hkF6 2).trans rfl), ((blk_cell hkG6 0).trans rfl), ((blk_cell hkG6 1).trans rfl), ((blk_cell hkG6 2).trans rfl), ((blk_cell hkL6 0).trans rfl), ((blk_cell hkL6 1).trans rfl)⟩ (fun hHeld => ?_)
        clear hK K
        refine norm_ (a' := ?_) ?_ ?_
        rotate_left
        · show Act.put _ (some 28) _ = _
          simp only [Act.put, List.setIfInBounds_toArray, List.set_cons_zero, List.set_cons_succ, i64_w, i32_w]
          rfl
        refine pure_ (i := 7) (N := some 29) (v := ?_) (a' := ?_) #[true, true, true, true, true, true, true, true, false, false, false, false, false, false] rfl rfl (any_of HT_.out (by kernel_rfl)) (fun _ _ _ h => h) (Or.inl ⟨by rfl, ?_⟩) ?_ ?_
        rotate_left
        · intro w'
          go_simp
          with_reducible rfl
        rotate_left
        · simp only [Act.put, List.setIfInBounds_toArray, List.set_cons_zero, List.set_cons_succ, i64_w, i32_w]
          rfl
        refine pure_ (i := 8) (N := some 30) (v := ?_) (a' := ?_) #[true, true, true, true, true, true, true, true, true, false, false, false, false, false] rfl rfl (any_of HT_.out (by kernel_rfl)) (fun _ _ _ h => h) (Or.inl ⟨by rfl, ?_⟩) ?_ ?_
        rotate_left
        · intro w'
          go_simp
          with_reducible rfl
        rotate_left
        · simp only [Act.put, List.setIfInBounds_toArray, List.set_cons_zero, List.set_cons_succ, i64_w, i32_w]
          rfl
        refine pure_ (i := 9) (N := some 31) (v := ?_) (a' := ?_) #[true, true, true, true, true, true, true, true, true, true, false, false, false, false] rfl rfl (any_of HT_.out (by kernel_rfl)) (fun _ _ _ h => h) (Or.inl ⟨by rfl, ?_⟩) ?_ ?_
        rotate_left
        · intro w'
          go_simp
          with_reducible rfl
        rotate_left
        · simp only [Act.put, List.setIfInBounds_toArray, List.set_cons_zero, List.set_cons_succ, i64_w, i32_w]
          rfl
        refine take_ (i := 10) (N := some 32) (v := ?_) (a' := ?_) #[true, true, true, true, true, true, true, true, true, true, true, false, false, false] rfl rfl (take_ofW HT_.out HW_.out (by kernel_rfl)) (fun _ _ _ h => h) (Or.inl ⟨by rfl, ?_⟩) hHeld ?_ ?_
        rotate_left
        · rintro w' ⟨s0, s1, s2, s3, s4, s5, s6, s7⟩
          go_simp
          with_reducible rfl
        rotate_left
        · simp only [Act.put, List.setIfInBounds_toArray, List.set_cons_zero, List.set_cons_succ, i64_w, i32_w]
          rfl
        refine one_ (i := 11) (N := some 33) #[true, true, true, true, true, true, true, true, true, true, true, true, false, false] rfl rfl (one_of HT_.out (by kernel_rfl)) (by decide) (fun K hK => ?_)
        refine goes_ Tryd.func14 (by kernel_rfl) rfl #[.agg #[.slice A1 st.length c1, .slice A2 lp.length c2]] (by rfl) rfl rfl (by simp only [List.map_toArray, List.map_cons, List.map_nil]; rfl) ?_
        with_reducible refine (HMW.out _ (HB0.out.trans (HBc6.out.mono HB0.out.size))).mono ?_
        rintro e_ wc11 ⟨rfl, hB⟩
        have HBc11 := Aside0.mk (show Below W0.heap.size W0 wc11 from HBc6.out.trans (hB.mono HBc6.out.size))
        clear hB hHeld
        have hkF11 := (HBc11.out.block _ (blk_lt HF0.out)).trans HF0.out
        have hkG11 := (HBc11.out.block _ (blk_lt HG0.out)).trans HG0.out
        have hkL11 := (HBc11.out.block _ (blk_lt HL0.out)).trans HL0.out
        refine ⟨_, rfl, ?_⟩
        refine hK.out _ _ ⟨((blk_cell hkF11 0).trans rfl), ((blk_cell hkF11 1).trans rfl), ((blk_cell hkF11 2).trans rfl), ((blk_cell hkG11 0).trans rfl), ((blk_cell hkG11 1).trans rfl), ((blk_cell hkG11 2).trans rfl), ((blk_cell hkL11 0).trans rfl), ((blk_cell hkL11 1).trans rfl)⟩ (fun hHeld => ?_)
        clear hK K
        refine norm_ (a' := ?_) ?_ ?_
        rotate_left
        · show Act.put _ (some 33) _ = _
          simp only [Act.put, List.setIfInBounds_toArray, List.set_cons_zero, List.set_cons_succ, i64_w, i32_w]
          rfl
        refine pure_ (i := 12) (N := some 34) (v := ?_) (a' := ?_) #[true, true, true, true, true, true, true, true, true, true, true, true, true, false] rfl rfl (any_of HT_.out (by kernel_rfl)) (fun _ _ _ h => h) (Or.inl ⟨by rfl, ?_⟩) ?_ ?_
        rotate_left
        · intro w'
          go_simp
          with_reducible rfl
        rotate_left
        · simp only [Act.put, List.setIfInBounds_toArray, List.set_cons_zero, List.set_cons_succ, i64_w, i32_w]
          rfl
        refine pure_ (i := 13) (N := some 35) (v := ?_) (a' := ?_) #[true, true, true, true, true, true, true, true, true, true, true, true, true, true] rfl rfl (any_of HT_.out (by kernel_rfl)) (fun _ _ _ h => h) (Or.inl ⟨by rfl, ?_⟩) ?_ ?_
        rotate_left
        · intro w'
          go_simp
          with_reducible rfl
        rotate_left
        · simp only [Act.put, List.setIfInBounds_toArray, List.set_cons_zero, List.set_cons_succ, i64_w, i32_w]
          rfl
        refine done_ (done_of HT_.out (by kernel_rfl)) ?_
        clear hHeld HT_ HW_ hkF1 hkG1 hkL1 hkF3 hkG3 hkL3 hkF6 hkG6 hkL6 hkF11 hkG11 hkL11
        go_wp2_with fail
        go_meet
        exact ⟨!wd, rfl, ⟨fun h => by simpa using h⟩, HBc11⟩
  case rest =>
    obtain ⟨hb, rfl, HWD, HBc⟩ := hcut
    have HB3 := Aside0.mk (HB0.out.trans (HBc.out.mono HB0.out.size))
    obtain ⟨W3, rfl⟩ : ∃ W3 : World, W3 = wc := ⟨_, rfl⟩
    have HF3 := Aside0.mk ((HBc.out.block _ (blk_lt HF0.out)).trans HF0.out)
    have HG3 := Aside0.mk ((HBc.out.block _ (blk_lt HG0.out)).trans HG0.out)
    have HL3 := Aside0.mk ((HBc.out.block _ (blk_lt HL0.out)).trans HL0.out)
    clear hw1 hw2 n1 m1 n2 m2 n3 m3 HMW
    cases hb with
    | true =>
      go_wp2_with (go_at_call 11; refine (awake_calls _).mono ?_; rintro e_ w9 ⟨rfl, hB⟩; have HBz := Aside0.mk (HB3.out.trans (hB.mono HB3.out.size)); clear hB)
      go_ret
      exact ⟨rfl, HBz.out⟩
    | false =>
      have HWS := Aside0.mk (HWDD.out.symm.trans (HWD.out rfl))
      clear HWD HWDD
      go_upto_region 3 with fail
      have BW := Aside0.mk (below_drew1 (Below.refl W3.heap.size W3))
      refine start_ (n := 17) (S := fun w' => True) (ds := []) #[false, false, false, false, false, false, false, false, false, false, false, false, false, false, false, false, false] (by kernel_rfl) rfl rfl trivial (fun hHeld => ?_)
      refine with_tabW flo.tab3 flo.bits3 (fun HT_ HW_ => ?_)
      refine inv_at [0, 1, 2, 3, 4, 5, 6, 7, 8, 9, 10, 11, 12, 13, 14, 15, 16] (fun a0_ b a w' => ∃ (ga1 : Nat) (ga5 : Nat) (ga9 : Nat) (ga12 : Nat) (ga15 : Nat) (m1_ : Value) (m2_ : Value) (m5_ : Value) (m6_ : Value) (m9_ : Value) (m10_ : Value) (m12_ : Value) (m13_ : Value) (m15_ : Value) (m16_ : Value), a = putSel a0_ b [(0, 37, .agg #[.int .i64 s.f0, .int .i64 s.f1, .slice A s.f2.length cp]), (1, 38, m1_), (2, 39, m2_), (3, 40, .agg #[.int .i64 s.f0, .int .i64 s.f1, .slice A s.f2.length cp]), (4, 41, .agg #[.int .i64 t.f0, .int .i64 t.f1, .slice B t.f2.length cq]), (5, 42, m5_), (6, 43, m6_), (7, 44, .agg #[.int .i64 s.f0, .int .i64 s.f1, .slice A s.f2.length cp]), (8, 45, .agg #[.int .i64 t.f0, .int .i64 t.f1, .slice B t.f2.length cq]), (9, 46, m9_), (10, 47, m10_), (11, 48, .agg #[.int .i64 s.f0, .int .i64 s.f1, .slice A s.f2.length cp]), (12, 49, m12_), (13, 50, m13_), (14, 51, .agg #[.int .i64 1, .int .i64 0, .slice none 0 0]), (15, 52, m15_), (16, 7, m16_)] ∧ (Below W3.heap.size W3 w') ∧ (b 1 = true → Lay W3 w' ga1 #[.int .i64 s.f0, .int .i64 s.f1, .slice A s.f2.length cp] 24) ∧ (b 5 = true → Lay W3 w' ga5 #[.int .i64 s.f0, .int .i64 s.f1, .slice A s.f2.length cp, .int .i64 t.f0, .int .i64 t.f1, .slice B t.f2.length cq] 24) ∧ (b 9 = true → Lay W3 w' ga9 #[.int .i64 s.f0, .int .i64 s.f1, .slice A s.f2.length cp, .int .i64 t.f0, .int .i64 t.f1, .slice B t.f2.length cq] 24) ∧ (b 12 = true → Lay W3 w' ga12 #[.int .i64 s.f0, .int .i64 s.f1, .slice A s.f2.length cp] 24) ∧ (b 15 = true → Lay W3 w' ga15 #[.int .i64 3, .int .i64 0, .slice (some ⟨ga1, 0, none⟩) 1 1, .int .i64 4, .int .i64 0, .slice (some ⟨ga5, 0, none⟩) 2 2, .int .i64 5, .int .i64 0, .slice (some ⟨ga9, 0, none⟩) 2 2, .int .i64 6, .int .i64 0, .slice (some ⟨ga12, 0, none⟩) 1 1, .int .i64 1, .int .i64 0, .slice none 0 0] 24) ∧ (b 1 = true → (m1_ : Value) = .slice (some ⟨ga1, 0, none⟩) 1 1) ∧ (b 2 = true → (m2_ : Value) = .agg #[.int .i64 3, .int .i64 0, .slice (some ⟨ga1, 0, none⟩) 1 1]) ∧ (b 5 = true → (m5_ : Value) = .slice (some ⟨ga5, 0, none⟩) 2 2) ∧ (b 6 = true → (m6_ : Value) = .agg #[.int .i64 4, .int .i64 0, .slice (some ⟨ga5, 0, none⟩) 2 2]) ∧ (b 9 = true → (m9_ : Value) = .slice (some ⟨ga9, 0, none⟩) 2 2) ∧ (b 10 = true → (m10_ : Value) = .agg #[.int .i64 5, .int .i64 0, .slice (some ⟨ga9, 0, none⟩) 2 2]) ∧ (b 12 = true → (m12_ : Value) = .slice (some ⟨ga12, 0, none⟩) 1 1) ∧ (b 13 = true → (m13_ : Value) = .agg #[.int .i64 6, .int .i64 0, .slice (some ⟨ga12, 0, none⟩) 1 1]) ∧ (b 15 = true → (m15_ : Value) = .slice (some ⟨ga15, 0, none⟩) 5 5) ∧ (b 16 = true → (m16_ : Value) = .slice (some ⟨ga15, 0, none⟩) 5 5)) HT_.out HW_.out (by kernel_rfl) (by kernel_rfl) ?_ ?_ ?_
      · exact ⟨0, 0, 0, 0, 0, .bool false, .bool false, .bool false, .bool false, .bool false, .bool false, .bool false, .bool false, .bool false, .bool false, by simp only [putSel, Bool.false_eq_true, if_false], BW.out, fun h_ => absurd h_ (by decide), fun h_ => absurd h_ (by decide), fun h_ => absurd h_ (by decide), fun h_ => absurd h_ (by decide), fun h_ => absurd h_ (by decide), fun h_ => absurd h_ (by decide), fun h_ => absurd h_ (by decide), fun h_ => absurd h_ (by decide), fun h_ => absurd h_ (by decide), fun h_ => absurd h_ (by decide), fun h_ => absurd h_ (by decide), fun h_ => absurd h_ (by decide), fun h_ => absurd h_ (by decide), fun h_ => absurd h_ (by decide), fun h_ => absurd h_ (by decide)⟩
      · skip
        clear BW
        refine steps_cons ?_ ?_
        · rintro b a w' ⟨ga1, ga5, ga9, ga12, ga15, m1_, m2_, m5_, m6_, m9_, m10_, m12_, m13_, m15_, m16_, ha, Q_BW, Q_Ra1, Q_Ra5, Q_Ra9, Q_Ra12, Q_Ra15, Q_X1_, Q_X2_, Q_X5_, Q_X6_, Q_X9_, Q_X10_, Q_X12_, Q_X13_, Q_X15_, Q_X16_⟩ hb_ hon hoff
          refine ⟨_, rfl, fun K hK => ?_⟩
          have e3 : a.tmps[3]? = some (.pointer (some ⟨w.heap.size, 0, none⟩)) := by rw [ha]; exact (putSel_off rfl).trans rfl
          replace ha := Aside0.mk ha
          have BW := Aside0.mk Q_BW
          have hk_ := (BW.out.block _ (blk_lt HF3.out)).trans HF3.out
          have q0_ := (blk_cell hk_ 0).trans rfl
          have q1_ := (blk_cell hk_ 1).trans rfl
          have q2_ := (blk_cell hk_ 2).trans rfl
          refine value_ (w1 := w') (v := .agg #[.int .i64 s.f0, .int .i64 s.f1, .slice A s.f2.length cp]) (by rfl) rfl ?_ ?_
          · go_simp
            (try simp only [i64_w])
            try rfl
          refine hK.out _ _ ⟨ga1, ga5, ga9, ga12, ga15, m1_, m2_, m5_, m6_, m9_, m10_, m12_, m13_, m15_, m16_, (by rw [ha.out]; exact putSel_upk 0 hb_ rfl rfl rfl), Q_BW, fun h0_ => absurd ((hoff 1 (by kernel_rfl)).symm.trans h0_) (by decide), Q_Ra5, Q_Ra9, Q_Ra12, fun h0_ => absurd ((hoff 15 (by kernel_rfl)).symm.trans h0_) (by decide), fun h0_ => absurd ((hoff 1 (by kernel_rfl)).symm.trans h0_) (by decide), fun h0_ => absurd ((hoff 2 (by kernel_rfl)).symm.trans h0_) (by decide), Q_X5_, fun h0_ => absurd ((hoff 6 (by kernel_rfl)).symm.trans h0_) (by decide), Q_X9_, fun h0_ => absurd ((hoff 10 (by kernel_rfl)).symm.trans h0_) (by decide), Q_X12_, fun h0_ => absurd ((hoff 13 (by kernel_rfl)).symm.trans h0_) (by decide), fun h0_ => absurd ((hoff 15 (by kernel_rfl)).symm.trans h0_) (by decide), fun h0_ => absurd ((hoff 16 (by kernel_rfl)).symm.trans h0_) (by decide)⟩
        refine steps_cons ?_ ?_
        · rintro b a w' ⟨ga1, ga5, ga9, ga12, ga15, m1_, m2_, m5_, m6_, m9_, m10_, m12_, m13_, m15_, m16_, ha, Q_BW, Q_Ra1, Q_Ra5, Q_Ra9, Q_Ra12, Q_Ra15, Q_X1_, Q_X2_, Q_X5_, Q_X6_, Q_X9_, Q_X10_, Q_X12_, Q_X13_, Q_X15_, Q_X16_⟩ hb_ hon hoff
          refine ⟨_, rfl, fun K hK => ?_⟩
          have e37 : a.tmps[37]? = some (.agg #[.int .i64 s.f0, .int .i64 s.f1, .slice A s.f2.length cp]) := by rw [ha]; exact putSel_on (e := (0, 37, .agg #[.int .i64 s.f0, .int .i64 s.f1, .slice A s.f2.length cp])) 0 rfl rfl (hon 0 (by kernel_rfl)) rfl
          replace ha := Aside0.mk ha
          have BW := Aside0.mk Q_BW
          refine value_ (w1 := w'.alloc (.cells #[.int .i64 s.f0, .int .i64 s.f1, .slice A s.f2.length cp] 24)) (v := .slice (some ⟨w'.heap.size, 0, none⟩) 1 1) (by rfl) rfl ?_ ?_
          · (go_simp; try rfl)
          refine hK.out _ _ ⟨w'.heap.size, ga5, ga9, ga12, ga15, (.slice (some ⟨w'.heap.size, 0, none⟩) 1 1), m2_, m5_, m6_, m9_, m10_, m12_, m13_, m15_, m16_, (by rw [ha.out]; exact putSel_upk 1 hb_ rfl rfl rfl), below_alloc BW.out _, fun _ => Lay.new BW.out _ _, fun h0_ => (Q_Ra5 h0_).alloc _, fun h0_ => (Q_Ra9 h0_).alloc _, fun h0_ => (Q_Ra12 h0_).alloc _, fun h0_ => absurd ((hoff 15 (by kernel_rfl)).symm.trans h0_) (by decide), fun _ => rfl, fun h0_ => absurd ((hoff 2 (by kernel_rfl)).symm.trans h0_) (by decide), Q_X5_, fun h0_ => absurd ((hoff 6 (by kernel_rfl)).symm.trans h0_) (by decide), Q_X9_, fun h0_ => absurd ((hoff 10 (by kernel_rfl)).symm.trans h0_) (by decide), Q_X12_, fun h0_ => absurd ((hoff 13 (by kernel_rfl)).symm.trans h0_) (by decide), fun h0_ => absurd ((hoff 15 (by kernel_rfl)).symm.trans h0_) (by decide), fun h0_ => absurd ((hoff 16 (by kernel_rfl)).symm.trans h0_) (by decide)⟩
        refine steps_cons ?_ ?_
        · rintro b a w' ⟨ga1, ga5, ga9, ga12, ga15, m1_, m2_, m5_, m6_, m9_, m10_, m12_, m13_, m15_, m16_, ha, Q_BW, Q_Ra1, Q_Ra5, Q_Ra9, Q_Ra12, Q_Ra15, Q_X1_, Q_X2_, Q_X5_, Q_X6_, Q_X9_, Q_X10_, Q_X12_, Q_X13_, Q_X15_, Q_X16_⟩ hb_ hon hoff
          refine ⟨_, rfl, fun K hK => ?_⟩
          have e38 : a.tmps[38]? = some (m1_) := by rw [ha]; exact putSel_on (e := (1, 38, m1_)) 1 rfl rfl (hon 1 (by kernel_rfl)) rfl
          rw [Q_X1_ (hon 1 (by kernel_rfl))] at e38
          replace ha := Aside0.mk ha
          have BW := Aside0.mk Q_BW
          have Ra1 := Aside0.mk (Q_Ra1 (hon 1 (by kernel_rfl)))
          refine goes_ Tryd.func12 (by kernel_rfl) rfl #[.int .i64 3, .slice (some ⟨ga1, 0, none⟩) 1 1] (by rfl) rfl rfl (by first | (simp only [List.map_toArray, List.map_cons, List.map_nil, Act.eval, Array.getD_eq_getD_getElem?, Option.getD_some, e38]; done) | (simp only [List.map_toArray, List.map_cons, List.map_nil, Act.eval, Array.getD_eq_getD_getElem?, Option.getD_some, e38]; rfl)) ?_
          with_reducible refine (op_calls _ _ _ _ _).mono ?_
          rintro e_ w1 ⟨rfl, hB⟩
          refine ⟨_, rfl, ?_⟩
          refine hK.out _ _ ⟨ga1, ga5, ga9, ga12, ga15, m1_, (.agg #[.int .i64 3, .int .i64 0, .slice (some ⟨ga1, 0, none⟩) 1 1]), m5_, m6_, m9_, m10_, m12_, m13_, m15_, m16_, (by rw [ha.out]; exact putSel_upk 2 hb_ rfl rfl rfl), BW.out.trans (hB.mono BW.out.size), fun _ => Ra1.out.below hB, fun h0_ => (Q_Ra5 h0_).below hB, fun h0_ => (Q_Ra9 h0_).below hB, fun h0_ => (Q_Ra12 h0_).below hB, fun h0_ => absurd ((hoff 15 (by kernel_rfl)).symm.trans h0_) (by decide), Q_X1_, fun _ => rfl, Q_X5_, fun h0_ => absurd ((hoff 6 (by kernel_rfl)).symm.trans h0_) (by decide), Q_X9_, fun h0_ => absurd ((hoff 10 (by kernel_rfl)).symm.trans h0_) (by decide), Q_X12_, fun h0_ => absurd ((hoff 13 (by kernel_rfl)).symm.trans h0_) (by decide), fun h0_ => absurd ((hoff 15 (by kernel_rfl)).symm.trans h0_) (by decide), fun h0_ => absurd ((hoff 16 (by kernel_rfl)).symm.trans h0_) (by decide)⟩
        refine steps_cons ?_ ?_
        · rintro b a w' ⟨ga1, ga5, ga9, ga12, ga15, m1_, m2_, m5_, m6_, m9_, m10_, m12_, m13_, m15_, m16_, ha, Q_BW, Q_Ra1, Q_Ra5, Q_Ra9, Q_Ra12, Q_Ra15, Q_X1_, Q_X2_, Q_X5_, Q_X6_, Q_X9_, Q_X10_, Q_X12_, Q_X13_, Q_X15_, Q_X16_⟩ hb_ hon hoff
          refine ⟨_, rfl, fun K hK => ?_⟩
          have e3 : a.tmps[3]? = some (.pointer (some ⟨w.heap.size, 0, none⟩)) := by rw [ha]; exact (putSel_off rfl).trans rfl
          replace ha := Aside0.mk ha
          have BW := Aside0.mk Q_BW
          have hk_ := (BW.out.block _ (blk_lt HF3.out)).trans HF3.out
          have q0_ := (blk_cell hk_ 0).trans rfl
          have q1_ := (blk_cell hk_ 1).trans rfl
          have q2_ := (blk_cell hk_ 2).trans rfl
          refine value_ (w1 := w') (v := .agg #[.int .i64 s.f0, .int .i64 s.f1, .slice A s.f2.length cp]) (by rfl) rfl ?_ ?_
          · go_simp
            (try simp only [i64_w])
            try rfl
          refine hK.out _ _ ⟨ga1, ga5, ga9, ga12, ga15, m1_, m2_, m5_, m6_, m9_, m10_, m12_, m13_, m15_, m16_, (by rw [ha.out]; exact putSel_upk 3 hb_ rfl rfl rfl), Q_BW, Q_Ra1, fun h0_ => absurd ((hoff 5 (by kernel_rfl)).symm.trans h0_) (by decide), Q_Ra9, Q_Ra12, fun h0_ => absurd ((hoff 15 (by kernel_rfl)).symm.trans h0_) (by decide), Q_X1_, Q_X2_, fun h0_ => absurd ((hoff 5 (by kernel_rfl)).symm.trans h0_) (by decide), fun h0_ => absurd ((hoff 6 (by kernel_rfl)).symm.trans h0_) (by decide), Q_X9_, fun h0_ => absurd ((hoff 10 (by kernel_rfl)).symm.trans h0_) (by decide), Q_X12_, fun h0_ => absurd ((hoff 13 (by kernel_rfl)).symm.trans h0_) (by decide), fun h0_ => absurd ((hoff 15 (by kernel_rfl)).symm.trans h0_) (by decide), fun h0_ => absurd ((hoff 16 (by kernel_rfl)).symm.trans h0_) (by decide)⟩
        refine steps_cons ?_ ?_
        · rintro b a w' ⟨ga1, ga5, ga9, ga12, ga15, m1_, m2_, m5_, m6_, m9_, m10_, m12_, m13_, m15_, m16_, ha, Q_BW, Q_Ra1, Q_Ra5, Q_Ra9, Q_Ra12, Q_Ra15, Q_X1_, Q_X2_, Q_X5_, Q_X6_, Q_X9_, Q_X10_, Q_X12_, Q_X13_, Q_X15_, Q_X16_⟩ hb_ hon hoff
          refine ⟨_, rfl, fun K hK => ?_⟩
          have e4 : a.tmps[4]? = some (.pointer (some ⟨w.heap.size + 1, 0, none⟩)) := by rw [ha]; exact (putSel_off rfl).trans rfl
          replace ha := Aside0.mk ha
          have BW := Aside0.mk Q_BW
          have hk_ := (BW.out.block _ (blk_lt HG3.out)).trans HG3.out
          have q0_ := (blk_cell hk_ 0).trans rfl
          have q1_ := (blk_cell hk_ 1).trans rfl
          have q2_ := (blk_cell hk_ 2).trans rfl
          refine value_ (w1 := w') (v := .agg #[.int .i64 t.f0, .int .i64 t.f1, .slice B t.f2.length cq]) (by rfl) rfl ?_ ?_
          · go_simp
            (try simp only [i64_w])
            try rfl
          refine hK.out _ _ ⟨ga1, ga5, ga9, ga12, ga15, m1_, m2_, m5_, m6_, m9_, m10_, m12_, m13_, m15_, m16_, (by rw [ha.out]; exact putSel_upk 4 hb_ rfl rfl rfl), Q_BW, Q_Ra1, fun h0_ => absurd ((hoff 5 (by kernel_rfl)).symm.trans h0_) (by decide), Q_Ra9, Q_Ra12, fun h0_ => absurd ((hoff 15 (by kernel_rfl)).symm.trans h0_) (by decide), Q_X1_, Q_X2_, fun h0_ => absurd ((hoff 5 (by kernel_rfl)).symm.trans h0_) (by decide), fun h0_ => absurd ((hoff 6 (by kernel_rfl)).symm.trans h0_) (by decide), Q_X9_, fun h0_ => absurd ((hoff 10 (by kernel_rfl)).symm.trans h0_) (by decide), Q_X12_, fun h0_ => absurd ((hoff 13 (by kernel_rfl)).symm.trans h0_) (by decide), fun h0_ => absurd ((hoff 15 (by kernel_rfl)).symm.trans h0_) (by decide), fun h0_ => absurd ((hoff 16 (by kernel_rfl)).symm.trans h0_) (by decide)⟩
        refine steps_cons ?_ ?_
        · rintro b a w' ⟨ga1, ga5, ga9, ga12, ga15, m1_, m2_, m5_, m6_, m9_, m10_, m12_, m13_, m15_, m16_, ha, Q_BW, Q_Ra1, Q_Ra5, Q_Ra9, Q_Ra12, Q_Ra15, Q_X1_, Q_X2_, Q_X5_, Q_X6_, Q_X9_, Q_X10_, Q_X12_, Q_X13_, Q_X15_, Q_X16_⟩ hb_ hon hoff
          refine ⟨_, rfl, fun K hK => ?_⟩
          have e40 : a.tmps[40]? = some (.agg #[.int .i64 s.f0, .int .i64 s.f1, .slice A s.f2.length cp]) := by rw [ha]; exact putSel_on (e := (3, 40, .agg #[.int .i64 s.f0, .int .i64 s.f1, .slice A s.f2.length cp])) 3 rfl rfl (hon 3 (by kernel_rfl)) rfl
          have e41 : a.tmps[41]? = some (.agg #[.int .i64 t.f0, .int .i64 t.f1, .slice B t.f2.length cq]) := by rw [ha]; exact putSel_on (e := (4, 41, .agg #[.int .i64 t.f0, .int .i64 t.f1, .slice B t.f2.length cq])) 4 rfl rfl (hon 4 (by kernel_rfl)) rfl
          replace ha := Aside0.mk ha
          have BW := Aside0.mk Q_BW
          refine value_ (w1 := w'.alloc (.cells #[.int .i64 s.f0, .int .i64 s.f1, .slice A s.f2.length cp, .int .i64 t.f0, .int .i64 t.f1, .slice B t.f2.length cq] 24)) (v := .slice (some ⟨w'.heap.size, 0, none⟩) 2 2) (by rfl) rfl ?_ ?_
          · (go_simp; try rfl)
          refine hK.out _ _ ⟨ga1, w'.heap.size, ga9, ga12, ga15, m1_, m2_, (.slice (some ⟨w'.heap.size, 0, none⟩) 2 2), m6_, m9_, m10_, m12_, m13_, m15_, m16_, (by rw [ha.out]; exact putSel_upk 5 hb_ rfl rfl rfl), below_alloc BW.out _, fun h0_ => (Q_Ra1 h0_).alloc _, fun _ => Lay.new BW.out _ _, fun h0_ => (Q_Ra9 h0_).alloc _, fun h0_ => (Q_Ra12 h0_).alloc _, fun h0_ => absurd ((hoff 15 (by kernel_rfl)).symm.trans h0_) (by decide), Q_X1_, Q_X2_, fun _ => rfl, fun h0_ => absurd ((hoff 6 (by kernel_rfl)).symm.trans h0_) (by decide), Q_X9_, fun h0_ => absurd ((hoff 10 (by kernel_rfl)).symm.trans h0_) (by decide), Q_X12_, fun h0_ => absurd ((hoff 13 (by kernel_rfl)).symm.trans h0_) (by decide), fun h0_ => absurd ((hoff 15 (by kernel_rfl)).symm.trans h0_) (by decide), fun h0_ => absurd ((hoff 16 (by kernel_rfl)).symm.trans h0_) (by decide)⟩
        refine steps_cons ?_ ?_
        · rintro b a w' ⟨ga1, ga5, ga9, ga12, ga15, m1_, m2_, m5_, m6_, m9_, m10_, m12_, m13_, m15_, m16_, ha, Q_BW, Q_Ra1, Q_Ra5, Q_Ra9, Q_Ra12, Q_Ra15, Q_X1_, Q_X2_, Q_X5_, Q_X6_, Q_X9_, Q_X10_, Q_X12_, Q_X13_, Q_X15_, Q_X16_⟩ hb_ hon hoff
          refine ⟨_, rfl, fun K hK => ?_⟩
          have e42 : a.tmps[42]? = some (m5_) := by rw [ha]; exact putSel_on (e := (5, 42, m5_)) 5 rfl rfl (hon 5 (by kernel_rfl)) rfl
          rw [Q_X5_ (hon 5 (by kernel_rfl))] at e42
          replace ha := Aside0.mk ha
          have BW := Aside0.mk Q_BW
          have Ra1 := Aside0.mk (Q_Ra1 (hon 1 (by kernel_rfl)))
          have Ra5 := Aside0.mk (Q_Ra5 (hon 5 (by kernel_rfl)))
          refine goes_ Tryd.func12 (by kernel_rfl) rfl #[.int .i64 4, .slice (some ⟨ga5, 0, none⟩) 2 2] (by rfl) rfl rfl (by first | (simp only [List.map_toArray, List.map_cons, List.map_nil, Act.eval, Array.getD_eq_getD_getElem?, Option.getD_some, e42]; done) | (simp only [List.map_toArray, List.map_cons, List.map_nil, Act.eval, Array.getD_eq_getD_getElem?, Option.getD_some, e42]; rfl)) ?_
          with_reducible refine (op_calls _ _ _ _ _).mono ?_
          rintro e_ w1 ⟨rfl, hB⟩
          refine ⟨_, rfl, ?_⟩
          refine hK.out _ _ ⟨ga1, ga5, ga9, ga12, ga15, m1_, m2_, m5_, (.agg #[.int .i64 4, .int .i64 0, .slice (some ⟨ga5, 0, none⟩) 2 2]), m9_, m10_, m12_, m13_, m15_, m16_, (by rw [ha.out]; exact putSel_upk 6 hb_ rfl rfl rfl), BW.out.trans (hB.mono BW.out.size), fun _ => Ra1.out.below hB, fun _ => Ra5.out.below hB, fun h0_ => (Q_Ra9 h0_).below hB, fun h0_ => (Q_Ra12 h0_).below hB, fun h0_ => absurd ((hoff 15 (by kernel_rfl)).symm.trans h0_) (by decide), Q_X1_, Q_X2_, Q_X5_, fun _ => rfl, Q_X9_, fun h0_ => absurd ((hoff 10 (by kernel_rfl)).symm.trans h0_) (by decide), Q_X12_, fun h0_ => absurd ((hoff 13 (by kernel_rfl)).symm.trans h0_) (by decide), fun h0_ => absurd ((hoff 15 (by kernel_rfl)).symm.trans h0_) (by decide), fun h0_ => absurd ((hoff 16 (by kernel_rfl)).symm.trans h0_) (by decide)⟩
        refine steps_cons ?_ ?_
        · rintro b a w' ⟨ga1, ga5, ga9, ga12, ga15, m1_, m2_, m5_, m6_, m9_, m10_, m12_, m13_, m15_, m16_, ha, Q_BW, Q_Ra1, Q_Ra5, Q_Ra9, Q_Ra12, Q_Ra15, Q_X1_, Q_X2_, Q_X5_, Q_X6_, Q_X9_, Q_X10_, Q_X12_, Q_X13_, Q_X15_, Q_X16_⟩ hb_ hon hoff
          refine ⟨_, rfl, fun K hK => ?_⟩
          have e3 : a.tmps[3]? = some (.pointer (some ⟨w.heap.size, 0, none⟩)) := by rw [ha]; exact (putSel_off rfl).trans rfl
          replace ha := Aside0.mk ha
          have BW := Aside0.mk Q_BW
          have hk_ := (BW.out.block _ (blk_lt HF3.out)).trans HF3.out
          have q0_ := (blk_cell hk_ 0).trans rfl
          have q1_ := (blk_cell hk_ 1).trans rfl
          have q2_ := (blk_cell hk_ 2).trans rfl
          refine value_ (w1 := w') (v := .agg #[.int .i64 s.f0, .int .i64 s.f1, .slice A s.f2.length cp]) (by rfl) rfl ?_ ?_
          · go_simp
            (try simp only [i64_w])
            try rfl
          refine hK.out _ _ ⟨ga1, ga5, ga9, ga12, ga15, m1_, m2_, m5_, m6_, m9_, m10_, m12_, m13_, m15_, m16_, (by rw [ha.out]; exact putSel_upk 7 hb_ rfl rfl rfl), Q_BW, Q_Ra1, Q_Ra5, fun h0_ => absurd ((hoff 9 (by kernel_rfl)).symm.trans h0_) (by decide), Q_Ra12, fun h0_ => absurd ((hoff 15 (by kernel_rfl)).symm.trans h0_) (by decide), Q_X1_, Q_X2_, Q_X5_, Q_X6_, fun h0_ => absurd ((hoff 9 (by kernel_rfl)).symm.trans h0_) (by decide), fun h0_ => absurd ((hoff 10 (by kernel_rfl)).symm.trans h0_) (by decide), Q_X12_, fun h0_ => absurd ((hoff 13 (by kernel_rfl)).symm.trans h0_) (by decide), fun h0_ => absurd ((hoff 15 (by kernel_rfl)).symm.trans h0_) (by decide), fun h0_ => absurd ((hoff 16 (by kernel_rfl)).symm.trans h0_) (by decide)⟩
        refine steps_cons ?_ ?_
        · rintro b a w' ⟨ga1, ga5, ga9, ga12, ga15, m1_, m2_, m5_, m6_, m9_, m10_, m12_, m13_, m15_, m16_, ha, Q_BW, Q_Ra1, Q_Ra5, Q_Ra9, Q_Ra12, Q_Ra15, Q_X1_, Q_X2_, Q_X5_, Q_X6_, Q_X9_, Q_X10_, Q_X12_, Q_X13_, Q_X15_, Q_X16_⟩ hb_ hon hoff
          refine ⟨_, rfl, fun K hK => ?_⟩
          have e4 : a.tmps[4]? = some (.pointer (some ⟨w.heap.size + 1, 0, none⟩)) := by rw [ha]; exact (putSel_off rfl).trans rfl
          replace ha := Aside0.mk ha
          have BW := Aside0.mk Q_BW
          have hk_ := (BW.out.block _ (blk_lt HG3.out)).trans HG3.out
          have q0_ := (blk_cell hk_ 0).trans rfl
          have q1_ := (blk_cell hk_ 1).trans rfl
          have q2_ := (blk_cell hk_ 2).trans rfl
          refine value_ (w1 := w') (v := .agg #[.int .i64 t.f0, .int .i64 t.f1, .slice B t.f2.length cq]) (by rfl) rfl ?_ ?_
          · go_simp
            (try simp only [i64_w])
            try rfl
          refine hK.out _ _ ⟨ga1, ga5, ga9, ga12, ga15, m1_, m2_, m5_, m6_, m9_, m10_, m12_, m13_, m15_, m16_, (by rw [ha.out]; exact putSel_upk 8 hb_ rfl rfl rfl), Q_BW, Q_Ra1, Q_Ra5, fun h0_ => absurd ((hoff 9 (by kernel_rfl)).symm.trans h0_) (by decide), Q_Ra12, fun h0_ => absurd ((hoff 15 (by kernel_rfl)).symm.trans h0_) (by decide), Q_X1_, Q_X2_, Q_X5_, Q_X6_, fun h0_ => absurd ((hoff 9 (by kernel_rfl)).symm.trans h0_) (by decide), fun h0_ => absurd ((hoff 10 (by kernel_rfl)).symm.trans h0_) (by decide), Q_X12_, fun h0_ => absurd ((hoff 13 (by kernel_rfl)).symm.trans h0_) (by decide), fun h0_ => absurd ((hoff 15 (by kernel_rfl)).symm.trans h0_) (by decide), fun h0_ => absurd ((hoff 16 (by kernel_rfl)).symm.trans h0_) (by decide)⟩
        refine steps_cons ?_ ?_
        · rintro b a w' ⟨ga1, ga5, ga9, ga12, ga15, m1_, m2_, m5_, m6_, m9_, m10_, m12_, m13_, m15_, m16_, ha, Q_BW, Q_Ra1, Q_Ra5, Q_Ra9, Q_Ra12, Q_Ra15, Q_X1_, Q_X2_, Q_X5_, Q_X6_, Q_X9_, Q_X10_, Q_X12_, Q_X13_, Q_X15_, Q_X16_⟩ hb_ hon hoff
          refine ⟨_, rfl, fun K hK => ?_⟩
          have e44 : a.tmps[44]? = some (.agg #[.int .i64 s.f0, .int .i64 s.f1, .slice A s.f2.length cp]) := by rw [ha]; exact putSel_on (e := (7, 44, .agg #[.int .i64 s.f0, .int .i64 s.f1, .slice A s.f2.length cp])) 7 rfl rfl (hon 7 (by kernel_rfl)) rfl
          have e45 : a.tmps[45]? = some (.agg #[.int .i64 t.f0, .int .i64 t.f1, .slice B t.f2.length cq]) := by rw [ha]; exact putSel_on (e := (8, 45, .agg #[.int .i64 t.f0, .int .i64 t.f1, .slice B t.f2.length cq])) 8 rfl rfl (hon 8 (by kernel_rfl)) rfl
          replace ha := Aside0.mk ha
          have BW := Aside0.mk Q_BW
          refine value_ (w1 := w'.alloc (.cells #[.int .i64 s.f0, .int .i64 s.f1, .slice A s.f2.length cp, .int .i64 t.f0, .int .i64 t.f1, .slice B t.f2.length cq] 24)) (v := .slice (some ⟨w'.heap.size, 0, none⟩) 2 2) (by rfl) rfl ?_ ?_
          · (go_simp; try rfl)
          refine hK.out _ _ ⟨ga1, ga5, w'.heap.size, ga12, ga15, m1_, m2_, m5_, m6_, (.slice (some ⟨w'.heap.size, 0, none⟩) 2 2), m10_, m12_, m13_, m15_, m16_, (by rw [ha.out]; exact putSel_upk 9 hb_ rfl rfl rfl), below_alloc BW.out _, fun h0_ => (Q_Ra1 h0_).alloc _, fun h0_ => (Q_Ra5 h0_).alloc _, fun _ => Lay.new BW.out _ _, fun h0_ => (Q_Ra12 h0_).alloc _, fun h0_ => absurd ((hoff 15 (by kernel_rfl)).symm.trans h0_) (by decide), Q_X1_, Q_X2_, Q_X5_, Q_X6_, fun _ => rfl, fun h0_ => absurd ((hoff 10 (by kernel_rfl)).symm.trans h0_) (by decide), Q_X12_, fun h0_ => absurd ((hoff 13 (by kernel_rfl)).symm.trans h0_) (by decide), fun h0_ => absurd ((hoff 15 (by kernel_rfl)).symm.trans h0_) (by decide), fun h0_ => absurd ((hoff 16 (by kernel_rfl)).symm.trans h0_) (by decide)⟩
        refine steps_cons ?_ ?_
        · rintro b a w' ⟨ga1, ga5, ga9, ga12, ga15, m1_, m2_, m5_, m6_, m9_, m10_, m12_, m13_, m15_, m16_, ha, Q_BW, Q_Ra1, Q_Ra5, Q_Ra9, Q_Ra12, Q_Ra15, Q_X1_, Q_X2_, Q_X5_, Q_X6_, Q_X9_, Q_X10_, Q_X12_, Q_X13_, Q_X15_, Q_X16_⟩ hb_ hon hoff
          refine ⟨_, rfl, fun K hK => ?_⟩
          have e46 : a.tmps[46]? = some (m9_) := by rw [ha]; exact putSel_on (e := (9, 46, m9_)) 9 rfl rfl (hon 9 (by kernel_rfl)) rfl
          rw [Q_X9_ (hon 9 (by kernel_rfl))] at e46
          replace ha := Aside0.mk ha
          have BW := Aside0.mk Q_BW
          have Ra1 := Aside0.mk (Q_Ra1 (hon 1 (by kernel_rfl)))
          have Ra5 := Aside0.mk (Q_Ra5 (hon 5 (by kernel_rfl)))
          have Ra9 := Aside0.mk (Q_Ra9 (hon 9 (by kernel_rfl)))
          refine goes_ Tryd.func12 (by kernel_rfl) rfl #[.int .i64 5, .slice (some ⟨ga9, 0, none⟩) 2 2] (by rfl) rfl rfl (by first | (simp only [List.map_toArray, List.map_cons, List.map_nil, Act.eval, Array.getD_eq_getD_getElem?, Option.getD_some, e46]; done) | (simp only [List.map_toArray, List.map_cons, List.map_nil, Act.eval, Array.getD_eq_getD_getElem?, Option.getD_some, e46]; rfl)) ?_
          with_reducible refine (op_calls _ _ _ _ _).mono ?_
          rintro e_ w1 ⟨rfl, hB⟩
          refine ⟨_, rfl, ?_⟩
          refine hK.out _ _ ⟨ga1, ga5, ga9, ga12, ga15, m1_, m2_, m5_, m6_, m9_, (.agg #[.int .i64 5, .int .i64 0, .slice (some ⟨ga9, 0, none⟩) 2 2]), m12_, m13_, m15_, m16_, (by rw [ha.out]; exact putSel_upk 10 hb_ rfl rfl rfl), BW.out.trans (hB.mono BW.out.size), fun _ => Ra1.out.below hB, fun _ => Ra5.out.below hB, fun _ => Ra9.out.below hB, fun h0_ => (Q_Ra12 h0_).below hB, fun h0_ => absurd ((hoff 15 (by kernel_rfl)).symm.trans h0_) (by decide), Q_X1_, Q_X2_, Q_X5_, Q_X6_, Q_X9_, fun _ => rfl, Q_X12_, fun h0_ => absurd ((hoff 13 (by kernel_rfl)).symm.trans h0_) (by decide), fun h0_ => absurd ((hoff 15 (by kernel_rfl)).symm.trans h0_) (by decide), fun h0_ => absurd ((hoff 16 (by kernel_rfl)).symm.trans h0_) (by decide)⟩
        refine steps_cons ?_ ?_
        · rintro b a w' ⟨ga1, ga5, ga9, ga12, ga15, m1_, m2_, m5_, m6_, m9_, m10_, m12_, m13_, m15_, m16_, ha, Q_BW, Q_Ra1, Q_Ra5, Q_Ra9, Q_Ra12, Q_Ra15, Q_X1_, Q_X2_, Q_X5_, Q_X6_, Q_X9_, Q_X10_, Q_X12_, Q_X13_, Q_X15_, Q_X16_⟩ hb_ hon hoff
          refine ⟨_, rfl, fun K hK => ?_⟩
          have e3 : a.tmps[3]? = some (.pointer (some ⟨w.heap.size, 0, none⟩)) := by rw [ha]; exact (putSel_off rfl).trans rfl
          replace ha := Aside0.mk ha
          have BW := Aside0.mk Q_BW
          have hk_ := (BW.out.block _ (blk_lt HF3.out)).trans HF3.out
          have q0_ := (blk_cell hk_ 0).trans rfl
          have q1_ := (blk_cell hk_ 1).trans rfl
          have q2_ := (blk_cell hk_ 2).trans rfl
          refine value_ (w1 := w') (v := .agg #[.int .i64 s.f0, .int .i64 s.f1, .slice A s.f2.length cp]) (by rfl) rfl ?_ ?_
          · go_simp
            (try simp only [i64_w])
            try rfl
          refine hK.out _ _ ⟨ga1, ga5, ga9, ga12, ga15, m1_, m2_, m5_, m6_, m9_, m10_, m12_, m13_, m15_, m16_, (by rw [ha.out]; exact putSel_upk 11 hb_ rfl rfl rfl), Q_BW, Q_Ra1, Q_Ra5, Q_Ra9, fun h0_ => absurd ((hoff 12 (by kernel_rfl)).symm.trans h0_) (by decide), fun h0_ => absurd ((hoff 15 (by kernel_rfl)).symm.trans h0_) (by decide), Q_X1_, Q_X2_, Q_X5_, Q_X6_, Q_X9_, Q_X10_, fun h0_ => absurd ((hoff 12 (by kernel_rfl)).symm.trans h0_) (by decide), fun h0_ => absurd ((hoff 13 (by kernel_rfl)).symm.trans h0_) (by decide), fun h0_ => absurd ((hoff 15 (by kernel_rfl)).symm.trans h0_) (by decide), fun h0_ => absurd ((hoff 16 (by kernel_rfl)).symm.trans h0_) (by decide)⟩
        refine steps_cons ?_ ?_
        · rintro b a w' ⟨ga1, ga5, ga9, ga12, ga15, m1_, m2_, m5_, m6_, m9_, m10_, m12_, m13_, m15_, m16_, ha, Q_BW, Q_Ra1, Q_Ra5, Q_Ra9, Q_Ra12, Q_Ra15, Q_X1_, Q_X2_, Q_X5_, Q_X6_, Q_X9_, Q_X10_, Q_X12_, Q_X13_, Q_X15_, Q_X16_⟩ hb_ hon hoff
          refine ⟨_, rfl, fun K hK => ?_⟩
          have e48 : a.tmps[48]? = some (.agg #[.int .i64 s.f0, .int .i64 s.f1, .slice A s.f2.length cp]) := by rw [ha]; exact putSel_on (e := (11, 48, .agg #[.int .i64 s.f0, .int .i64 s.f1, .slice A s.f2.length cp])) 11 rfl rfl (hon 11 (by kernel_rfl)) rfl
          replace ha := Aside0.mk ha
          have BW := Aside0.mk Q_BW
          refine value_ (w1 := w'.alloc (.cells #[.int .i64 s.f0, .int .i64 s.f1, .slice A s.f2.length cp] 24)) (v := .slice (some ⟨w'.heap.size, 0, none⟩) 1 1) (by rfl) rfl ?_ ?_
          · (go_simp; try rfl)
          refine hK.out _ _ ⟨ga1, ga5, ga9, w'.heap.size, ga15, m1_, m2_, m5_, m6_, m9_, m10_, (.slice (some ⟨w'.heap.size, 0, none⟩) 1 1), m13_, m15_, m16_, (by rw [ha.out]; exact putSel_upk 12 hb_ rfl rfl rfl), below_alloc BW.out _, fun h0_ => (Q_Ra1 h0_).alloc _, fun h0_ => (Q_Ra5 h0_).alloc _, fun h0_ => (Q_Ra9 h0_).alloc _, fun _ => Lay.new BW.out _ _, fun h0_ => absurd ((hoff 15 (by kernel_rfl)).symm.trans h0_) (by decide), Q_X1_, Q_X2_, Q_X5_, Q_X6_, Q_X9_, Q_X10_, fun _ => rfl, fun h0_ => absurd ((hoff 13 (by kernel_rfl)).symm.trans h0_) (by decide), fun h0_ => absurd ((hoff 15 (by kernel_rfl)).symm.trans h0_) (by decide), fun h0_ => absurd ((hoff 16 (by kernel_rfl)).symm.trans h0_) (by decide)⟩
        refine steps_cons ?_ ?_
        · rintro b a w' ⟨ga1, ga5, ga9, ga12, ga15, m1_, m2_, m5_, m6_, m9_, m10_, m12_, m13_, m15_, m16_, ha, Q_BW, Q_Ra1, Q_Ra5, Q_Ra9, Q_Ra12, Q_Ra15, Q_X1_, Q_X2_, Q_X5_, Q_X6_, Q_X9_, Q_X10_, Q_X12_, Q_X13_, Q_X15_, Q_X16_⟩ hb_ hon hoff
          refine ⟨_, rfl, fun K hK => ?_⟩
          have e49 : a.tmps[49]? = some (m12_) := by rw [ha]; exact putSel_on (e := (12, 49, m12_)) 12 rfl rfl (hon 12 (by kernel_rfl)) rfl
          rw [Q_X12_ (hon 12 (by kernel_rfl))] at e49
          replace ha := Aside0.mk ha
          have BW := Aside0.mk Q_BW
          have Ra1 := Aside0.mk (Q_Ra1 (hon 1 (by kernel_rfl)))
          have Ra5 := Aside0.mk (Q_Ra5 (hon 5 (by kernel_rfl)))
          have Ra9 := Aside0.mk (Q_Ra9 (hon 9 (by kernel_rfl)))
          have Ra12 := Aside0.mk (Q_Ra12 (hon 12 (by kernel_rfl)))
          refine goes_ Tryd.func12 (by kernel_rfl) rfl #[.int .i64 6, .slice (some ⟨ga12, 0, none⟩) 1 1] (by rfl) rfl rfl (by first | (simp only [List.map_toArray, List.map_cons, List.map_nil, Act.eval, Array.getD_eq_getD_getElem?, Option.getD_some, e49]; done) | (simp only [List.map_toArray, List.map_cons, List.map_nil, Act.eval, Array.getD_eq_getD_getElem?, Option.getD_some, e49]; rfl)) ?_
          with_reducible refine (op_calls _ _ _ _ _).mono ?_
          rintro e_ w1 ⟨rfl, hB⟩
          refine ⟨_, rfl, ?_⟩
          refine hK.out _ _ ⟨ga1, ga5, ga9, ga12, ga15, m1_, m2_, m5_, m6_, m9_, m10_, m12_, (.agg #[.int .i64 6, .int .i64 0, .slice (some ⟨ga12, 0, none⟩) 1 1]), m15_, m16_, (by rw [ha.out]; exact putSel_upk 13 hb_ rfl rfl rfl), BW.out.trans (hB.mono BW.out.size), fun _ => Ra1.out.below hB, fun _ => Ra5.out.below hB, fun _ => Ra9.out.below hB, fun _ => Ra12.out.below hB, fun h0_ => absurd ((hoff 15 (by kernel_rfl)).symm.trans h0_) (by decide), Q_X1_, Q_X2_, Q_X5_, Q_X6_, Q_X9_, Q_X10_, Q_X12_, fun _ => rfl, fun h0_ => absurd ((hoff 15 (by kernel_rfl)).symm.trans h0_) (by decide), fun h0_ => absurd ((hoff 16 (by kernel_rfl)).symm.trans h0_) (by decide)⟩
        refine steps_cons ?_ ?_
        · rintro b a w' ⟨ga1, ga5, ga9, ga12, ga15, m1_, m2_, m5_, m6_, m9_, m10_, m12_, m13_, m15_, m16_, ha, Q_BW, Q_Ra1, Q_Ra5, Q_Ra9, Q_Ra12, Q_Ra15, Q_X1_, Q_X2_, Q_X5_, Q_X6_, Q_X9_, Q_X10_, Q_X12_, Q_X13_, Q_X15_, Q_X16_⟩ hb_ hon hoff
          refine ⟨_, rfl, fun K hK => ?_⟩
          replace ha := Aside0.mk ha
          have BW := Aside0.mk Q_BW
          have Ra1 := Aside0.mk (Q_Ra1 (hon 1 (by kernel_rfl)))
          have Ra5 := Aside0.mk (Q_Ra5 (hon 5 (by kernel_rfl)))
          have Ra9 := Aside0.mk (Q_Ra9 (hon 9 (by kernel_rfl)))
          have Ra12 := Aside0.mk (Q_Ra12 (hon 12 (by kernel_rfl)))
          refine goes_ Tryd.func12 (by kernel_rfl) rfl #[.int .i64 1, .slice none 0 0] (by rfl) rfl rfl (by first | (simp only [List.map_toArray, List.map_cons, List.map_nil, Act.eval, Array.getD_eq_getD_getElem?, Option.getD_some]; done) | (simp only [List.map_toArray, List.map_cons, List.map_nil, Act.eval, Array.getD_eq_getD_getElem?, Option.getD_some]; rfl)) ?_
          with_reducible refine (op_calls _ _ _ _ _).mono ?_
          rintro e_ w1 ⟨rfl, hB⟩
          refine ⟨_, rfl, ?_⟩
          refine hK.out _ _ ⟨ga1, ga5, ga9, ga12, ga15, m1_, m2_, m5_, m6_, m9_, m10_, m12_, m13_, m15_, m16_, (by rw [ha.out]; exact putSel_upk 14 hb_ rfl rfl rfl), BW.out.trans (hB.mono BW.out.size), fun _ => Ra1.out.below hB, fun _ => Ra5.out.below hB, fun _ => Ra9.out.below hB, fun _ => Ra12.out.below hB, fun h0_ => absurd ((hoff 15 (by kernel_rfl)).symm.trans h0_) (by decide), Q_X1_, Q_X2_, Q_X5_, Q_X6_, Q_X9_, Q_X10_, Q_X12_, Q_X13_, fun h0_ => absurd ((hoff 15 (by kernel_rfl)).symm.trans h0_) (by decide), fun h0_ => absurd ((hoff 16 (by kernel_rfl)).symm.trans h0_) (by decide)⟩
        refine steps_cons ?_ ?_
        · rintro b a w' ⟨ga1, ga5, ga9, ga12, ga15, m1_, m2_, m5_, m6_, m9_, m10_, m12_, m13_, m15_, m16_, ha, Q_BW, Q_Ra1, Q_Ra5, Q_Ra9, Q_Ra12, Q_Ra15, Q_X1_, Q_X2_, Q_X5_, Q_X6_, Q_X9_, Q_X10_, Q_X12_, Q_X13_, Q_X15_, Q_X16_⟩ hb_ hon hoff
          refine ⟨_, rfl, fun K hK => ?_⟩
          have e39 : a.tmps[39]? = some (m2_) := by rw [ha]; exact putSel_on (e := (2, 39, m2_)) 2 rfl rfl (hon 2 (by kernel_rfl)) rfl
          rw [Q_X2_ (hon 2 (by kernel_rfl))] at e39
          have e43 : a.tmps[43]? = some (m6_) := by rw [ha]; exact putSel_on (e := (6, 43, m6_)) 6 rfl rfl (hon 6 (by kernel_rfl)) rfl
          rw [Q_X6_ (hon 6 (by kernel_rfl))] at e43
          have e47 : a.tmps[47]? = some (m10_) := by rw [ha]; exact putSel_on (e := (10, 47, m10_)) 10 rfl rfl (hon 10 (by kernel_rfl)) rfl
          rw [Q_X10_ (hon 10 (by kernel_rfl))] at e47
          have e50 : a.tmps[50]? = some (m13_) := by rw [ha]; exact putSel_on (e := (13, 50, m13_)) 13 rfl rfl (hon 13 (by kernel_rfl)) rfl
          rw [Q_X13_ (hon 13 (by kernel_rfl))] at e50
          have e51 : a.tmps[51]? = some (.agg #[.int .i64 1, .int .i64 0, .slice none 0 0]) := by rw [ha]; exact putSel_on (e := (14, 51, .agg #[.int .i64 1, .int .i64 0, .slice none 0 0])) 14 rfl rfl (hon 14 (by kernel_rfl)) rfl
          replace ha := Aside0.mk ha
          have BW := Aside0.mk Q_BW
          have Ra1 := Aside0.mk (Q_Ra1 (hon 1 (by kernel_rfl)))
          have Ra5 := Aside0.mk (Q_Ra5 (hon 5 (by kernel_rfl)))
          have Ra9 := Aside0.mk (Q_Ra9 (hon 9 (by kernel_rfl)))
          have Ra12 := Aside0.mk (Q_Ra12 (hon 12 (by kernel_rfl)))
          refine value_ (w1 := w'.alloc (.cells #[.int .i64 3, .int .i64 0, .slice (some ⟨ga1, 0, none⟩) 1 1, .int .i64 4, .int .i64 0, .slice (some ⟨ga5, 0, none⟩) 2 2, .int .i64 5, .int .i64 0, .slice (some ⟨ga9, 0, none⟩) 2 2, .int .i64 6, .int .i64 0, .slice (some ⟨ga12, 0, none⟩) 1 1, .int .i64 1, .int .i64 0, .slice none 0 0] 24)) (v := .slice (some ⟨w'.heap.size, 0, none⟩) 5 5) (by rfl) rfl ?_ ?_
          · (go_simp; try rfl)
          refine hK.out _ _ ⟨ga1, ga5, ga9, ga12, w'.heap.size, m1_, m2_, m5_, m6_, m9_, m10_, m12_, m13_, (.slice (some ⟨w'.heap.size, 0, none⟩) 5 5), m16_, (by rw [ha.out]; exact putSel_upk 15 hb_ rfl rfl rfl), below_alloc BW.out _, fun _ => Ra1.out.alloc _, fun _ => Ra5.out.alloc _, fun _ => Ra9.out.alloc _, fun _ => Ra12.out.alloc _, fun _ => Lay.new BW.out _ _, Q_X1_, Q_X2_, Q_X5_, Q_X6_, Q_X9_, Q_X10_, Q_X12_, Q_X13_, fun _ => rfl, fun h0_ => absurd ((hoff 16 (by kernel_rfl)).symm.trans h0_) (by decide)⟩
        refine steps_cons ?_ ?_
        · rintro b a w' ⟨ga1, ga5, ga9, ga12, ga15, m1_, m2_, m5_, m6_, m9_, m10_, m12_, m13_, m15_, m16_, ha, Q_BW, Q_Ra1, Q_Ra5, Q_Ra9, Q_Ra12, Q_Ra15, Q_X1_, Q_X2_, Q_X5_, Q_X6_, Q_X9_, Q_X10_, Q_X12_, Q_X13_, Q_X15_, Q_X16_⟩ hb_ hon hoff
          refine ⟨_, rfl, fun K hK => ?_⟩
          have e52 : a.tmps[52]? = some (m15_) := by rw [ha]; exact putSel_on (e := (15, 52, m15_)) 15 rfl rfl (hon 15 (by kernel_rfl)) rfl
          rw [Q_X15_ (hon 15 (by kernel_rfl))] at e52
          replace ha := Aside0.mk ha
          have BW := Aside0.mk Q_BW
          have Ra1 := Aside0.mk (Q_Ra1 (hon 1 (by kernel_rfl)))
          have Ra5 := Aside0.mk (Q_Ra5 (hon 5 (by kernel_rfl)))
          have Ra9 := Aside0.mk (Q_Ra9 (hon 9 (by kernel_rfl)))
          have Ra12 := Aside0.mk (Q_Ra12 (hon 12 (by kernel_rfl)))
          have Ra15 := Aside0.mk (Q_Ra15 (hon 15 (by kernel_rfl)))
          refine value_ (w1 := w') (v := .slice (some ⟨ga15, 0, none⟩) 5 5) (by rfl) rfl ?_ ?_
          · go_simp
            (try simp only [i64_w])
            try rfl
          refine hK.out _ _ ⟨ga1, ga5, ga9, ga12, ga15, m1_, m2_, m5_, m6_, m9_, m10_, m12_, m13_, m15_, (.slice (some ⟨ga15, 0, none⟩) 5 5), (by rw [ha.out]; exact putSel_upk 16 hb_ rfl rfl rfl), Q_BW, Q_Ra1, Q_Ra5, Q_Ra9, Q_Ra12, Q_Ra15, Q_X1_, Q_X2_, Q_X5_, Q_X6_, Q_X9_, Q_X10_, Q_X12_, Q_X13_, Q_X15_, fun _ => rfl⟩
        exact steps_nil
      · rintro b a w' hall ⟨ga1, ga5, ga9, ga12, ga15, m1_, m2_, m5_, m6_, m9_, m10_, m12_, m13_, m15_, m16_, ha, Q_BW, Q_Ra1, Q_Ra5, Q_Ra9, Q_Ra12, Q_Ra15, Q_X1_, Q_X2_, Q_X5_, Q_X6_, Q_X9_, Q_X10_, Q_X12_, Q_X13_, Q_X15_, Q_X16_⟩
        clear BW
        have hb0_ := hall 0 (by kernel_rfl)
        have hb1_ := hall 1 (by kernel_rfl)
        have hb2_ := hall 2 (by kernel_rfl)
        have hb3_ := hall 3 (by kernel_rfl)
        have hb4_ := hall 4 (by kernel_rfl)
        have hb5_ := hall 5 (by kernel_rfl)
        have hb6_ := hall 6 (by kernel_rfl)
        have hb7_ := hall 7 (by kernel_rfl)
        have hb8_ := hall 8 (by kernel_rfl)
        have hb9_ := hall 9 (by kernel_rfl)
        have hb10_ := hall 10 (by kernel_rfl)
        have hb11_ := hall 11 (by kernel_rfl)
        have hb12_ := hall 12 (by kernel_rfl)
        have hb13_ := hall 13 (by kernel_rfl)
        have hb14_ := hall 14 (by kernel_rfl)
        have hb15_ := hall 15 (by kernel_rfl)
        have hb16_ := hall 16 (by kernel_rfl)
        subst ha
        obtain rfl := Q_X1_ hb1_
        obtain rfl := Q_X2_ hb2_
        obtain rfl := Q_X5_ hb5_
        obtain rfl := Q_X6_ hb6_
        obtain rfl := Q_X9_ hb9_
        obtain rfl := Q_X10_ hb10_
        obtain rfl := Q_X12_ hb12_
        obtain rfl := Q_X13_ hb13_
        obtain rfl := Q_X15_ hb15_
        obtain rfl := Q_X16_ hb16_
        simp only [putSel, hb0_, hb1_, hb2_, hb3_, hb4_, hb5_, hb6_, hb7_, hb8_, hb9_, hb10_, hb11_, hb12_, hb13_, hb14_, hb15_, hb16_, if_true, Act.put, List.setIfInBounds_toArray, List.set_cons_zero, List.set_cons_succ]
        have BW := Aside0.mk Q_BW
        clear Q_BW
        have Ra1 := Aside0.mk (Q_Ra1 hb1_)
        clear Q_Ra1
        have Ra5 := Aside0.mk (Q_Ra5 hb5_)
        clear Q_Ra5
        have Ra9 := Aside0.mk (Q_Ra9 hb9_)
        clear Q_Ra9
        have Ra12 := Aside0.mk (Q_Ra12 hb12_)
        clear Q_Ra12
        have Ra15 := Aside0.mk (Q_Ra15 hb15_)
        clear Q_Ra15
        clear hall hb0_ hb1_ hb2_ hb3_ hb4_ hb5_ hb6_ hb7_ hb8_ hb9_ hb10_ hb11_ hb12_ hb13_ hb14_ hb15_ hb16_
        obtain ⟨W4, rfl⟩ : ∃ W : World, W = w' := ⟨_, rfl⟩
        have HBW4 := BW
        clear BW
        have HB4 := Aside0.mk (HB3.out.trans (HBW4.out.mono HB3.out.size))
        have HF4 := Aside0.mk ((HBW4.out.block _ (blk_lt HF3.out)).trans HF3.out)
        have HG4 := Aside0.mk ((HBW4.out.block _ (blk_lt HG3.out)).trans HG3.out)
        have HL4 := Aside0.mk ((HBW4.out.block _ (blk_lt HL3.out)).trans HL3.out)
        have HX4 := Aside0.mk Ra15.out.2
        have ks := Kd.C_below HKs.out HB4.out
        have kt := Kd.C_below HKt.out HB4.out
        have CN4 := Aside0.mk (C_of1 (s := s) Ra1.out.2 ks hc)
        have CD4 := Aside0.mk (C_of2 (a := s) (b := t) Ra5.out.2 ks hc kt hcm)
        have CO4 := Aside0.mk (C_of2 (a := s) (b := t) Ra9.out.2 ks hc kt hcm)
        have CX4 := Aside0.mk (C_of1 (s := s) Ra12.out.2 ks hc)
        have CL4 := Aside0.mk (show Kd.C k24 W4 (some ⟨ga15, 0, none⟩) 5 (logicL s t) from C_of5 (a := notN s) (b := andN s t) (c := orN s t) (d := nextN s) (e := yesN) (E := none) (ce := 0) Ra15.out.2 CN4.out (Nat.le_refl _) CD4.out (Nat.le_refl _) CO4.out (Nat.le_refl _) CX4.out (Nat.le_refl _) (Kd.C_nil _ _) (Nat.le_refl _))
        clear ks kt Ra1 Ra5 Ra9 Ra12 Ra15
        have HRF := Aside0.mk (fun W (h : Below W4.heap.size W4 W) => Row_calls s st lp A cp A1 A2 c1 c2 W (Kd.C_below HKs.out (HB4.out.trans (h.mono HB4.out.size))) hc (Kd.C_below HK1.out (HB4.out.trans (h.mono HB4.out.size))) hc1 (Kd.C_below HK2.out (HB4.out.trans (h.mono HB4.out.size))) hc2)
        have HRG := Aside0.mk (fun W (h : Below W4.heap.size W4 W) => Row_calls t st lp B cq A1 A2 c1 c2 W (Kd.C_below HKt.out (HB4.out.trans (h.mono HB4.out.size))) hcm (Kd.C_below HK1.out (HB4.out.trans (h.mono HB4.out.size))) hc1 (Kd.C_below HK2.out (HB4.out.trans (h.mono HB4.out.size))) hc2)
        have HRN := Aside0.mk (fun W (h : Below W4.heap.size W4 W) => show Calls Tryd.prog 15 #[.agg #[.int .i64 3, .int .i64 0, .slice (some ⟨ga1, 0, none⟩) 1 1], .agg #[.slice A1 st.length c1, .slice A2 lp.length c2]] W _ from Row_calls (notN s) st lp _ _ A1 A2 c1 c2 W (Kd.C_below CN4.out h) (Nat.le_refl _) (Kd.C_below HK1.out (HB4.out.trans (h.mono HB4.out.size))) hc1 (Kd.C_below HK2.out (HB4.out.trans (h.mono HB4.out.size))) hc2)
        have HRD := Aside0.mk (fun W (h : Below W4.heap.size W4 W) => show Calls Tryd.prog 15 #[.agg #[.int .i64 4, .int .i64 0, .slice (some ⟨ga5, 0, none⟩) 2 2], .agg #[.slice A1 st.length c1, .slice A2 lp.length c2]] W _ from Row_calls (andN s t) st lp _ _ A1 A2 c1 c2 W (Kd.C_below CD4.out h) (Nat.le_refl _) (Kd.C_below HK1.out (HB4.out.trans (h.mono HB4.out.size))) hc1 (Kd.C_below HK2.out (HB4.out.trans (h.mono HB4.out.size))) hc2)
        have HRO := Aside0.mk (fun W (h : Below W4.heap.size W4 W) => show Calls Tryd.prog 15 #[.agg #[.int .i64 5, .int .i64 0, .slice (some ⟨ga9, 0, none⟩) 2 2], .agg #[.slice A1 st.length c1, .slice A2 lp.length c2]] W _ from Row_calls (orN s t) st lp _ _ A1 A2 c1 c2 W (Kd.C_below CO4.out h) (Nat.le_refl _) (Kd.C_below HK1.out (HB4.out.trans (h.mono HB4.out.size))) hc1 (Kd.C_below HK2.out (HB4.out.trans (h.mono HB4.out.size))) hc2)
        have HRX := Aside0.mk (fun W (h : Below W4.heap.size W4 W) => show Calls Tryd.prog 15 #[.agg #[.int .i64 6, .int .i64 0, .slice (some ⟨ga12, 0, none⟩) 1 1], .agg #[.slice A1 st.length c1, .slice A2 lp.length c2]] W _ from Row_calls (nextN s) st lp _ _ A1 A2 c1 c2 W (Kd.C_below CX4.out h) (Nat.le_refl _) (Kd.C_below HK1.out (HB4.out.trans (h.mono HB4.out.size))) hc1 (Kd.C_below HK2.out (HB4.out.trans (h.mono HB4.out.size))) hc2)
        have HRY := Aside0.mk (fun W (h : Below W4.heap.size W4 W) => show Calls Tryd.prog 15 #[.agg #[.int .i64 1, .int .i64 0, .slice none 0 0], .agg #[.slice A1 st.length c1, .slice A2 lp.length c2]] W _ from Row_calls yesN st lp _ _ A1 A2 c1 c2 W (Kd.C_nil _ _) (Nat.le_refl _) (Kd.C_below HK1.out (HB4.out.trans (h.mono HB4.out.size))) hc1 (Kd.C_below HK2.out (HB4.out.trans (h.mono HB4.out.size))) hc2)
        have HLEN := Aside0.mk (fun h => logic_len (s := s) (t := t) h HWS.out)
        have HAT := Aside0.mk (fun h => logic_at (s := s) (t := t) h HWS.out)
        have HSM := Aside0.mk (word_small HWS.out)
        obtain ⟨xs, hxs⟩ : ∃ xs, xs = logicL s t := ⟨_, rfl⟩
        have hxl : xs.length = 5 := by rw [hxs]; rfl
        rw [← hxs] at CL4 HLEN HAT
        clear hxs CN4 CD4 CO4 CX4
        generalize rowF s st lp = ra at *
        generalize rowF t st lp = rb at *
        generalize rowF (notN s) st lp = rn at *
        generalize rowF (andN s t) st lp = rd at *
        generalize rowF (orN s t) st lp = ro at *
        generalize rowF (nextN s) st lp = rx at *
        generalize rowF yesN st lp = ry at *
        go_upto_block 0 with fail
        go_cut [] (fun wx => Aside0 (∀ k ∈ xs, mayF k = 0) ∧ Aside0 (Below W4.heap.size W4 wx))
        case first =>
          as_aux_lemma =>
            go_wp2
            go_loopg [55] 5 (fun kq v55 w' => ∃ j : Nat, j + kq = 5 ∧ v55 = .int .i64 j ∧ Aside0 (∀ k ∈ xs.take j, mayF k = 0) ∧ Aside0 (Below W4.heap.size W4 w'))
            case atStart => exact ⟨0, by omega, rfl, ⟨fun k hk => by simp at hk⟩, ⟨Below.refl _ _⟩⟩
            case round =>
              obtain ⟨WW, rfl⟩ : ∃ W : World, W = wr := ⟨_, rfl⟩
              obtain ⟨j, hj, rfl, HMJ, HBj⟩ := hrel
              have HJ := Aside0.mk hj
              clear hj
              by_cases hlt : j < 5
              · have hlx : j < xs.length := by rw [hxl]; exact hlt
                obtain ⟨ad, A5, c5, e0, hx0, hx1, hx2, hl5, hk5⟩ := kid_at CL4.out HBj.out j hlt hlx
                cases e0
                rw [add_at] at hx0 hx1 hx2
                simp only [Nat.zero_add] at hx0 hx1 hx2
                have HBk := Aside0.mk (below_alloc HBj.out (.cells #[.int .i64 (xs[j]'hlx).f0, .int .i64 (xs[j]'hlx).f1, .slice A5 (xs[j]'hlx).f2.length c5] 24))
                have HCALL := Aside0.mk (May_calls (xs[j]'hlx) A5 c5 _ (Kd.C_below hk5 HBk.out) hl5)
                have HTM := Aside0.mk (fun h2 => take_may hlx HMJ.out h2)
                generalize mayF (xs[j]'hlx) = m at *
                clear hk5 hl5
                by_cases em : m = 0
                · have bm : (m != 0) = false := by rw [em]; rfl
                  have HTN := Aside0.mk (HTM.out em)
                  clear em HTM
                  go_wp2_with (go_at_call 13; refine HCALL.out.mono ?_; rintro e_ w5 ⟨rfl, hB⟩; have HB5 := Aside0.mk (HBk.out.trans (hB.mono HBk.out.size)); clear hB)
                  go_roundg (gk - 1)
                  case measure => have := HJ.out; omega
                  case rel => exact ⟨j + 1, by have := HJ.out; omega, by go_num, HTN, HB5⟩
                · have bm : (m != 0) = true := by simpa using em
                  clear em HTM
                  go_wp2_with (first | (go_at_call 13; refine HCALL.out.mono ?_; rintro e_ w5 ⟨rfl, hB⟩; have HB5 := Aside0.mk (HBk.out.trans (hB.mono HBk.out.size)); clear hB) | (go_at_call 11; refine (awake_calls _).mono ?_; rintro e_ w9 ⟨rfl, hB⟩; first | (have HBz := Aside0.mk (HB5.out.trans (hB.mono HB5.out.size)); clear hB)))
                  go_ret
                  exact ⟨rfl, HB4.out.trans (HBz.out.mono HB4.out.size)⟩
              · have hall : ∀ k ∈ xs, mayF k = 0 := by have := HMJ.out; rwa [List.take_of_length_le (by omega)] at this
                have HALL := Aside0.mk hall
                clear hall
                go_wp2
                go_meet
                exact ⟨HALL, HBj⟩
        case rest =>
          obtain ⟨HALL, HBl⟩ := hcut
          obtain ⟨wl, rfl⟩ : ∃ W : World, W = wc := ⟨_, rfl⟩
          have hall := HALL.out
          clear CL4
          have HFl := Aside0.mk ((HBl.out.block _ (blk_lt HF4.out)).trans HF4.out)
          have HGl := Aside0.mk ((HBl.out.block _ (blk_lt HG4.out)).trans HG4.out)
          have HLl := Aside0.mk ((HBl.out.block _ (blk_lt HL4.out)).trans HL4.out)
          have HXl := Aside0.mk ((HBl.out.block _ (blk_lt HX4.out)).trans HX4.out)
          have qLl0 := (blk_cell HLl.out 0).trans rfl
          have qLl1 := (blk_cell HLl.out 1).trans rfl
          obtain ⟨ha, hb, hn', hd', ho, hx, hy⟩ := HLEN.out hall
          have HAT2 := Aside0.mk (HAT.out hall)
          have hsm := HSM.out
          obtain ⟨hs1, hs2, hs3⟩ := hsm
          have HLA := Aside0.mk (And.intro ha (And.intro hb (And.intro hn' (And.intro hd' (And.intro ho (And.intro hx hy))))))
          clear hall ha hb hn' hd' ho hx hy HLEN HAT hxl
          go_upto_region 11 with fail
          refine start_ (n := 8) (S := fun w' => w'.cell? ⟨w.heap.size, 0, none⟩ = some (.int .i64 s.f0) ∧ w'.cell? ⟨w.heap.size, 1, none⟩ = some (.int .i64 s.f1) ∧ w'.cell? ⟨w.heap.size, 2, none⟩ = some (.slice A s.f2.length cp) ∧ w'.cell? ⟨w.heap.size + 1, 0, none⟩ = some (.int .i64 t.f0) ∧ w'.cell? ⟨w.heap.size + 1, 1, none⟩ = some (.int .i64 t.f1) ∧ w'.cell? ⟨w.heap.size + 1, 2, none⟩ = some (.slice B t.f2.length cq) ∧ w'.cell? ⟨w.heap.size + 1 + 1, 0, none⟩ = some (.slice A1 st.length c1) ∧ w'.cell? ⟨w.heap.size + 1 + 1, 1, none⟩ = some (.slice A2 lp.length c2)) (ds := []) #[false, false, false, false, false, false, false, false] (by kernel_rfl) rfl rfl ⟨((blk_cell HFl.out 0).trans rfl), ((blk_cell HFl.out 1).trans rfl), ((blk_cell HFl.out 2).trans rfl), ((blk_cell HGl.out 0).trans rfl), ((blk_cell HGl.out 1).trans rfl), ((blk_cell HGl.out 2).trans rfl), ((blk_cell HLl.out 0).trans rfl), ((blk_cell HLl.out 1).trans rfl)⟩ (fun hHeld => ?_)
          refine with_tabW flo.tab11 flo.bits11 (fun HT_ HW_ => ?_)
          refine take_ (i := 0) (N := some 71) (v := ?_) (a' := ?_) #[true, false, false, false, false, false, false, false] rfl rfl (take_ofW HT_.out HW_.out (by kernel_rfl)) (fun _ _ _ h => h) (Or.inl ⟨by rfl, ?_⟩) hHeld ?_ ?_
          rotate_left
          · rintro w' ⟨s0, s1, s2, s3, s4, s5, s6, s7⟩
            go_simp
            with_reducible rfl
          rotate_left
          · simp only [Act.put, List.setIfInBounds_toArray, List.set_cons_zero, List.set_cons_succ, i64_w, i32_w]
            rfl
          refine take_ (i := 1) (N := some 72) (v := ?_) (a' := ?_) #[true, true, false, false, false, false, false, false] rfl rfl (take_ofW HT_.out HW_.out (by kernel_rfl)) (fun _ _ _ h => h) (Or.inl ⟨by rfl, ?_⟩) hHeld ?_ ?_
          rotate_left
          · rintro w' ⟨s0, s1, s2, s3, s4, s5, s6, s7⟩
            go_simp
            with_reducible rfl
          rotate_left
          · simp only [Act.put, List.setIfInBounds_toArray, List.set_cons_zero, List.set_cons_succ, i64_w, i32_w]
            rfl
          refine take_ (i := 3) (N := some 74) (v := ?_) (a' := ?_) #[true, true, false, true, false, false, false, false] rfl rfl (take_ofW HT_.out HW_.out (by kernel_rfl)) (fun _ _ _ h => h) (Or.inl ⟨by rfl, ?_⟩) hHeld ?_ ?_
          rotate_left
          · rintro w' ⟨s0, s1, s2, s3, s4, s5, s6, s7⟩
            go_simp
            with_reducible rfl
          rotate_left
          · simp only [Act.put, List.setIfInBounds_toArray, List.set_cons_zero, List.set_cons_succ, i64_w, i32_w]
            rfl
          refine take_ (i := 4) (N := some 75) (v := ?_) (a' := ?_) #[true, true, false, true, true, false, false, false] rfl rfl (take_ofW HT_.out HW_.out (by kernel_rfl)) (fun _ _ _ h => h) (Or.inl ⟨by rfl, ?_⟩) hHeld ?_ ?_
          rotate_left
          · rintro w' ⟨s0, s1, s2, s3, s4, s5, s6, s7⟩
            go_simp
            with_reducible rfl
          rotate_left
          · simp only [Act.put, List.setIfInBounds_toArray, List.set_cons_zero, List.set_cons_succ, i64_w, i32_w]
            rfl
          refine one_ (i := 2) (N := some 73) #[true, true, true, true, true, false, false, false] rfl rfl (one_of HT_.out (by kernel_rfl)) (by decide) (fun K hK => ?_)
          refine goes_ Tryd.func15 (by kernel_rfl) rfl #[.agg #[.int .i64 s.f0, .int .i64 s.f1, .slice A s.f2.length cp], .agg #[.slice A1 st.length c1, .slice A2 lp.length c2]] (by rfl) rfl rfl (by simp only [List.map_toArray, List.map_cons, List.map_nil]; rfl) ?_
          with_reducible refine (HRF.out _ (HBl.out.trans ((show Below wl.heap.size wl wl.drew from below_drew1 (Below.refl _ _)).mono HBl.out.size))).mono ?_
          rintro e_ wc2 ⟨va, rfl, hR, hB⟩
          have HBc2 := Aside0.mk (show Below wl.heap.size wl wc2 from (below_drew1 (Below.refl _ _)).trans hB)
          have HVva := Aside0.mk hR
          clear hR
          clear hB hHeld
          have hkF2 := (HBc2.out.block _ (blk_lt HFl.out)).trans HFl.out
          have hkG2 := (HBc2.out.block _ (blk_lt HGl.out)).trans HGl.out
          have hkL2 := (HBc2.out.block _ (blk_lt HLl.out)).trans HLl.out
          refine ⟨_, rfl, ?_⟩
          refine hK.out _ _ ⟨((blk_cell hkF2 0).trans rfl), ((blk_cell hkF2 1).trans rfl), ((blk_cell hkF2 2).trans rfl), ((blk_cell hkG2 0).trans rfl), ((blk_cell hkG2 1).trans rfl), ((blk_cell hkG2 2).trans rfl), ((blk_cell hkL2 0).trans rfl), ((blk_cell hkL2 1).trans rfl)⟩ (fun hHeld => ?_)
          clear hK K
          refine norm_ (a' := ?_) ?_ ?_
          rotate_left
          · show Act.put _ (some 73) _ = _
            simp only [Act.put, List.setIfInBounds_toArray, List.set_cons_zero, List.set_cons_succ, i64_w, i32_w]
            rfl
          refine one_ (i := 5) (N := some 76) #[true, true, true, true, true, true, false, false] rfl rfl (one_of HT_.out (by kernel_rfl)) (by decide) (fun K hK => ?_)
          refine goes_ Tryd.func15 (by kernel_rfl) rfl #[.agg #[.int .i64 t.f0, .int .i64 t.f1, .slice B t.f2.length cq], .agg #[.slice A1 st.length c1, .slice A2 lp.length c2]] (by rfl) rfl rfl (by simp only [List.map_toArray, List.map_cons, List.map_nil]; rfl) ?_
          with_reducible refine (HRG.out _ (HBl.out.trans (HBc2.out.mono HBl.out.size))).mono ?_
          rintro e_ wc5 ⟨vb, rfl, hR, hB⟩
          have HBc5 := Aside0.mk (show Below wl.heap.size wl wc5 from HBc2.out.trans (hB.mono HBc2.out.size))
          have HVvb := Aside0.mk hR
          clear hR
          have HVva := Aside0.mk (Kd.R_below HVva.out hB)
          clear hB hHeld
          have hkF5 := (HBc5.out.block _ (blk_lt HFl.out)).trans HFl.out
          have hkG5 := (HBc5.out.block _ (blk_lt HGl.out)).trans HGl.out
          have hkL5 := (HBc5.out.block _ (blk_lt HLl.out)).trans HLl.out
          refine ⟨_, rfl, ?_⟩
          refine hK.out _ _ ⟨((blk_cell hkF5 0).trans rfl), ((blk_cell hkF5 1).trans rfl), ((blk_cell hkF5 2).trans rfl), ((blk_cell hkG5 0).trans rfl), ((blk_cell hkG5 1).trans rfl), ((blk_cell hkG5 2).trans rfl), ((blk_cell hkL5 0).trans rfl), ((blk_cell hkL5 1).trans rfl)⟩ (fun hHeld => ?_)
          clear hK K
          refine norm_ (a' := ?_) ?_ ?_
          rotate_left
          · show Act.put _ (some 76) _ = _
            simp only [Act.put, List.setIfInBounds_toArray, List.set_cons_zero, List.set_cons_succ, i64_w, i32_w]
            rfl
          refine pure_ (i := 6) (N := some 11) (v := ?_) (a' := ?_) #[true, true, true, true, true, true, true, false] rfl rfl (any_of HT_.out (by kernel_rfl)) (fun _ _ _ h => h) (Or.inl ⟨by rfl, ?_⟩) ?_ ?_
          rotate_left
          · intro w'
            go_simp
            with_reducible rfl
          rotate_left
          · simp only [Act.put, List.setIfInBounds_toArray, List.set_cons_zero, List.set_cons_succ, i64_w, i32_w]
            rfl
          refine pure_ (i := 7) (N := some 12) (v := ?_) (a' := ?_) #[true, true, true, true, true, true, true, true] rfl rfl (any_of HT_.out (by kernel_rfl)) (fun _ _ _ h => h) (Or.inl ⟨by rfl, ?_⟩) ?_ ?_
          rotate_left
          · intro w'
            go_simp
            with_reducible rfl
          rotate_left
          · simp only [Act.put, List.setIfInBounds_toArray, List.set_cons_zero, List.set_cons_succ, i64_w, i32_w]
            rfl
          refine done_ (done_of HT_.out (by kernel_rfl)) ?_
          clear hHeld HT_ HW_ hkF2 hkG2 hkL2 hkF5 hkG5 hkL5
          obtain ⟨wm, rfl⟩ : ∃ W : World, W = wc5 := ⟨_, rfl⟩
          have HBm := Aside0.mk (HBl.out.trans (HBc5.out.mono HBl.out.size))
          have HBc5m := HBc5
          have HLm := Aside0.mk ((HBc5m.out.block _ (blk_lt HLl.out)).trans HLl.out)
          have HXm := Aside0.mk ((HBc5m.out.block _ (blk_lt HXl.out)).trans HXl.out)
          go_upto_region 12 with fail
          refine start_ (n := 30) (S := fun w' => w'.cell? ⟨w.heap.size + 1 + 1, 0, none⟩ = some (.slice A1 st.length c1) ∧ w'.cell? ⟨w.heap.size + 1 + 1, 1, none⟩ = some (.slice A2 lp.length c2) ∧ w'.cell? ⟨ga15, 0, none⟩ = some (.int .i64 3) ∧ w'.cell? ⟨ga15, 1, none⟩ = some (.int .i64 0) ∧ w'.cell? ⟨ga15, 2, none⟩ = some (.slice (some ⟨ga1, 0, none⟩) 1 1) ∧ w'.cell? ⟨ga15, 3, none⟩ = some (.int .i64 4) ∧ w'.cell? ⟨ga15, 4, none⟩ = some (.int .i64 0) ∧ w'.cell? ⟨ga15, 5, none⟩ = some (.slice (some ⟨ga5, 0, none⟩) 2 2) ∧ w'.cell? ⟨ga15, 6, none⟩ = some (.int .i64 5) ∧ w'.cell? ⟨ga15, 7, none⟩ = some (.int .i64 0) ∧ w'.cell? ⟨ga15, 8, none⟩ = some (.slice (some ⟨ga9, 0, none⟩) 2 2) ∧ w'.cell? ⟨ga15, 9, none⟩ = some (.int .i64 6) ∧ w'.cell? ⟨ga15, 10, none⟩ = some (.int .i64 0) ∧ w'.cell? ⟨ga15, 11, none⟩ = some (.slice (some ⟨ga12, 0, none⟩) 1 1) ∧ w'.cell? ⟨ga15, 12, none⟩ = some (.int .i64 1) ∧ w'.cell? ⟨ga15, 13, none⟩ = some (.int .i64 0) ∧ w'.cell? ⟨ga15, 14, none⟩ = some (.slice none 0 0)) (ds := []) #[false, false, false, false, false, false, false, false, false, false, false, false, false, false, false, false, false, false, false, false, false, false, false, false, false, false, false, false, false, false] (by kernel_rfl) rfl rfl ⟨((blk_cell HLm.out 0).trans rfl), ((blk_cell HLm.out 1).trans rfl), ((blk_cell HXm.out 0).trans rfl), ((blk_cell HXm.out 1).trans rfl), ((blk_cell HXm.out 2).trans rfl), ((blk_cell HXm.out 3).trans rfl), ((blk_cell HXm.out 4).trans rfl), ((blk_cell HXm.out 5).trans rfl), ((blk_cell HXm.out 6).trans rfl), ((blk_cell HXm.out 7).trans rfl), ((blk_cell HXm.out 8).trans rfl), ((blk_cell HXm.out 9).trans rfl), ((blk_cell HXm.out 10).trans rfl), ((blk_cell HXm.out 11).trans rfl), ((blk_cell HXm.out 12).trans rfl), ((blk_cell HXm.out 13).trans rfl), ((blk_cell HXm.out 14).trans rfl)⟩ (fun hHeld => ?_)
          refine with_tabW flo.tab12 flo.bits12 (fun HT_ HW_ => ?_)
          refine pure_ (i := 0) (N := some 77) (v := ?_) (a' := ?_) #[true, false, false, false, false, false, false, false, false, false, false, false, false, false, false, false, false, false, false, false, false, false, false, false, false, false, false, false, false, false] rfl rfl (any_of HT_.out (by kernel_rfl)) (fun _ _ _ h => h) (Or.inl ⟨by rfl, ?_⟩) ?_ ?_
          rotate_left
          · intro w'
            go_simp
            with_reducible rfl
          rotate_left
          · simp only [Act.put, List.setIfInBounds_toArray, List.set_cons_zero, List.set_cons_succ, i64_w, i32_w]
            rfl
          refine pure_ (i := 1) (N := some 78) (v := ?_) (a' := ?_) #[true, true, false, false, false, false, false, false, false, false, false, false, false, false, false, false, false, false, false, false, false, false, false, false, false, false, false, false, false, false] rfl rfl (any_of HT_.out (by kernel_rfl)) (fun _ _ _ h => h) (Or.inl ⟨by rfl, ?_⟩) ?_ ?_
          rotate_left
          · intro w'
            go_simp
            with_reducible rfl
          rotate_left
          · simp only [Act.put, List.setIfInBounds_toArray, List.set_cons_zero, List.set_cons_succ, i64_w, i32_w]
            rfl
          refine pure_ (i := 5) (N := some 82) (v := ?_) (a' := ?_) #[true, true, false, false, false, true, false, false, false, false, false, false, false, false, false, false, false, false, false, false, false, false, false, false, false, false, false, false, false, false] rfl rfl (any_of HT_.out (by kernel_rfl)) (fun _ _ _ h => h) (Or.inl ⟨by rfl, ?_⟩) ?_ ?_
          rotate_left
          · intro w'
            go_simp
            with_reducible rfl
          rotate_left
          · simp only [Act.put, List.setIfInBounds_toArray, List.set_cons_zero, List.set_cons_succ, i64_w, i32_w]
            rfl
          refine pure_ (i := 6) (N := some 83) (v := ?_) (a' := ?_) #[true, true, false, false, false, true, true, false, false, false, false, false, false, false, false, false, false, false, false, false, false, false, false, false, false, false, false, false, false, false] rfl rfl (any_of HT_.out (by kernel_rfl)) (fun _ _ _ h => h) (Or.inl ⟨by rfl, ?_⟩) ?_ ?_
          rotate_left
          · intro w'
            go_simp
            with_reducible rfl
          rotate_left
          · simp only [Act.put, List.setIfInBounds_toArray, List.set_cons_zero, List.set_cons_succ, i64_w, i32_w]
            rfl
          refine pure_ (i := 10) (N := some 87) (v := ?_) (a' := ?_) #[true, true, false, false, false, true, true, false, false, false, true, false, false, false, false, false, false, false, false, false, false, false, false, false, false, false, false, false, false, false] rfl rfl (any_of HT_.out (by kernel_rfl)) (fun _ _ _ h => h) (Or.inl ⟨by rfl, ?_⟩) ?_ ?_
          rotate_left
          · intro w'
            go_simp
            with_reducible rfl
          rotate_left
          · simp only [Act.put, List.setIfInBounds_toArray, List.set_cons_zero, List.set_cons_succ, i64_w, i32_w]
            rfl
          refine pure_ (i := 11) (N := some 88) (v := ?_) (a' := ?_) #[true, true, false, false, false, true, true, false, false, false, true, true, false, false, false, false, false, false, false, false, false, false, false, false, false, false, false, false, false, false] rfl rfl (any_of HT_.out (by kernel_rfl)) (fun _ _ _ h => h) (Or.inl ⟨by rfl, ?_⟩) ?_ ?_
          rotate_left
          · intro w'
            go_simp
            with_reducible rfl
          rotate_left
          · simp only [Act.put, List.setIfInBounds_toArray, List.set_cons_zero, List.set_cons_succ, i64_w, i32_w]
            rfl
          refine pure_ (i := 15) (N := some 92) (v := ?_) (a' := ?_) #[true, true, false, false, false, true, true, false, false, false, true, true, false, false, false, true, false, false, false, false, false, false, false, false, false, false, false, false, false, false] rfl rfl (any_of HT_.out (by kernel_rfl)) (fun _ _ _ h => h) (Or.inl ⟨by rfl, ?_⟩) ?_ ?_
          rotate_left
          · intro w'
            go_simp
            with_reducible rfl
          rotate_left
          · simp only [Act.put, List.setIfInBounds_toArray, List.set_cons_zero, List.set_cons_succ, i64_w, i32_w]
            rfl
          refine pure_ (i := 16) (N := some 93) (v := ?_) (a' := ?_) #[true, true, false, false, false, true, true, false, false, false, true, true, false, false, false, true, true, false, false, false, false, false, false, false, false, false, false, false, false, false] rfl rfl (any_of HT_.out (by kernel_rfl)) (fun _ _ _ h => h) (Or.inl ⟨by rfl, ?_⟩) ?_ ?_
          rotate_left
          · intro w'
            go_simp
            with_reducible rfl
          rotate_left
          · simp only [Act.put, List.setIfInBounds_toArray, List.set_cons_zero, List.set_cons_succ, i64_w, i32_w]
            rfl
          refine pure_ (i := 20) (N := some 97) (v := ?_) (a' := ?_) #[true, true, false, false, false, true, true, false, false, false, true, true, false, false, false, true, true, false, false, false, true, false, false, false, false, false, false, false, false, false] rfl rfl (any_of HT_.out (by kernel_rfl)) (fun _ _ _ h => h) (Or.inl ⟨by rfl, ?_⟩) ?_ ?_
          rotate_left
          · intro w'
            go_simp
            with_reducible rfl
          rotate_left
          · simp only [Act.put, List.setIfInBounds_toArray, List.set_cons_zero, List.set_cons_succ, i64_w, i32_w]
            rfl
          refine pure_ (i := 21) (N := some 98) (v := ?_) (a' := ?_) #[true, true, false, false, false, true, true, false, false, false, true, true, false, false, false, true, true, false, false, false, true, true, false, false, false, false, false, false, false, false] rfl rfl (any_of HT_.out (by kernel_rfl)) (fun _ _ _ h => h) (Or.inl ⟨by rfl, ?_⟩) ?_ ?_
          rotate_left
          · intro w'
            go_simp
            with_reducible rfl
          rotate_left
          · simp only [Act.put, List.setIfInBounds_toArray, List.set_cons_zero, List.set_cons_succ, i64_w, i32_w]
            rfl
          refine take_ (i := 2) (N := some 79) (v := ?_) (a' := ?_) #[true, true, true, false, false, true, true, false, false, false, true, true, false, false, false, true, true, false, false, false, true, true, false, false, false, false, false, false, false, false] rfl rfl (take_ofW HT_.out HW_.out (by kernel_rfl)) (fun _ _ _ h => h) (Or.inl ⟨by rfl, ?_⟩) hHeld ?_ ?_
          rotate_left
          · rintro w' ⟨s0, s1, s2, s3, s4, s5, s6, s7, s8, s9, s10, s11, s12, s13, s14, s15, s16⟩
            go_simp
            with_reducible rfl
          rotate_left
          · simp only [Act.put, List.setIfInBounds_toArray, List.set_cons_zero, List.set_cons_succ, i64_w, i32_w]
            rfl
          refine take_ (i := 3) (N := some 80) (v := ?_) (a' := ?_) #[true, true, true, true, false, true, true, false, false, false, true, true, false, false, false, true, true, false, false, false, true, true, false, false, false, false, false, false, false, false] rfl rfl (take_ofW HT_.out HW_.out (by kernel_rfl)) (fun _ _ _ h => h) (Or.inl ⟨by rfl, ?_⟩) hHeld ?_ ?_
          rotate_left
          · rintro w' ⟨s0, s1, s2, s3, s4, s5, s6, s7, s8, s9, s10, s11, s12, s13, s14, s15, s16⟩
            go_simp
            with_reducible rfl
          rotate_left
          · simp only [Act.put, List.setIfInBounds_toArray, List.set_cons_zero, List.set_cons_succ, i64_w, i32_w]
            rfl
          refine take_ (i := 7) (N := some 84) (v := ?_) (a' := ?_) #[true, true, true, true, false, true, true, true, false, false, true, true, false, false, false, true, true, false, false, false, true, true, false, false, false, false, false, false, false, false] rfl rfl (take_ofW HT_.out HW_.out (by kernel_rfl)) (fun _ _ _ h => h) (Or.inl ⟨by rfl, ?_⟩) hHeld ?_ ?_
          rotate_left
          · rintro w' ⟨s0, s1, s2, s3, s4, s5, s6, s7, s8, s9, s10, s11, s12, s13, s14, s15, s16⟩
            go_simp
            with_reducible rfl
          rotate_left
          · simp only [Act.put, List.setIfInBounds_toArray, List.set_cons_zero, List.set_cons_succ, i64_w, i32_w]
            rfl
          refine take_ (i := 8) (N := some 85) (v := ?_) (a' := ?_) #[true, true, true, true, false, true, true, true, true, false, true, true, false, false, false, true, true, false, false, false, true, true, false, false, false, false, false, false, false, false] rfl rfl (take_ofW HT_.out HW_.out (by kernel_rfl)) (fun _ _ _ h => h) (Or.inl ⟨by rfl, ?_⟩) hHeld ?_ ?_
          rotate_left
          · rintro w' ⟨s0, s1, s2, s3, s4, s5, s6, s7, s8, s9, s10, s11, s12, s13, s14, s15, s16⟩
            go_simp
            with_reducible rfl
          rotate_left
          · simp only [Act.put, List.setIfInBounds_toArray, List.set_cons_zero, List.set_cons_succ, i64_w, i32_w]
            rfl
          refine take_ (i := 12) (N := some 89) (v := ?_) (a' := ?_) #[true, true, true, true, false, true, true, true, true, false, true, true, true, false, false, true, true, false, false, false, true, true, false, false, false, false, false, false, false, false] rfl rfl (take_ofW HT_.out HW_.out (by kernel_rfl)) (fun _ _ _ h => h) (Or.inl ⟨by rfl, ?_⟩) hHeld ?_ ?_
          rotate_left
          · rintro w' ⟨s0, s1, s2, s3, s4, s5, s6, s7, s8, s9, s10, s11, s12, s13, s14, s15, s16⟩
            go_simp
            with_reducible rfl
          rotate_left
          · simp only [Act.put, List.setIfInBounds_toArray, List.set_cons_zero, List.set_cons_succ, i64_w, i32_w]
            rfl
          refine take_ (i := 13) (N := some 90) (v := ?_) (a' := ?_) #[true, true, true, true, false, true, true, true, true, false, true, true, true, true, false, true, true, false, false, false, true, true, false, false, false, false, false, false, false, false] rfl rfl (take_ofW HT_.out HW_.out (by kernel_rfl)) (fun _ _ _ h => h) (Or.inl ⟨by rfl, ?_⟩) hHeld ?_ ?_
          rotate_left
          · rintro w' ⟨s0, s1, s2, s3, s4, s5, s6, s7, s8, s9, s10, s11, s12, s13, s14, s15, s16⟩
            go_simp
            with_reducible rfl
          rotate_left
          · simp only [Act.put, List.setIfInBounds_toArray, List.set_cons_zero, List.set_cons_succ, i64_w, i32_w]
            rfl
          refine take_ (i := 17) (N := some 94) (v := ?_) (a' := ?_) #[true, true, true, true, false, true, true, true, true, false, true, true, true, true, false, true, true, true, false, false, true, true, false, false, false, false, false, false, false, false] rfl rfl (take_ofW HT_.out HW_.out (by kernel_rfl)) (fun _ _ _ h => h) (Or.inl ⟨by rfl, ?_⟩) hHeld ?_ ?_
          rotate_left
          · rintro w' ⟨s0, s1, s2, s3, s4, s5, s6, s7, s8, s9, s10, s11, s12, s13, s14, s15, s16⟩
            go_simp
            with_reducible rfl
          rotate_left
          · simp only [Act.put, List.setIfInBounds_toArray, List.set_cons_zero, List.set_cons_succ, i64_w, i32_w]
            rfl
          refine take_ (i := 18) (N := some 95) (v := ?_) (a' := ?_) #[true, true, true, true, false, true, true, true, true, false, true, true, true, true, false, true, true, true, true, false, true, true, false, false, false, false, false, false, false, false] rfl rfl (take_ofW HT_.out HW_.out (by kernel_rfl)) (fun _ _ _ h => h) (Or.inl ⟨by rfl, ?_⟩) hHeld ?_ ?_
          rotate_left
          · rintro w' ⟨s0, s1, s2, s3, s4, s5, s6, s7, s8, s9, s10, s11, s12, s13, s14, s15, s16⟩
            go_simp
            with_reducible rfl
          rotate_left
          · simp only [Act.put, List.setIfInBounds_toArray, List.set_cons_zero, List.set_cons_succ, i64_w, i32_w]
            rfl
          refine take_ (i := 22) (N := some 99) (v := ?_) (a' := ?_) #[true, true, true, true, false, true, true, true, true, false, true, true, true, true, false, true, true, true, true, false, true, true, true, false, false, false, false, false, false, false] rfl rfl (take_ofW HT_.out HW_.out (by kernel_rfl)) (fun _ _ _ h => h) (Or.inl ⟨by rfl, ?_⟩) hHeld ?_ ?_
          rotate_left
          · rintro w' ⟨s0, s1, s2, s3, s4, s5, s6, s7, s8, s9, s10, s11, s12, s13, s14, s15, s16⟩
            go_simp
            with_reducible rfl
          rotate_left
          · simp only [Act.put, List.setIfInBounds_toArray, List.set_cons_zero, List.set_cons_succ, i64_w, i32_w]
            rfl
          refine take_ (i := 23) (N := some 100) (v := ?_) (a' := ?_) #[true, true, true, true, false, true, true, true, true, false, true, true, true, true, false, true, true, true, true, false, true, true, true, true, false, false, false, false, false, false] rfl rfl (take_ofW HT_.out HW_.out (by kernel_rfl)) (fun _ _ _ h => h) (Or.inl ⟨by rfl, ?_⟩) hHeld ?_ ?_
          rotate_left
          · rintro w' ⟨s0, s1, s2, s3, s4, s5, s6, s7, s8, s9, s10, s11, s12, s13, s14, s15, s16⟩
            go_simp
            with_reducible rfl
          rotate_left
          · simp only [Act.put, List.setIfInBounds_toArray, List.set_cons_zero, List.set_cons_succ, i64_w, i32_w]
            rfl
          refine one_ (i := 4) (N := some 81) #[true, true, true, true, true, true, true, true, true, false, true, true, true, true, false, true, true, true, true, false, true, true, true, true, false, false, false, false, false, false] rfl rfl (one_of HT_.out (by kernel_rfl)) (by decide) (fun K hK => ?_)
          refine goes_ Tryd.func15 (by kernel_rfl) rfl #[.agg #[.int .i64 3, .int .i64 0, .slice (some ⟨ga1, 0, none⟩) 1 1], .agg #[.slice A1 st.length c1, .slice A2 lp.length c2]] (by rfl) rfl rfl (by simp only [List.map_toArray, List.map_cons, List.map_nil]; rfl) ?_
          with_reducible refine (HRN.out _ (HBm.out.trans ((show Below wm.heap.size wm wm.drew from below_drew1 (Below.refl _ _)).mono HBm.out.size))).mono ?_
          rintro e_ wc4 ⟨vn, rfl, hR, hB⟩
          have HBc4 := Aside0.mk (show Below wm.heap.size wm wc4 from (below_drew1 (Below.refl _ _)).trans hB)
          have HVvn := Aside0.mk hR
          clear hR
          have HVva := Aside0.mk (Kd.R_below HVva.out HBc4.out)
          have HVvb := Aside0.mk (Kd.R_below HVvb.out HBc4.out)
          clear hB hHeld
          have hkL4 := (HBc4.out.block _ (blk_lt HLm.out)).trans HLm.out
          have hkX4 := (HBc4.out.block _ (blk_lt HXm.out)).trans HXm.out
          refine ⟨_, rfl, ?_⟩
          refine hK.out _ _ ⟨((blk_cell hkL4 0).trans rfl), ((blk_cell hkL4 1).trans rfl), ((blk_cell hkX4 0).trans rfl), ((blk_cell hkX4 1).trans rfl), ((blk_cell hkX4 2).trans rfl), ((blk_cell hkX4 3).trans rfl), ((blk_cell hkX4 4).trans rfl), ((blk_cell hkX4 5).trans rfl), ((blk_cell hkX4 6).trans rfl), ((blk_cell hkX4 7).trans rfl), ((blk_cell hkX4 8).trans rfl), ((blk_cell hkX4 9).trans rfl), ((blk_cell hkX4 10).trans rfl), ((blk_cell hkX4 11).trans rfl), ((blk_cell hkX4 12).trans rfl), ((blk_cell hkX4 13).trans rfl), ((blk_cell hkX4 14).trans rfl)⟩ (fun hHeld => ?_)
          clear hK K
          refine norm_ (a' := ?_) ?_ ?_
          rotate_left
          · show Act.put _ (some 81) _ = _
            simp only [Act.put, List.setIfInBounds_toArray, List.set_cons_zero, List.set_cons_succ, i64_w, i32_w]
            rfl
          refine one_ (i := 9) (N := some 86) #[true, true, true, true, true, true, true, true, true, true, true, true, true, true, false, true, true, true, true, false, true, true, true, true, false, false, false, false, false, false] rfl rfl (one_of HT_.out (by kernel_rfl)) (by decide) (fun K hK => ?_)
          refine goes_ Tryd.func15 (by kernel_rfl) rfl #[.agg #[.int .i64 4, .int .i64 0, .slice (some ⟨ga5, 0, none⟩) 2 2], .agg #[.slice A1 st.length c1, .slice A2 lp.length c2]] (by rfl) rfl rfl (by simp only [List.map_toArray, List.map_cons, List.map_nil]; rfl) ?_
          with_reducible refine (HRD.out _ (HBm.out.trans (HBc4.out.mono HBm.out.size))).mono ?_
          rintro e_ wc9 ⟨vd, rfl, hR, hB⟩
          have HBc9 := Aside0.mk (show Below wm.heap.size wm wc9 from HBc4.out.trans (hB.mono HBc4.out.size))
          have HVvd := Aside0.mk hR
          clear hR
          have HVva := Aside0.mk (Kd.R_below HVva.out hB)
          have HVvb := Aside0.mk (Kd.R_below HVvb.out hB)
          have HVvn := Aside0.mk (Kd.R_below HVvn.out hB)
          clear hB hHeld
          have hkL9 := (HBc9.out.block _ (blk_lt HLm.out)).trans HLm.out
          have hkX9 := (HBc9.out.block _ (blk_lt HXm.out)).trans HXm.out
          refine ⟨_, rfl, ?_⟩
          refine hK.out _ _ ⟨((blk_cell hkL9 0).trans rfl), ((blk_cell hkL9 1).trans rfl), ((blk_cell hkX9 0).trans rfl), ((blk_cell hkX9 1).trans rfl), ((blk_cell hkX9 2).trans rfl), ((blk_cell hkX9 3).trans rfl), ((blk_cell hkX9 4).trans rfl), ((blk_cell hkX9 5).trans rfl), ((blk_cell hkX9 6).trans rfl), ((blk_cell hkX9 7).trans rfl), ((blk_cell hkX9 8).trans rfl), ((blk_cell hkX9 9).trans rfl), ((blk_cell hkX9 10).trans rfl), ((blk_cell hkX9 11).trans rfl), ((blk_cell hkX9 12).trans rfl), ((blk_cell hkX9 13).trans rfl), ((blk_cell hkX9 14).trans rfl)⟩ (fun hHeld => ?_)
          clear hK K
          refine norm_ (a' := ?_) ?_ ?_
          rotate_left
          · show Act.put _ (some 86) _ = _
            simp only [Act.put, List.setIfInBounds_toArray, List.set_cons_zero, List.set_cons_succ, i64_w, i32_w]
            rfl
          refine one_ (i := 14) (N := some 91) #[true, true, true, true, true, true, true, true, true, true, true, true, true, true, true, true, true, true, true, false, true, true, true, true, false, false, false, false, false, false] rfl rfl (one_of HT_.out (by kernel_rfl)) (by decide) (fun K hK => ?_)
          refine goes_ Tryd.func15 (by kernel_rfl) rfl #[.agg #[.int .i64 5, .int .i64 0, .slice (some ⟨ga9, 0, none⟩) 2 2], .agg #[.slice A1 st.length c1, .slice A2 lp.length c2]] (by rfl) rfl rfl (by simp only [List.map_toArray, List.map_cons, List.map_nil]; rfl) ?_
          with_reducible refine (HRO.out _ (HBm.out.trans (HBc9.out.mono HBm.out.size))).mono ?_
          rintro e_ wc14 ⟨vo, rfl, hR, hB⟩
          have HBc14 := Aside0.mk (show Below wm.heap.size wm wc14 from HBc9.out.trans (hB.mono HBc9.out.size))
          have HVvo := Aside0.mk hR
          clear hR
          have HVva := Aside0.mk (Kd.R_below HVva.out hB)
          have HVvb := Aside0.mk (Kd.R_below HVvb.out hB)
          have HVvn := Aside0.mk (Kd.R_below HVvn.out hB)
          have HVvd := Aside0.mk (Kd.R_below HVvd.out hB)
          clear hB hHeld
          have hkL14 := (HBc14.out.block _ (blk_lt HLm.out)).trans HLm.out
          have hkX14 := (HBc14.out.block _ (blk_lt HXm.out)).trans HXm.out
          refine ⟨_, rfl, ?_⟩
          refine hK.out _ _ ⟨((blk_cell hkL14 0).trans rfl), ((blk_cell hkL14 1).trans rfl), ((blk_cell hkX14 0).trans rfl), ((blk_cell hkX14 1).trans rfl), ((blk_cell hkX14 2).trans rfl), ((blk_cell hkX14 3).trans rfl), ((blk_cell hkX14 4).trans rfl), ((blk_cell hkX14 5).trans rfl), ((blk_cell hkX14 6).trans rfl), ((blk_cell hkX14 7).trans rfl), ((blk_cell hkX14 8).trans rfl), ((blk_cell hkX14 9).trans rfl), ((blk_cell hkX14 10).trans rfl), ((blk_cell hkX14 11).trans rfl), ((blk_cell hkX14 12).trans rfl), ((blk_cell hkX14 13).trans rfl), ((blk_cell hkX14 14).trans rfl)⟩ (fun hHeld => ?_)
          clear hK K
          refine norm_ (a' := ?_) ?_ ?_
          rotate_left
          · show Act.put _ (some 91) _ = _
            simp only [Act.put, List.setIfInBounds_toArray, List.set_cons_zero, List.set_cons_succ, i64_w, i32_w]
            rfl
          refine one_ (i := 19) (N := some 96) #[true, true, true, true, true, true, true, true, true, true, true, true, true, true, true, true, true, true, true, true, true, true, true, true, false, false, false, false, false, false] rfl rfl (one_of HT_.out (by kernel_rfl)) (by decide) (fun K hK => ?_)
          refine goes_ Tryd.func15 (by kernel_rfl) rfl #[.agg #[.int .i64 6, .int .i64 0, .slice (some ⟨ga12, 0, none⟩) 1 1], .agg #[.slice A1 st.length c1, .slice A2 lp.length c2]] (by rfl) rfl rfl (by simp only [List.map_toArray, List.map_cons, List.map_nil]; rfl) ?_
          with_reducible refine (HRX.out _ (HBm.out.trans (HBc14.out.mono HBm.out.size))).mono ?_
          rintro e_ wc19 ⟨vx, rfl, hR, hB⟩
          have HBc19 := Aside0.mk (show Below wm.heap.size wm wc19 from HBc14.out.trans (hB.mono HBc14.out.size))
          have HVvx := Aside0.mk hR
          clear hR
          have HVva := Aside0.mk (Kd.R_below HVva.out hB)
          have HVvb := Aside0.mk (Kd.R_below HVvb.out hB)
          have HVvn := Aside0.mk (Kd.R_below HVvn.out hB)
          have HVvd := Aside0.mk (Kd.R_below HVvd.out hB)
          have HVvo := Aside0.mk (Kd.R_below HVvo.out hB)
          clear hB hHeld
          have hkL19 := (HBc19.out.block _ (blk_lt HLm.out)).trans HLm.out
          have hkX19 := (HBc19.out.block _ (blk_lt HXm.out)).trans HXm.out
          refine ⟨_, rfl, ?_⟩
          refine hK.out _ _ ⟨((blk_cell hkL19 0).trans rfl), ((blk_cell hkL19 1).trans rfl), ((blk_cell hkX19 0).trans rfl), ((blk_cell hkX19 1).trans rfl), ((blk_cell hkX19 2).trans rfl), ((blk_cell hkX19 3).trans rfl), ((blk_cell hkX19 4).trans rfl), ((blk_cell hkX19 5).trans rfl), ((blk_cell hkX19 6).trans rfl), ((blk_cell hkX19 7).trans rfl), ((blk_cell hkX19 8).trans rfl), ((blk_cell hkX19 9).trans rfl), ((blk_cell hkX19 10).trans rfl), ((blk_cell hkX19 11).trans rfl), ((blk_cell hkX19 12).trans rfl), ((blk_cell hkX19 13).trans rfl), ((blk_cell hkX19 14).trans rfl)⟩ (fun hHeld => ?_)
          clear hK K
          refine norm_ (a' := ?_) ?_ ?_
          rotate_left
          · show Act.put _ (some 96) _ = _
            simp only [Act.put, List.setIfInBounds_toArray, List.set_cons_zero, List.set_cons_succ, i64_w, i32_w]
            rfl
          refine one_ (i := 24) (N := some 101) #[true, true, true, true, true, true, true, true, true, true, true, true, true, true, true, true, true, true, true, true, true, true, true, true, true, false, false, false, false, false] rfl rfl (one_of HT_.out (by kernel_rfl)) (by decide) (fun K hK => ?_)
          refine goes_ Tryd.func15 (by kernel_rfl) rfl #[.agg #[.int .i64 1, .int .i64 0, .slice none 0 0], .agg #[.slice A1 st.length c1, .slice A2 lp.length c2]] (by rfl) rfl rfl (by simp only [List.map_toArray, List.map_cons, List.map_nil]; rfl) ?_
          with_reducible refine (HRY.out _ (HBm.out.trans (HBc19.out.mono HBm.out.size))).mono ?_
          rintro e_ wc24 ⟨vy, rfl, hR, hB⟩
          have HBc24 := Aside0.mk (show Below wm.heap.size wm wc24 from HBc19.out.trans (hB.mono HBc19.out.size))
          have HVvy := Aside0.mk hR
          clear hR
          have HVva := Aside0.mk (Kd.R_below HVva.out hB)
          have HVvb := Aside0.mk (Kd.R_below HVvb.out hB)
          have HVvn := Aside0.mk (Kd.R_below HVvn.out hB)
          have HVvd := Aside0.mk (Kd.R_below HVvd.out hB)
          have HVvo := Aside0.mk (Kd.R_below HVvo.out hB)
          have HVvx := Aside0.mk (Kd.R_below HVvx.out hB)
          clear hB hHeld
          have hkL24 := (HBc24.out.block _ (blk_lt HLm.out)).trans HLm.out
          have hkX24 := (HBc24.out.block _ (blk_lt HXm.out)).trans HXm.out
          refine ⟨_, rfl, ?_⟩
          refine hK.out _ _ ⟨((blk_cell hkL24 0).trans rfl), ((blk_cell hkL24 1).trans rfl), ((blk_cell hkX24 0).trans rfl), ((blk_cell hkX24 1).trans rfl), ((blk_cell hkX24 2).trans rfl), ((blk_cell hkX24 3).trans rfl), ((blk_cell hkX24 4).trans rfl), ((blk_cell hkX24 5).trans rfl), ((blk_cell hkX24 6).trans rfl), ((blk_cell hkX24 7).trans rfl), ((blk_cell hkX24 8).trans rfl), ((blk_cell hkX24 9).trans rfl), ((blk_cell hkX24 10).trans rfl), ((blk_cell hkX24 11).trans rfl), ((blk_cell hkX24 12).trans rfl), ((blk_cell hkX24 13).trans rfl), ((blk_cell hkX24 14).trans rfl)⟩ (fun hHeld => ?_)
          clear hK K
          refine norm_ (a' := ?_) ?_ ?_
          rotate_left
          · show Act.put _ (some 101) _ = _
            simp only [Act.put, List.setIfInBounds_toArray, List.set_cons_zero, List.set_cons_succ, i64_w, i32_w]
            rfl
          refine pure_ (i := 25) (N := some 13) (v := ?_) (a' := ?_) #[true, true, true, true, true, true, true, true, true, true, true, true, true, true, true, true, true, true, true, true, true, true, true, true, true, true, false, false, false, false] rfl rfl (any_of HT_.out (by kernel_rfl)) (fun _ _ _ h => h) (Or.inl ⟨by rfl, ?_⟩) ?_ ?_
          rotate_left
          · intro w'
            go_simp
            with_reducible rfl
          rotate_left
          · simp only [Act.put, List.setIfInBounds_toArray, List.set_cons_zero, List.set_cons_succ, i64_w, i32_w]
            rfl
          refine pure_ (i := 26) (N := some 14) (v := ?_) (a' := ?_) #[true, true, true, true, true, true, true, true, true, true, true, true, true, true, true, true, true, true, true, true, true, true, true, true, true, true, true, false, false, false] rfl rfl (any_of HT_.out (by kernel_rfl)) (fun _ _ _ h => h) (Or.inl ⟨by rfl, ?_⟩) ?_ ?_
          rotate_left
          · intro w'
            go_simp
            with_reducible rfl
          rotate_left
          · simp only [Act.put, List.setIfInBounds_toArray, List.set_cons_zero, List.set_cons_succ, i64_w, i32_w]
            rfl
          refine pure_ (i := 27) (N := some 15) (v := ?_) (a' := ?_) #[true, true, true, true, true, true, true, true, true, true, true, true, true, true, true, true, true, true, true, true, true, true, true, true, true, true, true, true, false, false] rfl rfl (any_of HT_.out (by kernel_rfl)) (fun _ _ _ h => h) (Or.inl ⟨by rfl, ?_⟩) ?_ ?_
          rotate_left
          · intro w'
            go_simp
            with_reducible rfl
          rotate_left
          · simp only [Act.put, List.setIfInBounds_toArray, List.set_cons_zero, List.set_cons_succ, i64_w, i32_w]
            rfl
          refine pure_ (i := 28) (N := some 16) (v := ?_) (a' := ?_) #[true, true, true, true, true, true, true, true, true, true, true, true, true, true, true, true, true, true, true, true, true, true, true, true, true, true, true, true, true, false] rfl rfl (any_of HT_.out (by kernel_rfl)) (fun _ _ _ h => h) (Or.inl ⟨by rfl, ?_⟩) ?_ ?_
          rotate_left
          · intro w'
            go_simp
            with_reducible rfl
          rotate_left
          · simp only [Act.put, List.setIfInBounds_toArray, List.set_cons_zero, List.set_cons_succ, i64_w, i32_w]
            rfl
          refine pure_ (i := 29) (N := some 17) (v := ?_) (a' := ?_) #[true, true, true, true, true, true, true, true, true, true, true, true, true, true, true, true, true, true, true, true, true, true, true, true, true, true, true, true, true, true] rfl rfl (any_of HT_.out (by kernel_rfl)) (fun _ _ _ h => h) (Or.inl ⟨by rfl, ?_⟩) ?_ ?_
          rotate_left
          · intro w'
            go_simp
            with_reducible rfl
          rotate_left
          · simp only [Act.put, List.setIfInBounds_toArray, List.set_cons_zero, List.set_cons_succ, i64_w, i32_w]
            rfl
          refine done_ (done_of HT_.out (by kernel_rfl)) ?_
          clear hHeld HT_ HW_ hkL4 hkX4 hkL9 hkX9 hkL14 hkX14 hkL19 hkX19 hkL24 hkX24
          obtain ⟨wn, rfl⟩ : ∃ W : World, W = wc24 := ⟨_, rfl⟩
          have HBn := Aside0.mk (HBm.out.trans (HBc24.out.mono HBm.out.size))
          have HBc24n := HBc24
          have HLn := Aside0.mk ((HBc24n.out.block _ (blk_lt HLm.out)).trans HLm.out)
          obtain ⟨la, lb, ln, ld, lo, lx, ly⟩ := HLA.out
          have hsm := HSM.out
          obtain ⟨Aa, ca7, e_a, hca, hCa⟩ := Kd.R_reads HVva.out
          subst e_a
          obtain ⟨ada, eaa, cella⟩ := (Kd.reads_of_C (d := false) hCa).2.2 (by rw [la]; have := hsm.2.1; omega)
          cases eaa
          have HCa := Aside0.mk cella
          clear hCa cella hca HVva
          obtain ⟨Ab, cb7, e_b, hcb, hCb⟩ := Kd.R_reads HVvb.out
          subst e_b
          obtain ⟨adb, eab, cellb⟩ := (Kd.reads_of_C (d := false) hCb).2.2 (by rw [lb]; have := hsm.2.1; omega)
          cases eab
          have HCb := Aside0.mk cellb
          clear hCb cellb hcb HVvb
          obtain ⟨An, cn7, e_n, hcn, hCn⟩ := Kd.R_reads HVvn.out
          subst e_n
          obtain ⟨adn, ean, celln⟩ := (Kd.reads_of_C (d := false) hCn).2.2 (by rw [ln]; have := hsm.2.1; omega)
          cases ean
          have HCn := Aside0.mk celln
          clear hCn celln hcn HVvn
          obtain ⟨Ad, cd7, e_d, hcd, hCd⟩ := Kd.R_reads HVvd.out
          subst e_d
          obtain ⟨add, ead, celld⟩ := (Kd.reads_of_C (d := false) hCd).2.2 (by rw [ld]; have := hsm.2.1; omega)
          cases ead
          have HCd := Aside0.mk celld
          clear hCd celld hcd HVvd
          obtain ⟨Ao, co7, e_o, hco, hCo⟩ := Kd.R_reads HVvo.out
          subst e_o
          obtain ⟨ado, eao, cello⟩ := (Kd.reads_of_C (d := false) hCo).2.2 (by rw [lo]; have := hsm.2.1; omega)
          cases eao
          have HCo := Aside0.mk cello
          clear hCo cello hco HVvo
          obtain ⟨Ax, cx7, e_x, hcx, hCx⟩ := Kd.R_reads HVvx.out
          subst e_x
          obtain ⟨adx, eax, cellx⟩ := (Kd.reads_of_C (d := false) hCx).2.2 (by rw [lx]; have := hsm.2.1; omega)
          cases eax
          have HCx := Aside0.mk cellx
          clear hCx cellx hcx HVvx
          obtain ⟨Ay, cy7, e_y, hcy, hCy⟩ := Kd.R_reads HVvy.out
          subst e_y
          obtain ⟨ady, eay, celly⟩ := (Kd.reads_of_C (d := false) hCy).2.2 (by rw [ly]; have := hsm.2.1; omega)
          cases eay
          have HCy := Aside0.mk celly
          clear hCy celly hcy HVvy
          have ba7 : ((ra.length : Int) != (st.length : Int) + (lp.length : Int)) = false := len_bne la
          have bb7 : ((rb.length : Int) != (st.length : Int) + (lp.length : Int)) = false := len_bne lb
          have bn7 : ((rn.length : Int) != (st.length : Int) + (lp.length : Int)) = false := len_bne ln
          have bd7 : ((rd.length : Int) != (st.length : Int) + (lp.length : Int)) = false := len_bne ld
          have bo7 : ((ro.length : Int) != (st.length : Int) + (lp.length : Int)) = false := len_bne lo
          have bx7 : ((rx.length : Int) != (st.length : Int) + (lp.length : Int)) = false := len_bne lx
          have by7 : ((ry.length : Int) != (st.length : Int) + (lp.length : Int)) = false := len_bne ly
          clear la lb ln ld lo lx ly hsm
          have i70 := idx7_0
          have i71 := idx7_1
          have i72 := idx7_2
          have i73 := idx7_3
          have i74 := idx7_4
          have i75 := idx7_5
          have i76 := idx7_6
          go_upto_block 2 with fail
          go_cut [] (fun wx => wx = wn)
          case first =>
            as_aux_lemma =>
              go_wp2
              go_loopg [110] 7 (fun kq v110 w' => ∃ j : Nat, j + kq = 7 ∧ v110 = .int .i64 j ∧ wn = w')
              case atStart => exact ⟨0, by omega, rfl, rfl⟩
              case round =>
                obtain ⟨j, hj, rfl, rfl⟩ := hrel
                have HJ := Aside0.mk hj
                clear hj
                by_cases hlt : j < 7
                · rcases lt7 hlt with e | e | e | e | e | e | e
                  · subst e
                    go_wp2
                    go_roundg (gk - 1)
                    case measure => have := HJ.out; omega
                    case rel => exact ⟨1, by have := HJ.out; omega, by first | rfl | go_num, rfl⟩
                  · subst e
                    go_wp2
                    go_roundg (gk - 1)
                    case measure => have := HJ.out; omega
                    case rel => exact ⟨2, by have := HJ.out; omega, by first | rfl | go_num, rfl⟩
                  · subst e
                    go_wp2
                    go_roundg (gk - 1)
                    case measure => have := HJ.out; omega
                    case rel => exact ⟨3, by have := HJ.out; omega, by first | rfl | go_num, rfl⟩
                  · subst e
                    go_wp2
                    go_roundg (gk - 1)
                    case measure => have := HJ.out; omega
                    case rel => exact ⟨4, by have := HJ.out; omega, by first | rfl | go_num, rfl⟩
                  · subst e
                    go_wp2
                    go_roundg (gk - 1)
                    case measure => have := HJ.out; omega
                    case rel => exact ⟨5, by have := HJ.out; omega, by first | rfl | go_num, rfl⟩
                  · subst e
                    go_wp2
                    go_roundg (gk - 1)
                    case measure => have := HJ.out; omega
                    case rel => exact ⟨6, by have := HJ.out; omega, by first | rfl | go_num, rfl⟩
                  · subst e
                    go_wp2
                    go_roundg (gk - 1)
                    case measure => have := HJ.out; omega
                    case rel => exact ⟨7, by have := HJ.out; omega, by first | rfl | go_num, rfl⟩
                · go_wp2
                  go_meet
                  exact rfl
          case rest =>
            have hwc := hcut
            rw [hwc]
            clear hcut hwc wc i70 i71 i72 i73 i74 i75 i76
            clear ba7
            clear bb7
            clear bn7
            clear bd7
            clear bo7
            clear bx7
            clear by7
            go_upto_block 4 with fail
            go_cut [] (fun wx => Aside0 (Below wn.heap.size wn wx))
            case first =>
              refine logic_loop st lp A1 A2 c1 c2 (w.heap.size + 1 + 1) wn ra rb rn rd ro rx ry ada adb adn add ado adx ady ca7 cb7 cn7 cd7 co7 cx7 cy7 _ _ _ _ _ _ _ _ _ _ _ _ _ _ _ _ _ _ _ _ _ _ _ _ _ _ _ _ _ _ _ _ _ _ _ _ _ _ _ _ _ _ _ _ _ _ _ _ _ _ _ _ _ _ _ _ _ _ _ _ _ _ _ _ _ _ _ _ _ _ _ _ _ _ _ _ _ _ _ _ _ _ _ _ _ _ _ _ _ _ _ _ _ _ _ _ _ _ _ _ _ _ _ _ _ _ _ _ _ _ _ _ _ _ _ _ _ _ _ _ _ _ _ _ _ _ _ _ _ _ _ _ _ _ _ _ _ _ _ _ _ _ _ _ _ _ _ _ _ _ _ _ _ _ _ _ _ _ _ _ _ _ _ _ _ _ _ _ _ _ _ _ _ _ _ _ _ _ _ _ _ _ HLn HAT2 HSM HLA HCa HCb HCn HCd HCo HCx HCy _ _ ⟨fun v6 v20 v21 v119 v120 v121 v122 v123 v124 v125 v126 v127 v128 v129 v130 v131 v132 v133 v134 v135 v136 v137 v138 v139 v140 v141 v142 v143 v144 v145 v146 v147 v148 v149 v150 v151 v152 v153 v154 v155 v156 v157 v158 v159 v160 v161 v162 v163 v164 v165 v166 v167 v168 v169 v170 v171 v172 v173 v174 v175 v176 v177 v178 v179 v180 v181 v182 v183 v184 v185 v186 v187 v188 v189 v190 v191 w_ hB_ => ?_⟩
              go_step
              go_meet
              exact ⟨hB_⟩
            case rest =>
              have HBi := hcut
              clear hcut
              go_wp2_with (go_at_call 11; refine (awake_calls _).mono ?_; rintro e_ w9 ⟨rfl, hB⟩; have HBz := Aside0.mk (HBi.out.trans (hB.mono HBi.out.size)); clear hB)
              go_ret
              exact ⟨rfl, HB4.out.trans ((HBn.out.trans (HBz.out.mono HBn.out.size)).mono HB4.out.size)⟩
def parrylaw22_FormulaLogic.f (a0_0 : Int) (a0_1 : Int) (l0_2 : List S24) (a1_0 : Int) (a1_1 : Int) (l1_2 : List S24) (l2_0 : List Int) (l2_1 : List Int) : Option Bool := some true
theorem parrylaw22_FormulaLogic.calls (a0_0 : Int) (a0_1 : Int) (A0_2 : Option Addr) (c0_2 : Nat) (l0_2 : List S24) (a1_0 : Int) (a1_1 : Int) (A1_2 : Option Addr) (c1_2 : Nat) (l1_2 : List S24) (A2_0 : Option Addr) (c2_0 : Nat) (l2_0 : List Int) (A2_1 : Option Addr) (c2_1 : Nat) (l2_1 : List Int) (r : Bool) (w : World) (hr0_2 : Kd.C k24 w A0_2 l0_2.length l0_2) (hc0_2 : l0_2.length ≤ c0_2) (hr1_2 : Kd.C k24 w A1_2 l1_2.length l1_2) (hc1_2 : l1_2.length ≤ c1_2) (hr2_0 : Kd.C (Kd.int .u32) w A2_0 l2_0.length l2_0) (hc2_0 : l2_0.length ≤ c2_0) (hr2_1 : Kd.C (Kd.int .u32) w A2_1 l2_1.length l2_1) (hc2_1 : l2_1.length ≤ c2_1) (h : parrylaw22_FormulaLogic.f a0_0 a0_1 l0_2 a1_0 a1_1 l1_2 l2_0 l2_1 = some r) (hrt : r = true) :
    Calls Tryd.prog 5 #[.agg #[.int .i64 a0_0, .int .i64 a0_1, .slice A0_2 l0_2.length c0_2], .agg #[.int .i64 a1_0, .int .i64 a1_1, .slice A1_2 l1_2.length c1_2], .agg #[.slice A2_0 l2_0.length c2_0, .slice A2_1 l2_1.length c2_1]] w fun e w' => e = .returned (.bool r) ∧ Below w.heap.size w w' := by
  subst hrt
  exact logic_calls ⟨a0_0, a0_1, l0_2⟩ ⟨a1_0, a1_1, l1_2⟩ l2_0 l2_1 A0_2 A1_2 A2_0 A2_1 c0_2 c1_2 c2_0 c2_1 w hr0_2 hc0_2 hr1_2 hc1_2 hr2_0 hc2_0 hr2_1 hc2_1
end Go.Proofs.YtjjnokodkeekhaaDoor.X

namespace Go.Proofs.YtjjnokodkeekhaaDoor.Op
open Go.RowKit Go.Proofs.YtjjnokodkeekhaaDoorW.PrintWords
set_option linter.unusedVariables false
set_option linter.unusedSimpArgs false

def Opens (N : Nat) (P : Program) (T : TypeId) {α : Type} (d : Kd α) (G : α → Prop) : Prop :=
  ∀ (H : Type) (enc : TypeId × Value → H) (W : World) (base : Nat) (spare : Nat → Bool) (held : Bool) (fuel : Nat) (cs : List Value) (x : DataW H × List MemPlace),
    fuel ≤ N → DataW.trod enc P W base spare held fuel T cs = some x → (∀ n ∈ x.1.weights P T, n ≤ reachBytes) → ∃ y, d.K W y cs ∧ G y

theorem Opens.mono {N M : Nat} {P : Program} {T : TypeId} {α : Type} {d : Kd α} {G : α → Prop} (h : Opens N P T d G) (hm : M ≤ N) : Opens M P T d G :=
  fun H enc W base spare held fuel cs x hf => h H enc W base spare held fuel cs x (Nat.le_trans hf hm)

theorem opens_int {N : Nat} {P : Program} {T : TypeId} {k : IntKind} (ht : P.underlying T = some (.int k)) : Opens N P T (Kd.int k) (fun n => (Lit.int k n).wf = true) := by
  intro H enc W base spare held fuel cs x _ h _
  obtain ⟨n, rfl, _, hw⟩ := DataW.trod_int ht h
  exact ⟨n, rfl, hw⟩
theorem weightsAll_mem {H : Type} {P : Program} {e : TypeId} : ∀ {l : List (DataW H)} {i : Nat} {d : DataW H}, l[i]? = some d → ∀ n ∈ d.weights P e, n ∈ DataW.weightsAll P e l
  | [], i, d, h => by simp at h
  | a :: r, 0, d, h => fun n hn => by
    simp at h
    subst h
    simp only [DataW.weightsAll, List.mem_append]
    exact .inl hn
  | a :: r, i + 1, d, h => fun n hn => by
    simp only [DataW.weightsAll, List.mem_append]
    exact .inr (weightsAll_mem (by simpa using h) n hn)
theorem choose_list {α : Type} {p : Nat → α → Prop} : ∀ n, (∀ i, i < n → ∃ x, p i x) → ∃ l : List α, l.length = n ∧ ∀ i x, l[i]? = some x → p i x
  | 0, _ => ⟨[], rfl, fun i x h => by simp at h⟩
  | n + 1, h => by
    obtain ⟨l, hl, hp⟩ := choose_list n (fun i hi => h i (by omega))
    obtain ⟨x, hx⟩ := h n (by omega)
    refine ⟨l ++ [x], by simp [hl], fun i y hy => ?_⟩
    rcases Nat.lt_or_ge i l.length with hi | hi
    · rw [List.getElem?_append_left hi] at hy
      exact hp i y hy
    · rw [List.getElem?_append_right hi] at hy
      have hi0 : i - l.length = 0 := by
        rcases Nat.eq_zero_or_pos (i - l.length) with h0 | h0
        · exact h0
        · rw [List.getElem?_eq_none (by simp; omega)] at hy
          cases hy
      rw [hi0] at hy
      simp at hy
      subst hy
      rw [show i = n by omega]
      exact hx
theorem opens_slice {N : Nat} {P : Program} {T e : TypeId} {α : Type} {d : Kd α} {G : α → Prop} (ht : P.underlying T = some (.slice e)) (hsz : P.cellsOf e = d.sz) (hd : Opens N P e d G) :
    Opens (N + 1) P T (Kd.slice e d) (fun xs => (∀ x ∈ xs, G x) ∧ xs.length * P.bytesOf e ≤ reachBytes) := by
  intro H enc W base spare held fuel cs x hN h hw
  rcases DataW.trod_slice ht h with ⟨rfl, rfl⟩ | ⟨a, len, cap, elems, rest, n, rfl, rfl, rfl, hb, hl, hm, hlen, hel, _, _⟩
  · exact ⟨[], ⟨none, 0, rfl, by simp, ⟨rfl, by simp, fun h => absurd h (Nat.lt_irrefl 0)⟩⟩, fun x hx => by simp at hx, by simp⟩
  · have hw2 : ∀ m ∈ (DataW.slice (elems.map (·.1)) (rest.map (·.1)) : DataW H).weights P T, m ≤ reachBytes := hw
    simp only [DataW.weights, ht, List.mem_cons, List.mem_append] at hw2
    have one : ∀ i, i < len → ∃ y : α, G y ∧ ∃ c : List Value, c.length = d.sz ∧ d.K W y c ∧ ∀ j u, c[j]? = some u → W.cell? (a.add (i * d.sz + j)) = some u := by
      intro i hi
      have hi2 := hel i hi
      rw [List.getElem?_eq_getElem (by omega)] at hi2
      obtain ⟨c, h1, h2⟩ := Option.bind_eq_some_iff.1 hi2
      obtain ⟨y, hK, hG⟩ := hd H enc W base spare held n c _ (by omega) h2 (fun m hm2 => hw2 m (.inr (.inl (weightsAll_mem (i := i) (by simp [List.getElem?_eq_getElem (show i < elems.length by omega)]) m hm2))))
      obtain ⟨_, h3, h4⟩ := World.cells?_some h1
      refine ⟨y, hG, c, by rw [h3, hsz], hK, fun j u hu => ?_⟩
      have hj : j < c.length := (List.getElem?_eq_some_iff.1 hu).1
      have h5 := h4 j (by omega)
      rw [hu] at h5
      have e1 : (a.add (i * P.cellsOf e)).add j = a.add (i * d.sz + j) := by
        rw [hsz]
        unfold Addr.add
        by_cases hi0 : i * d.sz = 0 <;> by_cases hj0 : j = 0 <;> simp [hi0, hj0, Nat.add_assoc]
      rw [← e1]
      exact h5
    obtain ⟨l, hl2, hp⟩ := choose_list len one
    refine ⟨l, ⟨some a, cap, by rw [hl2], by omega, ⟨rfl, by unfold maxLen at hm; omega, fun _ => ⟨a, rfl, fun j p hj => (hp j p hj).2⟩⟩⟩, fun x hx => ?_, ?_⟩
    · obtain ⟨i, hi⟩ := List.getElem?_of_mem hx
      exact (hp i x hi).1
    · have h6 := hw2 _ (.inl rfl)
      simp only [List.length_map] at h6
      rw [hl2]
      exact Nat.le_trans (Nat.mul_le_mul_right _ (by omega)) h6

/-- Fields that lie side by side from cell o on, n cells in all. -/
def OpensF (N : Nat) (P : Program) (fs : List Field) (o n : Nat) {α : Type} (d : Kd α) (G : α → Prop) : Prop :=
  ∀ (H : Type) (enc : TypeId × Value → H) (W : World) (base : Nat) (spare : Nat → Bool) (held : Bool) (fuel : Nat) (cs : List Value) (xs : List (DataW H × List MemPlace)),
    fuel ≤ N → xs.length = fs.length → (∀ (i : Nat) (f : Field), fs[i]? = some f → DataW.trod enc P W base spare held fuel f.type ((cs.drop f.offset).take (P.cellsOf f.type)) = xs[i]?) →
    (∀ m ∈ DataW.weightsEach P (fs.map (·.type)) (xs.map (·.1)), m ≤ reachBytes) → ∃ y, d.K W y ((cs.drop o).take n) ∧ G y
theorem opensF_one {N : Nat} {P : Program} {f : Field} {o n : Nat} {α : Type} {d : Kd α} {G : α → Prop} (ho : f.offset = o) (hn : P.cellsOf f.type = n) (h : Opens N P f.type d G) : OpensF N P [f] o n d G := by
  intro H enc W base spare held fuel cs xs hN hl hx hw
  obtain ⟨x, rfl⟩ : ∃ x, xs = [x] := by
    match xs, hl with
    | [x], _ => exact ⟨x, rfl⟩
  have h1 := hx 0 f rfl
  rw [ho, hn] at h1
  exact h H enc W base spare held fuel _ x hN h1 (fun m hm => hw m (by simpa [DataW.weightsEach] using hm))
theorem opensF_cons {N : Nat} {P : Program} {f : Field} {fs : List Field} {o a n : Nat} {α β : Type} {d : Kd α} {d' : Kd β} {G : α → Prop} {G' : β → Prop} (ho : f.offset = o) (ha : P.cellsOf f.type = a) (h : Opens N P f.type d G) (hr : OpensF N P fs (o + a) n d' G') :
    OpensF N P (f :: fs) o (a + n) (Kd.pair d d') (fun y => G y.1 ∧ G' y.2) := by
  intro H enc W base spare held fuel cs xs hN hl hx hw
  match xs, hl with
  | x :: xs, hl =>
    have h1 := hx 0 f rfl
    rw [ho, ha] at h1
    simp only [List.map_cons, DataW.weightsEach, List.mem_append] at hw
    obtain ⟨y, hy, gy⟩ := h H enc W base spare held fuel _ x hN h1 (fun m hm => hw m (.inl hm))
    obtain ⟨z, hz, gz⟩ := hr H enc W base spare held fuel cs xs hN (by simpa using hl) (fun i g hg => by simpa using hx (i + 1) g (by simpa using hg)) (fun m hm => hw m (.inr hm))
    refine ⟨(y, z), ⟨_, _, ?_, hy, hz⟩, gy, gz⟩
    rw [List.take_add, List.drop_drop]
theorem opens_struct {N : Nat} {P : Program} {T : TypeId} {fs : List Field} {n : Nat} {α β : Type} {d : Kd α} {G : α → Prop} (ht : P.underlying T = some (.struct fs.toArray)) (hn : P.cellsOf T = n) (f : β → α) (g : α → β) (hg : ∀ y, f (g y) = y)
    (h : OpensF N P fs 0 n d G) : Opens (N + 1) P T (Kd.iso d f) (fun y => G (f y)) := by
  intro H enc W base spare held fuel cs x hN hx hw
  obtain ⟨xs, m, rfl, rfl, hl, hlx, hf⟩ := DataW.trod_struct ht hx
  obtain ⟨y, hy, gy⟩ := h H enc W base spare held m cs xs (by omega) (by simpa using hlx) (fun i f0 hi => hf i f0 (by simpa using hi)) (fun k hk => hw k (by
    simp only [DataW.weights, ht]
    exact hk))
  refine ⟨g y, ?_, ?_⟩
  · show d.K W (f (g y)) cs
    rw [hg]
    rw [← hn, ← hl, List.drop_zero, List.take_length] at hy
    exact hy
  · show G (f (g y))
    rw [hg]
    exact gy
theorem Opens.imp {N : Nat} {P : Program} {T : TypeId} {α : Type} {d : Kd α} {G G' : α → Prop} (h : Opens N P T d G) (hi : ∀ y, G y → G' y) : Opens N P T d G' := by
  intro H enc W base spare held fuel cs x hN hx hw
  obtain ⟨y, hy, gy⟩ := h H enc W base spare held fuel cs x hN hx hw
  exact ⟨y, hy, hi y gy⟩
theorem opens_upto {P : Program} {T : TypeId} {α : Type} {F : Kd α → Kd α} {sz : Nat} {E : List Nat} {G : α → Prop} (step : ∀ N (d : Kd α), d.sz = sz → Opens N P T d G → Opens (N + 1) P T (F d) G) (hs : ∀ n, (Kd.upto F sz E n).sz = sz) : ∀ N, Opens N P T (Kd.upto F sz E N) G
  | 0 => fun H enc W base spare held fuel cs x hN h _ => by
    obtain rfl : fuel = 0 := by omega
    simp [DataW.trod] at h
  | N + 1 => step N _ (hs N) (opens_upto step hs N)
theorem opens_fix {P : Program} {T : TypeId} {α : Type} {F : Kd α → Kd α} {sz : Nat} {E : List Nat} {G : α → Prop} {hs : ∀ n, (Kd.upto F sz E n).sz = sz} {hE : ∀ n q, q ∈ (Kd.upto F sz E n).E → q ∈ E} (step : ∀ N (d : Kd α), d.sz = sz → Opens N P T d G → Opens (N + 1) P T (F d) G) (N : Nat) : Opens N P T (Kd.fix F sz E hs hE) G := by
  intro H enc W base spare held fuel cs x hN hx hw
  obtain ⟨y, hy, gy⟩ := opens_upto step hs N H enc W base spare held fuel cs x hN hx hw
  exact ⟨y, ⟨N, hy⟩, gy⟩
theorem bytes_le {a b n r : Nat} (e : a = b) (h : n * a ≤ r) : n * b ≤ r := e ▸ h
/-- An argument. -/
theorem opened {P : Program} {T : TypeId} {α : Type} {d : Kd α} {G : α → Prop} (h : ∀ N, Opens N P T d G) {H : Type} {enc : TypeId × Value → H} {W : World} {base : Nat} {spare : Nat → Bool} {held : Bool} {v : Value} {x : DataW H} {p : List MemPlace} (ht : DataW.Trod enc P W base spare held T v x p)
    {ts : List TypeId} {ds : List (DataW H)} {j : Nat} (hz : (DataW.weightsEach P ts ds).all (· ≤ reachBytes) = true) (hj : ts[j]? = some T) (hd : ds[j]? = some x) : ∃ y, d.K W y v.cells.toList ∧ G y := by
  obtain ⟨fuel, hf⟩ := ht
  exact h fuel H enc W base spare held fuel _ _ (Nat.le_refl _) hf (fun n hn => by
    have := List.all_eq_true.1 hz n (DataW.weights_mem_each hj hd n hn)
    simpa using this)
end Go.Proofs.YtjjnokodkeekhaaDoor.Op

namespace Go.Proofs.YtjjnokodkeekhaaDoor.Ki
open Go.RowKit Go.Proofs.YtjjnokodkeekhaaDoorW.PrintWords Go.Proofs.YtjjnokodkeekhaaDoor.Op Go.Proofs.YtjjnokodkeekhaaDoor.P
set_option linter.unusedVariables false
inductive G24 : S24 → Prop
  | mk (s : S24) : (Lit.int .i64 s.f0).wf = true → (Lit.int .i64 s.f1).wf = true → (∀ x ∈ s.f2, G24 x) → s.f2.length * 40 ≤ reachBytes → G24 s
theorem op24 (N : Nat) : Opens N Tryd.prog 24 k24 G24 := by
  refine opens_fix (fun N d hz hd => ?_) N
  refine (opens_struct Tryd.underlying24 (n := 3) (by kernel_rfl) _ (fun y : Int × Int × (List (S24)) => (⟨y.1, y.2.1, y.2.2⟩ : S24)) (fun _ => rfl) (opensF_cons (a := 1) (n := 2) rfl (by kernel_rfl) (opens_int Tryd.underlying3) (opensF_cons (a := 1) (n := 1) rfl (by kernel_rfl) (opens_int Tryd.underlying3) (opensF_one (n := 1) rfl (by kernel_rfl) ((opens_slice Tryd.underlying22 (hz ▸ by kernel_rfl) hd).mono (Nat.le_succ N)))))).imp (fun s h => ?_)
  exact G24.mk s (h.1) (h.2.1) (h.2.2.1) (bytes_le (by kernel_rfl : Tryd.prog.bytesOf 24 = 40) h.2.2.2)
def G25 (l : List (Int)) : Prop := (∀ x ∈ l, (Lit.int .u32 x).wf = true) ∧ l.length * 4 ≤ reachBytes
theorem op25 (N : Nat) : Opens N Tryd.prog 25 (Kd.slice 49 (Kd.int .u32)) G25 := ((opens_slice Tryd.underlying25 (by kernel_rfl) (opens_int Tryd.underlying49)).imp (fun l h => ⟨h.1, bytes_le (by kernel_rfl : Tryd.prog.bytesOf 49 = 4) h.2⟩)).mono (Nat.le_succ N)
def G27 (s : S27) : Prop := G25 s.f0 ∧ G25 s.f1
theorem op27 (N : Nat) : Opens N Tryd.prog 27 k27 G27 := by
  refine Opens.mono (N := N + 1) ?_ (Nat.le_succ N)
  unfold k27
  have h0 := opens_struct (N := N) Tryd.underlying27 (n := 2) (by kernel_rfl) (fun x : S27 => (x.f0, x.f1)) (fun y : (List (Int)) × (List (Int)) => (⟨y.1, y.2⟩ : S27)) (fun _ => rfl) (opensF_cons (a := 1) (n := 1) rfl (by kernel_rfl) (op25 _) (opensF_one (n := 1) rfl (by kernel_rfl) (op25 _)))
  exact Opens.imp h0 (fun s h => h)
end Go.Proofs.YtjjnokodkeekhaaDoor.Ki

namespace Go.Proofs.YtjjnokodkeekhaaDoor.Pu
open Go.RowKit Go.Proofs.YtjjnokodkeekhaaDoorW.PrintWords Go.Proofs.YtjjnokodkeekhaaDoorW.PrintMore
open Go.Proofs.YtjjnokodkeekhaaDoor.P Go.Proofs.YtjjnokodkeekhaaDoor.Evx Go.Proofs.YtjjnokodkeekhaaDoor.X Go.Proofs.YtjjnokodkeekhaaDoor.Ki
set_option linter.unusedVariables false
theorem FormulaLogic_pure (s0 : S24) (g0 : G24 s0) (s1 : S24) (g1 : G24 s1) (s2 : S27) (g2 : G27 s2) : parrylaw22_FormulaLogic.f s0.f0 s0.f1 s0.f2 s1.f0 s1.f1 s1.f2 s2.f0 s2.f1 = some true := rfl
end Go.Proofs.YtjjnokodkeekhaaDoor.Pu

