/- A part of the claim FormulaAgain. -/
import Derived.ChangeArms
import Derived.SizedLaws
import Derived.WideShapes
import Derived.Test.YtjjnokodkeekhaaDoorQFormulaAgaina
import Derived.Test.YtjjnokodkeekhaaDoorQFormulaAgainb
import Derived.Test.YtjjnokodkeekhaaDoorQFormulaAgainc
namespace Go.Proofs.YtjjnokodkeekhaaDoor.X
open Go.RowKit Go.Proofs.YtjjnokodkeekhaaDoorW.PrintWords Go.Proofs.YtjjnokodkeekhaaDoorW.PrintMore
open Go.Proofs.YtjjnokodkeekhaaDoor.P Go.Proofs.YtjjnokodkeekhaaDoor.Evx
set_option linter.unusedVariables false
set_option linter.unusedSimpArgs false
theorem eta_f (s : S24) : (⟨s.f0, s.f1, s.f2⟩ : S24) = s := by cases s; rfl
theorem may_some (s : S24) : formula_May.f s.f0 s.f1 s.f2 = some (mayF s) := by cases s; rfl
theorem copied_l (kids : List S24) (op m : Int) (hl : kids.length ≤ 60) (ih : ∀ k ∈ kids, Ev (fun n => formula_copied.f n k.f0 k.f1 k.f2) (k.f0, k.f1, k.f2)) :
    ∀ (d j : Nat) (acc : List S24), j + d = kids.length → acc = kids.take j → Ev (fun n => formula_copied.l0 n kids (kids.length : Int) j op m acc) (op, m, kids)
  | 0, j, acc, hj, ha => by
    refine ev_step (fun k => rfl) (ev_neg (by omega) ?_)
    refine ev_eq (ev_some _) ?_
    rw [ha, List.take_of_length_le (by omega)]
  | d + 1, j, acc, hj, ha => by
    have hlt : j < kids.length := by omega
    refine ev_step (fun k => rfl) (ev_pos (by omega) (ev_pos (by omega) (ev_pos (by omega) ?_)))
    rw [rdT_nat kids j hlt]
    refine ev_bind (ih _ (List.getElem_mem hlt)) ?_
    refine ev_pos (by rw [ha, List.length_take]; omega) ?_
    rw [w64 (by omega) (by omega)]
    have := copied_l kids op m hl ih d (j + 1) (acc ++ [⟨(kids[j]'hlt).f0, (kids[j]'hlt).f1, (kids[j]'hlt).f2⟩]) (by omega) (by rw [ha, List.take_succ_eq_append_getElem hlt, eta_f])
    exact_mod_cast this
mutual
theorem copied_ev : ∀ s : S24, soundS s = true → Ev (fun n => formula_copied.f n s.f0 s.f1 s.f2) (s.f0, s.f1, s.f2)
  | ⟨op, m, kids⟩, h => by
    refine ev_step (fun k => rfl) ?_
    exact copied_l kids op m (by have := sound_len h; simp only at this; omega) (copied_evL kids (sound_kids_all h)) kids.length 0 [] (by omega) rfl
theorem copied_evL : ∀ l : List S24, soundL l = true → ∀ k ∈ l, Ev (fun n => formula_copied.f n k.f0 k.f1 k.f2) (k.f0, k.f1, k.f2)
  | [], _, k, hk => by cases hk
  | a :: r, h, k, hk => by
    simp only [soundL, Bool.and_eq_true] at h
    rcases List.mem_cons.1 hk with e | e
    · rw [e]; exact copied_ev a h.1
    · exact copied_evL r h.2 k e
end
theorem times_l (kids : List S24) (T : List S24) (hT : T.length ≤ 1000) (hb : kids.length ≤ 60) (ih : ∀ k ∈ kids, Ev (fun n => formula_times.f n k.f0 k.f1 k.f2) (timesS k)) :
    ∀ (d j : Nat) (acc : List S24), j + d = kids.length → acc ++ timesL (kids.drop j) = T → Ev (fun n => formula_times.l0 n acc kids (kids.length : Int) j) T
  | 0, j, acc, hj, ha => by
    refine ev_step (fun k => rfl) (ev_neg (by omega) ?_)
    refine ev_eq (ev_some _) ?_
    rw [← ha, List.drop_eq_nil_of_le (by omega), timesL, List.append_nil]
  | d + 1, j, acc, hj, ha => by
    have hlt : j < kids.length := by omega
    have hd := List.drop_eq_getElem_cons hlt
    rw [hd, timesL, ← List.append_assoc] at ha
    refine ev_step (fun k => rfl) (ev_pos (by omega) (ev_pos (by omega) (ev_pos (by omega) ?_)))
    rw [rdT_nat kids j hlt]
    refine ev_bind (ih _ (List.getElem_mem hlt)) ?_
    refine ev_pos (by rw [← ha] at hT; simp only [List.length_append] at hT; omega) ?_
    rw [w64 (by omega) (by omega)]
    have := times_l kids T hT hb ih d (j + 1) (acc ++ timesS (kids[j]'hlt)) (by omega) ha
    exact_mod_cast this
mutual
theorem times_ev : ∀ s : S24, soundS s = true → tnS s ≤ 1000 → Ev (fun n => formula_times.f n s.f0 s.f1 s.f2) (timesS s)
  | ⟨op, m, kids⟩, h, ht => by
    have hk : kids.length ≤ 60 := by have := sound_len h; simp only at this; omega
    have hL : (timesS (⟨op, m, kids⟩ : S24)).length ≤ 1000 := by rw [len_times]; exact ht
    have h0 : ∀ (acc : List S24) (x y : Int), acc = (if timedS op = true then [(⟨op, m, kids⟩ : S24)] else []) → Ev (fun n => formula_times.j0 n acc x y kids) (timesS (⟨op, m, kids⟩ : S24)) := by
      intro acc x y ha
      refine ev_step (fun k => rfl) ?_
      exact times_l kids _ hL hk (times_evL kids (sound_kids_all h) (by simp only [tnS] at ht; omega)) kids.length 0 acc (by omega) (by rw [ha, timesS]; rfl)
    refine ev_step (fun k => rfl) ?_
    refine ev_bindv (timed_some op) (ev_bool (fun c => ?_) (fun c => ?_))
    · refine ev_bind (copied_ev _ h) (ev_pos (by simp) ?_)
      exact h0 _ _ _ (by rw [if_pos c]; rfl)
    · exact h0 _ _ _ (by rw [if_neg (by rw [c]; simp)])
theorem times_evL : ∀ l : List S24, soundL l = true → tnL l ≤ 1000 → ∀ k ∈ l, Ev (fun n => formula_times.f n k.f0 k.f1 k.f2) (timesS k)
  | [], _, _, k, hk => by cases hk
  | a :: r, h, ht, k, hk => by
    simp only [soundL, Bool.and_eq_true] at h
    simp only [tnL] at ht
    rcases List.mem_cons.1 hk with e | e
    · rw [e]; exact times_ev a h.1 (by omega)
    · exact times_evL r h.2 (by omega) k e
end
def TimesS (s : S24) : List S24 := if mayF s = 0 then timesS s else []
theorem Times_ev (s : S24) : Ev (fun n => formula_Times.f n s.f0 s.f1 s.f2) (TimesS s) := by
  unfold formula_Times.f
  refine ev_bindv (may_some s) (ev_ite (fun c => ?_) (fun c => ?_))
  · have hz := may_zero c
    refine ev_bind (times_ev s hz.2.2.2 (by omega)) (ev_eq (ev_some _) ?_)
    unfold TimesS
    rw [if_pos c]
  · exact ev_eq (ev_some _) (by unfold TimesS; rw [if_neg c])
end Go.Proofs.YtjjnokodkeekhaaDoor.X

namespace Go.Proofs.YtjjnokodkeekhaaDoor.X
open Go.RowKit Go.Proofs.YtjjnokodkeekhaaDoorW.PrintWords Go.Proofs.YtjjnokodkeekhaaDoorW.PrintLast Go.Proofs.YtjjnokodkeekhaaDoorW.PrintMore
open Go.Proofs.YtjjnokodkeekhaaDoor.P Go.Proofs.YtjjnokodkeekhaaDoor.Evx
set_option linter.unusedSimpArgs false
set_option linter.unusedVariables false
def holdsF (s : S24) (st lp : List Int) : Bool := decide (0 < (rowF s st lp).length) && (rowF s st lp).getD 0 false
theorem holds_some (s : S24) (st lp : List Int) : formula_Holds.f s.f0 s.f1 s.f2 st lp = some (holdsF s st lp) := by
  unfold formula_Holds.f formula_Row.f holdsF
  cases s
  simp only [Option.bind_some]
  generalize rowF _ st lp = l
  cases l with
  | nil => rfl
  | cons a r => cases a <;> simp [rdOf]
def TextS (s : S24) : ByteArray := if mayF s = 0 then textB s else ByteArray.empty
theorem Text_some (s : S24) : formula_Text.f s.f0 s.f1 s.f2 = some (TextS s) := by
  unfold formula_Text.f TextS
  rw [may_some]
  simp only [Option.bind_some]
  by_cases h : mayF s = 0
  · have hz := may_zero h
    rw [if_pos h, if_pos h]
    unfold formula_text.f
    rw [if_pos ⟨by cases s; exact hz.2.2.2, by cases s; exact hz.1⟩]
    cases s; rfl
  · rw [if_neg h, if_neg h]; rfl
def atomS (n : Int) : S24 := ⟨2, n, []⟩
def F0 : S24 := ⟨7, 0, [atomS 0, atomS 1]⟩
set_option maxHeartbeats 800000 in
theorem atom_calls (n : Int) (w : World) : Calls Tryd.prog 31 #[.int .i64 n] w fun e w' => e = .returned (.agg #[.int .i64 2, .int .i64 n, .slice none 0 0]) ∧ Below w.heap.size w w' := by
  have huF := Tryd.underlying24
  go_enter Tryd.func31, Tryd.ntmps31
  go_wp2
  exact bodyPost_ret (v := .agg #[.int .i64 2, .int .i64 n, .slice none 0 0]) (by simp [results, Tryd.results31, go_sem]) rfl ⟨rfl, below_alloc (Below.refl _ _) _⟩
set_option maxHeartbeats 800000 in
theorem op_calls (k : Int) (A : Option Addr) (n c : Nat) (w : World) : Calls Tryd.prog 12 #[.int .i64 k, .slice A n c] w fun e w' => e = .returned (.agg #[.int .i64 k, .int .i64 0, .slice A n c]) ∧ Below w.heap.size w w' := by
  have huF := Tryd.underlying24
  go_enter Tryd.func12, Tryd.ntmps12
  go_wp2
  exact bodyPost_ret (v := .agg #[.int .i64 k, .int .i64 0, .slice A n c]) (by simp [results, Tryd.results12, go_sem]) rfl ⟨rfl, below_alloc (Below.refl _ _) _⟩
theorem holds_1 : holdsF F0 [1, 1] [2] = true := by decide +kernel
theorem holds_2 : holdsF F0 [] [1] = false := by decide +kernel
theorem text_1 : TextS F0 = ⟨#[40, 97, 48, 32, 117, 110, 116, 105, 108, 32, 97, 49, 41]⟩ := by decide +kernel
theorem times_1 : TimesS F0 = [F0] := by
  unfold TimesS
  rw [if_pos (by decide +kernel)]
  rfl
/-- Two formulas in a block. -/
theorem C_two {w : World} {g : Nat} {a b : S24} (ha : a.f2 = []) (hb : b.f2 = []) (h : w.heap[g]? = some (.cells #[.int .i64 a.f0, .int .i64 a.f1, .slice none 0 0, .int .i64 b.f0, .int .i64 b.f1, .slice none 0 0] 24 (0, 0))) : Kd.C k24 w (some ⟨g, 0, none⟩) 2 [a, b] := by
  have hK : ∀ x : S24, x.f2 = [] → k24.K w x [.int .i64 x.f0, .int .i64 x.f1, .slice none 0 0] := by
    intro x hx
    have := k24_mk w x (A2 := none) (c2 := 0) (by rw [hx]; simp) (by rw [hx]; exact Kd.C_nil _ _)
    rwa [hx] at this
  refine ⟨rfl, by omega, fun _ => ⟨_, rfl, fun j p hj => ?_⟩⟩
  have hs : k24.sz = 3 := rfl
  match j, hj with
  | 0, hj =>
    obtain rfl : a = p := by simpa using hj
    refine ⟨_, rfl, hK a ha, fun i u hu => ?_⟩
    rw [hs, add_at, blk_cell h]
    match i, hu with
    | 0, hu => exact hu
    | 1, hu => exact hu
    | 2, hu => exact hu
  | 1, hj =>
    obtain rfl : b = p := by simpa using hj
    refine ⟨_, rfl, hK b hb, fun i u hu => ?_⟩
    rw [hs, add_at, blk_cell h]
    match i, hu with
    | 0, hu => exact hu
    | 1, hu => exact hu
    | 2, hu => exact hu
theorem C_u32 {w : World} {g : Nat} {l : List Int} {t : TypeId} (h : w.heap[g]? = some (.cells (l.map (Value.int .u32)).toArray t (0, 0))) (hl : 0 < l.length) (hm : l.length < 1000) : Kd.C (Kd.int .u32) w (some ⟨g, 0, none⟩) l.length l := by
  refine Kd.C_of_reads (d := 0) ⟨rfl, by omega, fun _ => ⟨_, rfl, fun j hj => ?_⟩⟩
  rw [add_at, blk_cell h]
  simp [hj]
set_option maxHeartbeats 3200000 in
set_option maxRecDepth 100000 in
theorem awake_calls (w : World) : Calls Tryd.prog 11 #[] w fun e w' => e = .returned (.bool true) ∧ Below w.heap.size w w' := by
  have huF := Tryd.underlying24
  have huW := Tryd.underlying27
  have huL := Tryd.underlying22
  have huu := Tryd.underlying25
  have HBA := Aside0.mk (Below.refl w.heap.size w)
  obtain ⟨k1, hk1⟩ := (Times_ev F0).rounds
  rw [times_1] at hk1
  have HK1 := Aside0.mk hk1
  have HTX := Aside0.mk ((Text_some F0).trans (congrArg some text_1))
  clear hk1
  go_enter Tryd.func11, Tryd.ntmps11
  go_upto_region 2 with (first | (go_at_call 31; refine (atom_calls _ _).mono ?_; rintro e w1 ⟨rfl, hB⟩; have HBn := Aside0.mk (HBA.out.trans (hB.mono HBA.out.size)); clear HBA hB; have HBA := HBn; clear HBn) | (go_at_call 12; refine (op_calls _ _ _ _ _).mono ?_; rintro e w3 ⟨rfl, hB⟩; have HC3 := Aside0.mk (Kd.C_below (C_two (a := atomS 0) (b := atomS 1) rfl rfl (heap_alloc_new _ _)) hB); have HB3 := Aside0.mk (HBA.out.trans (((below_alloc (Below.refl _ _) _).trans (hB.mono (by simp))).mono HBA.out.size)); clear hB))
  obtain ⟨W4, hW4⟩ : ∃ W4, W4 = w3.alloc (.cells #[.int .i64 7, .int .i64 0, .slice (some ⟨w1.heap.size, 0, none⟩) 2 2] 24) := ⟨_, rfl⟩
  have hB4 : Below w3.heap.size w3 W4 := by rw [hW4]; exact below_alloc (Below.refl _ _) _
  have hbx : W4.heap[w3.heap.size]? = some (.cells #[.int .i64 7, .int .i64 0, .slice (some ⟨w1.heap.size, 0, none⟩) 2 2] 24 (0, 0)) := by rw [hW4]; exact heap_alloc_new w3 _
  rw [← hW4]
  have HB4 := Aside0.mk (HB3.out.trans (hB4.mono HB3.out.size))
  have HBX := Aside0.mk hbx
  have HKF := Aside0.mk (fun W (h : Below W4.heap.size W4 W) => Kd.C_below (Kd.C_below HC3.out hB4) h)
  obtain ⟨W5, hW5⟩ : ∃ W5, W5 = (W4.alloc (.cells #[.int .u32 1, .int .u32 1] 49)).alloc (.cells #[.int .u32 2] 49) := ⟨_, rfl⟩
  have hB5 : Below W4.heap.size W4 W5 := by rw [hW5]; exact below_alloc (below_alloc (Below.refl _ _) _) _
  have h1 : W5.heap[W4.heap.size]? = some (.cells #[.int .u32 1, .int .u32 1] 49 (0, 0)) := by rw [hW5]; exact blk_alloc (heap_alloc_new W4 _) _
  have h2 : W5.heap[W4.heap.size + 1]? = some (.cells #[.int .u32 2] 49 (0, 0)) := by
    rw [hW5]
    have := heap_alloc_new (W4.alloc (.cells #[.int .u32 1, .int .u32 1] 49)) (.cells #[.int .u32 2] 49)
    simpa using this
  have HH1 := Aside0.mk (show Calls Tryd.prog 17 #[.agg #[.int .i64 7, .int .i64 0, .slice (some ⟨w1.heap.size, 0, none⟩) 2 2], .agg #[.slice (some ⟨W4.heap.size, 0, none⟩) 2 2, .slice (some ⟨W4.heap.size + 1, 0, none⟩) 1 1]] W5 _ from formula_Holds.calls 7 0 (some ⟨w1.heap.size, 0, none⟩) 2 [atomS 0, atomS 1] (some ⟨W4.heap.size, 0, none⟩) 2 [1, 1] (some ⟨W4.heap.size + 1, 0, none⟩) 1 [2] true W5 (HKF.out W5 hB5) (Nat.le_refl _) (C_u32 (l := [1, 1]) h1 (by decide) (by decide)) (Nat.le_refl _) (C_u32 (l := [2]) h2 (by decide) (by decide)) (Nat.le_refl _) ((holds_some F0 [1, 1] [2]).trans (congrArg some holds_1)))
  have HH2 := Aside0.mk (fun w6 (h : Below W4.heap.size W4 w6) => show Calls Tryd.prog 17 #[.agg #[.int .i64 7, .int .i64 0, .slice (some ⟨w1.heap.size, 0, none⟩) 2 2], .agg #[.slice none 0 0, .slice (some ⟨w6.heap.size, 0, none⟩) 1 1]] (w6.alloc (.cells #[.int .u32 1] 49)) _ from formula_Holds.calls 7 0 (some ⟨w1.heap.size, 0, none⟩) 2 [atomS 0, atomS 1] none 0 [] (some ⟨w6.heap.size, 0, none⟩) 1 [1] false _ (HKF.out _ (below_alloc h _)) (Nat.le_refl _) (Kd.C_nil _ _) (Nat.le_refl _) (C_u32 (l := [1]) (heap_alloc_new w6 _) (by decide) (by decide)) (Nat.le_refl _) ((holds_some F0 [] [1]).trans (congrArg some holds_2)))
  have HTT := Aside0.mk (fun W (h : Below W4.heap.size W4 W) => show Calls Tryd.prog 26 #[.agg #[.int .i64 7, .int .i64 0, .slice (some ⟨w1.heap.size, 0, none⟩) 2 2]] W _ from formula_Text.calls 7 0 (some ⟨w1.heap.size, 0, none⟩) 2 [atomS 0, atomS 1] _ W (HKF.out _ h) (Nat.le_refl _) HTX.out)
  have HTM := Aside0.mk (fun W (h : Below W4.heap.size W4 W) => show Calls Tryd.prog 18 #[.agg #[.int .i64 7, .int .i64 0, .slice (some ⟨w1.heap.size, 0, none⟩) 2 2]] W _ from formula_Times.calls k1 7 0 (some ⟨w1.heap.size, 0, none⟩) 2 [atomS 0, atomS 1] [F0] W (HKF.out _ h) (Nat.le_refl _) HK1.out)
  have HW5 := Aside0.mk hW5
  have HB5 := Aside0.mk hB5
  have b0 : W4.cell? ⟨w3.heap.size, 0, none⟩ = some (.int .i64 7) := (blk_cell hbx 0).trans rfl
  have b1 : W4.cell? ⟨w3.heap.size, 1, none⟩ = some (.int .i64 0) := (blk_cell hbx 1).trans rfl
  have b2 : W4.cell? ⟨w3.heap.size, 2, none⟩ = some (.slice (some ⟨w1.heap.size, 0, none⟩) 2 2) := (blk_cell hbx 2).trans rfl
  clear hW4 hB4 hbx hW5 hB5 h1 h2
  go_wp2_with (first | (go_at_call 17; rw [← HW5.out]; (with_reducible refine HH1.out.mono ?_); rintro e w6 ⟨rfl, hB6⟩; have HB6 := Aside0.mk (HB5.out.trans (hB6.mono HB5.out.size)); have HBX6 := Aside0.mk ((HB6.out.block _ (blk_lt HBX.out)).trans HBX.out); have q0 := (blk_cell HBX6.out 0).trans rfl; have q1 := (blk_cell HBX6.out 1).trans rfl; have q2 := (blk_cell HBX6.out 2).trans rfl; clear hB6) | (go_at_call 17; (with_reducible refine (HH2.out _ HB6.out).mono ?_); rintro e w7 ⟨rfl, hB7⟩; have HB7 := Aside0.mk (HB6.out.trans (((below_alloc (Below.refl _ _) _).trans (hB7.mono (by simp))).mono HB6.out.size)); have HBX7 := Aside0.mk ((HB7.out.block _ (blk_lt HBX.out)).trans HBX.out); have p0 := (blk_cell HBX7.out 0).trans rfl; have p1 := (blk_cell HBX7.out 1).trans rfl; have p2 := (blk_cell HBX7.out 2).trans rfl; clear hB7) | (go_at_call 26; (with_reducible refine (HTT.out _ HB7.out).mono ?_); rintro e w8 ⟨rfl, hB8⟩; have HB8 := Aside0.mk (HB7.out.trans (hB8.mono HB7.out.size)); have HBX8 := Aside0.mk ((HB8.out.block _ (blk_lt HBX.out)).trans HBX.out); have o0 := (blk_cell HBX8.out 0).trans rfl; have o1 := (blk_cell HBX8.out 1).trans rfl; have o2 := (blk_cell HBX8.out 2).trans rfl; clear hB8) | (go_at_call 18; (with_reducible refine (HTM.out _ HB8.out).mono ?_); rintro e w9 ⟨v9, rfl, hR9, hB9⟩; obtain ⟨g9, c9, e9, _⟩ := Kd.N_form hR9 (by decide); subst e9; have HB9 := Aside0.mk (HB8.out.trans (hB9.mono HB8.out.size)); clear hR9 hB9))
  go_ret
  exact ⟨rfl, HB4.out.trans (HB9.out.mono HB4.out.size)⟩
end Go.Proofs.YtjjnokodkeekhaaDoor.X

namespace Go.Proofs.YtjjnokodkeekhaaDoor.X
open Go.RowKit Go.Proofs.YtjjnokodkeekhaaDoorW.PrintWords Go.Proofs.YtjjnokodkeekhaaDoorW.PrintLast Go.Proofs.YtjjnokodkeekhaaDoorW.PrintMore
open Go.Proofs.YtjjnokodkeekhaaDoor.P Go.Proofs.YtjjnokodkeekhaaDoor.Evx
set_option linter.unusedSimpArgs false
set_option linter.unusedVariables false
/-- A block made behind the world W, with its cells. -/
def Lay (W w : World) (g : Nat) (cs : Array Value) (t : TypeId) : Prop := W.heap.size ≤ g ∧ w.heap[g]? = some (.cells cs t (0, 0))
section
variable {W w w1 : World} {g p : Nat} {cs : Array Value} {t : TypeId}
theorem Lay.alloc (h : Lay W w g cs t) (o : Obj) : Lay W (w.alloc o) g cs t := ⟨h.1, blk_alloc h.2 o⟩
theorem Lay.below (h : Lay W w g cs t) (hB : Below w.heap.size w w1) : Lay W w1 g cs t := ⟨h.1, (hB.block _ (blk_lt h.2)).trans h.2⟩
theorem Lay.new (hB : Below W.heap.size W w) (cs : Array Value) (t : TypeId) : Lay W (w.alloc (.cells cs t)) w.heap.size cs t := ⟨hB.size, heap_alloc_new w _⟩
theorem Lay.ne_new (h : Lay W w g cs t) : w.heap.size ≠ g := by have := blk_lt h.2; omega
/-- A struct of three cells is stored. -/
def put3 (w : World) (p : Nat) (x y z : Value) : World := ((w.setCell ⟨p, 0, none⟩ x).setCell ⟨p, 1, none⟩ y).setCell ⟨p, 2, none⟩ z
theorem below_put3 (hB : Below W.heap.size W w) (hp : W.heap.size ≤ p) (x y z : Value) : Below W.heap.size W (put3 w p x y z) := ((hB.setCell hp x).setCell hp y).setCell hp z
theorem Lay.far3 (h : Lay W w g cs t) (hn : g ≠ p) (x y z : Value) : Lay W (put3 w p x y z) g cs t := ⟨h.1, blk_far (blk_far (blk_far h.2 (p := ⟨p, 0, none⟩) hn x) (p := ⟨p, 1, none⟩) hn y) (p := ⟨p, 2, none⟩) hn z⟩
theorem Lay.put3 {a b c : Value} (h : Lay W w p #[a, b, c] t) (x y z : Value) : Lay W (put3 w p x y z) p #[x, y, z] t := ⟨h.1, (blk_set (blk_set (blk_set h.2 0 x) 1 y) 2 z).trans rfl⟩
end
section
variable {W w w1 : World} {g p : Nat} {cs : Array Value} {t : TypeId}
theorem Lay.grown (h : Lay W w g cs t) {row : Option Nat} (hg : w.grownBy w1 row) (hn : some g ≠ row) : Lay W w1 g cs t := ⟨h.1, blk_grown h.2 hg hn⟩
end
/-- Two rows whose blocks are not one. -/
def Apart (u v : Value) : Prop := ∀ k, u.ownBlock = some k → v.ownBlock ≠ some k
section
variable {α : Type} {d : Kd α} {e base : Nat} {ok : Nat → Prop} {W : World} {u u1 v : Value} {xs : List α}
theorem Apart.symm (h : Apart u v) : Apart v u := fun k hv hu => h k hu hv
end
theorem C_of1 {w : World} {g : Nat} {s : S24} {A : Option Addr} {c : Nat} (h : w.heap[g]? = some (.cells #[.int .i64 s.f0, .int .i64 s.f1, .slice A s.f2.length c] 24 (0, 0))) (hk : Kd.C k24 w A s.f2.length s.f2) (hc : s.f2.length ≤ c) : Kd.C k24 w (some ⟨g, 0, none⟩) 1 [s] := by
  have hK := k24_mk w s hc hk
  refine ⟨rfl, by omega, fun _ => ⟨_, rfl, fun j p hj => ?_⟩⟩
  have hs : k24.sz = 3 := rfl
  match j, hj with
  | 0, hj =>
    obtain rfl : s = p := by simpa using hj
    refine ⟨_, rfl, hK, fun i u hu => ?_⟩
    rw [hs, add_at, blk_cell h]
    match i, hu with
    | 0, hu => exact hu
    | 1, hu => exact hu
    | 2, hu => exact hu
theorem C_of2 {w : World} {g : Nat} {a b : S24} {A B : Option Addr} {ca cb : Nat} (h : w.heap[g]? = some (.cells #[.int .i64 a.f0, .int .i64 a.f1, .slice A a.f2.length ca, .int .i64 b.f0, .int .i64 b.f1, .slice B b.f2.length cb] 24 (0, 0))) (ha : Kd.C k24 w A a.f2.length a.f2) (hca : a.f2.length ≤ ca) (hb : Kd.C k24 w B b.f2.length b.f2) (hcb : b.f2.length ≤ cb) : Kd.C k24 w (some ⟨g, 0, none⟩) 2 [a, b] := by
  have hKa := k24_mk w a hca ha
  have hKb := k24_mk w b hcb hb
  refine ⟨rfl, by omega, fun _ => ⟨_, rfl, fun j p hj => ?_⟩⟩
  have hs : k24.sz = 3 := rfl
  match j, hj with
  | 0, hj =>
    obtain rfl : a = p := by simpa using hj
    refine ⟨_, rfl, hKa, fun i u hu => ?_⟩
    rw [hs, add_at, blk_cell h]
    match i, hu with
    | 0, hu => exact hu
    | 1, hu => exact hu
    | 2, hu => exact hu
  | 1, hj =>
    obtain rfl : b = p := by simpa using hj
    refine ⟨_, rfl, hKb, fun i u hu => ?_⟩
    rw [hs, add_at, blk_cell h]
    match i, hu with
    | 0, hu => exact hu
    | 1, hu => exact hu
    | 2, hu => exact hu
end Go.Proofs.YtjjnokodkeekhaaDoor.X

namespace Go.Proofs.YtjjnokodkeekhaaDoor.X
open Go.RowKit Go.Proofs.YtjjnokodkeekhaaDoorW.PrintWords Go.Proofs.YtjjnokodkeekhaaDoorW.PrintMore
set_option linter.unusedVariables false
set_option linter.unusedSimpArgs false
/-- The value at place i, d places ahead of the end, where v stands behind the end. -/
def pvd (f : Nat → Bool → Bool) (v : Bool) : Nat → Nat → Bool
  | _, 0 => v
  | i, d + 1 => f i (pvd f v (i + 1) d)
theorem getD_set (l : List Bool) (i j : Nat) (x : Bool) (hi : i < l.length) : (l.set i x).getD j false = if j = i then x else l.getD j false := by
  rw [List.getD_eq_getElem?_getD, List.getElem?_set, List.getD_eq_getElem?_getD]
  by_cases h : i = j
  · subst h
    rw [if_pos rfl, if_pos rfl, if_pos hi]; rfl
  · rw [if_neg h, if_neg (fun e => h e.symm)]
theorem pass_spec (f : Nat → Bool → Bool) (n b : Nat) (v : Bool) : ∀ (j : Nat) (out : List Bool), j ≤ n → b < n → out.length = n → (∀ i, j ≤ i → i < n → out.getD i false = pvd f v i (n - i)) → (j = n → out.getD b false = v) → ∀ i, i < n → (passD f n b j out).getD i false = pvd f v i (n - i)
  | 0, out, _, _, _, h, _, i, hi => by rw [passD]; exact h i (Nat.zero_le _) hi
  | j + 1, out, hj, hb, hl, h, hv, i, hi => by
    rw [passD]
    have hx : f j (out.getD (nextS n b j) false) = pvd f v j (n - j) := by
      unfold nextS
      by_cases hlt : j + 1 < n
      · rw [if_pos hlt, h (j + 1) (Nat.le_refl _) hlt, show n - j = (n - (j + 1)) + 1 by omega]; rfl
      · rw [if_neg hlt, hv (by omega), show n - j = 1 by omega]; rfl
    refine pass_spec f n b v j _ (by omega) hb (by simp [hl]) (fun i' h1 h2 => ?_) (fun e => by omega) i hi
    rw [getD_set _ _ _ _ (by omega)]
    by_cases e : i' = j
    · subst e; rw [if_pos rfl]; exact hx
    · rw [if_neg e]; exact h i' (by omega) h2
theorem pass_get (f : Nat → Bool → Bool) (n b : Nat) (out : List Bool) (hb : b < n) (hl : out.length = n) (i : Nat) (hi : i < n) : (passD f n b n out).getD i false = pvd f (out.getD b false) i (n - i) :=
  pass_spec f n b _ n out (Nat.le_refl _) hb hl (fun i h1 h2 => by omega) (fun _ => rfl) i hi
theorem rep_getD (n : Nat) (x : Bool) (b : Nat) (hb : b < n) : (List.replicate n x).getD b false = x := by
  rw [List.getD_eq_getElem?_getD, List.getElem?_replicate, if_pos hb]; rfl
theorem settle_get (f : Nat → Bool → Bool) (n b : Nat) (first : Bool) (hb : b < n) (i : Nat) (hi : i < n) : (settleS f n b first).getD i false = pvd f (pvd f first b (n - b)) i (n - i) := by
  unfold settleS
  rw [pass_get f n b _ hb (by simp [len_pass]) i hi, pass_get f n b _ hb (by simp) b hb, rep_getD n first b hb]
def MonoB (f : Nat → Bool → Bool) : Prop := ∀ i, f i false = true → f i true = true
theorem ext_getD {l m : List Bool} {n : Nat} (hl : l.length = n) (hm : m.length = n) (h : ∀ i, i < n → l.getD i false = m.getD i false) : l = m := by
  apply List.ext_getElem (by omega)
  intro i h1 h2
  have := h i (by omega)
  rwa [List.getD_eq_getElem?_getD, List.getD_eq_getElem?_getD, List.getElem?_eq_getElem h1, List.getElem?_eq_getElem h2] at this
/-- What does not look at the next place. -/
theorem settle_const (f : Nat → Bool) (n b : Nat) (first : Bool) (hb : b < n) : settleS (fun i _ => f i) n b first = (List.range n).map f := by
  refine ext_getD (len_settle _ _ _ _) (by simp) (fun i hi => ?_)
  rw [settle_get _ n b first hb i hi, show n - i = (n - (i + 1)) + 1 by omega]
  simp [pvd, hi]
theorem mono_const (f : Nat → Bool) : MonoB (fun i _ => f i) := fun _ h => h
end Go.Proofs.YtjjnokodkeekhaaDoor.X

namespace Go.Proofs.YtjjnokodkeekhaaDoor.X
open Go.RowKit Go.Proofs.YtjjnokodkeekhaaDoorW.PrintWords Go.Proofs.YtjjnokodkeekhaaDoorW.PrintMore
open Go.Proofs.YtjjnokodkeekhaaDoor.P
set_option linter.unusedVariables false
set_option linter.unusedSimpArgs false
section
variable {ls : List Int} {b i : Nat} {m : Int} {f g : S24}
theorem const_at (φ : Nat → Bool) (n b : Nat) (first : Bool) (hb : b < n) (i : Nat) (hi : i < n) : (settleS (fun i _ => φ i) n b first).getD i false = φ i := by
  rw [settle_const φ n b first hb, List.getD_eq_getElem?_getD, List.getElem?_map, List.getElem?_range hi]
  rfl
theorem at_true (hb : b < ls.length) (hi : i < ls.length) (l : List S24) : (rowS ls b ⟨1, m, l⟩).getD i false = true := by rw [rowS]; exact const_at (fun _ => true) _ _ false hb i hi
theorem at_not (hb : b < ls.length) (hi : i < ls.length) : (rowS ls b ⟨3, m, [f]⟩).getD i false = !(rowS ls b f).getD i false := by rw [rowS]; exact const_at (fun i => !(rowS ls b f).getD i false) _ _ false hb i hi
theorem row_until (ls : List Int) (b : Nat) (m : Int) (f g : S24) : rowS ls b ⟨7, m, [f, g]⟩ = settleS (fun i nx => (rowS ls b g).getD i false || (rowS ls b f).getD i false && nx) ls.length b false := by rw [rowS]; rfl
theorem row_release (ls : List Int) (b : Nat) (m : Int) (f g : S24) : rowS ls b ⟨8, m, [f, g]⟩ = settleS (fun i nx => (rowS ls b g).getD i false && ((rowS ls b f).getD i false || nx)) ls.length b true := by rw [rowS]; rfl
end
/-- Some of a stretch, all of a stretch. -/
theorem pvd_some (q : Nat → Bool) (v : Bool) : ∀ (d i : Nat), pvd (fun i nx => q i || nx) v i d = (v || (List.range d).any fun k => q (i + k))
  | 0, i => by simp [pvd]
  | d + 1, i => by
    simp only [pvd]
    rw [pvd_some q v d (i + 1), List.range_succ_eq_map, List.any_cons, List.any_map]
    have : (List.range d).any ((fun k => q (i + k)) ∘ Nat.succ) = (List.range d).any fun k => q (i + 1 + k) := by
      congr 1; funext k; simp only [Function.comp, Nat.succ_eq_add_one]; congr 1; omega
    rw [this, Nat.add_zero]
    cases v <;> cases q i <;> simp
theorem pvd_all (q : Nat → Bool) (v : Bool) : ∀ (d i : Nat), pvd (fun i nx => q i && nx) v i d = (v && (List.range d).all fun k => q (i + k))
  | 0, i => by simp [pvd]
  | d + 1, i => by
    simp only [pvd]
    rw [pvd_all q v d (i + 1), List.range_succ_eq_map, List.all_cons, List.all_map]
    have : (List.range d).all ((fun k => q (i + k)) ∘ Nat.succ) = (List.range d).all fun k => q (i + 1 + k) := by
      congr 1; funext k; simp only [Function.comp, Nat.succ_eq_add_one]; congr 1; omega
    rw [this, Nat.add_zero]
    cases v <;> cases q i <;> simp
/-- Is it at some moment of the loop, at all of them? -/
def loopAny (q : Nat → Bool) (n b : Nat) : Bool := (List.range (n - b)).any fun k => q (b + k)
def loopAll (q : Nat → Bool) (n b : Nat) : Bool := (List.range (n - b)).all fun k => q (b + k)
theorem settle_any (q : Nat → Bool) (n b : Nat) (hb : b < n) (i : Nat) (hi : i < n) : (settleS (fun i nx => q i || nx) n b false).getD i false = (loopAny q n b || (List.range (n - i)).any fun k => q (i + k)) := by
  rw [settle_get _ _ _ _ hb i hi, pvd_some, pvd_some, Bool.false_or]; rfl
theorem settle_all (q : Nat → Bool) (n b : Nat) (hb : b < n) (i : Nat) (hi : i < n) : (settleS (fun i nx => q i && nx) n b true).getD i false = (loopAll q n b && (List.range (n - i)).all fun k => q (i + k)) := by
  rw [settle_get _ _ _ _ hb i hi, pvd_all, pvd_all, Bool.true_and]; rfl
theorem settle_congr (F G : Nat → Bool → Bool) (n b : Nat) (first : Bool) (hb : b < n) (h : ∀ i nx, i < n → F i nx = G i nx) : settleS F n b first = settleS G n b first := by
  have hp : ∀ v d i, i + d ≤ n → pvd F v i d = pvd G v i d := by
    intro v d
    induction d with
    | zero => intro i _; rfl
    | succ d ih => intro i hi; simp only [pvd]; rw [ih (i + 1) (by omega), h i _ (by omega)]
  refine ext_getD (len_settle _ _ _ _) (len_settle _ _ _ _) (fun i hi => ?_)
  rw [settle_get _ _ _ _ hb i hi, settle_get _ _ _ _ hb i hi, hp _ _ i (by omega), hp _ _ b (by omega)]
def yesS : S24 := ⟨1, 0, []⟩
def noS : S24 := ⟨3, 0, [yesS]⟩
theorem ever_row (ls : List Int) (b : Nat) (hb : b < ls.length) (f : S24) (i : Nat) (hi : i < ls.length) : (rowS ls b ⟨7, 0, [yesS, f]⟩).getD i false = (loopAny (fun j => (rowS ls b f).getD j false) ls.length b || (List.range (ls.length - i)).any fun k => (rowS ls b f).getD (i + k) false) := by
  rw [row_until, settle_congr _ (fun i nx => (rowS ls b f).getD i false || nx) _ _ _ hb (fun j nx hj => by rw [show yesS = ⟨1, 0, []⟩ from rfl, at_true hb hj, Bool.true_and]), settle_any _ _ _ hb i hi]
theorem always_row (ls : List Int) (b : Nat) (hb : b < ls.length) (f : S24) (i : Nat) (hi : i < ls.length) : (rowS ls b ⟨8, 0, [noS, f]⟩).getD i false = (loopAll (fun j => (rowS ls b f).getD j false) ls.length b && (List.range (ls.length - i)).all fun k => (rowS ls b f).getD (i + k) false) := by
  rw [row_release, settle_congr _ (fun i nx => (rowS ls b f).getD i false && nx) _ _ _ hb (fun j nx hj => by rw [show noS = ⟨3, 0, [⟨1, 0, []⟩]⟩ from rfl, at_not hb hj, at_true hb hj]; rfl), settle_all _ _ _ hb i hi]
/-- Again and again: at some moment of the loop. -/
theorem again_row (ls : List Int) (b : Nat) (hb : b < ls.length) (f : S24) : (rowS ls b ⟨8, 0, [noS, ⟨7, 0, [yesS, f]⟩]⟩).getD 0 false = loopAny (fun j => (rowS ls b f).getD j false) ls.length b := by
  rw [always_row ls b hb _ 0 (by omega)]
  cases h : loopAny (fun j => (rowS ls b f).getD j false) ls.length b with
  | true =>
    have hq : ∀ j, j < ls.length → (rowS ls b ⟨7, 0, [yesS, f]⟩).getD j false = true := fun j hj => by rw [ever_row ls b hb f j hj, h]; rfl
    rw [Bool.and_eq_true]
    refine ⟨List.all_eq_true.2 (fun k hk => hq _ ?_), List.all_eq_true.2 (fun k hk => hq _ ?_)⟩
    · have := List.mem_range.1 hk; omega
    · have := List.mem_range.1 hk; omega
  | false =>
    have hq : (rowS ls b ⟨7, 0, [yesS, f]⟩).getD b false = false := by
      rw [ever_row ls b hb f b hb, h, Bool.false_or]; exact h
    rw [Bool.and_eq_false_iff]
    refine .inl ?_
    unfold loopAll
    rw [List.all_eq_false]
    exact ⟨0, List.mem_range.2 (by omega), by simp only [Nat.add_zero]; rw [hq]; simp⟩
/-- Always from some moment on: at all moments of the loop. -/
theorem stay_row (ls : List Int) (b : Nat) (hb : b < ls.length) (f : S24) : (rowS ls b ⟨7, 0, [yesS, ⟨8, 0, [noS, f]⟩]⟩).getD 0 false = loopAll (fun j => (rowS ls b f).getD j false) ls.length b := by
  rw [ever_row ls b hb _ 0 (by omega)]
  cases h : loopAll (fun j => (rowS ls b f).getD j false) ls.length b with
  | true =>
    have hq : (rowS ls b ⟨8, 0, [noS, f]⟩).getD b false = true := by
      rw [always_row ls b hb f b hb, h, Bool.true_and]; exact h
    rw [Bool.or_eq_true]
    refine .inl ?_
    unfold loopAny
    rw [List.any_eq_true]
    exact ⟨0, List.mem_range.2 (by omega), by simp only [Nat.add_zero]; exact hq⟩
  | false =>
    have hq : ∀ j, j < ls.length → (rowS ls b ⟨8, 0, [noS, f]⟩).getD j false = false := fun j hj => by rw [always_row ls b hb f j hj, h]; rfl
    rw [Bool.or_eq_false_iff]
    refine ⟨List.any_eq_false.2 (fun k hk => ?_), List.any_eq_false.2 (fun k hk => ?_)⟩
    · have := List.mem_range.1 hk
      try simp only
      rw [hq _ (by omega)]; simp
    · have := List.mem_range.1 hk
      try simp only
      rw [hq _ (by omega)]; simp
end Go.Proofs.YtjjnokodkeekhaaDoor.X

namespace Go.Proofs.YtjjnokodkeekhaaDoor.X
open Go.RowKit Go.Proofs.YtjjnokodkeekhaaDoorW.PrintWords Go.Proofs.YtjjnokodkeekhaaDoorW.PrintMore
open Go.Proofs.YtjjnokodkeekhaaDoor.P Go.Proofs.YtjjnokodkeekhaaDoor.Evx
set_option linter.unusedVariables false
set_option linter.unusedSimpArgs false
/-- Smaller. -/
structure SubF (t s : S24) : Prop where
  pn : nS t ≤ nS s
  ph : hS t ≤ hS s
  pt : tnS t ≤ tnS s
  ps : soundS s = true → soundS t = true
theorem SubF.refl (s : S24) : SubF s s := ⟨Nat.le_refl _, Nat.le_refl _, Nat.le_refl _, id⟩
theorem SubF.trans {a b c : S24} (h : SubF a b) (k : SubF b c) : SubF a c := ⟨Nat.le_trans h.pn k.pn, Nat.le_trans h.ph k.ph, Nat.le_trans h.pt k.pt, fun x => h.ps (k.ps x)⟩
theorem SubF.may {t s : S24} (h : SubF t s) (hm : mayF s = 0) : mayF t = 0 := by
  obtain ⟨h1, h2, h3, h4⟩ := may_zero hm
  rw [may_eq, if_pos (show nS t ≤ 60 ∧ hS t ≤ 12 ∧ tnS t ≤ 8 from ⟨Nat.le_trans h.pn h1, Nat.le_trans h.ph h2, Nat.le_trans h.pt h3⟩), if_pos (h.ps h4)]
theorem nL_mem : ∀ {l : List S24} {k : S24}, k ∈ l → nS k ≤ nL l ∧ hS k ≤ hL l ∧ tnS k ≤ tnL l
  | a :: r, k, h => by
    simp only [nL, hL, tnL]
    rcases List.mem_cons.1 h with e | e
    · subst e; omega
    · have := nL_mem e; omega
theorem SubF.kid {s k : S24} (h : k ∈ s.f2) : SubF k s := by
  obtain ⟨op, m, kids⟩ := s
  have := nL_mem (show k ∈ kids from h)
  refine ⟨?_, ?_, ?_, fun hs => sound_in (sound_kids_all hs) k h⟩
  · simp only [nS]; exact Nat.le_trans this.1 (by omega)
  · simp only [hS]; exact Nat.le_trans this.2.1 (by omega)
  · simp only [tnS]; exact Nat.le_trans this.2.2 (by omega)
theorem len_rowF {t : S24} {st lp : List Int} (h : mayF t = 0) (hw : wordS st lp = true) : (rowF t st lp).length = st.length + lp.length := by
  unfold rowF
  rw [if_pos ⟨h, hw⟩, len_row, List.length_append]
end Go.Proofs.YtjjnokodkeekhaaDoor.X

namespace Go.Proofs.YtjjnokodkeekhaaDoor.X
open Go.RowKit Go.Proofs.YtjjnokodkeekhaaDoorW.PrintWords Go.Proofs.YtjjnokodkeekhaaDoorW.PrintMore
open Go.Proofs.YtjjnokodkeekhaaDoor.P Go.Proofs.YtjjnokodkeekhaaDoor.Evx
set_option linter.unusedVariables false
set_option linter.unusedSimpArgs false
theorem word_loop {st lp : List Int} (h : wordS st lp = true) : st.length < (st ++ lp).length := by
  unfold wordS at h
  have := of_decide_eq_true h
  rw [List.length_append]
  omega
theorem word_small {st lp : List Int} (h : wordS st lp = true) : st.length ≤ 3000 ∧ 1 ≤ lp.length ∧ lp.length ≤ 27000 := of_decide_eq_true h
theorem len_small {n a b : Nat} (h : n = a + b) (k : a ≤ 3000 ∧ 1 ≤ b ∧ b ≤ 27000) : n < 1000000000 := by omega
theorem len_wrap {a b : Nat} (k : a ≤ 3000 ∧ 1 ≤ b ∧ b ≤ 27000) : wrap64 ((a : Int) + (b : Int)) = (a : Int) + (b : Int) := w64 (by omega) (by omega)
theorem len_bne {n a b : Nat} (h : n = a + b) : ((n : Int) != (a : Int) + (b : Int)) = false := by rw [h]; simp
theorem rowF_of {s : S24} {st lp : List Int} (h : mayF s = 0) (hw : wordS st lp = true) : rowF s st lp = rowS (st ++ lp) st.length s := by unfold rowF; rw [if_pos ⟨h, hw⟩]
end Go.Proofs.YtjjnokodkeekhaaDoor.X

namespace Go.Proofs.YtjjnokodkeekhaaDoor.X
open Go.RowKit Go.Proofs.YtjjnokodkeekhaaDoorW.PrintWords Go.Proofs.YtjjnokodkeekhaaDoorW.PrintMore
open Go.Proofs.YtjjnokodkeekhaaDoor.P Go.Proofs.YtjjnokodkeekhaaDoor.Evx
set_option linter.unusedVariables false
set_option linter.unusedSimpArgs false
def againS (s : S24) : S24 := ⟨8, 0, [noS, ⟨7, 0, [yesS, s]⟩]⟩
def stayS (s : S24) : S24 := ⟨7, 0, [yesS, ⟨8, 0, [noS, s]⟩]⟩
theorem sub_again (s : S24) : SubF s (againS s) := (SubF.kid (s := ⟨7, 0, [yesS, s]⟩) (by simp)).trans (SubF.kid (s := againS s) (by simp [againS]))
theorem drop_map (r : List Bool) (b : Nat) : r.drop b = (List.range (r.length - b)).map fun k => r.getD (b + k) false := by
  apply List.ext_getElem
  · simp
  · intro i h1 h2
    rw [List.length_drop] at h1
    rw [List.getElem_drop, List.getElem_map, List.getElem_range, List.getD_eq_getElem?_getD, List.getElem?_eq_getElem (by omega)]
    rfl
theorem loopAny_drop (r : List Bool) (b : Nat) : loopAny (fun j => r.getD j false) r.length b = (r.drop b).any id := by
  rw [drop_map r b, List.any_map]; rfl
theorem loopAll_drop (r : List Bool) (b : Nat) : loopAll (fun j => r.getD j false) r.length b = (r.drop b).all id := by
  rw [drop_map r b, List.all_map]; rfl
theorem holds_of {s : S24} {st lp : List Int} (h : mayF s = 0) (hw : wordS st lp = true) : holdsF s st lp = (rowS (st ++ lp) st.length s).getD 0 false := by
  have hl := word_loop hw
  unfold holdsF
  rw [rowF_of h hw, len_row, decide_eq_true (by omega), Bool.true_and]
theorem again_holds {s : S24} {st lp : List Int} (h : mayF (againS s) = 0) (hw : wordS st lp = true) : holdsF (againS s) st lp = ((rowF s st lp).drop st.length).any id := by
  rw [holds_of h hw, rowF_of ((sub_again s).may h) hw, ← loopAny_drop, len_row]
  exact again_row _ _ (word_loop hw) s
theorem stay_holds {s : S24} {st lp : List Int} (k : mayF (againS s) = 0) (h : mayF (stayS s) = 0) (hw : wordS st lp = true) : holdsF (stayS s) st lp = ((rowF s st lp).drop st.length).all id := by
  rw [holds_of h hw, rowF_of ((sub_again s).may k) hw, ← loopAll_drop, len_row]
  exact stay_row _ _ (word_loop hw) s
theorem any_step (xs : List Bool) (j : Nat) (h : j < xs.length) (x X : Bool) (e : (x || (xs.drop j).any id) = X) : ((x || xs.getD j false) || (xs.drop (j + 1)).any id) = X := by
  rw [← e, List.drop_eq_getElem_cons h, List.any_cons, List.getD_eq_getElem?_getD, List.getElem?_eq_getElem h]
  simp [Bool.or_assoc]
theorem all_step (xs : List Bool) (j : Nat) (h : j < xs.length) (x X : Bool) (e : (x && (xs.drop j).all id) = X) : ((x && xs.getD j false) && (xs.drop (j + 1)).all id) = X := by
  rw [← e, List.drop_eq_getElem_cons h, List.all_cons, List.getD_eq_getElem?_getD, List.getElem?_eq_getElem h]
  simp [Bool.and_assoc]
theorem any_done (xs : List Bool) (j : Nat) (h : xs.length ≤ j) (x X : Bool) (e : (x || (xs.drop j).any id) = X) : X = x := by rw [← e, List.drop_eq_nil_of_le h]; simp
theorem all_done (xs : List Bool) (j : Nat) (h : xs.length ≤ j) (x X : Bool) (e : (x && (xs.drop j).all id) = X) : X = x := by rw [← e, List.drop_eq_nil_of_le h]; simp
theorem word_of {st lp : List Int} {n v : Int} (n0 : 0 ≤ n) (v0 : 0 ≤ v) (h : ¬ 0 < n + v) (hl : ¬ (lp.length : Int) < 1) (k : v = 0 → st.length ≤ 60 ∧ lp.length ≤ 60) : wordS st lp = true := by
  have := k (by omega)
  exact decide_eq_true (by omega)
end Go.Proofs.YtjjnokodkeekhaaDoor.X

namespace Go.Proofs.YtjjnokodkeekhaaDoor.X
open Go.RowKit Go.Proofs.YtjjnokodkeekhaaDoorW.PrintWords Go.Proofs.YtjjnokodkeekhaaDoorW.PrintMore
open Go.Proofs.YtjjnokodkeekhaaDoor.P Go.Proofs.YtjjnokodkeekhaaDoor.Evx
set_option linter.unusedVariables false
set_option linter.unusedSimpArgs false
/-- What weigh tells is a number from 1 to 1000. -/
def WeiAt (s : S24) : Prop := ∀ (d r : Int), 0 ≤ d → d ≤ 41 → 0 ≤ r → r ≤ 500 → ∃ n : Int, Ev (fun k => parrylaw22_weigh.f k s.f0 s.f1 s.f2 d r) n ∧ 1 ≤ n ∧ n ≤ 1000
theorem weigh_l (kids : List S24) (d r : Int) (hd0 : 0 ≤ d) (hd : d ≤ 40) (hr0 : 1 ≤ r) (hr : r ≤ 500) (ih : ∀ k ∈ kids, WeiAt k) :
    ∀ (e j : Nat) (n : Int), j + e = kids.length → (j : Int) < n → n ≤ r → ∃ n' : Int, Ev (fun k => parrylaw22_weigh.l0 k d r n kids (kids.length : Int) j) n' ∧ 1 ≤ n' ∧ n' ≤ 1000
  | 0, j, n, hj, h1, h2 => ⟨n, ev_step (fun k => rfl) (ev_neg (by omega) (ev_some _)), by omega, by omega⟩
  | e + 1, j, n, hj, h1, h2 => by
    have hlt : j < kids.length := by omega
    obtain ⟨x, hx, x1, x2⟩ := ih _ (List.getElem_mem hlt) (d + 1) (r - n) (by omega) (by omega) (by omega) (by omega)
    by_cases hc : n + x > r
    · refine ⟨1000, ev_step (fun k => rfl) (ev_pos (by omega) (ev_pos (by omega) (ev_pos (by omega) ?_))), by omega, by omega⟩
      rw [rdT_nat kids j hlt, w64 (x := d + 1) (by omega) (by omega), w64 (x := r - n) (by omega) (by omega)]
      refine ev_bind hx ?_
      rw [w64 (by omega) (by omega)]
      exact ev_pos hc (ev_some _)
    · obtain ⟨n', hn', a1, a2⟩ := weigh_l kids d r hd0 hd hr0 hr ih e (j + 1) (n + x) (by omega) (by omega) (by omega)
      refine ⟨n', ev_step (fun k => rfl) (ev_pos (by omega) (ev_pos (by omega) (ev_pos (by omega) ?_))), a1, a2⟩
      rw [rdT_nat kids j hlt, w64 (x := d + 1) (by omega) (by omega), w64 (x := r - n) (by omega) (by omega)]
      refine ev_bind hx ?_
      rw [w64 (x := n + x) (by omega) (by omega), w64 (x := (j : Int) + 1) (by omega) (by omega)]
      refine ev_neg hc ?_
      exact_mod_cast hn'
mutual
theorem weigh_ev : ∀ s : S24, WeiAt s
  | ⟨op, m, kids⟩ => by
    intro d r h1 h2 h3 h4
    have ih := weigh_evL kids
    by_cases hd : d > 40
    · exact ⟨1000, ev_step (fun k => rfl) (ev_pos hd (ev_step (f := fun _ => some 1000) (fun k => rfl) (ev_some _))), by omega, by omega⟩
    · by_cases hr : r < 1
      · exact ⟨1000, ev_step (fun k => rfl) (ev_neg hd (ev_step (fun k => rfl) (ev_pos (decide_eq_true hr) (ev_some _)))), by omega, by omega⟩
      · obtain ⟨n', hn', a1, a2⟩ := weigh_l kids d r h1 (by omega) (by omega) h4 ih kids.length 0 1 (by omega) (by omega) (by omega)
        exact ⟨n', ev_step (fun k => rfl) (ev_neg hd (ev_step (fun k => rfl) (ev_neg (by rw [decide_eq_false hr]; simp) hn'))), a1, a2⟩
theorem weigh_evL : ∀ l : List S24, ∀ k ∈ l, WeiAt k
  | [], k, hk => by cases hk
  | a :: r, k, hk => by
    rcases List.mem_cons.1 hk with e | e
    · rw [e]; exact weigh_ev a
    · exact weigh_evL r k e
end
theorem heavy_ev (s : S24) : ∃ n : Int, Ev (fun k => parrylaw22_Heavy.f k s.f0 s.f1 s.f2) n ∧ 0 ≤ n ∧ n ≤ 1000 := by
  obtain ⟨n, hn, a1, a2⟩ := weigh_ev s 0 500 (by omega) (by omega) (by omega) (by omega)
  unfold parrylaw22_Heavy.f
  by_cases h : n > 300
  · exact ⟨n, ev_bind hn (ev_pos h (ev_some _)), by omega, by omega⟩
  · exact ⟨0, ev_bind hn (ev_neg h (ev_some _)), by omega, by omega⟩
theorem long_some (st lp : List Int) : ∃ n : Int, parrylaw22_Long.f st lp = some n ∧ 0 ≤ n ∧ n ≤ 1 ∧ (n = 0 → st.length ≤ 60 ∧ lp.length ≤ 60) := by
  unfold parrylaw22_Long.f
  by_cases h1 : (st.length : Int) > 60
  · exact ⟨1, by rw [if_pos h1], by omega, by omega, by omega⟩
  · by_cases h2 : (lp.length : Int) > 60
    · exact ⟨1, by rw [if_neg h1, if_pos h2], by omega, by omega, by omega⟩
    · exact ⟨0, by rw [if_neg h1, if_neg h2], by omega, by omega, by omega⟩
end Go.Proofs.YtjjnokodkeekhaaDoor.X

namespace Go.Proofs.YtjjnokodkeekhaaDoor.X
open Go.RowKit Go.Proofs.YtjjnokodkeekhaaDoorW.PrintWords Go.Proofs.YtjjnokodkeekhaaDoorW.PrintLast Go.Proofs.YtjjnokodkeekhaaDoorW.PrintMore
open Go.Proofs.YtjjnokodkeekhaaDoor.P Go.Proofs.YtjjnokodkeekhaaDoor.Evx
set_option linter.unusedSimpArgs false
set_option linter.unusedVariables false
def fag.T1 : Bool × List (List Nat × List Nat) := (true, [([], []), ([0], [0]), ([], []), ([2, 1], [2]), ([1, 3], [1, 3]), ([4], [4]), ([5, 3], [5]), ([6], [6]), ([7, 6], [6, 7]), ([8, 6], [6, 8]), ([9, 6], [6, 9]), ([6, 10], [6, 10])])
def fag.B1 : List Nat := [0, 1, 0, 7, 15, 31, 63, 127, 255, 511, 1023, 2047]
theorem fag.tab1 : rtab .any (opsOf Tryd.f6 1) = fag.T1 := by kernel_rfl
theorem fag.bits1 : waitsOk fag.T1.2 fag.B1 = true := by kernel_rfl
def fag.T4 : Bool × List (List Nat × List Nat) := (true, [([], []), ([], []), ([], []), ([1, 2], [1, 2]), ([3], [3]), ([0, 4], [0, 4]), ([5, 4], [5]), ([], []), ([7, 6, 6, 0, 1, 2, 3, 4, 5, 6, 7], [6, 7])])
def fag.B4 : List Nat := [0, 0, 0, 6, 14, 31, 63, 0, 255]
theorem fag.tab4 : rtab .any (opsOf Tryd.f6 4) = fag.T4 := by kernel_rfl
theorem fag.bits4 : waitsOk fag.T4.2 fag.B4 = true := by kernel_rfl
def fag.T5 : Bool × List (List Nat × List Nat) := (true, [([], []), ([], []), ([], []), ([1, 2], [1, 2]), ([3], [3]), ([0, 4], [0, 4]), ([5, 4], [5]), ([], []), ([7, 6, 6, 0, 1, 2, 3, 4, 5, 6, 7], [6, 7])])
def fag.B5 : List Nat := [0, 0, 0, 6, 14, 31, 63, 0, 255]
theorem fag.tab5 : rtab .any (opsOf Tryd.f6 5) = fag.T5 := by kernel_rfl
theorem fag.bits5 : waitsOk fag.T5.2 fag.B5 = true := by kernel_rfl
theorem infoBool1 : (Tryd.prog.info? 4).map (fun i => (i.zero, i.size, i.bytes)) = some (some (.bool false), 1, 1) := by kernel_rfl
set_option maxHeartbeats 16000000 in
set_option maxRecDepth 100000 in
theorem again_calls (s : S24) (st lp : List Int) (A A1 A2 : Option Addr) (cp c1 c2 : Nat) (w : World) (hk : Kd.C k24 w A s.f2.length s.f2) (hc : s.f2.length ≤ cp) (h1 : Kd.C (Kd.int .u32) w A1 st.length st) (hc1 : st.length ≤ c1) (h2 : Kd.C (Kd.int .u32) w A2 lp.length lp) (hc2 : lp.length ≤ c2) :
    Calls Tryd.prog 6 #[.agg #[.int .i64 s.f0, .int .i64 s.f1, .slice A s.f2.length cp], .agg #[.slice A1 st.length c1, .slice A2 lp.length c2]] w fun e w' => e = .returned (.bool true) ∧ Below w.heap.size w w' := by
  have huF := Tryd.underlying24
  have huW := Tryd.underlying27
  have huL := Tryd.underlying22
  have huu := Tryd.underlying25
  have hub := Tryd.underlying35
  obtain ⟨V1, hV1⟩ : ∃ V1, V1 = w.alloc (.cells #[.int .i64 s.f0, .int .i64 s.f1, .slice A s.f2.length cp] 24) := ⟨_, rfl⟩
  obtain ⟨W0, hW0⟩ : ∃ W0, W0 = V1.alloc (.cells #[.slice A1 st.length c1, .slice A2 lp.length c2] 27) := ⟨_, rfl⟩
  have hz1 : V1.heap.size = w.heap.size + 1 := by rw [hV1]; simp
  have HB0 := Aside0.mk (show Below w.heap.size w W0 from by rw [hW0, hV1]; exact below_alloc (below_alloc (Below.refl _ _) _) _)
  have HF0 := Aside0.mk (show W0.heap[w.heap.size]? = some (.cells #[.int .i64 s.f0, .int .i64 s.f1, .slice A s.f2.length cp] 24 (0, 0)) from by rw [hW0, hV1]; exact blk_alloc (heap_alloc_new w _) _)
  have HL0 := Aside0.mk (show W0.heap[w.heap.size + 1]? = some (.cells #[.slice A1 st.length c1, .slice A2 lp.length c2] 27 (0, 0)) from by rw [hW0, ← hz1]; exact heap_alloc_new V1 _)
  have HW0 := Aside0.mk (show W0 = (w.alloc (.cells #[.int .i64 s.f0, .int .i64 s.f1, .slice A s.f2.length cp] 24)).alloc (.cells #[.slice A1 st.length c1, .slice A2 lp.length c2] 27) from by rw [hW0, hV1])
  clear hV1 hW0 hz1
  have HKs := Aside0.mk hk
  have HK1 := Aside0.mk h1
  have HK2 := Aside0.mk h2
  obtain ⟨v1, hv1, n1, m1⟩ := heavy_ev s
  obtain ⟨v3, hv3, n3, m3, hv4⟩ := long_some st lp
  obtain ⟨k1, hk1⟩ := hv1.rounds
  have HHF := Aside0.mk (fun W (h : Below w.heap.size w W) => parrylaw22_Heavy.calls k1 s.f0 s.f1 A cp s.f2 v1 W (Kd.C_below hk h) hc hk1)
  have HHL := Aside0.mk (fun W (h : Below w.heap.size w W) => parrylaw22_Long.calls A1 c1 st A2 c2 lp v3 W (Kd.C_below h1 h) hc1 (Kd.C_below h2 h) hc2 hv3)
  have hw1 : wrap64 (v1 + v3) = v1 + v3 := w64 (by omega) (by omega)
  have HWO := Aside0.mk (fun h hl => word_of (st := st) (lp := lp) n1 n3 h hl hv4)
  clear hk h1 h2 hv1 hv3 hv4 hk1
  go_enter Tryd.func6, Tryd.ntmps6
  go_upto_region 1 with fail
  rw [← HW0.out]
  clear HW0
  go_cut [25] (fun v25 wx => ∃ hb : Bool, v25 = .bool hb ∧ Aside0 (hb = false → wordS st lp = true) ∧ Aside0 (Below W0.heap.size W0 wx))
  case first =>
    by_cases h0 : 0 < v1 + v3
    · have hd : decide (0 < v1 + v3) = true := decide_eq_true h0
      clear n1 m1 n3 m3
      refine start_ (n := 12) (S := fun w' => w'.cell? ⟨w.heap.size, 0, none⟩ = some (.int .i64 s.f0) ∧ w'.cell? ⟨w.heap.size, 1, none⟩ = some (.int .i64 s.f1) ∧ w'.cell? ⟨w.heap.size, 2, none⟩ = some (.slice A s.f2.length cp) ∧ w'.cell? ⟨w.heap.size + 1, 0, none⟩ = some (.slice A1 st.length c1) ∧ w'.cell? ⟨w.heap.size + 1, 1, none⟩ = some (.slice A2 lp.length c2)) (ds := []) #[false, false, false, false, false, false, false, false, false, false, false, false] (by kernel_rfl) rfl rfl ⟨((blk_cell HF0.out 0).trans rfl), ((blk_cell HF0.out 1).trans rfl), ((blk_cell HF0.out 2).trans rfl), ((blk_cell HL0.out 0).trans rfl), ((blk_cell HL0.out 1).trans rfl)⟩ (fun hHeld => ?_)
      refine with_tabW fag.tab1 fag.bits1 (fun HT_ HW_ => ?_)
      refine take_ (i := 0) (N := some 14) (v := ?_) (a' := ?_) #[true, false, false, false, false, false, false, false, false, false, false, false] rfl rfl (take_ofW HT_.out HW_.out (by kernel_rfl)) (fun _ _ _ h => h) (Or.inl ⟨by rfl, ?_⟩) hHeld ?_ ?_
      rotate_left
      · rintro w' ⟨s0, s1, s2, s3, s4⟩
        go_simp
        with_reducible rfl
      rotate_left
      · simp only [Act.put, List.setIfInBounds_toArray, List.set_cons_zero, List.set_cons_succ, i64_w, i32_w]
        rfl
      refine take_ (i := 2) (N := some 16) (v := ?_) (a' := ?_) #[true, false, true, false, false, false, false, false, false, false, false, false] rfl rfl (take_ofW HT_.out HW_.out (by kernel_rfl)) (fun _ _ _ h => h) (Or.inl ⟨by rfl, ?_⟩) hHeld ?_ ?_
      rotate_left
      · rintro w' ⟨s0, s1, s2, s3, s4⟩
        go_simp
        with_reducible rfl
      rotate_left
      · simp only [Act.put, List.setIfInBounds_toArray, List.set_cons_zero, List.set_cons_succ, i64_w, i32_w]
        rfl
      refine one_ (i := 1) (N := some 15) #[true, true, true, false, false, false, false, false, false, false, false, false] rfl rfl (one_of HT_.out (by kernel_rfl)) (by decide) (fun K hK => ?_)
      refine goes_ Tryd.func9 (by kernel_rfl) rfl #[.agg #[.int .i64 s.f0, .int .i64 s.f1, .slice A s.f2.length cp]] (by rfl) rfl rfl (by simp only [List.map_toArray, List.map_cons, List.map_nil]; rfl) ?_
      with_reducible refine (HHF.out _ (HB0.out.trans ((show Below W0.heap.size W0 W0.drew from below_drew1 (Below.refl _ _)).mono HB0.out.size))).mono ?_
      rintro e_ wc1 ⟨rfl, hB⟩
      have HBc1 := Aside0.mk (show Below W0.heap.size W0 wc1 from (below_drew1 (Below.refl _ _)).trans hB)
      clear hB
      have hkF1 := (HBc1.out.block _ (blk_lt HF0.out)).trans HF0.out
      have hkL1 := (HBc1.out.block _ (blk_lt HL0.out)).trans HL0.out
      refine ⟨_, rfl, ?_⟩
      refine hK.out _ _ ⟨((blk_cell hkF1 0).trans rfl), ((blk_cell hkF1 1).trans rfl), ((blk_cell hkF1 2).trans rfl), ((blk_cell hkL1 0).trans rfl), ((blk_cell hkL1 1).trans rfl)⟩ (fun hHeld => ?_)
      clear hK K
      refine norm_ (a' := ?_) ?_ ?_
      rotate_left
      · show Act.put _ (some 15) _ = _
        simp only [Act.put, List.setIfInBounds_toArray, List.set_cons_zero, List.set_cons_succ, i64_w, i32_w]
        rfl
      refine one_ (i := 3) (N := some 17) #[true, true, true, true, false, false, false, false, false, false, false, false] rfl rfl (one_of HT_.out (by kernel_rfl)) (by decide) (fun K hK => ?_)
      refine goes_ Tryd.func10 (by kernel_rfl) rfl #[.agg #[.slice A1 st.length c1, .slice A2 lp.length c2]] (by rfl) rfl rfl (by simp only [List.map_toArray, List.map_cons, List.map_nil]; rfl) ?_
      with_reducible refine (HHL.out _ (HB0.out.trans (HBc1.out.mono HB0.out.size))).mono ?_
      rintro e_ wc3 ⟨rfl, hB⟩
      have HBc3 := Aside0.mk (show Below W0.heap.size W0 wc3 from HBc1.out.trans (hB.mono HBc1.out.size))
      clear hB
      have hkF3 := (HBc3.out.block _ (blk_lt HF0.out)).trans HF0.out
      have hkL3 := (HBc3.out.block _ (blk_lt HL0.out)).trans HL0.out
      refine ⟨_, rfl, ?_⟩
      refine hK.out _ _ ⟨((blk_cell hkF3 0).trans rfl), ((blk_cell hkF3 1).trans rfl), ((blk_cell hkF3 2).trans rfl), ((blk_cell hkL3 0).trans rfl), ((blk_cell hkL3 1).trans rfl)⟩ (fun hHeld => ?_)
      clear hK K
      refine norm_ (a' := ?_) ?_ ?_
      rotate_left
      · show Act.put _ (some 17) _ = _
        simp only [Act.put, List.setIfInBounds_toArray, List.set_cons_zero, List.set_cons_succ, i64_w, i32_w]
        rfl
      refine pure_ (i := 4) (N := some 18) (v := ?_) (a' := ?_) #[true, true, true, true, true, false, false, false, false, false, false, false] rfl rfl (any_of HT_.out (by kernel_rfl)) (fun _ _ _ h => h) (Or.inl ⟨by rfl, ?_⟩) ?_ ?_
      rotate_left
      · intro w'
        go_simp
        with_reducible rfl
      rotate_left
      · simp only [Act.put, List.setIfInBounds_toArray, List.set_cons_zero, List.set_cons_succ, i64_w, i32_w]
        rfl
      refine pure_ (i := 5) (N := some 19) (v := ?_) (a' := ?_) #[true, true, true, true, true, true, false, false, false, false, false, false] rfl rfl (any_of HT_.out (by kernel_rfl)) (fun _ _ _ h => h) (Or.inl ⟨by rfl, ?_⟩) ?_ ?_
      rotate_left
      · intro w'
        go_simp
        with_reducible rfl
      rotate_left
      · simp only [Act.put, List.setIfInBounds_toArray, List.set_cons_zero, List.set_cons_succ, i64_w, i32_w]
        rfl
      refine pure_ (i := 6) (N := some 20) (v := ?_) (a' := ?_) #[true, true, true, true, true, true, true, false, false, false, false, false] rfl rfl (any_of HT_.out (by kernel_rfl)) (fun _ _ _ h => h) (Or.inl ⟨by rfl, ?_⟩) ?_ ?_
      rotate_left
      · intro w'
        go_simp
        with_reducible rfl
      rotate_left
      · simp only [Act.put, List.setIfInBounds_toArray, List.set_cons_zero, List.set_cons_succ, i64_w, i32_w]
        rfl
      refine pure_ (i := 7) (N := some 21) (v := undef) (a' := ?_) #[true, true, true, true, true, true, true, true, false, false, false, false] rfl rfl (any_of HT_.out (by kernel_rfl)) (fun _ _ _ h => h) (Or.inr ⟨by rfl, rfl⟩) ?_ ?_
      rotate_left
      · simp only [Act.put, List.setIfInBounds_toArray, List.set_cons_zero, List.set_cons_succ, i64_w, i32_w]
        rfl
      refine pure_ (i := 8) (N := some 22) (v := undef) (a' := ?_) #[true, true, true, true, true, true, true, true, true, false, false, false] rfl rfl (any_of HT_.out (by kernel_rfl)) (fun _ _ _ h => h) (Or.inr ⟨by rfl, rfl⟩) ?_ ?_
      rotate_left
      · simp only [Act.put, List.setIfInBounds_toArray, List.set_cons_zero, List.set_cons_succ, i64_w, i32_w]
        rfl
      refine pure_ (i := 9) (N := some 23) (v := undef) (a' := ?_) #[true, true, true, true, true, true, true, true, true, true, false, false] rfl rfl (any_of HT_.out (by kernel_rfl)) (fun _ _ _ h => h) (Or.inr ⟨by rfl, rfl⟩) ?_ ?_
      rotate_left
      · simp only [Act.put, List.setIfInBounds_toArray, List.set_cons_zero, List.set_cons_succ, i64_w, i32_w]
        rfl
      refine pure_ (i := 10) (N := some 24) (v := undef) (a' := ?_) #[true, true, true, true, true, true, true, true, true, true, true, false] rfl rfl (any_of HT_.out (by kernel_rfl)) (fun _ _ _ h => h) (Or.inr ⟨by rfl, rfl⟩) ?_ ?_
      rotate_left
      · simp only [Act.put, List.setIfInBounds_toArray, List.set_cons_zero, List.set_cons_succ, i64_w, i32_w]
        rfl
      refine pure_ (i := 11) (N := some 25) (v := ?_) (a' := ?_) #[true, true, true, true, true, true, true, true, true, true, true, true] rfl rfl (any_of HT_.out (by kernel_rfl)) (fun _ _ _ h => h) (Or.inl ⟨by rfl, ?_⟩) ?_ ?_
      rotate_left
      · intro w'
        go_simp
        with_reducible rfl
      rotate_left
      · simp only [Act.put, List.setIfInBounds_toArray, List.set_cons_zero, List.set_cons_succ, i64_w, i32_w]
        rfl
      refine done_ (done_of HT_.out (by kernel_rfl)) ?_
      go_wp2_with fail
      go_meet
      exact ⟨true, rfl, ⟨fun h => absurd h (by decide)⟩, HBc3⟩
    · have hd : decide (0 < v1 + v3) = false := decide_eq_false h0
      have HH0 := Aside0.mk h0
      clear n1 m1 n3 m3 h0
      refine start_ (n := 12) (S := fun w' => w'.cell? ⟨w.heap.size, 0, none⟩ = some (.int .i64 s.f0) ∧ w'.cell? ⟨w.heap.size, 1, none⟩ = some (.int .i64 s.f1) ∧ w'.cell? ⟨w.heap.size, 2, none⟩ = some (.slice A s.f2.length cp) ∧ w'.cell? ⟨w.heap.size + 1, 0, none⟩ = some (.slice A1 st.length c1) ∧ w'.cell? ⟨w.heap.size + 1, 1, none⟩ = some (.slice A2 lp.length c2)) (ds := []) #[false, false, false, false, false, false, false, false, false, false, false, false] (by kernel_rfl) rfl rfl ⟨((blk_cell HF0.out 0).trans rfl), ((blk_cell HF0.out 1).trans rfl), ((blk_cell HF0.out 2).trans rfl), ((blk_cell HL0.out 0).trans rfl), ((blk_cell HL0.out 1).trans rfl)⟩ (fun hHeld => ?_)
      refine with_tabW fag.tab1 fag.bits1 (fun HT_ HW_ => ?_)
      refine take_ (i := 0) (N := some 14) (v := ?_) (a' := ?_) #[true, false, false, false, false, false, false, false, false, false, false, false] rfl rfl (take_ofW HT_.out HW_.out (by kernel_rfl)) (fun _ _ _ h => h) (Or.inl ⟨by rfl, ?_⟩) hHeld ?_ ?_
      rotate_left
      · rintro w' ⟨s0, s1, s2, s3, s4⟩
        go_simp
        with_reducible rfl
      rotate_left
      · simp only [Act.put, List.setIfInBounds_toArray, List.set_cons_zero, List.set_cons_succ, i64_w, i32_w]
        rfl
      refine take_ (i := 2) (N := some 16) (v := ?_) (a' := ?_) #[true, false, true, false, false, false, false, false, false, false, false, false] rfl rfl (take_ofW HT_.out HW_.out (by kernel_rfl)) (fun _ _ _ h => h) (Or.inl ⟨by rfl, ?_⟩) hHeld ?_ ?_
      rotate_left
      · rintro w' ⟨s0, s1, s2, s3, s4⟩
        go_simp
        with_reducible rfl
      rotate_left
      · simp only [Act.put, List.setIfInBounds_toArray, List.set_cons_zero, List.set_cons_succ, i64_w, i32_w]
        rfl
      refine one_ (i := 1) (N := some 15) #[true, true, true, false, false, false, false, false, false, false, false, false] rfl rfl (one_of HT_.out (by kernel_rfl)) (by decide) (fun K hK => ?_)
      refine goes_ Tryd.func9 (by kernel_rfl) rfl #[.agg #[.int .i64 s.f0, .int .i64 s.f1, .slice A s.f2.length cp]] (by rfl) rfl rfl (by simp only [List.map_toArray, List.map_cons, List.map_nil]; rfl) ?_
      with_reducible refine (HHF.out _ (HB0.out.trans ((show Below W0.heap.size W0 W0.drew from below_drew1 (Below.refl _ _)).mono HB0.out.size))).mono ?_
      rintro e_ wc1 ⟨rfl, hB⟩
      have HBc1 := Aside0.mk (show Below W0.heap.size W0 wc1 from (below_drew1 (Below.refl _ _)).trans hB)
      clear hB
      have hkF1 := (HBc1.out.block _ (blk_lt HF0.out)).trans HF0.out
      have hkL1 := (HBc1.out.block _ (blk_lt HL0.out)).trans HL0.out
      refine ⟨_, rfl, ?_⟩
      refine hK.out _ _ ⟨((blk_cell hkF1 0).trans rfl), ((blk_cell hkF1 1).trans rfl), ((blk_cell hkF1 2).trans rfl), ((blk_cell hkL1 0).trans rfl), ((blk_cell hkL1 1).trans rfl)⟩ (fun hHeld => ?_)
      clear hK K
      refine norm_ (a' := ?_) ?_ ?_
      rotate_left
      · show Act.put _ (some 15) _ = _
        simp only [Act.put, List.setIfInBounds_toArray, List.set_cons_zero, List.set_cons_succ, i64_w, i32_w]
        rfl
      refine one_ (i := 3) (N := some 17) #[true, true, true, true, false, false, false, false, false, false, false, false] rfl rfl (one_of HT_.out (by kernel_rfl)) (by decide) (fun K hK => ?_)
      refine goes_ Tryd.func10 (by kernel_rfl) rfl #[.agg #[.slice A1 st.length c1, .slice A2 lp.length c2]] (by rfl) rfl rfl (by simp only [List.map_toArray, List.map_cons, List.map_nil]; rfl) ?_
      with_reducible refine (HHL.out _ (HB0.out.trans (HBc1.out.mono HB0.out.size))).mono ?_
      rintro e_ wc3 ⟨rfl, hB⟩
      have HBc3 := Aside0.mk (show Below W0.heap.size W0 wc3 from HBc1.out.trans (hB.mono HBc1.out.size))
      clear hB
      have hkF3 := (HBc3.out.block _ (blk_lt HF0.out)).trans HF0.out
      have hkL3 := (HBc3.out.block _ (blk_lt HL0.out)).trans HL0.out
      refine ⟨_, rfl, ?_⟩
      refine hK.out _ _ ⟨((blk_cell hkF3 0).trans rfl), ((blk_cell hkF3 1).trans rfl), ((blk_cell hkF3 2).trans rfl), ((blk_cell hkL3 0).trans rfl), ((blk_cell hkL3 1).trans rfl)⟩ (fun hHeld => ?_)
      clear hK K
      refine norm_ (a' := ?_) ?_ ?_
      rotate_left
      · show Act.put _ (some 17) _ = _
        simp only [Act.put, List.setIfInBounds_toArray, List.set_cons_zero, List.set_cons_succ, i64_w, i32_w]
        rfl
      refine pure_ (i := 4) (N := some 18) (v := ?_) (a' := ?_) #[true, true, true, true, true, false, false, false, false, false, false, false] rfl rfl (any_of HT_.out (by kernel_rfl)) (fun _ _ _ h => h) (Or.inl ⟨by rfl, ?_⟩) ?_ ?_
      rotate_left
      · intro w'
        go_simp
        with_reducible rfl
      rotate_left
      · simp only [Act.put, List.setIfInBounds_toArray, List.set_cons_zero, List.set_cons_succ, i64_w, i32_w]
        rfl
      refine pure_ (i := 5) (N := some 19) (v := ?_) (a' := ?_) #[true, true, true, true, true, true, false, false, false, false, false, false] rfl rfl (any_of HT_.out (by kernel_rfl)) (fun _ _ _ h => h) (Or.inl ⟨by rfl, ?_⟩) ?_ ?_
      rotate_left
      · intro w'
        go_simp
        with_reducible rfl
      rotate_left
      · simp only [Act.put, List.setIfInBounds_toArray, List.set_cons_zero, List.set_cons_succ, i64_w, i32_w]
        rfl
      refine pure_ (i := 6) (N := some 20) (v := ?_) (a' := ?_) #[true, true, true, true, true, true, true, false, false, false, false, false] rfl rfl (any_of HT_.out (by kernel_rfl)) (fun _ _ _ h => h) (Or.inl ⟨by rfl, ?_⟩) ?_ ?_
      rotate_left
      · intro w'
        go_simp
        with_reducible rfl
      rotate_left
      · simp only [Act.put, List.setIfInBounds_toArray, List.set_cons_zero, List.set_cons_succ, i64_w, i32_w]
        rfl
      refine pure_ (i := 7) (N := some 21) (v := ?_) (a' := ?_) #[true, true, true, true, true, true, true, true, false, false, false, false] rfl rfl (any_of HT_.out (by kernel_rfl)) (fun _ _ _ h => h) (Or.inl ⟨by rfl, ?_⟩) ?_ ?_
      rotate_left
      · intro w'
        go_simp
        with_reducible rfl
      rotate_left
      · simp only [Act.put, List.setIfInBounds_toArray, List.set_cons_zero, List.set_cons_succ, i64_w, i32_w]
        rfl
      refine take_ (i := 8) (N := some 22) (v := ?_) (a' := ?_) #[true, true, true, true, true, true, true, true, true, false, false, false] rfl rfl (take_ofW HT_.out HW_.out (by kernel_rfl)) (fun _ _ _ h => h) (Or.inl ⟨by rfl, ?_⟩) hHeld ?_ ?_
      rotate_left
      · rintro w' ⟨s0, s1, s2, s3, s4⟩
        go_simp
        with_reducible rfl
      rotate_left
      · simp only [Act.put, List.setIfInBounds_toArray, List.set_cons_zero, List.set_cons_succ, i64_w, i32_w]
        rfl
      refine pure_ (i := 9) (N := some 23) (v := ?_) (a' := ?_) #[true, true, true, true, true, true, true, true, true, true, false, false] rfl rfl (any_of HT_.out (by kernel_rfl)) (fun _ _ _ h => h) (Or.inl ⟨by rfl, ?_⟩) ?_ ?_
      rotate_left
      · intro w'
        go_simp
        with_reducible rfl
      rotate_left
      · simp only [Act.put, List.setIfInBounds_toArray, List.set_cons_zero, List.set_cons_succ, i64_w, i32_w]
        rfl
      refine pure_ (i := 10) (N := some 24) (v := ?_) (a' := ?_) #[true, true, true, true, true, true, true, true, true, true, true, false] rfl rfl (any_of HT_.out (by kernel_rfl)) (fun _ _ _ h => h) (Or.inl ⟨by rfl, ?_⟩) ?_ ?_
      rotate_left
      · intro w'
        go_simp
        with_reducible rfl
      rotate_left
      · simp only [Act.put, List.setIfInBounds_toArray, List.set_cons_zero, List.set_cons_succ, i64_w, i32_w]
        rfl
      refine pure_ (i := 11) (N := some 25) (v := ?_) (a' := ?_) #[true, true, true, true, true, true, true, true, true, true, true, true] rfl rfl (any_of HT_.out (by kernel_rfl)) (fun _ _ _ h => h) (Or.inl ⟨by rfl, ?_⟩) ?_ ?_
      rotate_left
      · intro w'
        go_simp
        with_reducible rfl
      rotate_left
      · simp only [Act.put, List.setIfInBounds_toArray, List.set_cons_zero, List.set_cons_succ, i64_w, i32_w]
        rfl
      refine done_ (done_of HT_.out (by kernel_rfl)) ?_
      go_wp2_with fail
      go_meet
      exact ⟨decide ((lp.length : Int) < 1), rfl, ⟨fun h => HWO.out HH0.out (by have := of_decide_eq_false h; omega)⟩, HBc3⟩
  case rest =>
    obtain ⟨hb, rfl, HWD, HBc⟩ := hcut
    have HB2 := Aside0.mk (HB0.out.trans (HBc.out.mono HB0.out.size))
    obtain ⟨W2, rfl⟩ : ∃ W2 : World, W2 = wc := ⟨_, rfl⟩
    have HF2 := Aside0.mk ((HBc.out.block _ (blk_lt HF0.out)).trans HF0.out)
    have HL2 := Aside0.mk ((HBc.out.block _ (blk_lt HL0.out)).trans HL0.out)
    clear hw1 HWO n1 m1 n3 m3
    cases hb with
    | true =>
      go_wp2_with (go_at_call 11; refine (awake_calls _).mono ?_; rintro e_ w9 ⟨rfl, hB⟩; have HBz := Aside0.mk (HB2.out.trans (hB.mono HB2.out.size)); clear hB)
      go_ret
      exact ⟨rfl, HBz.out⟩
    | false =>
      have hwd := HWD.out rfl
      have hsm := word_small hwd
      have HWS := Aside0.mk hwd
      have HSM := Aside0.mk hsm
      clear hwd hsm HWD
      go_upto_region 4 with (first | (go_at_call 12; (with_reducible refine (op_calls 1 none 0 0 W2).mono ?_); rintro e_ w31 ⟨rfl, hB⟩; have HB31 := Aside0.mk hB; clear hB) | (go_at_call 12; (with_reducible refine (op_calls 1 none 0 0 w31).mono ?_); rintro e_ w32 ⟨rfl, hB⟩; have HB32 := Aside0.mk (HB31.out.trans (hB.mono HB31.out.size)); clear hB) | (go_at_call 12; refine (op_calls 3 _ 1 1 _).mono ?_; rintro e_ w33 ⟨rfl, hB⟩; have HB33 := Aside0.mk (HB32.out.trans (((below_alloc (Below.refl _ _) _).trans (hB.mono (by simp))).mono HB32.out.size)); have HRN := Aside0.mk ((hB.block _ (by simp)).trans (heap_alloc_new w32 _)); clear hB))
      obtain ⟨W3, hW3⟩ : ∃ W3, W3 = (w33.alloc (.cells #[.int .i64 1, .int .i64 0, .slice none 0 0] 24)).alloc (.cells #[.int .i64 3, .int .i64 0, .slice (some ⟨w32.heap.size, 0, none⟩) 1 1] 24) := ⟨_, rfl⟩
      rw [← hW3]
      obtain ⟨gn, hgn⟩ : ∃ g, g = w32.heap.size := ⟨_, rfl⟩
      obtain ⟨py, hpy⟩ : ∃ g, g = w33.heap.size := ⟨_, rfl⟩
      obtain ⟨pn, hpn⟩ : ∃ g, g = w33.heap.size + 1 := ⟨_, rfl⟩
      rw [← hgn] at hW3 HRN
      have hBW3 : Below w33.heap.size w33 W3 := by rw [hW3]; exact below_alloc (below_alloc (Below.refl _ _) _) _
      have HBW3 := Aside0.mk (HB33.out.trans (hBW3.mono HB33.out.size))
      have HB3 := Aside0.mk (HB2.out.trans (HBW3.out.mono HB2.out.size))
      have HY3 := Aside0.mk (show W3.heap[py]? = some (.cells #[.int .i64 1, .int .i64 0, .slice none 0 0] 24 (0, 0)) from by rw [hW3, hpy]; exact blk_alloc (heap_alloc_new w33 _) _)
      have HN3 := Aside0.mk (show W3.heap[pn]? = some (.cells #[.int .i64 3, .int .i64 0, .slice (some ⟨gn, 0, none⟩) 1 1] 24 (0, 0)) from by rw [hW3, hpn]; have := heap_alloc_new (w33.alloc (.cells #[.int .i64 1, .int .i64 0, .slice none 0 0] 24)) (.cells #[.int .i64 3, .int .i64 0, .slice (some ⟨gn, 0, none⟩) 1 1] 24); simpa using this)
      have CN3 := Aside0.mk (C_of1 (w := W3) (g := gn) (s := yesS) (A := none) (c := 0) ((hBW3.block _ (blk_lt HRN.out)).trans HRN.out) (Kd.C_nil _ _) (Nat.le_refl _))
      have HF3 := Aside0.mk ((HBW3.out.block _ (blk_lt HF2.out)).trans HF2.out)
      have HL3 := Aside0.mk ((HBW3.out.block _ (blk_lt HL2.out)).trans HL2.out)
      have HGN := Aside0.mk hgn
      have HPY := Aside0.mk hpy
      have HPN := Aside0.mk hpn
      clear hW3 hBW3 HRN
      rw [← hpn, ← hpy]
      clear hgn hpy hpn
      go_upto_region 4 with fail
      have BW := Aside0.mk (below_drew1 (Below.refl W3.heap.size W3))
      refine start_ (n := 9) (S := fun w' => True) (ds := []) #[false, false, false, false, false, false, false, false, false] (by kernel_rfl) rfl rfl trivial (fun hHeld => ?_)
      refine with_tabW fag.tab4 fag.bits4 (fun HT_ HW_ => ?_)
      refine inv_at [0, 1, 2, 3, 4, 5, 6, 7, 8] (fun a0_ b a w' => ∃ (ga3 : Nat) (ga5 : Nat) (pa7 : Nat) (m3_ : Value) (m4_ : Value) (m5_ : Value) (m6_ : Value) (m7_ : Value), a = putSel a0_ b [(0, 31, .agg #[.int .i64 3, .int .i64 0, .slice (some ⟨gn, 0, none⟩) 1 1]), (1, 32, .agg #[.int .i64 1, .int .i64 0, .slice none 0 0]), (2, 33, .agg #[.int .i64 s.f0, .int .i64 s.f1, .slice A s.f2.length cp]), (3, 34, m3_), (4, 35, m4_), (5, 36, m5_), (6, 37, m6_), (7, 7, m7_)] ∧ (Below W3.heap.size W3 w') ∧ (b 3 = true → Lay W3 w' ga3 #[.int .i64 1, .int .i64 0, .slice none 0 0, .int .i64 s.f0, .int .i64 s.f1, .slice A s.f2.length cp] 24) ∧ (b 5 = true → Lay W3 w' ga5 #[.int .i64 3, .int .i64 0, .slice (some ⟨gn, 0, none⟩) 1 1, .int .i64 7, .int .i64 0, .slice (some ⟨ga3, 0, none⟩) 2 2] 24) ∧ (b 7 = true → b 8 = false → Lay W3 w' pa7 #[.int .i64 0, .int .i64 0, .slice none 0 0] 24) ∧ (b 8 = true → Lay W3 w' pa7 #[.int .i64 8, .int .i64 0, .slice (some ⟨ga5, 0, none⟩) 2 2] 24) ∧ (b 3 = true → b 7 = true → ga3 ≠ pa7) ∧ (b 5 = true → b 7 = true → ga5 ≠ pa7) ∧ (b 3 = true → (m3_ : Value) = .slice (some ⟨ga3, 0, none⟩) 2 2) ∧ (b 4 = true → (m4_ : Value) = .agg #[.int .i64 7, .int .i64 0, .slice (some ⟨ga3, 0, none⟩) 2 2]) ∧ (b 5 = true → (m5_ : Value) = .slice (some ⟨ga5, 0, none⟩) 2 2) ∧ (b 6 = true → (m6_ : Value) = .agg #[.int .i64 8, .int .i64 0, .slice (some ⟨ga5, 0, none⟩) 2 2]) ∧ (b 7 = true → (m7_ : Value) = .pointer (some ⟨pa7, 0, none⟩))) HT_.out HW_.out (by kernel_rfl) (by kernel_rfl) ?_ ?_ ?_
      · exact ⟨0, 0, 0, .bool false, .bool false, .bool false, .bool false, .bool false, by simp only [putSel, Bool.false_eq_true, if_false], BW.out, fun h_ => absurd h_ (by decide), fun h_ => absurd h_ (by decide), fun h_ => absurd h_ (by decide), fun h_ => absurd h_ (by decide), fun h_ => absurd h_ (by decide), fun h_ => absurd h_ (by decide), fun h_ => absurd h_ (by decide), fun h_ => absurd h_ (by decide), fun h_ => absurd h_ (by decide), fun h_ => absurd h_ (by decide), fun h_ => absurd h_ (by decide)⟩
      · skip
        clear BW
        refine steps_cons ?_ ?_
        · rintro b a w' ⟨ga3, ga5, pa7, m3_, m4_, m5_, m6_, m7_, ha, Q_BW, Q_Ra3, Q_Ra5, Q_Pa7, Q_Sa7, Q_Na3_7, Q_Na5_7, Q_X3_, Q_X4_, Q_X5_, Q_X6_, Q_X7_⟩ hb_ hon hoff
          refine ⟨_, rfl, fun K hK => ?_⟩
          have e6 : a.tmps[6]? = some (.pointer (some ⟨pn, 0, none⟩)) := by rw [ha]; exact (putSel_off rfl).trans rfl
          replace ha := Aside0.mk ha
          have BW := Aside0.mk Q_BW
          have hk_ := (BW.out.block _ (blk_lt HN3.out)).trans HN3.out
          have q0_ := (blk_cell hk_ 0).trans rfl
          have q1_ := (blk_cell hk_ 1).trans rfl
          have q2_ := (blk_cell hk_ 2).trans rfl
          refine value_ (w1 := w') (v := .agg #[.int .i64 3, .int .i64 0, .slice (some ⟨gn, 0, none⟩) 1 1]) (by rfl) rfl ?_ ?_
          · go_simp
            (try simp only [i64_w])
            try rfl
          refine hK.out _ _ ⟨ga3, ga5, pa7, m3_, m4_, m5_, m6_, m7_, (by rw [ha.out]; exact putSel_upk 0 hb_ rfl rfl rfl), Q_BW, Q_Ra3, fun h0_ => absurd ((hoff 5 (by kernel_rfl)).symm.trans h0_) (by decide), Q_Pa7, fun h0_ => absurd ((hoff 8 (by kernel_rfl)).symm.trans h0_) (by decide), Q_Na3_7, fun h0_ _ => absurd ((hoff 5 (by kernel_rfl)).symm.trans h0_) (by decide), Q_X3_, Q_X4_, fun h0_ => absurd ((hoff 5 (by kernel_rfl)).symm.trans h0_) (by decide), fun h0_ => absurd ((hoff 6 (by kernel_rfl)).symm.trans h0_) (by decide), Q_X7_⟩
        refine steps_cons ?_ ?_
        · rintro b a w' ⟨ga3, ga5, pa7, m3_, m4_, m5_, m6_, m7_, ha, Q_BW, Q_Ra3, Q_Ra5, Q_Pa7, Q_Sa7, Q_Na3_7, Q_Na5_7, Q_X3_, Q_X4_, Q_X5_, Q_X6_, Q_X7_⟩ hb_ hon hoff
          refine ⟨_, rfl, fun K hK => ?_⟩
          have e5 : a.tmps[5]? = some (.pointer (some ⟨py, 0, none⟩)) := by rw [ha]; exact (putSel_off rfl).trans rfl
          replace ha := Aside0.mk ha
          have BW := Aside0.mk Q_BW
          have hk_ := (BW.out.block _ (blk_lt HY3.out)).trans HY3.out
          have q0_ := (blk_cell hk_ 0).trans rfl
          have q1_ := (blk_cell hk_ 1).trans rfl
          have q2_ := (blk_cell hk_ 2).trans rfl
          refine value_ (w1 := w') (v := .agg #[.int .i64 1, .int .i64 0, .slice none 0 0]) (by rfl) rfl ?_ ?_
          · go_simp
            (try simp only [i64_w])
            try rfl
          refine hK.out _ _ ⟨ga3, ga5, pa7, m3_, m4_, m5_, m6_, m7_, (by rw [ha.out]; exact putSel_upk 1 hb_ rfl rfl rfl), Q_BW, fun h0_ => absurd ((hoff 3 (by kernel_rfl)).symm.trans h0_) (by decide), fun h0_ => absurd ((hoff 5 (by kernel_rfl)).symm.trans h0_) (by decide), Q_Pa7, fun h0_ => absurd ((hoff 8 (by kernel_rfl)).symm.trans h0_) (by decide), fun h0_ _ => absurd ((hoff 3 (by kernel_rfl)).symm.trans h0_) (by decide), fun h0_ _ => absurd ((hoff 5 (by kernel_rfl)).symm.trans h0_) (by decide), fun h0_ => absurd ((hoff 3 (by kernel_rfl)).symm.trans h0_) (by decide), fun h0_ => absurd ((hoff 4 (by kernel_rfl)).symm.trans h0_) (by decide), fun h0_ => absurd ((hoff 5 (by kernel_rfl)).symm.trans h0_) (by decide), fun h0_ => absurd ((hoff 6 (by kernel_rfl)).symm.trans h0_) (by decide), Q_X7_⟩
        refine steps_cons ?_ ?_
        · rintro b a w' ⟨ga3, ga5, pa7, m3_, m4_, m5_, m6_, m7_, ha, Q_BW, Q_Ra3, Q_Ra5, Q_Pa7, Q_Sa7, Q_Na3_7, Q_Na5_7, Q_X3_, Q_X4_, Q_X5_, Q_X6_, Q_X7_⟩ hb_ hon hoff
          refine ⟨_, rfl, fun K hK => ?_⟩
          have e2 : a.tmps[2]? = some (.pointer (some ⟨w.heap.size, 0, none⟩)) := by rw [ha]; exact (putSel_off rfl).trans rfl
          replace ha := Aside0.mk ha
          have BW := Aside0.mk Q_BW
          have hk_ := (BW.out.block _ (blk_lt HF3.out)).trans HF3.out
          have q0_ := (blk_cell hk_ 0).trans rfl
          have q1_ := (blk_cell hk_ 1).trans rfl
          have q2_ := (blk_cell hk_ 2).trans rfl
          refine value_ (w1 := w') (v := .agg #[.int .i64 s.f0, .int .i64 s.f1, .slice A s.f2.length cp]) (by rfl) rfl ?_ ?_
          · go_simp
            (try simp only [i64_w])
            try rfl
          refine hK.out _ _ ⟨ga3, ga5, pa7, m3_, m4_, m5_, m6_, m7_, (by rw [ha.out]; exact putSel_upk 2 hb_ rfl rfl rfl), Q_BW, fun h0_ => absurd ((hoff 3 (by kernel_rfl)).symm.trans h0_) (by decide), fun h0_ => absurd ((hoff 5 (by kernel_rfl)).symm.trans h0_) (by decide), Q_Pa7, fun h0_ => absurd ((hoff 8 (by kernel_rfl)).symm.trans h0_) (by decide), fun h0_ _ => absurd ((hoff 3 (by kernel_rfl)).symm.trans h0_) (by decide), fun h0_ _ => absurd ((hoff 5 (by kernel_rfl)).symm.trans h0_) (by decide), fun h0_ => absurd ((hoff 3 (by kernel_rfl)).symm.trans h0_) (by decide), fun h0_ => absurd ((hoff 4 (by kernel_rfl)).symm.trans h0_) (by decide), fun h0_ => absurd ((hoff 5 (by kernel_rfl)).symm.trans h0_) (by decide), fun h0_ => absurd ((hoff 6 (by kernel_rfl)).symm.trans h0_) (by decide), Q_X7_⟩
        refine steps_cons ?_ ?_
        · rintro b a w' ⟨ga3, ga5, pa7, m3_, m4_, m5_, m6_, m7_, ha, Q_BW, Q_Ra3, Q_Ra5, Q_Pa7, Q_Sa7, Q_Na3_7, Q_Na5_7, Q_X3_, Q_X4_, Q_X5_, Q_X6_, Q_X7_⟩ hb_ hon hoff
          refine ⟨_, rfl, fun K hK => ?_⟩
          have e32 : a.tmps[32]? = some (.agg #[.int .i64 1, .int .i64 0, .slice none 0 0]) := by rw [ha]; exact putSel_on (e := (1, 32, .agg #[.int .i64 1, .int .i64 0, .slice none 0 0])) 1 rfl rfl (hon 1 (by kernel_rfl)) rfl
          have e33 : a.tmps[33]? = some (.agg #[.int .i64 s.f0, .int .i64 s.f1, .slice A s.f2.length cp]) := by rw [ha]; exact putSel_on (e := (2, 33, .agg #[.int .i64 s.f0, .int .i64 s.f1, .slice A s.f2.length cp])) 2 rfl rfl (hon 2 (by kernel_rfl)) rfl
          replace ha := Aside0.mk ha
          have BW := Aside0.mk Q_BW
          refine value_ (w1 := w'.alloc (.cells #[.int .i64 1, .int .i64 0, .slice none 0 0, .int .i64 s.f0, .int .i64 s.f1, .slice A s.f2.length cp] 24)) (v := .slice (some ⟨w'.heap.size, 0, none⟩) 2 2) (by rfl) rfl ?_ ?_
          · (go_simp; try rfl)
          refine hK.out _ _ ⟨w'.heap.size, ga5, pa7, (.slice (some ⟨w'.heap.size, 0, none⟩) 2 2), m4_, m5_, m6_, m7_, (by rw [ha.out]; exact putSel_upk 3 hb_ rfl rfl rfl), below_alloc BW.out _, fun _ => Lay.new BW.out _ _, fun h0_ => absurd ((hoff 5 (by kernel_rfl)).symm.trans h0_) (by decide), fun h0_ h1_ => (Q_Pa7 h0_ h1_).alloc _, fun h0_ => absurd ((hoff 8 (by kernel_rfl)).symm.trans h0_) (by decide), fun _ h_ => (Q_Pa7 h_ (hoff 8 (by kernel_rfl))).ne_new, fun h0_ _ => absurd ((hoff 5 (by kernel_rfl)).symm.trans h0_) (by decide), fun _ => rfl, fun h0_ => absurd ((hoff 4 (by kernel_rfl)).symm.trans h0_) (by decide), fun h0_ => absurd ((hoff 5 (by kernel_rfl)).symm.trans h0_) (by decide), fun h0_ => absurd ((hoff 6 (by kernel_rfl)).symm.trans h0_) (by decide), Q_X7_⟩
        refine steps_cons ?_ ?_
        · rintro b a w' ⟨ga3, ga5, pa7, m3_, m4_, m5_, m6_, m7_, ha, Q_BW, Q_Ra3, Q_Ra5, Q_Pa7, Q_Sa7, Q_Na3_7, Q_Na5_7, Q_X3_, Q_X4_, Q_X5_, Q_X6_, Q_X7_⟩ hb_ hon hoff
          refine ⟨_, rfl, fun K hK => ?_⟩
          have e34 : a.tmps[34]? = some (m3_) := by rw [ha]; exact putSel_on (e := (3, 34, m3_)) 3 rfl rfl (hon 3 (by kernel_rfl)) rfl
          rw [Q_X3_ (hon 3 (by kernel_rfl))] at e34
          replace ha := Aside0.mk ha
          have BW := Aside0.mk Q_BW
          have Ra3 := Aside0.mk (Q_Ra3 (hon 3 (by kernel_rfl)))
          refine goes_ Tryd.func12 (by kernel_rfl) rfl #[.int .i64 7, .slice (some ⟨ga3, 0, none⟩) 2 2] (by rfl) rfl rfl (by first | (simp only [List.map_toArray, List.map_cons, List.map_nil, Act.eval, Array.getD_eq_getD_getElem?, Option.getD_some, e34]; done) | (simp only [List.map_toArray, List.map_cons, List.map_nil, Act.eval, Array.getD_eq_getD_getElem?, Option.getD_some, e34]; rfl)) ?_
          with_reducible refine (op_calls _ _ _ _ _).mono ?_
          rintro e_ w1 ⟨rfl, hB⟩
          refine ⟨_, rfl, ?_⟩
          refine hK.out _ _ ⟨ga3, ga5, pa7, m3_, (.agg #[.int .i64 7, .int .i64 0, .slice (some ⟨ga3, 0, none⟩) 2 2]), m5_, m6_, m7_, (by rw [ha.out]; exact putSel_upk 4 hb_ rfl rfl rfl), BW.out.trans (hB.mono BW.out.size), fun _ => Ra3.out.below hB, fun h0_ => absurd ((hoff 5 (by kernel_rfl)).symm.trans h0_) (by decide), fun h0_ h1_ => (Q_Pa7 h0_ h1_).below hB, fun h0_ => absurd ((hoff 8 (by kernel_rfl)).symm.trans h0_) (by decide), Q_Na3_7, fun h0_ _ => absurd ((hoff 5 (by kernel_rfl)).symm.trans h0_) (by decide), Q_X3_, fun _ => rfl, fun h0_ => absurd ((hoff 5 (by kernel_rfl)).symm.trans h0_) (by decide), fun h0_ => absurd ((hoff 6 (by kernel_rfl)).symm.trans h0_) (by decide), Q_X7_⟩
        refine steps_cons ?_ ?_
        · rintro b a w' ⟨ga3, ga5, pa7, m3_, m4_, m5_, m6_, m7_, ha, Q_BW, Q_Ra3, Q_Ra5, Q_Pa7, Q_Sa7, Q_Na3_7, Q_Na5_7, Q_X3_, Q_X4_, Q_X5_, Q_X6_, Q_X7_⟩ hb_ hon hoff
          refine ⟨_, rfl, fun K hK => ?_⟩
          have e31 : a.tmps[31]? = some (.agg #[.int .i64 3, .int .i64 0, .slice (some ⟨gn, 0, none⟩) 1 1]) := by rw [ha]; exact putSel_on (e := (0, 31, .agg #[.int .i64 3, .int .i64 0, .slice (some ⟨gn, 0, none⟩) 1 1])) 0 rfl rfl (hon 0 (by kernel_rfl)) rfl
          have e35 : a.tmps[35]? = some (m4_) := by rw [ha]; exact putSel_on (e := (4, 35, m4_)) 4 rfl rfl (hon 4 (by kernel_rfl)) rfl
          rw [Q_X4_ (hon 4 (by kernel_rfl))] at e35
          replace ha := Aside0.mk ha
          have BW := Aside0.mk Q_BW
          have Ra3 := Aside0.mk (Q_Ra3 (hon 3 (by kernel_rfl)))
          refine value_ (w1 := w'.alloc (.cells #[.int .i64 3, .int .i64 0, .slice (some ⟨gn, 0, none⟩) 1 1, .int .i64 7, .int .i64 0, .slice (some ⟨ga3, 0, none⟩) 2 2] 24)) (v := .slice (some ⟨w'.heap.size, 0, none⟩) 2 2) (by rfl) rfl ?_ ?_
          · (go_simp; try rfl)
          refine hK.out _ _ ⟨ga3, w'.heap.size, pa7, m3_, m4_, (.slice (some ⟨w'.heap.size, 0, none⟩) 2 2), m6_, m7_, (by rw [ha.out]; exact putSel_upk 5 hb_ rfl rfl rfl), below_alloc BW.out _, fun _ => Ra3.out.alloc _, fun _ => Lay.new BW.out _ _, fun h0_ h1_ => (Q_Pa7 h0_ h1_).alloc _, fun h0_ => absurd ((hoff 8 (by kernel_rfl)).symm.trans h0_) (by decide), Q_Na3_7, fun _ h_ => (Q_Pa7 h_ (hoff 8 (by kernel_rfl))).ne_new, Q_X3_, Q_X4_, fun _ => rfl, fun h0_ => absurd ((hoff 6 (by kernel_rfl)).symm.trans h0_) (by decide), Q_X7_⟩
        refine steps_cons ?_ ?_
        · rintro b a w' ⟨ga3, ga5, pa7, m3_, m4_, m5_, m6_, m7_, ha, Q_BW, Q_Ra3, Q_Ra5, Q_Pa7, Q_Sa7, Q_Na3_7, Q_Na5_7, Q_X3_, Q_X4_, Q_X5_, Q_X6_, Q_X7_⟩ hb_ hon hoff
          refine ⟨_, rfl, fun K hK => ?_⟩
          have e36 : a.tmps[36]? = some (m5_) := by rw [ha]; exact putSel_on (e := (5, 36, m5_)) 5 rfl rfl (hon 5 (by kernel_rfl)) rfl
          rw [Q_X5_ (hon 5 (by kernel_rfl))] at e36
          replace ha := Aside0.mk ha
          have BW := Aside0.mk Q_BW
          have Ra3 := Aside0.mk (Q_Ra3 (hon 3 (by kernel_rfl)))
          have Ra5 := Aside0.mk (Q_Ra5 (hon 5 (by kernel_rfl)))
          refine goes_ Tryd.func12 (by kernel_rfl) rfl #[.int .i64 8, .slice (some ⟨ga5, 0, none⟩) 2 2] (by rfl) rfl rfl (by first | (simp only [List.map_toArray, List.map_cons, List.map_nil, Act.eval, Array.getD_eq_getD_getElem?, Option.getD_some, e36]; done) | (simp only [List.map_toArray, List.map_cons, List.map_nil, Act.eval, Array.getD_eq_getD_getElem?, Option.getD_some, e36]; rfl)) ?_
          with_reducible refine (op_calls _ _ _ _ _).mono ?_
          rintro e_ w1 ⟨rfl, hB⟩
          refine ⟨_, rfl, ?_⟩
          refine hK.out _ _ ⟨ga3, ga5, pa7, m3_, m4_, m5_, (.agg #[.int .i64 8, .int .i64 0, .slice (some ⟨ga5, 0, none⟩) 2 2]), m7_, (by rw [ha.out]; exact putSel_upk 6 hb_ rfl rfl rfl), BW.out.trans (hB.mono BW.out.size), fun _ => Ra3.out.below hB, fun _ => Ra5.out.below hB, fun h0_ h1_ => (Q_Pa7 h0_ h1_).below hB, fun h0_ => absurd ((hoff 8 (by kernel_rfl)).symm.trans h0_) (by decide), Q_Na3_7, Q_Na5_7, Q_X3_, Q_X4_, Q_X5_, fun _ => rfl, Q_X7_⟩
        refine steps_cons ?_ ?_
        · rintro b a w' ⟨ga3, ga5, pa7, m3_, m4_, m5_, m6_, m7_, ha, Q_BW, Q_Ra3, Q_Ra5, Q_Pa7, Q_Sa7, Q_Na3_7, Q_Na5_7, Q_X3_, Q_X4_, Q_X5_, Q_X6_, Q_X7_⟩ hb_ hon hoff
          refine ⟨_, rfl, fun K hK => ?_⟩
          replace ha := Aside0.mk ha
          have BW := Aside0.mk Q_BW
          refine value_ (w1 := w'.alloc (.cells #[.int .i64 0, .int .i64 0, .slice none 0 0] 24)) (v := .pointer (some ⟨w'.heap.size, 0, none⟩)) (by rfl) rfl ?_ ?_
          · (go_simp; try rfl)
          refine hK.out _ _ ⟨ga3, ga5, w'.heap.size, m3_, m4_, m5_, m6_, (.pointer (some ⟨w'.heap.size, 0, none⟩)), (by rw [ha.out]; exact putSel_upk 7 hb_ rfl rfl rfl), below_alloc BW.out _, fun h0_ => (Q_Ra3 h0_).alloc _, fun h0_ => (Q_Ra5 h0_).alloc _, fun _ _ => Lay.new BW.out _ _, fun h0_ => absurd ((hoff 8 (by kernel_rfl)).symm.trans h0_) (by decide), fun h_ _ => (Q_Ra3 h_).ne_new.symm, fun h_ _ => (Q_Ra5 h_).ne_new.symm, Q_X3_, Q_X4_, Q_X5_, Q_X6_, fun _ => rfl⟩
        refine steps_cons ?_ ?_
        · rintro b a w' ⟨ga3, ga5, pa7, m3_, m4_, m5_, m6_, m7_, ha, Q_BW, Q_Ra3, Q_Ra5, Q_Pa7, Q_Sa7, Q_Na3_7, Q_Na5_7, Q_X3_, Q_X4_, Q_X5_, Q_X6_, Q_X7_⟩ hb_ hon hoff
          refine ⟨_, rfl, fun K hK => ?_⟩
          have e7 : a.tmps[7]? = some (m7_) := by rw [ha]; exact putSel_on (e := (7, 7, m7_)) 7 rfl rfl (hon 7 (by kernel_rfl)) rfl
          rw [Q_X7_ (hon 7 (by kernel_rfl))] at e7
          have e37 : a.tmps[37]? = some (m6_) := by rw [ha]; exact putSel_on (e := (6, 37, m6_)) 6 rfl rfl (hon 6 (by kernel_rfl)) rfl
          rw [Q_X6_ (hon 6 (by kernel_rfl))] at e37
          replace ha := Aside0.mk ha
          have BW := Aside0.mk Q_BW
          have Ra3 := Aside0.mk (Q_Ra3 (hon 3 (by kernel_rfl)))
          have Ra5 := Aside0.mk (Q_Ra5 (hon 5 (by kernel_rfl)))
          have Pa7 := Aside0.mk (Q_Pa7 (hon 7 (by kernel_rfl)) hb_)
          have Na3_7 := Aside0.mk (Q_Na3_7 (hon 3 (by kernel_rfl)) (hon 7 (by kernel_rfl)))
          have Na5_7 := Aside0.mk (Q_Na5_7 (hon 5 (by kernel_rfl)) (hon 7 (by kernel_rfl)))
          have z0_ := (blk_cell Pa7.out.2 0).trans rfl
          have z1_ := (blk_cell Pa7.out.2 1).trans rfl
          have z2_ := (blk_cell Pa7.out.2 2).trans rfl
          have f0_ := blk_frozen Pa7.out.2 0
          have f1_ := blk_frozen Pa7.out.2 1
          have f2_ := blk_frozen Pa7.out.2 2
          refine skip_ (w1 := put3 w' pa7 (.int .i64 8) (.int .i64 0) (.slice (some ⟨ga5, 0, none⟩) 2 2)) (by rfl) rfl ?_ ?_
          · (unfold put3; go_simp; try rfl)
          refine hK.out _ _ ⟨ga3, ga5, pa7, m3_, m4_, m5_, m6_, m7_, (by rw [ha.out]; exact putSel_none (v := undef) rfl), below_put3 BW.out Pa7.out.1 _ _ _, fun _ => Ra3.out.far3 Na3_7.out _ _ _, fun _ => Ra5.out.far3 Na5_7.out _ _ _, fun _ h1_ => absurd ((up_self b 8).symm.trans h1_) (by decide), fun _ => Pa7.out.put3 _ _ _, Q_Na3_7, Q_Na5_7, Q_X3_, Q_X4_, Q_X5_, Q_X6_, Q_X7_⟩
        exact steps_nil
      · rintro b a w' hall ⟨ga3, ga5, pa7, m3_, m4_, m5_, m6_, m7_, ha, Q_BW, Q_Ra3, Q_Ra5, Q_Pa7, Q_Sa7, Q_Na3_7, Q_Na5_7, Q_X3_, Q_X4_, Q_X5_, Q_X6_, Q_X7_⟩
        clear BW
        have hb0_ := hall 0 (by kernel_rfl)
        have hb1_ := hall 1 (by kernel_rfl)
        have hb2_ := hall 2 (by kernel_rfl)
        have hb3_ := hall 3 (by kernel_rfl)
        have hb4_ := hall 4 (by kernel_rfl)
        have hb5_ := hall 5 (by kernel_rfl)
        have hb6_ := hall 6 (by kernel_rfl)
        have hb7_ := hall 7 (by kernel_rfl)
        have hb8_ := hall 8 (by kernel_rfl)
        subst ha
        obtain rfl := Q_X3_ hb3_
        obtain rfl := Q_X4_ hb4_
        obtain rfl := Q_X5_ hb5_
        obtain rfl := Q_X6_ hb6_
        obtain rfl := Q_X7_ hb7_
        simp only [putSel, hb0_, hb1_, hb2_, hb3_, hb4_, hb5_, hb6_, hb7_, hb8_, if_true, Act.put, List.setIfInBounds_toArray, List.set_cons_zero, List.set_cons_succ]
        have BW := Aside0.mk Q_BW
        clear Q_BW
        have Ra3 := Aside0.mk (Q_Ra3 hb3_)
        clear Q_Ra3
        have Ra5 := Aside0.mk (Q_Ra5 hb5_)
        clear Q_Ra5
        clear Q_Pa7
        have Sa7 := Aside0.mk (Q_Sa7 hb8_)
        clear Q_Sa7
        have Na3_7 := Aside0.mk (Q_Na3_7 hb3_ hb7_)
        clear Q_Na3_7
        have Na5_7 := Aside0.mk (Q_Na5_7 hb5_ hb7_)
        clear Q_Na5_7
        clear hall hb0_ hb1_ hb2_ hb3_ hb4_ hb5_ hb6_ hb7_ hb8_
        obtain ⟨W4, rfl⟩ : ∃ W : World, W = w' := ⟨_, rfl⟩
        have HBW4 := BW
        clear BW
        have HB4 := Aside0.mk (HB3.out.trans (HBW4.out.mono HB3.out.size))
        have HF4 := Aside0.mk ((HBW4.out.block _ (blk_lt HF3.out)).trans HF3.out)
        have HL4 := Aside0.mk ((HBW4.out.block _ (blk_lt HL3.out)).trans HL3.out)
        have HY4 := Aside0.mk ((HBW4.out.block _ (blk_lt HY3.out)).trans HY3.out)
        have HN4 := Aside0.mk ((HBW4.out.block _ (blk_lt HN3.out)).trans HN3.out)
        have HA4 := Aside0.mk Sa7.out.2
        have CN4 := Aside0.mk (Kd.C_below CN3.out HBW4.out)
        have ca3 := C_of2 (a := yesS) (b := s) (A := none) (ca := 0) Ra3.out.2 (Kd.C_nil _ _) (Nat.le_refl _) (Kd.C_below HKs.out HB4.out) hc
        have CA4 := Aside0.mk (C_of2 (a := noS) (b := ⟨7, 0, [yesS, s]⟩) Ra5.out.2 CN4.out (Nat.le_refl _) ca3 (Nat.le_refl _))
        clear ca3 Ra3 Ra5 Sa7 CN3
        go_upto_region 5 with fail
        have BW := Aside0.mk (below_drew1 (Below.refl W4.heap.size W4))
        refine start_ (n := 9) (S := fun w' => True) (ds := []) #[false, false, false, false, false, false, false, false, false] (by kernel_rfl) rfl rfl trivial (fun hHeld => ?_)
        refine with_tabW fag.tab5 fag.bits5 (fun HT_ HW_ => ?_)
        refine inv_at [0, 1, 2, 3, 4, 5, 6, 7, 8] (fun a0_ b a w' => ∃ (gb3 : Nat) (gb5 : Nat) (pb7 : Nat) (m3_ : Value) (m4_ : Value) (m5_ : Value) (m6_ : Value) (m7_ : Value), a = putSel a0_ b [(0, 38, .agg #[.int .i64 1, .int .i64 0, .slice none 0 0]), (1, 39, .agg #[.int .i64 3, .int .i64 0, .slice (some ⟨gn, 0, none⟩) 1 1]), (2, 40, .agg #[.int .i64 s.f0, .int .i64 s.f1, .slice A s.f2.length cp]), (3, 41, m3_), (4, 42, m4_), (5, 43, m5_), (6, 44, m6_), (7, 8, m7_)] ∧ (Below W4.heap.size W4 w') ∧ (b 3 = true → Lay W4 w' gb3 #[.int .i64 3, .int .i64 0, .slice (some ⟨gn, 0, none⟩) 1 1, .int .i64 s.f0, .int .i64 s.f1, .slice A s.f2.length cp] 24) ∧ (b 5 = true → Lay W4 w' gb5 #[.int .i64 1, .int .i64 0, .slice none 0 0, .int .i64 8, .int .i64 0, .slice (some ⟨gb3, 0, none⟩) 2 2] 24) ∧ (b 7 = true → b 8 = false → Lay W4 w' pb7 #[.int .i64 0, .int .i64 0, .slice none 0 0] 24) ∧ (b 8 = true → Lay W4 w' pb7 #[.int .i64 7, .int .i64 0, .slice (some ⟨gb5, 0, none⟩) 2 2] 24) ∧ (b 3 = true → b 7 = true → gb3 ≠ pb7) ∧ (b 5 = true → b 7 = true → gb5 ≠ pb7) ∧ (b 3 = true → (m3_ : Value) = .slice (some ⟨gb3, 0, none⟩) 2 2) ∧ (b 4 = true → (m4_ : Value) = .agg #[.int .i64 8, .int .i64 0, .slice (some ⟨gb3, 0, none⟩) 2 2]) ∧ (b 5 = true → (m5_ : Value) = .slice (some ⟨gb5, 0, none⟩) 2 2) ∧ (b 6 = true → (m6_ : Value) = .agg #[.int .i64 7, .int .i64 0, .slice (some ⟨gb5, 0, none⟩) 2 2]) ∧ (b 7 = true → (m7_ : Value) = .pointer (some ⟨pb7, 0, none⟩))) HT_.out HW_.out (by kernel_rfl) (by kernel_rfl) ?_ ?_ ?_
        · exact ⟨0, 0, 0, .bool false, .bool false, .bool false, .bool false, .bool false, by simp only [putSel, Bool.false_eq_true, if_false], BW.out, fun h_ => absurd h_ (by decide), fun h_ => absurd h_ (by decide), fun h_ => absurd h_ (by decide), fun h_ => absurd h_ (by decide), fun h_ => absurd h_ (by decide), fun h_ => absurd h_ (by decide), fun h_ => absurd h_ (by decide), fun h_ => absurd h_ (by decide), fun h_ => absurd h_ (by decide), fun h_ => absurd h_ (by decide), fun h_ => absurd h_ (by decide)⟩
        · skip
          clear BW
          refine steps_cons ?_ ?_
          · rintro b a w' ⟨gb3, gb5, pb7, m3_, m4_, m5_, m6_, m7_, ha, Q_BW, Q_Rb3, Q_Rb5, Q_Pb7, Q_Sb7, Q_Nb3_7, Q_Nb5_7, Q_X3_, Q_X4_, Q_X5_, Q_X6_, Q_X7_⟩ hb_ hon hoff
            refine ⟨_, rfl, fun K hK => ?_⟩
            have e5 : a.tmps[5]? = some (.pointer (some ⟨py, 0, none⟩)) := by rw [ha]; exact (putSel_off rfl).trans rfl
            replace ha := Aside0.mk ha
            have BW := Aside0.mk Q_BW
            have hk_ := (BW.out.block _ (blk_lt HY4.out)).trans HY4.out
            have q0_ := (blk_cell hk_ 0).trans rfl
            have q1_ := (blk_cell hk_ 1).trans rfl
            have q2_ := (blk_cell hk_ 2).trans rfl
            refine value_ (w1 := w') (v := .agg #[.int .i64 1, .int .i64 0, .slice none 0 0]) (by rfl) rfl ?_ ?_
            · go_simp
              (try simp only [i64_w])
              try rfl
            refine hK.out _ _ ⟨gb3, gb5, pb7, m3_, m4_, m5_, m6_, m7_, (by rw [ha.out]; exact putSel_upk 0 hb_ rfl rfl rfl), Q_BW, Q_Rb3, fun h0_ => absurd ((hoff 5 (by kernel_rfl)).symm.trans h0_) (by decide), Q_Pb7, fun h0_ => absurd ((hoff 8 (by kernel_rfl)).symm.trans h0_) (by decide), Q_Nb3_7, fun h0_ _ => absurd ((hoff 5 (by kernel_rfl)).symm.trans h0_) (by decide), Q_X3_, Q_X4_, fun h0_ => absurd ((hoff 5 (by kernel_rfl)).symm.trans h0_) (by decide), fun h0_ => absurd ((hoff 6 (by kernel_rfl)).symm.trans h0_) (by decide), Q_X7_⟩
          refine steps_cons ?_ ?_
          · rintro b a w' ⟨gb3, gb5, pb7, m3_, m4_, m5_, m6_, m7_, ha, Q_BW, Q_Rb3, Q_Rb5, Q_Pb7, Q_Sb7, Q_Nb3_7, Q_Nb5_7, Q_X3_, Q_X4_, Q_X5_, Q_X6_, Q_X7_⟩ hb_ hon hoff
            refine ⟨_, rfl, fun K hK => ?_⟩
            have e6 : a.tmps[6]? = some (.pointer (some ⟨pn, 0, none⟩)) := by rw [ha]; exact (putSel_off rfl).trans rfl
            replace ha := Aside0.mk ha
            have BW := Aside0.mk Q_BW
            have hk_ := (BW.out.block _ (blk_lt HN4.out)).trans HN4.out
            have q0_ := (blk_cell hk_ 0).trans rfl
            have q1_ := (blk_cell hk_ 1).trans rfl
            have q2_ := (blk_cell hk_ 2).trans rfl
            refine value_ (w1 := w') (v := .agg #[.int .i64 3, .int .i64 0, .slice (some ⟨gn, 0, none⟩) 1 1]) (by rfl) rfl ?_ ?_
            · go_simp
              (try simp only [i64_w])
              try rfl
            refine hK.out _ _ ⟨gb3, gb5, pb7, m3_, m4_, m5_, m6_, m7_, (by rw [ha.out]; exact putSel_upk 1 hb_ rfl rfl rfl), Q_BW, fun h0_ => absurd ((hoff 3 (by kernel_rfl)).symm.trans h0_) (by decide), fun h0_ => absurd ((hoff 5 (by kernel_rfl)).symm.trans h0_) (by decide), Q_Pb7, fun h0_ => absurd ((hoff 8 (by kernel_rfl)).symm.trans h0_) (by decide), fun h0_ _ => absurd ((hoff 3 (by kernel_rfl)).symm.trans h0_) (by decide), fun h0_ _ => absurd ((hoff 5 (by kernel_rfl)).symm.trans h0_) (by decide), fun h0_ => absurd ((hoff 3 (by kernel_rfl)).symm.trans h0_) (by decide), fun h0_ => absurd ((hoff 4 (by kernel_rfl)).symm.trans h0_) (by decide), fun h0_ => absurd ((hoff 5 (by kernel_rfl)).symm.trans h0_) (by decide), fun h0_ => absurd ((hoff 6 (by kernel_rfl)).symm.trans h0_) (by decide), Q_X7_⟩
          refine steps_cons ?_ ?_
          · rintro b a w' ⟨gb3, gb5, pb7, m3_, m4_, m5_, m6_, m7_, ha, Q_BW, Q_Rb3, Q_Rb5, Q_Pb7, Q_Sb7, Q_Nb3_7, Q_Nb5_7, Q_X3_, Q_X4_, Q_X5_, Q_X6_, Q_X7_⟩ hb_ hon hoff
            refine ⟨_, rfl, fun K hK => ?_⟩
            have e2 : a.tmps[2]? = some (.pointer (some ⟨w.heap.size, 0, none⟩)) := by rw [ha]; exact (putSel_off rfl).trans rfl
            replace ha := Aside0.mk ha
            have BW := Aside0.mk Q_BW
            have hk_ := (BW.out.block _ (blk_lt HF4.out)).trans HF4.out
            have q0_ := (blk_cell hk_ 0).trans rfl
            have q1_ := (blk_cell hk_ 1).trans rfl
            have q2_ := (blk_cell hk_ 2).trans rfl
            refine value_ (w1 := w') (v := .agg #[.int .i64 s.f0, .int .i64 s.f1, .slice A s.f2.length cp]) (by rfl) rfl ?_ ?_
            · go_simp
              (try simp only [i64_w])
              try rfl
            refine hK.out _ _ ⟨gb3, gb5, pb7, m3_, m4_, m5_, m6_, m7_, (by rw [ha.out]; exact putSel_upk 2 hb_ rfl rfl rfl), Q_BW, fun h0_ => absurd ((hoff 3 (by kernel_rfl)).symm.trans h0_) (by decide), fun h0_ => absurd ((hoff 5 (by kernel_rfl)).symm.trans h0_) (by decide), Q_Pb7, fun h0_ => absurd ((hoff 8 (by kernel_rfl)).symm.trans h0_) (by decide), fun h0_ _ => absurd ((hoff 3 (by kernel_rfl)).symm.trans h0_) (by decide), fun h0_ _ => absurd ((hoff 5 (by kernel_rfl)).symm.trans h0_) (by decide), fun h0_ => absurd ((hoff 3 (by kernel_rfl)).symm.trans h0_) (by decide), fun h0_ => absurd ((hoff 4 (by kernel_rfl)).symm.trans h0_) (by decide), fun h0_ => absurd ((hoff 5 (by kernel_rfl)).symm.trans h0_) (by decide), fun h0_ => absurd ((hoff 6 (by kernel_rfl)).symm.trans h0_) (by decide), Q_X7_⟩
          refine steps_cons ?_ ?_
          · rintro b a w' ⟨gb3, gb5, pb7, m3_, m4_, m5_, m6_, m7_, ha, Q_BW, Q_Rb3, Q_Rb5, Q_Pb7, Q_Sb7, Q_Nb3_7, Q_Nb5_7, Q_X3_, Q_X4_, Q_X5_, Q_X6_, Q_X7_⟩ hb_ hon hoff
            refine ⟨_, rfl, fun K hK => ?_⟩
            have e39 : a.tmps[39]? = some (.agg #[.int .i64 3, .int .i64 0, .slice (some ⟨gn, 0, none⟩) 1 1]) := by rw [ha]; exact putSel_on (e := (1, 39, .agg #[.int .i64 3, .int .i64 0, .slice (some ⟨gn, 0, none⟩) 1 1])) 1 rfl rfl (hon 1 (by kernel_rfl)) rfl
            have e40 : a.tmps[40]? = some (.agg #[.int .i64 s.f0, .int .i64 s.f1, .slice A s.f2.length cp]) := by rw [ha]; exact putSel_on (e := (2, 40, .agg #[.int .i64 s.f0, .int .i64 s.f1, .slice A s.f2.length cp])) 2 rfl rfl (hon 2 (by kernel_rfl)) rfl
            replace ha := Aside0.mk ha
            have BW := Aside0.mk Q_BW
            refine value_ (w1 := w'.alloc (.cells #[.int .i64 3, .int .i64 0, .slice (some ⟨gn, 0, none⟩) 1 1, .int .i64 s.f0, .int .i64 s.f1, .slice A s.f2.length cp] 24)) (v := .slice (some ⟨w'.heap.size, 0, none⟩) 2 2) (by rfl) rfl ?_ ?_
            · (go_simp; try rfl)
            refine hK.out _ _ ⟨w'.heap.size, gb5, pb7, (.slice (some ⟨w'.heap.size, 0, none⟩) 2 2), m4_, m5_, m6_, m7_, (by rw [ha.out]; exact putSel_upk 3 hb_ rfl rfl rfl), below_alloc BW.out _, fun _ => Lay.new BW.out _ _, fun h0_ => absurd ((hoff 5 (by kernel_rfl)).symm.trans h0_) (by decide), fun h0_ h1_ => (Q_Pb7 h0_ h1_).alloc _, fun h0_ => absurd ((hoff 8 (by kernel_rfl)).symm.trans h0_) (by decide), fun _ h_ => (Q_Pb7 h_ (hoff 8 (by kernel_rfl))).ne_new, fun h0_ _ => absurd ((hoff 5 (by kernel_rfl)).symm.trans h0_) (by decide), fun _ => rfl, fun h0_ => absurd ((hoff 4 (by kernel_rfl)).symm.trans h0_) (by decide), fun h0_ => absurd ((hoff 5 (by kernel_rfl)).symm.trans h0_) (by decide), fun h0_ => absurd ((hoff 6 (by kernel_rfl)).symm.trans h0_) (by decide), Q_X7_⟩
          refine steps_cons ?_ ?_
          · rintro b a w' ⟨gb3, gb5, pb7, m3_, m4_, m5_, m6_, m7_, ha, Q_BW, Q_Rb3, Q_Rb5, Q_Pb7, Q_Sb7, Q_Nb3_7, Q_Nb5_7, Q_X3_, Q_X4_, Q_X5_, Q_X6_, Q_X7_⟩ hb_ hon hoff
            refine ⟨_, rfl, fun K hK => ?_⟩
            have e41 : a.tmps[41]? = some (m3_) := by rw [ha]; exact putSel_on (e := (3, 41, m3_)) 3 rfl rfl (hon 3 (by kernel_rfl)) rfl
            rw [Q_X3_ (hon 3 (by kernel_rfl))] at e41
            replace ha := Aside0.mk ha
            have BW := Aside0.mk Q_BW
            have Rb3 := Aside0.mk (Q_Rb3 (hon 3 (by kernel_rfl)))
            refine goes_ Tryd.func12 (by kernel_rfl) rfl #[.int .i64 8, .slice (some ⟨gb3, 0, none⟩) 2 2] (by rfl) rfl rfl (by first | (simp only [List.map_toArray, List.map_cons, List.map_nil, Act.eval, Array.getD_eq_getD_getElem?, Option.getD_some, e41]; done) | (simp only [List.map_toArray, List.map_cons, List.map_nil, Act.eval, Array.getD_eq_getD_getElem?, Option.getD_some, e41]; rfl)) ?_
            with_reducible refine (op_calls _ _ _ _ _).mono ?_
            rintro e_ w1 ⟨rfl, hB⟩
            refine ⟨_, rfl, ?_⟩
            refine hK.out _ _ ⟨gb3, gb5, pb7, m3_, (.agg #[.int .i64 8, .int .i64 0, .slice (some ⟨gb3, 0, none⟩) 2 2]), m5_, m6_, m7_, (by rw [ha.out]; exact putSel_upk 4 hb_ rfl rfl rfl), BW.out.trans (hB.mono BW.out.size), fun _ => Rb3.out.below hB, fun h0_ => absurd ((hoff 5 (by kernel_rfl)).symm.trans h0_) (by decide), fun h0_ h1_ => (Q_Pb7 h0_ h1_).below hB, fun h0_ => absurd ((hoff 8 (by kernel_rfl)).symm.trans h0_) (by decide), Q_Nb3_7, fun h0_ _ => absurd ((hoff 5 (by kernel_rfl)).symm.trans h0_) (by decide), Q_X3_, fun _ => rfl, fun h0_ => absurd ((hoff 5 (by kernel_rfl)).symm.trans h0_) (by decide), fun h0_ => absurd ((hoff 6 (by kernel_rfl)).symm.trans h0_) (by decide), Q_X7_⟩
          refine steps_cons ?_ ?_
          · rintro b a w' ⟨gb3, gb5, pb7, m3_, m4_, m5_, m6_, m7_, ha, Q_BW, Q_Rb3, Q_Rb5, Q_Pb7, Q_Sb7, Q_Nb3_7, Q_Nb5_7, Q_X3_, Q_X4_, Q_X5_, Q_X6_, Q_X7_⟩ hb_ hon hoff
            refine ⟨_, rfl, fun K hK => ?_⟩
            have e38 : a.tmps[38]? = some (.agg #[.int .i64 1, .int .i64 0, .slice none 0 0]) := by rw [ha]; exact putSel_on (e := (0, 38, .agg #[.int .i64 1, .int .i64 0, .slice none 0 0])) 0 rfl rfl (hon 0 (by kernel_rfl)) rfl
            have e42 : a.tmps[42]? = some (m4_) := by rw [ha]; exact putSel_on (e := (4, 42, m4_)) 4 rfl rfl (hon 4 (by kernel_rfl)) rfl
            rw [Q_X4_ (hon 4 (by kernel_rfl))] at e42
            replace ha := Aside0.mk ha
            have BW := Aside0.mk Q_BW
            have Rb3 := Aside0.mk (Q_Rb3 (hon 3 (by kernel_rfl)))
            refine value_ (w1 := w'.alloc (.cells #[.int .i64 1, .int .i64 0, .slice none 0 0, .int .i64 8, .int .i64 0, .slice (some ⟨gb3, 0, none⟩) 2 2] 24)) (v := .slice (some ⟨w'.heap.size, 0, none⟩) 2 2) (by rfl) rfl ?_ ?_
            · (go_simp; try rfl)
            refine hK.out _ _ ⟨gb3, w'.heap.size, pb7, m3_, m4_, (.slice (some ⟨w'.heap.size, 0, none⟩) 2 2), m6_, m7_, (by rw [ha.out]; exact putSel_upk 5 hb_ rfl rfl rfl), below_alloc BW.out _, fun _ => Rb3.out.alloc _, fun _ => Lay.new BW.out _ _, fun h0_ h1_ => (Q_Pb7 h0_ h1_).alloc _, fun h0_ => absurd ((hoff 8 (by kernel_rfl)).symm.trans h0_) (by decide), Q_Nb3_7, fun _ h_ => (Q_Pb7 h_ (hoff 8 (by kernel_rfl))).ne_new, Q_X3_, Q_X4_, fun _ => rfl, fun h0_ => absurd ((hoff 6 (by kernel_rfl)).symm.trans h0_) (by decide), Q_X7_⟩
          refine steps_cons ?_ ?_
          · rintro b a w' ⟨gb3, gb5, pb7, m3_, m4_, m5_, m6_, m7_, ha, Q_BW, Q_Rb3, Q_Rb5, Q_Pb7, Q_Sb7, Q_Nb3_7, Q_Nb5_7, Q_X3_, Q_X4_, Q_X5_, Q_X6_, Q_X7_⟩ hb_ hon hoff
            refine ⟨_, rfl, fun K hK => ?_⟩
            have e43 : a.tmps[43]? = some (m5_) := by rw [ha]; exact putSel_on (e := (5, 43, m5_)) 5 rfl rfl (hon 5 (by kernel_rfl)) rfl
            rw [Q_X5_ (hon 5 (by kernel_rfl))] at e43
            replace ha := Aside0.mk ha
            have BW := Aside0.mk Q_BW
            have Rb3 := Aside0.mk (Q_Rb3 (hon 3 (by kernel_rfl)))
            have Rb5 := Aside0.mk (Q_Rb5 (hon 5 (by kernel_rfl)))
            refine goes_ Tryd.func12 (by kernel_rfl) rfl #[.int .i64 7, .slice (some ⟨gb5, 0, none⟩) 2 2] (by rfl) rfl rfl (by first | (simp only [List.map_toArray, List.map_cons, List.map_nil, Act.eval, Array.getD_eq_getD_getElem?, Option.getD_some, e43]; done) | (simp only [List.map_toArray, List.map_cons, List.map_nil, Act.eval, Array.getD_eq_getD_getElem?, Option.getD_some, e43]; rfl)) ?_
            with_reducible refine (op_calls _ _ _ _ _).mono ?_
            rintro e_ w1 ⟨rfl, hB⟩
            refine ⟨_, rfl, ?_⟩
            refine hK.out _ _ ⟨gb3, gb5, pb7, m3_, m4_, m5_, (.agg #[.int .i64 7, .int .i64 0, .slice (some ⟨gb5, 0, none⟩) 2 2]), m7_, (by rw [ha.out]; exact putSel_upk 6 hb_ rfl rfl rfl), BW.out.trans (hB.mono BW.out.size), fun _ => Rb3.out.below hB, fun _ => Rb5.out.below hB, fun h0_ h1_ => (Q_Pb7 h0_ h1_).below hB, fun h0_ => absurd ((hoff 8 (by kernel_rfl)).symm.trans h0_) (by decide), Q_Nb3_7, Q_Nb5_7, Q_X3_, Q_X4_, Q_X5_, fun _ => rfl, Q_X7_⟩
          refine steps_cons ?_ ?_
          · rintro b a w' ⟨gb3, gb5, pb7, m3_, m4_, m5_, m6_, m7_, ha, Q_BW, Q_Rb3, Q_Rb5, Q_Pb7, Q_Sb7, Q_Nb3_7, Q_Nb5_7, Q_X3_, Q_X4_, Q_X5_, Q_X6_, Q_X7_⟩ hb_ hon hoff
            refine ⟨_, rfl, fun K hK => ?_⟩
            replace ha := Aside0.mk ha
            have BW := Aside0.mk Q_BW
            refine value_ (w1 := w'.alloc (.cells #[.int .i64 0, .int .i64 0, .slice none 0 0] 24)) (v := .pointer (some ⟨w'.heap.size, 0, none⟩)) (by rfl) rfl ?_ ?_
            · (go_simp; try rfl)
            refine hK.out _ _ ⟨gb3, gb5, w'.heap.size, m3_, m4_, m5_, m6_, (.pointer (some ⟨w'.heap.size, 0, none⟩)), (by rw [ha.out]; exact putSel_upk 7 hb_ rfl rfl rfl), below_alloc BW.out _, fun h0_ => (Q_Rb3 h0_).alloc _, fun h0_ => (Q_Rb5 h0_).alloc _, fun _ _ => Lay.new BW.out _ _, fun h0_ => absurd ((hoff 8 (by kernel_rfl)).symm.trans h0_) (by decide), fun h_ _ => (Q_Rb3 h_).ne_new.symm, fun h_ _ => (Q_Rb5 h_).ne_new.symm, Q_X3_, Q_X4_, Q_X5_, Q_X6_, fun _ => rfl⟩
          refine steps_cons ?_ ?_
          · rintro b a w' ⟨gb3, gb5, pb7, m3_, m4_, m5_, m6_, m7_, ha, Q_BW, Q_Rb3, Q_Rb5, Q_Pb7, Q_Sb7, Q_Nb3_7, Q_Nb5_7, Q_X3_, Q_X4_, Q_X5_, Q_X6_, Q_X7_⟩ hb_ hon hoff
            refine ⟨_, rfl, fun K hK => ?_⟩
            have e8 : a.tmps[8]? = some (m7_) := by rw [ha]; exact putSel_on (e := (7, 8, m7_)) 7 rfl rfl (hon 7 (by kernel_rfl)) rfl
            rw [Q_X7_ (hon 7 (by kernel_rfl))] at e8
            have e44 : a.tmps[44]? = some (m6_) := by rw [ha]; exact putSel_on (e := (6, 44, m6_)) 6 rfl rfl (hon 6 (by kernel_rfl)) rfl
            rw [Q_X6_ (hon 6 (by kernel_rfl))] at e44
            replace ha := Aside0.mk ha
            have BW := Aside0.mk Q_BW
            have Rb3 := Aside0.mk (Q_Rb3 (hon 3 (by kernel_rfl)))
            have Rb5 := Aside0.mk (Q_Rb5 (hon 5 (by kernel_rfl)))
            have Pb7 := Aside0.mk (Q_Pb7 (hon 7 (by kernel_rfl)) hb_)
            have Nb3_7 := Aside0.mk (Q_Nb3_7 (hon 3 (by kernel_rfl)) (hon 7 (by kernel_rfl)))
            have Nb5_7 := Aside0.mk (Q_Nb5_7 (hon 5 (by kernel_rfl)) (hon 7 (by kernel_rfl)))
            have z0_ := (blk_cell Pb7.out.2 0).trans rfl
            have z1_ := (blk_cell Pb7.out.2 1).trans rfl
            have z2_ := (blk_cell Pb7.out.2 2).trans rfl
            have f0_ := blk_frozen Pb7.out.2 0
            have f1_ := blk_frozen Pb7.out.2 1
            have f2_ := blk_frozen Pb7.out.2 2
            refine skip_ (w1 := put3 w' pb7 (.int .i64 7) (.int .i64 0) (.slice (some ⟨gb5, 0, none⟩) 2 2)) (by rfl) rfl ?_ ?_
            · (unfold put3; go_simp; try rfl)
            refine hK.out _ _ ⟨gb3, gb5, pb7, m3_, m4_, m5_, m6_, m7_, (by rw [ha.out]; exact putSel_none (v := undef) rfl), below_put3 BW.out Pb7.out.1 _ _ _, fun _ => Rb3.out.far3 Nb3_7.out _ _ _, fun _ => Rb5.out.far3 Nb5_7.out _ _ _, fun _ h1_ => absurd ((up_self b 8).symm.trans h1_) (by decide), fun _ => Pb7.out.put3 _ _ _, Q_Nb3_7, Q_Nb5_7, Q_X3_, Q_X4_, Q_X5_, Q_X6_, Q_X7_⟩
          exact steps_nil
        · rintro b a w' hall ⟨gb3, gb5, pb7, m3_, m4_, m5_, m6_, m7_, ha, Q_BW, Q_Rb3, Q_Rb5, Q_Pb7, Q_Sb7, Q_Nb3_7, Q_Nb5_7, Q_X3_, Q_X4_, Q_X5_, Q_X6_, Q_X7_⟩
          clear BW
          have hb0_ := hall 0 (by kernel_rfl)
          have hb1_ := hall 1 (by kernel_rfl)
          have hb2_ := hall 2 (by kernel_rfl)
          have hb3_ := hall 3 (by kernel_rfl)
          have hb4_ := hall 4 (by kernel_rfl)
          have hb5_ := hall 5 (by kernel_rfl)
          have hb6_ := hall 6 (by kernel_rfl)
          have hb7_ := hall 7 (by kernel_rfl)
          have hb8_ := hall 8 (by kernel_rfl)
          subst ha
          obtain rfl := Q_X3_ hb3_
          obtain rfl := Q_X4_ hb4_
          obtain rfl := Q_X5_ hb5_
          obtain rfl := Q_X6_ hb6_
          obtain rfl := Q_X7_ hb7_
          simp only [putSel, hb0_, hb1_, hb2_, hb3_, hb4_, hb5_, hb6_, hb7_, hb8_, if_true, Act.put, List.setIfInBounds_toArray, List.set_cons_zero, List.set_cons_succ]
          have BW := Aside0.mk Q_BW
          clear Q_BW
          have Rb3 := Aside0.mk (Q_Rb3 hb3_)
          clear Q_Rb3
          have Rb5 := Aside0.mk (Q_Rb5 hb5_)
          clear Q_Rb5
          clear Q_Pb7
          have Sb7 := Aside0.mk (Q_Sb7 hb8_)
          clear Q_Sb7
          have Nb3_7 := Aside0.mk (Q_Nb3_7 hb3_ hb7_)
          clear Q_Nb3_7
          have Nb5_7 := Aside0.mk (Q_Nb5_7 hb5_ hb7_)
          clear Q_Nb5_7
          clear hall hb0_ hb1_ hb2_ hb3_ hb4_ hb5_ hb6_ hb7_ hb8_
          obtain ⟨W6, rfl⟩ : ∃ W : World, W = w' := ⟨_, rfl⟩
          have HBW6 := BW
          clear BW
          have HB6 := Aside0.mk (HB4.out.trans (HBW6.out.mono HB4.out.size))
          have HF6 := Aside0.mk ((HBW6.out.block _ (blk_lt HF4.out)).trans HF4.out)
          have HL6 := Aside0.mk ((HBW6.out.block _ (blk_lt HL4.out)).trans HL4.out)
          have HY6 := Aside0.mk ((HBW6.out.block _ (blk_lt HY4.out)).trans HY4.out)
          have HN6 := Aside0.mk ((HBW6.out.block _ (blk_lt HN4.out)).trans HN4.out)
          have HA6 := Aside0.mk ((HBW6.out.block _ (blk_lt HA4.out)).trans HA4.out)
          have HE6 := Aside0.mk Sb7.out.2
          have CN6 := Aside0.mk (Kd.C_below CN4.out HBW6.out)
          have CA6 := Aside0.mk (Kd.C_below CA4.out HBW6.out)
          have cb3 := C_of2 (a := noS) (b := s) Rb3.out.2 CN6.out (Nat.le_refl _) (Kd.C_below HKs.out HB6.out) hc
          have CE6 := Aside0.mk (C_of2 (a := yesS) (b := ⟨8, 0, [noS, s]⟩) (A := none) (ca := 0) Rb5.out.2 (Kd.C_nil _ _) (Nat.le_refl _) cb3 (Nat.le_refl _))
          clear cb3 Rb3 Rb5 Sb7 CN4 CA4 CN6
          have HMA := Aside0.mk (fun W (h : Below W6.heap.size W6 W) => show Calls Tryd.prog 13 #[.agg #[.int .i64 8, .int .i64 0, .slice (some ⟨ga5, 0, none⟩) 2 2]] W _ from May_calls (againS s) _ _ W (Kd.C_below CA6.out h) (Nat.le_refl _))
          have HME := Aside0.mk (fun W (h : Below W6.heap.size W6 W) => show Calls Tryd.prog 13 #[.agg #[.int .i64 7, .int .i64 0, .slice (some ⟨gb5, 0, none⟩) 2 2]] W _ from May_calls (stayS s) _ _ W (Kd.C_below CE6.out h) (Nat.le_refl _))
          have HRF := Aside0.mk (fun W (h : Below W6.heap.size W6 W) => Row_calls s st lp A cp A1 A2 c1 c2 W (Kd.C_below HKs.out (HB6.out.trans (h.mono HB6.out.size))) hc (Kd.C_below HK1.out (HB6.out.trans (h.mono HB6.out.size))) hc1 (Kd.C_below HK2.out (HB6.out.trans (h.mono HB6.out.size))) hc2)
          have HHA := Aside0.mk (fun W (h : Below W6.heap.size W6 W) => show Calls Tryd.prog 17 #[.agg #[.int .i64 8, .int .i64 0, .slice (some ⟨ga5, 0, none⟩) 2 2], .agg #[.slice A1 st.length c1, .slice A2 lp.length c2]] W _ from formula_Holds.calls 8 0 _ _ (againS s).f2 A1 c1 st A2 c2 lp _ W (Kd.C_below CA6.out h) (Nat.le_refl _) (Kd.C_below HK1.out (HB6.out.trans (h.mono HB6.out.size))) hc1 (Kd.C_below HK2.out (HB6.out.trans (h.mono HB6.out.size))) hc2 (holds_some (againS s) st lp))
          have HHE := Aside0.mk (fun W (h : Below W6.heap.size W6 W) => show Calls Tryd.prog 17 #[.agg #[.int .i64 7, .int .i64 0, .slice (some ⟨gb5, 0, none⟩) 2 2], .agg #[.slice A1 st.length c1, .slice A2 lp.length c2]] W _ from formula_Holds.calls 7 0 _ _ (stayS s).f2 A1 c1 st A2 c2 lp _ W (Kd.C_below CE6.out h) (Nat.le_refl _) (Kd.C_below HK1.out (HB6.out.trans (h.mono HB6.out.size))) hc1 (Kd.C_below HK2.out (HB6.out.trans (h.mono HB6.out.size))) hc2 (holds_some (stayS s) st lp))
          have HEA := Aside0.mk (fun h => again_holds (s := s) h HWS.out)
          have HEE := Aside0.mk (fun k h => stay_holds (s := s) k h HWS.out)
          have HLF := Aside0.mk (fun (h : mayF (againS s) = 0) => len_rowF ((sub_again s).may h) HWS.out)
          generalize hma : mayF (againS s) = ma at *
          generalize hme : mayF (stayS s) = me at *
          clear hma hme
          have qA60 := (blk_cell HA6.out 0).trans rfl
          have qA61 := (blk_cell HA6.out 1).trans rfl
          have qA62 := (blk_cell HA6.out 2).trans rfl
          by_cases ea : ma = 0
          · have ba : (ma != 0) = false := by rw [ea]; rfl
            by_cases ee : me = 0
            · have be : (me != 0) = false := by rw [ee]; rfl
              have hsm := HSM.out
              have hlf := HLF.out ea
              have hn : wrap64 ((st.length : Int) + (lp.length : Int)) = (st.length : Int) + (lp.length : Int) := len_wrap hsm
              have hea := HEA.out ea
              have hee := HEE.out ea ee
              rw [hea] at HHA
              rw [hee] at HHE
              clear hea hee HEA HEE
              generalize rowF s st lp = rf at *
              have bf : ((rf.length : Int) != (st.length : Int) + (lp.length : Int)) = false := len_bne hlf
              have hle : st.length ≤ rf.length := by rw [hlf]; exact Nat.le_add_right _ _
              have HLE := Aside0.mk hle
              have HRL := Aside0.mk (len_small hlf hsm)
              clear hsm hlf HLF HSM ea ee hle
              obtain ⟨xs, hxs⟩ : ∃ xs, xs = rf.drop st.length := ⟨_, rfl⟩
              rw [← hxs] at HHA HHE
              have HXS := Aside0.mk hxs
              clear hxs
              go_upto_region 12 with (first | (go_at_call 13; (with_reducible refine (HMA.out _ (Below.refl _ _)).mono ?_); rintro e_ w61 ⟨rfl, hB⟩; have HB61 := Aside0.mk (hB); have HE61 := Aside0.mk ((HB61.out.block _ (blk_lt HE6.out)).trans HE6.out); have qE610 := (blk_cell HE61.out 0).trans rfl; have qE611 := (blk_cell HE61.out 1).trans rfl; have qE612 := (blk_cell HE61.out 2).trans rfl; clear hB) | (go_at_call 13; (with_reducible refine (HME.out _ HB61.out).mono ?_); rintro e_ w62 ⟨rfl, hB⟩; have HB62 := Aside0.mk (HB61.out.trans (hB.mono HB61.out.size)); have HF62 := Aside0.mk ((HB62.out.block _ (blk_lt HF6.out)).trans HF6.out); have qF620 := (blk_cell HF62.out 0).trans rfl; have qF621 := (blk_cell HF62.out 1).trans rfl; have qF622 := (blk_cell HF62.out 2).trans rfl; have HL62 := Aside0.mk ((HB62.out.block _ (blk_lt HL6.out)).trans HL6.out); have qL620 := (blk_cell HL62.out 0).trans rfl; have qL621 := (blk_cell HL62.out 1).trans rfl; have HA62 := Aside0.mk ((HB62.out.block _ (blk_lt HA6.out)).trans HA6.out); have qA620 := (blk_cell HA62.out 0).trans rfl; have qA621 := (blk_cell HA62.out 1).trans rfl; have qA622 := (blk_cell HA62.out 2).trans rfl; have HE62 := Aside0.mk ((HB62.out.block _ (blk_lt HE6.out)).trans HE6.out); have qE620 := (blk_cell HE62.out 0).trans rfl; have qE621 := (blk_cell HE62.out 1).trans rfl; have qE622 := (blk_cell HE62.out 2).trans rfl; clear hB) | (go_at_call 15; (with_reducible refine (HRF.out _ HB62.out).mono ?_); rintro e_ w63 ⟨v63, rfl, hR, hB⟩; have HB63 := Aside0.mk (HB62.out.trans (hB.mono HB62.out.size)); have HL63 := Aside0.mk ((HB63.out.block _ (blk_lt HL6.out)).trans HL6.out); have qL630 := (blk_cell HL63.out 0).trans rfl; have qL631 := (blk_cell HL63.out 1).trans rfl; have HA63 := Aside0.mk ((HB63.out.block _ (blk_lt HA6.out)).trans HA6.out); have qA630 := (blk_cell HA63.out 0).trans rfl; have qA631 := (blk_cell HA63.out 1).trans rfl; have qA632 := (blk_cell HA63.out 2).trans rfl; have HE63 := Aside0.mk ((HB63.out.block _ (blk_lt HE6.out)).trans HE6.out); have qE630 := (blk_cell HE63.out 0).trans rfl; have qE631 := (blk_cell HE63.out 1).trans rfl; have qE632 := (blk_cell HE63.out 2).trans rfl; obtain ⟨Ar, cr, e0_, hcr, hCr⟩ := Kd.R_reads hR; subst e0_; have HCR := Aside0.mk hCr; clear hR hCr; clear hB) | (go_at_call 11; refine (awake_calls _).mono ?_; rintro e_ w9 ⟨rfl, hB⟩; first | (have HBz := Aside0.mk (HB62.out.trans (hB.mono HB62.out.size)); clear hB) | (have HBz := Aside0.mk (HB61.out.trans (hB.mono HB61.out.size)); clear hB)))
              obtain ⟨iB, hiB, _, hszB, _⟩ := info_parts infoBool1
              obtain ⟨Ax, hcutx, hAx⟩ := print_cut_of (P := Tryd.prog) Value.bool false 35 4 .i64 hub hiB hszB Ar rf.length cr st.length HLE.out
              clear hiB hszB
              have hrx := hAx w63 rf hcr (Kd.reads_of_C (d := false) HCR.out)
              rw [← HXS.out] at hrx
              have hxl : rf.length - st.length = xs.length := by rw [HXS.out, List.length_drop]
              rw [hxl] at hrx hcutx
              have HRX := Aside0.mk hrx
              have hxn : xs.length < 1000000000 := by have := HRL.out; omega
              clear hrx hAx hxl
              generalize cr - st.length = cx at *
              have HX0 := Aside0.mk (show (false || (xs.drop 0).any id) = xs.any id from by simp)
              have HY0 := Aside0.mk (show (true && (xs.drop 0).all id) = xs.all id from by simp)
              generalize xs.any id = X at *
              generalize xs.all id = Y at *
              go_wp2
              go_loopg [73, 10, 11] xs.length (fun kq v73 v10 v11 w' => ∃ (j : Nat) (x y : Bool), j + kq = xs.length ∧ v73 = .int .i64 j ∧ v10 = .bool x ∧ v11 = .bool y ∧ Aside0 ((x || (xs.drop j).any id) = X) ∧ Aside0 ((y && (xs.drop j).all id) = Y) ∧ w' = w63)
              case atStart => exact ⟨0, false, true, by omega, rfl, rfl, rfl, HX0, HY0, rfl⟩
              case round =>
                obtain ⟨j, x, y, hj, rfl, rfl, rfl, HXj, HYj, rfl⟩ := hrel
                have HJ := Aside0.mk hj
                clear hj
                by_cases hlt : j < xs.length
                · obtain ⟨ad, ead, hcell⟩ := HRX.out.2.2 (by omega)
                  cases ead
                  have hz := hcell j hlt
                  clear hcell
                  have HX1 := Aside0.mk (any_step xs j hlt x X HXj.out)
                  have HY1 := Aside0.mk (all_step xs j hlt y Y HYj.out)
                  generalize xs.getD j false = z at *
                  cases x <;> cases y
                  all_goals (
                    go_wp2
                    go_roundg (gk - 1)
                    case measure => have := HJ.out; omega
                    case rel => exact ⟨j + 1, _, _, by have := HJ.out; omega, by go_num, rfl, rfl, ⟨by have := HX1.out; simpa using this⟩, ⟨by have := HY1.out; simpa using this⟩, rfl⟩)
                · have ex := any_done xs j (by omega) x X HXj.out
                  have ey := all_done xs j (by omega) y Y HYj.out
                  rw [ex] at HHA
                  rw [ey] at HHE
                  clear ex ey HXj HYj HX0 HY0
                  cases x <;> cases y
                  all_goals (
                    go_wp2_with (first | (go_at_call 17; (with_reducible refine (HHA.out _ HB63.out).mono ?_); rintro e_ w64 ⟨rfl, hB⟩; have HB64 := Aside0.mk (HB63.out.trans (hB.mono HB63.out.size)); have HL64 := Aside0.mk ((HB64.out.block _ (blk_lt HL6.out)).trans HL6.out); have qL640 := (blk_cell HL64.out 0).trans rfl; have qL641 := (blk_cell HL64.out 1).trans rfl; have HE64 := Aside0.mk ((HB64.out.block _ (blk_lt HE6.out)).trans HE6.out); have qE640 := (blk_cell HE64.out 0).trans rfl; have qE641 := (blk_cell HE64.out 1).trans rfl; have qE642 := (blk_cell HE64.out 2).trans rfl; clear hB) | (go_at_call 17; (with_reducible refine (HHE.out _ HB64.out).mono ?_); rintro e_ w65 ⟨rfl, hB⟩; have HB65 := Aside0.mk (HB64.out.trans (hB.mono HB64.out.size)); clear hB) | (go_at_call 11; refine (awake_calls _).mono ?_; rintro e_ w9 ⟨rfl, hB⟩; first | (have HBz := Aside0.mk (HB65.out.trans (hB.mono HB65.out.size)); clear hB)))
                    go_ret
                    exact ⟨rfl, HB6.out.trans (HBz.out.mono HB6.out.size)⟩)
            · have be : (me != 0) = true := by simpa using ee
              go_wp2_with (first | (go_at_call 13; (with_reducible refine (HMA.out _ (Below.refl _ _)).mono ?_); rintro e_ w61 ⟨rfl, hB⟩; have HB61 := Aside0.mk (hB); have HE61 := Aside0.mk ((HB61.out.block _ (blk_lt HE6.out)).trans HE6.out); have qE610 := (blk_cell HE61.out 0).trans rfl; have qE611 := (blk_cell HE61.out 1).trans rfl; have qE612 := (blk_cell HE61.out 2).trans rfl; clear hB) | (go_at_call 13; (with_reducible refine (HME.out _ HB61.out).mono ?_); rintro e_ w62 ⟨rfl, hB⟩; have HB62 := Aside0.mk (HB61.out.trans (hB.mono HB61.out.size)); have HF62 := Aside0.mk ((HB62.out.block _ (blk_lt HF6.out)).trans HF6.out); have qF620 := (blk_cell HF62.out 0).trans rfl; have qF621 := (blk_cell HF62.out 1).trans rfl; have qF622 := (blk_cell HF62.out 2).trans rfl; have HL62 := Aside0.mk ((HB62.out.block _ (blk_lt HL6.out)).trans HL6.out); have qL620 := (blk_cell HL62.out 0).trans rfl; have qL621 := (blk_cell HL62.out 1).trans rfl; have HA62 := Aside0.mk ((HB62.out.block _ (blk_lt HA6.out)).trans HA6.out); have qA620 := (blk_cell HA62.out 0).trans rfl; have qA621 := (blk_cell HA62.out 1).trans rfl; have qA622 := (blk_cell HA62.out 2).trans rfl; have HE62 := Aside0.mk ((HB62.out.block _ (blk_lt HE6.out)).trans HE6.out); have qE620 := (blk_cell HE62.out 0).trans rfl; have qE621 := (blk_cell HE62.out 1).trans rfl; have qE622 := (blk_cell HE62.out 2).trans rfl; clear hB) | (go_at_call 15; (with_reducible refine (HRF.out _ HB62.out).mono ?_); rintro e_ w63 ⟨v63, rfl, hR, hB⟩; have HB63 := Aside0.mk (HB62.out.trans (hB.mono HB62.out.size)); have HL63 := Aside0.mk ((HB63.out.block _ (blk_lt HL6.out)).trans HL6.out); have qL630 := (blk_cell HL63.out 0).trans rfl; have qL631 := (blk_cell HL63.out 1).trans rfl; have HA63 := Aside0.mk ((HB63.out.block _ (blk_lt HA6.out)).trans HA6.out); have qA630 := (blk_cell HA63.out 0).trans rfl; have qA631 := (blk_cell HA63.out 1).trans rfl; have qA632 := (blk_cell HA63.out 2).trans rfl; have HE63 := Aside0.mk ((HB63.out.block _ (blk_lt HE6.out)).trans HE6.out); have qE630 := (blk_cell HE63.out 0).trans rfl; have qE631 := (blk_cell HE63.out 1).trans rfl; have qE632 := (blk_cell HE63.out 2).trans rfl; obtain ⟨Ar, cr, e0_, hcr, hCr⟩ := Kd.R_reads hR; subst e0_; have HCR := Aside0.mk hCr; clear hR hCr; clear hB) | (go_at_call 11; refine (awake_calls _).mono ?_; rintro e_ w9 ⟨rfl, hB⟩; first | (have HBz := Aside0.mk (HB62.out.trans (hB.mono HB62.out.size)); clear hB) | (have HBz := Aside0.mk (HB61.out.trans (hB.mono HB61.out.size)); clear hB)))
              go_ret
              exact ⟨rfl, HB6.out.trans (HBz.out.mono HB6.out.size)⟩
          · have ba : (ma != 0) = true := by simpa using ea
            go_wp2_with (first | (go_at_call 13; (with_reducible refine (HMA.out _ (Below.refl _ _)).mono ?_); rintro e_ w61 ⟨rfl, hB⟩; have HB61 := Aside0.mk (hB); have HE61 := Aside0.mk ((HB61.out.block _ (blk_lt HE6.out)).trans HE6.out); have qE610 := (blk_cell HE61.out 0).trans rfl; have qE611 := (blk_cell HE61.out 1).trans rfl; have qE612 := (blk_cell HE61.out 2).trans rfl; clear hB) | (go_at_call 13; (with_reducible refine (HME.out _ HB61.out).mono ?_); rintro e_ w62 ⟨rfl, hB⟩; have HB62 := Aside0.mk (HB61.out.trans (hB.mono HB61.out.size)); have HF62 := Aside0.mk ((HB62.out.block _ (blk_lt HF6.out)).trans HF6.out); have qF620 := (blk_cell HF62.out 0).trans rfl; have qF621 := (blk_cell HF62.out 1).trans rfl; have qF622 := (blk_cell HF62.out 2).trans rfl; have HL62 := Aside0.mk ((HB62.out.block _ (blk_lt HL6.out)).trans HL6.out); have qL620 := (blk_cell HL62.out 0).trans rfl; have qL621 := (blk_cell HL62.out 1).trans rfl; have HA62 := Aside0.mk ((HB62.out.block _ (blk_lt HA6.out)).trans HA6.out); have qA620 := (blk_cell HA62.out 0).trans rfl; have qA621 := (blk_cell HA62.out 1).trans rfl; have qA622 := (blk_cell HA62.out 2).trans rfl; have HE62 := Aside0.mk ((HB62.out.block _ (blk_lt HE6.out)).trans HE6.out); have qE620 := (blk_cell HE62.out 0).trans rfl; have qE621 := (blk_cell HE62.out 1).trans rfl; have qE622 := (blk_cell HE62.out 2).trans rfl; clear hB) | (go_at_call 15; (with_reducible refine (HRF.out _ HB62.out).mono ?_); rintro e_ w63 ⟨v63, rfl, hR, hB⟩; have HB63 := Aside0.mk (HB62.out.trans (hB.mono HB62.out.size)); have HL63 := Aside0.mk ((HB63.out.block _ (blk_lt HL6.out)).trans HL6.out); have qL630 := (blk_cell HL63.out 0).trans rfl; have qL631 := (blk_cell HL63.out 1).trans rfl; have HA63 := Aside0.mk ((HB63.out.block _ (blk_lt HA6.out)).trans HA6.out); have qA630 := (blk_cell HA63.out 0).trans rfl; have qA631 := (blk_cell HA63.out 1).trans rfl; have qA632 := (blk_cell HA63.out 2).trans rfl; have HE63 := Aside0.mk ((HB63.out.block _ (blk_lt HE6.out)).trans HE6.out); have qE630 := (blk_cell HE63.out 0).trans rfl; have qE631 := (blk_cell HE63.out 1).trans rfl; have qE632 := (blk_cell HE63.out 2).trans rfl; obtain ⟨Ar, cr, e0_, hcr, hCr⟩ := Kd.R_reads hR; subst e0_; have HCR := Aside0.mk hCr; clear hR hCr; clear hB) | (go_at_call 11; refine (awake_calls _).mono ?_; rintro e_ w9 ⟨rfl, hB⟩; first | (have HBz := Aside0.mk (HB62.out.trans (hB.mono HB62.out.size)); clear hB) | (have HBz := Aside0.mk (HB61.out.trans (hB.mono HB61.out.size)); clear hB)))
            go_ret
            exact ⟨rfl, HB6.out.trans (HBz.out.mono HB6.out.size)⟩
def parrylaw22_FormulaAgain.f (a0_0 : Int) (a0_1 : Int) (l0_2 : List S24) (l1_0 : List Int) (l1_1 : List Int) : Option Bool := some true
theorem parrylaw22_FormulaAgain.calls (a0_0 : Int) (a0_1 : Int) (A0_2 : Option Addr) (c0_2 : Nat) (l0_2 : List S24) (A1_0 : Option Addr) (c1_0 : Nat) (l1_0 : List Int) (A1_1 : Option Addr) (c1_1 : Nat) (l1_1 : List Int) (r : Bool) (w : World) (hr0_2 : Kd.C k24 w A0_2 l0_2.length l0_2) (hc0_2 : l0_2.length ≤ c0_2) (hr1_0 : Kd.C (Kd.int .u32) w A1_0 l1_0.length l1_0) (hc1_0 : l1_0.length ≤ c1_0) (hr1_1 : Kd.C (Kd.int .u32) w A1_1 l1_1.length l1_1) (hc1_1 : l1_1.length ≤ c1_1) (h : parrylaw22_FormulaAgain.f a0_0 a0_1 l0_2 l1_0 l1_1 = some r) (hrt : r = true) :
    Calls Tryd.prog 6 #[.agg #[.int .i64 a0_0, .int .i64 a0_1, .slice A0_2 l0_2.length c0_2], .agg #[.slice A1_0 l1_0.length c1_0, .slice A1_1 l1_1.length c1_1]] w fun e w' => e = .returned (.bool r) ∧ Below w.heap.size w w' := by
  subst hrt
  exact again_calls ⟨a0_0, a0_1, l0_2⟩ l1_0 l1_1 A0_2 A1_0 A1_1 c0_2 c1_0 c1_1 w hr0_2 hc0_2 hr1_0 hc1_0 hr1_1 hc1_1
end Go.Proofs.YtjjnokodkeekhaaDoor.X

namespace Go.Proofs.YtjjnokodkeekhaaDoor.Op
open Go.RowKit Go.Proofs.YtjjnokodkeekhaaDoorW.PrintWords
set_option linter.unusedVariables false
set_option linter.unusedSimpArgs false

def Opens (N : Nat) (P : Program) (T : TypeId) {α : Type} (d : Kd α) (G : α → Prop) : Prop :=
  ∀ (H : Type) (enc : TypeId × Value → H) (W : World) (base : Nat) (spare : Nat → Bool) (held : Bool) (fuel : Nat) (cs : List Value) (x : DataW H × List MemPlace),
    fuel ≤ N → DataW.trod enc P W base spare held fuel T cs = some x → (∀ n ∈ x.1.weights P T, n ≤ reachBytes) → ∃ y, d.K W y cs ∧ G y

theorem Opens.mono {N M : Nat} {P : Program} {T : TypeId} {α : Type} {d : Kd α} {G : α → Prop} (h : Opens N P T d G) (hm : M ≤ N) : Opens M P T d G :=
  fun H enc W base spare held fuel cs x hf => h H enc W base spare held fuel cs x (Nat.le_trans hf hm)

theorem opens_int {N : Nat} {P : Program} {T : TypeId} {k : IntKind} (ht : P.underlying T = some (.int k)) : Opens N P T (Kd.int k) (fun n => (Lit.int k n).wf = true) := by
  intro H enc W base spare held fuel cs x _ h _
  obtain ⟨n, rfl, _, hw⟩ := DataW.trod_int ht h
  exact ⟨n, rfl, hw⟩
theorem weightsAll_mem {H : Type} {P : Program} {e : TypeId} : ∀ {l : List (DataW H)} {i : Nat} {d : DataW H}, l[i]? = some d → ∀ n ∈ d.weights P e, n ∈ DataW.weightsAll P e l
  | [], i, d, h => by simp at h
  | a :: r, 0, d, h => fun n hn => by
    simp at h
    subst h
    simp only [DataW.weightsAll, List.mem_append]
    exact .inl hn
  | a :: r, i + 1, d, h => fun n hn => by
    simp only [DataW.weightsAll, List.mem_append]
    exact .inr (weightsAll_mem (by simpa using h) n hn)
theorem choose_list {α : Type} {p : Nat → α → Prop} : ∀ n, (∀ i, i < n → ∃ x, p i x) → ∃ l : List α, l.length = n ∧ ∀ i x, l[i]? = some x → p i x
  | 0, _ => ⟨[], rfl, fun i x h => by simp at h⟩
  | n + 1, h => by
    obtain ⟨l, hl, hp⟩ := choose_list n (fun i hi => h i (by omega))
    obtain ⟨x, hx⟩ := h n (by omega)
    refine ⟨l ++ [x], by simp [hl], fun i y hy => ?_⟩
    rcases Nat.lt_or_ge i l.length with hi | hi
    · rw [List.getElem?_append_left hi] at hy
      exact hp i y hy
    · rw [List.getElem?_append_right hi] at hy
      have hi0 : i - l.length = 0 := by
        rcases Nat.eq_zero_or_pos (i - l.length) with h0 | h0
        · exact h0
        · rw [List.getElem?_eq_none (by simp; omega)] at hy
          cases hy
      rw [hi0] at hy
      simp at hy
      subst hy
      rw [show i = n by omega]
      exact hx
theorem opens_slice {N : Nat} {P : Program} {T e : TypeId} {α : Type} {d : Kd α} {G : α → Prop} (ht : P.underlying T = some (.slice e)) (hsz : P.cellsOf e = d.sz) (hd : Opens N P e d G) :
    Opens (N + 1) P T (Kd.slice e d) (fun xs => (∀ x ∈ xs, G x) ∧ xs.length * P.bytesOf e ≤ reachBytes) := by
  intro H enc W base spare held fuel cs x hN h hw
  rcases DataW.trod_slice ht h with ⟨rfl, rfl⟩ | ⟨a, len, cap, elems, rest, n, rfl, rfl, rfl, hb, hl, hm, hlen, hel, _, _⟩
  · exact ⟨[], ⟨none, 0, rfl, by simp, ⟨rfl, by simp, fun h => absurd h (Nat.lt_irrefl 0)⟩⟩, fun x hx => by simp at hx, by simp⟩
  · have hw2 : ∀ m ∈ (DataW.slice (elems.map (·.1)) (rest.map (·.1)) : DataW H).weights P T, m ≤ reachBytes := hw
    simp only [DataW.weights, ht, List.mem_cons, List.mem_append] at hw2
    have one : ∀ i, i < len → ∃ y : α, G y ∧ ∃ c : List Value, c.length = d.sz ∧ d.K W y c ∧ ∀ j u, c[j]? = some u → W.cell? (a.add (i * d.sz + j)) = some u := by
      intro i hi
      have hi2 := hel i hi
      rw [List.getElem?_eq_getElem (by omega)] at hi2
      obtain ⟨c, h1, h2⟩ := Option.bind_eq_some_iff.1 hi2
      obtain ⟨y, hK, hG⟩ := hd H enc W base spare held n c _ (by omega) h2 (fun m hm2 => hw2 m (.inr (.inl (weightsAll_mem (i := i) (by simp [List.getElem?_eq_getElem (show i < elems.length by omega)]) m hm2))))
      obtain ⟨_, h3, h4⟩ := World.cells?_some h1
      refine ⟨y, hG, c, by rw [h3, hsz], hK, fun j u hu => ?_⟩
      have hj : j < c.length := (List.getElem?_eq_some_iff.1 hu).1
      have h5 := h4 j (by omega)
      rw [hu] at h5
      have e1 : (a.add (i * P.cellsOf e)).add j = a.add (i * d.sz + j) := by
        rw [hsz]
        unfold Addr.add
        by_cases hi0 : i * d.sz = 0 <;> by_cases hj0 : j = 0 <;> simp [hi0, hj0, Nat.add_assoc]
      rw [← e1]
      exact h5
    obtain ⟨l, hl2, hp⟩ := choose_list len one
    refine ⟨l, ⟨some a, cap, by rw [hl2], by omega, ⟨rfl, by unfold maxLen at hm; omega, fun _ => ⟨a, rfl, fun j p hj => (hp j p hj).2⟩⟩⟩, fun x hx => ?_, ?_⟩
    · obtain ⟨i, hi⟩ := List.getElem?_of_mem hx
      exact (hp i x hi).1
    · have h6 := hw2 _ (.inl rfl)
      simp only [List.length_map] at h6
      rw [hl2]
      exact Nat.le_trans (Nat.mul_le_mul_right _ (by omega)) h6

/-- Fields that lie side by side from cell o on, n cells in all. -/
def OpensF (N : Nat) (P : Program) (fs : List Field) (o n : Nat) {α : Type} (d : Kd α) (G : α → Prop) : Prop :=
  ∀ (H : Type) (enc : TypeId × Value → H) (W : World) (base : Nat) (spare : Nat → Bool) (held : Bool) (fuel : Nat) (cs : List Value) (xs : List (DataW H × List MemPlace)),
    fuel ≤ N → xs.length = fs.length → (∀ (i : Nat) (f : Field), fs[i]? = some f → DataW.trod enc P W base spare held fuel f.type ((cs.drop f.offset).take (P.cellsOf f.type)) = xs[i]?) →
    (∀ m ∈ DataW.weightsEach P (fs.map (·.type)) (xs.map (·.1)), m ≤ reachBytes) → ∃ y, d.K W y ((cs.drop o).take n) ∧ G y
theorem opensF_one {N : Nat} {P : Program} {f : Field} {o n : Nat} {α : Type} {d : Kd α} {G : α → Prop} (ho : f.offset = o) (hn : P.cellsOf f.type = n) (h : Opens N P f.type d G) : OpensF N P [f] o n d G := by
  intro H enc W base spare held fuel cs xs hN hl hx hw
  obtain ⟨x, rfl⟩ : ∃ x, xs = [x] := by
    match xs, hl with
    | [x], _ => exact ⟨x, rfl⟩
  have h1 := hx 0 f rfl
  rw [ho, hn] at h1
  exact h H enc W base spare held fuel _ x hN h1 (fun m hm => hw m (by simpa [DataW.weightsEach] using hm))
theorem opensF_cons {N : Nat} {P : Program} {f : Field} {fs : List Field} {o a n : Nat} {α β : Type} {d : Kd α} {d' : Kd β} {G : α → Prop} {G' : β → Prop} (ho : f.offset = o) (ha : P.cellsOf f.type = a) (h : Opens N P f.type d G) (hr : OpensF N P fs (o + a) n d' G') :
    OpensF N P (f :: fs) o (a + n) (Kd.pair d d') (fun y => G y.1 ∧ G' y.2) := by
  intro H enc W base spare held fuel cs xs hN hl hx hw
  match xs, hl with
  | x :: xs, hl =>
    have h1 := hx 0 f rfl
    rw [ho, ha] at h1
    simp only [List.map_cons, DataW.weightsEach, List.mem_append] at hw
    obtain ⟨y, hy, gy⟩ := h H enc W base spare held fuel _ x hN h1 (fun m hm => hw m (.inl hm))
    obtain ⟨z, hz, gz⟩ := hr H enc W base spare held fuel cs xs hN (by simpa using hl) (fun i g hg => by simpa using hx (i + 1) g (by simpa using hg)) (fun m hm => hw m (.inr hm))
    refine ⟨(y, z), ⟨_, _, ?_, hy, hz⟩, gy, gz⟩
    rw [List.take_add, List.drop_drop]
theorem opens_struct {N : Nat} {P : Program} {T : TypeId} {fs : List Field} {n : Nat} {α β : Type} {d : Kd α} {G : α → Prop} (ht : P.underlying T = some (.struct fs.toArray)) (hn : P.cellsOf T = n) (f : β → α) (g : α → β) (hg : ∀ y, f (g y) = y)
    (h : OpensF N P fs 0 n d G) : Opens (N + 1) P T (Kd.iso d f) (fun y => G (f y)) := by
  intro H enc W base spare held fuel cs x hN hx hw
  obtain ⟨xs, m, rfl, rfl, hl, hlx, hf⟩ := DataW.trod_struct ht hx
  obtain ⟨y, hy, gy⟩ := h H enc W base spare held m cs xs (by omega) (by simpa using hlx) (fun i f0 hi => hf i f0 (by simpa using hi)) (fun k hk => hw k (by
    simp only [DataW.weights, ht]
    exact hk))
  refine ⟨g y, ?_, ?_⟩
  · show d.K W (f (g y)) cs
    rw [hg]
    rw [← hn, ← hl, List.drop_zero, List.take_length] at hy
    exact hy
  · show G (f (g y))
    rw [hg]
    exact gy
theorem Opens.imp {N : Nat} {P : Program} {T : TypeId} {α : Type} {d : Kd α} {G G' : α → Prop} (h : Opens N P T d G) (hi : ∀ y, G y → G' y) : Opens N P T d G' := by
  intro H enc W base spare held fuel cs x hN hx hw
  obtain ⟨y, hy, gy⟩ := h H enc W base spare held fuel cs x hN hx hw
  exact ⟨y, hy, hi y gy⟩
theorem opens_upto {P : Program} {T : TypeId} {α : Type} {F : Kd α → Kd α} {sz : Nat} {E : List Nat} {G : α → Prop} (step : ∀ N (d : Kd α), d.sz = sz → Opens N P T d G → Opens (N + 1) P T (F d) G) (hs : ∀ n, (Kd.upto F sz E n).sz = sz) : ∀ N, Opens N P T (Kd.upto F sz E N) G
  | 0 => fun H enc W base spare held fuel cs x hN h _ => by
    obtain rfl : fuel = 0 := by omega
    simp [DataW.trod] at h
  | N + 1 => step N _ (hs N) (opens_upto step hs N)
theorem opens_fix {P : Program} {T : TypeId} {α : Type} {F : Kd α → Kd α} {sz : Nat} {E : List Nat} {G : α → Prop} {hs : ∀ n, (Kd.upto F sz E n).sz = sz} {hE : ∀ n q, q ∈ (Kd.upto F sz E n).E → q ∈ E} (step : ∀ N (d : Kd α), d.sz = sz → Opens N P T d G → Opens (N + 1) P T (F d) G) (N : Nat) : Opens N P T (Kd.fix F sz E hs hE) G := by
  intro H enc W base spare held fuel cs x hN hx hw
  obtain ⟨y, hy, gy⟩ := opens_upto step hs N H enc W base spare held fuel cs x hN hx hw
  exact ⟨y, ⟨N, hy⟩, gy⟩
theorem bytes_le {a b n r : Nat} (e : a = b) (h : n * a ≤ r) : n * b ≤ r := e ▸ h
/-- An argument. -/
theorem opened {P : Program} {T : TypeId} {α : Type} {d : Kd α} {G : α → Prop} (h : ∀ N, Opens N P T d G) {H : Type} {enc : TypeId × Value → H} {W : World} {base : Nat} {spare : Nat → Bool} {held : Bool} {v : Value} {x : DataW H} {p : List MemPlace} (ht : DataW.Trod enc P W base spare held T v x p)
    {ts : List TypeId} {ds : List (DataW H)} {j : Nat} (hz : (DataW.weightsEach P ts ds).all (· ≤ reachBytes) = true) (hj : ts[j]? = some T) (hd : ds[j]? = some x) : ∃ y, d.K W y v.cells.toList ∧ G y := by
  obtain ⟨fuel, hf⟩ := ht
  exact h fuel H enc W base spare held fuel _ _ (Nat.le_refl _) hf (fun n hn => by
    have := List.all_eq_true.1 hz n (DataW.weights_mem_each hj hd n hn)
    simpa using this)
end Go.Proofs.YtjjnokodkeekhaaDoor.Op

namespace Go.Proofs.YtjjnokodkeekhaaDoor.Ki
open Go.RowKit Go.Proofs.YtjjnokodkeekhaaDoorW.PrintWords Go.Proofs.YtjjnokodkeekhaaDoor.Op Go.Proofs.YtjjnokodkeekhaaDoor.P
set_option linter.unusedVariables false
inductive G24 : S24 → Prop
  | mk (s : S24) : (Lit.int .i64 s.f0).wf = true → (Lit.int .i64 s.f1).wf = true → (∀ x ∈ s.f2, G24 x) → s.f2.length * 40 ≤ reachBytes → G24 s
theorem op24 (N : Nat) : Opens N Tryd.prog 24 k24 G24 := by
  refine opens_fix (fun N d hz hd => ?_) N
  refine (opens_struct Tryd.underlying24 (n := 3) (by kernel_rfl) _ (fun y : Int × Int × (List (S24)) => (⟨y.1, y.2.1, y.2.2⟩ : S24)) (fun _ => rfl) (opensF_cons (a := 1) (n := 2) rfl (by kernel_rfl) (opens_int Tryd.underlying3) (opensF_cons (a := 1) (n := 1) rfl (by kernel_rfl) (opens_int Tryd.underlying3) (opensF_one (n := 1) rfl (by kernel_rfl) ((opens_slice Tryd.underlying22 (hz ▸ by kernel_rfl) hd).mono (Nat.le_succ N)))))).imp (fun s h => ?_)
  exact G24.mk s (h.1) (h.2.1) (h.2.2.1) (bytes_le (by kernel_rfl : Tryd.prog.bytesOf 24 = 40) h.2.2.2)
def G25 (l : List (Int)) : Prop := (∀ x ∈ l, (Lit.int .u32 x).wf = true) ∧ l.length * 4 ≤ reachBytes
theorem op25 (N : Nat) : Opens N Tryd.prog 25 (Kd.slice 49 (Kd.int .u32)) G25 := ((opens_slice Tryd.underlying25 (by kernel_rfl) (opens_int Tryd.underlying49)).imp (fun l h => ⟨h.1, bytes_le (by kernel_rfl : Tryd.prog.bytesOf 49 = 4) h.2⟩)).mono (Nat.le_succ N)
def G27 (s : S27) : Prop := G25 s.f0 ∧ G25 s.f1
theorem op27 (N : Nat) : Opens N Tryd.prog 27 k27 G27 := by
  refine Opens.mono (N := N + 1) ?_ (Nat.le_succ N)
  unfold k27
  have h0 := opens_struct (N := N) Tryd.underlying27 (n := 2) (by kernel_rfl) (fun x : S27 => (x.f0, x.f1)) (fun y : (List (Int)) × (List (Int)) => (⟨y.1, y.2⟩ : S27)) (fun _ => rfl) (opensF_cons (a := 1) (n := 1) rfl (by kernel_rfl) (op25 _) (opensF_one (n := 1) rfl (by kernel_rfl) (op25 _)))
  exact Opens.imp h0 (fun s h => h)
end Go.Proofs.YtjjnokodkeekhaaDoor.Ki

namespace Go.Proofs.YtjjnokodkeekhaaDoor.Pu
open Go.RowKit Go.Proofs.YtjjnokodkeekhaaDoorW.PrintWords Go.Proofs.YtjjnokodkeekhaaDoorW.PrintMore
open Go.Proofs.YtjjnokodkeekhaaDoor.P Go.Proofs.YtjjnokodkeekhaaDoor.Evx Go.Proofs.YtjjnokodkeekhaaDoor.X Go.Proofs.YtjjnokodkeekhaaDoor.Ki
set_option linter.unusedVariables false
theorem FormulaAgain_pure (s0 : S24) (g0 : G24 s0) (s1 : S27) (g1 : G27 s1) : parrylaw22_FormulaAgain.f s0.f0 s0.f1 s0.f2 s1.f0 s1.f1 = some true := rfl
end Go.Proofs.YtjjnokodkeekhaaDoor.Pu

