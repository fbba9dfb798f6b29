/- A part of the claim FormulaWords. -/
import Derived.ChangeArms
import Derived.SizedLaws
import Derived.WideShapes
import Derived.Test.YtjjnokodkeekhaaDoorQFormulaWordsa
import Derived.Test.YtjjnokodkeekhaaDoorQFormulaWordsb
import Derived.Test.YtjjnokodkeekhaaDoorQFormulaWordsc
namespace Go.Proofs.YtjjnokodkeekhaaDoor.X
open Go.RowKit Go.Proofs.YtjjnokodkeekhaaDoorW.PrintWords Go.Proofs.YtjjnokodkeekhaaDoorW.PrintMore
open Go.Proofs.YtjjnokodkeekhaaDoor.P Go.Proofs.YtjjnokodkeekhaaDoor.Evx
set_option linter.unusedVariables false
set_option linter.unusedSimpArgs false
theorem eta_f (s : S24) : (⟨s.f0, s.f1, s.f2⟩ : S24) = s := by cases s; rfl
theorem may_some (s : S24) : formula_May.f s.f0 s.f1 s.f2 = some (mayF s) := by cases s; rfl
theorem copied_l (kids : List S24) (op m : Int) (hl : kids.length ≤ 60) (ih : ∀ k ∈ kids, Ev (fun n => formula_copied.f n k.f0 k.f1 k.f2) (k.f0, k.f1, k.f2)) :
    ∀ (d j : Nat) (acc : List S24), j + d = kids.length → acc = kids.take j → Ev (fun n => formula_copied.l0 n kids (kids.length : Int) j op m acc) (op, m, kids)
  | 0, j, acc, hj, ha => by
    refine ev_step (fun k => rfl) (ev_neg (by omega) ?_)
    refine ev_eq (ev_some _) ?_
    rw [ha, List.take_of_length_le (by omega)]
  | d + 1, j, acc, hj, ha => by
    have hlt : j < kids.length := by omega
    refine ev_step (fun k => rfl) (ev_pos (by omega) (ev_pos (by omega) (ev_pos (by omega) ?_)))
    rw [rdT_nat kids j hlt]
    refine ev_bind (ih _ (List.getElem_mem hlt)) ?_
    refine ev_pos (by rw [ha, List.length_take]; omega) ?_
    rw [w64 (by omega) (by omega)]
    have := copied_l kids op m hl ih d (j + 1) (acc ++ [⟨(kids[j]'hlt).f0, (kids[j]'hlt).f1, (kids[j]'hlt).f2⟩]) (by omega) (by rw [ha, List.take_succ_eq_append_getElem hlt, eta_f])
    exact_mod_cast this
mutual
theorem copied_ev : ∀ s : S24, soundS s = true → Ev (fun n => formula_copied.f n s.f0 s.f1 s.f2) (s.f0, s.f1, s.f2)
  | ⟨op, m, kids⟩, h => by
    refine ev_step (fun k => rfl) ?_
    exact copied_l kids op m (by have := sound_len h; simp only at this; omega) (copied_evL kids (sound_kids_all h)) kids.length 0 [] (by omega) rfl
theorem copied_evL : ∀ l : List S24, soundL l = true → ∀ k ∈ l, Ev (fun n => formula_copied.f n k.f0 k.f1 k.f2) (k.f0, k.f1, k.f2)
  | [], _, k, hk => by cases hk
  | a :: r, h, k, hk => by
    simp only [soundL, Bool.and_eq_true] at h
    rcases List.mem_cons.1 hk with e | e
    · rw [e]; exact copied_ev a h.1
    · exact copied_evL r h.2 k e
end
theorem times_l (kids : List S24) (T : List S24) (hT : T.length ≤ 1000) (hb : kids.length ≤ 60) (ih : ∀ k ∈ kids, Ev (fun n => formula_times.f n k.f0 k.f1 k.f2) (timesS k)) :
    ∀ (d j : Nat) (acc : List S24), j + d = kids.length → acc ++ timesL (kids.drop j) = T → Ev (fun n => formula_times.l0 n acc kids (kids.length : Int) j) T
  | 0, j, acc, hj, ha => by
    refine ev_step (fun k => rfl) (ev_neg (by omega) ?_)
    refine ev_eq (ev_some _) ?_
    rw [← ha, List.drop_eq_nil_of_le (by omega), timesL, List.append_nil]
  | d + 1, j, acc, hj, ha => by
    have hlt : j < kids.length := by omega
    have hd := List.drop_eq_getElem_cons hlt
    rw [hd, timesL, ← List.append_assoc] at ha
    refine ev_step (fun k => rfl) (ev_pos (by omega) (ev_pos (by omega) (ev_pos (by omega) ?_)))
    rw [rdT_nat kids j hlt]
    refine ev_bind (ih _ (List.getElem_mem hlt)) ?_
    refine ev_pos (by rw [← ha] at hT; simp only [List.length_append] at hT; omega) ?_
    rw [w64 (by omega) (by omega)]
    have := times_l kids T hT hb ih d (j + 1) (acc ++ timesS (kids[j]'hlt)) (by omega) ha
    exact_mod_cast this
mutual
theorem times_ev : ∀ s : S24, soundS s = true → tnS s ≤ 1000 → Ev (fun n => formula_times.f n s.f0 s.f1 s.f2) (timesS s)
  | ⟨op, m, kids⟩, h, ht => by
    have hk : kids.length ≤ 60 := by have := sound_len h; simp only at this; omega
    have hL : (timesS (⟨op, m, kids⟩ : S24)).length ≤ 1000 := by rw [len_times]; exact ht
    have h0 : ∀ (acc : List S24) (x y : Int), acc = (if timedS op = true then [(⟨op, m, kids⟩ : S24)] else []) → Ev (fun n => formula_times.j0 n acc x y kids) (timesS (⟨op, m, kids⟩ : S24)) := by
      intro acc x y ha
      refine ev_step (fun k => rfl) ?_
      exact times_l kids _ hL hk (times_evL kids (sound_kids_all h) (by simp only [tnS] at ht; omega)) kids.length 0 acc (by omega) (by rw [ha, timesS]; rfl)
    refine ev_step (fun k => rfl) ?_
    refine ev_bindv (timed_some op) (ev_bool (fun c => ?_) (fun c => ?_))
    · refine ev_bind (copied_ev _ h) (ev_pos (by simp) ?_)
      exact h0 _ _ _ (by rw [if_pos c]; rfl)
    · exact h0 _ _ _ (by rw [if_neg (by rw [c]; simp)])
theorem times_evL : ∀ l : List S24, soundL l = true → tnL l ≤ 1000 → ∀ k ∈ l, Ev (fun n => formula_times.f n k.f0 k.f1 k.f2) (timesS k)
  | [], _, _, k, hk => by cases hk
  | a :: r, h, ht, k, hk => by
    simp only [soundL, Bool.and_eq_true] at h
    simp only [tnL] at ht
    rcases List.mem_cons.1 hk with e | e
    · rw [e]; exact times_ev a h.1 (by omega)
    · exact times_evL r h.2 (by omega) k e
end
def TimesS (s : S24) : List S24 := if mayF s = 0 then timesS s else []
theorem Times_ev (s : S24) : Ev (fun n => formula_Times.f n s.f0 s.f1 s.f2) (TimesS s) := by
  unfold formula_Times.f
  refine ev_bindv (may_some s) (ev_ite (fun c => ?_) (fun c => ?_))
  · have hz := may_zero c
    refine ev_bind (times_ev s hz.2.2.2 (by omega)) (ev_eq (ev_some _) ?_)
    unfold TimesS
    rw [if_pos c]
  · exact ev_eq (ev_some _) (by unfold TimesS; rw [if_neg c])
end Go.Proofs.YtjjnokodkeekhaaDoor.X

namespace Go.Proofs.YtjjnokodkeekhaaDoor.X
open Go.RowKit Go.Proofs.YtjjnokodkeekhaaDoorW.PrintWords Go.Proofs.YtjjnokodkeekhaaDoorW.PrintLast Go.Proofs.YtjjnokodkeekhaaDoorW.PrintMore
open Go.Proofs.YtjjnokodkeekhaaDoor.P Go.Proofs.YtjjnokodkeekhaaDoor.Evx
set_option linter.unusedSimpArgs false
set_option linter.unusedVariables false
def holdsF (s : S24) (st lp : List Int) : Bool := decide (0 < (rowF s st lp).length) && (rowF s st lp).getD 0 false
theorem holds_some (s : S24) (st lp : List Int) : formula_Holds.f s.f0 s.f1 s.f2 st lp = some (holdsF s st lp) := by
  unfold formula_Holds.f formula_Row.f holdsF
  cases s
  simp only [Option.bind_some]
  generalize rowF _ st lp = l
  cases l with
  | nil => rfl
  | cons a r => cases a <;> simp [rdOf]
def TextS (s : S24) : ByteArray := if mayF s = 0 then textB s else ByteArray.empty
theorem Text_some (s : S24) : formula_Text.f s.f0 s.f1 s.f2 = some (TextS s) := by
  unfold formula_Text.f TextS
  rw [may_some]
  simp only [Option.bind_some]
  by_cases h : mayF s = 0
  · have hz := may_zero h
    rw [if_pos h, if_pos h]
    unfold formula_text.f
    rw [if_pos ⟨by cases s; exact hz.2.2.2, by cases s; exact hz.1⟩]
    cases s; rfl
  · rw [if_neg h, if_neg h]; rfl
def atomS (n : Int) : S24 := ⟨2, n, []⟩
def F0 : S24 := ⟨7, 0, [atomS 0, atomS 1]⟩
set_option maxHeartbeats 800000 in
theorem atom_calls (n : Int) (w : World) : Calls Tryd.prog 31 #[.int .i64 n] w fun e w' => e = .returned (.agg #[.int .i64 2, .int .i64 n, .slice none 0 0]) ∧ Below w.heap.size w w' := by
  have huF := Tryd.underlying24
  go_enter Tryd.func31, Tryd.ntmps31
  go_wp2
  exact bodyPost_ret (v := .agg #[.int .i64 2, .int .i64 n, .slice none 0 0]) (by simp [results, Tryd.results31, go_sem]) rfl ⟨rfl, below_alloc (Below.refl _ _) _⟩
set_option maxHeartbeats 800000 in
theorem op_calls (k : Int) (A : Option Addr) (n c : Nat) (w : World) : Calls Tryd.prog 12 #[.int .i64 k, .slice A n c] w fun e w' => e = .returned (.agg #[.int .i64 k, .int .i64 0, .slice A n c]) ∧ Below w.heap.size w w' := by
  have huF := Tryd.underlying24
  go_enter Tryd.func12, Tryd.ntmps12
  go_wp2
  exact bodyPost_ret (v := .agg #[.int .i64 k, .int .i64 0, .slice A n c]) (by simp [results, Tryd.results12, go_sem]) rfl ⟨rfl, below_alloc (Below.refl _ _) _⟩
theorem holds_1 : holdsF F0 [1, 1] [2] = true := by decide +kernel
theorem holds_2 : holdsF F0 [] [1] = false := by decide +kernel
theorem text_1 : TextS F0 = ⟨#[40, 97, 48, 32, 117, 110, 116, 105, 108, 32, 97, 49, 41]⟩ := by decide +kernel
theorem times_1 : TimesS F0 = [F0] := by
  unfold TimesS
  rw [if_pos (by decide +kernel)]
  rfl
/-- Two formulas in a block. -/
theorem C_two {w : World} {g : Nat} {a b : S24} (ha : a.f2 = []) (hb : b.f2 = []) (h : w.heap[g]? = some (.cells #[.int .i64 a.f0, .int .i64 a.f1, .slice none 0 0, .int .i64 b.f0, .int .i64 b.f1, .slice none 0 0] 24 (0, 0))) : Kd.C k24 w (some ⟨g, 0, none⟩) 2 [a, b] := by
  have hK : ∀ x : S24, x.f2 = [] → k24.K w x [.int .i64 x.f0, .int .i64 x.f1, .slice none 0 0] := by
    intro x hx
    have := k24_mk w x (A2 := none) (c2 := 0) (by rw [hx]; simp) (by rw [hx]; exact Kd.C_nil _ _)
    rwa [hx] at this
  refine ⟨rfl, by omega, fun _ => ⟨_, rfl, fun j p hj => ?_⟩⟩
  have hs : k24.sz = 3 := rfl
  match j, hj with
  | 0, hj =>
    obtain rfl : a = p := by simpa using hj
    refine ⟨_, rfl, hK a ha, fun i u hu => ?_⟩
    rw [hs, add_at, blk_cell h]
    match i, hu with
    | 0, hu => exact hu
    | 1, hu => exact hu
    | 2, hu => exact hu
  | 1, hj =>
    obtain rfl : b = p := by simpa using hj
    refine ⟨_, rfl, hK b hb, fun i u hu => ?_⟩
    rw [hs, add_at, blk_cell h]
    match i, hu with
    | 0, hu => exact hu
    | 1, hu => exact hu
    | 2, hu => exact hu
theorem C_u32 {w : World} {g : Nat} {l : List Int} {t : TypeId} (h : w.heap[g]? = some (.cells (l.map (Value.int .u32)).toArray t (0, 0))) (hl : 0 < l.length) (hm : l.length < 1000) : Kd.C (Kd.int .u32) w (some ⟨g, 0, none⟩) l.length l := by
  refine Kd.C_of_reads (d := 0) ⟨rfl, by omega, fun _ => ⟨_, rfl, fun j hj => ?_⟩⟩
  rw [add_at, blk_cell h]
  simp [hj]
set_option maxHeartbeats 3200000 in
set_option maxRecDepth 100000 in
theorem awake_calls (w : World) : Calls Tryd.prog 11 #[] w fun e w' => e = .returned (.bool true) ∧ Below w.heap.size w w' := by
  have huF := Tryd.underlying24
  have huW := Tryd.underlying27
  have huL := Tryd.underlying22
  have huu := Tryd.underlying25
  have HBA := Aside0.mk (Below.refl w.heap.size w)
  obtain ⟨k1, hk1⟩ := (Times_ev F0).rounds
  rw [times_1] at hk1
  have HK1 := Aside0.mk hk1
  have HTX := Aside0.mk ((Text_some F0).trans (congrArg some text_1))
  clear hk1
  go_enter Tryd.func11, Tryd.ntmps11
  go_upto_region 2 with (first | (go_at_call 31; refine (atom_calls _ _).mono ?_; rintro e w1 ⟨rfl, hB⟩; have HBn := Aside0.mk (HBA.out.trans (hB.mono HBA.out.size)); clear HBA hB; have HBA := HBn; clear HBn) | (go_at_call 12; refine (op_calls _ _ _ _ _).mono ?_; rintro e w3 ⟨rfl, hB⟩; have HC3 := Aside0.mk (Kd.C_below (C_two (a := atomS 0) (b := atomS 1) rfl rfl (heap_alloc_new _ _)) hB); have HB3 := Aside0.mk (HBA.out.trans (((below_alloc (Below.refl _ _) _).trans (hB.mono (by simp))).mono HBA.out.size)); clear hB))
  obtain ⟨W4, hW4⟩ : ∃ W4, W4 = w3.alloc (.cells #[.int .i64 7, .int .i64 0, .slice (some ⟨w1.heap.size, 0, none⟩) 2 2] 24) := ⟨_, rfl⟩
  have hB4 : Below w3.heap.size w3 W4 := by rw [hW4]; exact below_alloc (Below.refl _ _) _
  have hbx : W4.heap[w3.heap.size]? = some (.cells #[.int .i64 7, .int .i64 0, .slice (some ⟨w1.heap.size, 0, none⟩) 2 2] 24 (0, 0)) := by rw [hW4]; exact heap_alloc_new w3 _
  rw [← hW4]
  have HB4 := Aside0.mk (HB3.out.trans (hB4.mono HB3.out.size))
  have HBX := Aside0.mk hbx
  have HKF := Aside0.mk (fun W (h : Below W4.heap.size W4 W) => Kd.C_below (Kd.C_below HC3.out hB4) h)
  obtain ⟨W5, hW5⟩ : ∃ W5, W5 = (W4.alloc (.cells #[.int .u32 1, .int .u32 1] 49)).alloc (.cells #[.int .u32 2] 49) := ⟨_, rfl⟩
  have hB5 : Below W4.heap.size W4 W5 := by rw [hW5]; exact below_alloc (below_alloc (Below.refl _ _) _) _
  have h1 : W5.heap[W4.heap.size]? = some (.cells #[.int .u32 1, .int .u32 1] 49 (0, 0)) := by rw [hW5]; exact blk_alloc (heap_alloc_new W4 _) _
  have h2 : W5.heap[W4.heap.size + 1]? = some (.cells #[.int .u32 2] 49 (0, 0)) := by
    rw [hW5]
    have := heap_alloc_new (W4.alloc (.cells #[.int .u32 1, .int .u32 1] 49)) (.cells #[.int .u32 2] 49)
    simpa using this
  have HH1 := Aside0.mk (show Calls Tryd.prog 17 #[.agg #[.int .i64 7, .int .i64 0, .slice (some ⟨w1.heap.size, 0, none⟩) 2 2], .agg #[.slice (some ⟨W4.heap.size, 0, none⟩) 2 2, .slice (some ⟨W4.heap.size + 1, 0, none⟩) 1 1]] W5 _ from formula_Holds.calls 7 0 (some ⟨w1.heap.size, 0, none⟩) 2 [atomS 0, atomS 1] (some ⟨W4.heap.size, 0, none⟩) 2 [1, 1] (some ⟨W4.heap.size + 1, 0, none⟩) 1 [2] true W5 (HKF.out W5 hB5) (Nat.le_refl _) (C_u32 (l := [1, 1]) h1 (by decide) (by decide)) (Nat.le_refl _) (C_u32 (l := [2]) h2 (by decide) (by decide)) (Nat.le_refl _) ((holds_some F0 [1, 1] [2]).trans (congrArg some holds_1)))
  have HH2 := Aside0.mk (fun w6 (h : Below W4.heap.size W4 w6) => show Calls Tryd.prog 17 #[.agg #[.int .i64 7, .int .i64 0, .slice (some ⟨w1.heap.size, 0, none⟩) 2 2], .agg #[.slice none 0 0, .slice (some ⟨w6.heap.size, 0, none⟩) 1 1]] (w6.alloc (.cells #[.int .u32 1] 49)) _ from formula_Holds.calls 7 0 (some ⟨w1.heap.size, 0, none⟩) 2 [atomS 0, atomS 1] none 0 [] (some ⟨w6.heap.size, 0, none⟩) 1 [1] false _ (HKF.out _ (below_alloc h _)) (Nat.le_refl _) (Kd.C_nil _ _) (Nat.le_refl _) (C_u32 (l := [1]) (heap_alloc_new w6 _) (by decide) (by decide)) (Nat.le_refl _) ((holds_some F0 [] [1]).trans (congrArg some holds_2)))
  have HTT := Aside0.mk (fun W (h : Below W4.heap.size W4 W) => show Calls Tryd.prog 26 #[.agg #[.int .i64 7, .int .i64 0, .slice (some ⟨w1.heap.size, 0, none⟩) 2 2]] W _ from formula_Text.calls 7 0 (some ⟨w1.heap.size, 0, none⟩) 2 [atomS 0, atomS 1] _ W (HKF.out _ h) (Nat.le_refl _) HTX.out)
  have HTM := Aside0.mk (fun W (h : Below W4.heap.size W4 W) => show Calls Tryd.prog 18 #[.agg #[.int .i64 7, .int .i64 0, .slice (some ⟨w1.heap.size, 0, none⟩) 2 2]] W _ from formula_Times.calls k1 7 0 (some ⟨w1.heap.size, 0, none⟩) 2 [atomS 0, atomS 1] [F0] W (HKF.out _ h) (Nat.le_refl _) HK1.out)
  have HW5 := Aside0.mk hW5
  have HB5 := Aside0.mk hB5
  have b0 : W4.cell? ⟨w3.heap.size, 0, none⟩ = some (.int .i64 7) := (blk_cell hbx 0).trans rfl
  have b1 : W4.cell? ⟨w3.heap.size, 1, none⟩ = some (.int .i64 0) := (blk_cell hbx 1).trans rfl
  have b2 : W4.cell? ⟨w3.heap.size, 2, none⟩ = some (.slice (some ⟨w1.heap.size, 0, none⟩) 2 2) := (blk_cell hbx 2).trans rfl
  clear hW4 hB4 hbx hW5 hB5 h1 h2
  go_wp2_with (first | (go_at_call 17; rw [← HW5.out]; (with_reducible refine HH1.out.mono ?_); rintro e w6 ⟨rfl, hB6⟩; have HB6 := Aside0.mk (HB5.out.trans (hB6.mono HB5.out.size)); have HBX6 := Aside0.mk ((HB6.out.block _ (blk_lt HBX.out)).trans HBX.out); have q0 := (blk_cell HBX6.out 0).trans rfl; have q1 := (blk_cell HBX6.out 1).trans rfl; have q2 := (blk_cell HBX6.out 2).trans rfl; clear hB6) | (go_at_call 17; (with_reducible refine (HH2.out _ HB6.out).mono ?_); rintro e w7 ⟨rfl, hB7⟩; have HB7 := Aside0.mk (HB6.out.trans (((below_alloc (Below.refl _ _) _).trans (hB7.mono (by simp))).mono HB6.out.size)); have HBX7 := Aside0.mk ((HB7.out.block _ (blk_lt HBX.out)).trans HBX.out); have p0 := (blk_cell HBX7.out 0).trans rfl; have p1 := (blk_cell HBX7.out 1).trans rfl; have p2 := (blk_cell HBX7.out 2).trans rfl; clear hB7) | (go_at_call 26; (with_reducible refine (HTT.out _ HB7.out).mono ?_); rintro e w8 ⟨rfl, hB8⟩; have HB8 := Aside0.mk (HB7.out.trans (hB8.mono HB7.out.size)); have HBX8 := Aside0.mk ((HB8.out.block _ (blk_lt HBX.out)).trans HBX.out); have o0 := (blk_cell HBX8.out 0).trans rfl; have o1 := (blk_cell HBX8.out 1).trans rfl; have o2 := (blk_cell HBX8.out 2).trans rfl; clear hB8) | (go_at_call 18; (with_reducible refine (HTM.out _ HB8.out).mono ?_); rintro e w9 ⟨v9, rfl, hR9, hB9⟩; obtain ⟨g9, c9, e9, _⟩ := Kd.N_form hR9 (by decide); subst e9; have HB9 := Aside0.mk (HB8.out.trans (hB9.mono HB8.out.size)); clear hR9 hB9))
  go_ret
  exact ⟨rfl, HB4.out.trans (HB9.out.mono HB4.out.size)⟩
end Go.Proofs.YtjjnokodkeekhaaDoor.X

namespace Go.Proofs.YtjjnokodkeekhaaDoor.X
open Go.RowKit Go.Proofs.YtjjnokodkeekhaaDoorW.PrintWords Go.Proofs.YtjjnokodkeekhaaDoorW.PrintLast Go.Proofs.YtjjnokodkeekhaaDoorW.PrintMore
open Go.Proofs.YtjjnokodkeekhaaDoor.P Go.Proofs.YtjjnokodkeekhaaDoor.Evx
set_option linter.unusedSimpArgs false
set_option linter.unusedVariables false
/-- A block made behind the world W, with its cells. -/
def Lay (W w : World) (g : Nat) (cs : Array Value) (t : TypeId) : Prop := W.heap.size ≤ g ∧ w.heap[g]? = some (.cells cs t (0, 0))
section
variable {W w w1 : World} {g p : Nat} {cs : Array Value} {t : TypeId}
theorem Lay.alloc (h : Lay W w g cs t) (o : Obj) : Lay W (w.alloc o) g cs t := ⟨h.1, blk_alloc h.2 o⟩
theorem Lay.below (h : Lay W w g cs t) (hB : Below w.heap.size w w1) : Lay W w1 g cs t := ⟨h.1, (hB.block _ (blk_lt h.2)).trans h.2⟩
theorem Lay.new (hB : Below W.heap.size W w) (cs : Array Value) (t : TypeId) : Lay W (w.alloc (.cells cs t)) w.heap.size cs t := ⟨hB.size, heap_alloc_new w _⟩
end
/-- A struct of two cells is stored. -/
def put2 (w : World) (p : Nat) (x y : Value) : World := (w.setCell ⟨p, 0, none⟩ x).setCell ⟨p, 1, none⟩ y
section
variable {W w w1 : World} {g p : Nat} {cs : Array Value} {t : TypeId}
theorem below_put2 (hB : Below W.heap.size W w) (hp : W.heap.size ≤ p) (x y : Value) : Below W.heap.size W (put2 w p x y) := (hB.setCell hp x).setCell hp y
theorem Lay.put2 {a b : Value} (h : Lay W w p #[a, b] t) (x y : Value) : Lay W (put2 w p x y) p #[x, y] t := ⟨h.1, (blk_set (blk_set h.2 0 x) 1 y).trans rfl⟩
theorem Lay.grown (h : Lay W w g cs t) {row : Option Nat} (hg : w.grownBy w1 row) (hn : some g ≠ row) : Lay W w1 g cs t := ⟨h.1, blk_grown h.2 hg hn⟩
end
/-- Two rows whose blocks are not one. -/
def Apart (u v : Value) : Prop := ∀ k, u.ownBlock = some k → v.ownBlock ≠ some k
section
variable {α : Type} {d : Kd α} {e base : Nat} {ok : Nat → Prop} {W : World} {u u1 v : Value} {xs : List α}
theorem Apart.symm (h : Apart u v) : Apart v u := fun k hv hu => h k hu hv
theorem apart_keep (h : Apart u v) : ∀ k, u.ownBlock = some k → some k ≠ v.ownBlock := fun k hu e => h k hu e.symm
theorem apart_new (h : d.R e W base ok v xs) (hat : ∃ b, u.ownBlock = some b ∧ W.heap.size ≤ b) : Apart u v := fun k hu hv => by
  obtain ⟨b, hb, hle⟩ := hat
  rw [hb] at hu
  cases hu
  have := Kd.R_lt h _ hv
  omega
theorem apart_step (n : Apart u v) (h : d.R e W base ok v xs) (hat : u1.ownBlock = u.ownBlock ∨ ∃ b, u1.ownBlock = some b ∧ W.heap.size ≤ b) : Apart u1 v := by
  rcases hat with h1 | h1
  · intro k hk
    rw [h1] at hk
    exact n k hk
  · exact apart_new h h1
end
theorem R_put2 {w : World} {base p : Nat} {ok : Nat → Prop} {v a b : Value} {xs : List Int} {t : TypeId} (h : Kd.R (Kd.int .u32) 49 w base ok v xs) (hb : w.heap[p]? = some (.cells #[a, b] t (0, 0))) (ht : (49 : Nat) ≠ t) (x y : Value) : Kd.R (Kd.int .u32) 49 (put2 w p x y) base ok v xs := by
  have hq : ∀ q, q ∈ (49 : Nat) :: (Kd.int .u32).E → q ≠ t := by
    intro q hq
    rcases List.mem_cons.1 hq with e | e
    · rw [e]; exact ht
    · cases e
  exact Kd.R_set (Kd.R_set h hb hq 0 x) (blk_set hb 0 x) hq 1 y
end Go.Proofs.YtjjnokodkeekhaaDoor.X

namespace Go.Proofs.YtjjnokodkeekhaaDoor.X
open Go.RowKit Go.Proofs.YtjjnokodkeekhaaDoorW.PrintWords Go.Proofs.YtjjnokodkeekhaaDoorW.PrintMore
set_option linter.unusedVariables false
set_option linter.unusedSimpArgs false
/-- The value at place i, d places ahead of the end, where v stands behind the end. -/
def pvd (f : Nat → Bool → Bool) (v : Bool) : Nat → Nat → Bool
  | _, 0 => v
  | i, d + 1 => f i (pvd f v (i + 1) d)
theorem getD_set (l : List Bool) (i j : Nat) (x : Bool) (hi : i < l.length) : (l.set i x).getD j false = if j = i then x else l.getD j false := by
  rw [List.getD_eq_getElem?_getD, List.getElem?_set, List.getD_eq_getElem?_getD]
  by_cases h : i = j
  · subst h
    rw [if_pos rfl, if_pos rfl, if_pos hi]; rfl
  · rw [if_neg h, if_neg (fun e => h e.symm)]
theorem pass_spec (f : Nat → Bool → Bool) (n b : Nat) (v : Bool) : ∀ (j : Nat) (out : List Bool), j ≤ n → b < n → out.length = n → (∀ i, j ≤ i → i < n → out.getD i false = pvd f v i (n - i)) → (j = n → out.getD b false = v) → ∀ i, i < n → (passD f n b j out).getD i false = pvd f v i (n - i)
  | 0, out, _, _, _, h, _, i, hi => by rw [passD]; exact h i (Nat.zero_le _) hi
  | j + 1, out, hj, hb, hl, h, hv, i, hi => by
    rw [passD]
    have hx : f j (out.getD (nextS n b j) false) = pvd f v j (n - j) := by
      unfold nextS
      by_cases hlt : j + 1 < n
      · rw [if_pos hlt, h (j + 1) (Nat.le_refl _) hlt, show n - j = (n - (j + 1)) + 1 by omega]; rfl
      · rw [if_neg hlt, hv (by omega), show n - j = 1 by omega]; rfl
    refine pass_spec f n b v j _ (by omega) hb (by simp [hl]) (fun i' h1 h2 => ?_) (fun e => by omega) i hi
    rw [getD_set _ _ _ _ (by omega)]
    by_cases e : i' = j
    · subst e; rw [if_pos rfl]; exact hx
    · rw [if_neg e]; exact h i' (by omega) h2
theorem pass_get (f : Nat → Bool → Bool) (n b : Nat) (out : List Bool) (hb : b < n) (hl : out.length = n) (i : Nat) (hi : i < n) : (passD f n b n out).getD i false = pvd f (out.getD b false) i (n - i) :=
  pass_spec f n b _ n out (Nat.le_refl _) hb hl (fun i h1 h2 => by omega) (fun _ => rfl) i hi
theorem rep_getD (n : Nat) (x : Bool) (b : Nat) (hb : b < n) : (List.replicate n x).getD b false = x := by
  rw [List.getD_eq_getElem?_getD, List.getElem?_replicate, if_pos hb]; rfl
theorem settle_get (f : Nat → Bool → Bool) (n b : Nat) (first : Bool) (hb : b < n) (i : Nat) (hi : i < n) : (settleS f n b first).getD i false = pvd f (pvd f first b (n - b)) i (n - i) := by
  unfold settleS
  rw [pass_get f n b _ hb (by simp [len_pass]) i hi, pass_get f n b _ hb (by simp) b hb, rep_getD n first b hb]
def MonoB (f : Nat → Bool → Bool) : Prop := ∀ i, f i false = true → f i true = true
theorem pvd_mono {f : Nat → Bool → Bool} (h : MonoB f) : ∀ (d i : Nat), pvd f false i d = true → pvd f true i d = true
  | 0, i, h0 => by cases h0
  | d + 1, i, h0 => by
    simp only [pvd] at h0 ⊢
    cases h1 : pvd f false (i + 1) d with
    | true => rw [h1] at h0; rw [pvd_mono h d (i + 1) h1]; exact h0
    | false =>
      rw [h1] at h0
      cases pvd f true (i + 1) d with
      | true => exact h i h0
      | false => exact h0
theorem pvd_idem {f : Nat → Bool → Bool} (h : MonoB f) (d i : Nat) (v : Bool) : pvd f (pvd f v i d) i d = pvd f v i d := by
  have hm := pvd_mono h d i
  cases v <;> cases h1 : pvd f false i d <;> cases h2 : pvd f true i d <;> simp_all
theorem ext_getD {l m : List Bool} {n : Nat} (hl : l.length = n) (hm : m.length = n) (h : ∀ i, i < n → l.getD i false = m.getD i false) : l = m := by
  apply List.ext_getElem (by omega)
  intro i h1 h2
  have := h i (by omega)
  rwa [List.getD_eq_getElem?_getD, List.getD_eq_getElem?_getD, List.getElem?_eq_getElem h1, List.getElem?_eq_getElem h2] at this
/-- A fixed point. -/
theorem settle_fix {f : Nat → Bool → Bool} (h : MonoB f) (n b : Nat) (first : Bool) (hb : b < n) (i : Nat) (hi : i < n) : (settleS f n b first).getD i false = f i ((settleS f n b first).getD (nextS n b i) false) := by
  rw [settle_get f n b first hb i hi, settle_get f n b first hb _ (nextS_lt hb)]
  unfold nextS
  by_cases hlt : i + 1 < n
  · rw [if_pos hlt, show n - i = (n - (i + 1)) + 1 by omega]; rfl
  · rw [if_neg hlt, pvd_idem h, show n - i = 1 by omega]; rfl
/-- What does not look at the next place. -/
theorem settle_const (f : Nat → Bool) (n b : Nat) (first : Bool) (hb : b < n) : settleS (fun i _ => f i) n b first = (List.range n).map f := by
  refine ext_getD (len_settle _ _ _ _) (by simp) (fun i hi => ?_)
  rw [settle_get _ n b first hb i hi, show n - i = (n - (i + 1)) + 1 by omega]
  simp [pvd, hi]
theorem mono_const (f : Nat → Bool) : MonoB (fun i _ => f i) := fun _ h => h
theorem mono_until (p q : Nat → Bool) : MonoB (fun i nx => q i || p i && nx) := fun i h => by cases h1 : q i <;> cases h2 : p i <;> simp_all
end Go.Proofs.YtjjnokodkeekhaaDoor.X

namespace Go.Proofs.YtjjnokodkeekhaaDoor.X
open Go.RowKit Go.Proofs.YtjjnokodkeekhaaDoorW.PrintWords Go.Proofs.YtjjnokodkeekhaaDoorW.PrintMore
open Go.Proofs.YtjjnokodkeekhaaDoor.P
set_option linter.unusedVariables false
set_option linter.unusedSimpArgs false
section
variable {ls : List Int} {b i : Nat} {m : Int} {f g : S24}
theorem const_at (φ : Nat → Bool) (n b : Nat) (first : Bool) (hb : b < n) (i : Nat) (hi : i < n) : (settleS (fun i _ => φ i) n b first).getD i false = φ i := by
  rw [settle_const φ n b first hb, List.getD_eq_getElem?_getD, List.getElem?_map, List.getElem?_range hi]
  rfl
end
theorem pvd_not (f1 f2 : Nat → Bool → Bool) (n : Nat) (h : ∀ i nx, i < n → f2 i (!nx) = !f1 i nx) (v : Bool) : ∀ (d i : Nat), i + d ≤ n → pvd f2 (!v) i d = !pvd f1 v i d
  | 0, i, _ => rfl
  | d + 1, i, hi => by simp only [pvd]; rw [pvd_not f1 f2 n h v d (i + 1) (by omega), h i _ (by omega)]
theorem settle_not (F G : Nat → Bool → Bool) (n b : Nat) (hb : b < n) (h : ∀ i nx, i < n → G i (!nx) = !F i nx) (i : Nat) (hi : i < n) : (!(settleS F n b false).getD i false) = (settleS G n b true).getD i false := by
  rw [settle_get _ _ _ _ hb i hi, settle_get _ _ _ _ hb i hi, ← pvd_not F G n h _ (n - i) i (by omega), ← pvd_not F G n h _ (n - b) b (by omega)]
  rfl
end Go.Proofs.YtjjnokodkeekhaaDoor.X

namespace Go.Proofs.YtjjnokodkeekhaaDoor.X
open Go.RowKit Go.Proofs.YtjjnokodkeekhaaDoorW.PrintWords Go.Proofs.YtjjnokodkeekhaaDoorW.PrintMore
open Go.Proofs.YtjjnokodkeekhaaDoor.P
set_option linter.unusedVariables false
set_option linter.unusedSimpArgs false
/-- The place after t steps from i. -/
def stepN (n b : Nat) : Nat → Nat → Nat
  | 0, i => i
  | t + 1, i => stepN n b t (nextS n b i)
theorem stepN_lt {n b : Nat} (hb : b < n) : ∀ (t i : Nat), i < n → stepN n b t i < n
  | 0, i, hi => hi
  | t + 1, i, hi => stepN_lt hb t _ (nextS_lt hb)
theorem stepN_succ (n b : Nat) : ∀ (t i : Nat), stepN n b (t + 1) i = nextS n b (stepN n b t i)
  | 0, i => rfl
  | t + 1, i => by
    show stepN n b (t + 1) (nextS n b i) = _
    rw [stepN_succ n b t (nextS n b i)]; rfl
theorem stepN_plus (n b : Nat) : ∀ (t i : Nat), i + t < n → stepN n b t i = i + t
  | 0, i, _ => rfl
  | t + 1, i, h => by
    show stepN n b t (nextS n b i) = _
    have : nextS n b i = i + 1 := by unfold nextS; rw [if_pos (by omega)]
    rw [this, stepN_plus n b t (i + 1) (by omega)]; omega
theorem stepN_add (n b : Nat) : ∀ (s t i : Nat), stepN n b (s + t) i = stepN n b t (stepN n b s i)
  | 0, t, i => by rw [Nat.zero_add]; rfl
  | s + 1, t, i => by
    rw [show s + 1 + t = (s + t) + 1 by omega]
    show stepN n b (s + t) (nextS n b i) = _
    rw [stepN_add n b s t (nextS n b i)]; rfl
/-- At some place on the way from i the second, and ahead of it always the first. -/
def UntilAt (x y : Nat → Bool) (n b i : Nat) : Prop := ∃ k, y (stepN n b k i) = true ∧ ∀ j, j < k → x (stepN n b j i) = true
theorem pvd_find (x y : Nat → Bool) (v : Bool) : ∀ (d i : Nat), pvd (fun i nx => y i || x i && nx) v i d = true → (∃ k, k < d ∧ y (i + k) = true ∧ ∀ j, j < k → x (i + j) = true) ∨ (v = true ∧ ∀ j, j < d → x (i + j) = true)
  | 0, i, h => .inr ⟨h, fun j hj => by omega⟩
  | d + 1, i, h => by
    simp only [pvd, Bool.or_eq_true, Bool.and_eq_true] at h
    rcases h with h | ⟨h1, h2⟩
    · exact .inl ⟨0, by omega, h, fun j hj => by omega⟩
    · rcases pvd_find x y v d (i + 1) h2 with ⟨k, k1, k2, k3⟩ | ⟨k1, k2⟩
      · refine .inl ⟨k + 1, by omega, by rw [← k2]; congr 1; omega, fun j hj => ?_⟩
        match j with
        | 0 => exact h1
        | j + 1 => rw [← k3 j (by omega)]; congr 1; omega
      · refine .inr ⟨k1, fun j hj => ?_⟩
        match j with
        | 0 => exact h1
        | j + 1 => rw [← k2 j (by omega)]; congr 1; omega
theorem until_at (x y : Nat → Bool) (n b : Nat) (hb : b < n) (i : Nat) (hi : i < n) : (settleS (fun i nx => y i || x i && nx) n b false).getD i false = true ↔ UntilAt x y n b i := by
  constructor
  · intro h
    rw [settle_get _ _ _ _ hb i hi] at h
    rcases pvd_find x y _ _ _ h with ⟨k, k1, k2, k3⟩ | ⟨k1, k2⟩
    · exact ⟨k, by rw [stepN_plus n b k i (by omega)]; exact k2, fun j hj => by rw [stepN_plus n b j i (by omega)]; exact k3 j hj⟩
    · rcases pvd_find x y _ _ _ k1 with ⟨k, c1, c2, c3⟩ | ⟨c1, _⟩
      · have hw : stepN n b (n - i) i = b := by
          rw [show n - i = (n - i - 1) + 1 by omega, stepN_succ, stepN_plus n b _ i (by omega)]
          unfold nextS; rw [if_neg (by omega)]
        refine ⟨(n - i) + k, by rw [stepN_add, hw, stepN_plus n b k b (by omega)]; exact c2, fun j hj => ?_⟩
        by_cases hj2 : j < n - i
        · rw [stepN_plus n b j i (by omega)]; exact k2 j hj2
        · rw [show j = (n - i) + (j - (n - i)) by omega, stepN_add, hw, stepN_plus n b _ b (by omega)]
          exact c3 _ (by omega)
      · cases c1
  · rintro ⟨k, hk, hx⟩
    induction k generalizing i with
    | zero =>
      rw [settle_fix (mono_until x y) _ _ false hb i hi]
      have : y i = true := hk
      simp [this]
    | succ k ih =>
      rw [settle_fix (mono_until x y) _ _ false hb i hi]
      have h0 : x i = true := hx 0 (by omega)
      have := ih (nextS n b i) (nextS_lt hb) hk (fun j hj => hx (j + 1) (by omega))
      show (y i || x i && _) = true
      rw [h0, this]; simp
theorem bool_iff {x y : Bool} (h : x = true ↔ y = true) : x = y := by cases x <;> cases y <;> simp_all
/-- Two words with the same letters from a place on. -/
def Alike (l1 : List Int) (b1 i1 : Nat) (l2 : List Int) (b2 i2 : Nat) : Prop := ∀ t, l1.getD (stepN l1.length b1 t i1) 0 = l2.getD (stepN l2.length b2 t i2) 0
theorem Alike.step {l1 l2 : List Int} {b1 i1 b2 i2 : Nat} (h : Alike l1 b1 i1 l2 b2 i2) (s : Nat) : Alike l1 b1 (stepN l1.length b1 s i1) l2 b2 (stepN l2.length b2 s i2) := fun t => by
  have := h (s + t)
  rwa [stepN_add, stepN_add] at this
mutual
/-- What a formula says at a place hangs on the letters from there on. -/
theorem row_alike (l1 l2 : List Int) (b1 b2 : Nat) (h1 : b1 < l1.length) (h2 : b2 < l2.length) : ∀ (s : S24), soundS s = true → ∀ i1 i2, i1 < l1.length → i2 < l2.length → Alike l1 b1 i1 l2 b2 i2 → (rowS l1 b1 s).getD i1 false = (rowS l2 b2 s).getD i2 false
  | ⟨op, m, kids⟩, hs, i1, i2, hi1, hi2, ha => by
    have hk := row_alikeL l1 l2 b1 b2 h1 h2 kids (sound_kids_all hs)
    have hx : ∀ t, ((rowL l1 b1 kids).getD 0 []).getD (stepN l1.length b1 t i1) false = ((rowL l2 b2 kids).getD 0 []).getD (stepN l2.length b2 t i2) false := fun t => hk 0 _ _ (stepN_lt h1 t _ hi1) (stepN_lt h2 t _ hi2) (ha.step t)
    have hy : ∀ t, ((rowL l1 b1 kids).getD 1 []).getD (stepN l1.length b1 t i1) false = ((rowL l2 b2 kids).getD 1 []).getD (stepN l2.length b2 t i2) false := fun t => hk 1 _ _ (stepN_lt h1 t _ hi1) (stepN_lt h2 t _ hi2) (ha.step t)
    have hx0 := hx 0
    have hy0 := hy 0
    have hx1 := hx 1
    simp only [stepN] at hx0 hy0 hx1
    rw [rowS, rowS]
    generalize (rowL l1 b1 kids).getD 0 [] = x1 at *
    generalize (rowL l2 b2 kids).getD 0 [] = x2 at *
    generalize (rowL l1 b1 kids).getD 1 [] = y1 at *
    generalize (rowL l2 b2 kids).getD 1 [] = y2 at *
    rcases op_cases (sound_parts hs).1 with h | h | h | h | h | h | h | h <;> (simp only at h; subst h)
    · exact (const_at (fun _ => true) _ _ false h1 i1 hi1).trans (const_at (fun _ => true) _ _ false h2 i2 hi2).symm
    · have h0 := ha 0
      simp only [stepN] at h0
      exact (const_at (fun i => bitS (l1.getD i 0) m) _ _ false h1 i1 hi1).trans ((congrArg (fun z => bitS z m) h0).trans (const_at (fun i => bitS (l2.getD i 0) m) _ _ false h2 i2 hi2).symm)
    · exact (const_at (fun i => !(x1.getD i false)) _ _ false h1 i1 hi1).trans ((congrArg (fun z => !z) hx0).trans (const_at (fun i => !(x2.getD i false)) _ _ false h2 i2 hi2).symm)
    · refine (const_at (fun i => x1.getD i false && y1.getD i false) _ _ false h1 i1 hi1).trans (Eq.trans ?_ (const_at (fun i => x2.getD i false && y2.getD i false) _ _ false h2 i2 hi2).symm)
      rw [hx0, hy0]
    · refine (const_at (fun i => x1.getD i false || y1.getD i false) _ _ false h1 i1 hi1).trans (Eq.trans ?_ (const_at (fun i => x2.getD i false || y2.getD i false) _ _ false h2 i2 hi2).symm)
      rw [hx0, hy0]
    · exact (const_at (fun i => x1.getD (nextS l1.length b1 i) false) _ _ false h1 i1 hi1).trans (hx1.trans (const_at (fun i => x2.getD (nextS l2.length b2 i) false) _ _ false h2 i2 hi2).symm)
    · refine bool_iff ((until_at (fun i => x1.getD i false) (fun i => y1.getD i false) _ _ h1 i1 hi1).trans (Iff.trans ?_ (until_at (fun i => x2.getD i false) (fun i => y2.getD i false) _ _ h2 i2 hi2).symm))
      unfold UntilAt
      simp only [hx, hy]
    · have g1 := settle_not (fun i nx => !(y1.getD i false) || !(x1.getD i false) && nx) (fun i nx => y1.getD i false && (x1.getD i false || nx)) l1.length b1 h1 (fun j nx _ => by cases y1.getD j false <;> cases x1.getD j false <;> cases nx <;> rfl) i1 hi1
      have g2 := settle_not (fun i nx => !(y2.getD i false) || !(x2.getD i false) && nx) (fun i nx => y2.getD i false && (x2.getD i false || nx)) l2.length b2 h2 (fun j nx _ => by cases y2.getD j false <;> cases x2.getD j false <;> cases nx <;> rfl) i2 hi2
      refine g1.symm.trans (Eq.trans ?_ g2)
      congr 1
      refine bool_iff ((until_at (fun i => !(x1.getD i false)) (fun i => !(y1.getD i false)) _ _ h1 i1 hi1).trans (Iff.trans ?_ (until_at (fun i => !(x2.getD i false)) (fun i => !(y2.getD i false)) _ _ h2 i2 hi2).symm))
      unfold UntilAt
      simp only [hx, hy]
theorem row_alikeL (l1 l2 : List Int) (b1 b2 : Nat) (h1 : b1 < l1.length) (h2 : b2 < l2.length) : ∀ (l : List S24), soundL l = true → ∀ j i1 i2, i1 < l1.length → i2 < l2.length → Alike l1 b1 i1 l2 b2 i2 → ((rowL l1 b1 l).getD j []).getD i1 false = ((rowL l2 b2 l).getD j []).getD i2 false
  | [], _, j, i1, i2, _, _, _ => by simp [rowL]
  | a :: r, hs, 0, i1, i2, hi1, hi2, ha => by
    simp only [soundL, Bool.and_eq_true] at hs
    have := row_alike l1 l2 b1 b2 h1 h2 a hs.1 i1 i2 hi1 hi2 ha
    simpa [rowL] using this
  | a :: r, hs, j + 1, i1, i2, hi1, hi2, ha => by
    simp only [soundL, Bool.and_eq_true] at hs
    have := row_alikeL l1 l2 b1 b2 h1 h2 r hs.2 j i1 i2 hi1 hi2 ha
    simpa [rowL] using this
end
/-- The place after t steps from the first. -/
theorem step_pos (n b : Nat) (hb : b < n) : ∀ t, stepN n b t 0 = if t < b then t else b + (t - b) % (n - b)
  | 0 => by
    by_cases h : 0 < b
    · rw [if_pos h]; rfl
    · rw [if_neg h, show b = 0 by omega, Nat.sub_self, Nat.zero_mod]; rfl
  | t + 1 => by
    rw [stepN_succ, step_pos n b hb t]
    by_cases h : t < b
    · rw [if_pos h]
      unfold nextS
      rw [if_pos (by omega)]
      by_cases h2 : t + 1 < b
      · rw [if_pos h2]
      · rw [if_neg h2, show t + 1 - b = 0 by omega, Nat.zero_mod]; omega
    · rw [if_neg h, if_neg (by omega)]
      have hL : 0 < n - b := by omega
      have hm := Nat.mod_lt (t - b) hL
      have he : (t + 1 - b) % (n - b) = ((t - b) % (n - b) + 1) % (n - b) := by rw [show t + 1 - b = (t - b) + 1 by omega, Nat.mod_add_mod]
      rw [he]
      unfold nextS
      by_cases h2 : b + (t - b) % (n - b) + 1 < n
      · rw [if_pos h2, Nat.mod_eq_of_lt (by omega : (t - b) % (n - b) + 1 < n - b)]; omega
      · rw [if_neg h2, show (t - b) % (n - b) + 1 = n - b by omega, Nat.mod_self]; rfl
/-- The letter at moment t of a word. -/
def wordAt (st lp : List Int) (t : Nat) : Int := if t < st.length then st.getD t 0 else lp.getD ((t - st.length) % lp.length) 0
theorem letter_at (st lp : List Int) (h : 1 ≤ lp.length) (t : Nat) : (st ++ lp).getD (stepN (st ++ lp).length st.length t 0) 0 = wordAt st lp t := by
  rw [step_pos _ _ (by rw [List.length_append]; omega)]
  unfold wordAt
  by_cases ht : t < st.length
  · rw [if_pos ht, if_pos ht]
    rw [List.getD_eq_getElem?_getD, List.getElem?_append_left ht, List.getD_eq_getElem?_getD]
  · rw [if_neg ht, if_neg ht, List.length_append, show st.length + lp.length - st.length = lp.length by omega]
    rw [List.getD_eq_getElem?_getD, List.getElem?_append_right (by omega), List.getD_eq_getElem?_getD, show st.length + (t - st.length) % lp.length - st.length = (t - st.length) % lp.length by omega]
/-- Words with the same letters fulfil the same. -/
theorem words_alike (s1 p1 s2 p2 : List Int) (h1 : 1 ≤ p1.length) (h2 : 1 ≤ p2.length) (h : ∀ t, wordAt s1 p1 t = wordAt s2 p2 t) (s : S24) (hs : soundS s = true) : (rowS (s1 ++ p1) s1.length s).getD 0 false = (rowS (s2 ++ p2) s2.length s).getD 0 false := by
  refine row_alike _ _ _ _ (by rw [List.length_append]; omega) (by rw [List.length_append]; omega) s hs 0 0 (by rw [List.length_append]; omega) (by rw [List.length_append]; omega) (fun t => ?_)
  rw [letter_at s1 p1 h1, letter_at s2 p2 h2]
  exact h t
theorem word_twice (st lp : List Int) (h : 1 ≤ lp.length) (t : Nat) : wordAt st (lp ++ lp) t = wordAt st lp t := by
  unfold wordAt
  by_cases ht : t < st.length
  · rw [if_pos ht, if_pos ht]
  · rw [if_neg ht, if_neg ht, List.length_append]
    generalize t - st.length = u
    have e : u % (lp.length + lp.length) % lp.length = u % lp.length := Nat.mod_mod_of_dvd u ⟨2, by omega⟩
    have hlt := Nat.mod_lt u (show 0 < lp.length + lp.length by omega)
    rw [← e]
    generalize u % (lp.length + lp.length) = v at hlt
    by_cases hv : v < lp.length
    · rw [Nat.mod_eq_of_lt hv, List.getD_eq_getElem?_getD, List.getElem?_append_left hv, List.getD_eq_getElem?_getD]
    · rw [Nat.mod_eq_sub_mod (by omega), Nat.mod_eq_of_lt (by omega : v - lp.length < lp.length), List.getD_eq_getElem?_getD, List.getElem?_append_right (by omega), List.getD_eq_getElem?_getD]
theorem word_later (st lp : List Int) (k : Nat) (hk : k < lp.length) (t : Nat) : wordAt (st ++ lp.take k) (lp.drop k ++ lp.take k) t = wordAt st lp t := by
  unfold wordAt
  have hl : (lp.drop k ++ lp.take k).length = lp.length := by rw [List.length_append, List.length_drop, List.length_take]; omega
  have hs : (st ++ lp.take k).length = st.length + k := by rw [List.length_append, List.length_take]; omega
  rw [hl, hs]
  by_cases h1 : t < st.length
  · rw [if_pos (by omega), if_pos h1, List.getD_eq_getElem?_getD, List.getElem?_append_left h1, List.getD_eq_getElem?_getD]
  · rw [if_neg h1]
    by_cases h2 : t < st.length + k
    · rw [if_pos h2, Nat.mod_eq_of_lt (by omega : t - st.length < lp.length), List.getD_eq_getElem?_getD, List.getElem?_append_right (by omega), List.getElem?_take_of_lt (by omega), List.getD_eq_getElem?_getD]
    · rw [if_neg h2]
      obtain ⟨u, hu⟩ : ∃ u, u = t - (st.length + k) := ⟨_, rfl⟩
      have e : t - st.length = u + k := by omega
      rw [← hu, e]
      have hlt := Nat.mod_lt u (show 0 < lp.length by omega)
      have e2 : (u + k) % lp.length = (u % lp.length + k) % lp.length := by rw [Nat.mod_add_mod]
      rw [e2]
      generalize u % lp.length = v at hlt
      by_cases hv : v < lp.length - k
      · rw [Nat.mod_eq_of_lt (by omega : v + k < lp.length), List.getD_eq_getElem?_getD, List.getElem?_append_left (by rw [List.length_drop]; exact hv), List.getElem?_drop, List.getD_eq_getElem?_getD, Nat.add_comm]
      · rw [Nat.mod_eq_sub_mod (by omega), Nat.mod_eq_of_lt (by omega : v + k - lp.length < lp.length), List.getD_eq_getElem?_getD, List.getElem?_append_right (by rw [List.length_drop]; omega), List.length_drop, List.getElem?_take_of_lt (by omega), List.getD_eq_getElem?_getD]
        congr 2
        omega
end Go.Proofs.YtjjnokodkeekhaaDoor.X

namespace Go.Proofs.YtjjnokodkeekhaaDoor.X
open Go.RowKit Go.Proofs.YtjjnokodkeekhaaDoorW.PrintWords Go.Proofs.YtjjnokodkeekhaaDoorW.PrintMore
open Go.Proofs.YtjjnokodkeekhaaDoor.P Go.Proofs.YtjjnokodkeekhaaDoor.Evx
set_option linter.unusedVariables false
set_option linter.unusedSimpArgs false
/-- Smaller. -/
structure SubF (t s : S24) : Prop where
  pn : nS t ≤ nS s
  ph : hS t ≤ hS s
  pt : tnS t ≤ tnS s
  ps : soundS s = true → soundS t = true
theorem SubF.refl (s : S24) : SubF s s := ⟨Nat.le_refl _, Nat.le_refl _, Nat.le_refl _, id⟩
theorem SubF.trans {a b c : S24} (h : SubF a b) (k : SubF b c) : SubF a c := ⟨Nat.le_trans h.pn k.pn, Nat.le_trans h.ph k.ph, Nat.le_trans h.pt k.pt, fun x => h.ps (k.ps x)⟩
end Go.Proofs.YtjjnokodkeekhaaDoor.X

namespace Go.Proofs.YtjjnokodkeekhaaDoor.X
open Go.RowKit Go.Proofs.YtjjnokodkeekhaaDoorW.PrintWords Go.Proofs.YtjjnokodkeekhaaDoorW.PrintMore
open Go.Proofs.YtjjnokodkeekhaaDoor.P Go.Proofs.YtjjnokodkeekhaaDoor.Evx
set_option linter.unusedVariables false
set_option linter.unusedSimpArgs false
theorem word_loop {st lp : List Int} (h : wordS st lp = true) : st.length < (st ++ lp).length := by
  unfold wordS at h
  have := of_decide_eq_true h
  rw [List.length_append]
  omega
theorem word_small {st lp : List Int} (h : wordS st lp = true) : st.length ≤ 3000 ∧ 1 ≤ lp.length ∧ lp.length ≤ 27000 := of_decide_eq_true h
theorem rowF_of {s : S24} {st lp : List Int} (h : mayF s = 0) (hw : wordS st lp = true) : rowF s st lp = rowS (st ++ lp) st.length s := by unfold rowF; rw [if_pos ⟨h, hw⟩]
end Go.Proofs.YtjjnokodkeekhaaDoor.X

namespace Go.Proofs.YtjjnokodkeekhaaDoor.X
open Go.RowKit Go.Proofs.YtjjnokodkeekhaaDoorW.PrintWords Go.Proofs.YtjjnokodkeekhaaDoorW.PrintMore
open Go.Proofs.YtjjnokodkeekhaaDoor.P Go.Proofs.YtjjnokodkeekhaaDoor.Evx
set_option linter.unusedVariables false
set_option linter.unusedSimpArgs false
theorem holds_of {s : S24} {st lp : List Int} (h : mayF s = 0) (hw : wordS st lp = true) : holdsF s st lp = (rowS (st ++ lp) st.length s).getD 0 false := by
  have hl := word_loop hw
  unfold holdsF
  rw [rowF_of h hw, len_row, decide_eq_true (by omega), Bool.true_and]
end Go.Proofs.YtjjnokodkeekhaaDoor.X

namespace Go.Proofs.YtjjnokodkeekhaaDoor.X
open Go.RowKit Go.Proofs.YtjjnokodkeekhaaDoorW.PrintWords Go.Proofs.YtjjnokodkeekhaaDoorW.PrintMore
open Go.Proofs.YtjjnokodkeekhaaDoor.P Go.Proofs.YtjjnokodkeekhaaDoor.Evx
set_option linter.unusedVariables false
set_option linter.unusedSimpArgs false
theorem holds_word {s : S24} (h : mayF s = 0) {s1 p1 s2 p2 : List Int} (h1 : wordS s1 p1 = true) (h2 : wordS s2 p2 = true) (ha : ∀ t, wordAt s1 p1 t = wordAt s2 p2 t) : holdsF s s1 p1 = holdsF s s2 p2 := by
  rw [holds_of h h1, holds_of h h2]
  exact words_alike s1 p1 s2 p2 (word_small h1).2.1 (word_small h2).2.1 ha s (may_zero h).2.2.2
def Brief (st lp : List Int) : Prop := st.length ≤ 60 ∧ 1 ≤ lp.length ∧ lp.length ≤ 60
theorem holds_twice {s : S24} (h : mayF s = 0) {st lp : List Int} (hb : Brief st lp) : holdsF s st (lp ++ lp) = holdsF s st lp := by
  obtain ⟨h1, h2, h3⟩ := hb
  exact holds_word h (decide_eq_true (by rw [List.length_append]; omega)) (decide_eq_true (by omega)) (word_twice st lp h2)
theorem holds_later {s : S24} (h : mayF s = 0) {st lp : List Int} (hb : Brief st lp) (k : Nat) (hk : k < lp.length) : holdsF s (st ++ lp.take k) (lp.drop k ++ lp.take k) = holdsF s st lp := by
  obtain ⟨h1, h2, h3⟩ := hb
  exact holds_word h (decide_eq_true (by simp only [List.length_append, List.length_take, List.length_drop]; omega)) (decide_eq_true (by omega)) (word_later st lp k hk)
theorem brief_of {st lp : List Int} {n v : Int} (n0 : 0 ≤ n) (v0 : 0 ≤ v) (h : ¬ 0 < n + v) (hl : ¬ (lp.length : Int) < 1) (k : v = 0 → st.length ≤ 60 ∧ lp.length ≤ 60) : Brief st lp := by
  have := k (by omega)
  unfold Brief
  omega
theorem brief_bytes {st lp : List Int} (h : Brief st lp) {n m : Nat} (hn : n ≤ 60) (hm : m ≤ 60) : (n + m) * 4 ≤ 140737488355328 := by omega
theorem take_le {lp : List Int} {k : Nat} (h : lp.length ≤ 60) : (lp.take k).length ≤ 60 := by rw [List.length_take]; omega
theorem drop_le {lp : List Int} {k : Nat} (h : lp.length ≤ 60) : (lp.drop k).length ≤ 60 := by rw [List.length_drop]; omega
end Go.Proofs.YtjjnokodkeekhaaDoor.X

namespace Go.Proofs.YtjjnokodkeekhaaDoor.X
open Go.RowKit Go.Proofs.YtjjnokodkeekhaaDoorW.PrintWords Go.Proofs.YtjjnokodkeekhaaDoorW.PrintMore
open Go.Proofs.YtjjnokodkeekhaaDoor.P Go.Proofs.YtjjnokodkeekhaaDoor.Evx
set_option linter.unusedVariables false
set_option linter.unusedSimpArgs false
/-- What weigh tells is a number from 1 to 1000. -/
def WeiAt (s : S24) : Prop := ∀ (d r : Int), 0 ≤ d → d ≤ 41 → 0 ≤ r → r ≤ 500 → ∃ n : Int, Ev (fun k => parrylaw22_weigh.f k s.f0 s.f1 s.f2 d r) n ∧ 1 ≤ n ∧ n ≤ 1000
theorem weigh_l (kids : List S24) (d r : Int) (hd0 : 0 ≤ d) (hd : d ≤ 40) (hr0 : 1 ≤ r) (hr : r ≤ 500) (ih : ∀ k ∈ kids, WeiAt k) :
    ∀ (e j : Nat) (n : Int), j + e = kids.length → (j : Int) < n → n ≤ r → ∃ n' : Int, Ev (fun k => parrylaw22_weigh.l0 k d r n kids (kids.length : Int) j) n' ∧ 1 ≤ n' ∧ n' ≤ 1000
  | 0, j, n, hj, h1, h2 => ⟨n, ev_step (fun k => rfl) (ev_neg (by omega) (ev_some _)), by omega, by omega⟩
  | e + 1, j, n, hj, h1, h2 => by
    have hlt : j < kids.length := by omega
    obtain ⟨x, hx, x1, x2⟩ := ih _ (List.getElem_mem hlt) (d + 1) (r - n) (by omega) (by omega) (by omega) (by omega)
    by_cases hc : n + x > r
    · refine ⟨1000, ev_step (fun k => rfl) (ev_pos (by omega) (ev_pos (by omega) (ev_pos (by omega) ?_))), by omega, by omega⟩
      rw [rdT_nat kids j hlt, w64 (x := d + 1) (by omega) (by omega), w64 (x := r - n) (by omega) (by omega)]
      refine ev_bind hx ?_
      rw [w64 (by omega) (by omega)]
      exact ev_pos hc (ev_some _)
    · obtain ⟨n', hn', a1, a2⟩ := weigh_l kids d r hd0 hd hr0 hr ih e (j + 1) (n + x) (by omega) (by omega) (by omega)
      refine ⟨n', ev_step (fun k => rfl) (ev_pos (by omega) (ev_pos (by omega) (ev_pos (by omega) ?_))), a1, a2⟩
      rw [rdT_nat kids j hlt, w64 (x := d + 1) (by omega) (by omega), w64 (x := r - n) (by omega) (by omega)]
      refine ev_bind hx ?_
      rw [w64 (x := n + x) (by omega) (by omega), w64 (x := (j : Int) + 1) (by omega) (by omega)]
      refine ev_neg hc ?_
      exact_mod_cast hn'
mutual
theorem weigh_ev : ∀ s : S24, WeiAt s
  | ⟨op, m, kids⟩ => by
    intro d r h1 h2 h3 h4
    have ih := weigh_evL kids
    by_cases hd : d > 40
    · exact ⟨1000, ev_step (fun k => rfl) (ev_pos hd (ev_step (f := fun _ => some 1000) (fun k => rfl) (ev_some _))), by omega, by omega⟩
    · by_cases hr : r < 1
      · exact ⟨1000, ev_step (fun k => rfl) (ev_neg hd (ev_step (fun k => rfl) (ev_pos (decide_eq_true hr) (ev_some _)))), by omega, by omega⟩
      · obtain ⟨n', hn', a1, a2⟩ := weigh_l kids d r h1 (by omega) (by omega) h4 ih kids.length 0 1 (by omega) (by omega) (by omega)
        exact ⟨n', ev_step (fun k => rfl) (ev_neg hd (ev_step (fun k => rfl) (ev_neg (by rw [decide_eq_false hr]; simp) hn'))), a1, a2⟩
theorem weigh_evL : ∀ l : List S24, ∀ k ∈ l, WeiAt k
  | [], k, hk => by cases hk
  | a :: r, k, hk => by
    rcases List.mem_cons.1 hk with e | e
    · rw [e]; exact weigh_ev a
    · exact weigh_evL r k e
end
theorem heavy_ev (s : S24) : ∃ n : Int, Ev (fun k => parrylaw22_Heavy.f k s.f0 s.f1 s.f2) n ∧ 0 ≤ n ∧ n ≤ 1000 := by
  obtain ⟨n, hn, a1, a2⟩ := weigh_ev s 0 500 (by omega) (by omega) (by omega) (by omega)
  unfold parrylaw22_Heavy.f
  by_cases h : n > 300
  · exact ⟨n, ev_bind hn (ev_pos h (ev_some _)), by omega, by omega⟩
  · exact ⟨0, ev_bind hn (ev_neg h (ev_some _)), by omega, by omega⟩
theorem long_some (st lp : List Int) : ∃ n : Int, parrylaw22_Long.f st lp = some n ∧ 0 ≤ n ∧ n ≤ 1 ∧ (n = 0 → st.length ≤ 60 ∧ lp.length ≤ 60) := by
  unfold parrylaw22_Long.f
  by_cases h1 : (st.length : Int) > 60
  · exact ⟨1, by rw [if_pos h1], by omega, by omega, by omega⟩
  · by_cases h2 : (lp.length : Int) > 60
    · exact ⟨1, by rw [if_neg h1, if_pos h2], by omega, by omega, by omega⟩
    · exact ⟨0, by rw [if_neg h1, if_neg h2], by omega, by omega, by omega⟩
end Go.Proofs.YtjjnokodkeekhaaDoor.X

namespace Go.Proofs.YtjjnokodkeekhaaDoor.X
open Go.RowKit Go.Proofs.YtjjnokodkeekhaaDoorW.PrintWords Go.Proofs.YtjjnokodkeekhaaDoorW.PrintLast Go.Proofs.YtjjnokodkeekhaaDoorW.PrintMore
open Go.Proofs.YtjjnokodkeekhaaDoor.P Go.Proofs.YtjjnokodkeekhaaDoor.Evx
set_option linter.unusedSimpArgs false
set_option linter.unusedVariables false
def fwo.T1 : Bool × List (List Nat × List Nat) := (true, [([], []), ([0], [0]), ([], []), ([2, 1], [2]), ([1, 3], [1, 3]), ([4], [4]), ([5, 3], [5]), ([6], [6]), ([7, 6, 6], [6, 7]), ([8, 6], [6, 8]), ([6, 9], [6, 9]), ([10, 8], [10]), ([11], [11]), ([12, 11], [11, 12]), ([13, 11], [11, 13]), ([14, 11], [11, 14]), ([11, 15], [11, 15])])
def fwo.B1 : List Nat := [0, 1, 0, 7, 15, 31, 63, 127, 255, 511, 1023, 2047, 4095, 8191, 16383, 32767, 65535]
theorem fwo.tab1 : rtab .any (opsOf Tryd.f4 1) = fwo.T1 := by kernel_rfl
theorem fwo.bits1 : waitsOk fwo.T1.2 fwo.B1 = true := by kernel_rfl
def fwo.T4 : Bool × List (List Nat × List Nat) := (true, [([], []), ([0], [0]), ([], []), ([], []), ([3], [3]), ([2, 4], [2, 4]), ([], []), ([6], [6]), ([5, 7, 5], [5, 7]), ([1, 8], [1, 8]), ([], []), ([10, 9, 8, 0, 1, 2, 3, 4, 5, 6, 7, 8, 9, 10], [9, 10])])
def fwo.B4 : List Nat := [0, 1, 0, 0, 8, 28, 0, 64, 252, 511, 0, 2047]
theorem fwo.tab4 : rtab .any (opsOf Tryd.f4 4) = fwo.T4 := by kernel_rfl
theorem fwo.bits4 : waitsOk fwo.T4.2 fwo.B4 = true := by kernel_rfl
def fwo.T5 : Bool × List (List Nat × List Nat) := (true, [([], []), ([], []), ([1], [1]), ([0, 2], [0, 2]), ([], []), ([4], [4]), ([], []), ([5, 6], [5, 6]), ([3, 7, 3], [3, 7]), ([], []), ([], []), ([10], [10]), ([], []), ([11, 12], [11, 12]), ([9, 13, 8], [9, 13]), ([], []), ([15], [15]), ([], []), ([16, 17], [16, 17]), ([14, 18, 14], [14, 18]), ([8, 19], [8, 19]), ([], []), ([21, 20, 19, 0, 1, 2, 3, 4, 5, 6, 7, 8, 9, 10, 11, 12, 13, 14, 15, 16, 17, 18, 19, 20, 21], [20, 21])])
def fwo.B5 : List Nat := [0, 0, 2, 7, 0, 16, 0, 112, 255, 0, 0, 1024, 0, 7168, 16383, 0, 32768, 0, 229376, 524287, 1048575, 0, 4194303]
theorem fwo.tab5 : rtab .any (opsOf Tryd.f4 5) = fwo.T5 := by kernel_rfl
theorem fwo.bits5 : waitsOk fwo.T5.2 fwo.B5 = true := by kernel_rfl
theorem infoU32w : (Tryd.prog.info? 49).map (fun i => (i.zero, i.size, i.bytes)) = some (some (.int .u32 0), 1, 4) := by kernel_rfl
set_option maxHeartbeats 16000000 in
set_option maxRecDepth 100000 in
theorem words_calls (s : S24) (st lp : List Int) (kk : Int) (A A1 A2 : Option Addr) (cp c1 c2 : Nat) (w : World) (hk : Kd.C k24 w A s.f2.length s.f2) (hc : s.f2.length ≤ cp) (h1 : Kd.C (Kd.int .u32) w A1 st.length st) (hc1 : st.length ≤ c1) (h2 : Kd.C (Kd.int .u32) w A2 lp.length lp) (hc2 : lp.length ≤ c2) :
    Calls Tryd.prog 4 #[.agg #[.int .i64 s.f0, .int .i64 s.f1, .slice A s.f2.length cp], .agg #[.slice A1 st.length c1, .slice A2 lp.length c2], .int .i64 kk] w fun e w' => e = .returned (.bool true) ∧ Below w.heap.size w w' := by
  have huF := Tryd.underlying24
  have huW := Tryd.underlying27
  have huL := Tryd.underlying22
  have huu := Tryd.underlying25
  obtain ⟨V1, hV1⟩ : ∃ V1, V1 = w.alloc (.cells #[.int .i64 s.f0, .int .i64 s.f1, .slice A s.f2.length cp] 24) := ⟨_, rfl⟩
  obtain ⟨W0, hW0⟩ : ∃ W0, W0 = V1.alloc (.cells #[.slice A1 st.length c1, .slice A2 lp.length c2] 27) := ⟨_, rfl⟩
  have hz1 : V1.heap.size = w.heap.size + 1 := by rw [hV1]; simp
  have HB0 := Aside0.mk (show Below w.heap.size w W0 from by rw [hW0, hV1]; exact below_alloc (below_alloc (Below.refl _ _) _) _)
  have HF0 := Aside0.mk (show W0.heap[w.heap.size]? = some (.cells #[.int .i64 s.f0, .int .i64 s.f1, .slice A s.f2.length cp] 24 (0, 0)) from by rw [hW0, hV1]; exact blk_alloc (heap_alloc_new w _) _)
  have HL0 := Aside0.mk (show W0.heap[w.heap.size + 1]? = some (.cells #[.slice A1 st.length c1, .slice A2 lp.length c2] 27 (0, 0)) from by rw [hW0, ← hz1]; exact heap_alloc_new V1 _)
  have HW0 := Aside0.mk (show W0 = (w.alloc (.cells #[.int .i64 s.f0, .int .i64 s.f1, .slice A s.f2.length cp] 24)).alloc (.cells #[.slice A1 st.length c1, .slice A2 lp.length c2] 27) from by rw [hW0, hV1])
  clear hV1 hW0 hz1
  have HKs := Aside0.mk hk
  have HK1 := Aside0.mk h1
  have HK2 := Aside0.mk h2
  obtain ⟨v1, hv1, n1, m1⟩ := heavy_ev s
  obtain ⟨v3, hv3, n3, m3, hv4⟩ := long_some st lp
  obtain ⟨k1, hk1⟩ := hv1.rounds
  have HHF := Aside0.mk (fun W (h : Below w.heap.size w W) => parrylaw22_Heavy.calls k1 s.f0 s.f1 A cp s.f2 v1 W (Kd.C_below hk h) hc hk1)
  have HHL := Aside0.mk (fun W (h : Below w.heap.size w W) => parrylaw22_Long.calls A1 c1 st A2 c2 lp v3 W (Kd.C_below h1 h) hc1 (Kd.C_below h2 h) hc2 hv3)
  have HMF := Aside0.mk (fun W (h : Below w.heap.size w W) => May_calls s A cp W (Kd.C_below hk h) hc)
  have hw1 : wrap64 (v1 + v3) = v1 + v3 := w64 (by omega) (by omega)
  have HWO := Aside0.mk (fun h hl => brief_of (st := st) (lp := lp) n1 n3 h hl hv4)
  have HTW := Aside0.mk (fun h hb => holds_twice (s := s) (st := st) (lp := lp) h hb)
  have HLA := Aside0.mk (fun h hb k hk => holds_later (s := s) (st := st) (lp := lp) h hb k hk)
  generalize hmf : mayF s = mf at *
  clear hmf hk h1 h2 hv1 hv3 hv4 hk1
  go_enter Tryd.func4, Tryd.ntmps4
  go_upto_region 1 with fail
  rw [← HW0.out]
  clear HW0
  go_cut [26] (fun v26 wx => ∃ hb : Bool, v26 = .bool hb ∧ Aside0 (hb = false → mf = 0 ∧ Brief st lp) ∧ Aside0 (Below W0.heap.size W0 wx))
  case first =>
    by_cases h0 : 0 < v1 + v3
    · have hd : decide (0 < v1 + v3) = true := decide_eq_true h0
      clear n1 m1 n3 m3
      refine start_ (n := 17) (S := fun w' => w'.cell? ⟨w.heap.size, 0, none⟩ = some (.int .i64 s.f0) ∧ w'.cell? ⟨w.heap.size, 1, none⟩ = some (.int .i64 s.f1) ∧ w'.cell? ⟨w.heap.size, 2, none⟩ = some (.slice A s.f2.length cp) ∧ w'.cell? ⟨w.heap.size + 1, 0, none⟩ = some (.slice A1 st.length c1) ∧ w'.cell? ⟨w.heap.size + 1, 1, none⟩ = some (.slice A2 lp.length c2)) (ds := []) #[false, false, false, false, false, false, false, false, false, false, false, false, false, false, false, false, false] (by kernel_rfl) rfl rfl ⟨((blk_cell HF0.out 0).trans rfl), ((blk_cell HF0.out 1).trans rfl), ((blk_cell HF0.out 2).trans rfl), ((blk_cell HL0.out 0).trans rfl), ((blk_cell HL0.out 1).trans rfl)⟩ (fun hHeld => ?_)
      refine with_tabW fwo.tab1 fwo.bits1 (fun HT_ HW_ => ?_)
      refine take_ (i := 0) (N := some 10) (v := ?_) (a' := ?_) #[true, false, false, false, false, false, false, false, false, false, false, false, false, false, false, false, false] rfl rfl (take_ofW HT_.out HW_.out (by kernel_rfl)) (fun _ _ _ h => h) (Or.inl ⟨by rfl, ?_⟩) hHeld ?_ ?_
      rotate_left
      · rintro w' ⟨s0, s1, s2, s3, s4⟩
        go_simp
        with_reducible rfl
      rotate_left
      · simp only [Act.put, List.setIfInBounds_toArray, List.set_cons_zero, List.set_cons_succ, i64_w, i32_w]
        rfl
      refine take_ (i := 2) (N := some 12) (v := ?_) (a' := ?_) #[true, false, true, false, false, false, false, false, false, false, false, false, false, false, false, false, false] rfl rfl (take_ofW HT_.out HW_.out (by kernel_rfl)) (fun _ _ _ h => h) (Or.inl ⟨by rfl, ?_⟩) hHeld ?_ ?_
      rotate_left
      · rintro w' ⟨s0, s1, s2, s3, s4⟩
        go_simp
        with_reducible rfl
      rotate_left
      · simp only [Act.put, List.setIfInBounds_toArray, List.set_cons_zero, List.set_cons_succ, i64_w, i32_w]
        rfl
      refine one_ (i := 1) (N := some 11) #[true, true, true, false, false, false, false, false, false, false, false, false, false, false, false, false, false] rfl rfl (one_of HT_.out (by kernel_rfl)) (by decide) (fun K hK => ?_)
      refine goes_ Tryd.func9 (by kernel_rfl) rfl #[.agg #[.int .i64 s.f0, .int .i64 s.f1, .slice A s.f2.length cp]] (by rfl) rfl rfl (by simp only [List.map_toArray, List.map_cons, List.map_nil]; rfl) ?_
      with_reducible refine (HHF.out _ (HB0.out.trans ((show Below W0.heap.size W0 W0.drew from below_drew1 (Below.refl _ _)).mono HB0.out.size))).mono ?_
      rintro e_ wc1 ⟨rfl, hB⟩
      have HBc1 := Aside0.mk (show Below W0.heap.size W0 wc1 from (below_drew1 (Below.refl _ _)).trans hB)
      clear hB
      have hkF1 := (HBc1.out.block _ (blk_lt HF0.out)).trans HF0.out
      have hkL1 := (HBc1.out.block _ (blk_lt HL0.out)).trans HL0.out
      refine ⟨_, rfl, ?_⟩
      refine hK.out _ _ ⟨((blk_cell hkF1 0).trans rfl), ((blk_cell hkF1 1).trans rfl), ((blk_cell hkF1 2).trans rfl), ((blk_cell hkL1 0).trans rfl), ((blk_cell hkL1 1).trans rfl)⟩ (fun hHeld => ?_)
      clear hK K
      refine norm_ (a' := ?_) ?_ ?_
      rotate_left
      · show Act.put _ (some 11) _ = _
        simp only [Act.put, List.setIfInBounds_toArray, List.set_cons_zero, List.set_cons_succ, i64_w, i32_w]
        rfl
      refine one_ (i := 3) (N := some 13) #[true, true, true, true, false, false, false, false, false, false, false, false, false, false, false, false, false] rfl rfl (one_of HT_.out (by kernel_rfl)) (by decide) (fun K hK => ?_)
      refine goes_ Tryd.func10 (by kernel_rfl) rfl #[.agg #[.slice A1 st.length c1, .slice A2 lp.length c2]] (by rfl) rfl rfl (by simp only [List.map_toArray, List.map_cons, List.map_nil]; rfl) ?_
      with_reducible refine (HHL.out _ (HB0.out.trans (HBc1.out.mono HB0.out.size))).mono ?_
      rintro e_ wc3 ⟨rfl, hB⟩
      have HBc3 := Aside0.mk (show Below W0.heap.size W0 wc3 from HBc1.out.trans (hB.mono HBc1.out.size))
      clear hB
      have hkF3 := (HBc3.out.block _ (blk_lt HF0.out)).trans HF0.out
      have hkL3 := (HBc3.out.block _ (blk_lt HL0.out)).trans HL0.out
      refine ⟨_, rfl, ?_⟩
      refine hK.out _ _ ⟨((blk_cell hkF3 0).trans rfl), ((blk_cell hkF3 1).trans rfl), ((blk_cell hkF3 2).trans rfl), ((blk_cell hkL3 0).trans rfl), ((blk_cell hkL3 1).trans rfl)⟩ (fun hHeld => ?_)
      clear hK K
      refine norm_ (a' := ?_) ?_ ?_
      rotate_left
      · show Act.put _ (some 13) _ = _
        simp only [Act.put, List.setIfInBounds_toArray, List.set_cons_zero, List.set_cons_succ, i64_w, i32_w]
        rfl
      refine pure_ (i := 4) (N := some 14) (v := ?_) (a' := ?_) #[true, true, true, true, true, false, false, false, false, false, false, false, false, false, false, false, false] rfl rfl (any_of HT_.out (by kernel_rfl)) (fun _ _ _ h => h) (Or.inl ⟨by rfl, ?_⟩) ?_ ?_
      rotate_left
      · intro w'
        go_simp
        with_reducible rfl
      rotate_left
      · simp only [Act.put, List.setIfInBounds_toArray, List.set_cons_zero, List.set_cons_succ, i64_w, i32_w]
        rfl
      refine pure_ (i := 5) (N := some 15) (v := ?_) (a' := ?_) #[true, true, true, true, true, true, false, false, false, false, false, false, false, false, false, false, false] rfl rfl (any_of HT_.out (by kernel_rfl)) (fun _ _ _ h => h) (Or.inl ⟨by rfl, ?_⟩) ?_ ?_
      rotate_left
      · intro w'
        go_simp
        with_reducible rfl
      rotate_left
      · simp only [Act.put, List.setIfInBounds_toArray, List.set_cons_zero, List.set_cons_succ, i64_w, i32_w]
        rfl
      refine pure_ (i := 6) (N := some 16) (v := ?_) (a' := ?_) #[true, true, true, true, true, true, true, false, false, false, false, false, false, false, false, false, false] rfl rfl (any_of HT_.out (by kernel_rfl)) (fun _ _ _ h => h) (Or.inl ⟨by rfl, ?_⟩) ?_ ?_
      rotate_left
      · intro w'
        go_simp
        with_reducible rfl
      rotate_left
      · simp only [Act.put, List.setIfInBounds_toArray, List.set_cons_zero, List.set_cons_succ, i64_w, i32_w]
        rfl
      refine pure_ (i := 7) (N := some 17) (v := undef) (a' := ?_) #[true, true, true, true, true, true, true, true, false, false, false, false, false, false, false, false, false] rfl rfl (any_of HT_.out (by kernel_rfl)) (fun _ _ _ h => h) (Or.inr ⟨by rfl, rfl⟩) ?_ ?_
      rotate_left
      · simp only [Act.put, List.setIfInBounds_toArray, List.set_cons_zero, List.set_cons_succ, i64_w, i32_w]
        rfl
      refine pure_ (i := 8) (N := some 18) (v := undef) (a' := ?_) #[true, true, true, true, true, true, true, true, true, false, false, false, false, false, false, false, false] rfl rfl (any_of HT_.out (by kernel_rfl)) (fun _ _ _ h => h) (Or.inr ⟨by rfl, rfl⟩) ?_ ?_
      rotate_left
      · simp only [Act.put, List.setIfInBounds_toArray, List.set_cons_zero, List.set_cons_succ, i64_w, i32_w]
        rfl
      refine pure_ (i := 9) (N := some 19) (v := undef) (a' := ?_) #[true, true, true, true, true, true, true, true, true, true, false, false, false, false, false, false, false] rfl rfl (any_of HT_.out (by kernel_rfl)) (fun _ _ _ h => h) (Or.inr ⟨by rfl, rfl⟩) ?_ ?_
      rotate_left
      · simp only [Act.put, List.setIfInBounds_toArray, List.set_cons_zero, List.set_cons_succ, i64_w, i32_w]
        rfl
      refine pure_ (i := 10) (N := some 20) (v := ?_) (a' := ?_) #[true, true, true, true, true, true, true, true, true, true, true, false, false, false, false, false, false] rfl rfl (any_of HT_.out (by kernel_rfl)) (fun _ _ _ h => h) (Or.inl ⟨by rfl, ?_⟩) ?_ ?_
      rotate_left
      · intro w'
        go_simp
        with_reducible rfl
      rotate_left
      · simp only [Act.put, List.setIfInBounds_toArray, List.set_cons_zero, List.set_cons_succ, i64_w, i32_w]
        rfl
      refine pure_ (i := 11) (N := some 21) (v := ?_) (a' := ?_) #[true, true, true, true, true, true, true, true, true, true, true, true, false, false, false, false, false] rfl rfl (any_of HT_.out (by kernel_rfl)) (fun _ _ _ h => h) (Or.inl ⟨by rfl, ?_⟩) ?_ ?_
      rotate_left
      · intro w'
        go_simp
        with_reducible rfl
      rotate_left
      · simp only [Act.put, List.setIfInBounds_toArray, List.set_cons_zero, List.set_cons_succ, i64_w, i32_w]
        rfl
      refine pure_ (i := 12) (N := some 22) (v := undef) (a' := ?_) #[true, true, true, true, true, true, true, true, true, true, true, true, true, false, false, false, false] rfl rfl (any_of HT_.out (by kernel_rfl)) (fun _ _ _ h => h) (Or.inr ⟨by rfl, rfl⟩) ?_ ?_
      rotate_left
      · simp only [Act.put, List.setIfInBounds_toArray, List.set_cons_zero, List.set_cons_succ, i64_w, i32_w]
        rfl
      refine pure_ (i := 13) (N := some 23) (v := undef) (a' := ?_) #[true, true, true, true, true, true, true, true, true, true, true, true, true, true, false, false, false] rfl rfl (any_of HT_.out (by kernel_rfl)) (fun _ _ _ h => h) (Or.inr ⟨by rfl, rfl⟩) ?_ ?_
      rotate_left
      · simp only [Act.put, List.setIfInBounds_toArray, List.set_cons_zero, List.set_cons_succ, i64_w, i32_w]
        rfl
      refine pure_ (i := 14) (N := some 24) (v := undef) (a' := ?_) #[true, true, true, true, true, true, true, true, true, true, true, true, true, true, true, false, false] rfl rfl (any_of HT_.out (by kernel_rfl)) (fun _ _ _ h => h) (Or.inr ⟨by rfl, rfl⟩) ?_ ?_
      rotate_left
      · simp only [Act.put, List.setIfInBounds_toArray, List.set_cons_zero, List.set_cons_succ, i64_w, i32_w]
        rfl
      refine pure_ (i := 15) (N := some 25) (v := undef) (a' := ?_) #[true, true, true, true, true, true, true, true, true, true, true, true, true, true, true, true, false] rfl rfl (any_of HT_.out (by kernel_rfl)) (fun _ _ _ h => h) (Or.inr ⟨by rfl, rfl⟩) ?_ ?_
      rotate_left
      · simp only [Act.put, List.setIfInBounds_toArray, List.set_cons_zero, List.set_cons_succ, i64_w, i32_w]
        rfl
      refine pure_ (i := 16) (N := some 26) (v := ?_) (a' := ?_) #[true, true, true, true, true, true, true, true, true, true, true, true, true, true, true, true, true] rfl rfl (any_of HT_.out (by kernel_rfl)) (fun _ _ _ h => h) (Or.inl ⟨by rfl, ?_⟩) ?_ ?_
      rotate_left
      · intro w'
        go_simp
        with_reducible rfl
      rotate_left
      · simp only [Act.put, List.setIfInBounds_toArray, List.set_cons_zero, List.set_cons_succ, i64_w, i32_w]
        rfl
      refine done_ (done_of HT_.out (by kernel_rfl)) ?_
      go_wp2_with fail
      go_meet
      exact ⟨true, rfl, ⟨fun h => absurd h (by decide)⟩, HBc3⟩
    · have hd : decide (0 < v1 + v3) = false := decide_eq_false h0
      have HH0 := Aside0.mk h0
      clear n1 m1 n3 m3 h0
      by_cases em : mf = 0
      · have bm : (mf != 0) = false := by rw [em]; rfl
        have HEM := Aside0.mk em
        clear em
        refine start_ (n := 17) (S := fun w' => w'.cell? ⟨w.heap.size, 0, none⟩ = some (.int .i64 s.f0) ∧ w'.cell? ⟨w.heap.size, 1, none⟩ = some (.int .i64 s.f1) ∧ w'.cell? ⟨w.heap.size, 2, none⟩ = some (.slice A s.f2.length cp) ∧ w'.cell? ⟨w.heap.size + 1, 0, none⟩ = some (.slice A1 st.length c1) ∧ w'.cell? ⟨w.heap.size + 1, 1, none⟩ = some (.slice A2 lp.length c2)) (ds := []) #[false, false, false, false, false, false, false, false, false, false, false, false, false, false, false, false, false] (by kernel_rfl) rfl rfl ⟨((blk_cell HF0.out 0).trans rfl), ((blk_cell HF0.out 1).trans rfl), ((blk_cell HF0.out 2).trans rfl), ((blk_cell HL0.out 0).trans rfl), ((blk_cell HL0.out 1).trans rfl)⟩ (fun hHeld => ?_)
        refine with_tabW fwo.tab1 fwo.bits1 (fun HT_ HW_ => ?_)
        refine take_ (i := 0) (N := some 10) (v := ?_) (a' := ?_) #[true, false, false, false, false, false, false, false, false, false, false, false, false, false, false, false, false] rfl rfl (take_ofW HT_.out HW_.out (by kernel_rfl)) (fun _ _ _ h => h) (Or.inl ⟨by rfl, ?_⟩) hHeld ?_ ?_
        rotate_left
        · rintro w' ⟨s0, s1, s2, s3, s4⟩
          go_simp
          with_reducible rfl
        rotate_left
        · simp only [Act.put, List.setIfInBounds_toArray, List.set_cons_zero, List.set_cons_succ, i64_w, i32_w]
          rfl
        refine take_ (i := 2) (N := some 12) (v := ?_) (a' := ?_) #[true, false, true, false, false, false, false, false, false, false, false, false, false, false, false, false, false] rfl rfl (take_ofW HT_.out HW_.out (by kernel_rfl)) (fun _ _ _ h => h) (Or.inl ⟨by rfl, ?_⟩) hHeld ?_ ?_
        rotate_left
        · rintro w' ⟨s0, s1, s2, s3, s4⟩
          go_simp
          with_reducible rfl
        rotate_left
        · simp only [Act.put, List.setIfInBounds_toArray, List.set_cons_zero, List.set_cons_succ, i64_w, i32_w]
          rfl
        refine one_ (i := 1) (N := some 11) #[true, true, true, false, false, false, false, false, false, false, false, false, false, false, false, false, false] rfl rfl (one_of HT_.out (by kernel_rfl)) (by decide) (fun K hK => ?_)
        refine goes_ Tryd.func9 (by kernel_rfl) rfl #[.agg #[.int .i64 s.f0, .int .i64 s.f1, .slice A s.f2.length cp]] (by rfl) rfl rfl (by simp only [List.map_toArray, List.map_cons, List.map_nil]; rfl) ?_
        with_reducible refine (HHF.out _ (HB0.out.trans ((show Below W0.heap.size W0 W0.drew from below_drew1 (Below.refl _ _)).mono HB0.out.size))).mono ?_
        rintro e_ wc1 ⟨rfl, hB⟩
        have HBc1 := Aside0.mk (show Below W0.heap.size W0 wc1 from (below_drew1 (Below.refl _ _)).trans hB)
        clear hB
        have hkF1 := (HBc1.out.block _ (blk_lt HF0.out)).trans HF0.out
        have hkL1 := (HBc1.out.block _ (blk_lt HL0.out)).trans HL0.out
        refine ⟨_, rfl, ?_⟩
        refine hK.out _ _ ⟨((blk_cell hkF1 0).trans rfl), ((blk_cell hkF1 1).trans rfl), ((blk_cell hkF1 2).trans rfl), ((blk_cell hkL1 0).trans rfl), ((blk_cell hkL1 1).trans rfl)⟩ (fun hHeld => ?_)
        clear hK K
        refine norm_ (a' := ?_) ?_ ?_
        rotate_left
        · show Act.put _ (some 11) _ = _
          simp only [Act.put, List.setIfInBounds_toArray, List.set_cons_zero, List.set_cons_succ, i64_w, i32_w]
          rfl
        refine one_ (i := 3) (N := some 13) #[true, true, true, true, false, false, false, false, false, false, false, false, false, false, false, false, false] rfl rfl (one_of HT_.out (by kernel_rfl)) (by decide) (fun K hK => ?_)
        refine goes_ Tryd.func10 (by kernel_rfl) rfl #[.agg #[.slice A1 st.length c1, .slice A2 lp.length c2]] (by rfl) rfl rfl (by simp only [List.map_toArray, List.map_cons, List.map_nil]; rfl) ?_
        with_reducible refine (HHL.out _ (HB0.out.trans (HBc1.out.mono HB0.out.size))).mono ?_
        rintro e_ wc3 ⟨rfl, hB⟩
        have HBc3 := Aside0.mk (show Below W0.heap.size W0 wc3 from HBc1.out.trans (hB.mono HBc1.out.size))
        clear hB
        have hkF3 := (HBc3.out.block _ (blk_lt HF0.out)).trans HF0.out
        have hkL3 := (HBc3.out.block _ (blk_lt HL0.out)).trans HL0.out
        refine ⟨_, rfl, ?_⟩
        refine hK.out _ _ ⟨((blk_cell hkF3 0).trans rfl), ((blk_cell hkF3 1).trans rfl), ((blk_cell hkF3 2).trans rfl), ((blk_cell hkL3 0).trans rfl), ((blk_cell hkL3 1).trans rfl)⟩ (fun hHeld => ?_)
        clear hK K
        refine norm_ (a' := ?_) ?_ ?_
        rotate_left
        · show Act.put _ (some 13) _ = _
          simp only [Act.put, List.setIfInBounds_toArray, List.set_cons_zero, List.set_cons_succ, i64_w, i32_w]
          rfl
        refine pure_ (i := 4) (N := some 14) (v := ?_) (a' := ?_) #[true, true, true, true, true, false, false, false, false, false, false, false, false, false, false, false, false] rfl rfl (any_of HT_.out (by kernel_rfl)) (fun _ _ _ h => h) (Or.inl ⟨by rfl, ?_⟩) ?_ ?_
        rotate_left
        · intro w'
          go_simp
          with_reducible rfl
        rotate_left
        · simp only [Act.put, List.setIfInBounds_toArray, List.set_cons_zero, List.set_cons_succ, i64_w, i32_w]
          rfl
        refine pure_ (i := 5) (N := some 15) (v := ?_) (a' := ?_) #[true, true, true, true, true, true, false, false, false, false, false, false, false, false, false, false, false] rfl rfl (any_of HT_.out (by kernel_rfl)) (fun _ _ _ h => h) (Or.inl ⟨by rfl, ?_⟩) ?_ ?_
        rotate_left
        · intro w'
          go_simp
          with_reducible rfl
        rotate_left
        · simp only [Act.put, List.setIfInBounds_toArray, List.set_cons_zero, List.set_cons_succ, i64_w, i32_w]
          rfl
        refine pure_ (i := 6) (N := some 16) (v := ?_) (a' := ?_) #[true, true, true, true, true, true, true, false, false, false, false, false, false, false, false, false, false] rfl rfl (any_of HT_.out (by kernel_rfl)) (fun _ _ _ h => h) (Or.inl ⟨by rfl, ?_⟩) ?_ ?_
        rotate_left
        · intro w'
          go_simp
          with_reducible rfl
        rotate_left
        · simp only [Act.put, List.setIfInBounds_toArray, List.set_cons_zero, List.set_cons_succ, i64_w, i32_w]
          rfl
        refine take_ (i := 7) (N := some 17) (v := ?_) (a' := ?_) #[true, true, true, true, true, true, true, true, false, false, false, false, false, false, false, false, false] rfl rfl (take_ofW HT_.out HW_.out (by kernel_rfl)) (fun _ _ _ h => h) (Or.inl ⟨by rfl, ?_⟩) hHeld ?_ ?_
        rotate_left
        · rintro w' ⟨s0, s1, s2, s3, s4⟩
          go_simp
          with_reducible rfl
        rotate_left
        · simp only [Act.put, List.setIfInBounds_toArray, List.set_cons_zero, List.set_cons_succ, i64_w, i32_w]
          rfl
        refine one_ (i := 8) (N := some 18) #[true, true, true, true, true, true, true, true, true, false, false, false, false, false, false, false, false] rfl rfl (one_of HT_.out (by kernel_rfl)) (by decide) (fun K hK => ?_)
        refine goes_ Tryd.func13 (by kernel_rfl) rfl #[.agg #[.int .i64 s.f0, .int .i64 s.f1, .slice A s.f2.length cp]] (by rfl) rfl rfl (by simp only [List.map_toArray, List.map_cons, List.map_nil]; rfl) ?_
        with_reducible refine (HMF.out _ (HB0.out.trans (HBc3.out.mono HB0.out.size))).mono ?_
        rintro e_ wc8 ⟨rfl, hB⟩
        have HBc8 := Aside0.mk (show Below W0.heap.size W0 wc8 from HBc3.out.trans (hB.mono HBc3.out.size))
        clear hB
        have hkF8 := (HBc8.out.block _ (blk_lt HF0.out)).trans HF0.out
        have hkL8 := (HBc8.out.block _ (blk_lt HL0.out)).trans HL0.out
        refine ⟨_, rfl, ?_⟩
        refine hK.out _ _ ⟨((blk_cell hkF8 0).trans rfl), ((blk_cell hkF8 1).trans rfl), ((blk_cell hkF8 2).trans rfl), ((blk_cell hkL8 0).trans rfl), ((blk_cell hkL8 1).trans rfl)⟩ (fun hHeld => ?_)
        clear hK K
        refine norm_ (a' := ?_) ?_ ?_
        rotate_left
        · show Act.put _ (some 18) _ = _
          simp only [Act.put, List.setIfInBounds_toArray, List.set_cons_zero, List.set_cons_succ, i64_w, i32_w]
          rfl
        refine pure_ (i := 9) (N := some 19) (v := ?_) (a' := ?_) #[true, true, true, true, true, true, true, true, true, true, false, false, false, false, false, false, false] rfl rfl (any_of HT_.out (by kernel_rfl)) (fun _ _ _ h => h) (Or.inl ⟨by rfl, ?_⟩) ?_ ?_
        rotate_left
        · intro w'
          go_simp
          with_reducible rfl
        rotate_left
        · simp only [Act.put, List.setIfInBounds_toArray, List.set_cons_zero, List.set_cons_succ, i64_w, i32_w]
          rfl
        refine pure_ (i := 10) (N := some 20) (v := ?_) (a' := ?_) #[true, true, true, true, true, true, true, true, true, true, true, false, false, false, false, false, false] rfl rfl (any_of HT_.out (by kernel_rfl)) (fun _ _ _ h => h) (Or.inl ⟨by rfl, ?_⟩) ?_ ?_
        rotate_left
        · intro w'
          go_simp
          with_reducible rfl
        rotate_left
        · simp only [Act.put, List.setIfInBounds_toArray, List.set_cons_zero, List.set_cons_succ, i64_w, i32_w]
          rfl
        refine pure_ (i := 11) (N := some 21) (v := ?_) (a' := ?_) #[true, true, true, true, true, true, true, true, true, true, true, true, false, false, false, false, false] rfl rfl (any_of HT_.out (by kernel_rfl)) (fun _ _ _ h => h) (Or.inl ⟨by rfl, ?_⟩) ?_ ?_
        rotate_left
        · intro w'
          go_simp
          with_reducible rfl
        rotate_left
        · simp only [Act.put, List.setIfInBounds_toArray, List.set_cons_zero, List.set_cons_succ, i64_w, i32_w]
          rfl
        refine pure_ (i := 12) (N := some 22) (v := ?_) (a' := ?_) #[true, true, true, true, true, true, true, true, true, true, true, true, true, false, false, false, false] rfl rfl (any_of HT_.out (by kernel_rfl)) (fun _ _ _ h => h) (Or.inl ⟨by rfl, ?_⟩) ?_ ?_
        rotate_left
        · intro w'
          go_simp
          with_reducible rfl
        rotate_left
        · simp only [Act.put, List.setIfInBounds_toArray, List.set_cons_zero, List.set_cons_succ, i64_w, i32_w]
          rfl
        refine take_ (i := 13) (N := some 23) (v := ?_) (a' := ?_) #[true, true, true, true, true, true, true, true, true, true, true, true, true, true, false, false, false] rfl rfl (take_ofW HT_.out HW_.out (by kernel_rfl)) (fun _ _ _ h => h) (Or.inl ⟨by rfl, ?_⟩) hHeld ?_ ?_
        rotate_left
        · rintro w' ⟨s0, s1, s2, s3, s4⟩
          go_simp
          with_reducible rfl
        rotate_left
        · simp only [Act.put, List.setIfInBounds_toArray, List.set_cons_zero, List.set_cons_succ, i64_w, i32_w]
          rfl
        refine pure_ (i := 14) (N := some 24) (v := ?_) (a' := ?_) #[true, true, true, true, true, true, true, true, true, true, true, true, true, true, true, false, false] rfl rfl (any_of HT_.out (by kernel_rfl)) (fun _ _ _ h => h) (Or.inl ⟨by rfl, ?_⟩) ?_ ?_
        rotate_left
        · intro w'
          go_simp
          with_reducible rfl
        rotate_left
        · simp only [Act.put, List.setIfInBounds_toArray, List.set_cons_zero, List.set_cons_succ, i64_w, i32_w]
          rfl
        refine pure_ (i := 15) (N := some 25) (v := ?_) (a' := ?_) #[true, true, true, true, true, true, true, true, true, true, true, true, true, true, true, true, false] rfl rfl (any_of HT_.out (by kernel_rfl)) (fun _ _ _ h => h) (Or.inl ⟨by rfl, ?_⟩) ?_ ?_
        rotate_left
        · intro w'
          go_simp
          with_reducible rfl
        rotate_left
        · simp only [Act.put, List.setIfInBounds_toArray, List.set_cons_zero, List.set_cons_succ, i64_w, i32_w]
          rfl
        refine pure_ (i := 16) (N := some 26) (v := ?_) (a' := ?_) #[true, true, true, true, true, true, true, true, true, true, true, true, true, true, true, true, true] rfl rfl (any_of HT_.out (by kernel_rfl)) (fun _ _ _ h => h) (Or.inl ⟨by rfl, ?_⟩) ?_ ?_
        rotate_left
        · intro w'
          go_simp
          with_reducible rfl
        rotate_left
        · simp only [Act.put, List.setIfInBounds_toArray, List.set_cons_zero, List.set_cons_succ, i64_w, i32_w]
          rfl
        refine done_ (done_of HT_.out (by kernel_rfl)) ?_
        go_wp2_with fail
        go_meet
        exact ⟨decide ((lp.length : Int) < 1), rfl, ⟨fun h => ⟨HEM.out, HWO.out HH0.out (by have := of_decide_eq_false h; omega)⟩⟩, HBc8⟩
      · have bm : (mf != 0) = true := by simpa using em
        clear em
        refine start_ (n := 17) (S := fun w' => w'.cell? ⟨w.heap.size, 0, none⟩ = some (.int .i64 s.f0) ∧ w'.cell? ⟨w.heap.size, 1, none⟩ = some (.int .i64 s.f1) ∧ w'.cell? ⟨w.heap.size, 2, none⟩ = some (.slice A s.f2.length cp) ∧ w'.cell? ⟨w.heap.size + 1, 0, none⟩ = some (.slice A1 st.length c1) ∧ w'.cell? ⟨w.heap.size + 1, 1, none⟩ = some (.slice A2 lp.length c2)) (ds := []) #[false, false, false, false, false, false, false, false, false, false, false, false, false, false, false, false, false] (by kernel_rfl) rfl rfl ⟨((blk_cell HF0.out 0).trans rfl), ((blk_cell HF0.out 1).trans rfl), ((blk_cell HF0.out 2).trans rfl), ((blk_cell HL0.out 0).trans rfl), ((blk_cell HL0.out 1).trans rfl)⟩ (fun hHeld => ?_)
        refine with_tabW fwo.tab1 fwo.bits1 (fun HT_ HW_ => ?_)
        refine take_ (i := 0) (N := some 10) (v := ?_) (a' := ?_) #[true, false, false, false, false, false, false, false, false, false, false, false, false, false, false, false, false] rfl rfl (take_ofW HT_.out HW_.out (by kernel_rfl)) (fun _ _ _ h => h) (Or.inl ⟨by rfl, ?_⟩) hHeld ?_ ?_
        rotate_left
        · rintro w' ⟨s0, s1, s2, s3, s4⟩
          go_simp
          with_reducible rfl
        rotate_left
        · simp only [Act.put, List.setIfInBounds_toArray, List.set_cons_zero, List.set_cons_succ, i64_w, i32_w]
          rfl
        refine take_ (i := 2) (N := some 12) (v := ?_) (a' := ?_) #[true, false, true, false, false, false, false, false, false, false, false, false, false, false, false, false, false] rfl rfl (take_ofW HT_.out HW_.out (by kernel_rfl)) (fun _ _ _ h => h) (Or.inl ⟨by rfl, ?_⟩) hHeld ?_ ?_
        rotate_left
        · rintro w' ⟨s0, s1, s2, s3, s4⟩
          go_simp
          with_reducible rfl
        rotate_left
        · simp only [Act.put, List.setIfInBounds_toArray, List.set_cons_zero, List.set_cons_succ, i64_w, i32_w]
          rfl
        refine one_ (i := 1) (N := some 11) #[true, true, true, false, false, false, false, false, false, false, false, false, false, false, false, false, false] rfl rfl (one_of HT_.out (by kernel_rfl)) (by decide) (fun K hK => ?_)
        refine goes_ Tryd.func9 (by kernel_rfl) rfl #[.agg #[.int .i64 s.f0, .int .i64 s.f1, .slice A s.f2.length cp]] (by rfl) rfl rfl (by simp only [List.map_toArray, List.map_cons, List.map_nil]; rfl) ?_
        with_reducible refine (HHF.out _ (HB0.out.trans ((show Below W0.heap.size W0 W0.drew from below_drew1 (Below.refl _ _)).mono HB0.out.size))).mono ?_
        rintro e_ wc1 ⟨rfl, hB⟩
        have HBc1 := Aside0.mk (show Below W0.heap.size W0 wc1 from (below_drew1 (Below.refl _ _)).trans hB)
        clear hB
        have hkF1 := (HBc1.out.block _ (blk_lt HF0.out)).trans HF0.out
        have hkL1 := (HBc1.out.block _ (blk_lt HL0.out)).trans HL0.out
        refine ⟨_, rfl, ?_⟩
        refine hK.out _ _ ⟨((blk_cell hkF1 0).trans rfl), ((blk_cell hkF1 1).trans rfl), ((blk_cell hkF1 2).trans rfl), ((blk_cell hkL1 0).trans rfl), ((blk_cell hkL1 1).trans rfl)⟩ (fun hHeld => ?_)
        clear hK K
        refine norm_ (a' := ?_) ?_ ?_
        rotate_left
        · show Act.put _ (some 11) _ = _
          simp only [Act.put, List.setIfInBounds_toArray, List.set_cons_zero, List.set_cons_succ, i64_w, i32_w]
          rfl
        refine one_ (i := 3) (N := some 13) #[true, true, true, true, false, false, false, false, false, false, false, false, false, false, false, false, false] rfl rfl (one_of HT_.out (by kernel_rfl)) (by decide) (fun K hK => ?_)
        refine goes_ Tryd.func10 (by kernel_rfl) rfl #[.agg #[.slice A1 st.length c1, .slice A2 lp.length c2]] (by rfl) rfl rfl (by simp only [List.map_toArray, List.map_cons, List.map_nil]; rfl) ?_
        with_reducible refine (HHL.out _ (HB0.out.trans (HBc1.out.mono HB0.out.size))).mono ?_
        rintro e_ wc3 ⟨rfl, hB⟩
        have HBc3 := Aside0.mk (show Below W0.heap.size W0 wc3 from HBc1.out.trans (hB.mono HBc1.out.size))
        clear hB
        have hkF3 := (HBc3.out.block _ (blk_lt HF0.out)).trans HF0.out
        have hkL3 := (HBc3.out.block _ (blk_lt HL0.out)).trans HL0.out
        refine ⟨_, rfl, ?_⟩
        refine hK.out _ _ ⟨((blk_cell hkF3 0).trans rfl), ((blk_cell hkF3 1).trans rfl), ((blk_cell hkF3 2).trans rfl), ((blk_cell hkL3 0).trans rfl), ((blk_cell hkL3 1).trans rfl)⟩ (fun hHeld => ?_)
        clear hK K
        refine norm_ (a' := ?_) ?_ ?_
        rotate_left
        · show Act.put _ (some 13) _ = _
          simp only [Act.put, List.setIfInBounds_toArray, List.set_cons_zero, List.set_cons_succ, i64_w, i32_w]
          rfl
        refine pure_ (i := 4) (N := some 14) (v := ?_) (a' := ?_) #[true, true, true, true, true, false, false, false, false, false, false, false, false, false, false, false, false] rfl rfl (any_of HT_.out (by kernel_rfl)) (fun _ _ _ h => h) (Or.inl ⟨by rfl, ?_⟩) ?_ ?_
        rotate_left
        · intro w'
          go_simp
          with_reducible rfl
        rotate_left
        · simp only [Act.put, List.setIfInBounds_toArray, List.set_cons_zero, List.set_cons_succ, i64_w, i32_w]
          rfl
        refine pure_ (i := 5) (N := some 15) (v := ?_) (a' := ?_) #[true, true, true, true, true, true, false, false, false, false, false, false, false, false, false, false, false] rfl rfl (any_of HT_.out (by kernel_rfl)) (fun _ _ _ h => h) (Or.inl ⟨by rfl, ?_⟩) ?_ ?_
        rotate_left
        · intro w'
          go_simp
          with_reducible rfl
        rotate_left
        · simp only [Act.put, List.setIfInBounds_toArray, List.set_cons_zero, List.set_cons_succ, i64_w, i32_w]
          rfl
        refine pure_ (i := 6) (N := some 16) (v := ?_) (a' := ?_) #[true, true, true, true, true, true, true, false, false, false, false, false, false, false, false, false, false] rfl rfl (any_of HT_.out (by kernel_rfl)) (fun _ _ _ h => h) (Or.inl ⟨by rfl, ?_⟩) ?_ ?_
        rotate_left
        · intro w'
          go_simp
          with_reducible rfl
        rotate_left
        · simp only [Act.put, List.setIfInBounds_toArray, List.set_cons_zero, List.set_cons_succ, i64_w, i32_w]
          rfl
        refine take_ (i := 7) (N := some 17) (v := ?_) (a' := ?_) #[true, true, true, true, true, true, true, true, false, false, false, false, false, false, false, false, false] rfl rfl (take_ofW HT_.out HW_.out (by kernel_rfl)) (fun _ _ _ h => h) (Or.inl ⟨by rfl, ?_⟩) hHeld ?_ ?_
        rotate_left
        · rintro w' ⟨s0, s1, s2, s3, s4⟩
          go_simp
          with_reducible rfl
        rotate_left
        · simp only [Act.put, List.setIfInBounds_toArray, List.set_cons_zero, List.set_cons_succ, i64_w, i32_w]
          rfl
        refine one_ (i := 8) (N := some 18) #[true, true, true, true, true, true, true, true, true, false, false, false, false, false, false, false, false] rfl rfl (one_of HT_.out (by kernel_rfl)) (by decide) (fun K hK => ?_)
        refine goes_ Tryd.func13 (by kernel_rfl) rfl #[.agg #[.int .i64 s.f0, .int .i64 s.f1, .slice A s.f2.length cp]] (by rfl) rfl rfl (by simp only [List.map_toArray, List.map_cons, List.map_nil]; rfl) ?_
        with_reducible refine (HMF.out _ (HB0.out.trans (HBc3.out.mono HB0.out.size))).mono ?_
        rintro e_ wc8 ⟨rfl, hB⟩
        have HBc8 := Aside0.mk (show Below W0.heap.size W0 wc8 from HBc3.out.trans (hB.mono HBc3.out.size))
        clear hB
        have hkF8 := (HBc8.out.block _ (blk_lt HF0.out)).trans HF0.out
        have hkL8 := (HBc8.out.block _ (blk_lt HL0.out)).trans HL0.out
        refine ⟨_, rfl, ?_⟩
        refine hK.out _ _ ⟨((blk_cell hkF8 0).trans rfl), ((blk_cell hkF8 1).trans rfl), ((blk_cell hkF8 2).trans rfl), ((blk_cell hkL8 0).trans rfl), ((blk_cell hkL8 1).trans rfl)⟩ (fun hHeld => ?_)
        clear hK K
        refine norm_ (a' := ?_) ?_ ?_
        rotate_left
        · show Act.put _ (some 18) _ = _
          simp only [Act.put, List.setIfInBounds_toArray, List.set_cons_zero, List.set_cons_succ, i64_w, i32_w]
          rfl
        refine pure_ (i := 9) (N := some 19) (v := ?_) (a' := ?_) #[true, true, true, true, true, true, true, true, true, true, false, false, false, false, false, false, false] rfl rfl (any_of HT_.out (by kernel_rfl)) (fun _ _ _ h => h) (Or.inl ⟨by rfl, ?_⟩) ?_ ?_
        rotate_left
        · intro w'
          go_simp
          with_reducible rfl
        rotate_left
        · simp only [Act.put, List.setIfInBounds_toArray, List.set_cons_zero, List.set_cons_succ, i64_w, i32_w]
          rfl
        refine pure_ (i := 10) (N := some 20) (v := ?_) (a' := ?_) #[true, true, true, true, true, true, true, true, true, true, true, false, false, false, false, false, false] rfl rfl (any_of HT_.out (by kernel_rfl)) (fun _ _ _ h => h) (Or.inl ⟨by rfl, ?_⟩) ?_ ?_
        rotate_left
        · intro w'
          go_simp
          with_reducible rfl
        rotate_left
        · simp only [Act.put, List.setIfInBounds_toArray, List.set_cons_zero, List.set_cons_succ, i64_w, i32_w]
          rfl
        refine pure_ (i := 11) (N := some 21) (v := ?_) (a' := ?_) #[true, true, true, true, true, true, true, true, true, true, true, true, false, false, false, false, false] rfl rfl (any_of HT_.out (by kernel_rfl)) (fun _ _ _ h => h) (Or.inl ⟨by rfl, ?_⟩) ?_ ?_
        rotate_left
        · intro w'
          go_simp
          with_reducible rfl
        rotate_left
        · simp only [Act.put, List.setIfInBounds_toArray, List.set_cons_zero, List.set_cons_succ, i64_w, i32_w]
          rfl
        refine pure_ (i := 12) (N := some 22) (v := undef) (a' := ?_) #[true, true, true, true, true, true, true, true, true, true, true, true, true, false, false, false, false] rfl rfl (any_of HT_.out (by kernel_rfl)) (fun _ _ _ h => h) (Or.inr ⟨by rfl, rfl⟩) ?_ ?_
        rotate_left
        · simp only [Act.put, List.setIfInBounds_toArray, List.set_cons_zero, List.set_cons_succ, i64_w, i32_w]
          rfl
        refine pure_ (i := 13) (N := some 23) (v := undef) (a' := ?_) #[true, true, true, true, true, true, true, true, true, true, true, true, true, true, false, false, false] rfl rfl (any_of HT_.out (by kernel_rfl)) (fun _ _ _ h => h) (Or.inr ⟨by rfl, rfl⟩) ?_ ?_
        rotate_left
        · simp only [Act.put, List.setIfInBounds_toArray, List.set_cons_zero, List.set_cons_succ, i64_w, i32_w]
          rfl
        refine pure_ (i := 14) (N := some 24) (v := undef) (a' := ?_) #[true, true, true, true, true, true, true, true, true, true, true, true, true, true, true, false, false] rfl rfl (any_of HT_.out (by kernel_rfl)) (fun _ _ _ h => h) (Or.inr ⟨by rfl, rfl⟩) ?_ ?_
        rotate_left
        · simp only [Act.put, List.setIfInBounds_toArray, List.set_cons_zero, List.set_cons_succ, i64_w, i32_w]
          rfl
        refine pure_ (i := 15) (N := some 25) (v := undef) (a' := ?_) #[true, true, true, true, true, true, true, true, true, true, true, true, true, true, true, true, false] rfl rfl (any_of HT_.out (by kernel_rfl)) (fun _ _ _ h => h) (Or.inr ⟨by rfl, rfl⟩) ?_ ?_
        rotate_left
        · simp only [Act.put, List.setIfInBounds_toArray, List.set_cons_zero, List.set_cons_succ, i64_w, i32_w]
          rfl
        refine pure_ (i := 16) (N := some 26) (v := ?_) (a' := ?_) #[true, true, true, true, true, true, true, true, true, true, true, true, true, true, true, true, true] rfl rfl (any_of HT_.out (by kernel_rfl)) (fun _ _ _ h => h) (Or.inl ⟨by rfl, ?_⟩) ?_ ?_
        rotate_left
        · intro w'
          go_simp
          with_reducible rfl
        rotate_left
        · simp only [Act.put, List.setIfInBounds_toArray, List.set_cons_zero, List.set_cons_succ, i64_w, i32_w]
          rfl
        refine done_ (done_of HT_.out (by kernel_rfl)) ?_
        go_wp2_with fail
        go_meet
        exact ⟨true, rfl, ⟨fun h => absurd h (by decide)⟩, HBc8⟩
  case rest =>
    obtain ⟨hb, rfl, HWD, HBc⟩ := hcut
    have HB3 := Aside0.mk (HB0.out.trans (HBc.out.mono HB0.out.size))
    obtain ⟨W3, rfl⟩ : ∃ W3 : World, W3 = wc := ⟨_, rfl⟩
    have HF3 := Aside0.mk ((HBc.out.block _ (blk_lt HF0.out)).trans HF0.out)
    have HL3 := Aside0.mk ((HBc.out.block _ (blk_lt HL0.out)).trans HL0.out)
    clear hw1 HWO n1 m1 n3 m3 HMF
    cases hb with
    | true =>
      go_wp2_with (go_at_call 11; refine (awake_calls _).mono ?_; rintro e_ w9 ⟨rfl, hB⟩; have HBz := Aside0.mk (HB3.out.trans (hB.mono HB3.out.size)); clear hB)
      go_ret
      exact ⟨rfl, HBz.out⟩
    | false =>
      obtain ⟨hm0, hbr⟩ := HWD.out rfl
      have htw := HTW.out hm0 hbr
      obtain ⟨b1, b2, b3⟩ := hbr
      have hpe := pick_eq kk (n := (lp.length : Int)) (by omega) (by omega)
      have hwn : IntKind.u64.wrap (lp.length : Int) = (lp.length : Int) := u64_id (by omega) (by omega)
      rw [hwn] at hpe
      have hpr := pick_range kk (n := (lp.length : Int)) (by omega)
      obtain ⟨kn, hkn⟩ := Int.eq_ofNat_of_zero_le hpr.1
      have HPE := Aside0.mk (hpe.trans hkn)
      have hklt : kn < lp.length := by rw [hkn] at hpr; have := hpr.2; omega
      have hla := HLA.out hm0 ⟨b1, b2, b3⟩ kn hklt
      have HBO := Aside0.mk (brief_bytes (st := st) (lp := lp) ⟨b1, b2, b3⟩ (n := ([] : List Int).length) (m := lp.length) (Nat.zero_le _) b3)
      have HBO2 := Aside0.mk (brief_bytes (st := st) (lp := lp) ⟨b1, b2, b3⟩ (n := lp.length) (m := lp.length) b3 b3)
      have HBS := Aside0.mk (brief_bytes (st := st) (lp := lp) ⟨b1, b2, b3⟩ (n := ([] : List Int).length) (m := st.length) (Nat.zero_le _) b1)
      have HBT := Aside0.mk (brief_bytes (st := st) (lp := lp) ⟨b1, b2, b3⟩ (n := st.length) (m := (lp.take kn).length) b1 (take_le b3))
      have HBD := Aside0.mk (brief_bytes (st := st) (lp := lp) ⟨b1, b2, b3⟩ (n := ([] : List Int).length) (m := (lp.drop kn).length) (Nat.zero_le _) (drop_le b3))
      have HBE := Aside0.mk (brief_bytes (st := st) (lp := lp) ⟨b1, b2, b3⟩ (n := (lp.drop kn).length) (m := (lp.take kn).length) (drop_le b3) (take_le b3))
      have HKL := Aside0.mk hklt
      obtain ⟨iU, hiU, _, hszU, _⟩ := info_parts infoU32w
      obtain ⟨hcutT, hAT, hCT⟩ := print_take_of (P := Tryd.prog) (Value.int .u32) 0 25 49 .i64 Tryd.underlying25 hiU hszU A2 c2 lp (kn : Int) (by omega) (by omega) hc2
      obtain ⟨A9, hcutD, hAD, hCD⟩ := print_drop_of (P := Tryd.prog) (Value.int .u32) 0 25 49 .i64 Tryd.underlying25 hiU hszU A2 c2 lp (kn : Int) (by omega) (by omega) hc2
      have HRT := Aside0.mk (fun W (h : Below w.heap.size w W) => Kd.C_of_reads (h1 := fun _ => rfl) (hAT W (Kd.reads_of_C (Kd.C_below HK2.out h))))
      have HRD := Aside0.mk (fun W (h : Below w.heap.size w W) => Kd.C_of_reads (h1 := fun _ => rfl) (hAD W (Kd.reads_of_C (Kd.C_below HK2.out h))))
      simp only [Int.toNat_natCast] at hcutT hcutD HRT HRD hCT hCD
      have HCT := Aside0.mk hCT
      have HCD := Aside0.mk hCD
      clear hAT hAD hCT hCD hiU hszU
      obtain ⟨LL, hLL⟩ : ∃ l, l = lp ++ lp := ⟨_, rfl⟩
      obtain ⟨LS, hLS⟩ : ∃ l, l = st ++ lp.take kn := ⟨_, rfl⟩
      obtain ⟨LT, hLT⟩ : ∃ l, l = lp.drop kn ++ lp.take kn := ⟨_, rfl⟩
      rw [← hLL] at htw
      rw [← hLS, ← hLT] at hla
      have HLL := Aside0.mk hLL
      generalize lp.take kn = lt at *
      generalize lp.drop kn = ld at *
      generalize c2 - kn = c9 at *
      have HLS := Aside0.mk hLS
      have HLT := Aside0.mk hLT
      have HTWN := Aside0.mk htw
      have HLAN := Aside0.mk hla
      have hl1 : 1 ≤ (lp.length : Int) := by omega
      clear htw hla hLL hLS hLT b1 b2 b3 hm0 hpe hpr hkn hklt HWD HTW HLA
      go_upto_region 3 with fail
      have qL30 := (blk_cell HL3.out 0).trans rfl
      have qL31 := (blk_cell HL3.out 1).trans rfl
      go_cut [2] (fun v2 wx => v2 = .int .i64 (kn : Int) ∧ wx = W3)
      case first =>
        go_wp2
        go_meet
        exact ⟨by first | (rw [HPE.out]; done) | (rw [HPE.out]; rfl), rfl⟩
      case rest =>
        obtain ⟨rfl, hwc⟩ := hcut
        rw [hwc]
        clear hwc wc qL30 qL31 hwn hl1
        have HK23 := Aside0.mk (Kd.C_below HK2.out HB3.out)
        go_upto_region 4 with fail
        have BW := Aside0.mk (below_drew1 (Below.refl W3.heap.size W3))
        refine start_ (n := 12) (S := fun w' => True) (ds := []) #[false, false, false, false, false, false, false, false, false, false, false, false] (by kernel_rfl) rfl rfl trivial (fun hHeld => ?_)
        refine with_tabW fwo.tab4 fwo.bits4 (fun HT_ HW_ => ?_)
        refine inv_at [0, 1, 2, 3, 4, 5, 6, 7, 8, 9, 10, 11] (fun a0_ b a w' => ∃ (va2 : Value) (va5 : Value) (va8 : Value) (pa10 : Nat) (m9_ : Value) (m10_ : Value), a = putSel a0_ b [(0, 36, .pointer (some ⟨w.heap.size + 1, 0, none⟩)), (1, 37, .slice A1 st.length c1), (2, 38, va2), (3, 39, .pointer (some ⟨w.heap.size + 1, 1, none⟩)), (4, 40, .slice A2 lp.length c2), (5, 41, va5), (6, 42, .pointer (some ⟨w.heap.size + 1, 1, none⟩)), (7, 43, .slice A2 lp.length c2), (8, 44, va8), (9, 45, m9_), (10, 7, m10_)] ∧ (Below W3.heap.size W3 w') ∧ (b 2 = true → b 5 = false → Kd.R (Kd.int .u32) 49 w' W3.heap.size (fun _ => True) va2 ([] : List Int)) ∧ (b 5 = true → b 8 = false → Kd.R (Kd.int .u32) 49 w' W3.heap.size (fun _ => True) va5 lp) ∧ (b 8 = true → Kd.R (Kd.int .u32) 49 w' W3.heap.size (fun _ => True) va8 LL) ∧ (b 10 = true → b 11 = false → Lay W3 w' pa10 #[.slice none 0 0, .slice none 0 0] 27) ∧ (b 11 = true → Lay W3 w' pa10 #[.slice A1 st.length c1, va8] 27) ∧ (b 9 = true → (m9_ : Value) = .agg #[.slice A1 st.length c1, va8]) ∧ (b 10 = true → (m10_ : Value) = .pointer (some ⟨pa10, 0, none⟩))) HT_.out HW_.out (by kernel_rfl) (by kernel_rfl) ?_ ?_ ?_
        · exact ⟨.bool false, .bool false, .bool false, 0, .bool false, .bool false, by simp only [putSel, Bool.false_eq_true, if_false], BW.out, fun h_ => absurd h_ (by decide), fun h_ => absurd h_ (by decide), fun h_ => absurd h_ (by decide), fun h_ => absurd h_ (by decide), fun h_ => absurd h_ (by decide), fun h_ => absurd h_ (by decide), fun h_ => absurd h_ (by decide)⟩
        · skip
          clear BW
          refine steps_cons ?_ ?_
          · rintro b a w' ⟨va2, va5, va8, pa10, m9_, m10_, ha, Q_BW, Q_Ra2, Q_Ra5, Q_Ra8, Q_Pa10, Q_Sa10, Q_X9_, Q_X10_⟩ hb_ hon hoff
            refine ⟨_, rfl, fun K hK => ?_⟩
            have e4 : a.tmps[4]? = some (.pointer (some ⟨w.heap.size + 1, 0, none⟩)) := by rw [ha]; exact (putSel_off rfl).trans rfl
            replace ha := Aside0.mk ha
            have BW := Aside0.mk Q_BW
            refine value_ (w1 := w') (v := .pointer (some ⟨w.heap.size + 1, 0, none⟩)) (by rfl) rfl ?_ ?_
            · go_simp
              (try simp only [i64_w])
              try rfl
            refine hK.out _ _ ⟨va2, va5, va8, pa10, m9_, m10_, (by rw [ha.out]; exact putSel_upk 0 hb_ rfl rfl rfl), Q_BW, Q_Ra2, Q_Ra5, Q_Ra8, Q_Pa10, fun h0_ => absurd ((hoff 11 (by kernel_rfl)).symm.trans h0_) (by decide), fun h0_ => absurd ((hoff 9 (by kernel_rfl)).symm.trans h0_) (by decide), Q_X10_⟩
          refine steps_cons ?_ ?_
          · rintro b a w' ⟨va2, va5, va8, pa10, m9_, m10_, ha, Q_BW, Q_Ra2, Q_Ra5, Q_Ra8, Q_Pa10, Q_Sa10, Q_X9_, Q_X10_⟩ hb_ hon hoff
            refine ⟨_, rfl, fun K hK => ?_⟩
            have e36 : a.tmps[36]? = some (.pointer (some ⟨w.heap.size + 1, 0, none⟩)) := by rw [ha]; exact putSel_on (e := (0, 36, .pointer (some ⟨w.heap.size + 1, 0, none⟩))) 0 rfl rfl (hon 0 (by kernel_rfl)) rfl
            replace ha := Aside0.mk ha
            have BW := Aside0.mk Q_BW
            have hk_ := (BW.out.block _ (blk_lt HL3.out)).trans HL3.out
            have q0_ := (blk_cell hk_ 0).trans rfl
            have q1_ := (blk_cell hk_ 1).trans rfl
            refine value_ (w1 := w') (v := .slice A1 st.length c1) (by rfl) rfl ?_ ?_
            · go_simp
              (try simp only [i64_w])
              try rfl
            refine hK.out _ _ ⟨va2, va5, va8, pa10, m9_, m10_, (by rw [ha.out]; exact putSel_upk 1 hb_ rfl rfl rfl), Q_BW, Q_Ra2, Q_Ra5, Q_Ra8, Q_Pa10, fun h0_ => absurd ((hoff 11 (by kernel_rfl)).symm.trans h0_) (by decide), fun h0_ => absurd ((hoff 9 (by kernel_rfl)).symm.trans h0_) (by decide), Q_X10_⟩
          refine steps_cons ?_ ?_
          · rintro b a w' ⟨va2, va5, va8, pa10, m9_, m10_, ha, Q_BW, Q_Ra2, Q_Ra5, Q_Ra8, Q_Pa10, Q_Sa10, Q_X9_, Q_X10_⟩ hb_ hon hoff
            refine ⟨_, rfl, fun K hK => ?_⟩
            replace ha := Aside0.mk ha
            have BW := Aside0.mk Q_BW
            refine Kd.R_lit_step (Kd.int .u32) (w0 := W3) W3.heap.size 49 (by rfl) (N := 38) rfl (xs := ([] : List Int)) (inner := []) (ok := fun _ => True) (okp := fun _ => True) ?hr (Reps.none _ _) (fun _ hk => hk) trivial BW.out BW.out.size (by simp) ?_
            case hr => first | (go_simp; done) | (go_simp; rfl)
            intro v_ w1 ho hB hg hat
            refine hK.out _ _ ⟨v_, va5, va8, pa10, m9_, m10_, (by rw [ha.out]; exact putSel_upk 2 hb_ rfl rfl rfl), hB, fun _ _ => ho, fun h0_ _ => absurd ((hoff 5 (by kernel_rfl)).symm.trans h0_) (by decide), fun h0_ => absurd ((hoff 8 (by kernel_rfl)).symm.trans h0_) (by decide), fun h0_ h1_ => (Q_Pa10 h0_ h1_).grown hg (by simp), fun h0_ => absurd ((hoff 11 (by kernel_rfl)).symm.trans h0_) (by decide), fun h0_ => absurd ((hoff 9 (by kernel_rfl)).symm.trans h0_) (by decide), Q_X10_⟩
          refine steps_cons ?_ ?_
          · rintro b a w' ⟨va2, va5, va8, pa10, m9_, m10_, ha, Q_BW, Q_Ra2, Q_Ra5, Q_Ra8, Q_Pa10, Q_Sa10, Q_X9_, Q_X10_⟩ hb_ hon hoff
            refine ⟨_, rfl, fun K hK => ?_⟩
            have e4 : a.tmps[4]? = some (.pointer (some ⟨w.heap.size + 1, 0, none⟩)) := by rw [ha]; exact (putSel_off rfl).trans rfl
            replace ha := Aside0.mk ha
            have BW := Aside0.mk Q_BW
            refine value_ (w1 := w') (v := .pointer (some ⟨w.heap.size + 1, 1, none⟩)) (by rfl) rfl ?_ ?_
            · go_simp
              (try simp only [i64_w])
              try rfl
            refine hK.out _ _ ⟨va2, va5, va8, pa10, m9_, m10_, (by rw [ha.out]; exact putSel_upk 3 hb_ rfl rfl rfl), Q_BW, Q_Ra2, fun h0_ _ => absurd ((hoff 5 (by kernel_rfl)).symm.trans h0_) (by decide), fun h0_ => absurd ((hoff 8 (by kernel_rfl)).symm.trans h0_) (by decide), Q_Pa10, fun h0_ => absurd ((hoff 11 (by kernel_rfl)).symm.trans h0_) (by decide), fun h0_ => absurd ((hoff 9 (by kernel_rfl)).symm.trans h0_) (by decide), Q_X10_⟩
          refine steps_cons ?_ ?_
          · rintro b a w' ⟨va2, va5, va8, pa10, m9_, m10_, ha, Q_BW, Q_Ra2, Q_Ra5, Q_Ra8, Q_Pa10, Q_Sa10, Q_X9_, Q_X10_⟩ hb_ hon hoff
            refine ⟨_, rfl, fun K hK => ?_⟩
            have e39 : a.tmps[39]? = some (.pointer (some ⟨w.heap.size + 1, 1, none⟩)) := by rw [ha]; exact putSel_on (e := (3, 39, .pointer (some ⟨w.heap.size + 1, 1, none⟩))) 3 rfl rfl (hon 3 (by kernel_rfl)) rfl
            replace ha := Aside0.mk ha
            have BW := Aside0.mk Q_BW
            have hk_ := (BW.out.block _ (blk_lt HL3.out)).trans HL3.out
            have q0_ := (blk_cell hk_ 0).trans rfl
            have q1_ := (blk_cell hk_ 1).trans rfl
            refine value_ (w1 := w') (v := .slice A2 lp.length c2) (by rfl) rfl ?_ ?_
            · go_simp
              (try simp only [i64_w])
              try rfl
            refine hK.out _ _ ⟨va2, va5, va8, pa10, m9_, m10_, (by rw [ha.out]; exact putSel_upk 4 hb_ rfl rfl rfl), Q_BW, Q_Ra2, fun h0_ _ => absurd ((hoff 5 (by kernel_rfl)).symm.trans h0_) (by decide), fun h0_ => absurd ((hoff 8 (by kernel_rfl)).symm.trans h0_) (by decide), Q_Pa10, fun h0_ => absurd ((hoff 11 (by kernel_rfl)).symm.trans h0_) (by decide), fun h0_ => absurd ((hoff 9 (by kernel_rfl)).symm.trans h0_) (by decide), Q_X10_⟩
          refine steps_cons ?_ ?_
          · rintro b a w' ⟨va2, va5, va8, pa10, m9_, m10_, ha, Q_BW, Q_Ra2, Q_Ra5, Q_Ra8, Q_Pa10, Q_Sa10, Q_X9_, Q_X10_⟩ hb_ hon hoff
            refine ⟨_, rfl, fun K hK => ?_⟩
            have e38 : a.tmps[38]? = some (va2) := by rw [ha]; exact putSel_on (e := (2, 38, va2)) 2 rfl rfl (hon 2 (by kernel_rfl)) rfl
            have e40 : a.tmps[40]? = some (.slice A2 lp.length c2) := by rw [ha]; exact putSel_on (e := (4, 40, .slice A2 lp.length c2)) 4 rfl rfl (hon 4 (by kernel_rfl)) rfl
            replace ha := Aside0.mk ha
            have BW := Aside0.mk Q_BW
            have Ra2 := Aside0.mk (Q_Ra2 (hon 2 (by kernel_rfl)) hb_)
            refine Kd.R_append_rows_step (Kd.int .u32) (w0 := W3) W3.heap.size (by rfl) (.tmp 38) (.tmp 40) 25 49 (.int .u32 0) 4 rfl Tryd.underlying25 info49 rfl (by decide) (by omega) va2 ([] : List Int) lp _ _ _ (fun _ => True) (fun _ => False) (eval_of e38) (eval_of e40) Ra2.out (Kd.C_below HK23.out BW.out) (fun _ _ h => h) (fun _ h => h.elim) (fun _ _ => trivial) BW.out BW.out.size HBO.out ?_
            intro v_ w1 ho hB hg hat
            refine hK.out _ _ ⟨va2, v_, va8, pa10, m9_, m10_, (by rw [ha.out]; exact putSel_upk 5 hb_ rfl rfl rfl), hB, fun _ h1_ => absurd ((up_self b 5).symm.trans h1_) (by decide), fun _ _ => ho, fun h0_ => absurd ((hoff 8 (by kernel_rfl)).symm.trans h0_) (by decide), fun h0_ h1_ => (Q_Pa10 h0_ h1_).grown hg (Kd.R_ne Ra2.out (Q_Pa10 h0_ h1_).2 (by decide)), fun h0_ => absurd ((hoff 11 (by kernel_rfl)).symm.trans h0_) (by decide), fun h0_ => absurd ((hoff 9 (by kernel_rfl)).symm.trans h0_) (by decide), Q_X10_⟩
          refine steps_cons ?_ ?_
          · rintro b a w' ⟨va2, va5, va8, pa10, m9_, m10_, ha, Q_BW, Q_Ra2, Q_Ra5, Q_Ra8, Q_Pa10, Q_Sa10, Q_X9_, Q_X10_⟩ hb_ hon hoff
            refine ⟨_, rfl, fun K hK => ?_⟩
            have e4 : a.tmps[4]? = some (.pointer (some ⟨w.heap.size + 1, 0, none⟩)) := by rw [ha]; exact (putSel_off rfl).trans rfl
            replace ha := Aside0.mk ha
            have BW := Aside0.mk Q_BW
            refine value_ (w1 := w') (v := .pointer (some ⟨w.heap.size + 1, 1, none⟩)) (by rfl) rfl ?_ ?_
            · go_simp
              (try simp only [i64_w])
              try rfl
            refine hK.out _ _ ⟨va2, va5, va8, pa10, m9_, m10_, (by rw [ha.out]; exact putSel_upk 6 hb_ rfl rfl rfl), Q_BW, Q_Ra2, Q_Ra5, fun h0_ => absurd ((hoff 8 (by kernel_rfl)).symm.trans h0_) (by decide), Q_Pa10, fun h0_ => absurd ((hoff 11 (by kernel_rfl)).symm.trans h0_) (by decide), fun h0_ => absurd ((hoff 9 (by kernel_rfl)).symm.trans h0_) (by decide), Q_X10_⟩
          refine steps_cons ?_ ?_
          · rintro b a w' ⟨va2, va5, va8, pa10, m9_, m10_, ha, Q_BW, Q_Ra2, Q_Ra5, Q_Ra8, Q_Pa10, Q_Sa10, Q_X9_, Q_X10_⟩ hb_ hon hoff
            refine ⟨_, rfl, fun K hK => ?_⟩
            have e42 : a.tmps[42]? = some (.pointer (some ⟨w.heap.size + 1, 1, none⟩)) := by rw [ha]; exact putSel_on (e := (6, 42, .pointer (some ⟨w.heap.size + 1, 1, none⟩))) 6 rfl rfl (hon 6 (by kernel_rfl)) rfl
            replace ha := Aside0.mk ha
            have BW := Aside0.mk Q_BW
            have hk_ := (BW.out.block _ (blk_lt HL3.out)).trans HL3.out
            have q0_ := (blk_cell hk_ 0).trans rfl
            have q1_ := (blk_cell hk_ 1).trans rfl
            refine value_ (w1 := w') (v := .slice A2 lp.length c2) (by rfl) rfl ?_ ?_
            · go_simp
              (try simp only [i64_w])
              try rfl
            refine hK.out _ _ ⟨va2, va5, va8, pa10, m9_, m10_, (by rw [ha.out]; exact putSel_upk 7 hb_ rfl rfl rfl), Q_BW, Q_Ra2, Q_Ra5, fun h0_ => absurd ((hoff 8 (by kernel_rfl)).symm.trans h0_) (by decide), Q_Pa10, fun h0_ => absurd ((hoff 11 (by kernel_rfl)).symm.trans h0_) (by decide), fun h0_ => absurd ((hoff 9 (by kernel_rfl)).symm.trans h0_) (by decide), Q_X10_⟩
          refine steps_cons ?_ ?_
          · rintro b a w' ⟨va2, va5, va8, pa10, m9_, m10_, ha, Q_BW, Q_Ra2, Q_Ra5, Q_Ra8, Q_Pa10, Q_Sa10, Q_X9_, Q_X10_⟩ hb_ hon hoff
            refine ⟨_, rfl, fun K hK => ?_⟩
            have e41 : a.tmps[41]? = some (va5) := by rw [ha]; exact putSel_on (e := (5, 41, va5)) 5 rfl rfl (hon 5 (by kernel_rfl)) rfl
            have e43 : a.tmps[43]? = some (.slice A2 lp.length c2) := by rw [ha]; exact putSel_on (e := (7, 43, .slice A2 lp.length c2)) 7 rfl rfl (hon 7 (by kernel_rfl)) rfl
            replace ha := Aside0.mk ha
            have BW := Aside0.mk Q_BW
            have Ra5 := Aside0.mk (Q_Ra5 (hon 5 (by kernel_rfl)) hb_)
            refine Kd.R_append_rows_step (Kd.int .u32) (w0 := W3) W3.heap.size (by rfl) (.tmp 41) (.tmp 43) 25 49 (.int .u32 0) 4 rfl Tryd.underlying25 info49 rfl (by decide) (by omega) va5 lp lp _ _ _ (fun _ => True) (fun _ => False) (eval_of e41) (eval_of e43) Ra5.out (Kd.C_below HK23.out BW.out) (fun _ _ h => h) (fun _ h => h.elim) (fun _ _ => trivial) BW.out BW.out.size HBO2.out ?_
            intro v_ w1 ho hB hg hat
            refine hK.out _ _ ⟨va2, va5, v_, pa10, m9_, m10_, (by rw [ha.out]; exact putSel_upk 8 hb_ rfl rfl rfl), hB, fun _ h1_ => absurd ((hon 5 (by kernel_rfl)).symm.trans h1_) (by decide), fun _ h1_ => absurd ((up_self b 8).symm.trans h1_) (by decide), fun _ => (by rw [HLL.out]; exact ho), fun h0_ h1_ => (Q_Pa10 h0_ h1_).grown hg (Kd.R_ne Ra5.out (Q_Pa10 h0_ h1_).2 (by decide)), fun h0_ => absurd ((hoff 11 (by kernel_rfl)).symm.trans h0_) (by decide), fun h0_ => absurd ((hoff 9 (by kernel_rfl)).symm.trans h0_) (by decide), Q_X10_⟩
          refine steps_cons ?_ ?_
          · rintro b a w' ⟨va2, va5, va8, pa10, m9_, m10_, ha, Q_BW, Q_Ra2, Q_Ra5, Q_Ra8, Q_Pa10, Q_Sa10, Q_X9_, Q_X10_⟩ hb_ hon hoff
            refine ⟨_, rfl, fun K hK => ?_⟩
            have e37 : a.tmps[37]? = some (.slice A1 st.length c1) := by rw [ha]; exact putSel_on (e := (1, 37, .slice A1 st.length c1)) 1 rfl rfl (hon 1 (by kernel_rfl)) rfl
            have e44 : a.tmps[44]? = some (va8) := by rw [ha]; exact putSel_on (e := (8, 44, va8)) 8 rfl rfl (hon 8 (by kernel_rfl)) rfl
            replace ha := Aside0.mk ha
            have BW := Aside0.mk Q_BW
            have Ra8 := Aside0.mk (Q_Ra8 (hon 8 (by kernel_rfl)))
            obtain ⟨A1_, c1_, e0_, _, _⟩ := Kd.R_reads Ra8.out
            subst e0_
            refine value_ (w1 := w') (v := .agg #[.slice A1 st.length c1, (.slice A1_ LL.length c1_)]) (by rfl) rfl ?_ ?_
            · go_simp
              (try simp only [i64_w])
              try rfl
            refine hK.out _ _ ⟨va2, va5, (.slice A1_ LL.length c1_), pa10, (.agg #[.slice A1 st.length c1, (.slice A1_ LL.length c1_)]), m10_, (by rw [ha.out]; exact putSel_upk 9 hb_ rfl rfl rfl), Q_BW, fun _ h1_ => absurd ((hon 5 (by kernel_rfl)).symm.trans h1_) (by decide), fun _ h1_ => absurd ((hon 8 (by kernel_rfl)).symm.trans h1_) (by decide), Q_Ra8, Q_Pa10, fun h0_ => absurd ((hoff 11 (by kernel_rfl)).symm.trans h0_) (by decide), fun _ => rfl, Q_X10_⟩
          refine steps_cons ?_ ?_
          · rintro b a w' ⟨va2, va5, va8, pa10, m9_, m10_, ha, Q_BW, Q_Ra2, Q_Ra5, Q_Ra8, Q_Pa10, Q_Sa10, Q_X9_, Q_X10_⟩ hb_ hon hoff
            refine ⟨_, rfl, fun K hK => ?_⟩
            replace ha := Aside0.mk ha
            have BW := Aside0.mk Q_BW
            refine value_ (w1 := w'.alloc (.cells #[.slice none 0 0, .slice none 0 0] 27)) (v := .pointer (some ⟨w'.heap.size, 0, none⟩)) (by rfl) rfl ?_ ?_
            · (go_simp; try rfl)
            refine hK.out _ _ ⟨va2, va5, va8, w'.heap.size, m9_, (.pointer (some ⟨w'.heap.size, 0, none⟩)), (by rw [ha.out]; exact putSel_upk 10 hb_ rfl rfl rfl), below_alloc BW.out _, fun h0_ h1_ => Kd.R_alloc (Q_Ra2 h0_ h1_) _, fun h0_ h1_ => Kd.R_alloc (Q_Ra5 h0_ h1_) _, fun h0_ => Kd.R_alloc (Q_Ra8 h0_) _, fun _ _ => Lay.new BW.out _ _, fun h0_ => absurd ((hoff 11 (by kernel_rfl)).symm.trans h0_) (by decide), Q_X9_, fun _ => rfl⟩
          refine steps_cons ?_ ?_
          · rintro b a w' ⟨va2, va5, va8, pa10, m9_, m10_, ha, Q_BW, Q_Ra2, Q_Ra5, Q_Ra8, Q_Pa10, Q_Sa10, Q_X9_, Q_X10_⟩ hb_ hon hoff
            refine ⟨_, rfl, fun K hK => ?_⟩
            have e7 : a.tmps[7]? = some (m10_) := by rw [ha]; exact putSel_on (e := (10, 7, m10_)) 10 rfl rfl (hon 10 (by kernel_rfl)) rfl
            rw [Q_X10_ (hon 10 (by kernel_rfl))] at e7
            have e45 : a.tmps[45]? = some (m9_) := by rw [ha]; exact putSel_on (e := (9, 45, m9_)) 9 rfl rfl (hon 9 (by kernel_rfl)) rfl
            rw [Q_X9_ (hon 9 (by kernel_rfl))] at e45
            replace ha := Aside0.mk ha
            have BW := Aside0.mk Q_BW
            have Ra8 := Aside0.mk (Q_Ra8 (hon 8 (by kernel_rfl)))
            have Pa10 := Aside0.mk (Q_Pa10 (hon 10 (by kernel_rfl)) hb_)
            obtain ⟨A1_, c1_, e0_, _, _⟩ := Kd.R_reads Ra8.out
            subst e0_
            have z0_ := (blk_cell Pa10.out.2 0).trans rfl
            have z1_ := (blk_cell Pa10.out.2 1).trans rfl
            have f0_ := blk_frozen Pa10.out.2 0
            have f1_ := blk_frozen Pa10.out.2 1
            refine skip_ (w1 := put2 w' pa10 (.slice A1 st.length c1) (.slice A1_ LL.length c1_)) (by rfl) rfl ?_ ?_
            · (unfold put2; go_simp; try rfl)
            refine hK.out _ _ ⟨va2, va5, (.slice A1_ LL.length c1_), pa10, m9_, m10_, (by rw [ha.out]; exact putSel_none (v := undef) rfl), below_put2 BW.out Pa10.out.1 _ _, fun _ h1_ => absurd ((hon 5 (by kernel_rfl)).symm.trans h1_) (by decide), fun _ h1_ => absurd ((hon 8 (by kernel_rfl)).symm.trans h1_) (by decide), fun _ => R_put2 Ra8.out Pa10.out.2 (by decide) _ _, fun _ h1_ => absurd ((up_self b 11).symm.trans h1_) (by decide), fun _ => Pa10.out.put2 _ _, Q_X9_, Q_X10_⟩
          exact steps_nil
        · rintro b a w' hall ⟨va2, va5, va8, pa10, m9_, m10_, ha, Q_BW, Q_Ra2, Q_Ra5, Q_Ra8, Q_Pa10, Q_Sa10, Q_X9_, Q_X10_⟩
          clear BW
          have hb0_ := hall 0 (by kernel_rfl)
          have hb1_ := hall 1 (by kernel_rfl)
          have hb2_ := hall 2 (by kernel_rfl)
          have hb3_ := hall 3 (by kernel_rfl)
          have hb4_ := hall 4 (by kernel_rfl)
          have hb5_ := hall 5 (by kernel_rfl)
          have hb6_ := hall 6 (by kernel_rfl)
          have hb7_ := hall 7 (by kernel_rfl)
          have hb8_ := hall 8 (by kernel_rfl)
          have hb9_ := hall 9 (by kernel_rfl)
          have hb10_ := hall 10 (by kernel_rfl)
          have hb11_ := hall 11 (by kernel_rfl)
          subst ha
          obtain rfl := Q_X9_ hb9_
          obtain rfl := Q_X10_ hb10_
          simp only [putSel, hb0_, hb1_, hb2_, hb3_, hb4_, hb5_, hb6_, hb7_, hb8_, hb9_, hb10_, hb11_, if_true, Act.put, List.setIfInBounds_toArray, List.set_cons_zero, List.set_cons_succ]
          have BW := Aside0.mk Q_BW
          clear Q_BW
          clear Q_Ra2
          clear Q_Ra5
          have Ra8 := Aside0.mk (Q_Ra8 hb8_)
          clear Q_Ra8
          clear Q_Pa10
          have Sa10 := Aside0.mk (Q_Sa10 hb11_)
          clear Q_Sa10
          clear hall hb0_ hb1_ hb2_ hb3_ hb4_ hb5_ hb6_ hb7_ hb8_ hb9_ hb10_ hb11_
          obtain ⟨W4, rfl⟩ : ∃ W : World, W = w' := ⟨_, rfl⟩
          have HBW4 := BW
          clear BW
          have HB4 := Aside0.mk (HB3.out.trans (HBW4.out.mono HB3.out.size))
          have HF4 := Aside0.mk ((HBW4.out.block _ (blk_lt HF3.out)).trans HF3.out)
          have HL4 := Aside0.mk ((HBW4.out.block _ (blk_lt HL3.out)).trans HL3.out)
          obtain ⟨A8, c8, e8, hc8, hC8⟩ := Kd.R_reads Ra8.out
          subst e8
          have HT4b := Aside0.mk Sa10.out.2
          have HCL4 := Aside0.mk hC8
          have HcL := Aside0.mk hc8
          clear hC8 hc8 Ra8 Sa10 HK23
          have HK14 := Aside0.mk (Kd.C_below HK1.out HB4.out)
          have HK24 := Aside0.mk (Kd.C_below HK2.out HB4.out)
          have HT4 := Aside0.mk (HRT.out W4 HB4.out)
          have HD4 := Aside0.mk (HRD.out W4 HB4.out)
          clear HRT HRD
          go_upto_region 5 with fail
          have BW := Aside0.mk (below_drew1 (Below.refl W4.heap.size W4))
          refine start_ (n := 23) (S := fun w' => True) (ds := []) #[false, false, false, false, false, false, false, false, false, false, false, false, false, false, false, false, false, false, false, false, false, false, false] (by kernel_rfl) rfl rfl trivial (fun hHeld => ?_)
          refine with_tabW fwo.tab5 fwo.bits5 (fun HT_ HW_ => ?_)
          refine inv_at [0, 1, 2, 3, 4, 5, 6, 7, 8, 9, 10, 11, 12, 13, 14, 15, 16, 17, 18, 19, 20, 21, 22] (fun a0_ b a w' => ∃ (vb0 : Value) (vb9 : Value) (vb3 : Value) (vb8 : Value) (vb14 : Value) (vb19 : Value) (pb21 : Nat) (m20_ : Value) (m21_ : Value), a = putSel a0_ b [(0, 46, vb0), (1, 47, .pointer (some ⟨w.heap.size + 1, 0, none⟩)), (2, 48, .slice A1 st.length c1), (3, 49, vb3), (4, 50, .pointer (some ⟨w.heap.size + 1, 1, none⟩)), (5, 51, .slice A2 lp.length c2), (6, 52, .int .i64 (kn : Int)), (7, 53, .slice A2 lt.length c2), (8, 54, vb8), (9, 55, vb9), (10, 56, .pointer (some ⟨w.heap.size + 1, 1, none⟩)), (11, 57, .slice A2 lp.length c2), (12, 58, .int .i64 (kn : Int)), (13, 59, .slice A9 ld.length c9), (14, 60, vb14), (15, 61, .pointer (some ⟨w.heap.size + 1, 1, none⟩)), (16, 62, .slice A2 lp.length c2), (17, 63, .int .i64 (kn : Int)), (18, 64, .slice A2 lt.length c2), (19, 65, vb19), (20, 66, m20_), (21, 8, m21_)] ∧ (Below W4.heap.size W4 w') ∧ (b 0 = true → b 3 = false → Kd.R (Kd.int .u32) 49 w' W4.heap.size (fun _ => True) vb0 ([] : List Int)) ∧ (b 9 = true → b 14 = false → Kd.R (Kd.int .u32) 49 w' W4.heap.size (fun _ => True) vb9 ([] : List Int)) ∧ (b 3 = true → b 8 = false → Kd.R (Kd.int .u32) 49 w' W4.heap.size (fun _ => True) vb3 st) ∧ (b 8 = true → Kd.R (Kd.int .u32) 49 w' W4.heap.size (fun _ => True) vb8 LS) ∧ (b 14 = true → b 19 = false → Kd.R (Kd.int .u32) 49 w' W4.heap.size (fun _ => True) vb14 ld) ∧ (b 19 = true → Kd.R (Kd.int .u32) 49 w' W4.heap.size (fun _ => True) vb19 LT) ∧ (b 21 = true → b 22 = false → Lay W4 w' pb21 #[.slice none 0 0, .slice none 0 0] 27) ∧ (b 22 = true → Lay W4 w' pb21 #[vb8, vb19] 27) ∧ (b 0 = true → b 9 = true → b 3 = false → Apart vb0 vb9) ∧ (b 3 = true → b 9 = true → b 8 = false → Apart vb3 vb9) ∧ (b 8 = true → b 9 = true → b 14 = false → Apart vb8 vb9) ∧ (b 14 = true → b 19 = false → Apart vb8 vb14) ∧ (b 19 = true → Apart vb8 vb19) ∧ (b 20 = true → (m20_ : Value) = .agg #[vb8, vb19]) ∧ (b 21 = true → (m21_ : Value) = .pointer (some ⟨pb21, 0, none⟩))) HT_.out HW_.out (by kernel_rfl) (by kernel_rfl) ?_ ?_ ?_
          · exact ⟨.bool false, .bool false, .bool false, .bool false, .bool false, .bool false, 0, .bool false, .bool false, by simp only [putSel, Bool.false_eq_true, if_false], BW.out, fun h_ => absurd h_ (by decide), fun h_ => absurd h_ (by decide), fun h_ => absurd h_ (by decide), fun h_ => absurd h_ (by decide), fun h_ => absurd h_ (by decide), fun h_ => absurd h_ (by decide), fun h_ => absurd h_ (by decide), fun h_ => absurd h_ (by decide), fun h_ => absurd h_ (by decide), fun h_ => absurd h_ (by decide), fun h_ => absurd h_ (by decide), fun h_ => absurd h_ (by decide), fun h_ => absurd h_ (by decide), fun h_ => absurd h_ (by decide), fun h_ => absurd h_ (by decide)⟩
          · skip
            clear BW
            refine steps_cons ?_ ?_
            · rintro b a w' ⟨vb0, vb9, vb3, vb8, vb14, vb19, pb21, m20_, m21_, ha, Q_BW, Q_Rb0, Q_Rb9, Q_Rb3, Q_Rb8, Q_Rb14, Q_Rb19, Q_Pb21, Q_Sb21, Q_Nb0_9, Q_Nb3_9, Q_Nb8_9, Q_Nb8_14, Q_Nb8_19, Q_X20_, Q_X21_⟩ hb_ hon hoff
              refine ⟨_, rfl, fun K hK => ?_⟩
              replace ha := Aside0.mk ha
              have BW := Aside0.mk Q_BW
              refine Kd.R_lit_step (Kd.int .u32) (w0 := W4) W4.heap.size 49 (by rfl) (N := 46) rfl (xs := ([] : List Int)) (inner := []) (ok := fun _ => True) (okp := fun _ => True) ?hr (Reps.none _ _) (fun _ hk => hk) trivial BW.out BW.out.size (by simp) ?_
              case hr => first | (go_simp; done) | (go_simp; rfl)
              intro v_ w1 ho hB hg hat
              refine hK.out _ _ ⟨v_, vb9, vb3, vb8, vb14, vb19, pb21, m20_, m21_, (by rw [ha.out]; exact putSel_upk 0 hb_ rfl rfl rfl), hB, fun _ _ => ho, fun h0_ h1_ => Kd.R_grown2 (Q_Rb9 h0_ h1_) rfl hg (fun k e => by cases e), fun h0_ _ => absurd ((hoff 3 (by kernel_rfl)).symm.trans h0_) (by decide), fun h0_ => absurd ((hoff 8 (by kernel_rfl)).symm.trans h0_) (by decide), fun h0_ _ => absurd ((hoff 14 (by kernel_rfl)).symm.trans h0_) (by decide), fun h0_ => absurd ((hoff 19 (by kernel_rfl)).symm.trans h0_) (by decide), fun h0_ h1_ => (Q_Pb21 h0_ h1_).grown hg (by simp), fun h0_ => absurd ((hoff 22 (by kernel_rfl)).symm.trans h0_) (by decide), fun h0_ h1_ h2_ => apart_new (Q_Rb9 h1_ (hoff 14 (by kernel_rfl))) hat, fun h0_ _ _ => absurd ((hoff 3 (by kernel_rfl)).symm.trans h0_) (by decide), fun h0_ _ _ => absurd ((hoff 8 (by kernel_rfl)).symm.trans h0_) (by decide), fun h0_ _ => absurd ((hoff 14 (by kernel_rfl)).symm.trans h0_) (by decide), fun h0_ => absurd ((hoff 19 (by kernel_rfl)).symm.trans h0_) (by decide), fun h0_ => absurd ((hoff 20 (by kernel_rfl)).symm.trans h0_) (by decide), Q_X21_⟩
            refine steps_cons ?_ ?_
            · rintro b a w' ⟨vb0, vb9, vb3, vb8, vb14, vb19, pb21, m20_, m21_, ha, Q_BW, Q_Rb0, Q_Rb9, Q_Rb3, Q_Rb8, Q_Rb14, Q_Rb19, Q_Pb21, Q_Sb21, Q_Nb0_9, Q_Nb3_9, Q_Nb8_9, Q_Nb8_14, Q_Nb8_19, Q_X20_, Q_X21_⟩ hb_ hon hoff
              refine ⟨_, rfl, fun K hK => ?_⟩
              have e4 : a.tmps[4]? = some (.pointer (some ⟨w.heap.size + 1, 0, none⟩)) := by rw [ha]; exact (putSel_off rfl).trans rfl
              replace ha := Aside0.mk ha
              have BW := Aside0.mk Q_BW
              refine value_ (w1 := w') (v := .pointer (some ⟨w.heap.size + 1, 0, none⟩)) (by rfl) rfl ?_ ?_
              · go_simp
                (try simp only [i64_w])
                try rfl
              refine hK.out _ _ ⟨vb0, vb9, vb3, vb8, vb14, vb19, pb21, m20_, m21_, (by rw [ha.out]; exact putSel_upk 1 hb_ rfl rfl rfl), Q_BW, Q_Rb0, Q_Rb9, fun h0_ _ => absurd ((hoff 3 (by kernel_rfl)).symm.trans h0_) (by decide), fun h0_ => absurd ((hoff 8 (by kernel_rfl)).symm.trans h0_) (by decide), fun h0_ _ => absurd ((hoff 14 (by kernel_rfl)).symm.trans h0_) (by decide), fun h0_ => absurd ((hoff 19 (by kernel_rfl)).symm.trans h0_) (by decide), Q_Pb21, fun h0_ => absurd ((hoff 22 (by kernel_rfl)).symm.trans h0_) (by decide), Q_Nb0_9, fun h0_ _ _ => absurd ((hoff 3 (by kernel_rfl)).symm.trans h0_) (by decide), fun h0_ _ _ => absurd ((hoff 8 (by kernel_rfl)).symm.trans h0_) (by decide), fun h0_ _ => absurd ((hoff 14 (by kernel_rfl)).symm.trans h0_) (by decide), fun h0_ => absurd ((hoff 19 (by kernel_rfl)).symm.trans h0_) (by decide), fun h0_ => absurd ((hoff 20 (by kernel_rfl)).symm.trans h0_) (by decide), Q_X21_⟩
            refine steps_cons ?_ ?_
            · rintro b a w' ⟨vb0, vb9, vb3, vb8, vb14, vb19, pb21, m20_, m21_, ha, Q_BW, Q_Rb0, Q_Rb9, Q_Rb3, Q_Rb8, Q_Rb14, Q_Rb19, Q_Pb21, Q_Sb21, Q_Nb0_9, Q_Nb3_9, Q_Nb8_9, Q_Nb8_14, Q_Nb8_19, Q_X20_, Q_X21_⟩ hb_ hon hoff
              refine ⟨_, rfl, fun K hK => ?_⟩
              have e47 : a.tmps[47]? = some (.pointer (some ⟨w.heap.size + 1, 0, none⟩)) := by rw [ha]; exact putSel_on (e := (1, 47, .pointer (some ⟨w.heap.size + 1, 0, none⟩))) 1 rfl rfl (hon 1 (by kernel_rfl)) rfl
              replace ha := Aside0.mk ha
              have BW := Aside0.mk Q_BW
              have hk_ := (BW.out.block _ (blk_lt HL4.out)).trans HL4.out
              have q0_ := (blk_cell hk_ 0).trans rfl
              have q1_ := (blk_cell hk_ 1).trans rfl
              refine value_ (w1 := w') (v := .slice A1 st.length c1) (by rfl) rfl ?_ ?_
              · go_simp
                (try simp only [i64_w])
                try rfl
              refine hK.out _ _ ⟨vb0, vb9, vb3, vb8, vb14, vb19, pb21, m20_, m21_, (by rw [ha.out]; exact putSel_upk 2 hb_ rfl rfl rfl), Q_BW, Q_Rb0, Q_Rb9, fun h0_ _ => absurd ((hoff 3 (by kernel_rfl)).symm.trans h0_) (by decide), fun h0_ => absurd ((hoff 8 (by kernel_rfl)).symm.trans h0_) (by decide), fun h0_ _ => absurd ((hoff 14 (by kernel_rfl)).symm.trans h0_) (by decide), fun h0_ => absurd ((hoff 19 (by kernel_rfl)).symm.trans h0_) (by decide), Q_Pb21, fun h0_ => absurd ((hoff 22 (by kernel_rfl)).symm.trans h0_) (by decide), Q_Nb0_9, fun h0_ _ _ => absurd ((hoff 3 (by kernel_rfl)).symm.trans h0_) (by decide), fun h0_ _ _ => absurd ((hoff 8 (by kernel_rfl)).symm.trans h0_) (by decide), fun h0_ _ => absurd ((hoff 14 (by kernel_rfl)).symm.trans h0_) (by decide), fun h0_ => absurd ((hoff 19 (by kernel_rfl)).symm.trans h0_) (by decide), fun h0_ => absurd ((hoff 20 (by kernel_rfl)).symm.trans h0_) (by decide), Q_X21_⟩
            refine steps_cons ?_ ?_
            · rintro b a w' ⟨vb0, vb9, vb3, vb8, vb14, vb19, pb21, m20_, m21_, ha, Q_BW, Q_Rb0, Q_Rb9, Q_Rb3, Q_Rb8, Q_Rb14, Q_Rb19, Q_Pb21, Q_Sb21, Q_Nb0_9, Q_Nb3_9, Q_Nb8_9, Q_Nb8_14, Q_Nb8_19, Q_X20_, Q_X21_⟩ hb_ hon hoff
              refine ⟨_, rfl, fun K hK => ?_⟩
              have e46 : a.tmps[46]? = some (vb0) := by rw [ha]; exact putSel_on (e := (0, 46, vb0)) 0 rfl rfl (hon 0 (by kernel_rfl)) rfl
              have e48 : a.tmps[48]? = some (.slice A1 st.length c1) := by rw [ha]; exact putSel_on (e := (2, 48, .slice A1 st.length c1)) 2 rfl rfl (hon 2 (by kernel_rfl)) rfl
              replace ha := Aside0.mk ha
              have BW := Aside0.mk Q_BW
              have Rb0 := Aside0.mk (Q_Rb0 (hon 0 (by kernel_rfl)) hb_)
              refine Kd.R_append_rows_step (Kd.int .u32) (w0 := W4) W4.heap.size (by rfl) (.tmp 46) (.tmp 48) 25 49 (.int .u32 0) 4 rfl Tryd.underlying25 info49 rfl (by decide) (by omega) vb0 ([] : List Int) st _ _ _ (fun _ => True) (fun _ => False) (eval_of e46) (eval_of e48) Rb0.out (Kd.C_below HK14.out BW.out) (fun _ _ h => h) (fun _ h => h.elim) (fun _ _ => trivial) BW.out BW.out.size HBS.out ?_
              intro v_ w1 ho hB hg hat
              refine hK.out _ _ ⟨vb0, vb9, v_, vb8, vb14, vb19, pb21, m20_, m21_, (by rw [ha.out]; exact putSel_upk 3 hb_ rfl rfl rfl), hB, fun _ h1_ => absurd ((up_self b 3).symm.trans h1_) (by decide), fun h0_ h1_ => Kd.R_grown2 (Q_Rb9 h0_ h1_) rfl hg (apart_keep (Q_Nb0_9 (hon 0 (by kernel_rfl)) h0_ hb_)), fun _ _ => ho, fun h0_ => absurd ((hoff 8 (by kernel_rfl)).symm.trans h0_) (by decide), fun h0_ _ => absurd ((hoff 14 (by kernel_rfl)).symm.trans h0_) (by decide), fun h0_ => absurd ((hoff 19 (by kernel_rfl)).symm.trans h0_) (by decide), fun h0_ h1_ => (Q_Pb21 h0_ h1_).grown hg (Kd.R_ne Rb0.out (Q_Pb21 h0_ h1_).2 (by decide)), fun h0_ => absurd ((hoff 22 (by kernel_rfl)).symm.trans h0_) (by decide), fun _ _ h2_ => absurd ((up_self b 3).symm.trans h2_) (by decide), fun h0_ h1_ h2_ => apart_step (Q_Nb0_9 (hon 0 (by kernel_rfl)) h1_ hb_) (Q_Rb9 h1_ (hoff 14 (by kernel_rfl))) hat, fun h0_ _ _ => absurd ((hoff 8 (by kernel_rfl)).symm.trans h0_) (by decide), fun h0_ _ => absurd ((hoff 14 (by kernel_rfl)).symm.trans h0_) (by decide), fun h0_ => absurd ((hoff 19 (by kernel_rfl)).symm.trans h0_) (by decide), fun h0_ => absurd ((hoff 20 (by kernel_rfl)).symm.trans h0_) (by decide), Q_X21_⟩
            refine steps_cons ?_ ?_
            · rintro b a w' ⟨vb0, vb9, vb3, vb8, vb14, vb19, pb21, m20_, m21_, ha, Q_BW, Q_Rb0, Q_Rb9, Q_Rb3, Q_Rb8, Q_Rb14, Q_Rb19, Q_Pb21, Q_Sb21, Q_Nb0_9, Q_Nb3_9, Q_Nb8_9, Q_Nb8_14, Q_Nb8_19, Q_X20_, Q_X21_⟩ hb_ hon hoff
              refine ⟨_, rfl, fun K hK => ?_⟩
              have e4 : a.tmps[4]? = some (.pointer (some ⟨w.heap.size + 1, 0, none⟩)) := by rw [ha]; exact (putSel_off rfl).trans rfl
              replace ha := Aside0.mk ha
              have BW := Aside0.mk Q_BW
              refine value_ (w1 := w') (v := .pointer (some ⟨w.heap.size + 1, 1, none⟩)) (by rfl) rfl ?_ ?_
              · go_simp
                (try simp only [i64_w])
                try rfl
              refine hK.out _ _ ⟨vb0, vb9, vb3, vb8, vb14, vb19, pb21, m20_, m21_, (by rw [ha.out]; exact putSel_upk 4 hb_ rfl rfl rfl), Q_BW, Q_Rb0, Q_Rb9, Q_Rb3, fun h0_ => absurd ((hoff 8 (by kernel_rfl)).symm.trans h0_) (by decide), fun h0_ _ => absurd ((hoff 14 (by kernel_rfl)).symm.trans h0_) (by decide), fun h0_ => absurd ((hoff 19 (by kernel_rfl)).symm.trans h0_) (by decide), Q_Pb21, fun h0_ => absurd ((hoff 22 (by kernel_rfl)).symm.trans h0_) (by decide), Q_Nb0_9, Q_Nb3_9, fun h0_ _ _ => absurd ((hoff 8 (by kernel_rfl)).symm.trans h0_) (by decide), fun h0_ _ => absurd ((hoff 14 (by kernel_rfl)).symm.trans h0_) (by decide), fun h0_ => absurd ((hoff 19 (by kernel_rfl)).symm.trans h0_) (by decide), fun h0_ => absurd ((hoff 20 (by kernel_rfl)).symm.trans h0_) (by decide), Q_X21_⟩
            refine steps_cons ?_ ?_
            · rintro b a w' ⟨vb0, vb9, vb3, vb8, vb14, vb19, pb21, m20_, m21_, ha, Q_BW, Q_Rb0, Q_Rb9, Q_Rb3, Q_Rb8, Q_Rb14, Q_Rb19, Q_Pb21, Q_Sb21, Q_Nb0_9, Q_Nb3_9, Q_Nb8_9, Q_Nb8_14, Q_Nb8_19, Q_X20_, Q_X21_⟩ hb_ hon hoff
              refine ⟨_, rfl, fun K hK => ?_⟩
              have e50 : a.tmps[50]? = some (.pointer (some ⟨w.heap.size + 1, 1, none⟩)) := by rw [ha]; exact putSel_on (e := (4, 50, .pointer (some ⟨w.heap.size + 1, 1, none⟩))) 4 rfl rfl (hon 4 (by kernel_rfl)) rfl
              replace ha := Aside0.mk ha
              have BW := Aside0.mk Q_BW
              have hk_ := (BW.out.block _ (blk_lt HL4.out)).trans HL4.out
              have q0_ := (blk_cell hk_ 0).trans rfl
              have q1_ := (blk_cell hk_ 1).trans rfl
              refine value_ (w1 := w') (v := .slice A2 lp.length c2) (by rfl) rfl ?_ ?_
              · go_simp
                (try simp only [i64_w])
                try rfl
              refine hK.out _ _ ⟨vb0, vb9, vb3, vb8, vb14, vb19, pb21, m20_, m21_, (by rw [ha.out]; exact putSel_upk 5 hb_ rfl rfl rfl), Q_BW, Q_Rb0, Q_Rb9, Q_Rb3, fun h0_ => absurd ((hoff 8 (by kernel_rfl)).symm.trans h0_) (by decide), fun h0_ _ => absurd ((hoff 14 (by kernel_rfl)).symm.trans h0_) (by decide), fun h0_ => absurd ((hoff 19 (by kernel_rfl)).symm.trans h0_) (by decide), Q_Pb21, fun h0_ => absurd ((hoff 22 (by kernel_rfl)).symm.trans h0_) (by decide), Q_Nb0_9, Q_Nb3_9, fun h0_ _ _ => absurd ((hoff 8 (by kernel_rfl)).symm.trans h0_) (by decide), fun h0_ _ => absurd ((hoff 14 (by kernel_rfl)).symm.trans h0_) (by decide), fun h0_ => absurd ((hoff 19 (by kernel_rfl)).symm.trans h0_) (by decide), fun h0_ => absurd ((hoff 20 (by kernel_rfl)).symm.trans h0_) (by decide), Q_X21_⟩
            refine steps_cons ?_ ?_
            · rintro b a w' ⟨vb0, vb9, vb3, vb8, vb14, vb19, pb21, m20_, m21_, ha, Q_BW, Q_Rb0, Q_Rb9, Q_Rb3, Q_Rb8, Q_Rb14, Q_Rb19, Q_Pb21, Q_Sb21, Q_Nb0_9, Q_Nb3_9, Q_Nb8_9, Q_Nb8_14, Q_Nb8_19, Q_X20_, Q_X21_⟩ hb_ hon hoff
              refine ⟨_, rfl, fun K hK => ?_⟩
              have e2 : a.tmps[2]? = some (.int .i64 (kn : Int)) := by rw [ha]; exact (putSel_off rfl).trans rfl
              replace ha := Aside0.mk ha
              have BW := Aside0.mk Q_BW
              refine value_ (w1 := w') (v := .int .i64 (kn : Int)) (by rfl) rfl ?_ ?_
              · go_simp
                (try simp only [i64_w])
                try rfl
              refine hK.out _ _ ⟨vb0, vb9, vb3, vb8, vb14, vb19, pb21, m20_, m21_, (by rw [ha.out]; exact putSel_upk 6 hb_ rfl rfl rfl), Q_BW, Q_Rb0, Q_Rb9, Q_Rb3, fun h0_ => absurd ((hoff 8 (by kernel_rfl)).symm.trans h0_) (by decide), fun h0_ _ => absurd ((hoff 14 (by kernel_rfl)).symm.trans h0_) (by decide), fun h0_ => absurd ((hoff 19 (by kernel_rfl)).symm.trans h0_) (by decide), Q_Pb21, fun h0_ => absurd ((hoff 22 (by kernel_rfl)).symm.trans h0_) (by decide), Q_Nb0_9, Q_Nb3_9, fun h0_ _ _ => absurd ((hoff 8 (by kernel_rfl)).symm.trans h0_) (by decide), fun h0_ _ => absurd ((hoff 14 (by kernel_rfl)).symm.trans h0_) (by decide), fun h0_ => absurd ((hoff 19 (by kernel_rfl)).symm.trans h0_) (by decide), fun h0_ => absurd ((hoff 20 (by kernel_rfl)).symm.trans h0_) (by decide), Q_X21_⟩
            refine steps_cons ?_ ?_
            · rintro b a w' ⟨vb0, vb9, vb3, vb8, vb14, vb19, pb21, m20_, m21_, ha, Q_BW, Q_Rb0, Q_Rb9, Q_Rb3, Q_Rb8, Q_Rb14, Q_Rb19, Q_Pb21, Q_Sb21, Q_Nb0_9, Q_Nb3_9, Q_Nb8_9, Q_Nb8_14, Q_Nb8_19, Q_X20_, Q_X21_⟩ hb_ hon hoff
              refine ⟨_, rfl, fun K hK => ?_⟩
              have e51 : a.tmps[51]? = some (.slice A2 lp.length c2) := by rw [ha]; exact putSel_on (e := (5, 51, .slice A2 lp.length c2)) 5 rfl rfl (hon 5 (by kernel_rfl)) rfl
              have e52 : a.tmps[52]? = some (.int .i64 (kn : Int)) := by rw [ha]; exact putSel_on (e := (6, 52, .int .i64 (kn : Int))) 6 rfl rfl (hon 6 (by kernel_rfl)) rfl
              replace ha := Aside0.mk ha
              have BW := Aside0.mk Q_BW
              refine value_ (w1 := w') (v := .slice A2 lt.length c2) (by rfl) rfl ?_ ?_
              · go_simp
                (try simp only [i64_w])
                try rfl
              refine hK.out _ _ ⟨vb0, vb9, vb3, vb8, vb14, vb19, pb21, m20_, m21_, (by rw [ha.out]; exact putSel_upk 7 hb_ rfl rfl rfl), Q_BW, Q_Rb0, Q_Rb9, Q_Rb3, fun h0_ => absurd ((hoff 8 (by kernel_rfl)).symm.trans h0_) (by decide), fun h0_ _ => absurd ((hoff 14 (by kernel_rfl)).symm.trans h0_) (by decide), fun h0_ => absurd ((hoff 19 (by kernel_rfl)).symm.trans h0_) (by decide), Q_Pb21, fun h0_ => absurd ((hoff 22 (by kernel_rfl)).symm.trans h0_) (by decide), Q_Nb0_9, Q_Nb3_9, fun h0_ _ _ => absurd ((hoff 8 (by kernel_rfl)).symm.trans h0_) (by decide), fun h0_ _ => absurd ((hoff 14 (by kernel_rfl)).symm.trans h0_) (by decide), fun h0_ => absurd ((hoff 19 (by kernel_rfl)).symm.trans h0_) (by decide), fun h0_ => absurd ((hoff 20 (by kernel_rfl)).symm.trans h0_) (by decide), Q_X21_⟩
            refine steps_cons ?_ ?_
            · rintro b a w' ⟨vb0, vb9, vb3, vb8, vb14, vb19, pb21, m20_, m21_, ha, Q_BW, Q_Rb0, Q_Rb9, Q_Rb3, Q_Rb8, Q_Rb14, Q_Rb19, Q_Pb21, Q_Sb21, Q_Nb0_9, Q_Nb3_9, Q_Nb8_9, Q_Nb8_14, Q_Nb8_19, Q_X20_, Q_X21_⟩ hb_ hon hoff
              refine ⟨_, rfl, fun K hK => ?_⟩
              have e49 : a.tmps[49]? = some (vb3) := by rw [ha]; exact putSel_on (e := (3, 49, vb3)) 3 rfl rfl (hon 3 (by kernel_rfl)) rfl
              have e53 : a.tmps[53]? = some (.slice A2 lt.length c2) := by rw [ha]; exact putSel_on (e := (7, 53, .slice A2 lt.length c2)) 7 rfl rfl (hon 7 (by kernel_rfl)) rfl
              replace ha := Aside0.mk ha
              have BW := Aside0.mk Q_BW
              have Rb3 := Aside0.mk (Q_Rb3 (hon 3 (by kernel_rfl)) hb_)
              refine Kd.R_append_rows_step (Kd.int .u32) (w0 := W4) W4.heap.size (by rfl) (.tmp 49) (.tmp 53) 25 49 (.int .u32 0) 4 rfl Tryd.underlying25 info49 rfl (by decide) (by omega) vb3 st lt _ _ _ (fun _ => True) (fun _ => False) (eval_of e49) (eval_of e53) Rb3.out (Kd.C_below HT4.out BW.out) (fun _ _ h => h) (fun _ h => h.elim) (fun _ _ => trivial) BW.out BW.out.size HBT.out ?_
              intro v_ w1 ho hB hg hat
              refine hK.out _ _ ⟨vb0, vb9, vb3, v_, vb14, vb19, pb21, m20_, m21_, (by rw [ha.out]; exact putSel_upk 8 hb_ rfl rfl rfl), hB, fun _ h1_ => absurd ((hon 3 (by kernel_rfl)).symm.trans h1_) (by decide), fun h0_ h1_ => Kd.R_grown2 (Q_Rb9 h0_ h1_) rfl hg (apart_keep (Q_Nb3_9 (hon 3 (by kernel_rfl)) h0_ hb_)), fun _ h1_ => absurd ((up_self b 8).symm.trans h1_) (by decide), fun _ => (by rw [HLS.out]; exact ho), fun h0_ _ => absurd ((hoff 14 (by kernel_rfl)).symm.trans h0_) (by decide), fun h0_ => absurd ((hoff 19 (by kernel_rfl)).symm.trans h0_) (by decide), fun h0_ h1_ => (Q_Pb21 h0_ h1_).grown hg (Kd.R_ne Rb3.out (Q_Pb21 h0_ h1_).2 (by decide)), fun h0_ => absurd ((hoff 22 (by kernel_rfl)).symm.trans h0_) (by decide), fun _ _ h2_ => absurd ((hon 3 (by kernel_rfl)).symm.trans h2_) (by decide), fun _ _ h2_ => absurd ((up_self b 8).symm.trans h2_) (by decide), fun h0_ h1_ h2_ => apart_step (Q_Nb3_9 (hon 3 (by kernel_rfl)) h1_ hb_) (Q_Rb9 h1_ h2_) hat, fun h0_ _ => absurd ((hoff 14 (by kernel_rfl)).symm.trans h0_) (by decide), fun h0_ => absurd ((hoff 19 (by kernel_rfl)).symm.trans h0_) (by decide), fun h0_ => absurd ((hoff 20 (by kernel_rfl)).symm.trans h0_) (by decide), Q_X21_⟩
            refine steps_cons ?_ ?_
            · rintro b a w' ⟨vb0, vb9, vb3, vb8, vb14, vb19, pb21, m20_, m21_, ha, Q_BW, Q_Rb0, Q_Rb9, Q_Rb3, Q_Rb8, Q_Rb14, Q_Rb19, Q_Pb21, Q_Sb21, Q_Nb0_9, Q_Nb3_9, Q_Nb8_9, Q_Nb8_14, Q_Nb8_19, Q_X20_, Q_X21_⟩ hb_ hon hoff
              refine ⟨_, rfl, fun K hK => ?_⟩
              replace ha := Aside0.mk ha
              have BW := Aside0.mk Q_BW
              refine Kd.R_lit_step (Kd.int .u32) (w0 := W4) W4.heap.size 49 (by rfl) (N := 55) rfl (xs := ([] : List Int)) (inner := []) (ok := fun _ => True) (okp := fun _ => True) ?hr (Reps.none _ _) (fun _ hk => hk) trivial BW.out BW.out.size (by simp) ?_
              case hr => first | (go_simp; done) | (go_simp; rfl)
              intro v_ w1 ho hB hg hat
              refine hK.out _ _ ⟨vb0, v_, vb3, vb8, vb14, vb19, pb21, m20_, m21_, (by rw [ha.out]; exact putSel_upk 9 hb_ rfl rfl rfl), hB, fun h0_ h1_ => Kd.R_grown2 (Q_Rb0 h0_ h1_) rfl hg (fun k e => by cases e), fun _ _ => ho, fun h0_ h1_ => Kd.R_grown2 (Q_Rb3 h0_ h1_) rfl hg (fun k e => by cases e), fun h0_ => Kd.R_grown2 (Q_Rb8 h0_) rfl hg (fun k e => by cases e), fun h0_ _ => absurd ((hoff 14 (by kernel_rfl)).symm.trans h0_) (by decide), fun h0_ => absurd ((hoff 19 (by kernel_rfl)).symm.trans h0_) (by decide), fun h0_ h1_ => (Q_Pb21 h0_ h1_).grown hg (by simp), fun h0_ => absurd ((hoff 22 (by kernel_rfl)).symm.trans h0_) (by decide), fun h0_ h1_ h2_ => (apart_new (Q_Rb0 h0_ h2_) hat).symm, fun h0_ h1_ h2_ => (apart_new (Q_Rb3 h0_ h2_) hat).symm, fun h0_ h1_ h2_ => (apart_new (Q_Rb8 h0_) hat).symm, fun h0_ _ => absurd ((hoff 14 (by kernel_rfl)).symm.trans h0_) (by decide), fun h0_ => absurd ((hoff 19 (by kernel_rfl)).symm.trans h0_) (by decide), fun h0_ => absurd ((hoff 20 (by kernel_rfl)).symm.trans h0_) (by decide), Q_X21_⟩
            refine steps_cons ?_ ?_
            · rintro b a w' ⟨vb0, vb9, vb3, vb8, vb14, vb19, pb21, m20_, m21_, ha, Q_BW, Q_Rb0, Q_Rb9, Q_Rb3, Q_Rb8, Q_Rb14, Q_Rb19, Q_Pb21, Q_Sb21, Q_Nb0_9, Q_Nb3_9, Q_Nb8_9, Q_Nb8_14, Q_Nb8_19, Q_X20_, Q_X21_⟩ hb_ hon hoff
              refine ⟨_, rfl, fun K hK => ?_⟩
              have e4 : a.tmps[4]? = some (.pointer (some ⟨w.heap.size + 1, 0, none⟩)) := by rw [ha]; exact (putSel_off rfl).trans rfl
              replace ha := Aside0.mk ha
              have BW := Aside0.mk Q_BW
              refine value_ (w1 := w') (v := .pointer (some ⟨w.heap.size + 1, 1, none⟩)) (by rfl) rfl ?_ ?_
              · go_simp
                (try simp only [i64_w])
                try rfl
              refine hK.out _ _ ⟨vb0, vb9, vb3, vb8, vb14, vb19, pb21, m20_, m21_, (by rw [ha.out]; exact putSel_upk 10 hb_ rfl rfl rfl), Q_BW, Q_Rb0, Q_Rb9, Q_Rb3, Q_Rb8, fun h0_ _ => absurd ((hoff 14 (by kernel_rfl)).symm.trans h0_) (by decide), fun h0_ => absurd ((hoff 19 (by kernel_rfl)).symm.trans h0_) (by decide), Q_Pb21, fun h0_ => absurd ((hoff 22 (by kernel_rfl)).symm.trans h0_) (by decide), Q_Nb0_9, Q_Nb3_9, Q_Nb8_9, fun h0_ _ => absurd ((hoff 14 (by kernel_rfl)).symm.trans h0_) (by decide), fun h0_ => absurd ((hoff 19 (by kernel_rfl)).symm.trans h0_) (by decide), fun h0_ => absurd ((hoff 20 (by kernel_rfl)).symm.trans h0_) (by decide), Q_X21_⟩
            refine steps_cons ?_ ?_
            · rintro b a w' ⟨vb0, vb9, vb3, vb8, vb14, vb19, pb21, m20_, m21_, ha, Q_BW, Q_Rb0, Q_Rb9, Q_Rb3, Q_Rb8, Q_Rb14, Q_Rb19, Q_Pb21, Q_Sb21, Q_Nb0_9, Q_Nb3_9, Q_Nb8_9, Q_Nb8_14, Q_Nb8_19, Q_X20_, Q_X21_⟩ hb_ hon hoff
              refine ⟨_, rfl, fun K hK => ?_⟩
              have e56 : a.tmps[56]? = some (.pointer (some ⟨w.heap.size + 1, 1, none⟩)) := by rw [ha]; exact putSel_on (e := (10, 56, .pointer (some ⟨w.heap.size + 1, 1, none⟩))) 10 rfl rfl (hon 10 (by kernel_rfl)) rfl
              replace ha := Aside0.mk ha
              have BW := Aside0.mk Q_BW
              have hk_ := (BW.out.block _ (blk_lt HL4.out)).trans HL4.out
              have q0_ := (blk_cell hk_ 0).trans rfl
              have q1_ := (blk_cell hk_ 1).trans rfl
              refine value_ (w1 := w') (v := .slice A2 lp.length c2) (by rfl) rfl ?_ ?_
              · go_simp
                (try simp only [i64_w])
                try rfl
              refine hK.out _ _ ⟨vb0, vb9, vb3, vb8, vb14, vb19, pb21, m20_, m21_, (by rw [ha.out]; exact putSel_upk 11 hb_ rfl rfl rfl), Q_BW, Q_Rb0, Q_Rb9, Q_Rb3, Q_Rb8, fun h0_ _ => absurd ((hoff 14 (by kernel_rfl)).symm.trans h0_) (by decide), fun h0_ => absurd ((hoff 19 (by kernel_rfl)).symm.trans h0_) (by decide), Q_Pb21, fun h0_ => absurd ((hoff 22 (by kernel_rfl)).symm.trans h0_) (by decide), Q_Nb0_9, Q_Nb3_9, Q_Nb8_9, fun h0_ _ => absurd ((hoff 14 (by kernel_rfl)).symm.trans h0_) (by decide), fun h0_ => absurd ((hoff 19 (by kernel_rfl)).symm.trans h0_) (by decide), fun h0_ => absurd ((hoff 20 (by kernel_rfl)).symm.trans h0_) (by decide), Q_X21_⟩
            refine steps_cons ?_ ?_
            · rintro b a w' ⟨vb0, vb9, vb3, vb8, vb14, vb19, pb21, m20_, m21_, ha, Q_BW, Q_Rb0, Q_Rb9, Q_Rb3, Q_Rb8, Q_Rb14, Q_Rb19, Q_Pb21, Q_Sb21, Q_Nb0_9, Q_Nb3_9, Q_Nb8_9, Q_Nb8_14, Q_Nb8_19, Q_X20_, Q_X21_⟩ hb_ hon hoff
              refine ⟨_, rfl, fun K hK => ?_⟩
              have e2 : a.tmps[2]? = some (.int .i64 (kn : Int)) := by rw [ha]; exact (putSel_off rfl).trans rfl
              replace ha := Aside0.mk ha
              have BW := Aside0.mk Q_BW
              refine value_ (w1 := w') (v := .int .i64 (kn : Int)) (by rfl) rfl ?_ ?_
              · go_simp
                (try simp only [i64_w])
                try rfl
              refine hK.out _ _ ⟨vb0, vb9, vb3, vb8, vb14, vb19, pb21, m20_, m21_, (by rw [ha.out]; exact putSel_upk 12 hb_ rfl rfl rfl), Q_BW, Q_Rb0, Q_Rb9, Q_Rb3, Q_Rb8, fun h0_ _ => absurd ((hoff 14 (by kernel_rfl)).symm.trans h0_) (by decide), fun h0_ => absurd ((hoff 19 (by kernel_rfl)).symm.trans h0_) (by decide), Q_Pb21, fun h0_ => absurd ((hoff 22 (by kernel_rfl)).symm.trans h0_) (by decide), Q_Nb0_9, Q_Nb3_9, Q_Nb8_9, fun h0_ _ => absurd ((hoff 14 (by kernel_rfl)).symm.trans h0_) (by decide), fun h0_ => absurd ((hoff 19 (by kernel_rfl)).symm.trans h0_) (by decide), fun h0_ => absurd ((hoff 20 (by kernel_rfl)).symm.trans h0_) (by decide), Q_X21_⟩
            refine steps_cons ?_ ?_
            · rintro b a w' ⟨vb0, vb9, vb3, vb8, vb14, vb19, pb21, m20_, m21_, ha, Q_BW, Q_Rb0, Q_Rb9, Q_Rb3, Q_Rb8, Q_Rb14, Q_Rb19, Q_Pb21, Q_Sb21, Q_Nb0_9, Q_Nb3_9, Q_Nb8_9, Q_Nb8_14, Q_Nb8_19, Q_X20_, Q_X21_⟩ hb_ hon hoff
              refine ⟨_, rfl, fun K hK => ?_⟩
              have e57 : a.tmps[57]? = some (.slice A2 lp.length c2) := by rw [ha]; exact putSel_on (e := (11, 57, .slice A2 lp.length c2)) 11 rfl rfl (hon 11 (by kernel_rfl)) rfl
              have e58 : a.tmps[58]? = some (.int .i64 (kn : Int)) := by rw [ha]; exact putSel_on (e := (12, 58, .int .i64 (kn : Int))) 12 rfl rfl (hon 12 (by kernel_rfl)) rfl
              replace ha := Aside0.mk ha
              have BW := Aside0.mk Q_BW
              refine value_ (w1 := w') (v := .slice A9 ld.length c9) (by rfl) rfl ?_ ?_
              · go_simp
                (try simp only [i64_w])
                try rfl
              refine hK.out _ _ ⟨vb0, vb9, vb3, vb8, vb14, vb19, pb21, m20_, m21_, (by rw [ha.out]; exact putSel_upk 13 hb_ rfl rfl rfl), Q_BW, Q_Rb0, Q_Rb9, Q_Rb3, Q_Rb8, fun h0_ _ => absurd ((hoff 14 (by kernel_rfl)).symm.trans h0_) (by decide), fun h0_ => absurd ((hoff 19 (by kernel_rfl)).symm.trans h0_) (by decide), Q_Pb21, fun h0_ => absurd ((hoff 22 (by kernel_rfl)).symm.trans h0_) (by decide), Q_Nb0_9, Q_Nb3_9, Q_Nb8_9, fun h0_ _ => absurd ((hoff 14 (by kernel_rfl)).symm.trans h0_) (by decide), fun h0_ => absurd ((hoff 19 (by kernel_rfl)).symm.trans h0_) (by decide), fun h0_ => absurd ((hoff 20 (by kernel_rfl)).symm.trans h0_) (by decide), Q_X21_⟩
            refine steps_cons ?_ ?_
            · rintro b a w' ⟨vb0, vb9, vb3, vb8, vb14, vb19, pb21, m20_, m21_, ha, Q_BW, Q_Rb0, Q_Rb9, Q_Rb3, Q_Rb8, Q_Rb14, Q_Rb19, Q_Pb21, Q_Sb21, Q_Nb0_9, Q_Nb3_9, Q_Nb8_9, Q_Nb8_14, Q_Nb8_19, Q_X20_, Q_X21_⟩ hb_ hon hoff
              refine ⟨_, rfl, fun K hK => ?_⟩
              have e55 : a.tmps[55]? = some (vb9) := by rw [ha]; exact putSel_on (e := (9, 55, vb9)) 9 rfl rfl (hon 9 (by kernel_rfl)) rfl
              have e59 : a.tmps[59]? = some (.slice A9 ld.length c9) := by rw [ha]; exact putSel_on (e := (13, 59, .slice A9 ld.length c9)) 13 rfl rfl (hon 13 (by kernel_rfl)) rfl
              replace ha := Aside0.mk ha
              have BW := Aside0.mk Q_BW
              have Rb9 := Aside0.mk (Q_Rb9 (hon 9 (by kernel_rfl)) hb_)
              have Rb8 := Aside0.mk (Q_Rb8 (hon 8 (by kernel_rfl)))
              have Nb8_9 := Aside0.mk (Q_Nb8_9 (hon 8 (by kernel_rfl)) (hon 9 (by kernel_rfl)) hb_)
              refine Kd.R_append_rows_step (Kd.int .u32) (w0 := W4) W4.heap.size (by rfl) (.tmp 55) (.tmp 59) 25 49 (.int .u32 0) 4 rfl Tryd.underlying25 info49 rfl (by decide) (by omega) vb9 ([] : List Int) ld _ _ _ (fun _ => True) (fun _ => False) (eval_of e55) (eval_of e59) Rb9.out (Kd.C_below HD4.out BW.out) (fun _ _ h => h) (fun _ h => h.elim) (fun _ _ => trivial) BW.out BW.out.size HBD.out ?_
              intro v_ w1 ho hB hg hat
              refine hK.out _ _ ⟨vb0, vb9, vb3, vb8, v_, vb19, pb21, m20_, m21_, (by rw [ha.out]; exact putSel_upk 14 hb_ rfl rfl rfl), hB, fun _ h1_ => absurd ((hon 3 (by kernel_rfl)).symm.trans h1_) (by decide), fun _ h1_ => absurd ((up_self b 14).symm.trans h1_) (by decide), fun _ h1_ => absurd ((hon 8 (by kernel_rfl)).symm.trans h1_) (by decide), fun h0_ => Kd.R_grown2 (Q_Rb8 h0_) rfl hg (apart_keep (Q_Nb8_9 h0_ (hon 9 (by kernel_rfl)) hb_).symm), fun _ _ => ho, fun h0_ => absurd ((hoff 19 (by kernel_rfl)).symm.trans h0_) (by decide), fun h0_ h1_ => (Q_Pb21 h0_ h1_).grown hg (Kd.R_ne Rb9.out (Q_Pb21 h0_ h1_).2 (by decide)), fun h0_ => absurd ((hoff 22 (by kernel_rfl)).symm.trans h0_) (by decide), fun _ _ h2_ => absurd ((hon 3 (by kernel_rfl)).symm.trans h2_) (by decide), fun _ _ h2_ => absurd ((hon 8 (by kernel_rfl)).symm.trans h2_) (by decide), fun _ _ h2_ => absurd ((up_self b 14).symm.trans h2_) (by decide), fun h0_ h1_ => (apart_step (Q_Nb8_9 (hon 8 (by kernel_rfl)) (hon 9 (by kernel_rfl)) hb_).symm (Q_Rb8 (hon 8 (by kernel_rfl))) hat).symm, fun h0_ => absurd ((hoff 19 (by kernel_rfl)).symm.trans h0_) (by decide), fun h0_ => absurd ((hoff 20 (by kernel_rfl)).symm.trans h0_) (by decide), Q_X21_⟩
            refine steps_cons ?_ ?_
            · rintro b a w' ⟨vb0, vb9, vb3, vb8, vb14, vb19, pb21, m20_, m21_, ha, Q_BW, Q_Rb0, Q_Rb9, Q_Rb3, Q_Rb8, Q_Rb14, Q_Rb19, Q_Pb21, Q_Sb21, Q_Nb0_9, Q_Nb3_9, Q_Nb8_9, Q_Nb8_14, Q_Nb8_19, Q_X20_, Q_X21_⟩ hb_ hon hoff
              refine ⟨_, rfl, fun K hK => ?_⟩
              have e4 : a.tmps[4]? = some (.pointer (some ⟨w.heap.size + 1, 0, none⟩)) := by rw [ha]; exact (putSel_off rfl).trans rfl
              replace ha := Aside0.mk ha
              have BW := Aside0.mk Q_BW
              refine value_ (w1 := w') (v := .pointer (some ⟨w.heap.size + 1, 1, none⟩)) (by rfl) rfl ?_ ?_
              · go_simp
                (try simp only [i64_w])
                try rfl
              refine hK.out _ _ ⟨vb0, vb9, vb3, vb8, vb14, vb19, pb21, m20_, m21_, (by rw [ha.out]; exact putSel_upk 15 hb_ rfl rfl rfl), Q_BW, Q_Rb0, Q_Rb9, Q_Rb3, Q_Rb8, Q_Rb14, fun h0_ => absurd ((hoff 19 (by kernel_rfl)).symm.trans h0_) (by decide), Q_Pb21, fun h0_ => absurd ((hoff 22 (by kernel_rfl)).symm.trans h0_) (by decide), Q_Nb0_9, Q_Nb3_9, Q_Nb8_9, Q_Nb8_14, fun h0_ => absurd ((hoff 19 (by kernel_rfl)).symm.trans h0_) (by decide), fun h0_ => absurd ((hoff 20 (by kernel_rfl)).symm.trans h0_) (by decide), Q_X21_⟩
            refine steps_cons ?_ ?_
            · rintro b a w' ⟨vb0, vb9, vb3, vb8, vb14, vb19, pb21, m20_, m21_, ha, Q_BW, Q_Rb0, Q_Rb9, Q_Rb3, Q_Rb8, Q_Rb14, Q_Rb19, Q_Pb21, Q_Sb21, Q_Nb0_9, Q_Nb3_9, Q_Nb8_9, Q_Nb8_14, Q_Nb8_19, Q_X20_, Q_X21_⟩ hb_ hon hoff
              refine ⟨_, rfl, fun K hK => ?_⟩
              have e61 : a.tmps[61]? = some (.pointer (some ⟨w.heap.size + 1, 1, none⟩)) := by rw [ha]; exact putSel_on (e := (15, 61, .pointer (some ⟨w.heap.size + 1, 1, none⟩))) 15 rfl rfl (hon 15 (by kernel_rfl)) rfl
              replace ha := Aside0.mk ha
              have BW := Aside0.mk Q_BW
              have hk_ := (BW.out.block _ (blk_lt HL4.out)).trans HL4.out
              have q0_ := (blk_cell hk_ 0).trans rfl
              have q1_ := (blk_cell hk_ 1).trans rfl
              refine value_ (w1 := w') (v := .slice A2 lp.length c2) (by rfl) rfl ?_ ?_
              · go_simp
                (try simp only [i64_w])
                try rfl
              refine hK.out _ _ ⟨vb0, vb9, vb3, vb8, vb14, vb19, pb21, m20_, m21_, (by rw [ha.out]; exact putSel_upk 16 hb_ rfl rfl rfl), Q_BW, Q_Rb0, Q_Rb9, Q_Rb3, Q_Rb8, Q_Rb14, fun h0_ => absurd ((hoff 19 (by kernel_rfl)).symm.trans h0_) (by decide), Q_Pb21, fun h0_ => absurd ((hoff 22 (by kernel_rfl)).symm.trans h0_) (by decide), Q_Nb0_9, Q_Nb3_9, Q_Nb8_9, Q_Nb8_14, fun h0_ => absurd ((hoff 19 (by kernel_rfl)).symm.trans h0_) (by decide), fun h0_ => absurd ((hoff 20 (by kernel_rfl)).symm.trans h0_) (by decide), Q_X21_⟩
            refine steps_cons ?_ ?_
            · rintro b a w' ⟨vb0, vb9, vb3, vb8, vb14, vb19, pb21, m20_, m21_, ha, Q_BW, Q_Rb0, Q_Rb9, Q_Rb3, Q_Rb8, Q_Rb14, Q_Rb19, Q_Pb21, Q_Sb21, Q_Nb0_9, Q_Nb3_9, Q_Nb8_9, Q_Nb8_14, Q_Nb8_19, Q_X20_, Q_X21_⟩ hb_ hon hoff
              refine ⟨_, rfl, fun K hK => ?_⟩
              have e2 : a.tmps[2]? = some (.int .i64 (kn : Int)) := by rw [ha]; exact (putSel_off rfl).trans rfl
              replace ha := Aside0.mk ha
              have BW := Aside0.mk Q_BW
              refine value_ (w1 := w') (v := .int .i64 (kn : Int)) (by rfl) rfl ?_ ?_
              · go_simp
                (try simp only [i64_w])
                try rfl
              refine hK.out _ _ ⟨vb0, vb9, vb3, vb8, vb14, vb19, pb21, m20_, m21_, (by rw [ha.out]; exact putSel_upk 17 hb_ rfl rfl rfl), Q_BW, Q_Rb0, Q_Rb9, Q_Rb3, Q_Rb8, Q_Rb14, fun h0_ => absurd ((hoff 19 (by kernel_rfl)).symm.trans h0_) (by decide), Q_Pb21, fun h0_ => absurd ((hoff 22 (by kernel_rfl)).symm.trans h0_) (by decide), Q_Nb0_9, Q_Nb3_9, Q_Nb8_9, Q_Nb8_14, fun h0_ => absurd ((hoff 19 (by kernel_rfl)).symm.trans h0_) (by decide), fun h0_ => absurd ((hoff 20 (by kernel_rfl)).symm.trans h0_) (by decide), Q_X21_⟩
            refine steps_cons ?_ ?_
            · rintro b a w' ⟨vb0, vb9, vb3, vb8, vb14, vb19, pb21, m20_, m21_, ha, Q_BW, Q_Rb0, Q_Rb9, Q_Rb3, Q_Rb8, Q_Rb14, Q_Rb19, Q_Pb21, Q_Sb21, Q_Nb0_9, Q_Nb3_9, Q_Nb8_9, Q_Nb8_14, Q_Nb8_19, Q_X20_, Q_X21_⟩ hb_ hon hoff
              refine ⟨_, rfl, fun K hK => ?_⟩
              have e62 : a.tmps[62]? = some (.slice A2 lp.length c2) := by rw [ha]; exact putSel_on (e := (16, 62, .slice A2 lp.length c2)) 16 rfl rfl (hon 16 (by kernel_rfl)) rfl
              have e63 : a.tmps[63]? = some (.int .i64 (kn : Int)) := by rw [ha]; exact putSel_on (e := (17, 63, .int .i64 (kn : Int))) 17 rfl rfl (hon 17 (by kernel_rfl)) rfl
              replace ha := Aside0.mk ha
              have BW := Aside0.mk Q_BW
              refine value_ (w1 := w') (v := .slice A2 lt.length c2) (by rfl) rfl ?_ ?_
              · go_simp
                (try simp only [i64_w])
                try rfl
              refine hK.out _ _ ⟨vb0, vb9, vb3, vb8, vb14, vb19, pb21, m20_, m21_, (by rw [ha.out]; exact putSel_upk 18 hb_ rfl rfl rfl), Q_BW, Q_Rb0, Q_Rb9, Q_Rb3, Q_Rb8, Q_Rb14, fun h0_ => absurd ((hoff 19 (by kernel_rfl)).symm.trans h0_) (by decide), Q_Pb21, fun h0_ => absurd ((hoff 22 (by kernel_rfl)).symm.trans h0_) (by decide), Q_Nb0_9, Q_Nb3_9, Q_Nb8_9, Q_Nb8_14, fun h0_ => absurd ((hoff 19 (by kernel_rfl)).symm.trans h0_) (by decide), fun h0_ => absurd ((hoff 20 (by kernel_rfl)).symm.trans h0_) (by decide), Q_X21_⟩
            refine steps_cons ?_ ?_
            · rintro b a w' ⟨vb0, vb9, vb3, vb8, vb14, vb19, pb21, m20_, m21_, ha, Q_BW, Q_Rb0, Q_Rb9, Q_Rb3, Q_Rb8, Q_Rb14, Q_Rb19, Q_Pb21, Q_Sb21, Q_Nb0_9, Q_Nb3_9, Q_Nb8_9, Q_Nb8_14, Q_Nb8_19, Q_X20_, Q_X21_⟩ hb_ hon hoff
              refine ⟨_, rfl, fun K hK => ?_⟩
              have e60 : a.tmps[60]? = some (vb14) := by rw [ha]; exact putSel_on (e := (14, 60, vb14)) 14 rfl rfl (hon 14 (by kernel_rfl)) rfl
              have e64 : a.tmps[64]? = some (.slice A2 lt.length c2) := by rw [ha]; exact putSel_on (e := (18, 64, .slice A2 lt.length c2)) 18 rfl rfl (hon 18 (by kernel_rfl)) rfl
              replace ha := Aside0.mk ha
              have BW := Aside0.mk Q_BW
              have Rb8 := Aside0.mk (Q_Rb8 (hon 8 (by kernel_rfl)))
              have Rb14 := Aside0.mk (Q_Rb14 (hon 14 (by kernel_rfl)) hb_)
              have Nb8_14 := Aside0.mk (Q_Nb8_14 (hon 14 (by kernel_rfl)) hb_)
              refine Kd.R_append_rows_step (Kd.int .u32) (w0 := W4) W4.heap.size (by rfl) (.tmp 60) (.tmp 64) 25 49 (.int .u32 0) 4 rfl Tryd.underlying25 info49 rfl (by decide) (by omega) vb14 ld lt _ _ _ (fun _ => True) (fun _ => False) (eval_of e60) (eval_of e64) Rb14.out (Kd.C_below HT4.out BW.out) (fun _ _ h => h) (fun _ h => h.elim) (fun _ _ => trivial) BW.out BW.out.size HBE.out ?_
              intro v_ w1 ho hB hg hat
              refine hK.out _ _ ⟨vb0, vb9, vb3, vb8, vb14, v_, pb21, m20_, m21_, (by rw [ha.out]; exact putSel_upk 19 hb_ rfl rfl rfl), hB, fun _ h1_ => absurd ((hon 3 (by kernel_rfl)).symm.trans h1_) (by decide), fun _ h1_ => absurd ((hon 14 (by kernel_rfl)).symm.trans h1_) (by decide), fun _ h1_ => absurd ((hon 8 (by kernel_rfl)).symm.trans h1_) (by decide), fun h0_ => Kd.R_grown2 (Q_Rb8 h0_) rfl hg (apart_keep (Q_Nb8_14 (hon 14 (by kernel_rfl)) hb_).symm), fun _ h1_ => absurd ((up_self b 19).symm.trans h1_) (by decide), fun _ => (by rw [HLT.out]; exact ho), fun h0_ h1_ => (Q_Pb21 h0_ h1_).grown hg (Kd.R_ne Rb14.out (Q_Pb21 h0_ h1_).2 (by decide)), fun h0_ => absurd ((hoff 22 (by kernel_rfl)).symm.trans h0_) (by decide), fun _ _ h2_ => absurd ((hon 3 (by kernel_rfl)).symm.trans h2_) (by decide), fun _ _ h2_ => absurd ((hon 8 (by kernel_rfl)).symm.trans h2_) (by decide), fun _ _ h2_ => absurd ((hon 14 (by kernel_rfl)).symm.trans h2_) (by decide), fun _ h1_ => absurd ((up_self b 19).symm.trans h1_) (by decide), fun h0_ => (apart_step (Q_Nb8_14 (hon 14 (by kernel_rfl)) hb_).symm (Q_Rb8 (hon 8 (by kernel_rfl))) hat).symm, fun h0_ => absurd ((hoff 20 (by kernel_rfl)).symm.trans h0_) (by decide), Q_X21_⟩
            refine steps_cons ?_ ?_
            · rintro b a w' ⟨vb0, vb9, vb3, vb8, vb14, vb19, pb21, m20_, m21_, ha, Q_BW, Q_Rb0, Q_Rb9, Q_Rb3, Q_Rb8, Q_Rb14, Q_Rb19, Q_Pb21, Q_Sb21, Q_Nb0_9, Q_Nb3_9, Q_Nb8_9, Q_Nb8_14, Q_Nb8_19, Q_X20_, Q_X21_⟩ hb_ hon hoff
              refine ⟨_, rfl, fun K hK => ?_⟩
              have e54 : a.tmps[54]? = some (vb8) := by rw [ha]; exact putSel_on (e := (8, 54, vb8)) 8 rfl rfl (hon 8 (by kernel_rfl)) rfl
              have e65 : a.tmps[65]? = some (vb19) := by rw [ha]; exact putSel_on (e := (19, 65, vb19)) 19 rfl rfl (hon 19 (by kernel_rfl)) rfl
              replace ha := Aside0.mk ha
              have BW := Aside0.mk Q_BW
              have Rb8 := Aside0.mk (Q_Rb8 (hon 8 (by kernel_rfl)))
              have Rb19 := Aside0.mk (Q_Rb19 (hon 19 (by kernel_rfl)))
              have Nb8_19 := Aside0.mk (Q_Nb8_19 (hon 19 (by kernel_rfl)))
              obtain ⟨A0_, c0_, e0_, _, _⟩ := Kd.R_reads Rb8.out
              subst e0_
              obtain ⟨A1_, c1_, e0_, _, _⟩ := Kd.R_reads Rb19.out
              subst e0_
              refine value_ (w1 := w') (v := .agg #[(.slice A0_ LS.length c0_), (.slice A1_ LT.length c1_)]) (by rfl) rfl ?_ ?_
              · go_simp
                (try simp only [i64_w])
                try rfl
              refine hK.out _ _ ⟨vb0, vb9, vb3, (.slice A0_ LS.length c0_), vb14, (.slice A1_ LT.length c1_), pb21, (.agg #[(.slice A0_ LS.length c0_), (.slice A1_ LT.length c1_)]), m21_, (by rw [ha.out]; exact putSel_upk 20 hb_ rfl rfl rfl), Q_BW, fun _ h1_ => absurd ((hon 3 (by kernel_rfl)).symm.trans h1_) (by decide), fun _ h1_ => absurd ((hon 14 (by kernel_rfl)).symm.trans h1_) (by decide), fun _ h1_ => absurd ((hon 8 (by kernel_rfl)).symm.trans h1_) (by decide), Q_Rb8, fun _ h1_ => absurd ((hon 19 (by kernel_rfl)).symm.trans h1_) (by decide), Q_Rb19, Q_Pb21, fun h0_ => absurd ((hoff 22 (by kernel_rfl)).symm.trans h0_) (by decide), fun _ _ h2_ => absurd ((hon 3 (by kernel_rfl)).symm.trans h2_) (by decide), fun _ _ h2_ => absurd ((hon 8 (by kernel_rfl)).symm.trans h2_) (by decide), fun _ _ h2_ => absurd ((hon 14 (by kernel_rfl)).symm.trans h2_) (by decide), fun _ h1_ => absurd ((hon 19 (by kernel_rfl)).symm.trans h1_) (by decide), Q_Nb8_19, fun _ => rfl, Q_X21_⟩
            refine steps_cons ?_ ?_
            · rintro b a w' ⟨vb0, vb9, vb3, vb8, vb14, vb19, pb21, m20_, m21_, ha, Q_BW, Q_Rb0, Q_Rb9, Q_Rb3, Q_Rb8, Q_Rb14, Q_Rb19, Q_Pb21, Q_Sb21, Q_Nb0_9, Q_Nb3_9, Q_Nb8_9, Q_Nb8_14, Q_Nb8_19, Q_X20_, Q_X21_⟩ hb_ hon hoff
              refine ⟨_, rfl, fun K hK => ?_⟩
              replace ha := Aside0.mk ha
              have BW := Aside0.mk Q_BW
              refine value_ (w1 := w'.alloc (.cells #[.slice none 0 0, .slice none 0 0] 27)) (v := .pointer (some ⟨w'.heap.size, 0, none⟩)) (by rfl) rfl ?_ ?_
              · (go_simp; try rfl)
              refine hK.out _ _ ⟨vb0, vb9, vb3, vb8, vb14, vb19, w'.heap.size, m20_, (.pointer (some ⟨w'.heap.size, 0, none⟩)), (by rw [ha.out]; exact putSel_upk 21 hb_ rfl rfl rfl), below_alloc BW.out _, fun h0_ h1_ => Kd.R_alloc (Q_Rb0 h0_ h1_) _, fun h0_ h1_ => Kd.R_alloc (Q_Rb9 h0_ h1_) _, fun h0_ h1_ => Kd.R_alloc (Q_Rb3 h0_ h1_) _, fun h0_ => Kd.R_alloc (Q_Rb8 h0_) _, fun h0_ h1_ => Kd.R_alloc (Q_Rb14 h0_ h1_) _, fun h0_ => Kd.R_alloc (Q_Rb19 h0_) _, fun _ _ => Lay.new BW.out _ _, fun h0_ => absurd ((hoff 22 (by kernel_rfl)).symm.trans h0_) (by decide), Q_Nb0_9, Q_Nb3_9, Q_Nb8_9, Q_Nb8_14, Q_Nb8_19, Q_X20_, fun _ => rfl⟩
            refine steps_cons ?_ ?_
            · rintro b a w' ⟨vb0, vb9, vb3, vb8, vb14, vb19, pb21, m20_, m21_, ha, Q_BW, Q_Rb0, Q_Rb9, Q_Rb3, Q_Rb8, Q_Rb14, Q_Rb19, Q_Pb21, Q_Sb21, Q_Nb0_9, Q_Nb3_9, Q_Nb8_9, Q_Nb8_14, Q_Nb8_19, Q_X20_, Q_X21_⟩ hb_ hon hoff
              refine ⟨_, rfl, fun K hK => ?_⟩
              have e8 : a.tmps[8]? = some (m21_) := by rw [ha]; exact putSel_on (e := (21, 8, m21_)) 21 rfl rfl (hon 21 (by kernel_rfl)) rfl
              rw [Q_X21_ (hon 21 (by kernel_rfl))] at e8
              have e66 : a.tmps[66]? = some (m20_) := by rw [ha]; exact putSel_on (e := (20, 66, m20_)) 20 rfl rfl (hon 20 (by kernel_rfl)) rfl
              rw [Q_X20_ (hon 20 (by kernel_rfl))] at e66
              replace ha := Aside0.mk ha
              have BW := Aside0.mk Q_BW
              have Rb8 := Aside0.mk (Q_Rb8 (hon 8 (by kernel_rfl)))
              have Rb19 := Aside0.mk (Q_Rb19 (hon 19 (by kernel_rfl)))
              have Pb21 := Aside0.mk (Q_Pb21 (hon 21 (by kernel_rfl)) hb_)
              have Nb8_19 := Aside0.mk (Q_Nb8_19 (hon 19 (by kernel_rfl)))
              obtain ⟨A0_, c0_, e0_, _, _⟩ := Kd.R_reads Rb8.out
              subst e0_
              obtain ⟨A1_, c1_, e0_, _, _⟩ := Kd.R_reads Rb19.out
              subst e0_
              have z0_ := (blk_cell Pb21.out.2 0).trans rfl
              have z1_ := (blk_cell Pb21.out.2 1).trans rfl
              have f0_ := blk_frozen Pb21.out.2 0
              have f1_ := blk_frozen Pb21.out.2 1
              refine skip_ (w1 := put2 w' pb21 (.slice A0_ LS.length c0_) (.slice A1_ LT.length c1_)) (by rfl) rfl ?_ ?_
              · (unfold put2; go_simp; try rfl)
              refine hK.out _ _ ⟨vb0, vb9, vb3, (.slice A0_ LS.length c0_), vb14, (.slice A1_ LT.length c1_), pb21, m20_, m21_, (by rw [ha.out]; exact putSel_none (v := undef) rfl), below_put2 BW.out Pb21.out.1 _ _, fun _ h1_ => absurd ((hon 3 (by kernel_rfl)).symm.trans h1_) (by decide), fun _ h1_ => absurd ((hon 14 (by kernel_rfl)).symm.trans h1_) (by decide), fun _ h1_ => absurd ((hon 8 (by kernel_rfl)).symm.trans h1_) (by decide), fun _ => R_put2 Rb8.out Pb21.out.2 (by decide) _ _, fun _ h1_ => absurd ((hon 19 (by kernel_rfl)).symm.trans h1_) (by decide), fun _ => R_put2 Rb19.out Pb21.out.2 (by decide) _ _, fun _ h1_ => absurd ((up_self b 22).symm.trans h1_) (by decide), fun _ => Pb21.out.put2 _ _, fun _ _ h2_ => absurd ((hon 3 (by kernel_rfl)).symm.trans h2_) (by decide), fun _ _ h2_ => absurd ((hon 8 (by kernel_rfl)).symm.trans h2_) (by decide), fun _ _ h2_ => absurd ((hon 14 (by kernel_rfl)).symm.trans h2_) (by decide), fun _ h1_ => absurd ((hon 19 (by kernel_rfl)).symm.trans h1_) (by decide), Q_Nb8_19, Q_X20_, Q_X21_⟩
            exact steps_nil
          · rintro b a w' hall ⟨vb0, vb9, vb3, vb8, vb14, vb19, pb21, m20_, m21_, ha, Q_BW, Q_Rb0, Q_Rb9, Q_Rb3, Q_Rb8, Q_Rb14, Q_Rb19, Q_Pb21, Q_Sb21, Q_Nb0_9, Q_Nb3_9, Q_Nb8_9, Q_Nb8_14, Q_Nb8_19, Q_X20_, Q_X21_⟩
            clear BW
            have hb0_ := hall 0 (by kernel_rfl)
            have hb1_ := hall 1 (by kernel_rfl)
            have hb2_ := hall 2 (by kernel_rfl)
            have hb3_ := hall 3 (by kernel_rfl)
            have hb4_ := hall 4 (by kernel_rfl)
            have hb5_ := hall 5 (by kernel_rfl)
            have hb6_ := hall 6 (by kernel_rfl)
            have hb7_ := hall 7 (by kernel_rfl)
            have hb8_ := hall 8 (by kernel_rfl)
            have hb9_ := hall 9 (by kernel_rfl)
            have hb10_ := hall 10 (by kernel_rfl)
            have hb11_ := hall 11 (by kernel_rfl)
            have hb12_ := hall 12 (by kernel_rfl)
            have hb13_ := hall 13 (by kernel_rfl)
            have hb14_ := hall 14 (by kernel_rfl)
            have hb15_ := hall 15 (by kernel_rfl)
            have hb16_ := hall 16 (by kernel_rfl)
            have hb17_ := hall 17 (by kernel_rfl)
            have hb18_ := hall 18 (by kernel_rfl)
            have hb19_ := hall 19 (by kernel_rfl)
            have hb20_ := hall 20 (by kernel_rfl)
            have hb21_ := hall 21 (by kernel_rfl)
            have hb22_ := hall 22 (by kernel_rfl)
            subst ha
            obtain rfl := Q_X20_ hb20_
            obtain rfl := Q_X21_ hb21_
            simp only [putSel, hb0_, hb1_, hb2_, hb3_, hb4_, hb5_, hb6_, hb7_, hb8_, hb9_, hb10_, hb11_, hb12_, hb13_, hb14_, hb15_, hb16_, hb17_, hb18_, hb19_, hb20_, hb21_, hb22_, if_true, Act.put, List.setIfInBounds_toArray, List.set_cons_zero, List.set_cons_succ]
            have BW := Aside0.mk Q_BW
            clear Q_BW
            clear Q_Rb0
            clear Q_Rb9
            clear Q_Rb3
            have Rb8 := Aside0.mk (Q_Rb8 hb8_)
            clear Q_Rb8
            clear Q_Rb14
            have Rb19 := Aside0.mk (Q_Rb19 hb19_)
            clear Q_Rb19
            clear Q_Pb21
            have Sb21 := Aside0.mk (Q_Sb21 hb22_)
            clear Q_Sb21
            clear Q_Nb0_9
            clear Q_Nb3_9
            clear Q_Nb8_9
            clear Q_Nb8_14
            have Nb8_19 := Aside0.mk (Q_Nb8_19 hb19_)
            clear Q_Nb8_19
            clear hall hb0_ hb1_ hb2_ hb3_ hb4_ hb5_ hb6_ hb7_ hb8_ hb9_ hb10_ hb11_ hb12_ hb13_ hb14_ hb15_ hb16_ hb17_ hb18_ hb19_ hb20_ hb21_ hb22_
            obtain ⟨W6, rfl⟩ : ∃ W : World, W = w' := ⟨_, rfl⟩
            have HBW6 := BW
            clear BW
            have HB6 := Aside0.mk (HB4.out.trans (HBW6.out.mono HB4.out.size))
            have HF6 := Aside0.mk ((HBW6.out.block _ (blk_lt HF4.out)).trans HF4.out)
            have HL6 := Aside0.mk ((HBW6.out.block _ (blk_lt HL4.out)).trans HL4.out)
            have HT6 := Aside0.mk ((HBW6.out.block _ (blk_lt HT4b.out)).trans HT4b.out)
            obtain ⟨AS, cS, e8, hcS, hCS⟩ := Kd.R_reads Rb8.out
            obtain ⟨AT, cT, e9, hcT, hCT⟩ := Kd.R_reads Rb19.out
            subst e8 e9
            have HX6 := Aside0.mk Sb21.out.2
            have HCS := Aside0.mk hCS
            have HCT := Aside0.mk hCT
            have HCL := Aside0.mk (Kd.C_below HCL4.out HBW6.out)
            have HcS := Aside0.mk hcS
            have HcT := Aside0.mk hcT
            clear hCS hCT hcS hcT Rb8 Rb19 Sb21 HCL4 HT4 HD4 HK14 HK24 hcutT hcutD
            have HH1 := Aside0.mk (fun W (h : Below W6.heap.size W6 W) => show Calls Tryd.prog 17 #[.agg #[.int .i64 s.f0, .int .i64 s.f1, .slice A s.f2.length cp], .agg #[.slice A1 st.length c1, .slice A2 lp.length c2]] W _ from formula_Holds.calls s.f0 s.f1 A cp s.f2 A1 c1 st A2 c2 lp _ W (Kd.C_below HKs.out (HB6.out.trans (h.mono HB6.out.size))) hc (Kd.C_below HK1.out (HB6.out.trans (h.mono HB6.out.size))) hc1 (Kd.C_below HK2.out (HB6.out.trans (h.mono HB6.out.size))) hc2 (holds_some s st lp))
            have HH2 := Aside0.mk (fun W (h : Below W6.heap.size W6 W) => show Calls Tryd.prog 17 #[.agg #[.int .i64 s.f0, .int .i64 s.f1, .slice A s.f2.length cp], .agg #[.slice A1 st.length c1, .slice A8 LL.length c8]] W _ from formula_Holds.calls s.f0 s.f1 A cp s.f2 A1 c1 st A8 c8 LL _ W (Kd.C_below HKs.out (HB6.out.trans (h.mono HB6.out.size))) hc (Kd.C_below HK1.out (HB6.out.trans (h.mono HB6.out.size))) hc1 (Kd.C_below HCL.out h) HcL.out ((holds_some s st LL).trans (congrArg some HTWN.out)))
            have HH3 := Aside0.mk (fun W (h : Below W6.heap.size W6 W) => show Calls Tryd.prog 17 #[.agg #[.int .i64 s.f0, .int .i64 s.f1, .slice A s.f2.length cp], .agg #[.slice AS LS.length cS, .slice AT LT.length cT]] W _ from formula_Holds.calls s.f0 s.f1 A cp s.f2 AS cS LS AT cT LT _ W (Kd.C_below HKs.out (HB6.out.trans (h.mono HB6.out.size))) hc (Kd.C_below HCS.out h) HcS.out (Kd.C_below HCT.out h) HcT.out ((holds_some s LS LT).trans (congrArg some HLAN.out)))
            clear HTWN HLAN
            generalize holdsF s st lp = X at *
            have qF60 := (blk_cell HF6.out 0).trans rfl
            have qF61 := (blk_cell HF6.out 1).trans rfl
            have qF62 := (blk_cell HF6.out 2).trans rfl
            have qL60 := (blk_cell HL6.out 0).trans rfl
            have qL61 := (blk_cell HL6.out 1).trans rfl
            cases X
            all_goals (
              go_wp2_with (first | (go_at_call 17; (with_reducible refine (HH1.out _ (Below.refl _ _)).mono ?_); rintro e_ w61 ⟨rfl, hB⟩; have HB61 := Aside0.mk (hB); have HF61 := Aside0.mk ((HB61.out.block _ (blk_lt HF6.out)).trans HF6.out); have qF610 := (blk_cell HF61.out 0).trans rfl; have qF611 := (blk_cell HF61.out 1).trans rfl; have qF612 := (blk_cell HF61.out 2).trans rfl; have HT61 := Aside0.mk ((HB61.out.block _ (blk_lt HT6.out)).trans HT6.out); have qT610 := (blk_cell HT61.out 0).trans rfl; have qT611 := (blk_cell HT61.out 1).trans rfl; clear hB) | (go_at_call 17; (with_reducible refine (HH2.out _ HB61.out).mono ?_); rintro e_ w62 ⟨rfl, hB⟩; have HB62 := Aside0.mk (HB61.out.trans (hB.mono HB61.out.size)); have HF62 := Aside0.mk ((HB62.out.block _ (blk_lt HF6.out)).trans HF6.out); have qF620 := (blk_cell HF62.out 0).trans rfl; have qF621 := (blk_cell HF62.out 1).trans rfl; have qF622 := (blk_cell HF62.out 2).trans rfl; have HX62 := Aside0.mk ((HB62.out.block _ (blk_lt HX6.out)).trans HX6.out); have qX620 := (blk_cell HX62.out 0).trans rfl; have qX621 := (blk_cell HX62.out 1).trans rfl; clear hB) | (go_at_call 17; (with_reducible refine (HH3.out _ HB62.out).mono ?_); rintro e_ w63 ⟨rfl, hB⟩; have HB63 := Aside0.mk (HB62.out.trans (hB.mono HB62.out.size)); clear hB) | (go_at_call 11; refine (awake_calls _).mono ?_; rintro e_ w9 ⟨rfl, hB⟩; first | (have HBz := Aside0.mk (HB63.out.trans (hB.mono HB63.out.size)); clear hB)))
              go_ret
              exact ⟨rfl, HB6.out.trans (HBz.out.mono HB6.out.size)⟩)
def parrylaw22_FormulaWords.f (a0_0 : Int) (a0_1 : Int) (l0_2 : List S24) (l1_0 : List Int) (l1_1 : List Int) (a2 : Int) : Option Bool := some true
theorem parrylaw22_FormulaWords.calls (a0_0 : Int) (a0_1 : Int) (A0_2 : Option Addr) (c0_2 : Nat) (l0_2 : List S24) (A1_0 : Option Addr) (c1_0 : Nat) (l1_0 : List Int) (A1_1 : Option Addr) (c1_1 : Nat) (l1_1 : List Int) (a2 : Int) (r : Bool) (w : World) (hr0_2 : Kd.C k24 w A0_2 l0_2.length l0_2) (hc0_2 : l0_2.length ≤ c0_2) (hr1_0 : Kd.C (Kd.int .u32) w A1_0 l1_0.length l1_0) (hc1_0 : l1_0.length ≤ c1_0) (hr1_1 : Kd.C (Kd.int .u32) w A1_1 l1_1.length l1_1) (hc1_1 : l1_1.length ≤ c1_1) (h : parrylaw22_FormulaWords.f a0_0 a0_1 l0_2 l1_0 l1_1 a2 = some r) (hrt : r = true) :
    Calls Tryd.prog 4 #[.agg #[.int .i64 a0_0, .int .i64 a0_1, .slice A0_2 l0_2.length c0_2], .agg #[.slice A1_0 l1_0.length c1_0, .slice A1_1 l1_1.length c1_1], .int .i64 a2] w fun e w' => e = .returned (.bool r) ∧ Below w.heap.size w w' := by
  subst hrt
  exact words_calls ⟨a0_0, a0_1, l0_2⟩ l1_0 l1_1 a2 A0_2 A1_0 A1_1 c0_2 c1_0 c1_1 w hr0_2 hc0_2 hr1_0 hc1_0 hr1_1 hc1_1
end Go.Proofs.YtjjnokodkeekhaaDoor.X

namespace Go.Proofs.YtjjnokodkeekhaaDoor.Op
open Go.RowKit Go.Proofs.YtjjnokodkeekhaaDoorW.PrintWords
set_option linter.unusedVariables false
set_option linter.unusedSimpArgs false

def Opens (N : Nat) (P : Program) (T : TypeId) {α : Type} (d : Kd α) (G : α → Prop) : Prop :=
  ∀ (H : Type) (enc : TypeId × Value → H) (W : World) (base : Nat) (spare : Nat → Bool) (held : Bool) (fuel : Nat) (cs : List Value) (x : DataW H × List MemPlace),
    fuel ≤ N → DataW.trod enc P W base spare held fuel T cs = some x → (∀ n ∈ x.1.weights P T, n ≤ reachBytes) → ∃ y, d.K W y cs ∧ G y

theorem Opens.mono {N M : Nat} {P : Program} {T : TypeId} {α : Type} {d : Kd α} {G : α → Prop} (h : Opens N P T d G) (hm : M ≤ N) : Opens M P T d G :=
  fun H enc W base spare held fuel cs x hf => h H enc W base spare held fuel cs x (Nat.le_trans hf hm)

theorem opens_int {N : Nat} {P : Program} {T : TypeId} {k : IntKind} (ht : P.underlying T = some (.int k)) : Opens N P T (Kd.int k) (fun n => (Lit.int k n).wf = true) := by
  intro H enc W base spare held fuel cs x _ h _
  obtain ⟨n, rfl, _, hw⟩ := DataW.trod_int ht h
  exact ⟨n, rfl, hw⟩
theorem weightsAll_mem {H : Type} {P : Program} {e : TypeId} : ∀ {l : List (DataW H)} {i : Nat} {d : DataW H}, l[i]? = some d → ∀ n ∈ d.weights P e, n ∈ DataW.weightsAll P e l
  | [], i, d, h => by simp at h
  | a :: r, 0, d, h => fun n hn => by
    simp at h
    subst h
    simp only [DataW.weightsAll, List.mem_append]
    exact .inl hn
  | a :: r, i + 1, d, h => fun n hn => by
    simp only [DataW.weightsAll, List.mem_append]
    exact .inr (weightsAll_mem (by simpa using h) n hn)
theorem choose_list {α : Type} {p : Nat → α → Prop} : ∀ n, (∀ i, i < n → ∃ x, p i x) → ∃ l : List α, l.length = n ∧ ∀ i x, l[i]? = some x → p i x
  | 0, _ => ⟨[], rfl, fun i x h => by simp at h⟩
  | n + 1, h => by
    obtain ⟨l, hl, hp⟩ := choose_list n (fun i hi => h i (by omega))
    obtain ⟨x, hx⟩ := h n (by omega)
    refine ⟨l ++ [x], by simp [hl], fun i y hy => ?_⟩
    rcases Nat.lt_or_ge i l.length with hi | hi
    · rw [List.getElem?_append_left hi] at hy
      exact hp i y hy
    · rw [List.getElem?_append_right hi] at hy
      have hi0 : i - l.length = 0 := by
        rcases Nat.eq_zero_or_pos (i - l.length) with h0 | h0
        · exact h0
        · rw [List.getElem?_eq_none (by simp; omega)] at hy
          cases hy
      rw [hi0] at hy
      simp at hy
      subst hy
      rw [show i = n by omega]
      exact hx
theorem opens_slice {N : Nat} {P : Program} {T e : TypeId} {α : Type} {d : Kd α} {G : α → Prop} (ht : P.underlying T = some (.slice e)) (hsz : P.cellsOf e = d.sz) (hd : Opens N P e d G) :
    Opens (N + 1) P T (Kd.slice e d) (fun xs => (∀ x ∈ xs, G x) ∧ xs.length * P.bytesOf e ≤ reachBytes) := by
  intro H enc W base spare held fuel cs x hN h hw
  rcases DataW.trod_slice ht h with ⟨rfl, rfl⟩ | ⟨a, len, cap, elems, rest, n, rfl, rfl, rfl, hb, hl, hm, hlen, hel, _, _⟩
  · exact ⟨[], ⟨none, 0, rfl, by simp, ⟨rfl, by simp, fun h => absurd h (Nat.lt_irrefl 0)⟩⟩, fun x hx => by simp at hx, by simp⟩
  · have hw2 : ∀ m ∈ (DataW.slice (elems.map (·.1)) (rest.map (·.1)) : DataW H).weights P T, m ≤ reachBytes := hw
    simp only [DataW.weights, ht, List.mem_cons, List.mem_append] at hw2
    have one : ∀ i, i < len → ∃ y : α, G y ∧ ∃ c : List Value, c.length = d.sz ∧ d.K W y c ∧ ∀ j u, c[j]? = some u → W.cell? (a.add (i * d.sz + j)) = some u := by
      intro i hi
      have hi2 := hel i hi
      rw [List.getElem?_eq_getElem (by omega)] at hi2
      obtain ⟨c, h1, h2⟩ := Option.bind_eq_some_iff.1 hi2
      obtain ⟨y, hK, hG⟩ := hd H enc W base spare held n c _ (by omega) h2 (fun m hm2 => hw2 m (.inr (.inl (weightsAll_mem (i := i) (by simp [List.getElem?_eq_getElem (show i < elems.length by omega)]) m hm2))))
      obtain ⟨_, h3, h4⟩ := World.cells?_some h1
      refine ⟨y, hG, c, by rw [h3, hsz], hK, fun j u hu => ?_⟩
      have hj : j < c.length := (List.getElem?_eq_some_iff.1 hu).1
      have h5 := h4 j (by omega)
      rw [hu] at h5
      have e1 : (a.add (i * P.cellsOf e)).add j = a.add (i * d.sz + j) := by
        rw [hsz]
        unfold Addr.add
        by_cases hi0 : i * d.sz = 0 <;> by_cases hj0 : j = 0 <;> simp [hi0, hj0, Nat.add_assoc]
      rw [← e1]
      exact h5
    obtain ⟨l, hl2, hp⟩ := choose_list len one
    refine ⟨l, ⟨some a, cap, by rw [hl2], by omega, ⟨rfl, by unfold maxLen at hm; omega, fun _ => ⟨a, rfl, fun j p hj => (hp j p hj).2⟩⟩⟩, fun x hx => ?_, ?_⟩
    · obtain ⟨i, hi⟩ := List.getElem?_of_mem hx
      exact (hp i x hi).1
    · have h6 := hw2 _ (.inl rfl)
      simp only [List.length_map] at h6
      rw [hl2]
      exact Nat.le_trans (Nat.mul_le_mul_right _ (by omega)) h6

/-- Fields that lie side by side from cell o on, n cells in all. -/
def OpensF (N : Nat) (P : Program) (fs : List Field) (o n : Nat) {α : Type} (d : Kd α) (G : α → Prop) : Prop :=
  ∀ (H : Type) (enc : TypeId × Value → H) (W : World) (base : Nat) (spare : Nat → Bool) (held : Bool) (fuel : Nat) (cs : List Value) (xs : List (DataW H × List MemPlace)),
    fuel ≤ N → xs.length = fs.length → (∀ (i : Nat) (f : Field), fs[i]? = some f → DataW.trod enc P W base spare held fuel f.type ((cs.drop f.offset).take (P.cellsOf f.type)) = xs[i]?) →
    (∀ m ∈ DataW.weightsEach P (fs.map (·.type)) (xs.map (·.1)), m ≤ reachBytes) → ∃ y, d.K W y ((cs.drop o).take n) ∧ G y
theorem opensF_one {N : Nat} {P : Program} {f : Field} {o n : Nat} {α : Type} {d : Kd α} {G : α → Prop} (ho : f.offset = o) (hn : P.cellsOf f.type = n) (h : Opens N P f.type d G) : OpensF N P [f] o n d G := by
  intro H enc W base spare held fuel cs xs hN hl hx hw
  obtain ⟨x, rfl⟩ : ∃ x, xs = [x] := by
    match xs, hl with
    | [x], _ => exact ⟨x, rfl⟩
  have h1 := hx 0 f rfl
  rw [ho, hn] at h1
  exact h H enc W base spare held fuel _ x hN h1 (fun m hm => hw m (by simpa [DataW.weightsEach] using hm))
theorem opensF_cons {N : Nat} {P : Program} {f : Field} {fs : List Field} {o a n : Nat} {α β : Type} {d : Kd α} {d' : Kd β} {G : α → Prop} {G' : β → Prop} (ho : f.offset = o) (ha : P.cellsOf f.type = a) (h : Opens N P f.type d G) (hr : OpensF N P fs (o + a) n d' G') :
    OpensF N P (f :: fs) o (a + n) (Kd.pair d d') (fun y => G y.1 ∧ G' y.2) := by
  intro H enc W base spare held fuel cs xs hN hl hx hw
  match xs, hl with
  | x :: xs, hl =>
    have h1 := hx 0 f rfl
    rw [ho, ha] at h1
    simp only [List.map_cons, DataW.weightsEach, List.mem_append] at hw
    obtain ⟨y, hy, gy⟩ := h H enc W base spare held fuel _ x hN h1 (fun m hm => hw m (.inl hm))
    obtain ⟨z, hz, gz⟩ := hr H enc W base spare held fuel cs xs hN (by simpa using hl) (fun i g hg => by simpa using hx (i + 1) g (by simpa using hg)) (fun m hm => hw m (.inr hm))
    refine ⟨(y, z), ⟨_, _, ?_, hy, hz⟩, gy, gz⟩
    rw [List.take_add, List.drop_drop]
theorem opens_struct {N : Nat} {P : Program} {T : TypeId} {fs : List Field} {n : Nat} {α β : Type} {d : Kd α} {G : α → Prop} (ht : P.underlying T = some (.struct fs.toArray)) (hn : P.cellsOf T = n) (f : β → α) (g : α → β) (hg : ∀ y, f (g y) = y)
    (h : OpensF N P fs 0 n d G) : Opens (N + 1) P T (Kd.iso d f) (fun y => G (f y)) := by
  intro H enc W base spare held fuel cs x hN hx hw
  obtain ⟨xs, m, rfl, rfl, hl, hlx, hf⟩ := DataW.trod_struct ht hx
  obtain ⟨y, hy, gy⟩ := h H enc W base spare held m cs xs (by omega) (by simpa using hlx) (fun i f0 hi => hf i f0 (by simpa using hi)) (fun k hk => hw k (by
    simp only [DataW.weights, ht]
    exact hk))
  refine ⟨g y, ?_, ?_⟩
  · show d.K W (f (g y)) cs
    rw [hg]
    rw [← hn, ← hl, List.drop_zero, List.take_length] at hy
    exact hy
  · show G (f (g y))
    rw [hg]
    exact gy
theorem Opens.imp {N : Nat} {P : Program} {T : TypeId} {α : Type} {d : Kd α} {G G' : α → Prop} (h : Opens N P T d G) (hi : ∀ y, G y → G' y) : Opens N P T d G' := by
  intro H enc W base spare held fuel cs x hN hx hw
  obtain ⟨y, hy, gy⟩ := h H enc W base spare held fuel cs x hN hx hw
  exact ⟨y, hy, hi y gy⟩
theorem opens_upto {P : Program} {T : TypeId} {α : Type} {F : Kd α → Kd α} {sz : Nat} {E : List Nat} {G : α → Prop} (step : ∀ N (d : Kd α), d.sz = sz → Opens N P T d G → Opens (N + 1) P T (F d) G) (hs : ∀ n, (Kd.upto F sz E n).sz = sz) : ∀ N, Opens N P T (Kd.upto F sz E N) G
  | 0 => fun H enc W base spare held fuel cs x hN h _ => by
    obtain rfl : fuel = 0 := by omega
    simp [DataW.trod] at h
  | N + 1 => step N _ (hs N) (opens_upto step hs N)
theorem opens_fix {P : Program} {T : TypeId} {α : Type} {F : Kd α → Kd α} {sz : Nat} {E : List Nat} {G : α → Prop} {hs : ∀ n, (Kd.upto F sz E n).sz = sz} {hE : ∀ n q, q ∈ (Kd.upto F sz E n).E → q ∈ E} (step : ∀ N (d : Kd α), d.sz = sz → Opens N P T d G → Opens (N + 1) P T (F d) G) (N : Nat) : Opens N P T (Kd.fix F sz E hs hE) G := by
  intro H enc W base spare held fuel cs x hN hx hw
  obtain ⟨y, hy, gy⟩ := opens_upto step hs N H enc W base spare held fuel cs x hN hx hw
  exact ⟨y, ⟨N, hy⟩, gy⟩
theorem bytes_le {a b n r : Nat} (e : a = b) (h : n * a ≤ r) : n * b ≤ r := e ▸ h
/-- An argument. -/
theorem opened {P : Program} {T : TypeId} {α : Type} {d : Kd α} {G : α → Prop} (h : ∀ N, Opens N P T d G) {H : Type} {enc : TypeId × Value → H} {W : World} {base : Nat} {spare : Nat → Bool} {held : Bool} {v : Value} {x : DataW H} {p : List MemPlace} (ht : DataW.Trod enc P W base spare held T v x p)
    {ts : List TypeId} {ds : List (DataW H)} {j : Nat} (hz : (DataW.weightsEach P ts ds).all (· ≤ reachBytes) = true) (hj : ts[j]? = some T) (hd : ds[j]? = some x) : ∃ y, d.K W y v.cells.toList ∧ G y := by
  obtain ⟨fuel, hf⟩ := ht
  exact h fuel H enc W base spare held fuel _ _ (Nat.le_refl _) hf (fun n hn => by
    have := List.all_eq_true.1 hz n (DataW.weights_mem_each hj hd n hn)
    simpa using this)
end Go.Proofs.YtjjnokodkeekhaaDoor.Op

namespace Go.Proofs.YtjjnokodkeekhaaDoor.Ki
open Go.RowKit Go.Proofs.YtjjnokodkeekhaaDoorW.PrintWords Go.Proofs.YtjjnokodkeekhaaDoor.Op Go.Proofs.YtjjnokodkeekhaaDoor.P
set_option linter.unusedVariables false
inductive G24 : S24 → Prop
  | mk (s : S24) : (Lit.int .i64 s.f0).wf = true → (Lit.int .i64 s.f1).wf = true → (∀ x ∈ s.f2, G24 x) → s.f2.length * 40 ≤ reachBytes → G24 s
theorem op24 (N : Nat) : Opens N Tryd.prog 24 k24 G24 := by
  refine opens_fix (fun N d hz hd => ?_) N
  refine (opens_struct Tryd.underlying24 (n := 3) (by kernel_rfl) _ (fun y : Int × Int × (List (S24)) => (⟨y.1, y.2.1, y.2.2⟩ : S24)) (fun _ => rfl) (opensF_cons (a := 1) (n := 2) rfl (by kernel_rfl) (opens_int Tryd.underlying3) (opensF_cons (a := 1) (n := 1) rfl (by kernel_rfl) (opens_int Tryd.underlying3) (opensF_one (n := 1) rfl (by kernel_rfl) ((opens_slice Tryd.underlying22 (hz ▸ by kernel_rfl) hd).mono (Nat.le_succ N)))))).imp (fun s h => ?_)
  exact G24.mk s (h.1) (h.2.1) (h.2.2.1) (bytes_le (by kernel_rfl : Tryd.prog.bytesOf 24 = 40) h.2.2.2)
def G25 (l : List (Int)) : Prop := (∀ x ∈ l, (Lit.int .u32 x).wf = true) ∧ l.length * 4 ≤ reachBytes
theorem op25 (N : Nat) : Opens N Tryd.prog 25 (Kd.slice 49 (Kd.int .u32)) G25 := ((opens_slice Tryd.underlying25 (by kernel_rfl) (opens_int Tryd.underlying49)).imp (fun l h => ⟨h.1, bytes_le (by kernel_rfl : Tryd.prog.bytesOf 49 = 4) h.2⟩)).mono (Nat.le_succ N)
def G27 (s : S27) : Prop := G25 s.f0 ∧ G25 s.f1
theorem op27 (N : Nat) : Opens N Tryd.prog 27 k27 G27 := by
  refine Opens.mono (N := N + 1) ?_ (Nat.le_succ N)
  unfold k27
  have h0 := opens_struct (N := N) Tryd.underlying27 (n := 2) (by kernel_rfl) (fun x : S27 => (x.f0, x.f1)) (fun y : (List (Int)) × (List (Int)) => (⟨y.1, y.2⟩ : S27)) (fun _ => rfl) (opensF_cons (a := 1) (n := 1) rfl (by kernel_rfl) (op25 _) (opensF_one (n := 1) rfl (by kernel_rfl) (op25 _)))
  exact Opens.imp h0 (fun s h => h)
end Go.Proofs.YtjjnokodkeekhaaDoor.Ki

namespace Go.Proofs.YtjjnokodkeekhaaDoor.Pu
open Go.RowKit Go.Proofs.YtjjnokodkeekhaaDoorW.PrintWords Go.Proofs.YtjjnokodkeekhaaDoorW.PrintMore
open Go.Proofs.YtjjnokodkeekhaaDoor.P Go.Proofs.YtjjnokodkeekhaaDoor.Evx Go.Proofs.YtjjnokodkeekhaaDoor.X Go.Proofs.YtjjnokodkeekhaaDoor.Ki
set_option linter.unusedVariables false
theorem FormulaWords_pure (s0 : S24) (g0 : G24 s0) (s1 : S27) (g1 : G27 s1) (a2 : Int) (w2 : (Lit.int .i64 a2).wf = true) : parrylaw22_FormulaWords.f s0.f0 s0.f1 s0.f2 s1.f0 s1.f1 a2 = some true := rfl
end Go.Proofs.YtjjnokodkeekhaaDoor.Pu

