/- A part of the claim FormulaForms. -/
import Derived.ChangeArms
import Derived.SizedLaws
import Derived.WideShapes
import Derived.Test.YtjjnokodkeekhaaDoorQFormulaFormsa
import Derived.Test.YtjjnokodkeekhaaDoorQFormulaFormsb
import Derived.Test.YtjjnokodkeekhaaDoorQFormulaFormsc
import Derived.Test.YtjjnokodkeekhaaDoorQFormulaFormsd
import Derived.Test.YtjjnokodkeekhaaDoorQFormulaFormse
import Derived.Test.YtjjnokodkeekhaaDoorQFormulaFormsf
import Derived.Test.YtjjnokodkeekhaaDoorQFormulaFormsg
namespace Go.Proofs.YtjjnokodkeekhaaDoor.X
open Go.RowKit Go.Proofs.YtjjnokodkeekhaaDoorW.PrintWords Go.Proofs.YtjjnokodkeekhaaDoorW.PrintMore
open Go.Proofs.YtjjnokodkeekhaaDoor.P Go.Proofs.YtjjnokodkeekhaaDoor.Evx
set_option linter.unusedVariables false
set_option linter.unusedSimpArgs false
theorem eta_f (s : S24) : (⟨s.f0, s.f1, s.f2⟩ : S24) = s := by cases s; rfl
theorem may_some (s : S24) : formula_May.f s.f0 s.f1 s.f2 = some (mayF s) := by cases s; rfl
theorem copied_l (kids : List S24) (op m : Int) (hl : kids.length ≤ 60) (ih : ∀ k ∈ kids, Ev (fun n => formula_copied.f n k.f0 k.f1 k.f2) (k.f0, k.f1, k.f2)) :
    ∀ (d j : Nat) (acc : List S24), j + d = kids.length → acc = kids.take j → Ev (fun n => formula_copied.l0 n kids (kids.length : Int) j op m acc) (op, m, kids)
  | 0, j, acc, hj, ha => by
    refine ev_step (fun k => rfl) (ev_neg (by omega) ?_)
    refine ev_eq (ev_some _) ?_
    rw [ha, List.take_of_length_le (by omega)]
  | d + 1, j, acc, hj, ha => by
    have hlt : j < kids.length := by omega
    refine ev_step (fun k => rfl) (ev_pos (by omega) (ev_pos (by omega) (ev_pos (by omega) ?_)))
    rw [rdT_nat kids j hlt]
    refine ev_bind (ih _ (List.getElem_mem hlt)) ?_
    refine ev_pos (by rw [ha, List.length_take]; omega) ?_
    rw [w64 (by omega) (by omega)]
    have := copied_l kids op m hl ih d (j + 1) (acc ++ [⟨(kids[j]'hlt).f0, (kids[j]'hlt).f1, (kids[j]'hlt).f2⟩]) (by omega) (by rw [ha, List.take_succ_eq_append_getElem hlt, eta_f])
    exact_mod_cast this
mutual
theorem copied_ev : ∀ s : S24, soundS s = true → Ev (fun n => formula_copied.f n s.f0 s.f1 s.f2) (s.f0, s.f1, s.f2)
  | ⟨op, m, kids⟩, h => by
    refine ev_step (fun k => rfl) ?_
    exact copied_l kids op m (by have := sound_len h; simp only at this; omega) (copied_evL kids (sound_kids_all h)) kids.length 0 [] (by omega) rfl
theorem copied_evL : ∀ l : List S24, soundL l = true → ∀ k ∈ l, Ev (fun n => formula_copied.f n k.f0 k.f1 k.f2) (k.f0, k.f1, k.f2)
  | [], _, k, hk => by cases hk
  | a :: r, h, k, hk => by
    simp only [soundL, Bool.and_eq_true] at h
    rcases List.mem_cons.1 hk with e | e
    · rw [e]; exact copied_ev a h.1
    · exact copied_evL r h.2 k e
end
theorem times_l (kids : List S24) (T : List S24) (hT : T.length ≤ 1000) (hb : kids.length ≤ 60) (ih : ∀ k ∈ kids, Ev (fun n => formula_times.f n k.f0 k.f1 k.f2) (timesS k)) :
    ∀ (d j : Nat) (acc : List S24), j + d = kids.length → acc ++ timesL (kids.drop j) = T → Ev (fun n => formula_times.l0 n acc kids (kids.length : Int) j) T
  | 0, j, acc, hj, ha => by
    refine ev_step (fun k => rfl) (ev_neg (by omega) ?_)
    refine ev_eq (ev_some _) ?_
    rw [← ha, List.drop_eq_nil_of_le (by omega), timesL, List.append_nil]
  | d + 1, j, acc, hj, ha => by
    have hlt : j < kids.length := by omega
    have hd := List.drop_eq_getElem_cons hlt
    rw [hd, timesL, ← List.append_assoc] at ha
    refine ev_step (fun k => rfl) (ev_pos (by omega) (ev_pos (by omega) (ev_pos (by omega) ?_)))
    rw [rdT_nat kids j hlt]
    refine ev_bind (ih _ (List.getElem_mem hlt)) ?_
    refine ev_pos (by rw [← ha] at hT; simp only [List.length_append] at hT; omega) ?_
    rw [w64 (by omega) (by omega)]
    have := times_l kids T hT hb ih d (j + 1) (acc ++ timesS (kids[j]'hlt)) (by omega) ha
    exact_mod_cast this
mutual
theorem times_ev : ∀ s : S24, soundS s = true → tnS s ≤ 1000 → Ev (fun n => formula_times.f n s.f0 s.f1 s.f2) (timesS s)
  | ⟨op, m, kids⟩, h, ht => by
    have hk : kids.length ≤ 60 := by have := sound_len h; simp only at this; omega
    have hL : (timesS (⟨op, m, kids⟩ : S24)).length ≤ 1000 := by rw [len_times]; exact ht
    have h0 : ∀ (acc : List S24) (x y : Int), acc = (if timedS op = true then [(⟨op, m, kids⟩ : S24)] else []) → Ev (fun n => formula_times.j0 n acc x y kids) (timesS (⟨op, m, kids⟩ : S24)) := by
      intro acc x y ha
      refine ev_step (fun k => rfl) ?_
      exact times_l kids _ hL hk (times_evL kids (sound_kids_all h) (by simp only [tnS] at ht; omega)) kids.length 0 acc (by omega) (by rw [ha, timesS]; rfl)
    refine ev_step (fun k => rfl) ?_
    refine ev_bindv (timed_some op) (ev_bool (fun c => ?_) (fun c => ?_))
    · refine ev_bind (copied_ev _ h) (ev_pos (by simp) ?_)
      exact h0 _ _ _ (by rw [if_pos c]; rfl)
    · exact h0 _ _ _ (by rw [if_neg (by rw [c]; simp)])
theorem times_evL : ∀ l : List S24, soundL l = true → tnL l ≤ 1000 → ∀ k ∈ l, Ev (fun n => formula_times.f n k.f0 k.f1 k.f2) (timesS k)
  | [], _, _, k, hk => by cases hk
  | a :: r, h, ht, k, hk => by
    simp only [soundL, Bool.and_eq_true] at h
    simp only [tnL] at ht
    rcases List.mem_cons.1 hk with e | e
    · rw [e]; exact times_ev a h.1 (by omega)
    · exact times_evL r h.2 (by omega) k e
end
def TimesS (s : S24) : List S24 := if mayF s = 0 then timesS s else []
theorem Times_ev (s : S24) : Ev (fun n => formula_Times.f n s.f0 s.f1 s.f2) (TimesS s) := by
  unfold formula_Times.f
  refine ev_bindv (may_some s) (ev_ite (fun c => ?_) (fun c => ?_))
  · have hz := may_zero c
    refine ev_bind (times_ev s hz.2.2.2 (by omega)) (ev_eq (ev_some _) ?_)
    unfold TimesS
    rw [if_pos c]
  · exact ev_eq (ev_some _) (by unfold TimesS; rw [if_neg c])
end Go.Proofs.YtjjnokodkeekhaaDoor.X

namespace Go.Proofs.YtjjnokodkeekhaaDoor.X
open Go.RowKit Go.Proofs.YtjjnokodkeekhaaDoorW.PrintWords Go.Proofs.YtjjnokodkeekhaaDoorW.PrintLast Go.Proofs.YtjjnokodkeekhaaDoorW.PrintMore
open Go.Proofs.YtjjnokodkeekhaaDoor.P Go.Proofs.YtjjnokodkeekhaaDoor.Evx
set_option linter.unusedSimpArgs false
set_option linter.unusedVariables false
def holdsF (s : S24) (st lp : List Int) : Bool := decide (0 < (rowF s st lp).length) && (rowF s st lp).getD 0 false
theorem holds_some (s : S24) (st lp : List Int) : formula_Holds.f s.f0 s.f1 s.f2 st lp = some (holdsF s st lp) := by
  unfold formula_Holds.f formula_Row.f holdsF
  cases s
  simp only [Option.bind_some]
  generalize rowF _ st lp = l
  cases l with
  | nil => rfl
  | cons a r => cases a <;> simp [rdOf]
def TextS (s : S24) : ByteArray := if mayF s = 0 then textB s else ByteArray.empty
theorem Text_some (s : S24) : formula_Text.f s.f0 s.f1 s.f2 = some (TextS s) := by
  unfold formula_Text.f TextS
  rw [may_some]
  simp only [Option.bind_some]
  by_cases h : mayF s = 0
  · have hz := may_zero h
    rw [if_pos h, if_pos h]
    unfold formula_text.f
    rw [if_pos ⟨by cases s; exact hz.2.2.2, by cases s; exact hz.1⟩]
    cases s; rfl
  · rw [if_neg h, if_neg h]; rfl
def atomS (n : Int) : S24 := ⟨2, n, []⟩
def F0 : S24 := ⟨7, 0, [atomS 0, atomS 1]⟩
set_option maxHeartbeats 800000 in
theorem atom_calls (n : Int) (w : World) : Calls Tryd.prog 31 #[.int .i64 n] w fun e w' => e = .returned (.agg #[.int .i64 2, .int .i64 n, .slice none 0 0]) ∧ Below w.heap.size w w' := by
  have huF := Tryd.underlying24
  go_enter Tryd.func31, Tryd.ntmps31
  go_wp2
  exact bodyPost_ret (v := .agg #[.int .i64 2, .int .i64 n, .slice none 0 0]) (by simp [results, Tryd.results31, go_sem]) rfl ⟨rfl, below_alloc (Below.refl _ _) _⟩
set_option maxHeartbeats 800000 in
theorem op_calls (k : Int) (A : Option Addr) (n c : Nat) (w : World) : Calls Tryd.prog 12 #[.int .i64 k, .slice A n c] w fun e w' => e = .returned (.agg #[.int .i64 k, .int .i64 0, .slice A n c]) ∧ Below w.heap.size w w' := by
  have huF := Tryd.underlying24
  go_enter Tryd.func12, Tryd.ntmps12
  go_wp2
  exact bodyPost_ret (v := .agg #[.int .i64 k, .int .i64 0, .slice A n c]) (by simp [results, Tryd.results12, go_sem]) rfl ⟨rfl, below_alloc (Below.refl _ _) _⟩
theorem holds_1 : holdsF F0 [1, 1] [2] = true := by decide +kernel
theorem holds_2 : holdsF F0 [] [1] = false := by decide +kernel
theorem text_1 : TextS F0 = ⟨#[40, 97, 48, 32, 117, 110, 116, 105, 108, 32, 97, 49, 41]⟩ := by decide +kernel
theorem times_1 : TimesS F0 = [F0] := by
  unfold TimesS
  rw [if_pos (by decide +kernel)]
  rfl
/-- Two formulas in a block. -/
theorem C_two {w : World} {g : Nat} {a b : S24} (ha : a.f2 = []) (hb : b.f2 = []) (h : w.heap[g]? = some (.cells #[.int .i64 a.f0, .int .i64 a.f1, .slice none 0 0, .int .i64 b.f0, .int .i64 b.f1, .slice none 0 0] 24 (0, 0))) : Kd.C k24 w (some ⟨g, 0, none⟩) 2 [a, b] := by
  have hK : ∀ x : S24, x.f2 = [] → k24.K w x [.int .i64 x.f0, .int .i64 x.f1, .slice none 0 0] := by
    intro x hx
    have := k24_mk w x (A2 := none) (c2 := 0) (by rw [hx]; simp) (by rw [hx]; exact Kd.C_nil _ _)
    rwa [hx] at this
  refine ⟨rfl, by omega, fun _ => ⟨_, rfl, fun j p hj => ?_⟩⟩
  have hs : k24.sz = 3 := rfl
  match j, hj with
  | 0, hj =>
    obtain rfl : a = p := by simpa using hj
    refine ⟨_, rfl, hK a ha, fun i u hu => ?_⟩
    rw [hs, add_at, blk_cell h]
    match i, hu with
    | 0, hu => exact hu
    | 1, hu => exact hu
    | 2, hu => exact hu
  | 1, hj =>
    obtain rfl : b = p := by simpa using hj
    refine ⟨_, rfl, hK b hb, fun i u hu => ?_⟩
    rw [hs, add_at, blk_cell h]
    match i, hu with
    | 0, hu => exact hu
    | 1, hu => exact hu
    | 2, hu => exact hu
theorem C_u32 {w : World} {g : Nat} {l : List Int} {t : TypeId} (h : w.heap[g]? = some (.cells (l.map (Value.int .u32)).toArray t (0, 0))) (hl : 0 < l.length) (hm : l.length < 1000) : Kd.C (Kd.int .u32) w (some ⟨g, 0, none⟩) l.length l := by
  refine Kd.C_of_reads (d := 0) ⟨rfl, by omega, fun _ => ⟨_, rfl, fun j hj => ?_⟩⟩
  rw [add_at, blk_cell h]
  simp [hj]
set_option maxHeartbeats 3200000 in
set_option maxRecDepth 100000 in
theorem awake_calls (w : World) : Calls Tryd.prog 11 #[] w fun e w' => e = .returned (.bool true) ∧ Below w.heap.size w w' := by
  have huF := Tryd.underlying24
  have huW := Tryd.underlying27
  have huL := Tryd.underlying22
  have huu := Tryd.underlying25
  have HBA := Aside0.mk (Below.refl w.heap.size w)
  obtain ⟨k1, hk1⟩ := (Times_ev F0).rounds
  rw [times_1] at hk1
  have HK1 := Aside0.mk hk1
  have HTX := Aside0.mk ((Text_some F0).trans (congrArg some text_1))
  clear hk1
  go_enter Tryd.func11, Tryd.ntmps11
  go_upto_region 2 with (first | (go_at_call 31; refine (atom_calls _ _).mono ?_; rintro e w1 ⟨rfl, hB⟩; have HBn := Aside0.mk (HBA.out.trans (hB.mono HBA.out.size)); clear HBA hB; have HBA := HBn; clear HBn) | (go_at_call 12; refine (op_calls _ _ _ _ _).mono ?_; rintro e w3 ⟨rfl, hB⟩; have HC3 := Aside0.mk (Kd.C_below (C_two (a := atomS 0) (b := atomS 1) rfl rfl (heap_alloc_new _ _)) hB); have HB3 := Aside0.mk (HBA.out.trans (((below_alloc (Below.refl _ _) _).trans (hB.mono (by simp))).mono HBA.out.size)); clear hB))
  obtain ⟨W4, hW4⟩ : ∃ W4, W4 = w3.alloc (.cells #[.int .i64 7, .int .i64 0, .slice (some ⟨w1.heap.size, 0, none⟩) 2 2] 24) := ⟨_, rfl⟩
  have hB4 : Below w3.heap.size w3 W4 := by rw [hW4]; exact below_alloc (Below.refl _ _) _
  have hbx : W4.heap[w3.heap.size]? = some (.cells #[.int .i64 7, .int .i64 0, .slice (some ⟨w1.heap.size, 0, none⟩) 2 2] 24 (0, 0)) := by rw [hW4]; exact heap_alloc_new w3 _
  rw [← hW4]
  have HB4 := Aside0.mk (HB3.out.trans (hB4.mono HB3.out.size))
  have HBX := Aside0.mk hbx
  have HKF := Aside0.mk (fun W (h : Below W4.heap.size W4 W) => Kd.C_below (Kd.C_below HC3.out hB4) h)
  obtain ⟨W5, hW5⟩ : ∃ W5, W5 = (W4.alloc (.cells #[.int .u32 1, .int .u32 1] 49)).alloc (.cells #[.int .u32 2] 49) := ⟨_, rfl⟩
  have hB5 : Below W4.heap.size W4 W5 := by rw [hW5]; exact below_alloc (below_alloc (Below.refl _ _) _) _
  have h1 : W5.heap[W4.heap.size]? = some (.cells #[.int .u32 1, .int .u32 1] 49 (0, 0)) := by rw [hW5]; exact blk_alloc (heap_alloc_new W4 _) _
  have h2 : W5.heap[W4.heap.size + 1]? = some (.cells #[.int .u32 2] 49 (0, 0)) := by
    rw [hW5]
    have := heap_alloc_new (W4.alloc (.cells #[.int .u32 1, .int .u32 1] 49)) (.cells #[.int .u32 2] 49)
    simpa using this
  have HH1 := Aside0.mk (show Calls Tryd.prog 17 #[.agg #[.int .i64 7, .int .i64 0, .slice (some ⟨w1.heap.size, 0, none⟩) 2 2], .agg #[.slice (some ⟨W4.heap.size, 0, none⟩) 2 2, .slice (some ⟨W4.heap.size + 1, 0, none⟩) 1 1]] W5 _ from formula_Holds.calls 7 0 (some ⟨w1.heap.size, 0, none⟩) 2 [atomS 0, atomS 1] (some ⟨W4.heap.size, 0, none⟩) 2 [1, 1] (some ⟨W4.heap.size + 1, 0, none⟩) 1 [2] true W5 (HKF.out W5 hB5) (Nat.le_refl _) (C_u32 (l := [1, 1]) h1 (by decide) (by decide)) (Nat.le_refl _) (C_u32 (l := [2]) h2 (by decide) (by decide)) (Nat.le_refl _) ((holds_some F0 [1, 1] [2]).trans (congrArg some holds_1)))
  have HH2 := Aside0.mk (fun w6 (h : Below W4.heap.size W4 w6) => show Calls Tryd.prog 17 #[.agg #[.int .i64 7, .int .i64 0, .slice (some ⟨w1.heap.size, 0, none⟩) 2 2], .agg #[.slice none 0 0, .slice (some ⟨w6.heap.size, 0, none⟩) 1 1]] (w6.alloc (.cells #[.int .u32 1] 49)) _ from formula_Holds.calls 7 0 (some ⟨w1.heap.size, 0, none⟩) 2 [atomS 0, atomS 1] none 0 [] (some ⟨w6.heap.size, 0, none⟩) 1 [1] false _ (HKF.out _ (below_alloc h _)) (Nat.le_refl _) (Kd.C_nil _ _) (Nat.le_refl _) (C_u32 (l := [1]) (heap_alloc_new w6 _) (by decide) (by decide)) (Nat.le_refl _) ((holds_some F0 [] [1]).trans (congrArg some holds_2)))
  have HTT := Aside0.mk (fun W (h : Below W4.heap.size W4 W) => show Calls Tryd.prog 26 #[.agg #[.int .i64 7, .int .i64 0, .slice (some ⟨w1.heap.size, 0, none⟩) 2 2]] W _ from formula_Text.calls 7 0 (some ⟨w1.heap.size, 0, none⟩) 2 [atomS 0, atomS 1] _ W (HKF.out _ h) (Nat.le_refl _) HTX.out)
  have HTM := Aside0.mk (fun W (h : Below W4.heap.size W4 W) => show Calls Tryd.prog 18 #[.agg #[.int .i64 7, .int .i64 0, .slice (some ⟨w1.heap.size, 0, none⟩) 2 2]] W _ from formula_Times.calls k1 7 0 (some ⟨w1.heap.size, 0, none⟩) 2 [atomS 0, atomS 1] [F0] W (HKF.out _ h) (Nat.le_refl _) HK1.out)
  have HW5 := Aside0.mk hW5
  have HB5 := Aside0.mk hB5
  have b0 : W4.cell? ⟨w3.heap.size, 0, none⟩ = some (.int .i64 7) := (blk_cell hbx 0).trans rfl
  have b1 : W4.cell? ⟨w3.heap.size, 1, none⟩ = some (.int .i64 0) := (blk_cell hbx 1).trans rfl
  have b2 : W4.cell? ⟨w3.heap.size, 2, none⟩ = some (.slice (some ⟨w1.heap.size, 0, none⟩) 2 2) := (blk_cell hbx 2).trans rfl
  clear hW4 hB4 hbx hW5 hB5 h1 h2
  go_wp2_with (first | (go_at_call 17; rw [← HW5.out]; (with_reducible refine HH1.out.mono ?_); rintro e w6 ⟨rfl, hB6⟩; have HB6 := Aside0.mk (HB5.out.trans (hB6.mono HB5.out.size)); have HBX6 := Aside0.mk ((HB6.out.block _ (blk_lt HBX.out)).trans HBX.out); have q0 := (blk_cell HBX6.out 0).trans rfl; have q1 := (blk_cell HBX6.out 1).trans rfl; have q2 := (blk_cell HBX6.out 2).trans rfl; clear hB6) | (go_at_call 17; (with_reducible refine (HH2.out _ HB6.out).mono ?_); rintro e w7 ⟨rfl, hB7⟩; have HB7 := Aside0.mk (HB6.out.trans (((below_alloc (Below.refl _ _) _).trans (hB7.mono (by simp))).mono HB6.out.size)); have HBX7 := Aside0.mk ((HB7.out.block _ (blk_lt HBX.out)).trans HBX.out); have p0 := (blk_cell HBX7.out 0).trans rfl; have p1 := (blk_cell HBX7.out 1).trans rfl; have p2 := (blk_cell HBX7.out 2).trans rfl; clear hB7) | (go_at_call 26; (with_reducible refine (HTT.out _ HB7.out).mono ?_); rintro e w8 ⟨rfl, hB8⟩; have HB8 := Aside0.mk (HB7.out.trans (hB8.mono HB7.out.size)); have HBX8 := Aside0.mk ((HB8.out.block _ (blk_lt HBX.out)).trans HBX.out); have o0 := (blk_cell HBX8.out 0).trans rfl; have o1 := (blk_cell HBX8.out 1).trans rfl; have o2 := (blk_cell HBX8.out 2).trans rfl; clear hB8) | (go_at_call 18; (with_reducible refine (HTM.out _ HB8.out).mono ?_); rintro e w9 ⟨v9, rfl, hR9, hB9⟩; obtain ⟨g9, c9, e9, _⟩ := Kd.N_form hR9 (by decide); subst e9; have HB9 := Aside0.mk (HB8.out.trans (hB9.mono HB8.out.size)); clear hR9 hB9))
  go_ret
  exact ⟨rfl, HB4.out.trans (HB9.out.mono HB4.out.size)⟩
end Go.Proofs.YtjjnokodkeekhaaDoor.X

namespace Go.Proofs.YtjjnokodkeekhaaDoor.X
open Go.RowKit Go.Proofs.YtjjnokodkeekhaaDoorW.PrintWords Go.Proofs.YtjjnokodkeekhaaDoorW.PrintMore
open Go.Proofs.YtjjnokodkeekhaaDoor.P Go.Proofs.YtjjnokodkeekhaaDoor.Evx
set_option linter.unusedVariables false
set_option linter.unusedSimpArgs false
theorem Timed_some (op : Int) : parryref22_Timed.f op = some (timedS op) := by
  unfold parryref22_Timed.f timedS
  repeat' split
  all_goals (congr 1; rw [Bool.eq_iff_iff]; simp; omega)
/-- What count tells: exact where the formula fits, more than the room where it does not. -/
def CntAt (s : S24) : Prop := ∀ (d r : Int), 1 ≤ d → d ≤ 13 → r ≤ 60 → 60 ≤ r + 60 * d → ∃ n t : Int, Ev (fun k => parryref22_count.f k s.f0 s.f1 s.f2 d r) (n, t) ∧ 1 ≤ n ∧ n ≤ 61 + 60 * (13 - d) ∧ 0 ≤ t ∧ t ≤ n ∧
  ((nS s : Int) ≤ r ∧ d + hS s ≤ 13 → n = nS s ∧ t = tnS s) ∧ (¬ ((nS s : Int) ≤ r ∧ d + hS s ≤ 13) → r < n)
theorem nS_pos (s : S24) : 1 ≤ nS s := by cases s; simp only [nS]; omega
theorem nL_len (l : List S24) : l.length ≤ nL l := by
  induction l with
  | nil => simp [nL]
  | cons a r ih =>
    simp only [nL, List.length_cons]
    have : 1 ≤ nS a := by cases a; simp only [nS]; omega
    omega
theorem count_l (kids : List S24) (d r : Int) (hd1 : 1 ≤ d) (hd : d ≤ 12) (hr : r ≤ 60) (hr2 : 60 ≤ r + 60 * d) (ih : ∀ k ∈ kids, CntAt k) :
    ∀ (e j : Nat) (n t : Int), j + e = kids.length → (j : Int) < n → n ≤ 60 → 0 ≤ t → t ≤ n → ∃ n' t' : Int, Ev (fun k => parryref22_count.l0 k d r n t kids (kids.length : Int) j) (n', t') ∧ 1 ≤ n' ∧ n' ≤ 61 + 60 * (13 - d) ∧ 0 ≤ t' ∧ t' ≤ n' ∧
      (n + nL (kids.drop j) ≤ r ∧ d + 1 + hL (kids.drop j) ≤ 13 → n' = n + nL (kids.drop j) ∧ t' = t + tnL (kids.drop j)) ∧ (¬ (n + nL (kids.drop j) ≤ r ∧ d + 1 + hL (kids.drop j) ≤ 13) → r < n')
  | 0, j, n, t, hj, h1, h2, h3, h4 => by
    refine ⟨n, t, ev_step (fun k => rfl) (ev_neg (by omega) (ev_some _)), by omega, by omega, h3, h4, ?_, ?_⟩
    · rw [List.drop_eq_nil_of_le (by omega)]; simp [nL, tnL]
    · rw [List.drop_eq_nil_of_le (by omega)]; simp only [nL, hL]; omega
  | e + 1, j, n, t, hj, h1, h2, h3, h4 => by
    have hlt : j < kids.length := by omega
    obtain ⟨x, y, hx, x1, x2, y1, y2, q1, q2⟩ := ih _ (List.getElem_mem hlt) (d + 1) (r - n) (by omega) (by omega) (by omega) (by omega)
    have hdr := List.drop_eq_getElem_cons hlt
    rw [hdr]
    simp only [nL, tnL, hL]
    have hk1 : 1 ≤ nS (kids[j]'hlt) := by cases (kids[j]'hlt); simp only [nS]; omega
    by_cases hc : n + x > 60
    · refine ⟨n + x, t + y, ev_step (fun k => rfl) (ev_pos (by omega) (ev_pos (by omega) (ev_pos (by omega) ?_))), by omega, by omega, by omega, by omega, ?_, ?_⟩
      · rw [rdT_nat kids j hlt, w64 (by omega) (by omega), w64 (by omega) (by omega)]
        refine ev_bind hx ?_
        simp only
        rw [w64 (by omega) (by omega), w64 (by omega) (by omega)]
        exact ev_pos hc (ev_some _)
      · intro hq
        have := q1 (by omega)
        omega
      · intro _
        omega
    · obtain ⟨n', t', hn', a1, a2, a3, a4, b1, b2⟩ := count_l kids d r hd1 hd hr hr2 ih e (j + 1) (n + x) (t + y) (by omega) (by omega) (by omega) (by omega) (by omega)
      refine ⟨n', t', ev_step (fun k => rfl) (ev_pos (by omega) (ev_pos (by omega) (ev_pos (by omega) ?_))), a1, a2, a3, a4, ?_, ?_⟩
      · rw [rdT_nat kids j hlt, w64 (by omega) (by omega), w64 (by omega) (by omega)]
        refine ev_bind hx ?_
        simp only
        rw [w64 (by omega) (by omega), w64 (by omega) (by omega), w64 (by omega) (by omega)]
        refine ev_neg hc ?_
        exact_mod_cast hn'
      · intro hq
        have := q1 (by omega)
        have := b1 (by omega)
        omega
      · intro hq
        by_cases hq2 : (nS (kids[j]'hlt) : Int) ≤ r - n ∧ d + 1 + hS (kids[j]'hlt) ≤ 13
        · have := q1 hq2
          exact b2 (by omega)
        · have := q2 hq2
          exact b2 (by omega)
mutual
theorem count_ev : ∀ s : S24, CntAt s
  | ⟨op, m, kids⟩ => by
    intro d r h1 h2 h3 h4
    have ih := count_evL kids
    by_cases hd : d > 12
    · refine ⟨61, 0, ev_step (fun k => rfl) (ev_pos hd (ev_step (f := fun _ => some (61, 0)) (fun k => rfl) (ev_some _))), by omega, by omega, by omega, by omega, ?_, fun _ => by omega⟩
      intro hq
      simp only [hS] at hq
      omega
    · by_cases hr : r < 1
      · refine ⟨61, 0, ev_step (fun k => rfl) (ev_neg hd (ev_step (fun k => rfl) (ev_pos (decide_eq_true hr) (ev_some _)))), by omega, by omega, by omega, by omega, ?_, fun _ => by omega⟩
        intro hq
        have := nS_pos ⟨op, m, kids⟩
        omega
      · have hts : 0 ≤ (tS op : Int) ∧ (tS op : Int) ≤ 1 := by unfold tS; split <;> simp
        obtain ⟨n', t', hn', a1, a2, a3, a4, b1, b2⟩ := count_l kids d r h1 (by omega) h3 h4 ih kids.length 0 1 (tS op) (by omega) (by omega) (by omega) hts.1 hts.2
        refine ⟨n', t', ev_step (fun k => rfl) (ev_neg hd (ev_step (fun k => rfl) (ev_neg (by rw [decide_eq_false hr]; simp) ?_))), a1, a2, a3, a4, ?_, ?_⟩
        · refine ev_bindv (Timed_some op) (ev_bool (fun c => ?_) (fun c => ?_))
          · have e1 : (tS op : Int) = 1 := by unfold tS; rw [if_pos c]; rfl
            rw [e1] at hn'
            exact ev_step (fun k => rfl) hn'
          · have e1 : (tS op : Int) = 0 := by unfold tS; rw [if_neg (by rw [c]; simp)]; rfl
            rw [e1] at hn'
            exact ev_step (fun k => rfl) hn'
        · intro hq
          simp only [nS, hS, tnS] at hq ⊢
          have := b1 (by rw [List.drop_zero]; omega)
          rw [List.drop_zero] at this
          omega
        · intro hq
          simp only [nS, hS] at hq
          exact b2 (by rw [List.drop_zero]; omega)
theorem count_evL : ∀ l : List S24, ∀ k ∈ l, CntAt k
  | [], k, hk => by cases hk
  | a :: r, k, hk => by
    rcases List.mem_cons.1 hk with e | e
    · rw [e]; exact count_ev a
    · exact count_evL r k e
end
theorem rMay_ev (s : S24) : Ev (fun n => parryref22_May.f n s.f0 s.f1 s.f2) (mayF s) := by
  obtain ⟨n, t, hx, a1, a2, a3, a4, q1, q2⟩ := count_ev s 1 60 (by omega) (by omega) (by omega) (by omega)
  rw [may_eq]
  unfold parryref22_May.f
  refine ev_bind hx ?_
  have h0 : ∀ b : Bool, b = !decide (nS s ≤ 60 ∧ hS s ≤ 12 ∧ tnS s ≤ 8) → Ev (fun n => parryref22_May.j0 n b s.f0 s.f1 s.f2) (if nS s ≤ 60 ∧ hS s ≤ 12 ∧ tnS s ≤ 8 then (if soundS s = true then 0 else 1) else 7) := by
    intro b hb
    refine ev_step (fun k => rfl) (ev_bool (fun h => ?_) (fun h => ?_))
    · rw [h] at hb
      have hq : ¬ (nS s ≤ 60 ∧ hS s ≤ 12 ∧ tnS s ≤ 8) := of_decide_eq_false (bnot hb.symm)
      exact ev_eq (ev_some _) (by rw [if_neg hq])
    · rw [h] at hb
      have hq : nS s ≤ 60 ∧ hS s ≤ 12 ∧ tnS s ≤ 8 := by simpa using hb.symm
      rw [if_pos hq]
      have hso : parryref22_sound.f s.f0 s.f1 s.f2 = some (soundS s) := by cases s; rfl
      exact ev_bindv hso (ev_ite (fun c => by rw [if_pos c]; exact ev_some _) (fun c => by rw [if_neg c]; exact ev_some _))
  refine ev_ite (fun c => h0 _ ?_) (fun c => h0 _ ?_)
  · have hq : ¬ (nS s ≤ 60 ∧ hS s ≤ 12 ∧ tnS s ≤ 8) := fun h => by have := q1 (by omega); simp only at c; omega
    rw [decide_eq_false hq]; rfl
  · have hq : (nS s : Int) ≤ 60 ∧ 1 + (hS s : Int) ≤ 13 := by
      apply Classical.byContradiction
      intro h
      have := q2 h
      simp only at c
      omega
    have := q1 hq
    simp only
    by_cases ht : t > 8
    · rw [decide_eq_true ht, decide_eq_false (by omega)]; rfl
    · rw [decide_eq_false ht, decide_eq_true (by omega)]; rfl
end Go.Proofs.YtjjnokodkeekhaaDoor.X

namespace Go.Proofs.YtjjnokodkeekhaaDoor.X
open Go.RowKit Go.Proofs.YtjjnokodkeekhaaDoorW.PrintWords Go.Proofs.YtjjnokodkeekhaaDoorW.PrintMore
open Go.Proofs.YtjjnokodkeekhaaDoor.P Go.Proofs.YtjjnokodkeekhaaDoor.Evx
set_option linter.unusedVariables false
set_option linter.unusedSimpArgs false
/-- What weigh tells is a number from 1 to 1000. -/
def WeiAt (s : S24) : Prop := ∀ (d r : Int), 0 ≤ d → d ≤ 41 → 0 ≤ r → r ≤ 500 → ∃ n : Int, Ev (fun k => parrylaw22_weigh.f k s.f0 s.f1 s.f2 d r) n ∧ 1 ≤ n ∧ n ≤ 1000
theorem weigh_l (kids : List S24) (d r : Int) (hd0 : 0 ≤ d) (hd : d ≤ 40) (hr0 : 1 ≤ r) (hr : r ≤ 500) (ih : ∀ k ∈ kids, WeiAt k) :
    ∀ (e j : Nat) (n : Int), j + e = kids.length → (j : Int) < n → n ≤ r → ∃ n' : Int, Ev (fun k => parrylaw22_weigh.l0 k d r n kids (kids.length : Int) j) n' ∧ 1 ≤ n' ∧ n' ≤ 1000
  | 0, j, n, hj, h1, h2 => ⟨n, ev_step (fun k => rfl) (ev_neg (by omega) (ev_some _)), by omega, by omega⟩
  | e + 1, j, n, hj, h1, h2 => by
    have hlt : j < kids.length := by omega
    obtain ⟨x, hx, x1, x2⟩ := ih _ (List.getElem_mem hlt) (d + 1) (r - n) (by omega) (by omega) (by omega) (by omega)
    by_cases hc : n + x > r
    · refine ⟨1000, ev_step (fun k => rfl) (ev_pos (by omega) (ev_pos (by omega) (ev_pos (by omega) ?_))), by omega, by omega⟩
      rw [rdT_nat kids j hlt, w64 (x := d + 1) (by omega) (by omega), w64 (x := r - n) (by omega) (by omega)]
      refine ev_bind hx ?_
      rw [w64 (by omega) (by omega)]
      exact ev_pos hc (ev_some _)
    · obtain ⟨n', hn', a1, a2⟩ := weigh_l kids d r hd0 hd hr0 hr ih e (j + 1) (n + x) (by omega) (by omega) (by omega)
      refine ⟨n', ev_step (fun k => rfl) (ev_pos (by omega) (ev_pos (by omega) (ev_pos (by omega) ?_))), a1, a2⟩
      rw [rdT_nat kids j hlt, w64 (x := d + 1) (by omega) (by omega), w64 (x := r - n) (by omega) (by omega)]
      refine ev_bind hx ?_
      rw [w64 (x := n + x) (by omega) (by omega), w64 (x := (j : Int) + 1) (by omega) (by omega)]
      refine ev_neg hc ?_
      exact_mod_cast hn'
mutual
theorem weigh_ev : ∀ s : S24, WeiAt s
  | ⟨op, m, kids⟩ => by
    intro d r h1 h2 h3 h4
    have ih := weigh_evL kids
    by_cases hd : d > 40
    · exact ⟨1000, ev_step (fun k => rfl) (ev_pos hd (ev_step (f := fun _ => some 1000) (fun k => rfl) (ev_some _))), by omega, by omega⟩
    · by_cases hr : r < 1
      · exact ⟨1000, ev_step (fun k => rfl) (ev_neg hd (ev_step (fun k => rfl) (ev_pos (decide_eq_true hr) (ev_some _)))), by omega, by omega⟩
      · obtain ⟨n', hn', a1, a2⟩ := weigh_l kids d r h1 (by omega) (by omega) h4 ih kids.length 0 1 (by omega) (by omega) (by omega)
        exact ⟨n', ev_step (fun k => rfl) (ev_neg hd (ev_step (fun k => rfl) (ev_neg (by rw [decide_eq_false hr]; simp) hn'))), a1, a2⟩
theorem weigh_evL : ∀ l : List S24, ∀ k ∈ l, WeiAt k
  | [], k, hk => by cases hk
  | a :: r, k, hk => by
    rcases List.mem_cons.1 hk with e | e
    · rw [e]; exact weigh_ev a
    · exact weigh_evL r k e
end
theorem heavy_ev (s : S24) : ∃ n : Int, Ev (fun k => parrylaw22_Heavy.f k s.f0 s.f1 s.f2) n ∧ 0 ≤ n ∧ n ≤ 1000 := by
  obtain ⟨n, hn, a1, a2⟩ := weigh_ev s 0 500 (by omega) (by omega) (by omega) (by omega)
  unfold parrylaw22_Heavy.f
  by_cases h : n > 300
  · exact ⟨n, ev_bind hn (ev_pos h (ev_some _)), by omega, by omega⟩
  · exact ⟨0, ev_bind hn (ev_neg h (ev_some _)), by omega, by omega⟩
theorem long_some (st lp : List Int) : ∃ n : Int, parrylaw22_Long.f st lp = some n ∧ 0 ≤ n ∧ n ≤ 1 ∧ (n = 0 → st.length ≤ 60 ∧ lp.length ≤ 60) := by
  unfold parrylaw22_Long.f
  by_cases h1 : (st.length : Int) > 60
  · exact ⟨1, by rw [if_pos h1], by omega, by omega, by omega⟩
  · by_cases h2 : (lp.length : Int) > 60
    · exact ⟨1, by rw [if_neg h1, if_pos h2], by omega, by omega, by omega⟩
    · exact ⟨0, by rw [if_neg h1, if_neg h2], by omega, by omega, by omega⟩
end Go.Proofs.YtjjnokodkeekhaaDoor.X

namespace Go.Proofs.YtjjnokodkeekhaaDoor.X
open Go.RowKit Go.Proofs.YtjjnokodkeekhaaDoorW.PrintWords Go.Proofs.YtjjnokodkeekhaaDoorW.PrintMore
open Go.Proofs.YtjjnokodkeekhaaDoor.P Go.Proofs.YtjjnokodkeekhaaDoor.Evx
set_option linter.unusedVariables false
set_option linter.unusedSimpArgs false
def NotS (s : S24) : S24 := if s.f0 = 3 ∧ s.f2.length = 1 then s.f2.getD 0 z24 else ⟨3, 0, [s]⟩
theorem not_ev {s : S24} (h : soundS s = true) : Ev (fun n => formula_Not.f n s.f0 s.f1 s.f2) ((NotS s).f0, (NotS s).f1, (NotS s).f2) := by
  have hj : ∀ b : Bool, b = decide (s.f0 = 3 ∧ s.f2.length = 1) → Ev (fun n => formula_Not.j0 n b s.f0 s.f1 s.f2) ((NotS s).f0, (NotS s).f1, (NotS s).f2) := by
    intro b hb
    refine ev_step (fun k => rfl) (ev_bool (fun c => ?_) (fun c => ?_))
    · rw [c] at hb
      have h1 := of_decide_eq_true hb.symm
      have hl : 0 < s.f2.length := by omega
      have e : NotS s = s.f2[0]'hl := by
        unfold NotS
        rw [if_pos h1, List.getD_eq_getElem?_getD, List.getElem?_eq_getElem hl]; rfl
      have er : rd_T24 s.f2 0 = s.f2[0]'hl := rdT_nat s.f2 0 hl
      refine ev_pos (by omega) ?_
      rw [er, e]
      exact ev_bind (copied_ev _ (sound_kid h 0 hl)) (ev_some _)
    · rw [c] at hb
      have h1 := of_decide_eq_false hb.symm
      have e : NotS s = ⟨3, 0, [s]⟩ := by unfold NotS; rw [if_neg h1]
      rw [e]
      exact ev_bind (copied_ev s h) (ev_eq (ev_some _) (by cases s; rfl))
  unfold formula_Not.f
  by_cases c : s.f0 = 3
  · refine ev_pos c (hj _ ?_)
    rw [Bool.eq_iff_iff]
    simp [c]
    omega
  · exact ev_neg c (hj _ (by simp [c]))
theorem may_light {s : S24} (h : mayF s = 0) : lightS s = true := by
  have := may_zero h
  exact (light_iff s).2 ⟨this.1, this.2.1⟩
end Go.Proofs.YtjjnokodkeekhaaDoor.X

namespace Go.Proofs.YtjjnokodkeekhaaDoor.X
open Go.RowKit Go.Proofs.YtjjnokodkeekhaaDoorW.PrintWords Go.Proofs.YtjjnokodkeekhaaDoorW.PrintMore
open Go.Proofs.YtjjnokodkeekhaaDoor.P Go.Proofs.YtjjnokodkeekhaaDoor.Evx
set_option linter.unusedVariables false
set_option linter.unusedSimpArgs false
/-- Smaller. -/
structure SubF (t s : S24) : Prop where
  pn : nS t ≤ nS s
  ph : hS t ≤ hS s
  pt : tnS t ≤ tnS s
  ps : soundS s = true → soundS t = true
theorem SubF.refl (s : S24) : SubF s s := ⟨Nat.le_refl _, Nat.le_refl _, Nat.le_refl _, id⟩
theorem SubF.trans {a b c : S24} (h : SubF a b) (k : SubF b c) : SubF a c := ⟨Nat.le_trans h.pn k.pn, Nat.le_trans h.ph k.ph, Nat.le_trans h.pt k.pt, fun x => h.ps (k.ps x)⟩
theorem SubF.may {t s : S24} (h : SubF t s) (hm : mayF s = 0) : mayF t = 0 := by
  obtain ⟨h1, h2, h3, h4⟩ := may_zero hm
  rw [may_eq, if_pos (show nS t ≤ 60 ∧ hS t ≤ 12 ∧ tnS t ≤ 8 from ⟨Nat.le_trans h.pn h1, Nat.le_trans h.ph h2, Nat.le_trans h.pt h3⟩), if_pos (h.ps h4)]
theorem nL_mem : ∀ {l : List S24} {k : S24}, k ∈ l → nS k ≤ nL l ∧ hS k ≤ hL l ∧ tnS k ≤ tnL l
  | a :: r, k, h => by
    simp only [nL, hL, tnL]
    rcases List.mem_cons.1 h with e | e
    · subst e; omega
    · have := nL_mem e; omega
theorem SubF.kid {s k : S24} (h : k ∈ s.f2) : SubF k s := by
  obtain ⟨op, m, kids⟩ := s
  have := nL_mem (show k ∈ kids from h)
  refine ⟨?_, ?_, ?_, fun hs => sound_in (sound_kids_all hs) k h⟩
  · simp only [nS]; exact Nat.le_trans this.1 (by omega)
  · simp only [hS]; exact Nat.le_trans this.2.1 (by omega)
  · simp only [tnS]; exact Nat.le_trans this.2.2 (by omega)
mutual
theorem times_sub : ∀ (s t : S24), t ∈ timesS s → SubF t s
  | ⟨op, m, kids⟩, t, h => by
    simp only [timesS, List.mem_append] at h
    rcases h with h | h
    · split at h
      · rw [List.mem_singleton.1 h]; exact SubF.refl _
      · cases h
    · obtain ⟨k, hk, hs⟩ := times_subL kids t h
      exact hs.trans (SubF.kid hk)
theorem times_subL : ∀ (l : List S24) (t : S24), t ∈ timesL l → ∃ k ∈ l, SubF t k
  | [], t, h => by simp [timesL] at h
  | a :: r, t, h => by
    simp only [timesL, List.mem_append] at h
    rcases h with h | h
    · exact ⟨a, by simp, times_sub a t h⟩
    · obtain ⟨k, hk, hs⟩ := times_subL r t h
      exact ⟨k, by simp [hk], hs⟩
end
end Go.Proofs.YtjjnokodkeekhaaDoor.X

namespace Go.Proofs.YtjjnokodkeekhaaDoor.X
open Go.RowKit Go.Proofs.YtjjnokodkeekhaaDoorW.PrintWords Go.Proofs.YtjjnokodkeekhaaDoorW.PrintMore
open Go.Proofs.YtjjnokodkeekhaaDoor.P Go.Proofs.YtjjnokodkeekhaaDoor.Evx
set_option linter.unusedVariables false
set_option linter.unusedSimpArgs false
theorem rowF_of_ {s : S24} {st lp : List Int} (h : mayF s = 0) (hw : wordS st lp = true) : rowF s st lp = rowS (st ++ lp) st.length s := by unfold rowF; rw [if_pos ⟨h, hw⟩]
def sameF (s t : S24) : Bool := lightS s && (lightS t && sameS s t)
theorem light_some (s : S24) : formula_light.f s.f0 s.f1 s.f2 = some (lightS s) := by unfold formula_light.f; cases s; rfl
theorem Same_all (s t : S24) : formula_Same.f s.f0 s.f1 s.f2 t.f0 t.f1 t.f2 = some (sameF s t) := by
  unfold formula_Same.f sameF
  rw [light_some s, light_some t]
  simp only [Option.bind_some]
  cases lightS s
  · rfl
  · cases lightS t
    · rfl
    · cases s; cases t; simp [formula_alike.f]
theorem fits_ev (s : S24) : Ev (fun n => parryref22_fits.f n s.f0 s.f1 s.f2) (lightS s) := by
  obtain ⟨n, t, hx, a1, a2, a3, a4, q1, q2⟩ := count_ev s 1 60 (by omega) (by omega) (by omega) (by omega)
  unfold parryref22_fits.f
  refine ev_bind hx (ev_eq (ev_some _) ?_)
  rw [Bool.eq_iff_iff, light_iff, decide_eq_true_iff]
  constructor
  · intro h
    apply Classical.byContradiction
    intro hc
    have := q2 (by omega)
    simp only at h
    omega
  · intro h
    have := (q1 (by omega)).1
    simp only
    omega
theorem rsame_l (a0 a1 b0 b1 : Int) (kids kids2 : List S24) (hl : kids.length = kids2.length) (hb : kids.length ≤ 60) (ih : ∀ k ∈ kids, ∀ t : S24, Ev (fun n => parryref22_same.f n k.f0 k.f1 k.f2 t.f0 t.f1 t.f2) (sameS k t)) :
    ∀ (e j : Nat), j + e = kids.length → Ev (fun n => parryref22_same.l0 n (kids.length : Int) j a0 a1 kids b0 b1 kids2) (sameL (kids.drop j) (kids2.drop j))
  | 0, j, hj => by
    refine ev_step (fun k => rfl) (ev_neg (by omega) (ev_eq (ev_some _) ?_))
    rw [List.drop_eq_nil_of_le (by omega)]; rfl
  | e + 1, j, hj => by
    have hlt : j < kids.length := by omega
    have hlt2 : j < kids2.length := by omega
    rw [sameL_step hlt hlt2]
    refine ev_step (fun k => rfl) (ev_pos (by omega) (ev_pos (by omega) (ev_pos (by omega) (ev_pos (by omega) ?_))))
    rw [rdT_nat kids j hlt, rdT_nat kids2 j hlt2]
    refine ev_bind (ih _ (List.getElem_mem hlt) _) (ev_bool (fun c => ?_) (fun c => ?_))
    · rw [c, w64 (by omega) (by omega), Bool.true_and]
      exact_mod_cast rsame_l a0 a1 b0 b1 kids kids2 hl hb ih e (j + 1) (by omega)
    · rw [c, Bool.false_and]; exact ev_some _
mutual
theorem rsame_ev : ∀ s : S24, nS s ≤ 60 → ∀ t : S24, Ev (fun n => parryref22_same.f n s.f0 s.f1 s.f2 t.f0 t.f1 t.f2) (sameS s t)
  | ⟨op, m, kids⟩, h, t => by
    have hk : nL kids ≤ 60 := by simp only [nS] at h; omega
    have hb : kids.length ≤ 60 := Nat.le_trans (nL_len kids) hk
    have hj : Ev (fun n => parryref22_same.j0 n true op m kids t.f0 t.f1 t.f2) false := ev_step (f := fun _ => some false) (fun k => rfl) (ev_some _)
    refine ev_step (fun k => rfl) (ev_ite (fun h0 => ev_ite (fun h1 => ?_) (fun h1 => ?_)) (fun h0 => ?_))
    · simp only at h0 h1
      by_cases hl : kids.length = t.f2.length
      · refine ev_step (fun k => rfl) (ev_neg (by simp [hl]) ?_)
        refine ev_eq (rsame_l op m t.f0 t.f1 kids t.f2 hl hb (rsame_evL kids hk) kids.length 0 (by omega)) ?_
        simp [sameS, h0, h1, hl]
      · refine ev_step (fun k => rfl) (ev_pos (by simp; omega) (ev_eq (ev_some _) ?_))
        simp [sameS, hl]
    · refine ev_eq hj ?_
      have h1' : ¬ m = t.f1 := h1
      simp [sameS, h1']
    · refine ev_eq hj ?_
      have h0' : ¬ op = t.f0 := h0
      simp [sameS, h0']
theorem rsame_evL : ∀ l : List S24, nL l ≤ 60 → ∀ k ∈ l, ∀ t : S24, Ev (fun n => parryref22_same.f n k.f0 k.f1 k.f2 t.f0 t.f1 t.f2) (sameS k t)
  | [], _, k, hk, _ => by cases hk
  | a :: r, h, k, hk, t => by
    simp only [nL] at h
    rcases List.mem_cons.1 hk with e | e
    · rw [e]; exact rsame_ev a (by omega) t
    · exact rsame_evL r (by omega) k e t
end
theorem rSame_ev (s t : S24) : Ev (fun n => parryref22_Same.f n s.f0 s.f1 s.f2 t.f0 t.f1 t.f2) (sameF s t) := by
  unfold parryref22_Same.f sameF
  refine ev_bind (fits_ev s) (ev_bool (fun c => ?_) (fun c => ?_))
  · rw [c, Bool.true_and]
    refine ev_bind (fits_ev t) (ev_bool (fun d => ?_) (fun d => ?_))
    · rw [d, Bool.true_and]
      exact ev_bind (rsame_ev s ((light_iff s).1 c).1 t) (ev_some _)
    · rw [d]; exact ev_some _
  · rw [c]; exact ev_some _
theorem rWord_some (st lp : List Int) : parryref22_MayWord.f st lp = some (wordS st lp) := by
  unfold parryref22_MayWord.f wordS
  split
  · split
    · congr 1
      rw [decide_eq_decide]
      omega
    · rw [decide_eq_false]
      omega
  · rw [decide_eq_false]
    omega
theorem rRow_ev (s : S24) (st lp : List Int) : Ev (fun n => parryref22_Row.f n s.f0 s.f1 s.f2 st lp) (rowF s st lp) := by
  unfold parryref22_Row.f
  refine ev_bind (rMay_ev s) (ev_ite (fun c => ?_) (fun c => ?_))
  · refine ev_bindv (rWord_some st lp) (ev_bool (fun d => ?_) (fun d => ?_))
    · rw [rowF_of_ c d]
      refine ev_bindv (?_ : parryref22_row.f s.f0 s.f1 s.f2 st lp = some (rowS (st ++ lp) st.length s)) (ev_some _)
      unfold parryref22_row.f
      rw [if_pos ⟨by cases s; exact (may_zero c).2.2.2, d⟩]
      cases s; rfl
    · exact ev_eq (ev_some _) (by unfold rowF; rw [if_neg (fun h => by rw [d] at h; exact absurd h.2 (by decide))])
  · exact ev_eq (ev_some _) (by unfold rowF; rw [if_neg (fun h => c h.1)])
theorem rHolds_ev (s : S24) (st lp : List Int) : Ev (fun n => parryref22_Holds.f n s.f0 s.f1 s.f2 st lp) (holdsF s st lp) := by
  unfold parryref22_Holds.f holdsF
  refine ev_bind (rRow_ev s st lp) ?_
  cases rowF s st lp with
  | nil => exact ev_neg (by simp) (ev_some _)
  | cons a r => exact ev_pos (by simp) (ev_pos (by simp) (ev_eq (ev_some _) (by cases a <;> simp [rdOf])))
theorem rText_ev (s : S24) : Ev (fun n => parryref22_Text.f n s.f0 s.f1 s.f2) (TextS s) := by
  unfold parryref22_Text.f TextS
  refine ev_bind (rMay_ev s) (ev_ite (fun c => ?_) (fun c => ?_))
  · have hz := may_zero c
    rw [if_pos c]
    refine ev_bindv (?_ : parryref22_text.f s.f0 s.f1 s.f2 = some (textB s)) (ev_some _)
    unfold parryref22_text.f
    rw [if_pos ⟨by cases s; exact hz.2.2.2, by cases s; exact hz.1⟩]
    cases s; rfl
  · rw [if_neg c]; exact ev_some _
theorem rNot_some (s : S24) : parryref22_Not.f s.f0 s.f1 s.f2 = some ((NotS s).f0, (NotS s).f1, (NotS s).f2) := by
  unfold parryref22_Not.f NotS
  by_cases h0 : s.f0 = 3
  · by_cases h1 : s.f2.length = 1
    · have hl : 0 < s.f2.length := by omega
      have er : rd_T24 s.f2 0 = s.f2[0]'hl := rdT_nat s.f2 0 hl
      rw [if_pos h0, if_pos (by omega), if_pos (by omega), if_pos ⟨h0, h1⟩, er, List.getD_eq_getElem?_getD, List.getElem?_eq_getElem hl]
      rfl
    · rw [if_pos h0, if_neg (by omega), if_neg (fun h => h1 h.2), eta_f]
  · rw [if_neg h0, if_neg (fun h => h0 h.1), eta_f]
theorem rowF_small (s : S24) (st lp : List Int) : (rowF s st lp).length < 1000000000 := by
  unfold rowF
  split
  · rename_i h
    have hw := h.2
    unfold wordS at hw
    have := of_decide_eq_true hw
    rw [len_row, List.length_append]
    omega
  · simp
theorem not_may_zero {s : S24} (h : mayF s = 0) (hl : lightS (NotS s) = true) : sameF (NotS s) (NotS s) = true := by
  unfold sameF
  rw [hl, same_refl]; rfl
theorem not_may_big {s : S24} (hl : lightS (NotS s) = false) : ¬ mayF (NotS s) = 0 := fun h => by
  rw [may_light h] at hl; cases hl
theorem times_same {s x : S24} (hx : x ∈ TimesS s) : sameF x x = true := by
  unfold TimesS at hx
  split at hx
  · rename_i h
    have hm := (times_sub s x hx).may h
    unfold sameF
    rw [may_light hm, same_refl]; rfl
  · cases hx
end Go.Proofs.YtjjnokodkeekhaaDoor.X

namespace Go.Proofs.YtjjnokodkeekhaaDoor.X
open Go.RowKit Go.Proofs.YtjjnokodkeekhaaDoorW.PrintWords Go.Proofs.YtjjnokodkeekhaaDoorW.PrintLast Go.Proofs.YtjjnokodkeekhaaDoorW.PrintMore
open Go.Proofs.YtjjnokodkeekhaaDoor.P Go.Proofs.YtjjnokodkeekhaaDoor.Evx
set_option linter.unusedSimpArgs false
set_option linter.unusedVariables false
/-- A row of one's own, made behind w0, of formulas that lie in wk. -/
def TRowB (wk w0 w : World) (v : Value) (l : List S24) : Prop := OwnRow (k24.K wk) 24 3 w w0.heap.size v l
/-- A row of one's own of formulas that lie in w0. -/
def TRow (w0 w : World) (v : Value) (l : List S24) : Prop := OwnRow (k24.K w0) 24 3 w w0.heap.size v l
theorem trow_read {w0 w : World} {v : Value} {l : List S24} (h : TRow w0 w v l) (hb : Below w0.heap.size w0 w) : ∃ A c, v = .slice A l.length c ∧ l.length ≤ c ∧ Kd.C k24 w A l.length l := by
  obtain ⟨A, c, e, hl, hr⟩ := OwnRow.reads h
  exact ⟨A, c, e, hl, hr.imp_ (Below.refl _ _) (fun _ _ hp => k24.K_below hb hp)⟩
def TmAt (wk w0 : World) (s : S24) : Prop := Below wk.heap.size wk w0 → ∀ (l : List S24) (v : Value) (A : Option Addr) (cp : Nat) (w : World), TRowB wk w0 w v l → Below w0.heap.size w0 w → Kd.C k24 wk A s.f2.length s.f2 → s.f2.length ≤ cp → l.length + tnS s ≤ 1000 →
    Calls Tryd.prog 38 #[.agg #[.int .i64 s.f0, .int .i64 s.f1, .slice A s.f2.length cp], v] w fun e w' => ∃ v1, e = .returned v1 ∧ TRowB wk w0 w' v1 (l ++ timesS s) ∧ Below w0.heap.size w0 w'
def ownF (s : S24) : List S24 := if timedS s.f0 = true then [s] else []
theorem times_eq (s : S24) : timesS s = ownF s ++ timesL s.f2 := by cases s; rw [timesS]; rfl
theorem info24x : (Tryd.prog.info? 24).map (fun i => (i.zero, i.size, i.bytes)) = some (some (.agg #[(.int .i64 0), (.int .i64 0), (.slice none 0 0)]), 3, 40) := by kernel_rfl
set_option maxHeartbeats 4000000 in
set_option maxRecDepth 100000 in
theorem times_calls (wk w0 : World) (s : S24) (ih : ∀ k ∈ s.f2, TmAt wk w0 k) : TmAt wk w0 s := by
  intro hBk l v A cp w hT hB hk hc hbd
  have HBK := Aside0.mk hBk
  have huF := Tryd.underlying24
  have huL := Tryd.underlying22
  obtain ⟨W1, hW1⟩ : ∃ W1, W1 = w.alloc (.cells #[.int .i64 s.f0, .int .i64 s.f1, .slice A s.f2.length cp] 24) := ⟨_, rfl⟩
  have hB1 : Below w.heap.size w W1 := by rw [hW1]; exact below_alloc (Below.refl _ _) _
  have hbx : W1.heap[w.heap.size]? = some (.cells #[.int .i64 s.f0, .int .i64 s.f1, .slice A s.f2.length cp] 24 (0, 0)) := by rw [hW1]; exact heap_alloc_new w _
  have HBX := Aside0.mk hbx
  have HB1 := Aside0.mk (hB.trans (hB1.mono hB.size))
  have HK := Aside0.mk hk
  have HIH := Aside0.mk ih
  have HT1 := Aside0.mk (show TRowB wk w0 W1 v l from OwnRow.below hT hB1)
  have hvlt : ∀ k, v.ownBlock = some k → k < w.heap.size := by obtain ⟨inner, ho, _⟩ := hT; exact own_lt ho
  have HVL := Aside0.mk hvlt
  have HBD := Aside0.mk hbd
  have HTN := Aside0.mk (tn_eq s)
  have HTE := Aside0.mk (times_eq s)
  have HTD := Aside0.mk (Timed_some s.f0)
  have HKM := Aside0.mk (k24_mk wk s hc hk)
  have x0 : W1.cell? ⟨w.heap.size, 0, none⟩ = some (.int .i64 s.f0) := (blk_cell hbx 0).trans rfl
  have x1 : W1.cell? ⟨w.heap.size, 1, none⟩ = some (.int .i64 s.f1) := (blk_cell hbx 1).trans rfl
  have x2 : W1.cell? ⟨w.heap.size, 2, none⟩ = some (.slice A s.f2.length cp) := (blk_cell hbx 2).trans rfl
  have hlen := Kd.C_max HK.out
  have hlb : l.length ≤ 1000 := by omega
  have HSZ := Aside0.mk hB.size
  have HRES := Aside0.mk (show l ++ timesS s = l ++ ownF s ++ timesL s.f2 from by rw [times_eq, List.append_assoc])
  generalize l ++ timesS s = R at *
  clear hBk hT hB hk hbx hB1 ih hvlt hbd
  go_enter Tryd.func38, Tryd.ntmps38
  go_upto_region 1 with fail
  rw [← hW1]
  clear hW1
  go_upto_if 9 with (go_at_call 65; refine (parryref22_Timed.calls _ (timedS s.f0) _ HTD.out).mono ?_; rintro e w1 ⟨rfl, hd0⟩; obtain ⟨m, rfl⟩ := hd0.out)
  go_cut [1] (fun v1 wx => Aside0 (TRowB wk w0 wx v1 (l ++ ownF s)) ∧ Aside0 (Below w0.heap.size w0 wx) ∧ Aside0 (wx.heap[w.heap.size]? = some (.cells #[.int .i64 s.f0, .int .i64 s.f1, .slice A s.f2.length cp] 24 (0, 0))))
  case first =>
    cases htm : timedS s.f0 with
    | false =>
      have HE := Aside0.mk (show ownF s = [] from by unfold ownF; rw [htm]; rfl)
      go_wp2
      go_meet
      exact ⟨⟨by rw [HE.out, List.append_nil]; exact OwnRow.below HT1.out (pw_below_drewN (Below.refl _ _) _)⟩, ⟨pw_below_drewN HB1.out _⟩, HBX⟩
    | true =>
      have HE := Aside0.mk (show ownF s = [s] from by unfold ownF; rw [htm]; rfl)
      obtain ⟨inner, hown, hreps⟩ := OwnRow.below HT1.out (pw_below_drewN (Below.refl _ W1) m)
      have HOWN := Aside0.mk hown
      have HREP := Aside0.mk hreps
      clear hown hreps
      go_wp2_with ((with_reducible refine gate_builtin (b := .append) (xs := #[.tmp 10, .tmp 12]) rfl ?_); at_builtin; refine print_append_cells (w0 := w0) w0.heap.size rfl (.tmp 10) (.tmp 12) 22 24 _ 3 40 rfl huL info24x rfl (by decide) (by decide) v l.length inner [.int .i64 s.f0, .int .i64 s.f1, .slice A s.f2.length cp] rfl rfl rfl (by intro u hu; simp at hu; rcases hu with rfl | rfl | rfl <;> rfl) HOWN.out (pw_below_drewN HB1.out _) (Nat.le_trans HSZ.out (by have := blk_lt HBX.out; show w.heap.size ≤ W1.heap.size; omega)) (by omega) ?_; intro v1 w1 hown1 hb1 hg1 hat1; have HO1 := Aside0.mk hown1; have HB2 := Aside0.mk hb1; have HG1 := Aside0.mk hg1; clear hown1 hb1 hg1 hat1)
      go_meet
      refine ⟨⟨?_⟩, HB2, ⟨blk_grown (blk_drewN HBX.out m) HG1.out (fun e => Nat.lt_irrefl _ (HVL.out _ e.symm))⟩⟩
      rw [HE.out]
      exact ⟨_, by rw [List.length_append]; exact HO1.out, HREP.out.snoc HKM.out rfl⟩
  case rest =>
    obtain ⟨HTa, HBa, HBXa⟩ := hcut
    have z2 : wc.cell? ⟨w.heap.size, 2, none⟩ = some (.slice A s.f2.length cp) := (blk_cell HBXa.out 2).trans rfl
    have hlo : (l ++ ownF s).length + tnL s.f2 ≤ 1000 := by
      have h1 := HBD.out
      have h2 := HTN.out
      have h3 : (ownF s).length = tS s.f0 := by unfold ownF tS; split <;> rfl
      rw [List.length_append]
      omega
    have HLO := Aside0.mk hlo
    generalize l ++ ownF s = L1 at *
    clear hlo x0 x1 x2
    go_wp2
    go_loopg [17, 1] s.f2.length (fun kq v17 v1 w' => ∃ (j : Nat) (l2 : List S24), j + kq = s.f2.length ∧ v17 = .int .i64 j ∧ Aside0 (l2 ++ timesL (s.f2.drop j) = L1 ++ timesL s.f2) ∧ Aside0 (TRowB wk w0 w' v1 l2) ∧ Aside0 (Below w0.heap.size w0 w'))
    case atStart => exact ⟨0, L1, by omega, rfl, ⟨rfl⟩, HTa, HBa⟩
    case round =>
      obtain ⟨j, l2, hj, rfl, HL2, HT2, HB2⟩ := hrel
      have HJ := Aside0.mk hj
      clear hj
      by_cases hlt : j < s.f2.length
      · obtain ⟨ad, A3, c3, e0, hx0, hx1, hx2, hl3, hk3⟩ := kid_at HK.out (HBK.out.trans (HB2.out.mono HBK.out.size)) j hlt hlt
        cases e0
        have hd := List.drop_eq_getElem_cons hlt
        have hL3 : (l2 ++ timesS (s.f2[j]'hlt)) ++ timesL (s.f2.drop (j + 1)) = L1 ++ timesL s.f2 := by rw [← HL2.out, hd, timesL, List.append_assoc]
        have hbd3 : l2.length + tnS (s.f2[j]'hlt) ≤ 1000 := by
          have h1 := congrArg List.length hL3
          simp only [List.length_append, len_times, len_timesL] at h1
          have h2 := HLO.out
          omega
        have HL3 := Aside0.mk hL3
        have HCALL := Aside0.mk (fun W u (h : TRowB wk w0 W u l2) (hb : Below w0.heap.size w0 W) => HIH.out (s.f2[j]'hlt) (List.getElem_mem hlt) HBK.out l2 u A3 c3 W h hb hk3 hl3 hbd3)
        clear hd hL3 hbd3 hk3 hl3
        go_wp2_with (go_at_call 38; refine (HCALL.out _ _ (OwnRow.below HT2.out (below_alloc (Below.refl _ _) _)) (below_alloc HB2.out _)).mono ?_; rintro e w2 ⟨v2, rfl, hT, hB⟩; have HT3 := Aside0.mk hT; have HB3 := Aside0.mk hB; clear hT hB)
        go_roundg (gk - 1)
        case measure => have := HJ.out; omega
        case rel => exact ⟨j + 1, l2 ++ timesS (s.f2[j]'hlt), by have := HJ.out; omega, by go_num, HL3, HT3, HB3⟩
      · have HX := Aside0.mk (show l2 = R from by have := HL2.out; rw [List.drop_eq_nil_of_le (by omega), timesL, List.append_nil] at this; rw [this, HRES.out])
        go_wp2
        go_ret
        exact ⟨_, rfl, by rw [← HX.out]; exact HT2.out, HB2.out⟩
mutual
theorem tm_all (wk w0 : World) : ∀ s : S24, TmAt wk w0 s
  | ⟨op, m, kids⟩ => times_calls wk w0 ⟨op, m, kids⟩ (tm_kids wk w0 kids)
theorem tm_kids (wk w0 : World) : ∀ (l : List S24) (k : S24), k ∈ l → TmAt wk w0 k
  | [], k, hk => by simp at hk
  | a :: r, k, hk => by
    rcases List.mem_cons.1 hk with h | h
    · rw [h]
      exact tm_all wk w0 a
    · exact tm_kids wk w0 r k h
end
set_option maxHeartbeats 1600000 in
theorem rTimes_callsB (wk : World) (s : S24) (A : Option Addr) (cp : Nat) (w : World) (hBk : Below wk.heap.size wk w) (hrk : Kd.C k24 wk A s.f2.length s.f2) (hc : s.f2.length ≤ cp) :
    Calls Tryd.prog 19 #[.agg #[.int .i64 s.f0, .int .i64 s.f1, .slice A s.f2.length cp]] w fun e w' => ∃ v1, e = .returned v1 ∧ TRowB wk w w' v1 (TimesS s) ∧ Below w.heap.size w w' := by
  have hr : Kd.C k24 w A s.f2.length s.f2 := Kd.C_below hrk hBk
  have HBK := Aside0.mk hBk
  have HRK := Aside0.mk hrk
  clear hBk hrk
  have huF := Tryd.underlying24
  obtain ⟨W1, hW1⟩ : ∃ W1, W1 = w.alloc (.cells #[.int .i64 s.f0, .int .i64 s.f1, .slice A s.f2.length cp] 24) := ⟨_, rfl⟩
  have hB1 : Below w.heap.size w W1 := by rw [hW1]; exact below_alloc (Below.refl _ _) _
  have hbx : W1.heap[w.heap.size]? = some (.cells #[.int .i64 s.f0, .int .i64 s.f1, .slice A s.f2.length cp] 24 (0, 0)) := by rw [hW1]; exact heap_alloc_new w _
  have HBX := Aside0.mk hbx
  have HB1 := Aside0.mk hB1
  have HR := Aside0.mk hr
  have x0 : W1.cell? ⟨w.heap.size, 0, none⟩ = some (.int .i64 s.f0) := (blk_cell hbx 0).trans rfl
  have x1 : W1.cell? ⟨w.heap.size, 1, none⟩ = some (.int .i64 s.f1) := (blk_cell hbx 1).trans rfl
  have x2 : W1.cell? ⟨w.heap.size, 2, none⟩ = some (.slice A s.f2.length cp) := (blk_cell hbx 2).trans rfl
  obtain ⟨k1, hk1⟩ := (rMay_ev s).rounds
  have HK1 := Aside0.mk hk1
  have HM := Aside0.mk (@may_zero s)
  have HTS := Aside0.mk (show TimesS s = if mayF s = 0 then timesS s else [] from rfl)
  generalize TimesS s = R at *
  generalize mayF s = mv at *
  clear hbx hB1 hr hk1
  by_cases hm : mv = 0
  · have hX : R = [] ++ timesS s := by rw [HTS.out, if_pos hm]; rfl
    have HX := Aside0.mk hX
    have HZ := Aside0.mk (HM.out hm)
    have em : (mv != 0) = false := by rw [hm]; rfl
    clear hX hm
    go_enter Tryd.func19, Tryd.ntmps19
    go_upto_region 1 with fail
    rw [← hW1]
    clear hW1
    go_wp2_with (first | (go_at_call 20; refine (parryref22_May.calls k1 s.f0 s.f1 A cp s.f2 mv _ (Kd.C_below HR.out HB1.out) hc HK1.out).mono ?_; rintro e w1 ⟨rfl, hB⟩; have HB := Aside0.mk (HB1.out.trans (hB.mono HB1.out.size)); have HBX1 := Aside0.mk ((hB.block _ (blk_lt HBX.out)).trans HBX.out); have y0 := (blk_cell HBX1.out 0).trans rfl; have y1 := (blk_cell HBX1.out 1).trans rfl; have y2 := (blk_cell HBX1.out 2).trans rfl; clear hB) | (go_at_call 38; refine (tm_all wk w s HBK.out [] (.slice none 0 0) A cp _ (OwnRow.none_ _ _ _ _ _) HB.out HRK.out hc (by have := HZ.out; simp; omega)).mono ?_; rintro e w2 ⟨v2, rfl, hT, hB2⟩; have HT := Aside0.mk hT; have HB2 := Aside0.mk hB2; clear hT hB2))
    go_ret
    exact ⟨_, rfl, by rw [HX.out]; exact HT.out, HB2.out⟩
  · have hX : R = [] := by rw [HTS.out, if_neg hm]
    have HX := Aside0.mk hX
    have em : (mv != 0) = true := by simpa using hm
    clear hX hm
    go_enter Tryd.func19, Tryd.ntmps19
    go_upto_region 1 with fail
    rw [← hW1]
    clear hW1
    go_wp2_with (go_at_call 20; refine (parryref22_May.calls k1 s.f0 s.f1 A cp s.f2 mv _ (Kd.C_below HR.out HB1.out) hc HK1.out).mono ?_; rintro e w1 ⟨rfl, hB⟩; have HB := Aside0.mk (HB1.out.trans (hB.mono HB1.out.size)); clear hB)
    go_ret
    exact ⟨_, rfl, by rw [HX.out]; exact OwnRow.none_ _ _ _ _ _, HB.out⟩
theorem rTimes_calls (s : S24) (A : Option Addr) (cp : Nat) (w : World) (hr : Kd.C k24 w A s.f2.length s.f2) (hc : s.f2.length ≤ cp) :
    Calls Tryd.prog 19 #[.agg #[.int .i64 s.f0, .int .i64 s.f1, .slice A s.f2.length cp]] w fun e w' => ∃ v1, e = .returned v1 ∧ TRow w w' v1 (TimesS s) ∧ Below w.heap.size w w' :=
  rTimes_callsB w s A cp w (Below.refl _ _) hr hc
end Go.Proofs.YtjjnokodkeekhaaDoor.X

namespace Go.Proofs.YtjjnokodkeekhaaDoor.X
open Go.RowKit Go.Proofs.YtjjnokodkeekhaaDoorW.PrintWords Go.Proofs.YtjjnokodkeekhaaDoorW.PrintLast Go.Proofs.YtjjnokodkeekhaaDoorW.PrintMore
open Go.Proofs.YtjjnokodkeekhaaDoor.P Go.Proofs.YtjjnokodkeekhaaDoor.Evx
set_option linter.unusedSimpArgs false
set_option linter.unusedVariables false
/-- A block made behind the world W, with its cells. -/
def Lay (W w : World) (g : Nat) (cs : Array Value) (t : TypeId) : Prop := W.heap.size ≤ g ∧ w.heap[g]? = some (.cells cs t (0, 0))
section
variable {W w w1 : World} {g p : Nat} {cs : Array Value} {t : TypeId}
theorem Lay.alloc (h : Lay W w g cs t) (o : Obj) : Lay W (w.alloc o) g cs t := ⟨h.1, blk_alloc h.2 o⟩
theorem Lay.below (h : Lay W w g cs t) (hB : Below w.heap.size w w1) : Lay W w1 g cs t := ⟨h.1, (hB.block _ (blk_lt h.2)).trans h.2⟩
end
section
variable {W w w1 : World} {g p : Nat} {cs : Array Value} {t : TypeId}
theorem Lay.grown (h : Lay W w g cs t) {row : Option Nat} (hg : w.grownBy w1 row) (hn : some g ≠ row) : Lay W w1 g cs t := ⟨h.1, blk_grown h.2 hg hn⟩
end
/-- Two rows whose blocks are not one. -/
def Apart (u v : Value) : Prop := ∀ k, u.ownBlock = some k → v.ownBlock ≠ some k
section
variable {α : Type} {d : Kd α} {e base : Nat} {ok : Nat → Prop} {W : World} {u u1 v : Value} {xs : List α}
theorem Apart.symm (h : Apart u v) : Apart v u := fun k hv hu => h k hu hv
end
end Go.Proofs.YtjjnokodkeekhaaDoor.X

namespace Go.Proofs.YtjjnokodkeekhaaDoor.X
open Go.RowKit Go.Proofs.YtjjnokodkeekhaaDoorW.PrintWords Go.Proofs.YtjjnokodkeekhaaDoorW.PrintLast Go.Proofs.YtjjnokodkeekhaaDoorW.PrintMore
open Go.Proofs.YtjjnokodkeekhaaDoor.P Go.Proofs.YtjjnokodkeekhaaDoor.Evx
set_option linter.unusedSimpArgs false
set_option linter.unusedVariables false
theorem same_row_l (l : List Bool) (hl : l.length < 1000000000) : ∀ (e j : Nat), j + e = l.length → Ev (fun k => parryref9_SameRow.l0 k l l (l.length : Int) j) true
  | 0, j, hj => ev_step (fun k => rfl) (ev_neg (by omega) (ev_some _))
  | e + 1, j, hj => by
    refine ev_step (fun k => rfl) (ev_pos (by omega) (ev_pos (by omega) (ev_pos (by omega) (ev_pos (by omega) (ev_neg (by simp) ?_)))))
    rw [w64 (by omega) (by omega)]
    exact_mod_cast same_row_l l hl e (j + 1) (by omega)
theorem same_row_ev (l : List Bool) (hl : l.length < 1000000000) : Ev (fun k => parryref9_SameRow.f k l l) true := by
  unfold parryref9_SameRow.f
  exact ev_pos rfl (same_row_l l hl l.length 0 (by omega))
theorem same_row_calls (l : List Bool) (A B : Option Addr) (ca cb : Nat) (W : World) (h1 : Kd.C Kd.bool W A l.length l) (hc1 : l.length ≤ ca) (h2 : Kd.C Kd.bool W B l.length l) (hc2 : l.length ≤ cb) (hl : l.length < 1000000000) :
    Calls Tryd.prog 16 #[.slice A l.length ca, .slice B l.length cb] W fun e w' => e = .returned (.bool true) ∧ Below W.heap.size W w' := by
  obtain ⟨k, hk⟩ := (same_row_ev l hl).rounds
  exact (parryref9_SameRow.calls k A ca l B cb l true W h1 hc1 h2 hc2 hk).mono (fun e w' h => ⟨h.1, h.2.below⟩)
end Go.Proofs.YtjjnokodkeekhaaDoor.X

namespace Go.Proofs.YtjjnokodkeekhaaDoor.Op
open Go.RowKit Go.Proofs.YtjjnokodkeekhaaDoorW.PrintWords
set_option linter.unusedVariables false
set_option linter.unusedSimpArgs false

def Opens (N : Nat) (P : Program) (T : TypeId) {α : Type} (d : Kd α) (G : α → Prop) : Prop :=
  ∀ (H : Type) (enc : TypeId × Value → H) (W : World) (base : Nat) (spare : Nat → Bool) (held : Bool) (fuel : Nat) (cs : List Value) (x : DataW H × List MemPlace),
    fuel ≤ N → DataW.trod enc P W base spare held fuel T cs = some x → (∀ n ∈ x.1.weights P T, n ≤ reachBytes) → ∃ y, d.K W y cs ∧ G y

theorem Opens.mono {N M : Nat} {P : Program} {T : TypeId} {α : Type} {d : Kd α} {G : α → Prop} (h : Opens N P T d G) (hm : M ≤ N) : Opens M P T d G :=
  fun H enc W base spare held fuel cs x hf => h H enc W base spare held fuel cs x (Nat.le_trans hf hm)

theorem opens_int {N : Nat} {P : Program} {T : TypeId} {k : IntKind} (ht : P.underlying T = some (.int k)) : Opens N P T (Kd.int k) (fun n => (Lit.int k n).wf = true) := by
  intro H enc W base spare held fuel cs x _ h _
  obtain ⟨n, rfl, _, hw⟩ := DataW.trod_int ht h
  exact ⟨n, rfl, hw⟩
theorem weightsAll_mem {H : Type} {P : Program} {e : TypeId} : ∀ {l : List (DataW H)} {i : Nat} {d : DataW H}, l[i]? = some d → ∀ n ∈ d.weights P e, n ∈ DataW.weightsAll P e l
  | [], i, d, h => by simp at h
  | a :: r, 0, d, h => fun n hn => by
    simp at h
    subst h
    simp only [DataW.weightsAll, List.mem_append]
    exact .inl hn
  | a :: r, i + 1, d, h => fun n hn => by
    simp only [DataW.weightsAll, List.mem_append]
    exact .inr (weightsAll_mem (by simpa using h) n hn)
theorem choose_list {α : Type} {p : Nat → α → Prop} : ∀ n, (∀ i, i < n → ∃ x, p i x) → ∃ l : List α, l.length = n ∧ ∀ i x, l[i]? = some x → p i x
  | 0, _ => ⟨[], rfl, fun i x h => by simp at h⟩
  | n + 1, h => by
    obtain ⟨l, hl, hp⟩ := choose_list n (fun i hi => h i (by omega))
    obtain ⟨x, hx⟩ := h n (by omega)
    refine ⟨l ++ [x], by simp [hl], fun i y hy => ?_⟩
    rcases Nat.lt_or_ge i l.length with hi | hi
    · rw [List.getElem?_append_left hi] at hy
      exact hp i y hy
    · rw [List.getElem?_append_right hi] at hy
      have hi0 : i - l.length = 0 := by
        rcases Nat.eq_zero_or_pos (i - l.length) with h0 | h0
        · exact h0
        · rw [List.getElem?_eq_none (by simp; omega)] at hy
          cases hy
      rw [hi0] at hy
      simp at hy
      subst hy
      rw [show i = n by omega]
      exact hx
theorem opens_slice {N : Nat} {P : Program} {T e : TypeId} {α : Type} {d : Kd α} {G : α → Prop} (ht : P.underlying T = some (.slice e)) (hsz : P.cellsOf e = d.sz) (hd : Opens N P e d G) :
    Opens (N + 1) P T (Kd.slice e d) (fun xs => (∀ x ∈ xs, G x) ∧ xs.length * P.bytesOf e ≤ reachBytes) := by
  intro H enc W base spare held fuel cs x hN h hw
  rcases DataW.trod_slice ht h with ⟨rfl, rfl⟩ | ⟨a, len, cap, elems, rest, n, rfl, rfl, rfl, hb, hl, hm, hlen, hel, _, _⟩
  · exact ⟨[], ⟨none, 0, rfl, by simp, ⟨rfl, by simp, fun h => absurd h (Nat.lt_irrefl 0)⟩⟩, fun x hx => by simp at hx, by simp⟩
  · have hw2 : ∀ m ∈ (DataW.slice (elems.map (·.1)) (rest.map (·.1)) : DataW H).weights P T, m ≤ reachBytes := hw
    simp only [DataW.weights, ht, List.mem_cons, List.mem_append] at hw2
    have one : ∀ i, i < len → ∃ y : α, G y ∧ ∃ c : List Value, c.length = d.sz ∧ d.K W y c ∧ ∀ j u, c[j]? = some u → W.cell? (a.add (i * d.sz + j)) = some u := by
      intro i hi
      have hi2 := hel i hi
      rw [List.getElem?_eq_getElem (by omega)] at hi2
      obtain ⟨c, h1, h2⟩ := Option.bind_eq_some_iff.1 hi2
      obtain ⟨y, hK, hG⟩ := hd H enc W base spare held n c _ (by omega) h2 (fun m hm2 => hw2 m (.inr (.inl (weightsAll_mem (i := i) (by simp [List.getElem?_eq_getElem (show i < elems.length by omega)]) m hm2))))
      obtain ⟨_, h3, h4⟩ := World.cells?_some h1
      refine ⟨y, hG, c, by rw [h3, hsz], hK, fun j u hu => ?_⟩
      have hj : j < c.length := (List.getElem?_eq_some_iff.1 hu).1
      have h5 := h4 j (by omega)
      rw [hu] at h5
      have e1 : (a.add (i * P.cellsOf e)).add j = a.add (i * d.sz + j) := by
        rw [hsz]
        unfold Addr.add
        by_cases hi0 : i * d.sz = 0 <;> by_cases hj0 : j = 0 <;> simp [hi0, hj0, Nat.add_assoc]
      rw [← e1]
      exact h5
    obtain ⟨l, hl2, hp⟩ := choose_list len one
    refine ⟨l, ⟨some a, cap, by rw [hl2], by omega, ⟨rfl, by unfold maxLen at hm; omega, fun _ => ⟨a, rfl, fun j p hj => (hp j p hj).2⟩⟩⟩, fun x hx => ?_, ?_⟩
    · obtain ⟨i, hi⟩ := List.getElem?_of_mem hx
      exact (hp i x hi).1
    · have h6 := hw2 _ (.inl rfl)
      simp only [List.length_map] at h6
      rw [hl2]
      exact Nat.le_trans (Nat.mul_le_mul_right _ (by omega)) h6

/-- Fields that lie side by side from cell o on, n cells in all. -/
def OpensF (N : Nat) (P : Program) (fs : List Field) (o n : Nat) {α : Type} (d : Kd α) (G : α → Prop) : Prop :=
  ∀ (H : Type) (enc : TypeId × Value → H) (W : World) (base : Nat) (spare : Nat → Bool) (held : Bool) (fuel : Nat) (cs : List Value) (xs : List (DataW H × List MemPlace)),
    fuel ≤ N → xs.length = fs.length → (∀ (i : Nat) (f : Field), fs[i]? = some f → DataW.trod enc P W base spare held fuel f.type ((cs.drop f.offset).take (P.cellsOf f.type)) = xs[i]?) →
    (∀ m ∈ DataW.weightsEach P (fs.map (·.type)) (xs.map (·.1)), m ≤ reachBytes) → ∃ y, d.K W y ((cs.drop o).take n) ∧ G y
theorem opensF_one {N : Nat} {P : Program} {f : Field} {o n : Nat} {α : Type} {d : Kd α} {G : α → Prop} (ho : f.offset = o) (hn : P.cellsOf f.type = n) (h : Opens N P f.type d G) : OpensF N P [f] o n d G := by
  intro H enc W base spare held fuel cs xs hN hl hx hw
  obtain ⟨x, rfl⟩ : ∃ x, xs = [x] := by
    match xs, hl with
    | [x], _ => exact ⟨x, rfl⟩
  have h1 := hx 0 f rfl
  rw [ho, hn] at h1
  exact h H enc W base spare held fuel _ x hN h1 (fun m hm => hw m (by simpa [DataW.weightsEach] using hm))
theorem opensF_cons {N : Nat} {P : Program} {f : Field} {fs : List Field} {o a n : Nat} {α β : Type} {d : Kd α} {d' : Kd β} {G : α → Prop} {G' : β → Prop} (ho : f.offset = o) (ha : P.cellsOf f.type = a) (h : Opens N P f.type d G) (hr : OpensF N P fs (o + a) n d' G') :
    OpensF N P (f :: fs) o (a + n) (Kd.pair d d') (fun y => G y.1 ∧ G' y.2) := by
  intro H enc W base spare held fuel cs xs hN hl hx hw
  match xs, hl with
  | x :: xs, hl =>
    have h1 := hx 0 f rfl
    rw [ho, ha] at h1
    simp only [List.map_cons, DataW.weightsEach, List.mem_append] at hw
    obtain ⟨y, hy, gy⟩ := h H enc W base spare held fuel _ x hN h1 (fun m hm => hw m (.inl hm))
    obtain ⟨z, hz, gz⟩ := hr H enc W base spare held fuel cs xs hN (by simpa using hl) (fun i g hg => by simpa using hx (i + 1) g (by simpa using hg)) (fun m hm => hw m (.inr hm))
    refine ⟨(y, z), ⟨_, _, ?_, hy, hz⟩, gy, gz⟩
    rw [List.take_add, List.drop_drop]
theorem opens_struct {N : Nat} {P : Program} {T : TypeId} {fs : List Field} {n : Nat} {α β : Type} {d : Kd α} {G : α → Prop} (ht : P.underlying T = some (.struct fs.toArray)) (hn : P.cellsOf T = n) (f : β → α) (g : α → β) (hg : ∀ y, f (g y) = y)
    (h : OpensF N P fs 0 n d G) : Opens (N + 1) P T (Kd.iso d f) (fun y => G (f y)) := by
  intro H enc W base spare held fuel cs x hN hx hw
  obtain ⟨xs, m, rfl, rfl, hl, hlx, hf⟩ := DataW.trod_struct ht hx
  obtain ⟨y, hy, gy⟩ := h H enc W base spare held m cs xs (by omega) (by simpa using hlx) (fun i f0 hi => hf i f0 (by simpa using hi)) (fun k hk => hw k (by
    simp only [DataW.weights, ht]
    exact hk))
  refine ⟨g y, ?_, ?_⟩
  · show d.K W (f (g y)) cs
    rw [hg]
    rw [← hn, ← hl, List.drop_zero, List.take_length] at hy
    exact hy
  · show G (f (g y))
    rw [hg]
    exact gy
theorem Opens.imp {N : Nat} {P : Program} {T : TypeId} {α : Type} {d : Kd α} {G G' : α → Prop} (h : Opens N P T d G) (hi : ∀ y, G y → G' y) : Opens N P T d G' := by
  intro H enc W base spare held fuel cs x hN hx hw
  obtain ⟨y, hy, gy⟩ := h H enc W base spare held fuel cs x hN hx hw
  exact ⟨y, hy, hi y gy⟩
theorem opens_upto {P : Program} {T : TypeId} {α : Type} {F : Kd α → Kd α} {sz : Nat} {E : List Nat} {G : α → Prop} (step : ∀ N (d : Kd α), d.sz = sz → Opens N P T d G → Opens (N + 1) P T (F d) G) (hs : ∀ n, (Kd.upto F sz E n).sz = sz) : ∀ N, Opens N P T (Kd.upto F sz E N) G
  | 0 => fun H enc W base spare held fuel cs x hN h _ => by
    obtain rfl : fuel = 0 := by omega
    simp [DataW.trod] at h
  | N + 1 => step N _ (hs N) (opens_upto step hs N)
theorem opens_fix {P : Program} {T : TypeId} {α : Type} {F : Kd α → Kd α} {sz : Nat} {E : List Nat} {G : α → Prop} {hs : ∀ n, (Kd.upto F sz E n).sz = sz} {hE : ∀ n q, q ∈ (Kd.upto F sz E n).E → q ∈ E} (step : ∀ N (d : Kd α), d.sz = sz → Opens N P T d G → Opens (N + 1) P T (F d) G) (N : Nat) : Opens N P T (Kd.fix F sz E hs hE) G := by
  intro H enc W base spare held fuel cs x hN hx hw
  obtain ⟨y, hy, gy⟩ := opens_upto step hs N H enc W base spare held fuel cs x hN hx hw
  exact ⟨y, ⟨N, hy⟩, gy⟩
theorem bytes_le {a b n r : Nat} (e : a = b) (h : n * a ≤ r) : n * b ≤ r := e ▸ h
/-- An argument. -/
theorem opened {P : Program} {T : TypeId} {α : Type} {d : Kd α} {G : α → Prop} (h : ∀ N, Opens N P T d G) {H : Type} {enc : TypeId × Value → H} {W : World} {base : Nat} {spare : Nat → Bool} {held : Bool} {v : Value} {x : DataW H} {p : List MemPlace} (ht : DataW.Trod enc P W base spare held T v x p)
    {ts : List TypeId} {ds : List (DataW H)} {j : Nat} (hz : (DataW.weightsEach P ts ds).all (· ≤ reachBytes) = true) (hj : ts[j]? = some T) (hd : ds[j]? = some x) : ∃ y, d.K W y v.cells.toList ∧ G y := by
  obtain ⟨fuel, hf⟩ := ht
  exact h fuel H enc W base spare held fuel _ _ (Nat.le_refl _) hf (fun n hn => by
    have := List.all_eq_true.1 hz n (DataW.weights_mem_each hj hd n hn)
    simpa using this)
end Go.Proofs.YtjjnokodkeekhaaDoor.Op

namespace Go.Proofs.YtjjnokodkeekhaaDoor.Ki
open Go.RowKit Go.Proofs.YtjjnokodkeekhaaDoorW.PrintWords Go.Proofs.YtjjnokodkeekhaaDoor.Op Go.Proofs.YtjjnokodkeekhaaDoor.P
set_option linter.unusedVariables false
inductive G24 : S24 → Prop
  | mk (s : S24) : (Lit.int .i64 s.f0).wf = true → (Lit.int .i64 s.f1).wf = true → (∀ x ∈ s.f2, G24 x) → s.f2.length * 40 ≤ reachBytes → G24 s
theorem op24 (N : Nat) : Opens N Tryd.prog 24 k24 G24 := by
  refine opens_fix (fun N d hz hd => ?_) N
  refine (opens_struct Tryd.underlying24 (n := 3) (by kernel_rfl) _ (fun y : Int × Int × (List (S24)) => (⟨y.1, y.2.1, y.2.2⟩ : S24)) (fun _ => rfl) (opensF_cons (a := 1) (n := 2) rfl (by kernel_rfl) (opens_int Tryd.underlying3) (opensF_cons (a := 1) (n := 1) rfl (by kernel_rfl) (opens_int Tryd.underlying3) (opensF_one (n := 1) rfl (by kernel_rfl) ((opens_slice Tryd.underlying22 (hz ▸ by kernel_rfl) hd).mono (Nat.le_succ N)))))).imp (fun s h => ?_)
  exact G24.mk s (h.1) (h.2.1) (h.2.2.1) (bytes_le (by kernel_rfl : Tryd.prog.bytesOf 24 = 40) h.2.2.2)
def G25 (l : List (Int)) : Prop := (∀ x ∈ l, (Lit.int .u32 x).wf = true) ∧ l.length * 4 ≤ reachBytes
theorem op25 (N : Nat) : Opens N Tryd.prog 25 (Kd.slice 49 (Kd.int .u32)) G25 := ((opens_slice Tryd.underlying25 (by kernel_rfl) (opens_int Tryd.underlying49)).imp (fun l h => ⟨h.1, bytes_le (by kernel_rfl : Tryd.prog.bytesOf 49 = 4) h.2⟩)).mono (Nat.le_succ N)
def G27 (s : S27) : Prop := G25 s.f0 ∧ G25 s.f1
theorem op27 (N : Nat) : Opens N Tryd.prog 27 k27 G27 := by
  refine Opens.mono (N := N + 1) ?_ (Nat.le_succ N)
  unfold k27
  have h0 := opens_struct (N := N) Tryd.underlying27 (n := 2) (by kernel_rfl) (fun x : S27 => (x.f0, x.f1)) (fun y : (List (Int)) × (List (Int)) => (⟨y.1, y.2⟩ : S27)) (fun _ => rfl) (opensF_cons (a := 1) (n := 1) rfl (by kernel_rfl) (op25 _) (opensF_one (n := 1) rfl (by kernel_rfl) (op25 _)))
  exact Opens.imp h0 (fun s h => h)
theorem heap24 : Kd.Heap k24 := Kd.heap_fix (fun d hd => Kd.heap_iso _ (Kd.heap_pair (Kd.heap_int .i64) (Kd.heap_pair (Kd.heap_int .i64) (Kd.heap_slice 24 hd))))
end Go.Proofs.YtjjnokodkeekhaaDoor.Ki

namespace Go.Proofs.YtjjnokodkeekhaaDoor.X
open Go.RowKit Go.Proofs.YtjjnokodkeekhaaDoorW.PrintWords Go.Proofs.YtjjnokodkeekhaaDoorW.PrintLast Go.Proofs.YtjjnokodkeekhaaDoorW.PrintMore
open Go.Proofs.YtjjnokodkeekhaaDoor.P Go.Proofs.YtjjnokodkeekhaaDoor.Evx
set_option linter.unusedSimpArgs false
set_option linter.unusedVariables false
def ffo.T1 : Bool × List (List Nat × List Nat) := (true, [([], []), ([0], [0]), ([], []), ([2, 1], [2]), ([1, 3], [1, 3]), ([], []), ([5, 3], [5]), ([4, 6], [4, 6]), ([7], [7])])
def ffo.B1 : List Nat := [0, 1, 0, 7, 15, 0, 47, 127, 255]
theorem ffo.tab1 : rtab .any (opsOf Tryd.f7 1) = ffo.T1 := by kernel_rfl
theorem ffo.bits1 : waitsOk ffo.T1.2 ffo.B1 = true := by kernel_rfl
def ffo.T3 : Bool × List (List Nat × List Nat) := (true, [([], []), ([0], [0]), ([], []), ([2, 1], [2]), ([1, 3, 0, 1], [1]), ([3, 4, 0, 1, 2, 3, 4], [3])])
def ffo.B3 : List Nat := [0, 1, 0, 7, 15, 31]
theorem ffo.tab3 : rtab .any (opsOf Tryd.f7 3) = ffo.T3 := by kernel_rfl
theorem ffo.bits3 : waitsOk ffo.T3.2 ffo.B3 = true := by kernel_rfl
def ffo.T4 : Bool × List (List Nat × List Nat) := (true, [([], []), ([0], [0]), ([], []), ([2], [2]), ([1, 3], [1, 3]), ([4], [4]), ([5], [5]), ([6, 5, 5], [5, 6]), ([5], [5]), ([8, 7, 5], [5, 8]), ([7, 9, 5], [5, 7, 9]), ([5, 10], [5, 10]), ([11, 9], [11]), ([12], [12]), ([12], [12]), ([13, 14, 12, 12], [12, 13, 14]), ([12], [12]), ([12], [12]), ([16, 17, 15, 12], [12, 16, 17]), ([15, 18, 12], [12, 15, 18]), ([12, 19], [12, 19]), ([20, 18], [20]), ([21], [21]), ([22, 21, 21], [21, 22]), ([21], [21]), ([24, 23, 21], [21, 24]), ([23, 25, 21], [21, 23, 25]), ([21, 26], [21, 26]), ([27, 25], [27]), ([28], [28]), ([28], [28]), ([29, 30, 28, 28], [28, 29, 30]), ([28], [28]), ([28], [28]), ([32, 33, 31, 28], [28, 32, 33]), ([31, 34, 34, 28], [28, 31, 34]), ([35, 28], [28, 35]), ([28, 36], [28, 36])])
def ffo.B4 : List Nat := [0, 1, 0, 4, 15, 31, 63, 127, 63, 511, 1023, 2047, 4095, 8191, 8191, 32767, 8191, 8191, 262143, 524287, 1048575, 2097151, 4194303, 8388607, 4194303, 33554431, 67108863, 134217727, 268435455, 536870911, 536870911, 2147483647, 536870911, 536870911, 17179869183, 34359738367, 68719476735, 137438953471]
theorem ffo.tab4 : rtab .any (opsOf Tryd.f7 4) = ffo.T4 := by kernel_rfl
theorem ffo.bits4 : waitsOk ffo.T4.2 ffo.B4 = true := by kernel_rfl
def ffo.T9 : Bool × List (List Nat × List Nat) := (true, [([], []), ([], []), ([0, 1], [0, 1]), ([2], [2]), ([], []), ([], []), ([4, 5], [4, 5]), ([6], [6]), ([3, 7], [3, 7]), ([8], [8])])
def ffo.B9 : List Nat := [0, 0, 3, 7, 0, 0, 48, 112, 255, 511]
theorem ffo.tab9 : rtab .any (opsOf Tryd.f7 9) = ffo.T9 := by kernel_rfl
theorem ffo.bits9 : waitsOk ffo.T9.2 ffo.B9 = true := by kernel_rfl
def ffo.T12 : Bool × List (List Nat × List Nat) := (true, [([], []), ([], []), ([0, 1], [0, 1]), ([], []), ([], []), ([3, 4, 2], [3, 4]), ([2, 5], [2, 5]), ([6, 5], [6]), ([7], [7]), ([8, 7, 7], [7, 8]), ([7], [7]), ([10, 9, 7], [7, 10]), ([9, 11, 7], [7, 9, 11]), ([7, 12], [7, 12]), ([13, 11], [13]), ([14], [14]), ([15, 14, 14], [14, 15]), ([16, 14], [14, 16]), ([17, 16, 14], [14, 17]), ([18], [18]), ([19, 18, 18], [18, 19]), ([18], [18]), ([21, 20, 18], [18, 21]), ([20, 22, 22, 18], [18, 20, 22]), ([18, 23, 14], [14, 18, 23]), ([24, 23, 14], [14, 24]), ([25], [25]), ([26, 25, 25], [25, 26]), ([27, 27, 25], [25, 27]), ([28, 25], [25, 28]), ([25, 29, 14], [14, 25, 29]), ([14, 30], [14, 30]), ([31, 28], [31]), ([32, 32], [32]), ([32, 33], [32, 33]), ([34, 33, 0, 1, 2, 3, 4, 5, 6, 7, 8, 9, 10, 11, 12, 13, 14, 15, 16, 17, 18, 19, 20, 21, 22, 23, 24, 25, 26, 27, 28, 29, 30, 31, 32, 33, 34], [34])])
def ffo.B12 : List Nat := [0, 0, 3, 0, 0, 31, 63, 127, 255, 511, 255, 2047, 4095, 8191, 16383, 32767, 65535, 131071, 262143, 524287, 1048575, 524287, 4194303, 8388607, 16777215, 33554431, 67108863, 134217727, 268435455, 536870911, 1073741823, 2147483647, 4294967295, 8589934591, 17179869183, 34359738367]
theorem ffo.tab12 : rtab .any (opsOf Tryd.f7 12) = ffo.T12 := by kernel_rfl
theorem ffo.bits12 : waitsOk ffo.T12.2 ffo.B12 = true := by kernel_rfl
set_option maxHeartbeats 16000000 in
set_option maxRecDepth 100000 in
theorem forms_calls (s t : S24) (st lp : List Int) (A B A1 A2 : Option Addr) (cp cq c1 c2 : Nat) (w : World) (hk : Kd.C k24 w A s.f2.length s.f2) (hc : s.f2.length ≤ cp) (hm : Kd.C k24 w B t.f2.length t.f2) (hcm : t.f2.length ≤ cq) (h1 : Kd.C (Kd.int .u32) w A1 st.length st) (hc1 : st.length ≤ c1) (h2 : Kd.C (Kd.int .u32) w A2 lp.length lp) (hc2 : lp.length ≤ c2) :
    Calls Tryd.prog 7 #[.agg #[.int .i64 s.f0, .int .i64 s.f1, .slice A s.f2.length cp], .agg #[.int .i64 t.f0, .int .i64 t.f1, .slice B t.f2.length cq], .agg #[.slice A1 st.length c1, .slice A2 lp.length c2]] w fun e w' => e = .returned (.bool true) ∧ Below w.heap.size w w' := by
  have huF := Tryd.underlying24
  have huW := Tryd.underlying27
  have huL := Tryd.underlying22
  have huu := Tryd.underlying25
  have hub := Tryd.underlying35
  obtain ⟨V1, hV1⟩ : ∃ V1, V1 = w.alloc (.cells #[.int .i64 s.f0, .int .i64 s.f1, .slice A s.f2.length cp] 24) := ⟨_, rfl⟩
  obtain ⟨V2, hV2⟩ : ∃ V2, V2 = V1.alloc (.cells #[.int .i64 t.f0, .int .i64 t.f1, .slice B t.f2.length cq] 24) := ⟨_, rfl⟩
  obtain ⟨W0, hW0⟩ : ∃ W0, W0 = V2.alloc (.cells #[.slice A1 st.length c1, .slice A2 lp.length c2] 27) := ⟨_, rfl⟩
  have hz1 : V1.heap.size = w.heap.size + 1 := by rw [hV1]; simp
  have hz2 : V2.heap.size = w.heap.size + 1 + 1 := by rw [hV2, ← hz1]; simp
  have HB0 := Aside0.mk (show Below w.heap.size w W0 from by rw [hW0, hV2, hV1]; exact below_alloc (below_alloc (below_alloc (Below.refl _ _) _) _) _)
  have HF0 := Aside0.mk (show W0.heap[w.heap.size]? = some (.cells #[.int .i64 s.f0, .int .i64 s.f1, .slice A s.f2.length cp] 24 (0, 0)) from by rw [hW0, hV2, hV1]; exact blk_alloc (blk_alloc (heap_alloc_new w _) _) _)
  have HG0 := Aside0.mk (show W0.heap[w.heap.size + 1]? = some (.cells #[.int .i64 t.f0, .int .i64 t.f1, .slice B t.f2.length cq] 24 (0, 0)) from by rw [hW0, hV2, ← hz1]; exact blk_alloc (heap_alloc_new V1 _) _)
  have HL0 := Aside0.mk (show W0.heap[w.heap.size + 1 + 1]? = some (.cells #[.slice A1 st.length c1, .slice A2 lp.length c2] 27 (0, 0)) from by rw [hW0, ← hz2]; exact heap_alloc_new V2 _)
  have HW0 := Aside0.mk (show W0 = ((w.alloc (.cells #[.int .i64 s.f0, .int .i64 s.f1, .slice A s.f2.length cp] 24)).alloc (.cells #[.int .i64 t.f0, .int .i64 t.f1, .slice B t.f2.length cq] 24)).alloc (.cells #[.slice A1 st.length c1, .slice A2 lp.length c2] 27) from by rw [hW0, hV2, hV1])
  clear hV1 hV2 hW0 hz1 hz2
  obtain ⟨v1, hv1, n1, m1⟩ := heavy_ev s
  obtain ⟨v2, hv2, n2, m2⟩ := heavy_ev t
  obtain ⟨v3, hv3, n3, m3, _⟩ := long_some st lp
  obtain ⟨k1, hk1⟩ := hv1.rounds
  obtain ⟨k2, hk2⟩ := hv2.rounds
  obtain ⟨k3, hk3⟩ := (Times_ev s).rounds
  obtain ⟨k4, hk4⟩ := (rMay_ev s).rounds
  obtain ⟨k5, hk5⟩ := (rSame_ev s t).rounds
  obtain ⟨k6, hk6⟩ := (rRow_ev s st lp).rounds
  obtain ⟨k7, hk7⟩ := (rHolds_ev s st lp).rounds
  obtain ⟨k8, hk8⟩ := (rText_ev s).rounds
  have C1 := fun W (h : Below w.heap.size w W) => Kd.C_below hk h
  have C2 := fun W (h : Below w.heap.size w W) => Kd.C_below hm h
  have C3 := fun W (h : Below w.heap.size w W) => Kd.C_below h1 h
  have C4 := fun W (h : Below w.heap.size w W) => Kd.C_below h2 h
  have HHF := Aside0.mk (fun W (h : Below w.heap.size w W) => parrylaw22_Heavy.calls k1 s.f0 s.f1 A cp s.f2 v1 W (C1 W h) hc hk1)
  have HHG := Aside0.mk (fun W (h : Below w.heap.size w W) => parrylaw22_Heavy.calls k2 t.f0 t.f1 B cq t.f2 v2 W (C2 W h) hcm hk2)
  have HHL := Aside0.mk (fun W (h : Below w.heap.size w W) => parrylaw22_Long.calls A1 c1 st A2 c2 lp v3 W (C3 W h) hc1 (C4 W h) hc2 hv3)
  have HT1 := Aside0.mk (fun W (h : Below w.heap.size w W) => formula_Times.calls k3 s.f0 s.f1 A cp s.f2 (TimesS s) W (C1 W h) hc hk3)
  have HT2 := Aside0.mk (fun W (h : Below w.heap.size w W) => rTimes_calls s A cp W (C1 W h) hc)
  have HM1 := Aside0.mk (fun W (h : Below w.heap.size w W) => May_calls s A cp W (C1 W h) hc)
  have HM2 := Aside0.mk (fun W (h : Below w.heap.size w W) => parryref22_May.calls k4 s.f0 s.f1 A cp s.f2 (mayF s) W (C1 W h) hc hk4)
  have HS1 := Aside0.mk (fun W (h : Below w.heap.size w W) => formula_Same.calls s.f0 s.f1 A cp s.f2 t.f0 t.f1 B cq t.f2 (sameF s t) W (C1 W h) hc (C2 W h) hcm (Same_all s t))
  have HS2 := Aside0.mk (fun W (h : Below w.heap.size w W) => parryref22_Same.calls k5 s.f0 s.f1 A cp s.f2 t.f0 t.f1 B cq t.f2 (sameF s t) W (C1 W h) hc (C2 W h) hcm hk5)
  have HW1 := Aside0.mk (fun W (h : Below w.heap.size w W) => formula_MayWord.calls A1 c1 st A2 c2 lp (wordS st lp) W (C3 W h) hc1 (C4 W h) hc2 (mayWord_some st lp))
  have HW2 := Aside0.mk (fun W (h : Below w.heap.size w W) => parryref22_MayWord.calls A1 c1 st A2 c2 lp (wordS st lp) W (C3 W h) hc1 (C4 W h) hc2 (rWord_some st lp))
  have HR1 := Aside0.mk (fun W (h : Below w.heap.size w W) => Row_calls s st lp A cp A1 A2 c1 c2 W (C1 W h) hc (C3 W h) hc1 (C4 W h) hc2)
  have HR2 := Aside0.mk (fun W (h : Below w.heap.size w W) => parryref22_Row.calls k6 s.f0 s.f1 A cp s.f2 A1 c1 st A2 c2 lp (rowF s st lp) W (C1 W h) hc (C3 W h) hc1 (C4 W h) hc2 hk6)
  have HH1 := Aside0.mk (fun W (h : Below w.heap.size w W) => formula_Holds.calls s.f0 s.f1 A cp s.f2 A1 c1 st A2 c2 lp (holdsF s st lp) W (C1 W h) hc (C3 W h) hc1 (C4 W h) hc2 (holds_some s st lp))
  have HH2 := Aside0.mk (fun W (h : Below w.heap.size w W) => parryref22_Holds.calls k7 s.f0 s.f1 A cp s.f2 A1 c1 st A2 c2 lp (holdsF s st lp) W (C1 W h) hc (C3 W h) hc1 (C4 W h) hc2 hk7)
  have HX1 := Aside0.mk (fun W (h : Below w.heap.size w W) => formula_Text.calls s.f0 s.f1 A cp s.f2 (TextS s) W (C1 W h) hc (Text_some s))
  have HX2 := Aside0.mk (fun W (h : Below w.heap.size w W) => parryref22_Text.calls k8 s.f0 s.f1 A cp s.f2 (TextS s) W (C1 W h) hc hk8)
  have HN2 := Aside0.mk (fun W (h : Below w.heap.size w W) => parryref22_Not.calls s.f0 s.f1 (fun k_ => k_ < W.heap.size) A cp s.f2 (NotS s).f0 (NotS s).f1 (NotS s).f2 W (Kd.V_mk hc (Kd.C_F Go.Proofs.YtjjnokodkeekhaaDoor.Ki.heap24 (C1 W h))) (rNot_some s))
  have HNE := Aside0.mk (fun (h : mayF s = 0) => not_ev (may_zero h).2.2.2)
  have HCK := Aside0.mk C1
  have HRS := Aside0.mk (rowF_small s st lp)
  have HTS := Aside0.mk (fun x hx => times_same (s := s) (x := x) hx)
  have HBIG := Aside0.mk (@not_may_big s)
  have HNZ := Aside0.mk (@not_may_zero s)
  have hw1 : wrap64 (v1 + v2) = v1 + v2 := w64 (by omega) (by omega)
  have hw2 : wrap64 (v1 + v2 + v3) = v1 + v2 + v3 := w64 (by omega) (by omega)
  clear hk hm h1 h2 hv1 hv2 hv3 hk1 hk2 hk3 hk4 hk5 hk6 hk7 hk8 C1 C2 C3 C4
  generalize TimesS s = TL at *
  generalize sameF s t = b1 at *
  generalize wordS st lp = wd at *
  generalize rowF s st lp = R at *
  generalize holdsF s st lp = H at *
  generalize TextS s = X at *
  generalize hNS : NotS s = NS at *
  generalize hmf : mayF s = m at *
  clear hNS hmf
  go_enter Tryd.func7, Tryd.ntmps7
  go_upto_region 1 with fail
  rw [← HW0.out]
  clear HW0
  go_cut [18] (fun v18 wx => ∃ hb : Bool, v18 = .bool hb ∧ Aside0 (Below W0.heap.size W0 wx))
  case first =>
    as_aux_lemma =>
      refine start_ (n := 9) (S := fun w' => w'.cell? ⟨w.heap.size, 0, none⟩ = some (.int .i64 s.f0) ∧ w'.cell? ⟨w.heap.size, 1, none⟩ = some (.int .i64 s.f1) ∧ w'.cell? ⟨w.heap.size, 2, none⟩ = some (.slice A s.f2.length cp) ∧ w'.cell? ⟨w.heap.size + 1, 0, none⟩ = some (.int .i64 t.f0) ∧ w'.cell? ⟨w.heap.size + 1, 1, none⟩ = some (.int .i64 t.f1) ∧ w'.cell? ⟨w.heap.size + 1, 2, none⟩ = some (.slice B t.f2.length cq) ∧ w'.cell? ⟨w.heap.size + 1 + 1, 0, none⟩ = some (.slice A1 st.length c1) ∧ w'.cell? ⟨w.heap.size + 1 + 1, 1, none⟩ = some (.slice A2 lp.length c2)) (ds := []) #[false, false, false, false, false, false, false, false, false] (by kernel_rfl) rfl rfl ⟨((blk_cell HF0.out 0).trans rfl), ((blk_cell HF0.out 1).trans rfl), ((blk_cell HF0.out 2).trans rfl), ((blk_cell HG0.out 0).trans rfl), ((blk_cell HG0.out 1).trans rfl), ((blk_cell HG0.out 2).trans rfl), ((blk_cell HL0.out 0).trans rfl), ((blk_cell HL0.out 1).trans rfl)⟩ (fun hHeld => ?_)
      refine with_tabW ffo.tab1 ffo.bits1 (fun HT_ HW_ => ?_)
      refine take_ (i := 0) (N := some 10) (v := ?_) (a' := ?_) #[true, false, false, false, false, false, false, false, false] rfl rfl (take_ofW HT_.out HW_.out (by kernel_rfl)) (fun _ _ _ h => h) (Or.inl ⟨by rfl, ?_⟩) hHeld ?_ ?_
      rotate_left
      · rintro w' ⟨s0, s1, s2, s3, s4, s5, s6, s7⟩
        go_simp
        with_reducible rfl
      rotate_left
      · simp only [Act.put, List.setIfInBounds_toArray, List.set_cons_zero, List.set_cons_succ, i64_w, i32_w]
        rfl
      refine take_ (i := 2) (N := some 12) (v := ?_) (a' := ?_) #[true, false, true, false, false, false, false, false, false] rfl rfl (take_ofW HT_.out HW_.out (by kernel_rfl)) (fun _ _ _ h => h) (Or.inl ⟨by rfl, ?_⟩) hHeld ?_ ?_
      rotate_left
      · rintro w' ⟨s0, s1, s2, s3, s4, s5, s6, s7⟩
        go_simp
        with_reducible rfl
      rotate_left
      · simp only [Act.put, List.setIfInBounds_toArray, List.set_cons_zero, List.set_cons_succ, i64_w, i32_w]
        rfl
      refine take_ (i := 5) (N := some 15) (v := ?_) (a' := ?_) #[true, false, true, false, false, true, false, false, false] rfl rfl (take_ofW HT_.out HW_.out (by kernel_rfl)) (fun _ _ _ h => h) (Or.inl ⟨by rfl, ?_⟩) hHeld ?_ ?_
      rotate_left
      · rintro w' ⟨s0, s1, s2, s3, s4, s5, s6, s7⟩
        go_simp
        with_reducible rfl
      rotate_left
      · simp only [Act.put, List.setIfInBounds_toArray, List.set_cons_zero, List.set_cons_succ, i64_w, i32_w]
        rfl
      refine one_ (i := 1) (N := some 11) #[true, true, true, false, false, true, false, false, false] rfl rfl (one_of HT_.out (by kernel_rfl)) (by decide) (fun K hK => ?_)
      refine goes_ Tryd.func9 (by kernel_rfl) rfl #[.agg #[.int .i64 s.f0, .int .i64 s.f1, .slice A s.f2.length cp]] (by rfl) rfl rfl (by simp only [List.map_toArray, List.map_cons, List.map_nil]; rfl) ?_
      with_reducible refine (HHF.out _ (HB0.out.trans ((show Below W0.heap.size W0 W0.drew from below_drew1 (Below.refl _ _)).mono HB0.out.size))).mono ?_
      rintro e_ wc1 ⟨rfl, hB⟩
      have HBc1 := Aside0.mk (show Below W0.heap.size W0 wc1 from (below_drew1 (Below.refl _ _)).trans hB)
      clear hB
      have hkF1 := (HBc1.out.block _ (blk_lt HF0.out)).trans HF0.out
      have hkG1 := (HBc1.out.block _ (blk_lt HG0.out)).trans HG0.out
      have hkL1 := (HBc1.out.block _ (blk_lt HL0.out)).trans HL0.out
      refine ⟨_, rfl, ?_⟩
      refine hK.out _ _ ⟨((blk_cell hkF1 0).trans rfl), ((blk_cell hkF1 1).trans rfl), ((blk_cell hkF1 2).trans rfl), ((blk_cell hkG1 0).trans rfl), ((blk_cell hkG1 1).trans rfl), ((blk_cell hkG1 2).trans rfl), ((blk_cell hkL1 0).trans rfl), ((blk_cell hkL1 1).trans rfl)⟩ (fun hHeld => ?_)
      clear hK K
      refine norm_ (a' := ?_) ?_ ?_
      rotate_left
      · show Act.put _ (some 11) _ = _
        simp only [Act.put, List.setIfInBounds_toArray, List.set_cons_zero, List.set_cons_succ, i64_w, i32_w]
        rfl
      refine one_ (i := 3) (N := some 13) #[true, true, true, true, false, true, false, false, false] rfl rfl (one_of HT_.out (by kernel_rfl)) (by decide) (fun K hK => ?_)
      refine goes_ Tryd.func9 (by kernel_rfl) rfl #[.agg #[.int .i64 t.f0, .int .i64 t.f1, .slice B t.f2.length cq]] (by rfl) rfl rfl (by simp only [List.map_toArray, List.map_cons, List.map_nil]; rfl) ?_
      with_reducible refine (HHG.out _ (HB0.out.trans (HBc1.out.mono HB0.out.size))).mono ?_
      rintro e_ wc3 ⟨rfl, hB⟩
      have HBc3 := Aside0.mk (show Below W0.heap.size W0 wc3 from HBc1.out.trans (hB.mono HBc1.out.size))
      clear hB
      have hkF3 := (HBc3.out.block _ (blk_lt HF0.out)).trans HF0.out
      have hkG3 := (HBc3.out.block _ (blk_lt HG0.out)).trans HG0.out
      have hkL3 := (HBc3.out.block _ (blk_lt HL0.out)).trans HL0.out
      refine ⟨_, rfl, ?_⟩
      refine hK.out _ _ ⟨((blk_cell hkF3 0).trans rfl), ((blk_cell hkF3 1).trans rfl), ((blk_cell hkF3 2).trans rfl), ((blk_cell hkG3 0).trans rfl), ((blk_cell hkG3 1).trans rfl), ((blk_cell hkG3 2).trans rfl), ((blk_cell hkL3 0).trans rfl), ((blk_cell hkL3 1).trans rfl)⟩ (fun hHeld => ?_)
      clear hK K
      refine norm_ (a' := ?_) ?_ ?_
      rotate_left
      · show Act.put _ (some 13) _ = _
        simp only [Act.put, List.setIfInBounds_toArray, List.set_cons_zero, List.set_cons_succ, i64_w, i32_w]
        rfl
      refine pure_ (i := 4) (N := some 14) (v := ?_) (a' := ?_) #[true, true, true, true, true, true, false, false, false] rfl rfl (any_of HT_.out (by kernel_rfl)) (fun _ _ _ h => h) (Or.inl ⟨by rfl, ?_⟩) ?_ ?_
      rotate_left
      · intro w'
        go_simp
        with_reducible rfl
      rotate_left
      · simp only [Act.put, List.setIfInBounds_toArray, List.set_cons_zero, List.set_cons_succ, i64_w, i32_w]
        rfl
      refine one_ (i := 6) (N := some 16) #[true, true, true, true, true, true, true, false, false] rfl rfl (one_of HT_.out (by kernel_rfl)) (by decide) (fun K hK => ?_)
      refine goes_ Tryd.func10 (by kernel_rfl) rfl #[.agg #[.slice A1 st.length c1, .slice A2 lp.length c2]] (by rfl) rfl rfl (by simp only [List.map_toArray, List.map_cons, List.map_nil]; rfl) ?_
      with_reducible refine (HHL.out _ (HB0.out.trans (HBc3.out.mono HB0.out.size))).mono ?_
      rintro e_ wc6 ⟨rfl, hB⟩
      have HBc6 := Aside0.mk (show Below W0.heap.size W0 wc6 from HBc3.out.trans (hB.mono HBc3.out.size))
      clear hB
      have hkF6 := (HBc6.out.block _ (blk_lt HF0.out)).trans HF0.out
      have hkG6 := (HBc6.out.block _ (blk_lt HG0.out)).trans HG0.out
      have hkL6 := (HBc6.out.block _ (blk_lt HL0.out)).trans HL0.out
      refine ⟨_, rfl, ?_⟩
      refine hK.out _ _ ⟨((blk_cell hkF6 0).trans rfl), ((blk_cell hkF6 1).trans rfl), ((blk_cell hkF6 2).trans rfl), ((blk_cell hkG6 0).trans rfl), ((blk_cell hkG6 1).trans rfl), ((blk_cell hkG6 2).trans rfl), ((blk_cell hkL6 0).trans rfl), ((blk_cell hkL6 1).trans rfl)⟩ (fun hHeld => ?_)
      clear hK K
      refine norm_ (a' := ?_) ?_ ?_
      rotate_left
      · show Act.put _ (some 16) _ = _
        simp only [Act.put, List.setIfInBounds_toArray, List.set_cons_zero, List.set_cons_succ, i64_w, i32_w]
        rfl
      refine pure_ (i := 7) (N := some 17) (v := ?_) (a' := ?_) #[true, true, true, true, true, true, true, true, false] rfl rfl (any_of HT_.out (by kernel_rfl)) (fun _ _ _ h => h) (Or.inl ⟨by rfl, ?_⟩) ?_ ?_
      rotate_left
      · intro w'
        go_simp
        with_reducible rfl
      rotate_left
      · simp only [Act.put, List.setIfInBounds_toArray, List.set_cons_zero, List.set_cons_succ, i64_w, i32_w]
        rfl
      refine pure_ (i := 8) (N := some 18) (v := ?_) (a' := ?_) #[true, true, true, true, true, true, true, true, true] rfl rfl (any_of HT_.out (by kernel_rfl)) (fun _ _ _ h => h) (Or.inl ⟨by rfl, ?_⟩) ?_ ?_
      rotate_left
      · intro w'
        go_simp
        with_reducible rfl
      rotate_left
      · simp only [Act.put, List.setIfInBounds_toArray, List.set_cons_zero, List.set_cons_succ, i64_w, i32_w]
        rfl
      refine done_ (done_of HT_.out (by kernel_rfl)) ?_
      go_wp2_with fail
      go_meet
      exact ⟨_, rfl, HBc6⟩
  case rest =>
    obtain ⟨hb, rfl, HBc⟩ := hcut
    have HB2 := Aside0.mk (HB0.out.trans (HBc.out.mono HB0.out.size))
    obtain ⟨W2, rfl⟩ : ∃ W2 : World, W2 = wc := ⟨_, rfl⟩
    have HF2 := Aside0.mk ((HBc.out.block _ (blk_lt HF0.out)).trans HF0.out)
    have HG2 := Aside0.mk ((HBc.out.block _ (blk_lt HG0.out)).trans HG0.out)
    have HL2 := Aside0.mk ((HBc.out.block _ (blk_lt HL0.out)).trans HL0.out)
    clear hw1 hw2 n1 m1 n2 m2 n3 m3 HHF HHG HHL
    cases hb with
    | true =>
      go_wp2_with (go_at_call 11; refine (awake_calls _).mono ?_; rintro e_ w9 ⟨rfl, hB⟩; have HBz := Aside0.mk (HB2.out.trans (hB.mono HB2.out.size)); clear hB)
      go_ret
      exact ⟨rfl, HBz.out⟩
    | false =>
      go_upto_region 3 with fail
      refine start_ (n := 6) (S := fun w' => w'.cell? ⟨w.heap.size, 0, none⟩ = some (.int .i64 s.f0) ∧ w'.cell? ⟨w.heap.size, 1, none⟩ = some (.int .i64 s.f1) ∧ w'.cell? ⟨w.heap.size, 2, none⟩ = some (.slice A s.f2.length cp) ∧ w'.cell? ⟨w.heap.size + 1, 0, none⟩ = some (.int .i64 t.f0) ∧ w'.cell? ⟨w.heap.size + 1, 1, none⟩ = some (.int .i64 t.f1) ∧ w'.cell? ⟨w.heap.size + 1, 2, none⟩ = some (.slice B t.f2.length cq) ∧ w'.cell? ⟨w.heap.size + 1 + 1, 0, none⟩ = some (.slice A1 st.length c1) ∧ w'.cell? ⟨w.heap.size + 1 + 1, 1, none⟩ = some (.slice A2 lp.length c2)) (ds := []) #[false, false, false, false, false, false] (by kernel_rfl) rfl rfl ⟨((blk_cell HF2.out 0).trans rfl), ((blk_cell HF2.out 1).trans rfl), ((blk_cell HF2.out 2).trans rfl), ((blk_cell HG2.out 0).trans rfl), ((blk_cell HG2.out 1).trans rfl), ((blk_cell HG2.out 2).trans rfl), ((blk_cell HL2.out 0).trans rfl), ((blk_cell HL2.out 1).trans rfl)⟩ (fun hHeld => ?_)
      refine with_tabW ffo.tab3 ffo.bits3 (fun HT_ HW_ => ?_)
      refine take_ (i := 0) (N := some 20) (v := ?_) (a' := ?_) #[true, false, false, false, false, false] rfl rfl (take_ofW HT_.out HW_.out (by kernel_rfl)) (fun _ _ _ h => h) (Or.inl ⟨by rfl, ?_⟩) hHeld ?_ ?_
      rotate_left
      · rintro w' ⟨s0, s1, s2, s3, s4, s5, s6, s7⟩
        go_simp
        with_reducible rfl
      rotate_left
      · simp only [Act.put, List.setIfInBounds_toArray, List.set_cons_zero, List.set_cons_succ, i64_w, i32_w]
        rfl
      refine take_ (i := 2) (N := some 22) (v := ?_) (a' := ?_) #[true, false, true, false, false, false] rfl rfl (take_ofW HT_.out HW_.out (by kernel_rfl)) (fun _ _ _ h => h) (Or.inl ⟨by rfl, ?_⟩) hHeld ?_ ?_
      rotate_left
      · rintro w' ⟨s0, s1, s2, s3, s4, s5, s6, s7⟩
        go_simp
        with_reducible rfl
      rotate_left
      · simp only [Act.put, List.setIfInBounds_toArray, List.set_cons_zero, List.set_cons_succ, i64_w, i32_w]
        rfl
      refine one_ (i := 1) (N := some 21) #[true, true, true, false, false, false] rfl rfl (one_of HT_.out (by kernel_rfl)) (by decide) (fun K hK => ?_)
      refine goes_ Tryd.func18 (by kernel_rfl) rfl #[.agg #[.int .i64 s.f0, .int .i64 s.f1, .slice A s.f2.length cp]] (by rfl) rfl rfl (by simp only [List.map_toArray, List.map_cons, List.map_nil]; rfl) ?_
      with_reducible refine (HT1.out _ (HB2.out.trans ((show Below W2.heap.size W2 W2.drew from below_drew1 (Below.refl _ _)).mono HB2.out.size))).mono ?_
      rintro e_ wc1 ⟨va, rfl, hR, hB⟩
      have HBc1 := Aside0.mk (show Below W2.heap.size W2 wc1 from (below_drew1 (Below.refl _ _)).trans hB)
      obtain ⟨Aa, ca, e1_, hca, hCa⟩ := Kd.N_reads hR
      subst e1_
      have HCa := Aside0.mk hCa
      clear hCa hR
      clear hB
      have hkF1 := (HBc1.out.block _ (blk_lt HF2.out)).trans HF2.out
      have hkG1 := (HBc1.out.block _ (blk_lt HG2.out)).trans HG2.out
      have hkL1 := (HBc1.out.block _ (blk_lt HL2.out)).trans HL2.out
      refine ⟨_, rfl, ?_⟩
      refine hK.out _ _ ⟨((blk_cell hkF1 0).trans rfl), ((blk_cell hkF1 1).trans rfl), ((blk_cell hkF1 2).trans rfl), ((blk_cell hkG1 0).trans rfl), ((blk_cell hkG1 1).trans rfl), ((blk_cell hkG1 2).trans rfl), ((blk_cell hkL1 0).trans rfl), ((blk_cell hkL1 1).trans rfl)⟩ (fun hHeld => ?_)
      clear hK K
      refine norm_ (a' := ?_) ?_ ?_
      rotate_left
      · show Act.put _ (some 21) _ = _
        simp only [Act.put, List.setIfInBounds_toArray, List.set_cons_zero, List.set_cons_succ, i64_w, i32_w]
        rfl
      refine one_ (i := 3) (N := some 23) #[true, true, true, true, false, false] rfl rfl (one_of HT_.out (by kernel_rfl)) (by decide) (fun K hK => ?_)
      refine goes_ Tryd.func19 (by kernel_rfl) rfl #[.agg #[.int .i64 s.f0, .int .i64 s.f1, .slice A s.f2.length cp]] (by rfl) rfl rfl (by simp only [List.map_toArray, List.map_cons, List.map_nil]; rfl) ?_
      with_reducible refine (HT2.out _ (HB2.out.trans (HBc1.out.mono HB2.out.size))).mono ?_
      rintro e_ wc3 ⟨vb, rfl, hR, hB⟩
      have HBc3 := Aside0.mk (show Below W2.heap.size W2 wc3 from HBc1.out.trans (hB.mono HBc1.out.size))
      obtain ⟨Ab, cb, e1_, hcb, hCb⟩ := trow_read hR hB
      subst e1_
      have HCb := Aside0.mk hCb
      have HCa := Aside0.mk (Kd.C_below HCa.out hB)
      clear hCb hR
      clear hB
      have hkF3 := (HBc3.out.block _ (blk_lt HF2.out)).trans HF2.out
      have hkG3 := (HBc3.out.block _ (blk_lt HG2.out)).trans HG2.out
      have hkL3 := (HBc3.out.block _ (blk_lt HL2.out)).trans HL2.out
      refine ⟨_, rfl, ?_⟩
      refine hK.out _ _ ⟨((blk_cell hkF3 0).trans rfl), ((blk_cell hkF3 1).trans rfl), ((blk_cell hkF3 2).trans rfl), ((blk_cell hkG3 0).trans rfl), ((blk_cell hkG3 1).trans rfl), ((blk_cell hkG3 2).trans rfl), ((blk_cell hkL3 0).trans rfl), ((blk_cell hkL3 1).trans rfl)⟩ (fun hHeld => ?_)
      clear hK K
      refine norm_ (a' := ?_) ?_ ?_
      rotate_left
      · show Act.put _ (some 23) _ = _
        simp only [Act.put, List.setIfInBounds_toArray, List.set_cons_zero, List.set_cons_succ, i64_w, i32_w]
        rfl
      refine pure_ (i := 4) (N := some 7) (v := ?_) (a' := ?_) #[true, true, true, true, true, false] rfl rfl (any_of HT_.out (by kernel_rfl)) (fun _ _ _ h => h) (Or.inl ⟨by rfl, ?_⟩) ?_ ?_
      rotate_left
      · intro w'
        go_simp
        with_reducible rfl
      rotate_left
      · simp only [Act.put, List.setIfInBounds_toArray, List.set_cons_zero, List.set_cons_succ, i64_w, i32_w]
        rfl
      refine pure_ (i := 5) (N := some 8) (v := ?_) (a' := ?_) #[true, true, true, true, true, true] rfl rfl (any_of HT_.out (by kernel_rfl)) (fun _ _ _ h => h) (Or.inl ⟨by rfl, ?_⟩) ?_ ?_
      rotate_left
      · intro w'
        go_simp
        with_reducible rfl
      rotate_left
      · simp only [Act.put, List.setIfInBounds_toArray, List.set_cons_zero, List.set_cons_succ, i64_w, i32_w]
        rfl
      refine done_ (done_of HT_.out (by kernel_rfl)) ?_
      obtain ⟨W3, rfl⟩ : ∃ W : World, W = wc3 := ⟨_, rfl⟩
      have HBc3n := HBc3
      have HB3 := Aside0.mk (HB2.out.trans (HBc3n.out.mono HB2.out.size))
      have HF3 := Aside0.mk ((HBc3n.out.block _ (blk_lt HF2.out)).trans HF2.out)
      have HG3 := Aside0.mk ((HBc3n.out.block _ (blk_lt HG2.out)).trans HG2.out)
      have HL3 := Aside0.mk ((HBc3n.out.block _ (blk_lt HL2.out)).trans HL2.out)
      clear HT1 HT2
      as_aux_lemma =>
        go_upto_region 4 with fail
        refine start_ (n := 38) (S := fun w' => w'.cell? ⟨w.heap.size, 0, none⟩ = some (.int .i64 s.f0) ∧ w'.cell? ⟨w.heap.size, 1, none⟩ = some (.int .i64 s.f1) ∧ w'.cell? ⟨w.heap.size, 2, none⟩ = some (.slice A s.f2.length cp) ∧ w'.cell? ⟨w.heap.size + 1, 0, none⟩ = some (.int .i64 t.f0) ∧ w'.cell? ⟨w.heap.size + 1, 1, none⟩ = some (.int .i64 t.f1) ∧ w'.cell? ⟨w.heap.size + 1, 2, none⟩ = some (.slice B t.f2.length cq) ∧ w'.cell? ⟨w.heap.size + 1 + 1, 0, none⟩ = some (.slice A1 st.length c1) ∧ w'.cell? ⟨w.heap.size + 1 + 1, 1, none⟩ = some (.slice A2 lp.length c2)) (ds := []) #[false, false, false, false, false, false, false, false, false, false, false, false, false, false, false, false, false, false, false, false, false, false, false, false, false, false, false, false, false, false, false, false, false, false, false, false, false, false] (by kernel_rfl) rfl rfl ⟨((blk_cell HF3.out 0).trans rfl), ((blk_cell HF3.out 1).trans rfl), ((blk_cell HF3.out 2).trans rfl), ((blk_cell HG3.out 0).trans rfl), ((blk_cell HG3.out 1).trans rfl), ((blk_cell HG3.out 2).trans rfl), ((blk_cell HL3.out 0).trans rfl), ((blk_cell HL3.out 1).trans rfl)⟩ (fun hHeld => ?_)
        refine with_tabW ffo.tab4 ffo.bits4 (fun HT_ HW_ => ?_)
        refine pure_ (i := 0) (N := some 24) (v := ?_) (a' := ?_) #[true, false, false, false, false, false, false, false, false, false, false, false, false, false, false, false, false, false, false, false, false, false, false, false, false, false, false, false, false, false, false, false, false, false, false, false, false, false] rfl rfl (any_of HT_.out (by kernel_rfl)) (fun _ _ _ h => h) (Or.inl ⟨by rfl, ?_⟩) ?_ ?_
        rotate_left
        · intro w'
          go_simp
          with_reducible rfl
        rotate_left
        · simp only [Act.put, List.setIfInBounds_toArray, List.set_cons_zero, List.set_cons_succ, i64_w, i32_w]
          rfl
        refine pure_ (i := 1) (N := some 25) (v := ?_) (a' := ?_) #[true, true, false, false, false, false, false, false, false, false, false, false, false, false, false, false, false, false, false, false, false, false, false, false, false, false, false, false, false, false, false, false, false, false, false, false, false, false] rfl rfl (any_of HT_.out (by kernel_rfl)) (fun _ _ _ h => h) (Or.inl ⟨by rfl, ?_⟩) ?_ ?_
        rotate_left
        · intro w'
          go_simp
          with_reducible rfl
        rotate_left
        · simp only [Act.put, List.setIfInBounds_toArray, List.set_cons_zero, List.set_cons_succ, i64_w, i32_w]
          rfl
        refine pure_ (i := 2) (N := some 26) (v := ?_) (a' := ?_) #[true, true, true, false, false, false, false, false, false, false, false, false, false, false, false, false, false, false, false, false, false, false, false, false, false, false, false, false, false, false, false, false, false, false, false, false, false, false] rfl rfl (any_of HT_.out (by kernel_rfl)) (fun _ _ _ h => h) (Or.inl ⟨by rfl, ?_⟩) ?_ ?_
        rotate_left
        · intro w'
          go_simp
          with_reducible rfl
        rotate_left
        · simp only [Act.put, List.setIfInBounds_toArray, List.set_cons_zero, List.set_cons_succ, i64_w, i32_w]
          rfl
        refine pure_ (i := 3) (N := some 27) (v := ?_) (a' := ?_) #[true, true, true, true, false, false, false, false, false, false, false, false, false, false, false, false, false, false, false, false, false, false, false, false, false, false, false, false, false, false, false, false, false, false, false, false, false, false] rfl rfl (any_of HT_.out (by kernel_rfl)) (fun _ _ _ h => h) (Or.inl ⟨by rfl, ?_⟩) ?_ ?_
        rotate_left
        · intro w'
          go_simp
          with_reducible rfl
        rotate_left
        · simp only [Act.put, List.setIfInBounds_toArray, List.set_cons_zero, List.set_cons_succ, i64_w, i32_w]
          rfl
        refine pure_ (i := 4) (N := some 28) (v := ?_) (a' := ?_) #[true, true, true, true, true, false, false, false, false, false, false, false, false, false, false, false, false, false, false, false, false, false, false, false, false, false, false, false, false, false, false, false, false, false, false, false, false, false] rfl rfl (any_of HT_.out (by kernel_rfl)) (fun _ _ _ h => h) (Or.inl ⟨by rfl, ?_⟩) ?_ ?_
        rotate_left
        · intro w'
          go_simp
          with_reducible rfl
        rotate_left
        · simp only [Act.put, List.setIfInBounds_toArray, List.set_cons_zero, List.set_cons_succ, i64_w, i32_w]
          rfl
        refine pure_ (i := 5) (N := some 29) (v := ?_) (a' := ?_) #[true, true, true, true, true, true, false, false, false, false, false, false, false, false, false, false, false, false, false, false, false, false, false, false, false, false, false, false, false, false, false, false, false, false, false, false, false, false] rfl rfl (any_of HT_.out (by kernel_rfl)) (fun _ _ _ h => h) (Or.inl ⟨by rfl, ?_⟩) ?_ ?_
        rotate_left
        · intro w'
          go_simp
          with_reducible rfl
        rotate_left
        · simp only [Act.put, List.setIfInBounds_toArray, List.set_cons_zero, List.set_cons_succ, i64_w, i32_w]
          rfl
        refine take_ (i := 6) (N := some 30) (v := ?_) (a' := ?_) #[true, true, true, true, true, true, true, false, false, false, false, false, false, false, false, false, false, false, false, false, false, false, false, false, false, false, false, false, false, false, false, false, false, false, false, false, false, false] rfl rfl (take_ofW HT_.out HW_.out (by kernel_rfl)) (fun _ _ _ h => h) (Or.inl ⟨by rfl, ?_⟩) hHeld ?_ ?_
        rotate_left
        · rintro w' ⟨s0, s1, s2, s3, s4, s5, s6, s7⟩
          go_simp
          with_reducible rfl
        rotate_left
        · simp only [Act.put, List.setIfInBounds_toArray, List.set_cons_zero, List.set_cons_succ, i64_w, i32_w]
          rfl
        refine take_ (i := 8) (N := some 32) (v := ?_) (a' := ?_) #[true, true, true, true, true, true, true, false, true, false, false, false, false, false, false, false, false, false, false, false, false, false, false, false, false, false, false, false, false, false, false, false, false, false, false, false, false, false] rfl rfl (take_ofW HT_.out HW_.out (by kernel_rfl)) (fun _ _ _ h => h) (Or.inl ⟨by rfl, ?_⟩) hHeld ?_ ?_
        rotate_left
        · rintro w' ⟨s0, s1, s2, s3, s4, s5, s6, s7⟩
          go_simp
          with_reducible rfl
        rotate_left
        · simp only [Act.put, List.setIfInBounds_toArray, List.set_cons_zero, List.set_cons_succ, i64_w, i32_w]
          rfl
        refine one_ (i := 7) (N := some 31) #[true, true, true, true, true, true, true, true, true, false, false, false, false, false, false, false, false, false, false, false, false, false, false, false, false, false, false, false, false, false, false, false, false, false, false, false, false, false] rfl rfl (one_of HT_.out (by kernel_rfl)) (by decide) (fun K hK => ?_)
        refine goes_ Tryd.func13 (by kernel_rfl) rfl #[.agg #[.int .i64 s.f0, .int .i64 s.f1, .slice A s.f2.length cp]] (by rfl) rfl rfl (by simp only [List.map_toArray, List.map_cons, List.map_nil]; rfl) ?_
        with_reducible refine (HM1.out _ (HB3.out.trans ((show Below W3.heap.size W3 W3.drew from below_drew1 (Below.refl _ _)).mono HB3.out.size))).mono ?_
        rintro e_ wc7 ⟨rfl, hB⟩
        have HBc7 := Aside0.mk (show Below W3.heap.size W3 wc7 from (below_drew1 (Below.refl _ _)).trans hB)
        clear hB
        have hkF7 := (HBc7.out.block _ (blk_lt HF3.out)).trans HF3.out
        have hkG7 := (HBc7.out.block _ (blk_lt HG3.out)).trans HG3.out
        have hkL7 := (HBc7.out.block _ (blk_lt HL3.out)).trans HL3.out
        refine ⟨_, rfl, ?_⟩
        refine hK.out _ _ ⟨((blk_cell hkF7 0).trans rfl), ((blk_cell hkF7 1).trans rfl), ((blk_cell hkF7 2).trans rfl), ((blk_cell hkG7 0).trans rfl), ((blk_cell hkG7 1).trans rfl), ((blk_cell hkG7 2).trans rfl), ((blk_cell hkL7 0).trans rfl), ((blk_cell hkL7 1).trans rfl)⟩ (fun hHeld => ?_)
        clear hK K
        refine norm_ (a' := ?_) ?_ ?_
        rotate_left
        · show Act.put _ (some 31) _ = _
          simp only [Act.put, List.setIfInBounds_toArray, List.set_cons_zero, List.set_cons_succ, i64_w, i32_w]
          rfl
        refine one_ (i := 9) (N := some 33) #[true, true, true, true, true, true, true, true, true, true, false, false, false, false, false, false, false, false, false, false, false, false, false, false, false, false, false, false, false, false, false, false, false, false, false, false, false, false] rfl rfl (one_of HT_.out (by kernel_rfl)) (by decide) (fun K hK => ?_)
        refine goes_ Tryd.func20 (by kernel_rfl) rfl #[.agg #[.int .i64 s.f0, .int .i64 s.f1, .slice A s.f2.length cp]] (by rfl) rfl rfl (by simp only [List.map_toArray, List.map_cons, List.map_nil]; rfl) ?_
        with_reducible refine (HM2.out _ (HB3.out.trans (HBc7.out.mono HB3.out.size))).mono ?_
        rintro e_ wc9 ⟨rfl, hB⟩
        have HBc9 := Aside0.mk (show Below W3.heap.size W3 wc9 from HBc7.out.trans (hB.mono HBc7.out.size))
        clear hB
        have hkF9 := (HBc9.out.block _ (blk_lt HF3.out)).trans HF3.out
        have hkG9 := (HBc9.out.block _ (blk_lt HG3.out)).trans HG3.out
        have hkL9 := (HBc9.out.block _ (blk_lt HL3.out)).trans HL3.out
        refine ⟨_, rfl, ?_⟩
        refine hK.out _ _ ⟨((blk_cell hkF9 0).trans rfl), ((blk_cell hkF9 1).trans rfl), ((blk_cell hkF9 2).trans rfl), ((blk_cell hkG9 0).trans rfl), ((blk_cell hkG9 1).trans rfl), ((blk_cell hkG9 2).trans rfl), ((blk_cell hkL9 0).trans rfl), ((blk_cell hkL9 1).trans rfl)⟩ (fun hHeld => ?_)
        clear hK K
        refine norm_ (a' := ?_) ?_ ?_
        rotate_left
        · show Act.put _ (some 33) _ = _
          simp only [Act.put, List.setIfInBounds_toArray, List.set_cons_zero, List.set_cons_succ, i64_w, i32_w]
          rfl
        refine pure_ (i := 10) (N := some 34) (v := ?_) (a' := ?_) #[true, true, true, true, true, true, true, true, true, true, true, false, false, false, false, false, false, false, false, false, false, false, false, false, false, false, false, false, false, false, false, false, false, false, false, false, false, false] rfl rfl (any_of HT_.out (by kernel_rfl)) (fun _ _ _ h => h) (Or.inl ⟨by rfl, ?_⟩) ?_ ?_
        rotate_left
        · intro w'
          go_simp
          with_reducible rfl
        rotate_left
        · simp only [Act.put, List.setIfInBounds_toArray, List.set_cons_zero, List.set_cons_succ, i64_w, i32_w]
          rfl
        refine pure_ (i := 11) (N := some 35) (v := ?_) (a' := ?_) #[true, true, true, true, true, true, true, true, true, true, true, true, false, false, false, false, false, false, false, false, false, false, false, false, false, false, false, false, false, false, false, false, false, false, false, false, false, false] rfl rfl (any_of HT_.out (by kernel_rfl)) (fun _ _ _ h => h) (Or.inl ⟨by rfl, ?_⟩) ?_ ?_
        rotate_left
        · intro w'
          go_simp
          with_reducible rfl
        rotate_left
        · simp only [Act.put, List.setIfInBounds_toArray, List.set_cons_zero, List.set_cons_succ, i64_w, i32_w]
          rfl
        refine pure_ (i := 12) (N := some 36) (v := ?_) (a' := ?_) #[true, true, true, true, true, true, true, true, true, true, true, true, true, false, false, false, false, false, false, false, false, false, false, false, false, false, false, false, false, false, false, false, false, false, false, false, false, false] rfl rfl (any_of HT_.out (by kernel_rfl)) (fun _ _ _ h => h) (Or.inl ⟨by rfl, ?_⟩) ?_ ?_
        rotate_left
        · intro w'
          go_simp
          with_reducible rfl
        rotate_left
        · simp only [Act.put, List.setIfInBounds_toArray, List.set_cons_zero, List.set_cons_succ, i64_w, i32_w]
          rfl
        refine take_ (i := 13) (N := some 37) (v := ?_) (a' := ?_) #[true, true, true, true, true, true, true, true, true, true, true, true, true, true, false, false, false, false, false, false, false, false, false, false, false, false, false, false, false, false, false, false, false, false, false, false, false, false] rfl rfl (take_ofW HT_.out HW_.out (by kernel_rfl)) (fun _ _ _ h => h) (Or.inl ⟨by rfl, ?_⟩) hHeld ?_ ?_
        rotate_left
        · rintro w' ⟨s0, s1, s2, s3, s4, s5, s6, s7⟩
          go_simp
          with_reducible rfl
        rotate_left
        · simp only [Act.put, List.setIfInBounds_toArray, List.set_cons_zero, List.set_cons_succ, i64_w, i32_w]
          rfl
        refine take_ (i := 14) (N := some 38) (v := ?_) (a' := ?_) #[true, true, true, true, true, true, true, true, true, true, true, true, true, true, true, false, false, false, false, false, false, false, false, false, false, false, false, false, false, false, false, false, false, false, false, false, false, false] rfl rfl (take_ofW HT_.out HW_.out (by kernel_rfl)) (fun _ _ _ h => h) (Or.inl ⟨by rfl, ?_⟩) hHeld ?_ ?_
        rotate_left
        · rintro w' ⟨s0, s1, s2, s3, s4, s5, s6, s7⟩
          go_simp
          with_reducible rfl
        rotate_left
        · simp only [Act.put, List.setIfInBounds_toArray, List.set_cons_zero, List.set_cons_succ, i64_w, i32_w]
          rfl
        refine take_ (i := 16) (N := some 40) (v := ?_) (a' := ?_) #[true, true, true, true, true, true, true, true, true, true, true, true, true, true, true, false, true, false, false, false, false, false, false, false, false, false, false, false, false, false, false, false, false, false, false, false, false, false] rfl rfl (take_ofW HT_.out HW_.out (by kernel_rfl)) (fun _ _ _ h => h) (Or.inl ⟨by rfl, ?_⟩) hHeld ?_ ?_
        rotate_left
        · rintro w' ⟨s0, s1, s2, s3, s4, s5, s6, s7⟩
          go_simp
          with_reducible rfl
        rotate_left
        · simp only [Act.put, List.setIfInBounds_toArray, List.set_cons_zero, List.set_cons_succ, i64_w, i32_w]
          rfl
        refine take_ (i := 17) (N := some 41) (v := ?_) (a' := ?_) #[true, true, true, true, true, true, true, true, true, true, true, true, true, true, true, false, true, true, false, false, false, false, false, false, false, false, false, false, false, false, false, false, false, false, false, false, false, false] rfl rfl (take_ofW HT_.out HW_.out (by kernel_rfl)) (fun _ _ _ h => h) (Or.inl ⟨by rfl, ?_⟩) hHeld ?_ ?_
        rotate_left
        · rintro w' ⟨s0, s1, s2, s3, s4, s5, s6, s7⟩
          go_simp
          with_reducible rfl
        rotate_left
        · simp only [Act.put, List.setIfInBounds_toArray, List.set_cons_zero, List.set_cons_succ, i64_w, i32_w]
          rfl
        refine one_ (i := 15) (N := some 39) #[true, true, true, true, true, true, true, true, true, true, true, true, true, true, true, true, true, true, false, false, false, false, false, false, false, false, false, false, false, false, false, false, false, false, false, false, false, false] rfl rfl (one_of HT_.out (by kernel_rfl)) (by decide) (fun K hK => ?_)
        refine goes_ Tryd.func21 (by kernel_rfl) rfl #[.agg #[.int .i64 s.f0, .int .i64 s.f1, .slice A s.f2.length cp], .agg #[.int .i64 t.f0, .int .i64 t.f1, .slice B t.f2.length cq]] (by rfl) rfl rfl (by simp only [List.map_toArray, List.map_cons, List.map_nil]; rfl) ?_
        with_reducible refine (HS1.out _ (HB3.out.trans (HBc9.out.mono HB3.out.size))).mono ?_
        rintro e_ wc15 ⟨rfl, hB⟩
        have HBc15 := Aside0.mk (show Below W3.heap.size W3 wc15 from HBc9.out.trans (hB.mono HBc9.out.size))
        clear hB
        have hkF15 := (HBc15.out.block _ (blk_lt HF3.out)).trans HF3.out
        have hkG15 := (HBc15.out.block _ (blk_lt HG3.out)).trans HG3.out
        have hkL15 := (HBc15.out.block _ (blk_lt HL3.out)).trans HL3.out
        refine ⟨_, rfl, ?_⟩
        refine hK.out _ _ ⟨((blk_cell hkF15 0).trans rfl), ((blk_cell hkF15 1).trans rfl), ((blk_cell hkF15 2).trans rfl), ((blk_cell hkG15 0).trans rfl), ((blk_cell hkG15 1).trans rfl), ((blk_cell hkG15 2).trans rfl), ((blk_cell hkL15 0).trans rfl), ((blk_cell hkL15 1).trans rfl)⟩ (fun hHeld => ?_)
        clear hK K
        refine norm_ (a' := ?_) ?_ ?_
        rotate_left
        · show Act.put _ (some 39) _ = _
          simp only [Act.put, List.setIfInBounds_toArray, List.set_cons_zero, List.set_cons_succ, i64_w, i32_w]
          rfl
        refine one_ (i := 18) (N := some 42) #[true, true, true, true, true, true, true, true, true, true, true, true, true, true, true, true, true, true, true, false, false, false, false, false, false, false, false, false, false, false, false, false, false, false, false, false, false, false] rfl rfl (one_of HT_.out (by kernel_rfl)) (by decide) (fun K hK => ?_)
        refine goes_ Tryd.func22 (by kernel_rfl) rfl #[.agg #[.int .i64 s.f0, .int .i64 s.f1, .slice A s.f2.length cp], .agg #[.int .i64 t.f0, .int .i64 t.f1, .slice B t.f2.length cq]] (by rfl) rfl rfl (by simp only [List.map_toArray, List.map_cons, List.map_nil]; rfl) ?_
        with_reducible refine (HS2.out _ (HB3.out.trans (HBc15.out.mono HB3.out.size))).mono ?_
        rintro e_ wc18 ⟨rfl, hB⟩
        have HBc18 := Aside0.mk (show Below W3.heap.size W3 wc18 from HBc15.out.trans (hB.mono HBc15.out.size))
        clear hB
        have hkF18 := (HBc18.out.block _ (blk_lt HF3.out)).trans HF3.out
        have hkG18 := (HBc18.out.block _ (blk_lt HG3.out)).trans HG3.out
        have hkL18 := (HBc18.out.block _ (blk_lt HL3.out)).trans HL3.out
        refine ⟨_, rfl, ?_⟩
        refine hK.out _ _ ⟨((blk_cell hkF18 0).trans rfl), ((blk_cell hkF18 1).trans rfl), ((blk_cell hkF18 2).trans rfl), ((blk_cell hkG18 0).trans rfl), ((blk_cell hkG18 1).trans rfl), ((blk_cell hkG18 2).trans rfl), ((blk_cell hkL18 0).trans rfl), ((blk_cell hkL18 1).trans rfl)⟩ (fun hHeld => ?_)
        clear hK K
        refine norm_ (a' := ?_) ?_ ?_
        rotate_left
        · show Act.put _ (some 42) _ = _
          simp only [Act.put, List.setIfInBounds_toArray, List.set_cons_zero, List.set_cons_succ, i64_w, i32_w]
          rfl
        refine pure_ (i := 19) (N := some 43) (v := ?_) (a' := ?_) #[true, true, true, true, true, true, true, true, true, true, true, true, true, true, true, true, true, true, true, true, false, false, false, false, false, false, false, false, false, false, false, false, false, false, false, false, false, false] rfl rfl (any_of HT_.out (by kernel_rfl)) (fun _ _ _ h => h) (Or.inl ⟨by rfl, ?_⟩) ?_ ?_
        rotate_left
        · intro w'
          go_simp
          with_reducible rfl
        rotate_left
        · simp only [Act.put, List.setIfInBounds_toArray, List.set_cons_zero, List.set_cons_succ, i64_w, i32_w]
          rfl
        refine pure_ (i := 20) (N := some 44) (v := ?_) (a' := ?_) #[true, true, true, true, true, true, true, true, true, true, true, true, true, true, true, true, true, true, true, true, true, false, false, false, false, false, false, false, false, false, false, false, false, false, false, false, false, false] rfl rfl (any_of HT_.out (by kernel_rfl)) (fun _ _ _ h => h) (Or.inl ⟨by rfl, ?_⟩) ?_ ?_
        rotate_left
        · intro w'
          go_simp
          with_reducible rfl
        rotate_left
        · simp only [Act.put, List.setIfInBounds_toArray, List.set_cons_zero, List.set_cons_succ, i64_w, i32_w]
          rfl
        refine pure_ (i := 21) (N := some 45) (v := ?_) (a' := ?_) #[true, true, true, true, true, true, true, true, true, true, true, true, true, true, true, true, true, true, true, true, true, true, false, false, false, false, false, false, false, false, false, false, false, false, false, false, false, false] rfl rfl (any_of HT_.out (by kernel_rfl)) (fun _ _ _ h => h) (Or.inl ⟨by rfl, ?_⟩) ?_ ?_
        rotate_left
        · intro w'
          go_simp
          with_reducible rfl
        rotate_left
        · simp only [Act.put, List.setIfInBounds_toArray, List.set_cons_zero, List.set_cons_succ, i64_w, i32_w]
          rfl
        refine take_ (i := 22) (N := some 46) (v := ?_) (a' := ?_) #[true, true, true, true, true, true, true, true, true, true, true, true, true, true, true, true, true, true, true, true, true, true, true, false, false, false, false, false, false, false, false, false, false, false, false, false, false, false] rfl rfl (take_ofW HT_.out HW_.out (by kernel_rfl)) (fun _ _ _ h => h) (Or.inl ⟨by rfl, ?_⟩) hHeld ?_ ?_
        rotate_left
        · rintro w' ⟨s0, s1, s2, s3, s4, s5, s6, s7⟩
          go_simp
          with_reducible rfl
        rotate_left
        · simp only [Act.put, List.setIfInBounds_toArray, List.set_cons_zero, List.set_cons_succ, i64_w, i32_w]
          rfl
        refine take_ (i := 24) (N := some 48) (v := ?_) (a' := ?_) #[true, true, true, true, true, true, true, true, true, true, true, true, true, true, true, true, true, true, true, true, true, true, true, false, true, false, false, false, false, false, false, false, false, false, false, false, false, false] rfl rfl (take_ofW HT_.out HW_.out (by kernel_rfl)) (fun _ _ _ h => h) (Or.inl ⟨by rfl, ?_⟩) hHeld ?_ ?_
        rotate_left
        · rintro w' ⟨s0, s1, s2, s3, s4, s5, s6, s7⟩
          go_simp
          with_reducible rfl
        rotate_left
        · simp only [Act.put, List.setIfInBounds_toArray, List.set_cons_zero, List.set_cons_succ, i64_w, i32_w]
          rfl
        refine one_ (i := 23) (N := some 47) #[true, true, true, true, true, true, true, true, true, true, true, true, true, true, true, true, true, true, true, true, true, true, true, true, true, false, false, false, false, false, false, false, false, false, false, false, false, false] rfl rfl (one_of HT_.out (by kernel_rfl)) (by decide) (fun K hK => ?_)
        refine goes_ Tryd.func14 (by kernel_rfl) rfl #[.agg #[.slice A1 st.length c1, .slice A2 lp.length c2]] (by rfl) rfl rfl (by simp only [List.map_toArray, List.map_cons, List.map_nil]; rfl) ?_
        with_reducible refine (HW1.out _ (HB3.out.trans (HBc18.out.mono HB3.out.size))).mono ?_
        rintro e_ wc23 ⟨rfl, hB⟩
        have HBc23 := Aside0.mk (show Below W3.heap.size W3 wc23 from HBc18.out.trans (hB.mono HBc18.out.size))
        clear hB
        have hkF23 := (HBc23.out.block _ (blk_lt HF3.out)).trans HF3.out
        have hkG23 := (HBc23.out.block _ (blk_lt HG3.out)).trans HG3.out
        have hkL23 := (HBc23.out.block _ (blk_lt HL3.out)).trans HL3.out
        refine ⟨_, rfl, ?_⟩
        refine hK.out _ _ ⟨((blk_cell hkF23 0).trans rfl), ((blk_cell hkF23 1).trans rfl), ((blk_cell hkF23 2).trans rfl), ((blk_cell hkG23 0).trans rfl), ((blk_cell hkG23 1).trans rfl), ((blk_cell hkG23 2).trans rfl), ((blk_cell hkL23 0).trans rfl), ((blk_cell hkL23 1).trans rfl)⟩ (fun hHeld => ?_)
        clear hK K
        refine norm_ (a' := ?_) ?_ ?_
        rotate_left
        · show Act.put _ (some 47) _ = _
          simp only [Act.put, List.setIfInBounds_toArray, List.set_cons_zero, List.set_cons_succ, i64_w, i32_w]
          rfl
        refine one_ (i := 25) (N := some 49) #[true, true, true, true, true, true, true, true, true, true, true, true, true, true, true, true, true, true, true, true, true, true, true, true, true, true, false, false, false, false, false, false, false, false, false, false, false, false] rfl rfl (one_of HT_.out (by kernel_rfl)) (by decide) (fun K hK => ?_)
        refine goes_ Tryd.func23 (by kernel_rfl) rfl #[.agg #[.slice A1 st.length c1, .slice A2 lp.length c2]] (by rfl) rfl rfl (by simp only [List.map_toArray, List.map_cons, List.map_nil]; rfl) ?_
        with_reducible refine (HW2.out _ (HB3.out.trans (HBc23.out.mono HB3.out.size))).mono ?_
        rintro e_ wc25 ⟨rfl, hB⟩
        have HBc25 := Aside0.mk (show Below W3.heap.size W3 wc25 from HBc23.out.trans (hB.mono HBc23.out.size))
        clear hB
        have hkF25 := (HBc25.out.block _ (blk_lt HF3.out)).trans HF3.out
        have hkG25 := (HBc25.out.block _ (blk_lt HG3.out)).trans HG3.out
        have hkL25 := (HBc25.out.block _ (blk_lt HL3.out)).trans HL3.out
        refine ⟨_, rfl, ?_⟩
        refine hK.out _ _ ⟨((blk_cell hkF25 0).trans rfl), ((blk_cell hkF25 1).trans rfl), ((blk_cell hkF25 2).trans rfl), ((blk_cell hkG25 0).trans rfl), ((blk_cell hkG25 1).trans rfl), ((blk_cell hkG25 2).trans rfl), ((blk_cell hkL25 0).trans rfl), ((blk_cell hkL25 1).trans rfl)⟩ (fun hHeld => ?_)
        clear hK K
        refine norm_ (a' := ?_) ?_ ?_
        rotate_left
        · show Act.put _ (some 49) _ = _
          simp only [Act.put, List.setIfInBounds_toArray, List.set_cons_zero, List.set_cons_succ, i64_w, i32_w]
          rfl
        refine pure_ (i := 26) (N := some 50) (v := ?_) (a' := ?_) #[true, true, true, true, true, true, true, true, true, true, true, true, true, true, true, true, true, true, true, true, true, true, true, true, true, true, true, false, false, false, false, false, false, false, false, false, false, false] rfl rfl (any_of HT_.out (by kernel_rfl)) (fun _ _ _ h => h) (Or.inl ⟨by rfl, ?_⟩) ?_ ?_
        rotate_left
        · intro w'
          go_simp
          with_reducible rfl
        rotate_left
        · simp only [Act.put, List.setIfInBounds_toArray, List.set_cons_zero, List.set_cons_succ, i64_w, i32_w]
          rfl
        refine pure_ (i := 27) (N := some 51) (v := ?_) (a' := ?_) #[true, true, true, true, true, true, true, true, true, true, true, true, true, true, true, true, true, true, true, true, true, true, true, true, true, true, true, true, false, false, false, false, false, false, false, false, false, false] rfl rfl (any_of HT_.out (by kernel_rfl)) (fun _ _ _ h => h) (Or.inl ⟨by rfl, ?_⟩) ?_ ?_
        rotate_left
        · intro w'
          go_simp
          with_reducible rfl
        rotate_left
        · simp only [Act.put, List.setIfInBounds_toArray, List.set_cons_zero, List.set_cons_succ, i64_w, i32_w]
          rfl
        refine pure_ (i := 28) (N := some 52) (v := ?_) (a' := ?_) #[true, true, true, true, true, true, true, true, true, true, true, true, true, true, true, true, true, true, true, true, true, true, true, true, true, true, true, true, true, false, false, false, false, false, false, false, false, false] rfl rfl (any_of HT_.out (by kernel_rfl)) (fun _ _ _ h => h) (Or.inl ⟨by rfl, ?_⟩) ?_ ?_
        rotate_left
        · intro w'
          go_simp
          with_reducible rfl
        rotate_left
        · simp only [Act.put, List.setIfInBounds_toArray, List.set_cons_zero, List.set_cons_succ, i64_w, i32_w]
          rfl
        refine take_ (i := 29) (N := some 53) (v := ?_) (a' := ?_) #[true, true, true, true, true, true, true, true, true, true, true, true, true, true, true, true, true, true, true, true, true, true, true, true, true, true, true, true, true, true, false, false, false, false, false, false, false, false] rfl rfl (take_ofW HT_.out HW_.out (by kernel_rfl)) (fun _ _ _ h => h) (Or.inl ⟨by rfl, ?_⟩) hHeld ?_ ?_
        rotate_left
        · rintro w' ⟨s0, s1, s2, s3, s4, s5, s6, s7⟩
          go_simp
          with_reducible rfl
        rotate_left
        · simp only [Act.put, List.setIfInBounds_toArray, List.set_cons_zero, List.set_cons_succ, i64_w, i32_w]
          rfl
        refine take_ (i := 30) (N := some 54) (v := ?_) (a' := ?_) #[true, true, true, true, true, true, true, true, true, true, true, true, true, true, true, true, true, true, true, true, true, true, true, true, true, true, true, true, true, true, true, false, false, false, false, false, false, false] rfl rfl (take_ofW HT_.out HW_.out (by kernel_rfl)) (fun _ _ _ h => h) (Or.inl ⟨by rfl, ?_⟩) hHeld ?_ ?_
        rotate_left
        · rintro w' ⟨s0, s1, s2, s3, s4, s5, s6, s7⟩
          go_simp
          with_reducible rfl
        rotate_left
        · simp only [Act.put, List.setIfInBounds_toArray, List.set_cons_zero, List.set_cons_succ, i64_w, i32_w]
          rfl
        refine take_ (i := 32) (N := some 56) (v := ?_) (a' := ?_) #[true, true, true, true, true, true, true, true, true, true, true, true, true, true, true, true, true, true, true, true, true, true, true, true, true, true, true, true, true, true, true, false, true, false, false, false, false, false] rfl rfl (take_ofW HT_.out HW_.out (by kernel_rfl)) (fun _ _ _ h => h) (Or.inl ⟨by rfl, ?_⟩) hHeld ?_ ?_
        rotate_left
        · rintro w' ⟨s0, s1, s2, s3, s4, s5, s6, s7⟩
          go_simp
          with_reducible rfl
        rotate_left
        · simp only [Act.put, List.setIfInBounds_toArray, List.set_cons_zero, List.set_cons_succ, i64_w, i32_w]
          rfl
        refine take_ (i := 33) (N := some 57) (v := ?_) (a' := ?_) #[true, true, true, true, true, true, true, true, true, true, true, true, true, true, true, true, true, true, true, true, true, true, true, true, true, true, true, true, true, true, true, false, true, true, false, false, false, false] rfl rfl (take_ofW HT_.out HW_.out (by kernel_rfl)) (fun _ _ _ h => h) (Or.inl ⟨by rfl, ?_⟩) hHeld ?_ ?_
        rotate_left
        · rintro w' ⟨s0, s1, s2, s3, s4, s5, s6, s7⟩
          go_simp
          with_reducible rfl
        rotate_left
        · simp only [Act.put, List.setIfInBounds_toArray, List.set_cons_zero, List.set_cons_succ, i64_w, i32_w]
          rfl
        refine one_ (i := 31) (N := some 55) #[true, true, true, true, true, true, true, true, true, true, true, true, true, true, true, true, true, true, true, true, true, true, true, true, true, true, true, true, true, true, true, true, true, true, false, false, false, false] rfl rfl (one_of HT_.out (by kernel_rfl)) (by decide) (fun K hK => ?_)
        refine goes_ Tryd.func15 (by kernel_rfl) rfl #[.agg #[.int .i64 s.f0, .int .i64 s.f1, .slice A s.f2.length cp], .agg #[.slice A1 st.length c1, .slice A2 lp.length c2]] (by rfl) rfl rfl (by simp only [List.map_toArray, List.map_cons, List.map_nil]; rfl) ?_
        with_reducible refine (HR1.out _ (HB3.out.trans (HBc25.out.mono HB3.out.size))).mono ?_
        rintro e_ wc31 ⟨v7, rfl, hR, hB⟩
        have HBc31 := Aside0.mk (show Below W3.heap.size W3 wc31 from HBc25.out.trans (hB.mono HBc25.out.size))
        obtain ⟨A7, c7, e1_, hc7, hC_⟩ := Kd.R_reads hR
        subst e1_
        have HC7 := Aside0.mk hC_
        clear hC_ hR
        clear hB
        have hkF31 := (HBc31.out.block _ (blk_lt HF3.out)).trans HF3.out
        have hkG31 := (HBc31.out.block _ (blk_lt HG3.out)).trans HG3.out
        have hkL31 := (HBc31.out.block _ (blk_lt HL3.out)).trans HL3.out
        refine ⟨_, rfl, ?_⟩
        refine hK.out _ _ ⟨((blk_cell hkF31 0).trans rfl), ((blk_cell hkF31 1).trans rfl), ((blk_cell hkF31 2).trans rfl), ((blk_cell hkG31 0).trans rfl), ((blk_cell hkG31 1).trans rfl), ((blk_cell hkG31 2).trans rfl), ((blk_cell hkL31 0).trans rfl), ((blk_cell hkL31 1).trans rfl)⟩ (fun hHeld => ?_)
        clear hK K
        refine norm_ (a' := ?_) ?_ ?_
        rotate_left
        · show Act.put _ (some 55) _ = _
          simp only [Act.put, List.setIfInBounds_toArray, List.set_cons_zero, List.set_cons_succ, i64_w, i32_w]
          rfl
        refine one_ (i := 34) (N := some 58) #[true, true, true, true, true, true, true, true, true, true, true, true, true, true, true, true, true, true, true, true, true, true, true, true, true, true, true, true, true, true, true, true, true, true, true, false, false, false] rfl rfl (one_of HT_.out (by kernel_rfl)) (by decide) (fun K hK => ?_)
        refine goes_ Tryd.func24 (by kernel_rfl) rfl #[.agg #[.int .i64 s.f0, .int .i64 s.f1, .slice A s.f2.length cp], .agg #[.slice A1 st.length c1, .slice A2 lp.length c2]] (by rfl) rfl rfl (by simp only [List.map_toArray, List.map_cons, List.map_nil]; rfl) ?_
        with_reducible refine (HR2.out _ (HB3.out.trans (HBc31.out.mono HB3.out.size))).mono ?_
        rintro e_ wc34 ⟨v8, rfl, hR, hB⟩
        have HBc34 := Aside0.mk (show Below W3.heap.size W3 wc34 from HBc31.out.trans (hB.mono HBc31.out.size))
        obtain ⟨A8, c8, e1_, hc8, hC_⟩ := Kd.R_reads hR
        subst e1_
        have HC8 := Aside0.mk hC_
        clear hC_ hR
        have HC7 := Aside0.mk (Kd.C_below HC7.out hB)
        clear hB
        have hkF34 := (HBc34.out.block _ (blk_lt HF3.out)).trans HF3.out
        have hkG34 := (HBc34.out.block _ (blk_lt HG3.out)).trans HG3.out
        have hkL34 := (HBc34.out.block _ (blk_lt HL3.out)).trans HL3.out
        refine ⟨_, rfl, ?_⟩
        refine hK.out _ _ ⟨((blk_cell hkF34 0).trans rfl), ((blk_cell hkF34 1).trans rfl), ((blk_cell hkF34 2).trans rfl), ((blk_cell hkG34 0).trans rfl), ((blk_cell hkG34 1).trans rfl), ((blk_cell hkG34 2).trans rfl), ((blk_cell hkL34 0).trans rfl), ((blk_cell hkL34 1).trans rfl)⟩ (fun hHeld => ?_)
        clear hK K
        refine norm_ (a' := ?_) ?_ ?_
        rotate_left
        · show Act.put _ (some 58) _ = _
          simp only [Act.put, List.setIfInBounds_toArray, List.set_cons_zero, List.set_cons_succ, i64_w, i32_w]
          rfl
        refine one_ (i := 35) (N := some 59) #[true, true, true, true, true, true, true, true, true, true, true, true, true, true, true, true, true, true, true, true, true, true, true, true, true, true, true, true, true, true, true, true, true, true, true, true, false, false] rfl rfl (one_of HT_.out (by kernel_rfl)) (by decide) (fun K hK => ?_)
        refine goes_ Tryd.func16 (by kernel_rfl) rfl #[.slice A7 R.length c7, .slice A8 R.length c8] (by rfl) rfl rfl (by simp only [List.map_toArray, List.map_cons, List.map_nil]; rfl) ?_
        with_reducible refine (same_row_calls R A7 A8 c7 c8 _ HC7.out hc7 HC8.out hc8 HRS.out).mono ?_
        rintro e_ wc35 ⟨rfl, hB⟩
        have HBc35 := Aside0.mk (show Below W3.heap.size W3 wc35 from HBc34.out.trans (hB.mono HBc34.out.size))
        clear hB
        have hkF35 := (HBc35.out.block _ (blk_lt HF3.out)).trans HF3.out
        have hkG35 := (HBc35.out.block _ (blk_lt HG3.out)).trans HG3.out
        have hkL35 := (HBc35.out.block _ (blk_lt HL3.out)).trans HL3.out
        refine ⟨_, rfl, ?_⟩
        refine hK.out _ _ ⟨((blk_cell hkF35 0).trans rfl), ((blk_cell hkF35 1).trans rfl), ((blk_cell hkF35 2).trans rfl), ((blk_cell hkG35 0).trans rfl), ((blk_cell hkG35 1).trans rfl), ((blk_cell hkG35 2).trans rfl), ((blk_cell hkL35 0).trans rfl), ((blk_cell hkL35 1).trans rfl)⟩ (fun hHeld => ?_)
        clear hK K
        refine norm_ (a' := ?_) ?_ ?_
        rotate_left
        · show Act.put _ (some 59) _ = _
          simp only [Act.put, List.setIfInBounds_toArray, List.set_cons_zero, List.set_cons_succ, i64_w, i32_w]
          rfl
        refine pure_ (i := 36) (N := some 60) (v := ?_) (a' := ?_) #[true, true, true, true, true, true, true, true, true, true, true, true, true, true, true, true, true, true, true, true, true, true, true, true, true, true, true, true, true, true, true, true, true, true, true, true, true, false] rfl rfl (any_of HT_.out (by kernel_rfl)) (fun _ _ _ h => h) (Or.inl ⟨by rfl, ?_⟩) ?_ ?_
        rotate_left
        · intro w'
          go_simp
          with_reducible rfl
        rotate_left
        · simp only [Act.put, List.setIfInBounds_toArray, List.set_cons_zero, List.set_cons_succ, i64_w, i32_w]
          rfl
        refine pure_ (i := 37) (N := some 61) (v := ?_) (a' := ?_) #[true, true, true, true, true, true, true, true, true, true, true, true, true, true, true, true, true, true, true, true, true, true, true, true, true, true, true, true, true, true, true, true, true, true, true, true, true, true] rfl rfl (any_of HT_.out (by kernel_rfl)) (fun _ _ _ h => h) (Or.inl ⟨by rfl, ?_⟩) ?_ ?_
        rotate_left
        · intro w'
          go_simp
          with_reducible rfl
        rotate_left
        · simp only [Act.put, List.setIfInBounds_toArray, List.set_cons_zero, List.set_cons_succ, i64_w, i32_w]
          rfl
        refine done_ (done_of HT_.out (by kernel_rfl)) ?_
        obtain ⟨W4, rfl⟩ : ∃ W : World, W = wc35 := ⟨_, rfl⟩
        have HBc35n := HBc35
        have HB4 := Aside0.mk (HB3.out.trans (HBc35n.out.mono HB3.out.size))
        have HF4 := Aside0.mk ((HBc35n.out.block _ (blk_lt HF3.out)).trans HF3.out)
        have HL4 := Aside0.mk ((HBc35n.out.block _ (blk_lt HL3.out)).trans HL3.out)
        have HCa4 := Aside0.mk (Kd.C_below HCa.out HBc35n.out)
        have HCb4 := Aside0.mk (Kd.C_below HCb.out HBc35n.out)
        clear HM1 HS1 HS2 HW1 HW2 HR1 HR2 HC7 HC8 HCa HCb
        as_aux_lemma =>
          go_wp2
          go_loopg [64] TL.length (fun kq v64 w' => ∃ j : Nat, j + kq = TL.length ∧ v64 = .int .i64 j ∧ Aside0 (Below W4.heap.size W4 w'))
          case atStart => exact ⟨0, by omega, rfl, ⟨Below.refl _ _⟩⟩
          case round =>
            as_aux_lemma =>
              obtain ⟨WW, rfl⟩ : ∃ W : World, W = wr := ⟨_, rfl⟩
              obtain ⟨j, hj, rfl, HBj⟩ := hrel
              have HJ := Aside0.mk hj
              have hmax := Kd.C_max HCa4.out
              clear hj
              by_cases hlt : j < TL.length
              · obtain ⟨ada, A5, c5, e0, hx0, hx1, hx2, hl5, hk5⟩ := kid_at HCa4.out HBj.out j hlt hlt
                obtain ⟨adb, A6, c6, e1, hy0, hy1, hy2, hl6, hk6⟩ := kid_at HCb4.out HBj.out j hlt hlt
                cases e0
                cases e1
                have hxx := HTS.out _ (List.getElem_mem hlt)
                obtain ⟨x, hx⟩ : ∃ x, x = TL[j]'hlt := ⟨_, rfl⟩
                rw [← hx] at hx0 hx1 hx2 hy0 hy1 hy2 hl5 hk5 hl6 hk6 hxx
                clear hx
                have hse := rSame_ev x x
                rw [hxx] at hse
                obtain ⟨kq9, hkq9⟩ := hse.rounds
                have HCALL := Aside0.mk (parryref22_Same.calls kq9 x.f0 x.f1 A5 c5 x.f2 x.f0 x.f1 A6 c6 x.f2 true WW.drew (Kd.C_below hk5 (below_drew1 HBj.out)) hl5 (Kd.C_below hk6 (below_drew1 HBj.out)) hl6 hkq9)
                clear hk5 hk6 hl5 hl6 hxx hse hkq9
                go_upto_region 9 with fail
                refine start_ (n := 10) (S := fun w' => w'.cell? (ada.add (j * 3)) = some (.int .i64 x.f0) ∧ w'.cell? ⟨(ada.add (j * 3)).block, (ada.add (j * 3)).off + 1, none⟩ = some (.int .i64 x.f1) ∧ w'.cell? ⟨(ada.add (j * 3)).block, (ada.add (j * 3)).off + 2, none⟩ = some (.slice A5 x.f2.length c5) ∧ w'.cell? (adb.add (j * 3)) = some (.int .i64 x.f0) ∧ w'.cell? ⟨(adb.add (j * 3)).block, (adb.add (j * 3)).off + 1, none⟩ = some (.int .i64 x.f1) ∧ w'.cell? ⟨(adb.add (j * 3)).block, (adb.add (j * 3)).off + 2, none⟩ = some (.slice A6 x.f2.length c6)) (ds := []) #[false, false, false, false, false, false, false, false, false, false] (by kernel_rfl) rfl rfl ⟨hx0, hx1, hx2, hy0, hy1, hy2⟩ (fun hHeld => ?_)
                refine with_tabW ffo.tab9 ffo.bits9 (fun HT_ HW_ => ?_)
                refine pure_ (i := 0) (N := some 67) (v := ?_) (a' := ?_) #[true, false, false, false, false, false, false, false, false, false] rfl rfl (any_of HT_.out (by kernel_rfl)) (fun _ _ _ h => h) (Or.inl ⟨by rfl, ?_⟩) ?_ ?_
                rotate_left
                · intro w'
                  go_simp
                  with_reducible rfl
                rotate_left
                · simp only [Act.put, List.setIfInBounds_toArray, List.set_cons_zero, List.set_cons_succ, i64_w, i32_w]
                  rfl
                refine pure_ (i := 1) (N := some 68) (v := ?_) (a' := ?_) #[true, true, false, false, false, false, false, false, false, false] rfl rfl (any_of HT_.out (by kernel_rfl)) (fun _ _ _ h => h) (Or.inl ⟨by rfl, ?_⟩) ?_ ?_
                rotate_left
                · intro w'
                  go_simp
                  with_reducible rfl
                rotate_left
                · simp only [Act.put, List.setIfInBounds_toArray, List.set_cons_zero, List.set_cons_succ, i64_w, i32_w]
                  rfl
                refine pure_ (i := 2) (N := some 69) (v := ?_) (a' := ?_) #[true, true, true, false, false, false, false, false, false, false] rfl rfl (any_of HT_.out (by kernel_rfl)) (fun _ _ _ h => h) (Or.inl ⟨by rfl, ?_⟩) ?_ ?_
                rotate_left
                · intro w'
                  go_simp
                  with_reducible rfl
                rotate_left
                · simp only [Act.put, List.setIfInBounds_toArray, List.set_cons_zero, List.set_cons_succ, i64_w, i32_w]
                  rfl
                refine pure_ (i := 4) (N := some 71) (v := ?_) (a' := ?_) #[true, true, true, false, true, false, false, false, false, false] rfl rfl (any_of HT_.out (by kernel_rfl)) (fun _ _ _ h => h) (Or.inl ⟨by rfl, ?_⟩) ?_ ?_
                rotate_left
                · intro w'
                  go_simp
                  with_reducible rfl
                rotate_left
                · simp only [Act.put, List.setIfInBounds_toArray, List.set_cons_zero, List.set_cons_succ, i64_w, i32_w]
                  rfl
                refine pure_ (i := 5) (N := some 72) (v := ?_) (a' := ?_) #[true, true, true, false, true, true, false, false, false, false] rfl rfl (any_of HT_.out (by kernel_rfl)) (fun _ _ _ h => h) (Or.inl ⟨by rfl, ?_⟩) ?_ ?_
                rotate_left
                · intro w'
                  go_simp
                  with_reducible rfl
                rotate_left
                · simp only [Act.put, List.setIfInBounds_toArray, List.set_cons_zero, List.set_cons_succ, i64_w, i32_w]
                  rfl
                refine pure_ (i := 6) (N := some 73) (v := ?_) (a' := ?_) #[true, true, true, false, true, true, true, false, false, false] rfl rfl (any_of HT_.out (by kernel_rfl)) (fun _ _ _ h => h) (Or.inl ⟨by rfl, ?_⟩) ?_ ?_
                rotate_left
                · intro w'
                  go_simp
                  with_reducible rfl
                rotate_left
                · simp only [Act.put, List.setIfInBounds_toArray, List.set_cons_zero, List.set_cons_succ, i64_w, i32_w]
                  rfl
                refine take_ (i := 3) (N := some 70) (v := ?_) (a' := ?_) #[true, true, true, true, true, true, true, false, false, false] rfl rfl (take_ofW HT_.out HW_.out (by kernel_rfl)) (fun _ _ _ h => h) (Or.inl ⟨by rfl, ?_⟩) hHeld ?_ ?_
                rotate_left
                · rintro w' ⟨s0, s1, s2, s3, s4, s5⟩
                  go_simp
                  with_reducible rfl
                rotate_left
                · simp only [Act.put, List.setIfInBounds_toArray, List.set_cons_zero, List.set_cons_succ, i64_w, i32_w]
                  rfl
                refine take_ (i := 7) (N := some 74) (v := ?_) (a' := ?_) #[true, true, true, true, true, true, true, true, false, false] rfl rfl (take_ofW HT_.out HW_.out (by kernel_rfl)) (fun _ _ _ h => h) (Or.inl ⟨by rfl, ?_⟩) hHeld ?_ ?_
                rotate_left
                · rintro w' ⟨s0, s1, s2, s3, s4, s5⟩
                  go_simp
                  with_reducible rfl
                rotate_left
                · simp only [Act.put, List.setIfInBounds_toArray, List.set_cons_zero, List.set_cons_succ, i64_w, i32_w]
                  rfl
                refine one_ (i := 8) (N := some 75) #[true, true, true, true, true, true, true, true, true, false] rfl rfl (one_of HT_.out (by kernel_rfl)) (by decide) (fun K hK => ?_)
                refine goes_ Tryd.func22 (by kernel_rfl) rfl #[.agg #[.int .i64 x.f0, .int .i64 x.f1, .slice A5 x.f2.length c5], .agg #[.int .i64 x.f0, .int .i64 x.f1, .slice A6 x.f2.length c6]] (by rfl) rfl rfl (by simp only [List.map_toArray, List.map_cons, List.map_nil]; rfl) ?_
                with_reducible refine (HCALL.out).mono ?_
                rintro e_ wc8 ⟨rfl, hB⟩
                have HBc8 := Aside0.mk (show Below WW.heap.size WW wc8 from (below_drew1 (Below.refl _ _)).trans hB)
                clear hB
                refine ⟨_, rfl, ?_⟩
                refine hK.out _ _ ⟨((HBc8.out.cell (World.block_lt_of_cell? WW _ hx0)).trans hx0), ((HBc8.out.cell (World.block_lt_of_cell? WW _ hx1)).trans hx1), ((HBc8.out.cell (World.block_lt_of_cell? WW _ hx2)).trans hx2), ((HBc8.out.cell (World.block_lt_of_cell? WW _ hy0)).trans hy0), ((HBc8.out.cell (World.block_lt_of_cell? WW _ hy1)).trans hy1), ((HBc8.out.cell (World.block_lt_of_cell? WW _ hy2)).trans hy2)⟩ (fun hHeld => ?_)
                clear hK K
                refine norm_ (a' := ?_) ?_ ?_
                rotate_left
                · show Act.put _ (some 75) _ = _
                  simp only [Act.put, List.setIfInBounds_toArray, List.set_cons_zero, List.set_cons_succ, i64_w, i32_w]
                  rfl
                refine pure_ (i := 9) (N := some 76) (v := ?_) (a' := ?_) #[true, true, true, true, true, true, true, true, true, true] rfl rfl (any_of HT_.out (by kernel_rfl)) (fun _ _ _ h => h) (Or.inl ⟨by rfl, ?_⟩) ?_ ?_
                rotate_left
                · intro w'
                  go_simp
                  with_reducible rfl
                rotate_left
                · simp only [Act.put, List.setIfInBounds_toArray, List.set_cons_zero, List.set_cons_succ, i64_w, i32_w]
                  rfl
                refine done_ (done_of HT_.out (by kernel_rfl)) ?_
                go_wp2
                go_roundg (gk - 1)
                case measure => have := HJ.out; omega
                case rel => exact ⟨j + 1, by have := HJ.out; omega, by go_num, ⟨HBj.out.trans (HBc8.out.mono HBj.out.size)⟩⟩
              · obtain ⟨W5, rfl⟩ : ∃ W : World, W = WW := ⟨_, rfl⟩
                have HB5 := Aside0.mk (HB4.out.trans (HBj.out.mono HB4.out.size))
                have HBj5 := HBj
                have HF5 := Aside0.mk ((HBj5.out.block _ (blk_lt HF4.out)).trans HF4.out)
                have HL5 := Aside0.mk ((HBj5.out.block _ (blk_lt HL4.out)).trans HL4.out)
                clear HTS HCa4 HCb4 hmax HJ
                by_cases em : m = 0
                · have bm : (m != 0) = false := by rw [em]; rfl
                  obtain ⟨kn, hkn⟩ := (HNE.out em).rounds
                  have HN1 := Aside0.mk (fun W (h : Below w.heap.size w W) => formula_Not.calls kn s.f0 s.f1 A cp s.f2 NS.f0 NS.f1 NS.f2 W (HCK.out W h) hc hkn)
                  have hse := rSame_ev NS NS
                  obtain ⟨bn, hbn⟩ : ∃ b, b = sameF NS NS := ⟨_, rfl⟩
                  rw [← hbn] at hse
                  obtain ⟨kN, hkN⟩ := hse.rounds
                  have HKN := Aside0.mk hkN
                  obtain ⟨kQ, hkQ⟩ := (rMay_ev NS).rounds
                  obtain ⟨mn, hmn⟩ : ∃ m, m = mayF NS := ⟨_, rfl⟩
                  rw [← hmn] at hkQ
                  have HKQ := Aside0.mk hkQ
                  have hor : bn = true ∨ mn ≠ 0 := by
                    cases hl : lightS NS with
                    | true => exact .inl (hbn.trans (HNZ.out em hl))
                    | false => exact .inr (fun h => HBIG.out hl (hmn.symm.trans h))
                  clear hkn hse hbn hkN hkQ hmn HNE HCK HNZ HBIG em
                  cases bn with
                  | true =>
                    clear hor
                    as_aux_lemma =>
                      go_upto_region 12 with fail
                      refine start_ (n := 36) (S := fun w' => w'.cell? ⟨w.heap.size, 0, none⟩ = some (.int .i64 s.f0) ∧ w'.cell? ⟨w.heap.size, 1, none⟩ = some (.int .i64 s.f1) ∧ w'.cell? ⟨w.heap.size, 2, none⟩ = some (.slice A s.f2.length cp) ∧ w'.cell? ⟨w.heap.size + 1 + 1, 0, none⟩ = some (.slice A1 st.length c1) ∧ w'.cell? ⟨w.heap.size + 1 + 1, 1, none⟩ = some (.slice A2 lp.length c2)) (ds := []) #[false, false, false, false, false, false, false, false, false, false, false, false, false, false, false, false, false, false, false, false, false, false, false, false, false, false, false, false, false, false, false, false, false, false, false, false] (by kernel_rfl) rfl rfl ⟨((blk_cell HF5.out 0).trans rfl), ((blk_cell HF5.out 1).trans rfl), ((blk_cell HF5.out 2).trans rfl), ((blk_cell HL5.out 0).trans rfl), ((blk_cell HL5.out 1).trans rfl)⟩ (fun hHeld => ?_)
                      refine with_tabW ffo.tab12 ffo.bits12 (fun HT_ HW_ => ?_)
                      refine take_ (i := 0) (N := some 78) (v := ?_) (a' := ?_) #[true, false, false, false, false, false, false, false, false, false, false, false, false, false, false, false, false, false, false, false, false, false, false, false, false, false, false, false, false, false, false, false, false, false, false, false] rfl rfl (take_ofW HT_.out HW_.out (by kernel_rfl)) (fun _ _ _ h => h) (Or.inl ⟨by rfl, ?_⟩) hHeld ?_ ?_
                      rotate_left
                      · rintro w' ⟨s0, s1, s2, s3, s4⟩
                        go_simp
                        with_reducible rfl
                      rotate_left
                      · simp only [Act.put, List.setIfInBounds_toArray, List.set_cons_zero, List.set_cons_succ, i64_w, i32_w]
                        rfl
                      refine take_ (i := 1) (N := some 79) (v := ?_) (a' := ?_) #[true, true, false, false, false, false, false, false, false, false, false, false, false, false, false, false, false, false, false, false, false, false, false, false, false, false, false, false, false, false, false, false, false, false, false, false] rfl rfl (take_ofW HT_.out HW_.out (by kernel_rfl)) (fun _ _ _ h => h) (Or.inl ⟨by rfl, ?_⟩) hHeld ?_ ?_
                      rotate_left
                      · rintro w' ⟨s0, s1, s2, s3, s4⟩
                        go_simp
                        with_reducible rfl
                      rotate_left
                      · simp only [Act.put, List.setIfInBounds_toArray, List.set_cons_zero, List.set_cons_succ, i64_w, i32_w]
                        rfl
                      refine take_ (i := 3) (N := some 81) (v := ?_) (a' := ?_) #[true, true, false, true, false, false, false, false, false, false, false, false, false, false, false, false, false, false, false, false, false, false, false, false, false, false, false, false, false, false, false, false, false, false, false, false] rfl rfl (take_ofW HT_.out HW_.out (by kernel_rfl)) (fun _ _ _ h => h) (Or.inl ⟨by rfl, ?_⟩) hHeld ?_ ?_
                      rotate_left
                      · rintro w' ⟨s0, s1, s2, s3, s4⟩
                        go_simp
                        with_reducible rfl
                      rotate_left
                      · simp only [Act.put, List.setIfInBounds_toArray, List.set_cons_zero, List.set_cons_succ, i64_w, i32_w]
                        rfl
                      refine take_ (i := 4) (N := some 82) (v := ?_) (a' := ?_) #[true, true, false, true, true, false, false, false, false, false, false, false, false, false, false, false, false, false, false, false, false, false, false, false, false, false, false, false, false, false, false, false, false, false, false, false] rfl rfl (take_ofW HT_.out HW_.out (by kernel_rfl)) (fun _ _ _ h => h) (Or.inl ⟨by rfl, ?_⟩) hHeld ?_ ?_
                      rotate_left
                      · rintro w' ⟨s0, s1, s2, s3, s4⟩
                        go_simp
                        with_reducible rfl
                      rotate_left
                      · simp only [Act.put, List.setIfInBounds_toArray, List.set_cons_zero, List.set_cons_succ, i64_w, i32_w]
                        rfl
                      refine one_ (i := 2) (N := some 80) #[true, true, true, true, true, false, false, false, false, false, false, false, false, false, false, false, false, false, false, false, false, false, false, false, false, false, false, false, false, false, false, false, false, false, false, false] rfl rfl (one_of HT_.out (by kernel_rfl)) (by decide) (fun K hK => ?_)
                      refine goes_ Tryd.func17 (by kernel_rfl) rfl #[.agg #[.int .i64 s.f0, .int .i64 s.f1, .slice A s.f2.length cp], .agg #[.slice A1 st.length c1, .slice A2 lp.length c2]] (by rfl) rfl rfl (by simp only [List.map_toArray, List.map_cons, List.map_nil]; rfl) ?_
                      with_reducible refine (HH1.out _ (HB5.out.trans ((show Below W5.heap.size W5 W5.drew from below_drew1 (Below.refl _ _)).mono HB5.out.size))).mono ?_
                      rintro e_ wc2 ⟨rfl, hB⟩
                      have HBc2 := Aside0.mk (show Below W5.heap.size W5 wc2 from (below_drew1 (Below.refl _ _)).trans hB)
                      clear hB
                      have hkF2 := (HBc2.out.block _ (blk_lt HF5.out)).trans HF5.out
                      have hkL2 := (HBc2.out.block _ (blk_lt HL5.out)).trans HL5.out
                      refine ⟨_, rfl, ?_⟩
                      refine hK.out _ _ ⟨((blk_cell hkF2 0).trans rfl), ((blk_cell hkF2 1).trans rfl), ((blk_cell hkF2 2).trans rfl), ((blk_cell hkL2 0).trans rfl), ((blk_cell hkL2 1).trans rfl)⟩ (fun hHeld => ?_)
                      clear hK K
                      refine norm_ (a' := ?_) ?_ ?_
                      rotate_left
                      · show Act.put _ (some 80) _ = _
                        simp only [Act.put, List.setIfInBounds_toArray, List.set_cons_zero, List.set_cons_succ, i64_w, i32_w]
                        rfl
                      refine one_ (i := 5) (N := some 83) #[true, true, true, true, true, true, false, false, false, false, false, false, false, false, false, false, false, false, false, false, false, false, false, false, false, false, false, false, false, false, false, false, false, false, false, false] rfl rfl (one_of HT_.out (by kernel_rfl)) (by decide) (fun K hK => ?_)
                      refine goes_ Tryd.func25 (by kernel_rfl) rfl #[.agg #[.int .i64 s.f0, .int .i64 s.f1, .slice A s.f2.length cp], .agg #[.slice A1 st.length c1, .slice A2 lp.length c2]] (by rfl) rfl rfl (by simp only [List.map_toArray, List.map_cons, List.map_nil]; rfl) ?_
                      with_reducible refine (HH2.out _ (HB5.out.trans (HBc2.out.mono HB5.out.size))).mono ?_
                      rintro e_ wc5 ⟨rfl, hB⟩
                      have HBc5 := Aside0.mk (show Below W5.heap.size W5 wc5 from HBc2.out.trans (hB.mono HBc2.out.size))
                      clear hB
                      have hkF5 := (HBc5.out.block _ (blk_lt HF5.out)).trans HF5.out
                      have hkL5 := (HBc5.out.block _ (blk_lt HL5.out)).trans HL5.out
                      refine ⟨_, rfl, ?_⟩
                      refine hK.out _ _ ⟨((blk_cell hkF5 0).trans rfl), ((blk_cell hkF5 1).trans rfl), ((blk_cell hkF5 2).trans rfl), ((blk_cell hkL5 0).trans rfl), ((blk_cell hkL5 1).trans rfl)⟩ (fun hHeld => ?_)
                      clear hK K
                      refine norm_ (a' := ?_) ?_ ?_
                      rotate_left
                      · show Act.put _ (some 83) _ = _
                        simp only [Act.put, List.setIfInBounds_toArray, List.set_cons_zero, List.set_cons_succ, i64_w, i32_w]
                        rfl
                      refine pure_ (i := 6) (N := some 84) (v := ?_) (a' := ?_) #[true, true, true, true, true, true, true, false, false, false, false, false, false, false, false, false, false, false, false, false, false, false, false, false, false, false, false, false, false, false, false, false, false, false, false, false] rfl rfl (any_of HT_.out (by kernel_rfl)) (fun _ _ _ h => h) (Or.inl ⟨by rfl, ?_⟩) ?_ ?_
                      rotate_left
                      · intro w'
                        go_simp
                        with_reducible rfl
                      rotate_left
                      · simp only [Act.put, List.setIfInBounds_toArray, List.set_cons_zero, List.set_cons_succ, i64_w, i32_w]
                        rfl
                      refine pure_ (i := 7) (N := some 85) (v := ?_) (a' := ?_) #[true, true, true, true, true, true, true, true, false, false, false, false, false, false, false, false, false, false, false, false, false, false, false, false, false, false, false, false, false, false, false, false, false, false, false, false] rfl rfl (any_of HT_.out (by kernel_rfl)) (fun _ _ _ h => h) (Or.inl ⟨by rfl, ?_⟩) ?_ ?_
                      rotate_left
                      · intro w'
                        go_simp
                        with_reducible rfl
                      rotate_left
                      · simp only [Act.put, List.setIfInBounds_toArray, List.set_cons_zero, List.set_cons_succ, i64_w, i32_w]
                        rfl
                      refine take_ (i := 8) (N := some 86) (v := ?_) (a' := ?_) #[true, true, true, true, true, true, true, true, true, false, false, false, false, false, false, false, false, false, false, false, false, false, false, false, false, false, false, false, false, false, false, false, false, false, false, false] rfl rfl (take_ofW HT_.out HW_.out (by kernel_rfl)) (fun _ _ _ h => h) (Or.inl ⟨by rfl, ?_⟩) hHeld ?_ ?_
                      rotate_left
                      · rintro w' ⟨s0, s1, s2, s3, s4⟩
                        go_simp
                        with_reducible rfl
                      rotate_left
                      · simp only [Act.put, List.setIfInBounds_toArray, List.set_cons_zero, List.set_cons_succ, i64_w, i32_w]
                        rfl
                      refine take_ (i := 10) (N := some 88) (v := ?_) (a' := ?_) #[true, true, true, true, true, true, true, true, true, false, true, false, false, false, false, false, false, false, false, false, false, false, false, false, false, false, false, false, false, false, false, false, false, false, false, false] rfl rfl (take_ofW HT_.out HW_.out (by kernel_rfl)) (fun _ _ _ h => h) (Or.inl ⟨by rfl, ?_⟩) hHeld ?_ ?_
                      rotate_left
                      · rintro w' ⟨s0, s1, s2, s3, s4⟩
                        go_simp
                        with_reducible rfl
                      rotate_left
                      · simp only [Act.put, List.setIfInBounds_toArray, List.set_cons_zero, List.set_cons_succ, i64_w, i32_w]
                        rfl
                      refine one_ (i := 9) (N := some 87) #[true, true, true, true, true, true, true, true, true, true, true, false, false, false, false, false, false, false, false, false, false, false, false, false, false, false, false, false, false, false, false, false, false, false, false, false] rfl rfl (one_of HT_.out (by kernel_rfl)) (by decide) (fun K hK => ?_)
                      refine goes_ Tryd.func26 (by kernel_rfl) rfl #[.agg #[.int .i64 s.f0, .int .i64 s.f1, .slice A s.f2.length cp]] (by rfl) rfl rfl (by simp only [List.map_toArray, List.map_cons, List.map_nil]; rfl) ?_
                      with_reducible refine (HX1.out _ (HB5.out.trans (HBc5.out.mono HB5.out.size))).mono ?_
                      rintro e_ wc9 ⟨rfl, hB⟩
                      have HBc9 := Aside0.mk (show Below W5.heap.size W5 wc9 from HBc5.out.trans (hB.mono HBc5.out.size))
                      clear hB
                      have hkF9 := (HBc9.out.block _ (blk_lt HF5.out)).trans HF5.out
                      have hkL9 := (HBc9.out.block _ (blk_lt HL5.out)).trans HL5.out
                      refine ⟨_, rfl, ?_⟩
                      refine hK.out _ _ ⟨((blk_cell hkF9 0).trans rfl), ((blk_cell hkF9 1).trans rfl), ((blk_cell hkF9 2).trans rfl), ((blk_cell hkL9 0).trans rfl), ((blk_cell hkL9 1).trans rfl)⟩ (fun hHeld => ?_)
                      clear hK K
                      refine norm_ (a' := ?_) ?_ ?_
                      rotate_left
                      · show Act.put _ (some 87) _ = _
                        simp only [Act.put, List.setIfInBounds_toArray, List.set_cons_zero, List.set_cons_succ, i64_w, i32_w]
                        rfl
                      refine one_ (i := 11) (N := some 89) #[true, true, true, true, true, true, true, true, true, true, true, true, false, false, false, false, false, false, false, false, false, false, false, false, false, false, false, false, false, false, false, false, false, false, false, false] rfl rfl (one_of HT_.out (by kernel_rfl)) (by decide) (fun K hK => ?_)
                      refine goes_ Tryd.func27 (by kernel_rfl) rfl #[.agg #[.int .i64 s.f0, .int .i64 s.f1, .slice A s.f2.length cp]] (by rfl) rfl rfl (by simp only [List.map_toArray, List.map_cons, List.map_nil]; rfl) ?_
                      with_reducible refine (HX2.out _ (HB5.out.trans (HBc9.out.mono HB5.out.size))).mono ?_
                      rintro e_ wc11 ⟨rfl, hB⟩
                      have HBc11 := Aside0.mk (show Below W5.heap.size W5 wc11 from HBc9.out.trans (hB.mono HBc9.out.size))
                      clear hB
                      have hkF11 := (HBc11.out.block _ (blk_lt HF5.out)).trans HF5.out
                      have hkL11 := (HBc11.out.block _ (blk_lt HL5.out)).trans HL5.out
                      refine ⟨_, rfl, ?_⟩
                      refine hK.out _ _ ⟨((blk_cell hkF11 0).trans rfl), ((blk_cell hkF11 1).trans rfl), ((blk_cell hkF11 2).trans rfl), ((blk_cell hkL11 0).trans rfl), ((blk_cell hkL11 1).trans rfl)⟩ (fun hHeld => ?_)
                      clear hK K
                      refine norm_ (a' := ?_) ?_ ?_
                      rotate_left
                      · show Act.put _ (some 89) _ = _
                        simp only [Act.put, List.setIfInBounds_toArray, List.set_cons_zero, List.set_cons_succ, i64_w, i32_w]
                        rfl
                      refine pure_ (i := 12) (N := some 90) (v := ?_) (a' := ?_) #[true, true, true, true, true, true, true, true, true, true, true, true, true, false, false, false, false, false, false, false, false, false, false, false, false, false, false, false, false, false, false, false, false, false, false, false] rfl rfl (any_of HT_.out (by kernel_rfl)) (fun _ _ _ h => h) (Or.inl ⟨by rfl, ?_⟩) ?_ ?_
                      rotate_left
                      · intro w'
                        go_simp
                        with_reducible rfl
                      rotate_left
                      · simp only [Act.put, List.setIfInBounds_toArray, List.set_cons_zero, List.set_cons_succ, i64_w, i32_w]
                        rfl
                      refine pure_ (i := 13) (N := some 91) (v := ?_) (a' := ?_) #[true, true, true, true, true, true, true, true, true, true, true, true, true, true, false, false, false, false, false, false, false, false, false, false, false, false, false, false, false, false, false, false, false, false, false, false] rfl rfl (any_of HT_.out (by kernel_rfl)) (fun _ _ _ h => h) (Or.inl ⟨by rfl, ?_⟩) ?_ ?_
                      rotate_left
                      · intro w'
                        go_simp
                        with_reducible rfl
                      rotate_left
                      · simp only [Act.put, List.setIfInBounds_toArray, List.set_cons_zero, List.set_cons_succ, i64_w, i32_w]
                        rfl
                      refine pure_ (i := 14) (N := some 92) (v := ?_) (a' := ?_) #[true, true, true, true, true, true, true, true, true, true, true, true, true, true, true, false, false, false, false, false, false, false, false, false, false, false, false, false, false, false, false, false, false, false, false, false] rfl rfl (any_of HT_.out (by kernel_rfl)) (fun _ _ _ h => h) (Or.inl ⟨by rfl, ?_⟩) ?_ ?_
                      rotate_left
                      · intro w'
                        go_simp
                        with_reducible rfl
                      rotate_left
                      · simp only [Act.put, List.setIfInBounds_toArray, List.set_cons_zero, List.set_cons_succ, i64_w, i32_w]
                        rfl
                      refine take_ (i := 15) (N := some 93) (v := ?_) (a' := ?_) #[true, true, true, true, true, true, true, true, true, true, true, true, true, true, true, true, false, false, false, false, false, false, false, false, false, false, false, false, false, false, false, false, false, false, false, false] rfl rfl (take_ofW HT_.out HW_.out (by kernel_rfl)) (fun _ _ _ h => h) (Or.inl ⟨by rfl, ?_⟩) hHeld ?_ ?_
                      rotate_left
                      · rintro w' ⟨s0, s1, s2, s3, s4⟩
                        go_simp
                        with_reducible rfl
                      rotate_left
                      · simp only [Act.put, List.setIfInBounds_toArray, List.set_cons_zero, List.set_cons_succ, i64_w, i32_w]
                        rfl
                      refine one_ (i := 16) (N := some 94) #[true, true, true, true, true, true, true, true, true, true, true, true, true, true, true, true, true, false, false, false, false, false, false, false, false, false, false, false, false, false, false, false, false, false, false, false] rfl rfl (one_of HT_.out (by kernel_rfl)) (by decide) (fun K hK => ?_)
                      refine goes_ Tryd.func20 (by kernel_rfl) rfl #[.agg #[.int .i64 s.f0, .int .i64 s.f1, .slice A s.f2.length cp]] (by rfl) rfl rfl (by simp only [List.map_toArray, List.map_cons, List.map_nil]; rfl) ?_
                      with_reducible refine (HM2.out _ (HB5.out.trans (HBc11.out.mono HB5.out.size))).mono ?_
                      rintro e_ wc16 ⟨rfl, hB⟩
                      have HBc16 := Aside0.mk (show Below W5.heap.size W5 wc16 from HBc11.out.trans (hB.mono HBc11.out.size))
                      clear hB
                      have hkF16 := (HBc16.out.block _ (blk_lt HF5.out)).trans HF5.out
                      have hkL16 := (HBc16.out.block _ (blk_lt HL5.out)).trans HL5.out
                      refine ⟨_, rfl, ?_⟩
                      refine hK.out _ _ ⟨((blk_cell hkF16 0).trans rfl), ((blk_cell hkF16 1).trans rfl), ((blk_cell hkF16 2).trans rfl), ((blk_cell hkL16 0).trans rfl), ((blk_cell hkL16 1).trans rfl)⟩ (fun hHeld => ?_)
                      clear hK K
                      refine norm_ (a' := ?_) ?_ ?_
                      rotate_left
                      · show Act.put _ (some 94) _ = _
                        simp only [Act.put, List.setIfInBounds_toArray, List.set_cons_zero, List.set_cons_succ, i64_w, i32_w]
                        rfl
                      refine pure_ (i := 17) (N := some 95) (v := ?_) (a' := ?_) #[true, true, true, true, true, true, true, true, true, true, true, true, true, true, true, true, true, true, false, false, false, false, false, false, false, false, false, false, false, false, false, false, false, false, false, false] rfl rfl (any_of HT_.out (by kernel_rfl)) (fun _ _ _ h => h) (Or.inl ⟨by rfl, ?_⟩) ?_ ?_
                      rotate_left
                      · intro w'
                        go_simp
                        with_reducible rfl
                      rotate_left
                      · simp only [Act.put, List.setIfInBounds_toArray, List.set_cons_zero, List.set_cons_succ, i64_w, i32_w]
                        rfl
                      refine pure_ (i := 18) (N := some 96) (v := ?_) (a' := ?_) #[true, true, true, true, true, true, true, true, true, true, true, true, true, true, true, true, true, true, true, false, false, false, false, false, false, false, false, false, false, false, false, false, false, false, false, false] rfl rfl (any_of HT_.out (by kernel_rfl)) (fun _ _ _ h => h) (Or.inl ⟨by rfl, ?_⟩) ?_ ?_
                      rotate_left
                      · intro w'
                        go_simp
                        with_reducible rfl
                      rotate_left
                      · simp only [Act.put, List.setIfInBounds_toArray, List.set_cons_zero, List.set_cons_succ, i64_w, i32_w]
                        rfl
                      refine take_ (i := 19) (N := some 97) (v := ?_) (a' := ?_) #[true, true, true, true, true, true, true, true, true, true, true, true, true, true, true, true, true, true, true, true, false, false, false, false, false, false, false, false, false, false, false, false, false, false, false, false] rfl rfl (take_ofW HT_.out HW_.out (by kernel_rfl)) (fun _ _ _ h => h) (Or.inl ⟨by rfl, ?_⟩) hHeld ?_ ?_
                      rotate_left
                      · rintro w' ⟨s0, s1, s2, s3, s4⟩
                        go_simp
                        with_reducible rfl
                      rotate_left
                      · simp only [Act.put, List.setIfInBounds_toArray, List.set_cons_zero, List.set_cons_succ, i64_w, i32_w]
                        rfl
                      refine take_ (i := 21) (N := some 99) (v := ?_) (a' := ?_) #[true, true, true, true, true, true, true, true, true, true, true, true, true, true, true, true, true, true, true, true, false, true, false, false, false, false, false, false, false, false, false, false, false, false, false, false] rfl rfl (take_ofW HT_.out HW_.out (by kernel_rfl)) (fun _ _ _ h => h) (Or.inl ⟨by rfl, ?_⟩) hHeld ?_ ?_
                      rotate_left
                      · rintro w' ⟨s0, s1, s2, s3, s4⟩
                        go_simp
                        with_reducible rfl
                      rotate_left
                      · simp only [Act.put, List.setIfInBounds_toArray, List.set_cons_zero, List.set_cons_succ, i64_w, i32_w]
                        rfl
                      refine one_ (i := 20) (N := some 98) #[true, true, true, true, true, true, true, true, true, true, true, true, true, true, true, true, true, true, true, true, true, true, false, false, false, false, false, false, false, false, false, false, false, false, false, false] rfl rfl (one_of HT_.out (by kernel_rfl)) (by decide) (fun K hK => ?_)
                      refine goes_ Tryd.func28 (by kernel_rfl) rfl #[.agg #[.int .i64 s.f0, .int .i64 s.f1, .slice A s.f2.length cp]] (by rfl) rfl rfl (by simp only [List.map_toArray, List.map_cons, List.map_nil]; rfl) ?_
                      with_reducible refine (HN1.out _ (HB5.out.trans (HBc16.out.mono HB5.out.size))).mono ?_
                      rintro e_ wc20 ⟨vn, rfl, hR, hB⟩
                      have HBc20 := Aside0.mk (show Below W5.heap.size W5 wc20 from HBc16.out.trans (hB.mono HBc16.out.size))
                      obtain ⟨An, cn, e1_, hcn, hCn⟩ := Kd.N_reads hR
                      subst e1_
                      have HCn := Aside0.mk hCn
                      clear hCn hR
                      clear hB
                      have hkF20 := (HBc20.out.block _ (blk_lt HF5.out)).trans HF5.out
                      have hkL20 := (HBc20.out.block _ (blk_lt HL5.out)).trans HL5.out
                      refine ⟨_, rfl, ?_⟩
                      refine hK.out _ _ ⟨((blk_cell hkF20 0).trans rfl), ((blk_cell hkF20 1).trans rfl), ((blk_cell hkF20 2).trans rfl), ((blk_cell hkL20 0).trans rfl), ((blk_cell hkL20 1).trans rfl)⟩ (fun hHeld => ?_)
                      clear hK K
                      refine norm_ (a' := ?_) ?_ ?_
                      rotate_left
                      · show Act.put _ (some 98) _ = _
                        simp only [Act.put, List.setIfInBounds_toArray, List.set_cons_zero, List.set_cons_succ, i64_w, i32_w]
                        rfl
                      refine one_ (i := 22) (N := some 100) #[true, true, true, true, true, true, true, true, true, true, true, true, true, true, true, true, true, true, true, true, true, true, true, false, false, false, false, false, false, false, false, false, false, false, false, false] rfl rfl (one_of HT_.out (by kernel_rfl)) (by decide) (fun K hK => ?_)
                      refine goes_ Tryd.func29 (by kernel_rfl) rfl #[.agg #[.int .i64 s.f0, .int .i64 s.f1, .slice A s.f2.length cp]] (by rfl) rfl rfl (by simp only [List.map_toArray, List.map_cons, List.map_nil]; rfl) ?_
                      with_reducible refine (HN2.out _ (HB5.out.trans (HBc20.out.mono HB5.out.size))).mono ?_
                      rintro e_ wc22 ⟨vm, rfl, hR, hB⟩
                      have HBc22 := Aside0.mk (show Below W5.heap.size W5 wc22 from HBc20.out.trans (hB.mono HBc20.out.size))
                      obtain ⟨Am, cm, e1_⟩ := Kd.V_slice hR
                      subst e1_
                      obtain ⟨_, hcm9, hCm⟩ := Kd.V_reads' hR
                      have HCm := Aside0.mk hCm
                      have HCn := Aside0.mk (Kd.C_below HCn.out hB)
                      clear hCm hR
                      clear hB
                      have hkF22 := (HBc22.out.block _ (blk_lt HF5.out)).trans HF5.out
                      have hkL22 := (HBc22.out.block _ (blk_lt HL5.out)).trans HL5.out
                      refine ⟨_, rfl, ?_⟩
                      refine hK.out _ _ ⟨((blk_cell hkF22 0).trans rfl), ((blk_cell hkF22 1).trans rfl), ((blk_cell hkF22 2).trans rfl), ((blk_cell hkL22 0).trans rfl), ((blk_cell hkL22 1).trans rfl)⟩ (fun hHeld => ?_)
                      clear hK K
                      refine norm_ (a' := ?_) ?_ ?_
                      rotate_left
                      · show Act.put _ (some 100) _ = _
                        simp only [Act.put, List.setIfInBounds_toArray, List.set_cons_zero, List.set_cons_succ, i64_w, i32_w]
                        rfl
                      refine one_ (i := 23) (N := some 101) #[true, true, true, true, true, true, true, true, true, true, true, true, true, true, true, true, true, true, true, true, true, true, true, true, false, false, false, false, false, false, false, false, false, false, false, false] rfl rfl (one_of HT_.out (by kernel_rfl)) (by decide) (fun K hK => ?_)
                      refine goes_ Tryd.func22 (by kernel_rfl) rfl #[.agg #[.int .i64 NS.f0, .int .i64 NS.f1, .slice An NS.f2.length cn], .agg #[.int .i64 NS.f0, .int .i64 NS.f1, .slice Am NS.f2.length cm]] (by rfl) rfl rfl (by simp only [List.map_toArray, List.map_cons, List.map_nil]; rfl) ?_
                      with_reducible refine (parryref22_Same.calls kN NS.f0 NS.f1 An cn NS.f2 NS.f0 NS.f1 Am cm NS.f2 true _ HCn.out hcn HCm.out hcm9 HKN.out).mono ?_
                      rintro e_ wc23 ⟨rfl, hB⟩
                      have HBc23 := Aside0.mk (show Below W5.heap.size W5 wc23 from HBc22.out.trans (hB.mono HBc22.out.size))
                      clear hB
                      have hkF23 := (HBc23.out.block _ (blk_lt HF5.out)).trans HF5.out
                      have hkL23 := (HBc23.out.block _ (blk_lt HL5.out)).trans HL5.out
                      refine ⟨_, rfl, ?_⟩
                      refine hK.out _ _ ⟨((blk_cell hkF23 0).trans rfl), ((blk_cell hkF23 1).trans rfl), ((blk_cell hkF23 2).trans rfl), ((blk_cell hkL23 0).trans rfl), ((blk_cell hkL23 1).trans rfl)⟩ (fun hHeld => ?_)
                      clear hK K
                      refine norm_ (a' := ?_) ?_ ?_
                      rotate_left
                      · show Act.put _ (some 101) _ = _
                        simp only [Act.put, List.setIfInBounds_toArray, List.set_cons_zero, List.set_cons_succ, i64_w, i32_w]
                        rfl
                      refine pure_ (i := 24) (N := some 102) (v := ?_) (a' := ?_) #[true, true, true, true, true, true, true, true, true, true, true, true, true, true, true, true, true, true, true, true, true, true, true, true, true, false, false, false, false, false, false, false, false, false, false, false] rfl rfl (any_of HT_.out (by kernel_rfl)) (fun _ _ _ h => h) (Or.inl ⟨by rfl, ?_⟩) ?_ ?_
                      rotate_left
                      · intro w'
                        go_simp
                        with_reducible rfl
                      rotate_left
                      · simp only [Act.put, List.setIfInBounds_toArray, List.set_cons_zero, List.set_cons_succ, i64_w, i32_w]
                        rfl
                      refine pure_ (i := 25) (N := some 103) (v := ?_) (a' := ?_) #[true, true, true, true, true, true, true, true, true, true, true, true, true, true, true, true, true, true, true, true, true, true, true, true, true, true, false, false, false, false, false, false, false, false, false, false] rfl rfl (any_of HT_.out (by kernel_rfl)) (fun _ _ _ h => h) (Or.inl ⟨by rfl, ?_⟩) ?_ ?_
                      rotate_left
                      · intro w'
                        go_simp
                        with_reducible rfl
                      rotate_left
                      · simp only [Act.put, List.setIfInBounds_toArray, List.set_cons_zero, List.set_cons_succ, i64_w, i32_w]
                        rfl
                      refine pure_ (i := 26) (N := some 104) (v := undef) (a' := ?_) #[true, true, true, true, true, true, true, true, true, true, true, true, true, true, true, true, true, true, true, true, true, true, true, true, true, true, true, false, false, false, false, false, false, false, false, false] rfl rfl (any_of HT_.out (by kernel_rfl)) (fun _ _ _ h => h) (Or.inr ⟨by rfl, rfl⟩) ?_ ?_
                      rotate_left
                      · simp only [Act.put, List.setIfInBounds_toArray, List.set_cons_zero, List.set_cons_succ, i64_w, i32_w]
                        rfl
                      refine pure_ (i := 27) (N := some 105) (v := undef) (a' := ?_) #[true, true, true, true, true, true, true, true, true, true, true, true, true, true, true, true, true, true, true, true, true, true, true, true, true, true, true, true, false, false, false, false, false, false, false, false] rfl rfl (any_of HT_.out (by kernel_rfl)) (fun _ _ _ h => h) (Or.inr ⟨by rfl, rfl⟩) ?_ ?_
                      rotate_left
                      · simp only [Act.put, List.setIfInBounds_toArray, List.set_cons_zero, List.set_cons_succ, i64_w, i32_w]
                        rfl
                      refine pure_ (i := 28) (N := some 106) (v := undef) (a' := ?_) #[true, true, true, true, true, true, true, true, true, true, true, true, true, true, true, true, true, true, true, true, true, true, true, true, true, true, true, true, true, false, false, false, false, false, false, false] rfl rfl (any_of HT_.out (by kernel_rfl)) (fun _ _ _ h => h) (Or.inr ⟨by rfl, rfl⟩) ?_ ?_
                      rotate_left
                      · simp only [Act.put, List.setIfInBounds_toArray, List.set_cons_zero, List.set_cons_succ, i64_w, i32_w]
                        rfl
                      refine pure_ (i := 29) (N := some 107) (v := undef) (a' := ?_) #[true, true, true, true, true, true, true, true, true, true, true, true, true, true, true, true, true, true, true, true, true, true, true, true, true, true, true, true, true, true, false, false, false, false, false, false] rfl rfl (any_of HT_.out (by kernel_rfl)) (fun _ _ _ h => h) (Or.inr ⟨by rfl, rfl⟩) ?_ ?_
                      rotate_left
                      · simp only [Act.put, List.setIfInBounds_toArray, List.set_cons_zero, List.set_cons_succ, i64_w, i32_w]
                        rfl
                      refine pure_ (i := 30) (N := some 108) (v := ?_) (a' := ?_) #[true, true, true, true, true, true, true, true, true, true, true, true, true, true, true, true, true, true, true, true, true, true, true, true, true, true, true, true, true, true, true, false, false, false, false, false] rfl rfl (any_of HT_.out (by kernel_rfl)) (fun _ _ _ h => h) (Or.inl ⟨by rfl, ?_⟩) ?_ ?_
                      rotate_left
                      · intro w'
                        go_simp
                        with_reducible rfl
                      rotate_left
                      · simp only [Act.put, List.setIfInBounds_toArray, List.set_cons_zero, List.set_cons_succ, i64_w, i32_w]
                        rfl
                      refine pure_ (i := 31) (N := some 109) (v := ?_) (a' := ?_) #[true, true, true, true, true, true, true, true, true, true, true, true, true, true, true, true, true, true, true, true, true, true, true, true, true, true, true, true, true, true, true, true, false, false, false, false] rfl rfl (any_of HT_.out (by kernel_rfl)) (fun _ _ _ h => h) (Or.inl ⟨by rfl, ?_⟩) ?_ ?_
                      rotate_left
                      · intro w'
                        go_simp
                        with_reducible rfl
                      rotate_left
                      · simp only [Act.put, List.setIfInBounds_toArray, List.set_cons_zero, List.set_cons_succ, i64_w, i32_w]
                        rfl
                      refine pure_ (i := 32) (N := some 110) (v := ?_) (a' := ?_) #[true, true, true, true, true, true, true, true, true, true, true, true, true, true, true, true, true, true, true, true, true, true, true, true, true, true, true, true, true, true, true, true, true, false, false, false] rfl rfl (any_of HT_.out (by kernel_rfl)) (fun _ _ _ h => h) (Or.inl ⟨by rfl, ?_⟩) ?_ ?_
                      rotate_left
                      · intro w'
                        go_simp
                        with_reducible rfl
                      rotate_left
                      · simp only [Act.put, List.setIfInBounds_toArray, List.set_cons_zero, List.set_cons_succ, i64_w, i32_w]
                        rfl
                      refine one_ (i := 33) (N := some 111) #[true, true, true, true, true, true, true, true, true, true, true, true, true, true, true, true, true, true, true, true, true, true, true, true, true, true, true, true, true, true, true, true, true, true, false, false] rfl rfl (one_of HT_.out (by kernel_rfl)) (by decide) (fun K hK => ?_)
                      refine goes_ Tryd.func11 (by kernel_rfl) rfl #[] (by rfl) rfl rfl (by first | rfl | simp) ?_
                      with_reducible refine (awake_calls _).mono ?_
                      rintro e_ wc33 ⟨rfl, hB⟩
                      have HBc33 := Aside0.mk (show Below W5.heap.size W5 wc33 from HBc23.out.trans (hB.mono HBc23.out.size))
                      clear hB
                      have hkF33 := (HBc33.out.block _ (blk_lt HF5.out)).trans HF5.out
                      have hkL33 := (HBc33.out.block _ (blk_lt HL5.out)).trans HL5.out
                      refine ⟨_, rfl, ?_⟩
                      refine hK.out _ _ ⟨((blk_cell hkF33 0).trans rfl), ((blk_cell hkF33 1).trans rfl), ((blk_cell hkF33 2).trans rfl), ((blk_cell hkL33 0).trans rfl), ((blk_cell hkL33 1).trans rfl)⟩ (fun hHeld => ?_)
                      clear hK K
                      refine norm_ (a' := ?_) ?_ ?_
                      rotate_left
                      · show Act.put _ (some 111) _ = _
                        simp only [Act.put, List.setIfInBounds_toArray, List.set_cons_zero, List.set_cons_succ, i64_w, i32_w]
                        rfl
                      refine pure_ (i := 34) (N := some 112) (v := ?_) (a' := ?_) #[true, true, true, true, true, true, true, true, true, true, true, true, true, true, true, true, true, true, true, true, true, true, true, true, true, true, true, true, true, true, true, true, true, true, true, false] rfl rfl (any_of HT_.out (by kernel_rfl)) (fun _ _ _ h => h) (Or.inl ⟨by rfl, ?_⟩) ?_ ?_
                      rotate_left
                      · intro w'
                        go_simp
                        with_reducible rfl
                      rotate_left
                      · simp only [Act.put, List.setIfInBounds_toArray, List.set_cons_zero, List.set_cons_succ, i64_w, i32_w]
                        rfl
                      refine pure_ (i := 35) (N := some 6) (v := ?_) (a' := ?_) #[true, true, true, true, true, true, true, true, true, true, true, true, true, true, true, true, true, true, true, true, true, true, true, true, true, true, true, true, true, true, true, true, true, true, true, true] rfl rfl (any_of HT_.out (by kernel_rfl)) (fun _ _ _ h => h) (Or.inl ⟨by rfl, ?_⟩) ?_ ?_
                      rotate_left
                      · intro w'
                        go_simp
                        with_reducible rfl
                      rotate_left
                      · simp only [Act.put, List.setIfInBounds_toArray, List.set_cons_zero, List.set_cons_succ, i64_w, i32_w]
                        rfl
                      refine done_ (done_of HT_.out (by kernel_rfl)) ?_
                      go_wp2_with fail
                      go_ret
                      exact ⟨rfl, HB5.out.trans (HBc33.out.mono HB5.out.size)⟩
                  | false =>
                    have hmn0 : mn ≠ 0 := by rcases hor with h | h; cases h; exact h
                    have bq : (mn != 0) = true := by simpa using hmn0
                    clear hor hmn0
                    as_aux_lemma =>
                      go_upto_region 12 with fail
                      refine start_ (n := 36) (S := fun w' => w'.cell? ⟨w.heap.size, 0, none⟩ = some (.int .i64 s.f0) ∧ w'.cell? ⟨w.heap.size, 1, none⟩ = some (.int .i64 s.f1) ∧ w'.cell? ⟨w.heap.size, 2, none⟩ = some (.slice A s.f2.length cp) ∧ w'.cell? ⟨w.heap.size + 1 + 1, 0, none⟩ = some (.slice A1 st.length c1) ∧ w'.cell? ⟨w.heap.size + 1 + 1, 1, none⟩ = some (.slice A2 lp.length c2)) (ds := []) #[false, false, false, false, false, false, false, false, false, false, false, false, false, false, false, false, false, false, false, false, false, false, false, false, false, false, false, false, false, false, false, false, false, false, false, false] (by kernel_rfl) rfl rfl ⟨((blk_cell HF5.out 0).trans rfl), ((blk_cell HF5.out 1).trans rfl), ((blk_cell HF5.out 2).trans rfl), ((blk_cell HL5.out 0).trans rfl), ((blk_cell HL5.out 1).trans rfl)⟩ (fun hHeld => ?_)
                      refine with_tabW ffo.tab12 ffo.bits12 (fun HT_ HW_ => ?_)
                      refine take_ (i := 0) (N := some 78) (v := ?_) (a' := ?_) #[true, false, false, false, false, false, false, false, false, false, false, false, false, false, false, false, false, false, false, false, false, false, false, false, false, false, false, false, false, false, false, false, false, false, false, false] rfl rfl (take_ofW HT_.out HW_.out (by kernel_rfl)) (fun _ _ _ h => h) (Or.inl ⟨by rfl, ?_⟩) hHeld ?_ ?_
                      rotate_left
                      · rintro w' ⟨s0, s1, s2, s3, s4⟩
                        go_simp
                        with_reducible rfl
                      rotate_left
                      · simp only [Act.put, List.setIfInBounds_toArray, List.set_cons_zero, List.set_cons_succ, i64_w, i32_w]
                        rfl
                      refine take_ (i := 1) (N := some 79) (v := ?_) (a' := ?_) #[true, true, false, false, false, false, false, false, false, false, false, false, false, false, false, false, false, false, false, false, false, false, false, false, false, false, false, false, false, false, false, false, false, false, false, false] rfl rfl (take_ofW HT_.out HW_.out (by kernel_rfl)) (fun _ _ _ h => h) (Or.inl ⟨by rfl, ?_⟩) hHeld ?_ ?_
                      rotate_left
                      · rintro w' ⟨s0, s1, s2, s3, s4⟩
                        go_simp
                        with_reducible rfl
                      rotate_left
                      · simp only [Act.put, List.setIfInBounds_toArray, List.set_cons_zero, List.set_cons_succ, i64_w, i32_w]
                        rfl
                      refine take_ (i := 3) (N := some 81) (v := ?_) (a' := ?_) #[true, true, false, true, false, false, false, false, false, false, false, false, false, false, false, false, false, false, false, false, false, false, false, false, false, false, false, false, false, false, false, false, false, false, false, false] rfl rfl (take_ofW HT_.out HW_.out (by kernel_rfl)) (fun _ _ _ h => h) (Or.inl ⟨by rfl, ?_⟩) hHeld ?_ ?_
                      rotate_left
                      · rintro w' ⟨s0, s1, s2, s3, s4⟩
                        go_simp
                        with_reducible rfl
                      rotate_left
                      · simp only [Act.put, List.setIfInBounds_toArray, List.set_cons_zero, List.set_cons_succ, i64_w, i32_w]
                        rfl
                      refine take_ (i := 4) (N := some 82) (v := ?_) (a' := ?_) #[true, true, false, true, true, false, false, false, false, false, false, false, false, false, false, false, false, false, false, false, false, false, false, false, false, false, false, false, false, false, false, false, false, false, false, false] rfl rfl (take_ofW HT_.out HW_.out (by kernel_rfl)) (fun _ _ _ h => h) (Or.inl ⟨by rfl, ?_⟩) hHeld ?_ ?_
                      rotate_left
                      · rintro w' ⟨s0, s1, s2, s3, s4⟩
                        go_simp
                        with_reducible rfl
                      rotate_left
                      · simp only [Act.put, List.setIfInBounds_toArray, List.set_cons_zero, List.set_cons_succ, i64_w, i32_w]
                        rfl
                      refine one_ (i := 2) (N := some 80) #[true, true, true, true, true, false, false, false, false, false, false, false, false, false, false, false, false, false, false, false, false, false, false, false, false, false, false, false, false, false, false, false, false, false, false, false] rfl rfl (one_of HT_.out (by kernel_rfl)) (by decide) (fun K hK => ?_)
                      refine goes_ Tryd.func17 (by kernel_rfl) rfl #[.agg #[.int .i64 s.f0, .int .i64 s.f1, .slice A s.f2.length cp], .agg #[.slice A1 st.length c1, .slice A2 lp.length c2]] (by rfl) rfl rfl (by simp only [List.map_toArray, List.map_cons, List.map_nil]; rfl) ?_
                      with_reducible refine (HH1.out _ (HB5.out.trans ((show Below W5.heap.size W5 W5.drew from below_drew1 (Below.refl _ _)).mono HB5.out.size))).mono ?_
                      rintro e_ wc2 ⟨rfl, hB⟩
                      have HBc2 := Aside0.mk (show Below W5.heap.size W5 wc2 from (below_drew1 (Below.refl _ _)).trans hB)
                      clear hB
                      have hkF2 := (HBc2.out.block _ (blk_lt HF5.out)).trans HF5.out
                      have hkL2 := (HBc2.out.block _ (blk_lt HL5.out)).trans HL5.out
                      refine ⟨_, rfl, ?_⟩
                      refine hK.out _ _ ⟨((blk_cell hkF2 0).trans rfl), ((blk_cell hkF2 1).trans rfl), ((blk_cell hkF2 2).trans rfl), ((blk_cell hkL2 0).trans rfl), ((blk_cell hkL2 1).trans rfl)⟩ (fun hHeld => ?_)
                      clear hK K
                      refine norm_ (a' := ?_) ?_ ?_
                      rotate_left
                      · show Act.put _ (some 80) _ = _
                        simp only [Act.put, List.setIfInBounds_toArray, List.set_cons_zero, List.set_cons_succ, i64_w, i32_w]
                        rfl
                      refine one_ (i := 5) (N := some 83) #[true, true, true, true, true, true, false, false, false, false, false, false, false, false, false, false, false, false, false, false, false, false, false, false, false, false, false, false, false, false, false, false, false, false, false, false] rfl rfl (one_of HT_.out (by kernel_rfl)) (by decide) (fun K hK => ?_)
                      refine goes_ Tryd.func25 (by kernel_rfl) rfl #[.agg #[.int .i64 s.f0, .int .i64 s.f1, .slice A s.f2.length cp], .agg #[.slice A1 st.length c1, .slice A2 lp.length c2]] (by rfl) rfl rfl (by simp only [List.map_toArray, List.map_cons, List.map_nil]; rfl) ?_
                      with_reducible refine (HH2.out _ (HB5.out.trans (HBc2.out.mono HB5.out.size))).mono ?_
                      rintro e_ wc5 ⟨rfl, hB⟩
                      have HBc5 := Aside0.mk (show Below W5.heap.size W5 wc5 from HBc2.out.trans (hB.mono HBc2.out.size))
                      clear hB
                      have hkF5 := (HBc5.out.block _ (blk_lt HF5.out)).trans HF5.out
                      have hkL5 := (HBc5.out.block _ (blk_lt HL5.out)).trans HL5.out
                      refine ⟨_, rfl, ?_⟩
                      refine hK.out _ _ ⟨((blk_cell hkF5 0).trans rfl), ((blk_cell hkF5 1).trans rfl), ((blk_cell hkF5 2).trans rfl), ((blk_cell hkL5 0).trans rfl), ((blk_cell hkL5 1).trans rfl)⟩ (fun hHeld => ?_)
                      clear hK K
                      refine norm_ (a' := ?_) ?_ ?_
                      rotate_left
                      · show Act.put _ (some 83) _ = _
                        simp only [Act.put, List.setIfInBounds_toArray, List.set_cons_zero, List.set_cons_succ, i64_w, i32_w]
                        rfl
                      refine pure_ (i := 6) (N := some 84) (v := ?_) (a' := ?_) #[true, true, true, true, true, true, true, false, false, false, false, false, false, false, false, false, false, false, false, false, false, false, false, false, false, false, false, false, false, false, false, false, false, false, false, false] rfl rfl (any_of HT_.out (by kernel_rfl)) (fun _ _ _ h => h) (Or.inl ⟨by rfl, ?_⟩) ?_ ?_
                      rotate_left
                      · intro w'
                        go_simp
                        with_reducible rfl
                      rotate_left
                      · simp only [Act.put, List.setIfInBounds_toArray, List.set_cons_zero, List.set_cons_succ, i64_w, i32_w]
                        rfl
                      refine pure_ (i := 7) (N := some 85) (v := ?_) (a' := ?_) #[true, true, true, true, true, true, true, true, false, false, false, false, false, false, false, false, false, false, false, false, false, false, false, false, false, false, false, false, false, false, false, false, false, false, false, false] rfl rfl (any_of HT_.out (by kernel_rfl)) (fun _ _ _ h => h) (Or.inl ⟨by rfl, ?_⟩) ?_ ?_
                      rotate_left
                      · intro w'
                        go_simp
                        with_reducible rfl
                      rotate_left
                      · simp only [Act.put, List.setIfInBounds_toArray, List.set_cons_zero, List.set_cons_succ, i64_w, i32_w]
                        rfl
                      refine take_ (i := 8) (N := some 86) (v := ?_) (a' := ?_) #[true, true, true, true, true, true, true, true, true, false, false, false, false, false, false, false, false, false, false, false, false, false, false, false, false, false, false, false, false, false, false, false, false, false, false, false] rfl rfl (take_ofW HT_.out HW_.out (by kernel_rfl)) (fun _ _ _ h => h) (Or.inl ⟨by rfl, ?_⟩) hHeld ?_ ?_
                      rotate_left
                      · rintro w' ⟨s0, s1, s2, s3, s4⟩
                        go_simp
                        with_reducible rfl
                      rotate_left
                      · simp only [Act.put, List.setIfInBounds_toArray, List.set_cons_zero, List.set_cons_succ, i64_w, i32_w]
                        rfl
                      refine take_ (i := 10) (N := some 88) (v := ?_) (a' := ?_) #[true, true, true, true, true, true, true, true, true, false, true, false, false, false, false, false, false, false, false, false, false, false, false, false, false, false, false, false, false, false, false, false, false, false, false, false] rfl rfl (take_ofW HT_.out HW_.out (by kernel_rfl)) (fun _ _ _ h => h) (Or.inl ⟨by rfl, ?_⟩) hHeld ?_ ?_
                      rotate_left
                      · rintro w' ⟨s0, s1, s2, s3, s4⟩
                        go_simp
                        with_reducible rfl
                      rotate_left
                      · simp only [Act.put, List.setIfInBounds_toArray, List.set_cons_zero, List.set_cons_succ, i64_w, i32_w]
                        rfl
                      refine one_ (i := 9) (N := some 87) #[true, true, true, true, true, true, true, true, true, true, true, false, false, false, false, false, false, false, false, false, false, false, false, false, false, false, false, false, false, false, false, false, false, false, false, false] rfl rfl (one_of HT_.out (by kernel_rfl)) (by decide) (fun K hK => ?_)
                      refine goes_ Tryd.func26 (by kernel_rfl) rfl #[.agg #[.int .i64 s.f0, .int .i64 s.f1, .slice A s.f2.length cp]] (by rfl) rfl rfl (by simp only [List.map_toArray, List.map_cons, List.map_nil]; rfl) ?_
                      with_reducible refine (HX1.out _ (HB5.out.trans (HBc5.out.mono HB5.out.size))).mono ?_
                      rintro e_ wc9 ⟨rfl, hB⟩
                      have HBc9 := Aside0.mk (show Below W5.heap.size W5 wc9 from HBc5.out.trans (hB.mono HBc5.out.size))
                      clear hB
                      have hkF9 := (HBc9.out.block _ (blk_lt HF5.out)).trans HF5.out
                      have hkL9 := (HBc9.out.block _ (blk_lt HL5.out)).trans HL5.out
                      refine ⟨_, rfl, ?_⟩
                      refine hK.out _ _ ⟨((blk_cell hkF9 0).trans rfl), ((blk_cell hkF9 1).trans rfl), ((blk_cell hkF9 2).trans rfl), ((blk_cell hkL9 0).trans rfl), ((blk_cell hkL9 1).trans rfl)⟩ (fun hHeld => ?_)
                      clear hK K
                      refine norm_ (a' := ?_) ?_ ?_
                      rotate_left
                      · show Act.put _ (some 87) _ = _
                        simp only [Act.put, List.setIfInBounds_toArray, List.set_cons_zero, List.set_cons_succ, i64_w, i32_w]
                        rfl
                      refine one_ (i := 11) (N := some 89) #[true, true, true, true, true, true, true, true, true, true, true, true, false, false, false, false, false, false, false, false, false, false, false, false, false, false, false, false, false, false, false, false, false, false, false, false] rfl rfl (one_of HT_.out (by kernel_rfl)) (by decide) (fun K hK => ?_)
                      refine goes_ Tryd.func27 (by kernel_rfl) rfl #[.agg #[.int .i64 s.f0, .int .i64 s.f1, .slice A s.f2.length cp]] (by rfl) rfl rfl (by simp only [List.map_toArray, List.map_cons, List.map_nil]; rfl) ?_
                      with_reducible refine (HX2.out _ (HB5.out.trans (HBc9.out.mono HB5.out.size))).mono ?_
                      rintro e_ wc11 ⟨rfl, hB⟩
                      have HBc11 := Aside0.mk (show Below W5.heap.size W5 wc11 from HBc9.out.trans (hB.mono HBc9.out.size))
                      clear hB
                      have hkF11 := (HBc11.out.block _ (blk_lt HF5.out)).trans HF5.out
                      have hkL11 := (HBc11.out.block _ (blk_lt HL5.out)).trans HL5.out
                      refine ⟨_, rfl, ?_⟩
                      refine hK.out _ _ ⟨((blk_cell hkF11 0).trans rfl), ((blk_cell hkF11 1).trans rfl), ((blk_cell hkF11 2).trans rfl), ((blk_cell hkL11 0).trans rfl), ((blk_cell hkL11 1).trans rfl)⟩ (fun hHeld => ?_)
                      clear hK K
                      refine norm_ (a' := ?_) ?_ ?_
                      rotate_left
                      · show Act.put _ (some 89) _ = _
                        simp only [Act.put, List.setIfInBounds_toArray, List.set_cons_zero, List.set_cons_succ, i64_w, i32_w]
                        rfl
                      refine pure_ (i := 12) (N := some 90) (v := ?_) (a' := ?_) #[true, true, true, true, true, true, true, true, true, true, true, true, true, false, false, false, false, false, false, false, false, false, false, false, false, false, false, false, false, false, false, false, false, false, false, false] rfl rfl (any_of HT_.out (by kernel_rfl)) (fun _ _ _ h => h) (Or.inl ⟨by rfl, ?_⟩) ?_ ?_
                      rotate_left
                      · intro w'
                        go_simp
                        with_reducible rfl
                      rotate_left
                      · simp only [Act.put, List.setIfInBounds_toArray, List.set_cons_zero, List.set_cons_succ, i64_w, i32_w]
                        rfl
                      refine pure_ (i := 13) (N := some 91) (v := ?_) (a' := ?_) #[true, true, true, true, true, true, true, true, true, true, true, true, true, true, false, false, false, false, false, false, false, false, false, false, false, false, false, false, false, false, false, false, false, false, false, false] rfl rfl (any_of HT_.out (by kernel_rfl)) (fun _ _ _ h => h) (Or.inl ⟨by rfl, ?_⟩) ?_ ?_
                      rotate_left
                      · intro w'
                        go_simp
                        with_reducible rfl
                      rotate_left
                      · simp only [Act.put, List.setIfInBounds_toArray, List.set_cons_zero, List.set_cons_succ, i64_w, i32_w]
                        rfl
                      refine pure_ (i := 14) (N := some 92) (v := ?_) (a' := ?_) #[true, true, true, true, true, true, true, true, true, true, true, true, true, true, true, false, false, false, false, false, false, false, false, false, false, false, false, false, false, false, false, false, false, false, false, false] rfl rfl (any_of HT_.out (by kernel_rfl)) (fun _ _ _ h => h) (Or.inl ⟨by rfl, ?_⟩) ?_ ?_
                      rotate_left
                      · intro w'
                        go_simp
                        with_reducible rfl
                      rotate_left
                      · simp only [Act.put, List.setIfInBounds_toArray, List.set_cons_zero, List.set_cons_succ, i64_w, i32_w]
                        rfl
                      refine take_ (i := 15) (N := some 93) (v := ?_) (a' := ?_) #[true, true, true, true, true, true, true, true, true, true, true, true, true, true, true, true, false, false, false, false, false, false, false, false, false, false, false, false, false, false, false, false, false, false, false, false] rfl rfl (take_ofW HT_.out HW_.out (by kernel_rfl)) (fun _ _ _ h => h) (Or.inl ⟨by rfl, ?_⟩) hHeld ?_ ?_
                      rotate_left
                      · rintro w' ⟨s0, s1, s2, s3, s4⟩
                        go_simp
                        with_reducible rfl
                      rotate_left
                      · simp only [Act.put, List.setIfInBounds_toArray, List.set_cons_zero, List.set_cons_succ, i64_w, i32_w]
                        rfl
                      refine one_ (i := 16) (N := some 94) #[true, true, true, true, true, true, true, true, true, true, true, true, true, true, true, true, true, false, false, false, false, false, false, false, false, false, false, false, false, false, false, false, false, false, false, false] rfl rfl (one_of HT_.out (by kernel_rfl)) (by decide) (fun K hK => ?_)
                      refine goes_ Tryd.func20 (by kernel_rfl) rfl #[.agg #[.int .i64 s.f0, .int .i64 s.f1, .slice A s.f2.length cp]] (by rfl) rfl rfl (by simp only [List.map_toArray, List.map_cons, List.map_nil]; rfl) ?_
                      with_reducible refine (HM2.out _ (HB5.out.trans (HBc11.out.mono HB5.out.size))).mono ?_
                      rintro e_ wc16 ⟨rfl, hB⟩
                      have HBc16 := Aside0.mk (show Below W5.heap.size W5 wc16 from HBc11.out.trans (hB.mono HBc11.out.size))
                      clear hB
                      have hkF16 := (HBc16.out.block _ (blk_lt HF5.out)).trans HF5.out
                      have hkL16 := (HBc16.out.block _ (blk_lt HL5.out)).trans HL5.out
                      refine ⟨_, rfl, ?_⟩
                      refine hK.out _ _ ⟨((blk_cell hkF16 0).trans rfl), ((blk_cell hkF16 1).trans rfl), ((blk_cell hkF16 2).trans rfl), ((blk_cell hkL16 0).trans rfl), ((blk_cell hkL16 1).trans rfl)⟩ (fun hHeld => ?_)
                      clear hK K
                      refine norm_ (a' := ?_) ?_ ?_
                      rotate_left
                      · show Act.put _ (some 94) _ = _
                        simp only [Act.put, List.setIfInBounds_toArray, List.set_cons_zero, List.set_cons_succ, i64_w, i32_w]
                        rfl
                      refine pure_ (i := 17) (N := some 95) (v := ?_) (a' := ?_) #[true, true, true, true, true, true, true, true, true, true, true, true, true, true, true, true, true, true, false, false, false, false, false, false, false, false, false, false, false, false, false, false, false, false, false, false] rfl rfl (any_of HT_.out (by kernel_rfl)) (fun _ _ _ h => h) (Or.inl ⟨by rfl, ?_⟩) ?_ ?_
                      rotate_left
                      · intro w'
                        go_simp
                        with_reducible rfl
                      rotate_left
                      · simp only [Act.put, List.setIfInBounds_toArray, List.set_cons_zero, List.set_cons_succ, i64_w, i32_w]
                        rfl
                      refine pure_ (i := 18) (N := some 96) (v := ?_) (a' := ?_) #[true, true, true, true, true, true, true, true, true, true, true, true, true, true, true, true, true, true, true, false, false, false, false, false, false, false, false, false, false, false, false, false, false, false, false, false] rfl rfl (any_of HT_.out (by kernel_rfl)) (fun _ _ _ h => h) (Or.inl ⟨by rfl, ?_⟩) ?_ ?_
                      rotate_left
                      · intro w'
                        go_simp
                        with_reducible rfl
                      rotate_left
                      · simp only [Act.put, List.setIfInBounds_toArray, List.set_cons_zero, List.set_cons_succ, i64_w, i32_w]
                        rfl
                      refine take_ (i := 19) (N := some 97) (v := ?_) (a' := ?_) #[true, true, true, true, true, true, true, true, true, true, true, true, true, true, true, true, true, true, true, true, false, false, false, false, false, false, false, false, false, false, false, false, false, false, false, false] rfl rfl (take_ofW HT_.out HW_.out (by kernel_rfl)) (fun _ _ _ h => h) (Or.inl ⟨by rfl, ?_⟩) hHeld ?_ ?_
                      rotate_left
                      · rintro w' ⟨s0, s1, s2, s3, s4⟩
                        go_simp
                        with_reducible rfl
                      rotate_left
                      · simp only [Act.put, List.setIfInBounds_toArray, List.set_cons_zero, List.set_cons_succ, i64_w, i32_w]
                        rfl
                      refine take_ (i := 21) (N := some 99) (v := ?_) (a' := ?_) #[true, true, true, true, true, true, true, true, true, true, true, true, true, true, true, true, true, true, true, true, false, true, false, false, false, false, false, false, false, false, false, false, false, false, false, false] rfl rfl (take_ofW HT_.out HW_.out (by kernel_rfl)) (fun _ _ _ h => h) (Or.inl ⟨by rfl, ?_⟩) hHeld ?_ ?_
                      rotate_left
                      · rintro w' ⟨s0, s1, s2, s3, s4⟩
                        go_simp
                        with_reducible rfl
                      rotate_left
                      · simp only [Act.put, List.setIfInBounds_toArray, List.set_cons_zero, List.set_cons_succ, i64_w, i32_w]
                        rfl
                      refine one_ (i := 20) (N := some 98) #[true, true, true, true, true, true, true, true, true, true, true, true, true, true, true, true, true, true, true, true, true, true, false, false, false, false, false, false, false, false, false, false, false, false, false, false] rfl rfl (one_of HT_.out (by kernel_rfl)) (by decide) (fun K hK => ?_)
                      refine goes_ Tryd.func28 (by kernel_rfl) rfl #[.agg #[.int .i64 s.f0, .int .i64 s.f1, .slice A s.f2.length cp]] (by rfl) rfl rfl (by simp only [List.map_toArray, List.map_cons, List.map_nil]; rfl) ?_
                      with_reducible refine (HN1.out _ (HB5.out.trans (HBc16.out.mono HB5.out.size))).mono ?_
                      rintro e_ wc20 ⟨vn, rfl, hR, hB⟩
                      have HBc20 := Aside0.mk (show Below W5.heap.size W5 wc20 from HBc16.out.trans (hB.mono HBc16.out.size))
                      obtain ⟨An, cn, e1_, hcn, hCn⟩ := Kd.N_reads hR
                      subst e1_
                      have HCn := Aside0.mk hCn
                      clear hCn hR
                      clear hB
                      have hkF20 := (HBc20.out.block _ (blk_lt HF5.out)).trans HF5.out
                      have hkL20 := (HBc20.out.block _ (blk_lt HL5.out)).trans HL5.out
                      refine ⟨_, rfl, ?_⟩
                      refine hK.out _ _ ⟨((blk_cell hkF20 0).trans rfl), ((blk_cell hkF20 1).trans rfl), ((blk_cell hkF20 2).trans rfl), ((blk_cell hkL20 0).trans rfl), ((blk_cell hkL20 1).trans rfl)⟩ (fun hHeld => ?_)
                      clear hK K
                      refine norm_ (a' := ?_) ?_ ?_
                      rotate_left
                      · show Act.put _ (some 98) _ = _
                        simp only [Act.put, List.setIfInBounds_toArray, List.set_cons_zero, List.set_cons_succ, i64_w, i32_w]
                        rfl
                      refine one_ (i := 22) (N := some 100) #[true, true, true, true, true, true, true, true, true, true, true, true, true, true, true, true, true, true, true, true, true, true, true, false, false, false, false, false, false, false, false, false, false, false, false, false] rfl rfl (one_of HT_.out (by kernel_rfl)) (by decide) (fun K hK => ?_)
                      refine goes_ Tryd.func29 (by kernel_rfl) rfl #[.agg #[.int .i64 s.f0, .int .i64 s.f1, .slice A s.f2.length cp]] (by rfl) rfl rfl (by simp only [List.map_toArray, List.map_cons, List.map_nil]; rfl) ?_
                      with_reducible refine (HN2.out _ (HB5.out.trans (HBc20.out.mono HB5.out.size))).mono ?_
                      rintro e_ wc22 ⟨vm, rfl, hR, hB⟩
                      have HBc22 := Aside0.mk (show Below W5.heap.size W5 wc22 from HBc20.out.trans (hB.mono HBc20.out.size))
                      obtain ⟨Am, cm, e1_⟩ := Kd.V_slice hR
                      subst e1_
                      obtain ⟨_, hcm9, hCm⟩ := Kd.V_reads' hR
                      have HCm := Aside0.mk hCm
                      have HCn := Aside0.mk (Kd.C_below HCn.out hB)
                      clear hCm hR
                      clear hB
                      have hkF22 := (HBc22.out.block _ (blk_lt HF5.out)).trans HF5.out
                      have hkL22 := (HBc22.out.block _ (blk_lt HL5.out)).trans HL5.out
                      refine ⟨_, rfl, ?_⟩
                      refine hK.out _ _ ⟨((blk_cell hkF22 0).trans rfl), ((blk_cell hkF22 1).trans rfl), ((blk_cell hkF22 2).trans rfl), ((blk_cell hkL22 0).trans rfl), ((blk_cell hkL22 1).trans rfl)⟩ (fun hHeld => ?_)
                      clear hK K
                      refine norm_ (a' := ?_) ?_ ?_
                      rotate_left
                      · show Act.put _ (some 100) _ = _
                        simp only [Act.put, List.setIfInBounds_toArray, List.set_cons_zero, List.set_cons_succ, i64_w, i32_w]
                        rfl
                      refine one_ (i := 23) (N := some 101) #[true, true, true, true, true, true, true, true, true, true, true, true, true, true, true, true, true, true, true, true, true, true, true, true, false, false, false, false, false, false, false, false, false, false, false, false] rfl rfl (one_of HT_.out (by kernel_rfl)) (by decide) (fun K hK => ?_)
                      refine goes_ Tryd.func22 (by kernel_rfl) rfl #[.agg #[.int .i64 NS.f0, .int .i64 NS.f1, .slice An NS.f2.length cn], .agg #[.int .i64 NS.f0, .int .i64 NS.f1, .slice Am NS.f2.length cm]] (by rfl) rfl rfl (by simp only [List.map_toArray, List.map_cons, List.map_nil]; rfl) ?_
                      with_reducible refine (parryref22_Same.calls kN NS.f0 NS.f1 An cn NS.f2 NS.f0 NS.f1 Am cm NS.f2 false _ HCn.out hcn HCm.out hcm9 HKN.out).mono ?_
                      rintro e_ wc23 ⟨rfl, hB⟩
                      have HBc23 := Aside0.mk (show Below W5.heap.size W5 wc23 from HBc22.out.trans (hB.mono HBc22.out.size))
                      clear hB
                      have hkF23 := (HBc23.out.block _ (blk_lt HF5.out)).trans HF5.out
                      have hkL23 := (HBc23.out.block _ (blk_lt HL5.out)).trans HL5.out
                      refine ⟨_, rfl, ?_⟩
                      refine hK.out _ _ ⟨((blk_cell hkF23 0).trans rfl), ((blk_cell hkF23 1).trans rfl), ((blk_cell hkF23 2).trans rfl), ((blk_cell hkL23 0).trans rfl), ((blk_cell hkL23 1).trans rfl)⟩ (fun hHeld => ?_)
                      clear hK K
                      refine norm_ (a' := ?_) ?_ ?_
                      rotate_left
                      · show Act.put _ (some 101) _ = _
                        simp only [Act.put, List.setIfInBounds_toArray, List.set_cons_zero, List.set_cons_succ, i64_w, i32_w]
                        rfl
                      refine pure_ (i := 24) (N := some 102) (v := ?_) (a' := ?_) #[true, true, true, true, true, true, true, true, true, true, true, true, true, true, true, true, true, true, true, true, true, true, true, true, true, false, false, false, false, false, false, false, false, false, false, false] rfl rfl (any_of HT_.out (by kernel_rfl)) (fun _ _ _ h => h) (Or.inl ⟨by rfl, ?_⟩) ?_ ?_
                      rotate_left
                      · intro w'
                        go_simp
                        with_reducible rfl
                      rotate_left
                      · simp only [Act.put, List.setIfInBounds_toArray, List.set_cons_zero, List.set_cons_succ, i64_w, i32_w]
                        rfl
                      refine pure_ (i := 25) (N := some 103) (v := ?_) (a' := ?_) #[true, true, true, true, true, true, true, true, true, true, true, true, true, true, true, true, true, true, true, true, true, true, true, true, true, true, false, false, false, false, false, false, false, false, false, false] rfl rfl (any_of HT_.out (by kernel_rfl)) (fun _ _ _ h => h) (Or.inl ⟨by rfl, ?_⟩) ?_ ?_
                      rotate_left
                      · intro w'
                        go_simp
                        with_reducible rfl
                      rotate_left
                      · simp only [Act.put, List.setIfInBounds_toArray, List.set_cons_zero, List.set_cons_succ, i64_w, i32_w]
                        rfl
                      refine take_ (i := 26) (N := some 104) (v := ?_) (a' := ?_) #[true, true, true, true, true, true, true, true, true, true, true, true, true, true, true, true, true, true, true, true, true, true, true, true, true, true, true, false, false, false, false, false, false, false, false, false] rfl rfl (take_ofW HT_.out HW_.out (by kernel_rfl)) (fun _ _ _ h => h) (Or.inl ⟨by rfl, ?_⟩) hHeld ?_ ?_
                      rotate_left
                      · rintro w' ⟨s0, s1, s2, s3, s4⟩
                        go_simp
                        with_reducible rfl
                      rotate_left
                      · simp only [Act.put, List.setIfInBounds_toArray, List.set_cons_zero, List.set_cons_succ, i64_w, i32_w]
                        rfl
                      refine one_ (i := 27) (N := some 105) #[true, true, true, true, true, true, true, true, true, true, true, true, true, true, true, true, true, true, true, true, true, true, true, true, true, true, true, true, false, false, false, false, false, false, false, false] rfl rfl (one_of HT_.out (by kernel_rfl)) (by decide) (fun K hK => ?_)
                      refine goes_ Tryd.func29 (by kernel_rfl) rfl #[.agg #[.int .i64 s.f0, .int .i64 s.f1, .slice A s.f2.length cp]] (by rfl) rfl rfl (by simp only [List.map_toArray, List.map_cons, List.map_nil]; rfl) ?_
                      with_reducible refine (HN2.out _ (HB5.out.trans (HBc23.out.mono HB5.out.size))).mono ?_
                      rintro e_ wc27 ⟨vq, rfl, hR, hB⟩
                      have HBc27 := Aside0.mk (show Below W5.heap.size W5 wc27 from HBc23.out.trans (hB.mono HBc23.out.size))
                      obtain ⟨Aq, cq9, e1_⟩ := Kd.V_slice hR
                      subst e1_
                      obtain ⟨_, hcq9, hCq⟩ := Kd.V_reads' hR
                      have HCq := Aside0.mk hCq
                      clear hCq hR
                      clear hB
                      have hkF27 := (HBc27.out.block _ (blk_lt HF5.out)).trans HF5.out
                      have hkL27 := (HBc27.out.block _ (blk_lt HL5.out)).trans HL5.out
                      refine ⟨_, rfl, ?_⟩
                      refine hK.out _ _ ⟨((blk_cell hkF27 0).trans rfl), ((blk_cell hkF27 1).trans rfl), ((blk_cell hkF27 2).trans rfl), ((blk_cell hkL27 0).trans rfl), ((blk_cell hkL27 1).trans rfl)⟩ (fun hHeld => ?_)
                      clear hK K
                      refine norm_ (a' := ?_) ?_ ?_
                      rotate_left
                      · show Act.put _ (some 105) _ = _
                        simp only [Act.put, List.setIfInBounds_toArray, List.set_cons_zero, List.set_cons_succ, i64_w, i32_w]
                        rfl
                      refine one_ (i := 28) (N := some 106) #[true, true, true, true, true, true, true, true, true, true, true, true, true, true, true, true, true, true, true, true, true, true, true, true, true, true, true, true, true, false, false, false, false, false, false, false] rfl rfl (one_of HT_.out (by kernel_rfl)) (by decide) (fun K hK => ?_)
                      refine goes_ Tryd.func20 (by kernel_rfl) rfl #[.agg #[.int .i64 NS.f0, .int .i64 NS.f1, .slice Aq NS.f2.length cq9]] (by rfl) rfl rfl (by simp only [List.map_toArray, List.map_cons, List.map_nil]; rfl) ?_
                      with_reducible refine (parryref22_May.calls kQ NS.f0 NS.f1 Aq cq9 NS.f2 mn _ HCq.out hcq9 HKQ.out).mono ?_
                      rintro e_ wc28 ⟨rfl, hB⟩
                      have HBc28 := Aside0.mk (show Below W5.heap.size W5 wc28 from HBc27.out.trans (hB.mono HBc27.out.size))
                      clear hB
                      have hkF28 := (HBc28.out.block _ (blk_lt HF5.out)).trans HF5.out
                      have hkL28 := (HBc28.out.block _ (blk_lt HL5.out)).trans HL5.out
                      refine ⟨_, rfl, ?_⟩
                      refine hK.out _ _ ⟨((blk_cell hkF28 0).trans rfl), ((blk_cell hkF28 1).trans rfl), ((blk_cell hkF28 2).trans rfl), ((blk_cell hkL28 0).trans rfl), ((blk_cell hkL28 1).trans rfl)⟩ (fun hHeld => ?_)
                      clear hK K
                      refine norm_ (a' := ?_) ?_ ?_
                      rotate_left
                      · show Act.put _ (some 106) _ = _
                        simp only [Act.put, List.setIfInBounds_toArray, List.set_cons_zero, List.set_cons_succ, i64_w, i32_w]
                        rfl
                      refine pure_ (i := 29) (N := some 107) (v := ?_) (a' := ?_) #[true, true, true, true, true, true, true, true, true, true, true, true, true, true, true, true, true, true, true, true, true, true, true, true, true, true, true, true, true, true, false, false, false, false, false, false] rfl rfl (any_of HT_.out (by kernel_rfl)) (fun _ _ _ h => h) (Or.inl ⟨by rfl, ?_⟩) ?_ ?_
                      rotate_left
                      · intro w'
                        go_simp
                        with_reducible rfl
                      rotate_left
                      · simp only [Act.put, List.setIfInBounds_toArray, List.set_cons_zero, List.set_cons_succ, i64_w, i32_w]
                        rfl
                      refine pure_ (i := 30) (N := some 108) (v := ?_) (a' := ?_) #[true, true, true, true, true, true, true, true, true, true, true, true, true, true, true, true, true, true, true, true, true, true, true, true, true, true, true, true, true, true, true, false, false, false, false, false] rfl rfl (any_of HT_.out (by kernel_rfl)) (fun _ _ _ h => h) (Or.inl ⟨by rfl, ?_⟩) ?_ ?_
                      rotate_left
                      · intro w'
                        go_simp
                        with_reducible rfl
                      rotate_left
                      · simp only [Act.put, List.setIfInBounds_toArray, List.set_cons_zero, List.set_cons_succ, i64_w, i32_w]
                        rfl
                      refine pure_ (i := 31) (N := some 109) (v := ?_) (a' := ?_) #[true, true, true, true, true, true, true, true, true, true, true, true, true, true, true, true, true, true, true, true, true, true, true, true, true, true, true, true, true, true, true, true, false, false, false, false] rfl rfl (any_of HT_.out (by kernel_rfl)) (fun _ _ _ h => h) (Or.inl ⟨by rfl, ?_⟩) ?_ ?_
                      rotate_left
                      · intro w'
                        go_simp
                        with_reducible rfl
                      rotate_left
                      · simp only [Act.put, List.setIfInBounds_toArray, List.set_cons_zero, List.set_cons_succ, i64_w, i32_w]
                        rfl
                      refine pure_ (i := 32) (N := some 110) (v := ?_) (a' := ?_) #[true, true, true, true, true, true, true, true, true, true, true, true, true, true, true, true, true, true, true, true, true, true, true, true, true, true, true, true, true, true, true, true, true, false, false, false] rfl rfl (any_of HT_.out (by kernel_rfl)) (fun _ _ _ h => h) (Or.inl ⟨by rfl, ?_⟩) ?_ ?_
                      rotate_left
                      · intro w'
                        go_simp
                        with_reducible rfl
                      rotate_left
                      · simp only [Act.put, List.setIfInBounds_toArray, List.set_cons_zero, List.set_cons_succ, i64_w, i32_w]
                        rfl
                      refine one_ (i := 33) (N := some 111) #[true, true, true, true, true, true, true, true, true, true, true, true, true, true, true, true, true, true, true, true, true, true, true, true, true, true, true, true, true, true, true, true, true, true, false, false] rfl rfl (one_of HT_.out (by kernel_rfl)) (by decide) (fun K hK => ?_)
                      refine goes_ Tryd.func11 (by kernel_rfl) rfl #[] (by rfl) rfl rfl (by first | rfl | simp) ?_
                      with_reducible refine (awake_calls _).mono ?_
                      rintro e_ wc33 ⟨rfl, hB⟩
                      have HBc33 := Aside0.mk (show Below W5.heap.size W5 wc33 from HBc28.out.trans (hB.mono HBc28.out.size))
                      clear hB
                      have hkF33 := (HBc33.out.block _ (blk_lt HF5.out)).trans HF5.out
                      have hkL33 := (HBc33.out.block _ (blk_lt HL5.out)).trans HL5.out
                      refine ⟨_, rfl, ?_⟩
                      refine hK.out _ _ ⟨((blk_cell hkF33 0).trans rfl), ((blk_cell hkF33 1).trans rfl), ((blk_cell hkF33 2).trans rfl), ((blk_cell hkL33 0).trans rfl), ((blk_cell hkL33 1).trans rfl)⟩ (fun hHeld => ?_)
                      clear hK K
                      refine norm_ (a' := ?_) ?_ ?_
                      rotate_left
                      · show Act.put _ (some 111) _ = _
                        simp only [Act.put, List.setIfInBounds_toArray, List.set_cons_zero, List.set_cons_succ, i64_w, i32_w]
                        rfl
                      refine pure_ (i := 34) (N := some 112) (v := ?_) (a' := ?_) #[true, true, true, true, true, true, true, true, true, true, true, true, true, true, true, true, true, true, true, true, true, true, true, true, true, true, true, true, true, true, true, true, true, true, true, false] rfl rfl (any_of HT_.out (by kernel_rfl)) (fun _ _ _ h => h) (Or.inl ⟨by rfl, ?_⟩) ?_ ?_
                      rotate_left
                      · intro w'
                        go_simp
                        with_reducible rfl
                      rotate_left
                      · simp only [Act.put, List.setIfInBounds_toArray, List.set_cons_zero, List.set_cons_succ, i64_w, i32_w]
                        rfl
                      refine pure_ (i := 35) (N := some 6) (v := ?_) (a' := ?_) #[true, true, true, true, true, true, true, true, true, true, true, true, true, true, true, true, true, true, true, true, true, true, true, true, true, true, true, true, true, true, true, true, true, true, true, true] rfl rfl (any_of HT_.out (by kernel_rfl)) (fun _ _ _ h => h) (Or.inl ⟨by rfl, ?_⟩) ?_ ?_
                      rotate_left
                      · intro w'
                        go_simp
                        with_reducible rfl
                      rotate_left
                      · simp only [Act.put, List.setIfInBounds_toArray, List.set_cons_zero, List.set_cons_succ, i64_w, i32_w]
                        rfl
                      refine done_ (done_of HT_.out (by kernel_rfl)) ?_
                      go_wp2_with fail
                      go_ret
                      exact ⟨rfl, HB5.out.trans (HBc33.out.mono HB5.out.size)⟩
                · have bm : (m != 0) = true := by simpa using em
                  clear em HNE HCK HNZ HBIG
                  as_aux_lemma =>
                    go_upto_region 12 with fail
                    refine start_ (n := 36) (S := fun w' => w'.cell? ⟨w.heap.size, 0, none⟩ = some (.int .i64 s.f0) ∧ w'.cell? ⟨w.heap.size, 1, none⟩ = some (.int .i64 s.f1) ∧ w'.cell? ⟨w.heap.size, 2, none⟩ = some (.slice A s.f2.length cp) ∧ w'.cell? ⟨w.heap.size + 1 + 1, 0, none⟩ = some (.slice A1 st.length c1) ∧ w'.cell? ⟨w.heap.size + 1 + 1, 1, none⟩ = some (.slice A2 lp.length c2)) (ds := []) #[false, false, false, false, false, false, false, false, false, false, false, false, false, false, false, false, false, false, false, false, false, false, false, false, false, false, false, false, false, false, false, false, false, false, false, false] (by kernel_rfl) rfl rfl ⟨((blk_cell HF5.out 0).trans rfl), ((blk_cell HF5.out 1).trans rfl), ((blk_cell HF5.out 2).trans rfl), ((blk_cell HL5.out 0).trans rfl), ((blk_cell HL5.out 1).trans rfl)⟩ (fun hHeld => ?_)
                    refine with_tabW ffo.tab12 ffo.bits12 (fun HT_ HW_ => ?_)
                    refine take_ (i := 0) (N := some 78) (v := ?_) (a' := ?_) #[true, false, false, false, false, false, false, false, false, false, false, false, false, false, false, false, false, false, false, false, false, false, false, false, false, false, false, false, false, false, false, false, false, false, false, false] rfl rfl (take_ofW HT_.out HW_.out (by kernel_rfl)) (fun _ _ _ h => h) (Or.inl ⟨by rfl, ?_⟩) hHeld ?_ ?_
                    rotate_left
                    · rintro w' ⟨s0, s1, s2, s3, s4⟩
                      go_simp
                      with_reducible rfl
                    rotate_left
                    · simp only [Act.put, List.setIfInBounds_toArray, List.set_cons_zero, List.set_cons_succ, i64_w, i32_w]
                      rfl
                    refine take_ (i := 1) (N := some 79) (v := ?_) (a' := ?_) #[true, true, false, false, false, false, false, false, false, false, false, false, false, false, false, false, false, false, false, false, false, false, false, false, false, false, false, false, false, false, false, false, false, false, false, false] rfl rfl (take_ofW HT_.out HW_.out (by kernel_rfl)) (fun _ _ _ h => h) (Or.inl ⟨by rfl, ?_⟩) hHeld ?_ ?_
                    rotate_left
                    · rintro w' ⟨s0, s1, s2, s3, s4⟩
                      go_simp
                      with_reducible rfl
                    rotate_left
                    · simp only [Act.put, List.setIfInBounds_toArray, List.set_cons_zero, List.set_cons_succ, i64_w, i32_w]
                      rfl
                    refine take_ (i := 3) (N := some 81) (v := ?_) (a' := ?_) #[true, true, false, true, false, false, false, false, false, false, false, false, false, false, false, false, false, false, false, false, false, false, false, false, false, false, false, false, false, false, false, false, false, false, false, false] rfl rfl (take_ofW HT_.out HW_.out (by kernel_rfl)) (fun _ _ _ h => h) (Or.inl ⟨by rfl, ?_⟩) hHeld ?_ ?_
                    rotate_left
                    · rintro w' ⟨s0, s1, s2, s3, s4⟩
                      go_simp
                      with_reducible rfl
                    rotate_left
                    · simp only [Act.put, List.setIfInBounds_toArray, List.set_cons_zero, List.set_cons_succ, i64_w, i32_w]
                      rfl
                    refine take_ (i := 4) (N := some 82) (v := ?_) (a' := ?_) #[true, true, false, true, true, false, false, false, false, false, false, false, false, false, false, false, false, false, false, false, false, false, false, false, false, false, false, false, false, false, false, false, false, false, false, false] rfl rfl (take_ofW HT_.out HW_.out (by kernel_rfl)) (fun _ _ _ h => h) (Or.inl ⟨by rfl, ?_⟩) hHeld ?_ ?_
                    rotate_left
                    · rintro w' ⟨s0, s1, s2, s3, s4⟩
                      go_simp
                      with_reducible rfl
                    rotate_left
                    · simp only [Act.put, List.setIfInBounds_toArray, List.set_cons_zero, List.set_cons_succ, i64_w, i32_w]
                      rfl
                    refine one_ (i := 2) (N := some 80) #[true, true, true, true, true, false, false, false, false, false, false, false, false, false, false, false, false, false, false, false, false, false, false, false, false, false, false, false, false, false, false, false, false, false, false, false] rfl rfl (one_of HT_.out (by kernel_rfl)) (by decide) (fun K hK => ?_)
                    refine goes_ Tryd.func17 (by kernel_rfl) rfl #[.agg #[.int .i64 s.f0, .int .i64 s.f1, .slice A s.f2.length cp], .agg #[.slice A1 st.length c1, .slice A2 lp.length c2]] (by rfl) rfl rfl (by simp only [List.map_toArray, List.map_cons, List.map_nil]; rfl) ?_
                    with_reducible refine (HH1.out _ (HB5.out.trans ((show Below W5.heap.size W5 W5.drew from below_drew1 (Below.refl _ _)).mono HB5.out.size))).mono ?_
                    rintro e_ wc2 ⟨rfl, hB⟩
                    have HBc2 := Aside0.mk (show Below W5.heap.size W5 wc2 from (below_drew1 (Below.refl _ _)).trans hB)
                    clear hB
                    have hkF2 := (HBc2.out.block _ (blk_lt HF5.out)).trans HF5.out
                    have hkL2 := (HBc2.out.block _ (blk_lt HL5.out)).trans HL5.out
                    refine ⟨_, rfl, ?_⟩
                    refine hK.out _ _ ⟨((blk_cell hkF2 0).trans rfl), ((blk_cell hkF2 1).trans rfl), ((blk_cell hkF2 2).trans rfl), ((blk_cell hkL2 0).trans rfl), ((blk_cell hkL2 1).trans rfl)⟩ (fun hHeld => ?_)
                    clear hK K
                    refine norm_ (a' := ?_) ?_ ?_
                    rotate_left
                    · show Act.put _ (some 80) _ = _
                      simp only [Act.put, List.setIfInBounds_toArray, List.set_cons_zero, List.set_cons_succ, i64_w, i32_w]
                      rfl
                    refine one_ (i := 5) (N := some 83) #[true, true, true, true, true, true, false, false, false, false, false, false, false, false, false, false, false, false, false, false, false, false, false, false, false, false, false, false, false, false, false, false, false, false, false, false] rfl rfl (one_of HT_.out (by kernel_rfl)) (by decide) (fun K hK => ?_)
                    refine goes_ Tryd.func25 (by kernel_rfl) rfl #[.agg #[.int .i64 s.f0, .int .i64 s.f1, .slice A s.f2.length cp], .agg #[.slice A1 st.length c1, .slice A2 lp.length c2]] (by rfl) rfl rfl (by simp only [List.map_toArray, List.map_cons, List.map_nil]; rfl) ?_
                    with_reducible refine (HH2.out _ (HB5.out.trans (HBc2.out.mono HB5.out.size))).mono ?_
                    rintro e_ wc5 ⟨rfl, hB⟩
                    have HBc5 := Aside0.mk (show Below W5.heap.size W5 wc5 from HBc2.out.trans (hB.mono HBc2.out.size))
                    clear hB
                    have hkF5 := (HBc5.out.block _ (blk_lt HF5.out)).trans HF5.out
                    have hkL5 := (HBc5.out.block _ (blk_lt HL5.out)).trans HL5.out
                    refine ⟨_, rfl, ?_⟩
                    refine hK.out _ _ ⟨((blk_cell hkF5 0).trans rfl), ((blk_cell hkF5 1).trans rfl), ((blk_cell hkF5 2).trans rfl), ((blk_cell hkL5 0).trans rfl), ((blk_cell hkL5 1).trans rfl)⟩ (fun hHeld => ?_)
                    clear hK K
                    refine norm_ (a' := ?_) ?_ ?_
                    rotate_left
                    · show Act.put _ (some 83) _ = _
                      simp only [Act.put, List.setIfInBounds_toArray, List.set_cons_zero, List.set_cons_succ, i64_w, i32_w]
                      rfl
                    refine pure_ (i := 6) (N := some 84) (v := ?_) (a' := ?_) #[true, true, true, true, true, true, true, false, false, false, false, false, false, false, false, false, false, false, false, false, false, false, false, false, false, false, false, false, false, false, false, false, false, false, false, false] rfl rfl (any_of HT_.out (by kernel_rfl)) (fun _ _ _ h => h) (Or.inl ⟨by rfl, ?_⟩) ?_ ?_
                    rotate_left
                    · intro w'
                      go_simp
                      with_reducible rfl
                    rotate_left
                    · simp only [Act.put, List.setIfInBounds_toArray, List.set_cons_zero, List.set_cons_succ, i64_w, i32_w]
                      rfl
                    refine pure_ (i := 7) (N := some 85) (v := ?_) (a' := ?_) #[true, true, true, true, true, true, true, true, false, false, false, false, false, false, false, false, false, false, false, false, false, false, false, false, false, false, false, false, false, false, false, false, false, false, false, false] rfl rfl (any_of HT_.out (by kernel_rfl)) (fun _ _ _ h => h) (Or.inl ⟨by rfl, ?_⟩) ?_ ?_
                    rotate_left
                    · intro w'
                      go_simp
                      with_reducible rfl
                    rotate_left
                    · simp only [Act.put, List.setIfInBounds_toArray, List.set_cons_zero, List.set_cons_succ, i64_w, i32_w]
                      rfl
                    refine take_ (i := 8) (N := some 86) (v := ?_) (a' := ?_) #[true, true, true, true, true, true, true, true, true, false, false, false, false, false, false, false, false, false, false, false, false, false, false, false, false, false, false, false, false, false, false, false, false, false, false, false] rfl rfl (take_ofW HT_.out HW_.out (by kernel_rfl)) (fun _ _ _ h => h) (Or.inl ⟨by rfl, ?_⟩) hHeld ?_ ?_
                    rotate_left
                    · rintro w' ⟨s0, s1, s2, s3, s4⟩
                      go_simp
                      with_reducible rfl
                    rotate_left
                    · simp only [Act.put, List.setIfInBounds_toArray, List.set_cons_zero, List.set_cons_succ, i64_w, i32_w]
                      rfl
                    refine take_ (i := 10) (N := some 88) (v := ?_) (a' := ?_) #[true, true, true, true, true, true, true, true, true, false, true, false, false, false, false, false, false, false, false, false, false, false, false, false, false, false, false, false, false, false, false, false, false, false, false, false] rfl rfl (take_ofW HT_.out HW_.out (by kernel_rfl)) (fun _ _ _ h => h) (Or.inl ⟨by rfl, ?_⟩) hHeld ?_ ?_
                    rotate_left
                    · rintro w' ⟨s0, s1, s2, s3, s4⟩
                      go_simp
                      with_reducible rfl
                    rotate_left
                    · simp only [Act.put, List.setIfInBounds_toArray, List.set_cons_zero, List.set_cons_succ, i64_w, i32_w]
                      rfl
                    refine one_ (i := 9) (N := some 87) #[true, true, true, true, true, true, true, true, true, true, true, false, false, false, false, false, false, false, false, false, false, false, false, false, false, false, false, false, false, false, false, false, false, false, false, false] rfl rfl (one_of HT_.out (by kernel_rfl)) (by decide) (fun K hK => ?_)
                    refine goes_ Tryd.func26 (by kernel_rfl) rfl #[.agg #[.int .i64 s.f0, .int .i64 s.f1, .slice A s.f2.length cp]] (by rfl) rfl rfl (by simp only [List.map_toArray, List.map_cons, List.map_nil]; rfl) ?_
                    with_reducible refine (HX1.out _ (HB5.out.trans (HBc5.out.mono HB5.out.size))).mono ?_
                    rintro e_ wc9 ⟨rfl, hB⟩
                    have HBc9 := Aside0.mk (show Below W5.heap.size W5 wc9 from HBc5.out.trans (hB.mono HBc5.out.size))
                    clear hB
                    have hkF9 := (HBc9.out.block _ (blk_lt HF5.out)).trans HF5.out
                    have hkL9 := (HBc9.out.block _ (blk_lt HL5.out)).trans HL5.out
                    refine ⟨_, rfl, ?_⟩
                    refine hK.out _ _ ⟨((blk_cell hkF9 0).trans rfl), ((blk_cell hkF9 1).trans rfl), ((blk_cell hkF9 2).trans rfl), ((blk_cell hkL9 0).trans rfl), ((blk_cell hkL9 1).trans rfl)⟩ (fun hHeld => ?_)
                    clear hK K
                    refine norm_ (a' := ?_) ?_ ?_
                    rotate_left
                    · show Act.put _ (some 87) _ = _
                      simp only [Act.put, List.setIfInBounds_toArray, List.set_cons_zero, List.set_cons_succ, i64_w, i32_w]
                      rfl
                    refine one_ (i := 11) (N := some 89) #[true, true, true, true, true, true, true, true, true, true, true, true, false, false, false, false, false, false, false, false, false, false, false, false, false, false, false, false, false, false, false, false, false, false, false, false] rfl rfl (one_of HT_.out (by kernel_rfl)) (by decide) (fun K hK => ?_)
                    refine goes_ Tryd.func27 (by kernel_rfl) rfl #[.agg #[.int .i64 s.f0, .int .i64 s.f1, .slice A s.f2.length cp]] (by rfl) rfl rfl (by simp only [List.map_toArray, List.map_cons, List.map_nil]; rfl) ?_
                    with_reducible refine (HX2.out _ (HB5.out.trans (HBc9.out.mono HB5.out.size))).mono ?_
                    rintro e_ wc11 ⟨rfl, hB⟩
                    have HBc11 := Aside0.mk (show Below W5.heap.size W5 wc11 from HBc9.out.trans (hB.mono HBc9.out.size))
                    clear hB
                    have hkF11 := (HBc11.out.block _ (blk_lt HF5.out)).trans HF5.out
                    have hkL11 := (HBc11.out.block _ (blk_lt HL5.out)).trans HL5.out
                    refine ⟨_, rfl, ?_⟩
                    refine hK.out _ _ ⟨((blk_cell hkF11 0).trans rfl), ((blk_cell hkF11 1).trans rfl), ((blk_cell hkF11 2).trans rfl), ((blk_cell hkL11 0).trans rfl), ((blk_cell hkL11 1).trans rfl)⟩ (fun hHeld => ?_)
                    clear hK K
                    refine norm_ (a' := ?_) ?_ ?_
                    rotate_left
                    · show Act.put _ (some 89) _ = _
                      simp only [Act.put, List.setIfInBounds_toArray, List.set_cons_zero, List.set_cons_succ, i64_w, i32_w]
                      rfl
                    refine pure_ (i := 12) (N := some 90) (v := ?_) (a' := ?_) #[true, true, true, true, true, true, true, true, true, true, true, true, true, false, false, false, false, false, false, false, false, false, false, false, false, false, false, false, false, false, false, false, false, false, false, false] rfl rfl (any_of HT_.out (by kernel_rfl)) (fun _ _ _ h => h) (Or.inl ⟨by rfl, ?_⟩) ?_ ?_
                    rotate_left
                    · intro w'
                      go_simp
                      with_reducible rfl
                    rotate_left
                    · simp only [Act.put, List.setIfInBounds_toArray, List.set_cons_zero, List.set_cons_succ, i64_w, i32_w]
                      rfl
                    refine pure_ (i := 13) (N := some 91) (v := ?_) (a' := ?_) #[true, true, true, true, true, true, true, true, true, true, true, true, true, true, false, false, false, false, false, false, false, false, false, false, false, false, false, false, false, false, false, false, false, false, false, false] rfl rfl (any_of HT_.out (by kernel_rfl)) (fun _ _ _ h => h) (Or.inl ⟨by rfl, ?_⟩) ?_ ?_
                    rotate_left
                    · intro w'
                      go_simp
                      with_reducible rfl
                    rotate_left
                    · simp only [Act.put, List.setIfInBounds_toArray, List.set_cons_zero, List.set_cons_succ, i64_w, i32_w]
                      rfl
                    refine pure_ (i := 14) (N := some 92) (v := ?_) (a' := ?_) #[true, true, true, true, true, true, true, true, true, true, true, true, true, true, true, false, false, false, false, false, false, false, false, false, false, false, false, false, false, false, false, false, false, false, false, false] rfl rfl (any_of HT_.out (by kernel_rfl)) (fun _ _ _ h => h) (Or.inl ⟨by rfl, ?_⟩) ?_ ?_
                    rotate_left
                    · intro w'
                      go_simp
                      with_reducible rfl
                    rotate_left
                    · simp only [Act.put, List.setIfInBounds_toArray, List.set_cons_zero, List.set_cons_succ, i64_w, i32_w]
                      rfl
                    refine take_ (i := 15) (N := some 93) (v := ?_) (a' := ?_) #[true, true, true, true, true, true, true, true, true, true, true, true, true, true, true, true, false, false, false, false, false, false, false, false, false, false, false, false, false, false, false, false, false, false, false, false] rfl rfl (take_ofW HT_.out HW_.out (by kernel_rfl)) (fun _ _ _ h => h) (Or.inl ⟨by rfl, ?_⟩) hHeld ?_ ?_
                    rotate_left
                    · rintro w' ⟨s0, s1, s2, s3, s4⟩
                      go_simp
                      with_reducible rfl
                    rotate_left
                    · simp only [Act.put, List.setIfInBounds_toArray, List.set_cons_zero, List.set_cons_succ, i64_w, i32_w]
                      rfl
                    refine one_ (i := 16) (N := some 94) #[true, true, true, true, true, true, true, true, true, true, true, true, true, true, true, true, true, false, false, false, false, false, false, false, false, false, false, false, false, false, false, false, false, false, false, false] rfl rfl (one_of HT_.out (by kernel_rfl)) (by decide) (fun K hK => ?_)
                    refine goes_ Tryd.func20 (by kernel_rfl) rfl #[.agg #[.int .i64 s.f0, .int .i64 s.f1, .slice A s.f2.length cp]] (by rfl) rfl rfl (by simp only [List.map_toArray, List.map_cons, List.map_nil]; rfl) ?_
                    with_reducible refine (HM2.out _ (HB5.out.trans (HBc11.out.mono HB5.out.size))).mono ?_
                    rintro e_ wc16 ⟨rfl, hB⟩
                    have HBc16 := Aside0.mk (show Below W5.heap.size W5 wc16 from HBc11.out.trans (hB.mono HBc11.out.size))
                    clear hB
                    have hkF16 := (HBc16.out.block _ (blk_lt HF5.out)).trans HF5.out
                    have hkL16 := (HBc16.out.block _ (blk_lt HL5.out)).trans HL5.out
                    refine ⟨_, rfl, ?_⟩
                    refine hK.out _ _ ⟨((blk_cell hkF16 0).trans rfl), ((blk_cell hkF16 1).trans rfl), ((blk_cell hkF16 2).trans rfl), ((blk_cell hkL16 0).trans rfl), ((blk_cell hkL16 1).trans rfl)⟩ (fun hHeld => ?_)
                    clear hK K
                    refine norm_ (a' := ?_) ?_ ?_
                    rotate_left
                    · show Act.put _ (some 94) _ = _
                      simp only [Act.put, List.setIfInBounds_toArray, List.set_cons_zero, List.set_cons_succ, i64_w, i32_w]
                      rfl
                    refine pure_ (i := 17) (N := some 95) (v := ?_) (a' := ?_) #[true, true, true, true, true, true, true, true, true, true, true, true, true, true, true, true, true, true, false, false, false, false, false, false, false, false, false, false, false, false, false, false, false, false, false, false] rfl rfl (any_of HT_.out (by kernel_rfl)) (fun _ _ _ h => h) (Or.inl ⟨by rfl, ?_⟩) ?_ ?_
                    rotate_left
                    · intro w'
                      go_simp
                      with_reducible rfl
                    rotate_left
                    · simp only [Act.put, List.setIfInBounds_toArray, List.set_cons_zero, List.set_cons_succ, i64_w, i32_w]
                      rfl
                    refine pure_ (i := 18) (N := some 96) (v := ?_) (a' := ?_) #[true, true, true, true, true, true, true, true, true, true, true, true, true, true, true, true, true, true, true, false, false, false, false, false, false, false, false, false, false, false, false, false, false, false, false, false] rfl rfl (any_of HT_.out (by kernel_rfl)) (fun _ _ _ h => h) (Or.inl ⟨by rfl, ?_⟩) ?_ ?_
                    rotate_left
                    · intro w'
                      go_simp
                      with_reducible rfl
                    rotate_left
                    · simp only [Act.put, List.setIfInBounds_toArray, List.set_cons_zero, List.set_cons_succ, i64_w, i32_w]
                      rfl
                    refine pure_ (i := 19) (N := some 97) (v := undef) (a' := ?_) #[true, true, true, true, true, true, true, true, true, true, true, true, true, true, true, true, true, true, true, true, false, false, false, false, false, false, false, false, false, false, false, false, false, false, false, false] rfl rfl (any_of HT_.out (by kernel_rfl)) (fun _ _ _ h => h) (Or.inr ⟨by rfl, rfl⟩) ?_ ?_
                    rotate_left
                    · simp only [Act.put, List.setIfInBounds_toArray, List.set_cons_zero, List.set_cons_succ, i64_w, i32_w]
                      rfl
                    refine pure_ (i := 20) (N := some 98) (v := undef) (a' := ?_) #[true, true, true, true, true, true, true, true, true, true, true, true, true, true, true, true, true, true, true, true, true, false, false, false, false, false, false, false, false, false, false, false, false, false, false, false] rfl rfl (any_of HT_.out (by kernel_rfl)) (fun _ _ _ h => h) (Or.inr ⟨by rfl, rfl⟩) ?_ ?_
                    rotate_left
                    · simp only [Act.put, List.setIfInBounds_toArray, List.set_cons_zero, List.set_cons_succ, i64_w, i32_w]
                      rfl
                    refine pure_ (i := 21) (N := some 99) (v := undef) (a' := ?_) #[true, true, true, true, true, true, true, true, true, true, true, true, true, true, true, true, true, true, true, true, true, true, false, false, false, false, false, false, false, false, false, false, false, false, false, false] rfl rfl (any_of HT_.out (by kernel_rfl)) (fun _ _ _ h => h) (Or.inr ⟨by rfl, rfl⟩) ?_ ?_
                    rotate_left
                    · simp only [Act.put, List.setIfInBounds_toArray, List.set_cons_zero, List.set_cons_succ, i64_w, i32_w]
                      rfl
                    refine pure_ (i := 22) (N := some 100) (v := undef) (a' := ?_) #[true, true, true, true, true, true, true, true, true, true, true, true, true, true, true, true, true, true, true, true, true, true, true, false, false, false, false, false, false, false, false, false, false, false, false, false] rfl rfl (any_of HT_.out (by kernel_rfl)) (fun _ _ _ h => h) (Or.inr ⟨by rfl, rfl⟩) ?_ ?_
                    rotate_left
                    · simp only [Act.put, List.setIfInBounds_toArray, List.set_cons_zero, List.set_cons_succ, i64_w, i32_w]
                      rfl
                    refine pure_ (i := 23) (N := some 101) (v := undef) (a' := ?_) #[true, true, true, true, true, true, true, true, true, true, true, true, true, true, true, true, true, true, true, true, true, true, true, true, false, false, false, false, false, false, false, false, false, false, false, false] rfl rfl (any_of HT_.out (by kernel_rfl)) (fun _ _ _ h => h) (Or.inr ⟨by rfl, rfl⟩) ?_ ?_
                    rotate_left
                    · simp only [Act.put, List.setIfInBounds_toArray, List.set_cons_zero, List.set_cons_succ, i64_w, i32_w]
                      rfl
                    refine pure_ (i := 24) (N := some 102) (v := ?_) (a' := ?_) #[true, true, true, true, true, true, true, true, true, true, true, true, true, true, true, true, true, true, true, true, true, true, true, true, true, false, false, false, false, false, false, false, false, false, false, false] rfl rfl (any_of HT_.out (by kernel_rfl)) (fun _ _ _ h => h) (Or.inl ⟨by rfl, ?_⟩) ?_ ?_
                    rotate_left
                    · intro w'
                      go_simp
                      with_reducible rfl
                    rotate_left
                    · simp only [Act.put, List.setIfInBounds_toArray, List.set_cons_zero, List.set_cons_succ, i64_w, i32_w]
                      rfl
                    refine pure_ (i := 25) (N := some 103) (v := ?_) (a' := ?_) #[true, true, true, true, true, true, true, true, true, true, true, true, true, true, true, true, true, true, true, true, true, true, true, true, true, true, false, false, false, false, false, false, false, false, false, false] rfl rfl (any_of HT_.out (by kernel_rfl)) (fun _ _ _ h => h) (Or.inl ⟨by rfl, ?_⟩) ?_ ?_
                    rotate_left
                    · intro w'
                      go_simp
                      with_reducible rfl
                    rotate_left
                    · simp only [Act.put, List.setIfInBounds_toArray, List.set_cons_zero, List.set_cons_succ, i64_w, i32_w]
                      rfl
                    refine pure_ (i := 26) (N := some 104) (v := undef) (a' := ?_) #[true, true, true, true, true, true, true, true, true, true, true, true, true, true, true, true, true, true, true, true, true, true, true, true, true, true, true, false, false, false, false, false, false, false, false, false] rfl rfl (any_of HT_.out (by kernel_rfl)) (fun _ _ _ h => h) (Or.inr ⟨by rfl, rfl⟩) ?_ ?_
                    rotate_left
                    · simp only [Act.put, List.setIfInBounds_toArray, List.set_cons_zero, List.set_cons_succ, i64_w, i32_w]
                      rfl
                    refine pure_ (i := 27) (N := some 105) (v := undef) (a' := ?_) #[true, true, true, true, true, true, true, true, true, true, true, true, true, true, true, true, true, true, true, true, true, true, true, true, true, true, true, true, false, false, false, false, false, false, false, false] rfl rfl (any_of HT_.out (by kernel_rfl)) (fun _ _ _ h => h) (Or.inr ⟨by rfl, rfl⟩) ?_ ?_
                    rotate_left
                    · simp only [Act.put, List.setIfInBounds_toArray, List.set_cons_zero, List.set_cons_succ, i64_w, i32_w]
                      rfl
                    refine pure_ (i := 28) (N := some 106) (v := undef) (a' := ?_) #[true, true, true, true, true, true, true, true, true, true, true, true, true, true, true, true, true, true, true, true, true, true, true, true, true, true, true, true, true, false, false, false, false, false, false, false] rfl rfl (any_of HT_.out (by kernel_rfl)) (fun _ _ _ h => h) (Or.inr ⟨by rfl, rfl⟩) ?_ ?_
                    rotate_left
                    · simp only [Act.put, List.setIfInBounds_toArray, List.set_cons_zero, List.set_cons_succ, i64_w, i32_w]
                      rfl
                    refine pure_ (i := 29) (N := some 107) (v := undef) (a' := ?_) #[true, true, true, true, true, true, true, true, true, true, true, true, true, true, true, true, true, true, true, true, true, true, true, true, true, true, true, true, true, true, false, false, false, false, false, false] rfl rfl (any_of HT_.out (by kernel_rfl)) (fun _ _ _ h => h) (Or.inr ⟨by rfl, rfl⟩) ?_ ?_
                    rotate_left
                    · simp only [Act.put, List.setIfInBounds_toArray, List.set_cons_zero, List.set_cons_succ, i64_w, i32_w]
                      rfl
                    refine pure_ (i := 30) (N := some 108) (v := ?_) (a' := ?_) #[true, true, true, true, true, true, true, true, true, true, true, true, true, true, true, true, true, true, true, true, true, true, true, true, true, true, true, true, true, true, true, false, false, false, false, false] rfl rfl (any_of HT_.out (by kernel_rfl)) (fun _ _ _ h => h) (Or.inl ⟨by rfl, ?_⟩) ?_ ?_
                    rotate_left
                    · intro w'
                      go_simp
                      with_reducible rfl
                    rotate_left
                    · simp only [Act.put, List.setIfInBounds_toArray, List.set_cons_zero, List.set_cons_succ, i64_w, i32_w]
                      rfl
                    refine pure_ (i := 31) (N := some 109) (v := ?_) (a' := ?_) #[true, true, true, true, true, true, true, true, true, true, true, true, true, true, true, true, true, true, true, true, true, true, true, true, true, true, true, true, true, true, true, true, false, false, false, false] rfl rfl (any_of HT_.out (by kernel_rfl)) (fun _ _ _ h => h) (Or.inl ⟨by rfl, ?_⟩) ?_ ?_
                    rotate_left
                    · intro w'
                      go_simp
                      with_reducible rfl
                    rotate_left
                    · simp only [Act.put, List.setIfInBounds_toArray, List.set_cons_zero, List.set_cons_succ, i64_w, i32_w]
                      rfl
                    refine pure_ (i := 32) (N := some 110) (v := ?_) (a' := ?_) #[true, true, true, true, true, true, true, true, true, true, true, true, true, true, true, true, true, true, true, true, true, true, true, true, true, true, true, true, true, true, true, true, true, false, false, false] rfl rfl (any_of HT_.out (by kernel_rfl)) (fun _ _ _ h => h) (Or.inl ⟨by rfl, ?_⟩) ?_ ?_
                    rotate_left
                    · intro w'
                      go_simp
                      with_reducible rfl
                    rotate_left
                    · simp only [Act.put, List.setIfInBounds_toArray, List.set_cons_zero, List.set_cons_succ, i64_w, i32_w]
                      rfl
                    refine one_ (i := 33) (N := some 111) #[true, true, true, true, true, true, true, true, true, true, true, true, true, true, true, true, true, true, true, true, true, true, true, true, true, true, true, true, true, true, true, true, true, true, false, false] rfl rfl (one_of HT_.out (by kernel_rfl)) (by decide) (fun K hK => ?_)
                    refine goes_ Tryd.func11 (by kernel_rfl) rfl #[] (by rfl) rfl rfl (by first | rfl | simp) ?_
                    with_reducible refine (awake_calls _).mono ?_
                    rintro e_ wc33 ⟨rfl, hB⟩
                    have HBc33 := Aside0.mk (show Below W5.heap.size W5 wc33 from HBc16.out.trans (hB.mono HBc16.out.size))
                    clear hB
                    have hkF33 := (HBc33.out.block _ (blk_lt HF5.out)).trans HF5.out
                    have hkL33 := (HBc33.out.block _ (blk_lt HL5.out)).trans HL5.out
                    refine ⟨_, rfl, ?_⟩
                    refine hK.out _ _ ⟨((blk_cell hkF33 0).trans rfl), ((blk_cell hkF33 1).trans rfl), ((blk_cell hkF33 2).trans rfl), ((blk_cell hkL33 0).trans rfl), ((blk_cell hkL33 1).trans rfl)⟩ (fun hHeld => ?_)
                    clear hK K
                    refine norm_ (a' := ?_) ?_ ?_
                    rotate_left
                    · show Act.put _ (some 111) _ = _
                      simp only [Act.put, List.setIfInBounds_toArray, List.set_cons_zero, List.set_cons_succ, i64_w, i32_w]
                      rfl
                    refine pure_ (i := 34) (N := some 112) (v := ?_) (a' := ?_) #[true, true, true, true, true, true, true, true, true, true, true, true, true, true, true, true, true, true, true, true, true, true, true, true, true, true, true, true, true, true, true, true, true, true, true, false] rfl rfl (any_of HT_.out (by kernel_rfl)) (fun _ _ _ h => h) (Or.inl ⟨by rfl, ?_⟩) ?_ ?_
                    rotate_left
                    · intro w'
                      go_simp
                      with_reducible rfl
                    rotate_left
                    · simp only [Act.put, List.setIfInBounds_toArray, List.set_cons_zero, List.set_cons_succ, i64_w, i32_w]
                      rfl
                    refine pure_ (i := 35) (N := some 6) (v := ?_) (a' := ?_) #[true, true, true, true, true, true, true, true, true, true, true, true, true, true, true, true, true, true, true, true, true, true, true, true, true, true, true, true, true, true, true, true, true, true, true, true] rfl rfl (any_of HT_.out (by kernel_rfl)) (fun _ _ _ h => h) (Or.inl ⟨by rfl, ?_⟩) ?_ ?_
                    rotate_left
                    · intro w'
                      go_simp
                      with_reducible rfl
                    rotate_left
                    · simp only [Act.put, List.setIfInBounds_toArray, List.set_cons_zero, List.set_cons_succ, i64_w, i32_w]
                      rfl
                    refine done_ (done_of HT_.out (by kernel_rfl)) ?_
                    go_wp2_with fail
                    go_ret
                    exact ⟨rfl, HB5.out.trans (HBc33.out.mono HB5.out.size)⟩
def parrylaw22_FormulaForms.f (a0_0 : Int) (a0_1 : Int) (l0_2 : List S24) (a1_0 : Int) (a1_1 : Int) (l1_2 : List S24) (l2_0 : List Int) (l2_1 : List Int) : Option Bool := some true
theorem parrylaw22_FormulaForms.calls (a0_0 : Int) (a0_1 : Int) (A0_2 : Option Addr) (c0_2 : Nat) (l0_2 : List S24) (a1_0 : Int) (a1_1 : Int) (A1_2 : Option Addr) (c1_2 : Nat) (l1_2 : List S24) (A2_0 : Option Addr) (c2_0 : Nat) (l2_0 : List Int) (A2_1 : Option Addr) (c2_1 : Nat) (l2_1 : List Int) (r : Bool) (w : World) (hr0_2 : Kd.C k24 w A0_2 l0_2.length l0_2) (hc0_2 : l0_2.length ≤ c0_2) (hr1_2 : Kd.C k24 w A1_2 l1_2.length l1_2) (hc1_2 : l1_2.length ≤ c1_2) (hr2_0 : Kd.C (Kd.int .u32) w A2_0 l2_0.length l2_0) (hc2_0 : l2_0.length ≤ c2_0) (hr2_1 : Kd.C (Kd.int .u32) w A2_1 l2_1.length l2_1) (hc2_1 : l2_1.length ≤ c2_1) (h : parrylaw22_FormulaForms.f a0_0 a0_1 l0_2 a1_0 a1_1 l1_2 l2_0 l2_1 = some r) (hrt : r = true) :
    Calls Tryd.prog 7 #[.agg #[.int .i64 a0_0, .int .i64 a0_1, .slice A0_2 l0_2.length c0_2], .agg #[.int .i64 a1_0, .int .i64 a1_1, .slice A1_2 l1_2.length c1_2], .agg #[.slice A2_0 l2_0.length c2_0, .slice A2_1 l2_1.length c2_1]] w fun e w' => e = .returned (.bool r) ∧ Below w.heap.size w w' := by
  subst hrt
  exact forms_calls ⟨a0_0, a0_1, l0_2⟩ ⟨a1_0, a1_1, l1_2⟩ l2_0 l2_1 A0_2 A1_2 A2_0 A2_1 c0_2 c1_2 c2_0 c2_1 w hr0_2 hc0_2 hr1_2 hc1_2 hr2_0 hc2_0 hr2_1 hc2_1
end Go.Proofs.YtjjnokodkeekhaaDoor.X

namespace Go.Proofs.YtjjnokodkeekhaaDoor.Pu
open Go.RowKit Go.Proofs.YtjjnokodkeekhaaDoorW.PrintWords Go.Proofs.YtjjnokodkeekhaaDoorW.PrintMore
open Go.Proofs.YtjjnokodkeekhaaDoor.P Go.Proofs.YtjjnokodkeekhaaDoor.Evx Go.Proofs.YtjjnokodkeekhaaDoor.X Go.Proofs.YtjjnokodkeekhaaDoor.Ki
set_option linter.unusedVariables false
theorem FormulaForms_pure (s0 : S24) (g0 : G24 s0) (s1 : S24) (g1 : G24 s1) (s2 : S27) (g2 : G27 s2) : parrylaw22_FormulaForms.f s0.f0 s0.f1 s0.f2 s1.f0 s1.f1 s1.f2 s2.f0 s2.f1 = some true := rfl
end Go.Proofs.YtjjnokodkeekhaaDoor.Pu

