/- A part of the claim SearchWords. -/
import Derived.Test.YtapejnikpmfddaaQSearchWordsp
namespace Go.Proofs.Ytapejnikpmfddaa.X
open Go.RowKit Go.Proofs.YtapejnikpmfddaaW.PrintWords Go.Proofs.YtapejnikpmfddaaW.PrintLast Go.Proofs.YtapejnikpmfddaaW.PrintMore
open Go.Proofs.Ytapejnikpmfddaa.P Go.Proofs.Ytapejnikpmfddaa.Evx
set_option linter.unusedSimpArgs false
set_option linter.unusedVariables false
def srw.T17 : Bool × List (List Nat × List Nat) := (true, [([], []), ([0], [0]), ([], []), ([2], [2]), ([], []), ([3, 4], [3, 4]), ([5], [5]), ([6], [6]), ([1, 7], [1, 7]), ([0, 1, 2, 3, 4, 5, 6, 7, 8], []), ([9, 8, 8, 0, 1, 2, 3, 4, 5, 6, 7, 8], [8, 9])])
def srw.B17 : List Nat := [0, 1, 0, 4, 0, 28, 60, 124, 255, 511, 1023]
theorem srw.tab17 : rtab .any (opsOf Try.f16 17) = srw.T17 := by kernel_rfl
theorem srw.bits17 : waitsOk srw.T17.2 srw.B17 = true := by kernel_rfl
def srw.T22 : Bool × List (List Nat × List Nat) := (true, [([], []), ([0], [0]), ([], []), ([2], [2]), ([], []), ([3, 4], [3, 4]), ([5], [5]), ([6], [6]), ([1, 7], [1, 7]), ([0, 1, 2, 3, 4, 5, 6, 7, 8], []), ([9, 8, 8, 0, 1, 2, 3, 4, 5, 6, 7, 8], [8, 9])])
def srw.B22 : List Nat := [0, 1, 0, 4, 0, 28, 60, 124, 255, 511, 1023]
theorem srw.tab22 : rtab .any (opsOf Try.f16 22) = srw.T22 := by kernel_rfl
theorem srw.bits22 : waitsOk srw.T22.2 srw.B22 = true := by kernel_rfl
theorem has_loop (l : List Int) (a : Int) (hb : l.length ≤ 9223372036854775807) : ∀ (r p : List Int), p ++ r = l → Ev (fun k => parryref22_has.l0 k a l (l.length : Int) (p.length : Int)) (r.contains a)
 | [], p, h => by
  subst h
  exact ev_step (fun k => rfl) (ev_neg (by simp) (ev_some _))
 | v :: r, p, h => by
  have hlen : l.length = p.length + (r.length + 1) := by rw [← h]; simp
  have hrd : rd l (p.length : Int) = v := by rw [← h]; exact rd_app p v r
  refine ev_step (fun k => rfl) (ev_pos (by omega) (ev_pos (by omega) (ev_pos (by omega) ?_)))
  rw [hrd]
  refine ev_ite (fun e => ev_eq (ev_some _) ?_) (fun e => ?_)
  ·rw [List.contains_cons, beq_iff_eq.2 e.symm, Bool.true_or]
  ·rw [w64 (by omega) (by omega), show ((p.length : Int) + 1) = ((p ++ [v]).length : Int) by simp]
   refine ev_eq (has_loop l a hb r (p ++ [v]) (by rw [← h]; simp)) ?_
   rw [List.contains_cons, beq_eq_false_iff_ne.2 (fun e' => e e'.symm), Bool.false_or]
theorem Has_calls (l : List Int) (a : Int) (A : Option Addr) (c : Nat) (w : World) (hr : Kd.C (Kd.int .i64) w A l.length l) (hc : l.length ≤ c) :
  Calls Try.prog 32 #[.slice A l.length c, .int .i64 a] w fun e w' => e = .returned (.bool (l.contains a)) ∧ Below w.heap.size w w' := by
 obtain ⟨k, hk⟩ := (show Ev (fun k => parryref22_has.f k l a) (l.contains a) from has_loop l a (Kd.C_max hr) l [] rfl).rounds
 exact (parryref22_has.calls k A c l a _ w hr hc hk).mono (fun e w' h => ⟨h.1, h.2.below⟩)
def aftAt (all lp : List Int) (i : Nat) : Int := if i + 1 < all.length then all.getD (i + 1) 0 else lp.getD 0 0
def rokAt (ls ss : List Int) (nxs : List (List Int)) (all lp : List Int) (i : Nat) : Bool :=
 if all.getD i 0 < 0 then false else if (ls.length : Int) ≤ all.getD i 0 then false else if i = 0 ∧ ss.contains (all.getD i 0) = false then false else (nxs.getD (all.getD i 0).toNat []).contains (aftAt all lp i)
def rwordB (ls ss : List Int) (nxs : List (List Int)) (st lp : List Int) : Bool :=
 decide (mayG ls ss nxs = 0) && (decide (lp ≠ []) && (decide (st.length ≤ 3000) && (decide (lp.length ≤ 27000) && (List.range (st ++ lp).length).all (rokAt ls ss nxs (st ++ lp) lp))))
theorem rok_range {ls ss : List Int} {nxs : List (List Int)} {all lp : List Int} {i : Nat} (h : rokAt ls ss nxs all lp i = true) : 0 ≤ all.getD i 0 ∧ all.getD i 0 < (ls.length : Int) := by
 unfold rokAt at h
 split at h
 ·cases h
 ·split at h
  ·cases h
  ·omega
theorem R_neW {w : World} {base p : Nat} {ok : Nat → Prop} {v : Value} {xs : List Int} {cs : Array Value} (h : Kd.R (Kd.int .u32) 48 w base ok v xs) (hb : w.heap[p]? = some (.cells cs 40 (0, 0))) : some p ≠ v.ownBlock := fun e => by
 obtain ⟨cells, hc⟩ := Kd.R_typed h p e.symm
 rw [hb] at hc
 injection hc with hc
 injection hc with _ h2 _
 exact absurd h2 (by decide)
theorem R_base {α : Type} {d : Kd α} {e base : Nat} {ok : Nat → Prop} {v : Value} {xs : List α} {w : World} (h : d.R e w base ok v xs) : ∀ k, v.ownBlock = some k → base ≤ k := by
 obtain ⟨inner, ho⟩ := Kd.R_own h
 exact fun k hk => own_base ho k hk
theorem R_setW {w : World} {base p j : Nat} {ok : Nat → Prop} {v u : Value} {xs : List Int} {cs : Array Value} (h : Kd.R (Kd.int .u32) 48 w base ok v xs) (hb : w.heap[p]? = some (.cells cs 40 (0, 0))) : Kd.R (Kd.int .u32) 48 (w.setCell ⟨p, j, none⟩ u) base ok v xs := by
 have hne := R_neW h hb
 exact Kd.R_mono (Kd.R_step (Kd.R_tight rfl h) (fun k hk _ => Below.heap_setCell w ⟨p, j, none⟩ u k (fun e => hne (by rw [← hk, e])))) (fun k hk => h.1 k hk.symm)
set_option maxHeartbeats 12800000 in
set_option maxRecDepth 100000 in
theorem rWord_calls (ls ss : List Int) (nxs : List (List Int)) (st lp : List Int) (A0 A1 A2 B1 B2 : Option Addr) (c0 c1 c2 d1 d2 : Nat) (w : World)
  (h0 : Kd.C (Kd.int .u32) w A0 ls.length ls) (l0 : ls.length ≤ c0) (h1 : Kd.C (Kd.int .i64) w A1 ss.length ss) (l1 : ss.length ≤ c1) (h2 : Kd.C (Kd.slice 3 (Kd.int .i64)) w A2 nxs.length nxs) (l2 : nxs.length ≤ c2)
  (h3 : Kd.C (Kd.int .i64) w B1 st.length st) (l3 : st.length ≤ d1) (h4 : Kd.C (Kd.int .i64) w B2 lp.length lp) (l4 : lp.length ≤ d2) :
  Calls Try.prog 16 #[.agg #[.slice A0 ls.length c0, .slice A1 ss.length c1, .slice A2 nxs.length c2], .slice B1 st.length d1, .slice B2 lp.length d2] w fun e w' => ∃ v1 v2, e = .returned (.tuple #[.agg #[v1, v2], .bool (rwordB ls ss nxs st lp)]) ∧
   Kd.R (Kd.int .u32) 48 w' w.heap.size (fun _ => True) v1 (wordR ls (rwordB ls ss nxs st lp) st) ∧ Kd.R (Kd.int .u32) 48 w' w.heap.size (fun _ => True) v2 (wordR ls (rwordB ls ss nxs st lp) lp) ∧ Below w.heap.size w w' := by
 have huK := Try.underlying26
 have huW := Try.underlying40
 have huu := Try.underlying22
 have hui := Try.underlying23
 have huii := Try.underlying24
 obtain ⟨W2, hW2⟩ : ∃ W2, W2 = (w.alloc (.cells #[.slice A0 ls.length c0, .slice A1 ss.length c1, .slice A2 nxs.length c2] 26)).alloc (.cells #[.slice none 0 0, .slice none 0 0] 40) := ⟨_, rfl⟩
 have hB2 : Below w.heap.size w W2 := by rw [hW2]; exact below_alloc (below_alloc (Below.refl _ _) _) _
 have hbk : W2.heap[w.heap.size]? = some (.cells #[.slice A0 ls.length c0, .slice A1 ss.length c1, .slice A2 nxs.length c2] 26 (0, 0)) := by rw [hW2]; exact ba_ (heap_alloc_new w _) _
 have hbw : W2.heap[w.heap.size + 1]? = some (.cells #[.slice none 0 0, .slice none 0 0] 40 (0, 0)) := by
  rw [hW2]
  have := heap_alloc_new (w.alloc (.cells #[.slice A0 ls.length c0, .slice A1 ss.length c1, .slice A2 nxs.length c2] 26)) (.cells #[.slice none 0 0, .slice none 0 0] 40)
  simpa using this
 obtain ⟨g6, hg6⟩ : ∃ k, k = w.heap.size + 1 := ⟨_, rfl⟩
 obtain ⟨gk1, hgk⟩ : ∃ k, k = w.heap.size := ⟨_, rfl⟩
 rw [← hgk] at hbk
 rw [← hg6] at hbw
 have HG6 := Zd.mk (show w.heap.size ≤ g6 by omega)
 obtain ⟨km, hkm⟩ := (rmay_ev ls ss nxs (Kd.C_max h1) (Kd.C_max h2) (rows_max h2)).rounds
 have HM1 := Zd.mk (parryref22_MayGraph.calls km A0 c0 ls A1 c1 ss A2 c2 nxs (mayG ls ss nxs) W2 (Kd.C_below h0 hB2) l0 (Kd.C_below h1 hB2) l1 (Kd.C_below h2 hB2) l2 hkm)
 have k0 : W2.cell? ⟨gk1, 0, none⟩ = some (.slice A0 ls.length c0) := (bq_ hbk 0).trans rfl
 have k1 : W2.cell? ⟨gk1, 1, none⟩ = some (.slice A1 ss.length c1) := (bq_ hbk 1).trans rfl
 have k2 : W2.cell? ⟨gk1, 2, none⟩ = some (.slice A2 nxs.length c2) := (bq_ hbk 2).trans rfl
 have HBK := Zd.mk hbk
 have HBW := Zd.mk hbw
 have HB2 := Zd.mk hB2
 have H0 := Zd.mk h0
 have H1 := Zd.mk h1
 have H2 := Zd.mk h2
 have H3 := Zd.mk h3
 have H4 := Zd.mk h4
 have HWB := Zd.mk (show rwordB ls ss nxs st lp = (decide (mayG ls ss nxs = 0) && (decide (lp ≠ []) && (decide (st.length ≤ 3000) && (decide (lp.length ≤ 27000) && (List.range (st ++ lp).length).all (rokAt ls ss nxs (st ++ lp) lp))))) from rfl)
 have HGOK := Zd.mk (fun (h : mayG ls ss nxs = 0) => mayG_ok h)
 have HRF := Zd.mk (fun l => show wordR ls false l = [] from if_neg (by simp))
 have HRT := Zd.mk (fun l => show wordR ls true l = lettersG ls l from if_pos rfl)
 clear h0 h1 h2 h3 h4 hbk hbw hB2 hkm
 generalize mayG ls ss nxs = mg at *
 generalize rwordB ls ss nxs st lp = wb at *
 by_cases e1 : mg = 0
 ·have em1 : (mg != 0) = false := by rw [e1]; rfl
  by_cases e2 : lp = []
  ·have HE := Zd.mk (show wb = false from by rw [HWB.out, show decide (lp ≠ []) = false from decide_eq_false (fun h => h e2), Bool.false_and, Bool.and_false])
   have e3 : lp.length = 0 := by rw [e2]; rfl
   go_enter Try.func16, Try.ntmps16
   go_upto_region 1 with fail
   rw [← hW2, ← hg6, ← hgk]
   clear hW2 hg6 hgk e2
   go_upto_region 2 with (go_at_call 8; refine HM1.out.mono ?_; rintro e w3 ⟨rfl, hB3⟩; have HB3 := Zd.mk hB3; have HBW3 := Zd.mk ((hB3.block _ (blk_lt HBW.out)).trans HBW.out); clear hB3)
   have q0 : (w3).cell? ⟨g6, 0, none⟩ = some (.slice none 0 0) := (bq_ HBW3.out 0).trans rfl
   have q1 : (w3).cell? ⟨g6, 1, none⟩ = some (.slice none 0 0) := (bq_ HBW3.out 1).trans rfl
   have f0 : (w3).frozen? ⟨g6, 0, none⟩ = false := bz_ HBW3.out 0
   have f1 : (w3).frozen? ⟨g6, 1, none⟩ = false := bz_ HBW3.out 1
   go_wp2
   have r0 : (((w3).setCell ⟨g6, 0, none⟩ (.slice none 0 0)).setCell ⟨g6, 1, none⟩ (.slice none 0 0)).cell? ⟨g6, 0, none⟩ = some (.slice none 0 0) := (bq_ (blk_set (blk_set HBW3.out 0 _) 1 _) 0).trans rfl
   have r1 : (((w3).setCell ⟨g6, 0, none⟩ (.slice none 0 0)).setCell ⟨g6, 1, none⟩ (.slice none 0 0)).cell? ⟨g6, 1, none⟩ = some (.slice none 0 0) := (bq_ (blk_set (blk_set HBW3.out 0 _) 1 _) 1).trans rfl
   refine bodyPost_ret (v := .tuple #[.agg #[.slice none 0 0, .slice none 0 0], .bool false]) (by simp [results, Try.results16, go_sem, r0, r1]) rfl ?_
   rw [HE.out, HRF.out, HRF.out]
   exact ⟨_, _, rfl, Kd.R_nil _ _ _ _ _, Kd.R_nil _ _ _ _ _, (Below.setCell (HB2.out.trans (HB3.out.mono HB2.out.size)) HG6.out _).setCell HG6.out _⟩
  ·have HL1 := Zd.mk (List.length_pos_iff.2 e2)
   have e3 : ¬ lp.length = 0 := by have := HL1.out; omega
   by_cases e4 : 3000 < st.length
   ·have HE := Zd.mk (show wb = false from by rw [HWB.out, show decide (st.length ≤ 3000) = false from decide_eq_false (by omega), Bool.false_and, Bool.and_false, Bool.and_false])
    have e4i : (3000 : Int) < (st.length : Int) := by omega
    have t1 : ((lp.length : Int) == 0) = false := beq_eq_false_iff_ne.2 (by omega)
    have t2 : decide ((3000 : Int) < (st.length : Int)) = true := decide_eq_true e4i
    go_enter Try.func16, Try.ntmps16
    go_upto_region 1 with fail
    rw [← hW2, ← hg6, ← hgk]
    clear hW2 hg6 hgk e2
    go_upto_region 2 with (go_at_call 8; refine HM1.out.mono ?_; rintro e w3 ⟨rfl, hB3⟩; have HB3 := Zd.mk hB3; have HBW3 := Zd.mk ((hB3.block _ (blk_lt HBW.out)).trans HBW.out); clear hB3)
    have q0 : (w3).cell? ⟨g6, 0, none⟩ = some (.slice none 0 0) := (bq_ HBW3.out 0).trans rfl
    have q1 : (w3).cell? ⟨g6, 1, none⟩ = some (.slice none 0 0) := (bq_ HBW3.out 1).trans rfl
    have f0 : (w3).frozen? ⟨g6, 0, none⟩ = false := bz_ HBW3.out 0
    have f1 : (w3).frozen? ⟨g6, 1, none⟩ = false := bz_ HBW3.out 1
    go_wp2
    have r0 : (((w3).setCell ⟨g6, 0, none⟩ (.slice none 0 0)).setCell ⟨g6, 1, none⟩ (.slice none 0 0)).cell? ⟨g6, 0, none⟩ = some (.slice none 0 0) := (bq_ (blk_set (blk_set HBW3.out 0 _) 1 _) 0).trans rfl
    have r1 : (((w3).setCell ⟨g6, 0, none⟩ (.slice none 0 0)).setCell ⟨g6, 1, none⟩ (.slice none 0 0)).cell? ⟨g6, 1, none⟩ = some (.slice none 0 0) := (bq_ (blk_set (blk_set HBW3.out 0 _) 1 _) 1).trans rfl
    refine bodyPost_ret (v := .tuple #[.agg #[.slice none 0 0, .slice none 0 0], .bool false]) (by simp [results, Try.results16, go_sem, r0, r1]) rfl ?_
    rw [HE.out, HRF.out, HRF.out]
    exact ⟨_, _, rfl, Kd.R_nil _ _ _ _ _, Kd.R_nil _ _ _ _ _, (Below.setCell (HB2.out.trans (HB3.out.mono HB2.out.size)) HG6.out _).setCell HG6.out _⟩
   ·have e4i : ¬ (3000 : Int) < (st.length : Int) := by omega
    by_cases e5 : 27000 < lp.length
    ·have HE := Zd.mk (show wb = false from by rw [HWB.out, show decide (lp.length ≤ 27000) = false from decide_eq_false (by omega), Bool.false_and, Bool.and_false, Bool.and_false, Bool.and_false])
     have e5i : (27000 : Int) < (lp.length : Int) := by omega
     have t1 : ((lp.length : Int) == 0) = false := beq_eq_false_iff_ne.2 (by omega)
     have t2 : decide ((3000 : Int) < (st.length : Int)) = false := decide_eq_false e4i
     have t3 : decide ((27000 : Int) < (lp.length : Int)) = true := decide_eq_true e5i
     go_enter Try.func16, Try.ntmps16
     go_upto_region 1 with fail
     rw [← hW2, ← hg6, ← hgk]
     clear hW2 hg6 hgk e2
     go_upto_region 2 with (go_at_call 8; refine HM1.out.mono ?_; rintro e w3 ⟨rfl, hB3⟩; have HB3 := Zd.mk hB3; have HBW3 := Zd.mk ((hB3.block _ (blk_lt HBW.out)).trans HBW.out); clear hB3)
     have q0 : (w3).cell? ⟨g6, 0, none⟩ = some (.slice none 0 0) := (bq_ HBW3.out 0).trans rfl
     have q1 : (w3).cell? ⟨g6, 1, none⟩ = some (.slice none 0 0) := (bq_ HBW3.out 1).trans rfl
     have f0 : (w3).frozen? ⟨g6, 0, none⟩ = false := bz_ HBW3.out 0
     have f1 : (w3).frozen? ⟨g6, 1, none⟩ = false := bz_ HBW3.out 1
     go_wp2
     have r0 : (((w3).setCell ⟨g6, 0, none⟩ (.slice none 0 0)).setCell ⟨g6, 1, none⟩ (.slice none 0 0)).cell? ⟨g6, 0, none⟩ = some (.slice none 0 0) := (bq_ (blk_set (blk_set HBW3.out 0 _) 1 _) 0).trans rfl
     have r1 : (((w3).setCell ⟨g6, 0, none⟩ (.slice none 0 0)).setCell ⟨g6, 1, none⟩ (.slice none 0 0)).cell? ⟨g6, 1, none⟩ = some (.slice none 0 0) := (bq_ (blk_set (blk_set HBW3.out 0 _) 1 _) 1).trans rfl
     refine bodyPost_ret (v := .tuple #[.agg #[.slice none 0 0, .slice none 0 0], .bool false]) (by simp [results, Try.results16, go_sem, r0, r1]) rfl ?_
     rw [HE.out, HRF.out, HRF.out]
     exact ⟨_, _, rfl, Kd.R_nil _ _ _ _ _, Kd.R_nil _ _ _ _ _, (Below.setCell (HB2.out.trans (HB3.out.mono HB2.out.size)) HG6.out _).setCell HG6.out _⟩
    ·have e5i : ¬ (27000 : Int) < (lp.length : Int) := by omega
     have HGO := Zd.mk (HGOK.out e1)
     have t1 : ((lp.length : Int) == 0) = false := beq_eq_false_iff_ne.2 (by omega)
     have t2 : decide ((3000 : Int) < (st.length : Int)) = false := decide_eq_false e4i
     have t3 : decide ((27000 : Int) < (lp.length : Int)) = false := decide_eq_false e5i
     go_enter Try.func16, Try.ntmps16
     go_upto_region 1 with fail
     rw [← hW2, ← hg6, ← hgk]
     clear hW2 hg6 hgk e2
     go_upto_region 4 with (first
      | (go_at_call 8; refine HM1.out.mono ?_; rintro e w3 ⟨rfl, hB3⟩; have HB3 := Zd.mk (HB2.out.trans (hB3.mono HB2.out.size)); have HBW3 := Zd.mk ((hB3.block _ (blk_lt HBW.out)).trans HBW.out); have HBK3 := Zd.mk ((hB3.block _ (blk_lt HBK.out)).trans HBK.out); have HBn := Zd.mk (Below.refl w3.heap.size w3); have HVn := Zd.mk (Kd.R_nil (Kd.int .i64) 3 w3 w3.heap.size (fun _ => True)); clear hB3)
      | ((with_reducible refine gate_builtin (b := .append) (xs := #[.const (.slice none 0 0), .tmp 36]) rfl ?_); at_builtin; refine Kd.R_append_row (Value.int .i64) (0 : Int) (h1 := fun _ => rfl) (w0 := w3) w3.heap.size rfl (.const (.slice none 0 0)) (.tmp 36) 23 3 (.int .i64 0) 8 rfl hui infoI rfl (by decide) (.slice none 0 0) [] st B1 st.length d1 (fun _ => True) rfl rfl (fun _ _ => trivial) HVn.out (Kd.C_below H3.out HB3.out) HBn.out HBn.out.size (by first | omega | (simp; omega)) ?_; intro v1 w4 hR hB hg hat; have HV4 := Zd.mk hR; have HB4 := Zd.mk hB; clear hR hB hg hat)
      | ((with_reducible refine gate_builtin (b := .append) (xs := #[.tmp 37, .tmp 38]) rfl ?_); at_builtin; refine Kd.R_append_row (Value.int .i64) (0 : Int) (h1 := fun _ => rfl) (w0 := w3) w3.heap.size rfl (.tmp 37) (.tmp 38) 23 3 (.int .i64 0) 8 rfl hui infoI rfl (by decide) v1 ([] ++ st) lp B2 lp.length d2 (fun _ => True) rfl rfl (fun _ _ => trivial) HV4.out (Kd.C_below H4.out (HB3.out.trans (HB4.out.mono HB3.out.size))) HB4.out HB4.out.size (by first | omega | (simp; omega)) ?_; intro v2 w5 hR hB hg hat; have HV5 := Zd.mk hR; have HB5 := Zd.mk hB; clear hR hB hg hat))
     obtain ⟨Aa, ca, e5', hca, hCa⟩ := Kd.R_reads HV5.out
     subst e5'
     rw [List.nil_append] at hca hCa
     obtain ⟨W3, rfl⟩ : ∃ W : World, W = w5 := ⟨_, rfl⟩
     have HCA := Zd.mk hCa
     have HB4w := Zd.mk (HB3.out.trans (HB5.out.mono HB3.out.size))
     have HBW4 := Zd.mk ((HB5.out.block _ (blk_lt HBW3.out)).trans HBW3.out)
     have HBK4 := Zd.mk ((HB5.out.block _ (blk_lt HBK3.out)).trans HBK3.out)
     obtain ⟨all, hall⟩ : ∃ l, l = st ++ lp := ⟨_, rfl⟩
     have HALL := Zd.mk hall
     have hnl : all.length = st.length + lp.length := by rw [hall, List.length_append]
     rw [← hall] at HCA hca HWB
     (try rw [List.nil_append])
     (try rw [← hall])
     (try rw [← hnl])
     have hn9 : all.length < 1000000000 := by omega
     have HNL := Zd.mk hnl
     clear hall k0 k1 k2 hnl hCa t1 t2 t3 e4i e5i
     have HWF := Zd.mk (fun (i : Nat) (hi : i < all.length) (h : rokAt ls ss nxs all lp i = false) => show wb = false from by rw [HWB.out, show (List.range all.length).all (rokAt ls ss nxs all lp) = false from all_fail hi h, Bool.and_false, Bool.and_false, Bool.and_false, Bool.and_false])
     obtain ⟨adl, eb2, zl0⟩ := int_at H4.out (show 0 < lp.length from HL1.out)
     subst eb2
     rw [show adl.add 0 = adl by cases adl; simp [Addr.add]] at zl0
     obtain ⟨lv, hlv⟩ : ∃ x, x = lp.getD 0 0 := ⟨_, rfl⟩
     rw [← hlv] at zl0
     have HLV := Zd.mk hlv
     have ZL0 := Zd.mk zl0
     clear hlv
     have hL0n : 0 < lp.length := HL1.out
     clear zl0
     go_wp2
     go_loopg [42] all.length (fun kq v42 w' => ∃ i : Nat, i + kq = all.length ∧ v42 = .int .i64 (i : Int) ∧ Zd (Below W3.heap.size W3 w') ∧ Zd (∀ j, j < i → rokAt ls ss nxs all lp j = true))
     case atStart => exact ⟨0, by omega, rfl, ⟨Below.refl _ _⟩, ⟨fun j hj => absurd hj (Nat.not_lt_zero _)⟩⟩
     case round =>
      obtain ⟨i, hi, rfl, HBL, HOKS⟩ := hrel
      obtain ⟨WW, rfl⟩ : ∃ W : World, W = wr := ⟨_, rfl⟩
      have HI := Zd.mk hi
      clear hi
      have HBK5 := Zd.mk ((HBL.out.block _ (blk_lt HBK4.out)).trans HBK4.out)
      have HBW5 := Zd.mk ((HBL.out.block _ (blk_lt HBW4.out)).trans HBW4.out)
      have HBA := Zd.mk (HB4w.out.trans (HBL.out.mono HB4w.out.size))
      by_cases hil : i < all.length
      ·obtain ⟨ada, e, za0⟩ := int_at HCA.out hil
       subst e
       have za := pb_ HBL.out za0
       have zl := pb_ HBA.out ZL0.out
       have hil2 : (i : Int) < (all.length : Int) := by omega
       have HOE := Zd.mk (show rokAt ls ss nxs all lp i = if all.getD i 0 < 0 then false else if (ls.length : Int) ≤ all.getD i 0 then false else if i = 0 ∧ ss.contains (all.getD i 0) = false then false else (nxs.getD (all.getD i 0).toNat []).contains (aftAt all lp i) from rfl)
       have HWI := Zd.mk (HWF.out i hil)
       clear za0
       generalize hv : all.getD i 0 = v at *
       clear hv
       go_upto_if 54 with fail
       go_cut [11] (fun v11 wx => v11 = .int .i64 (aftAt all lp i) ∧ wx = WW)
       case first =>
        by_cases hnx : i + 1 < all.length
        ·obtain ⟨ad', e', zb0⟩ := int_at HCA.out hnx
         cases e'
         have zb := pb_ HBL.out zb0
         rw [show ada.add (i + 1) = ⟨ada.block, ada.off + (i + 1), none⟩ by unfold Addr.add; rw [if_neg (by omega)]] at zb
         have hnx2 : (i : Int) + 1 < (all.length : Int) := by omega
         have HAF := Zd.mk (show aftAt all lp i = all.getD (i + 1) 0 from if_pos hnx)
         generalize all.getD (i + 1) 0 = vb at *
         generalize aftAt all lp i = va at *
         go_wp2
         go_meet
         exact ⟨by rw [HAF.out], rfl⟩
        ·have hnx2 : ¬ (i : Int) + 1 < (all.length : Int) := by omega
         have HAF := Zd.mk (show aftAt all lp i = lv from (if_neg hnx).trans HLV.out.symm)
         generalize aftAt all lp i = va at *
         go_wp2
         go_meet
         exact ⟨by rw [HAF.out], rfl⟩
       case rest =>
        obtain ⟨rfl, hwc⟩ := hcut
        rw [hwc]
        clear hwc wc za zl
        have k0 : WW.cell? ⟨gk1, 0, none⟩ = some (.slice A0 ls.length c0) := (bq_ HBK5.out 0).trans rfl
        have k1 : WW.cell? ⟨gk1, 1, none⟩ = some (.slice A1 ss.length c1) := (bq_ HBK5.out 1).trans rfl
        have k2 : WW.cell? ⟨gk1, 2, none⟩ = some (.slice A2 nxs.length c2) := (bq_ HBK5.out 2).trans rfl
        obtain ⟨va, hva⟩ : ∃ x, x = aftAt all lp i := ⟨_, rfl⟩
        rw [← hva] at HOE ⊢
        clear hva
        by_cases g1 : v < 0
        ·have HE := Zd.mk (HWI.out (by rw [HOE.out, if_pos g1]))
         have d1' : decide (v < 0) = true := decide_eq_true g1
         go_upto_region 11 with fail
         have q0 : (WW).cell? ⟨g6, 0, none⟩ = some (.slice none 0 0) := (bq_ HBW5.out 0).trans rfl
         have q1 : (WW).cell? ⟨g6, 1, none⟩ = some (.slice none 0 0) := (bq_ HBW5.out 1).trans rfl
         have f0 : (WW).frozen? ⟨g6, 0, none⟩ = false := bz_ HBW5.out 0
         have f1 : (WW).frozen? ⟨g6, 1, none⟩ = false := bz_ HBW5.out 1
         go_wp2
         have r0 : (((WW).setCell ⟨g6, 0, none⟩ (.slice none 0 0)).setCell ⟨g6, 1, none⟩ (.slice none 0 0)).cell? ⟨g6, 0, none⟩ = some (.slice none 0 0) := (bq_ (blk_set (blk_set HBW5.out 0 _) 1 _) 0).trans rfl
         have r1 : (((WW).setCell ⟨g6, 0, none⟩ (.slice none 0 0)).setCell ⟨g6, 1, none⟩ (.slice none 0 0)).cell? ⟨g6, 1, none⟩ = some (.slice none 0 0) := (bq_ (blk_set (blk_set HBW5.out 0 _) 1 _) 1).trans rfl
         refine bodyPost_ret (v := .tuple #[.agg #[.slice none 0 0, .slice none 0 0], .bool false]) (by simp [results, Try.results16, go_sem, r0, r1]) rfl ?_
         rw [HE.out, HRF.out, HRF.out]
         exact ⟨_, _, rfl, Kd.R_nil _ _ _ _ _, Kd.R_nil _ _ _ _ _, (Below.setCell HBA.out HG6.out _).setCell HG6.out _⟩
        ·obtain ⟨vn, rfl⟩ : ∃ n : Nat, v = (n : Int) := ⟨v.toNat, by omega⟩
         have d1' : decide ((vn : Int) < 0) = false := decide_eq_false g1
         rw [if_neg g1] at HOE
         by_cases g2 : ls.length ≤ vn
         ·have g2i : (ls.length : Int) ≤ (vn : Int) := by omega
          have HE := Zd.mk (HWI.out (by rw [HOE.out, if_pos g2i]))
          have d2' : decide ((ls.length : Int) ≤ (vn : Int)) = true := decide_eq_true g2i
          go_upto_region 11 with fail
          have q0 : (WW).cell? ⟨g6, 0, none⟩ = some (.slice none 0 0) := (bq_ HBW5.out 0).trans rfl
          have q1 : (WW).cell? ⟨g6, 1, none⟩ = some (.slice none 0 0) := (bq_ HBW5.out 1).trans rfl
          have f0 : (WW).frozen? ⟨g6, 0, none⟩ = false := bz_ HBW5.out 0
          have f1 : (WW).frozen? ⟨g6, 1, none⟩ = false := bz_ HBW5.out 1
          go_wp2
          have r0 : (((WW).setCell ⟨g6, 0, none⟩ (.slice none 0 0)).setCell ⟨g6, 1, none⟩ (.slice none 0 0)).cell? ⟨g6, 0, none⟩ = some (.slice none 0 0) := (bq_ (blk_set (blk_set HBW5.out 0 _) 1 _) 0).trans rfl
          have r1 : (((WW).setCell ⟨g6, 0, none⟩ (.slice none 0 0)).setCell ⟨g6, 1, none⟩ (.slice none 0 0)).cell? ⟨g6, 1, none⟩ = some (.slice none 0 0) := (bq_ (blk_set (blk_set HBW5.out 0 _) 1 _) 1).trans rfl
          refine bodyPost_ret (v := .tuple #[.agg #[.slice none 0 0, .slice none 0 0], .bool false]) (by simp [results, Try.results16, go_sem, r0, r1]) rfl ?_
          rw [HE.out, HRF.out, HRF.out]
          exact ⟨_, _, rfl, Kd.R_nil _ _ _ _ _, Kd.R_nil _ _ _ _ _, (Below.setCell HBA.out HG6.out _).setCell HG6.out _⟩
         ·have g2i : ¬ (ls.length : Int) ≤ (vn : Int) := by omega
          have d2' : decide ((ls.length : Int) ≤ (vn : Int)) = false := decide_eq_false g2i
          rw [if_neg g2i] at HOE
          have hpl : vn < nxs.length := by have := HGO.out.nn; omega
          obtain ⟨adn, Ar, cr, e, kr, lr, hCr⟩ := row_at (Kd.C_below H2.out HBA.out) hpl
          subst e
          have hpl2 : (vn : Int) < (nxs.length : Int) := by omega
          rw [Int.toNat_natCast] at HOE
          obtain ⟨row, hrow⟩ : ∃ r, r = nxs.getD vn [] := ⟨_, rfl⟩
          rw [← hrow] at kr lr hCr HOE
          have HC1 := Zd.mk (fun W (hb : Below WW.heap.size WW W) => Has_calls ss (vn : Int) A1 c1 W (Kd.C_below H1.out (HBA.out.trans (hb.mono HBA.out.size))) l1)
          have HC2 := Zd.mk (fun W (hb : Below WW.heap.size WW W) => Has_calls row va Ar cr W (Kd.C_below hCr hb) lr)
          have HBR := Zd.mk (Below.refl WW.heap.size WW)
          clear hrow hCr
          by_cases g3 : i = 0
          ·have d3' : ((i : Int) == 0) = true := by rw [g3]; rfl
           cases hct : ss.contains (vn : Int) with
           | false =>
            rw [hct] at HC1 HOE
            have HE := Zd.mk (HWI.out (by rw [HOE.out, if_pos ⟨g3, rfl⟩]))
            clear g3 hct
            go_upto_region 11 with (go_at_call 32; (with_reducible refine (HC1.out _ HBR.out).mono ?_); rintro e w9 ⟨rfl, hB⟩; have HB9 := Zd.mk hB; clear hB)
            have q0 : (w9).cell? ⟨g6, 0, none⟩ = some (.slice none 0 0) := (bq_ ((HB9.out.block _ (blk_lt HBW5.out)).trans HBW5.out) 0).trans rfl
            have q1 : (w9).cell? ⟨g6, 1, none⟩ = some (.slice none 0 0) := (bq_ ((HB9.out.block _ (blk_lt HBW5.out)).trans HBW5.out) 1).trans rfl
            have f0 : (w9).frozen? ⟨g6, 0, none⟩ = false := bz_ ((HB9.out.block _ (blk_lt HBW5.out)).trans HBW5.out) 0
            have f1 : (w9).frozen? ⟨g6, 1, none⟩ = false := bz_ ((HB9.out.block _ (blk_lt HBW5.out)).trans HBW5.out) 1
            go_wp2
            have r0 : (((w9).setCell ⟨g6, 0, none⟩ (.slice none 0 0)).setCell ⟨g6, 1, none⟩ (.slice none 0 0)).cell? ⟨g6, 0, none⟩ = some (.slice none 0 0) := (bq_ (blk_set (blk_set ((HB9.out.block _ (blk_lt HBW5.out)).trans HBW5.out) 0 _) 1 _) 0).trans rfl
            have r1 : (((w9).setCell ⟨g6, 0, none⟩ (.slice none 0 0)).setCell ⟨g6, 1, none⟩ (.slice none 0 0)).cell? ⟨g6, 1, none⟩ = some (.slice none 0 0) := (bq_ (blk_set (blk_set ((HB9.out.block _ (blk_lt HBW5.out)).trans HBW5.out) 0 _) 1 _) 1).trans rfl
            refine bodyPost_ret (v := .tuple #[.agg #[.slice none 0 0, .slice none 0 0], .bool false]) (by simp [results, Try.results16, go_sem, r0, r1]) rfl ?_
            rw [HE.out, HRF.out, HRF.out]
            exact ⟨_, _, rfl, Kd.R_nil _ _ _ _ _, Kd.R_nil _ _ _ _ _, (Below.setCell (HBA.out.trans (HB9.out.mono HBA.out.size)) HG6.out _).setCell HG6.out _⟩
           | true =>
            rw [hct] at HC1 HOE
            cases hct2 : row.contains va with
            | false =>
             rw [hct2] at HC2 HOE
             have HE := Zd.mk (HWI.out (by rw [HOE.out, if_neg (by rintro ⟨_, h⟩; cases h)]))
             clear g3 hct hct2
             go_upto_region 11 with (first
              | (go_at_call 32; (with_reducible refine (HC1.out _ HBR.out).mono ?_); rintro e w9 ⟨rfl, hB⟩; have HB9 := Zd.mk hB; have kr9 := pb_ hB kr; have kk9 := pb_ hB k2; clear hB)
              | (go_at_call 32; (with_reducible refine (HC2.out _ HB9.out).mono ?_); rintro e w10 ⟨rfl, hB⟩; have HB10 := Zd.mk (HB9.out.trans (hB.mono HB9.out.size)); clear hB))
             have q0 : (w10).cell? ⟨g6, 0, none⟩ = some (.slice none 0 0) := (bq_ ((HB10.out.block _ (blk_lt HBW5.out)).trans HBW5.out) 0).trans rfl
             have q1 : (w10).cell? ⟨g6, 1, none⟩ = some (.slice none 0 0) := (bq_ ((HB10.out.block _ (blk_lt HBW5.out)).trans HBW5.out) 1).trans rfl
             have f0 : (w10).frozen? ⟨g6, 0, none⟩ = false := bz_ ((HB10.out.block _ (blk_lt HBW5.out)).trans HBW5.out) 0
             have f1 : (w10).frozen? ⟨g6, 1, none⟩ = false := bz_ ((HB10.out.block _ (blk_lt HBW5.out)).trans HBW5.out) 1
             go_wp2
             have r0 : (((w10).setCell ⟨g6, 0, none⟩ (.slice none 0 0)).setCell ⟨g6, 1, none⟩ (.slice none 0 0)).cell? ⟨g6, 0, none⟩ = some (.slice none 0 0) := (bq_ (blk_set (blk_set ((HB10.out.block _ (blk_lt HBW5.out)).trans HBW5.out) 0 _) 1 _) 0).trans rfl
             have r1 : (((w10).setCell ⟨g6, 0, none⟩ (.slice none 0 0)).setCell ⟨g6, 1, none⟩ (.slice none 0 0)).cell? ⟨g6, 1, none⟩ = some (.slice none 0 0) := (bq_ (blk_set (blk_set ((HB10.out.block _ (blk_lt HBW5.out)).trans HBW5.out) 0 _) 1 _) 1).trans rfl
             refine bodyPost_ret (v := .tuple #[.agg #[.slice none 0 0, .slice none 0 0], .bool false]) (by simp [results, Try.results16, go_sem, r0, r1]) rfl ?_
             rw [HE.out, HRF.out, HRF.out]
             exact ⟨_, _, rfl, Kd.R_nil _ _ _ _ _, Kd.R_nil _ _ _ _ _, (Below.setCell (HBA.out.trans (HB10.out.mono HBA.out.size)) HG6.out _).setCell HG6.out _⟩
            | true =>
             rw [hct2] at HC2 HOE
             have HOKT := Zd.mk (show rokAt ls ss nxs all lp i = true from by rw [HOE.out, if_neg (by rintro ⟨_, h⟩; cases h)])
             clear g3 hct hct2
             go_wp2_with (first
              | (go_at_call 32; (with_reducible refine (HC1.out _ HBR.out).mono ?_); rintro e w9 ⟨rfl, hB⟩; have HB9 := Zd.mk hB; have kr9 := pb_ hB kr; have kk9 := pb_ hB k2; clear hB)
              | (go_at_call 32; (with_reducible refine (HC2.out _ HB9.out).mono ?_); rintro e w10 ⟨rfl, hB⟩; have HB10 := Zd.mk (HB9.out.trans (hB.mono HB9.out.size)); clear hB))
             go_roundg (gk - 1)
             case measure => have := HI.out; omega
             case rel =>
              refine ⟨i + 1, by have := HI.out; omega, by first | rfl | (congr 1; go_num; done), ⟨HBL.out.trans (HB10.out.mono HBL.out.size)⟩, ⟨fun q hq => ?_⟩⟩
              rcases Nat.lt_succ_iff_lt_or_eq.1 hq with h | h
              ·exact HOKS.out q h
              ·rw [h]; exact HOKT.out
          ·have d3' : ((i : Int) == 0) = false := beq_eq_false_iff_ne.2 (by omega)
           rw [if_neg (fun h => g3 h.1)] at HOE
           cases hct2 : row.contains va with
           | false =>
            rw [hct2] at HC2 HOE
            have HE := Zd.mk (HWI.out HOE.out)
            clear g3 hct2
            go_upto_region 11 with (go_at_call 32; (with_reducible refine (HC2.out _ HBR.out).mono ?_); rintro e w10 ⟨rfl, hB⟩; have HB10 := Zd.mk hB; clear hB)
            have q0 : (w10).cell? ⟨g6, 0, none⟩ = some (.slice none 0 0) := (bq_ ((HB10.out.block _ (blk_lt HBW5.out)).trans HBW5.out) 0).trans rfl
            have q1 : (w10).cell? ⟨g6, 1, none⟩ = some (.slice none 0 0) := (bq_ ((HB10.out.block _ (blk_lt HBW5.out)).trans HBW5.out) 1).trans rfl
            have f0 : (w10).frozen? ⟨g6, 0, none⟩ = false := bz_ ((HB10.out.block _ (blk_lt HBW5.out)).trans HBW5.out) 0
            have f1 : (w10).frozen? ⟨g6, 1, none⟩ = false := bz_ ((HB10.out.block _ (blk_lt HBW5.out)).trans HBW5.out) 1
            go_wp2
            have r0 : (((w10).setCell ⟨g6, 0, none⟩ (.slice none 0 0)).setCell ⟨g6, 1, none⟩ (.slice none 0 0)).cell? ⟨g6, 0, none⟩ = some (.slice none 0 0) := (bq_ (blk_set (blk_set ((HB10.out.block _ (blk_lt HBW5.out)).trans HBW5.out) 0 _) 1 _) 0).trans rfl
            have r1 : (((w10).setCell ⟨g6, 0, none⟩ (.slice none 0 0)).setCell ⟨g6, 1, none⟩ (.slice none 0 0)).cell? ⟨g6, 1, none⟩ = some (.slice none 0 0) := (bq_ (blk_set (blk_set ((HB10.out.block _ (blk_lt HBW5.out)).trans HBW5.out) 0 _) 1 _) 1).trans rfl
            refine bodyPost_ret (v := .tuple #[.agg #[.slice none 0 0, .slice none 0 0], .bool false]) (by simp [results, Try.results16, go_sem, r0, r1]) rfl ?_
            rw [HE.out, HRF.out, HRF.out]
            exact ⟨_, _, rfl, Kd.R_nil _ _ _ _ _, Kd.R_nil _ _ _ _ _, (Below.setCell (HBA.out.trans (HB10.out.mono HBA.out.size)) HG6.out _).setCell HG6.out _⟩
           | true =>
            rw [hct2] at HC2 HOE
            have HOKT := HOE
            clear g3 hct2
            go_wp2_with (go_at_call 32; (with_reducible refine (HC2.out _ HBR.out).mono ?_); rintro e w10 ⟨rfl, hB⟩; have HB10 := Zd.mk hB; clear hB)
            go_roundg (gk - 1)
            case measure => have := HI.out; omega
            case rel =>
             refine ⟨i + 1, by have := HI.out; omega, by first | rfl | (congr 1; go_num; done), ⟨HBL.out.trans (HB10.out.mono HBL.out.size)⟩, ⟨fun q hq => ?_⟩⟩
             rcases Nat.lt_succ_iff_lt_or_eq.1 hq with h | h
             ·exact HOKS.out q h
             ·rw [h]; exact HOKT.out
      ·have e : i = all.length := by have := HI.out; omega
       subst e
       have HE := Zd.mk (show wb = true from by
        rw [HWB.out, decide_eq_true e1, show decide (lp ≠ []) = true from decide_eq_true (List.length_pos_iff.1 HL1.out), show decide (st.length ≤ 3000) = true from decide_eq_true (by omega), show decide (lp.length ≤ 27000) = true from decide_eq_true (by omega), all_take HOKS.out]; rfl)
       obtain ⟨WQ, rfl⟩ : ∃ W : World, W = WW := ⟨_, rfl⟩
       have HBAQ := HBA
       have hst3 : st.length ≤ 3000 := by omega
       have hlp3 : lp.length ≤ 27000 := by omega
       have ZK0 := Zd.mk (show WQ.cell? ⟨gk1, 0, none⟩ = some (.slice A0 ls.length c0) from (bq_ HBK5.out 0).trans rfl)
       have HGK := Zd.mk (blk_lt HBK5.out)
       go_upto_region 14 with fail
       obtain ⟨g12, hg12⟩ : ∃ k, k = WQ.heap.size := ⟨_, rfl⟩
       obtain ⟨WR, hWR⟩ : ∃ W : World, W = WQ.alloc (.cells #[.slice none 0 0, .slice none 0 0] 40) := ⟨_, rfl⟩
       have HB12 : Zd (WR.heap[g12]? = some (.cells #[.slice none 0 0, .slice none 0 0] 40 (0, 0))) := ⟨by rw [hWR, hg12]; exact heap_alloc_new WQ _⟩
       have HBR : Zd (Below WQ.heap.size WQ WR) := ⟨by rw [hWR]; exact below_alloc (Below.refl _ _) _⟩
       have HG12 : Zd (WQ.heap.size ≤ g12) := ⟨by omega⟩
       rw [← hWR, ← hg12]
       clear hWR hg12
       go_wp2
       go_loopg [94] st.length (fun kq v94 w' => ∃ (i : Nat) (va : Value), i + kq = st.length ∧ v94 = .int .i64 (i : Int) ∧ Zd (Below WQ.heap.size WQ w') ∧ Zd (w'.heap[g12]? = some (.cells #[va, .slice none 0 0] 40 (0, 0))) ∧ Zd (Kd.R (Kd.int .u32) 48 w' WQ.heap.size (fun _ => True) va (lettersG ls (st.take i))))
       case atStart => exact ⟨0, .slice none 0 0, by omega, rfl, HBR, HB12, ⟨Kd.R_nil _ _ _ _ _⟩⟩
       case round =>
        obtain ⟨i, va, hi, rfl, HBW6, HBKV, HVR⟩ := hrel
        obtain ⟨WV, rfl⟩ : ∃ W : World, W = wr := ⟨_, rfl⟩
        have HI := Zd.mk hi
        clear hi
        by_cases hil : i < st.length
        ·obtain ⟨adb, eb, zb0⟩ := int_at H3.out hil
         subst eb
         have hrr := rok_range (HOKS.out i (by have := HNL.out; omega))
         rw [show all.getD i 0 = st.getD i 0 from by rw [HALL.out, List.getD_eq_getElem?_getD, List.getElem?_append_left hil, List.getD_eq_getElem?_getD]] at hrr
         have HSN := Zd.mk (letters_snoc (ls := ls) hil)
         obtain ⟨vn, hvn⟩ : ∃ n : Nat, st.getD i 0 = (n : Int) := ⟨(st.getD i 0).toNat, by omega⟩
         rw [hvn] at hrr zb0 HSN
         rw [Int.toNat_natCast] at HSN
         have hvl : vn < ls.length := by omega
         have hvl2 : (vn : Int) < (ls.length : Int) := by omega
         have hil2 : (i : Int) < (st.length : Int) := by omega
         obtain ⟨adx, ex, zx0⟩ := int_at H0.out hvl
         subst ex
         obtain ⟨lt, hlt⟩ : ∃ y, y = ls.getD vn 0 := ⟨_, rfl⟩
         rw [← hlt] at zx0 HSN
         have HW6 := Zd.mk (HBAQ.out.trans (HBW6.out.mono HBAQ.out.size))
         have zb := pb_ HW6.out zb0
         have HAD := Zd.mk (show (adx.add vn).block < WQ.heap.size from Nat.lt_of_lt_of_le (World.block_lt_of_cell? w _ zx0) HBAQ.out.size)
         obtain ⟨sofar, hsf⟩ : ∃ l, l = lettersG ls (st.take i) := ⟨_, rfl⟩
         have HSL := Zd.mk (show sofar.length ≤ 30000 from by rw [hsf, len_letters, List.length_take]; omega)
         rw [← hsf] at HVR HSN
         clear hsf hlt hvn hrr zb0
         go_upto_region 17 with fail
         obtain ⟨WB, rfl⟩ : ∃ W : World, W = WV := ⟨_, rfl⟩
         have HBd := Zd.mk (show Below WB.heap.size WB WB.drew from below_drew1 (Below.refl _ _))
         have HBC := Zd.mk (HBW6.out.trans (HBd.out.mono HBW6.out.size))
         have HBKC := Zd.mk ((HBd.out.block _ (blk_lt HBKV.out)).trans HBKV.out)
         have HVA := Zd.mk (Kd.R_below HVR.out HBd.out)
  
         have kv : WB.drew.cell? ⟨g12, 0, none⟩ = some va := (bq_ HBKC.out 0).trans rfl
         have kk : WB.drew.cell? ⟨gk1, 0, none⟩ = some (.slice (some adx) ls.length c0) := pb_ HBC.out ZK0.out
         have kl : WB.drew.cell? (adx.add vn) = some (.int .u32 lt) := pb_ (HBAQ.out.trans (HBC.out.mono HBAQ.out.size)) zx0
         clear zx0 zb
         refine start_ (n := 11) (S := fun w' => w'.cell? ⟨g12, 0, none⟩ = some va ∧ w'.cell? ⟨gk1, 0, none⟩ = some (.slice (some adx) ls.length c0) ∧ w'.cell? (adx.add vn) = some (.int .u32 lt)) (ds := [10]) Mk264_ (by kernel_rfl) rfl rfl ⟨kv, kk, kl⟩ (fun hHeld => ?_)
         refine with_tabW srw.tab17 srw.bits17 (fun HT_ HW_ => ?_)
         generalize WB.drew = WC at *
         refine pz HT_.out 0 (some 98) Mk265_ rfl rfl ?_
         refine pz HT_.out 2 (some 100) Mk266_ rfl rfl ?_
         refine pz HT_.out 4 (some 102) Mk267_ rfl rfl ?_
         refine tz HT_.out HW_.out 1 (some 99) Mk268_ rfl rfl hHeld ?_
         refine tz HT_.out HW_.out 3 (some 101) Mk269_ rfl rfl hHeld ?_
         refine pz HT_.out 5 (some 103) Mk270_ rfl rfl ?_
         refine tz HT_.out HW_.out 6 (some 104) Mk271_ rfl rfl hHeld ?_
         refine one_ (i := 7) (N := some 105) Mk272_ rfl rfl (one_of HT_.out (by kernel_rfl)) (by decide) (fun K hK => ?_)
         have hBA := below_alloc (Below.refl WC.heap.size WC) (.cells #[.int .u32 lt] 48)
         have kva_ := pb_ hBA kv
         have kka_ := pb_ hBA kk
         have kla_ := pb_ hBA kl
         clear hBA
         refine value_ (w1 := WC.alloc (.cells #[.int .u32 lt] 48)) (v := .slice (some ⟨WC.heap.size, 0, none⟩) 1 1) (by rfl) rfl ?_ ?_
         ·(go_simp; try rfl)
         refine hK.out _ _ ⟨kva_, kka_, kla_⟩ (fun hHeld => ?_)
         clear hK K
         refine norm_ (a' := ?_) ?_ ?_
         rotate_left
         ·show Act.put _ (some 105) _ = _
          simp only [Act.put, List.setIfInBounds_toArray, List.set_cons_zero, List.set_cons_succ, i64_w, i32_w]
          rfl
         refine one_ (i := 8) (N := some 106) Mk273_ rfl rfl (one_of HT_.out (by kernel_rfl)) (by decide) (fun K hK => ?_)
         refine Kd.R_append_step (Kd.int .u32) (w0 := WQ) (W := WC) WQ.heap.size (by rfl) (.tmp 99) (.tmp 105) 22 48 (.int .u32 0) 4 rfl huu infoU32 rfl (by decide) (by decide) va sofar lt [.int .u32 lt] (fun _ => True) (fun _ => False) rfl rfl rfl (fun _ hk => hk.elim) (fun _ _ => trivial) HVA.out HBC.out HBC.out.size (by have := HSL.out; omega) ?_
         intro v9_ w9 ho hb hg hat
         obtain ⟨A9, n9, c9, e9⟩ : ∃ A n c, v9_ = .slice A n c := (by obtain ⟨A, c, e⟩ := Kd.R_slice ho; exact ⟨A, _, c, e⟩)
         subst e9
         have HR9 := Zd.mk ho
         have HB9 := Zd.mk hb
         have HG9 := Zd.mk hg
         have HT9 := Zd.mk hat
         have hne_ := R_neW HVA.out HBKC.out
         have kvb_ := hg.cell kv hne_
         have kkb_ := hg.cell kk (fun e => by have h_ : WQ.heap.size ≤ gk1 := R_base HVA.out gk1 e.symm; have := HGK.out; omega)
         have klb_ := hg.cell kl (fun e => by have h_ := R_base HVA.out _ e.symm; have := HAD.out; omega)
         have fvb_ := bz_ (bg_ HBKC.out hg hne_) 0
         clear ho hb hg hat hHeld hne_
         refine hK.out _ _ ⟨kvb_, kkb_, klb_⟩ (fun hHeld => ?_)
         clear hK K
         refine norm_ (a' := ?_) ?_ ?_
         rotate_left
         ·show Act.put _ (some 106) _ = _
          simp only [Act.put, List.setIfInBounds_toArray, List.set_cons_zero, List.set_cons_succ, i64_w, i32_w]
          rfl
         refine pz HT_.out 9 (some 107) Mk274_ rfl rfl ?_
         refine last_ (i := 10) (N := none) Mk275_ rfl rfl (one_of HT_.out (by kernel_rfl)) (by decide) (fun K hK => ?_)
         refine skip_ (w1 := w9.setCell ⟨g12, 0, none⟩ (.slice A9 n9 c9)) (by rfl) rfl ?_ ?_
         ·(go_simp; try rfl)
         refine hK.out _ _ ?_
         clear hK K
         refine done_ (done_of HT_.out (by kernel_rfl)) ?_
         clear hHeld HT_ HW_
         obtain ⟨W8, hW8⟩ : ∃ W : World, W = w9.setCell ⟨g12, 0, none⟩ (.slice A9 n9 c9) := ⟨_, rfl⟩
         rw [← hW8]
         have HW8 := Zd.mk hW8
         clear hW8 kv kk kl
         have HNE := Zd.mk (R_neW HVA.out HBKC.out)
         have HBK9 := Zd.mk (bg_ HBKC.out HG9.out HNE.out)
         go_wp2
         go_roundg (gk - 1)
         case measure => have := HI.out; omega
         case rel =>
          refine ⟨i + 1, .slice A9 n9 c9, by have := HI.out; omega, by first | rfl | (congr 1; go_num; done), ⟨by rw [HW8.out]; exact HB9.out.setCell HG12.out _⟩, ⟨by rw [HW8.out, blk_set HBK9.out 0 _]; rfl⟩, ⟨by rw [HSN.out, HW8.out]; exact R_setW HR9.out HBK9.out⟩⟩
        ·have e : i = st.length := by have := HI.out; omega
         subst e
         rw [List.take_length] at HVR
         obtain ⟨W9, rfl⟩ : ∃ W : World, W = WV := ⟨_, rfl⟩
         obtain ⟨va0, rfl⟩ : ∃ v : Value, v = va := ⟨_, rfl⟩
         obtain ⟨stl, hstl⟩ : ∃ l, l = lettersG ls st := ⟨_, rfl⟩
         rw [← hstl] at HVR
         have HSTL := Zd.mk hstl
         have HST9 := HVR
         have HBR3 := HBW6
         have HB13 := HBKV
         have HVZ := Zd.mk (fun k (hk : va0.ownBlock = some k) => show k < W9.heap.size from by obtain ⟨inner, ho⟩ := Kd.R_own HVR.out; exact own_lt ho k hk)
         clear hstl HI HBW6 HBKV HVR
         go_wp2
         go_loopg [111] lp.length (fun kq v111 w' => ∃ (i : Nat) (va : Value), i + kq = lp.length ∧ v111 = .int .i64 (i : Int) ∧ Zd (Below WQ.heap.size WQ w') ∧ Zd (w'.heap[g12]? = some (.cells #[va0, va] 40 (0, 0))) ∧ Zd (Kd.R (Kd.int .u32) 48 w' WQ.heap.size (fun _ => True) va (lettersG ls (lp.take i))) ∧ Zd (Kd.R (Kd.int .u32) 48 w' WQ.heap.size (fun _ => True) va0 stl) ∧ Zd (∀ k, va.ownBlock = some k → W9.heap.size ≤ k) ∧ Zd (W9.heap.size ≤ w'.heap.size))
         case atStart => exact ⟨0, .slice none 0 0, by omega, rfl, HBR3, HB13, ⟨Kd.R_nil _ _ _ _ _⟩, HST9, ⟨fun k hk => by cases hk⟩, ⟨Nat.le_refl _⟩⟩
         case round =>
          obtain ⟨i, va, hi, rfl, HBW6, HBKV, HVR, HVS, HVO, HSZ6⟩ := hrel
          obtain ⟨WV, rfl⟩ : ∃ W : World, W = wr := ⟨_, rfl⟩
          have HI := Zd.mk hi
          clear hi
          by_cases hil : i < lp.length
          ·obtain ⟨adb, eb, zb0⟩ := int_at H4.out hil
           cases eb
           have hrr := rok_range (HOKS.out (st.length + i) (by have := HNL.out; omega))
           rw [show all.getD (st.length + i) 0 = lp.getD i 0 from by rw [HALL.out, List.getD_eq_getElem?_getD, List.getElem?_append_right (Nat.le_add_right _ _), Nat.add_sub_cancel_left, List.getD_eq_getElem?_getD]] at hrr
           have HSN := Zd.mk (letters_snoc (ls := ls) hil)
           obtain ⟨vn, hvn⟩ : ∃ n : Nat, lp.getD i 0 = (n : Int) := ⟨(lp.getD i 0).toNat, by omega⟩
           rw [hvn] at hrr zb0 HSN
           rw [Int.toNat_natCast] at HSN
           have hvl : vn < ls.length := by omega
           have hvl2 : (vn : Int) < (ls.length : Int) := by omega
           have hil2 : (i : Int) < (lp.length : Int) := by omega
           obtain ⟨adx, ex, zx0⟩ := int_at H0.out hvl
           cases ex
           obtain ⟨lt, hlt⟩ : ∃ y, y = ls.getD vn 0 := ⟨_, rfl⟩
           rw [← hlt] at zx0 HSN
           have HW6 := Zd.mk (HBAQ.out.trans (HBW6.out.mono HBAQ.out.size))
           have zb := pb_ HW6.out zb0
           have HAD := Zd.mk (show (adx.add vn).block < WQ.heap.size from Nat.lt_of_lt_of_le (World.block_lt_of_cell? w _ zx0) HBAQ.out.size)
           obtain ⟨sofar, hsf⟩ : ∃ l, l = lettersG ls (lp.take i) := ⟨_, rfl⟩
           have HSL := Zd.mk (show sofar.length ≤ 30000 from by rw [hsf, len_letters, List.length_take]; omega)
           rw [← hsf] at HVR HSN
           clear hsf hlt hvn hrr zb0
           go_upto_region 22 with fail
           obtain ⟨WB, rfl⟩ : ∃ W : World, W = WV := ⟨_, rfl⟩
           have HBd := Zd.mk (show Below WB.heap.size WB WB.drew from below_drew1 (Below.refl _ _))
           have HBC := Zd.mk (HBW6.out.trans (HBd.out.mono HBW6.out.size))
           have HBKC := Zd.mk ((HBd.out.block _ (blk_lt HBKV.out)).trans HBKV.out)
           have HVA := Zd.mk (Kd.R_below HVR.out HBd.out)
           have HVS2 := Zd.mk (Kd.R_below HVS.out HBd.out)
           have kv : WB.drew.cell? ⟨g12, 1, none⟩ = some va := (bq_ HBKC.out 1).trans rfl
           have kk : WB.drew.cell? ⟨gk1, 0, none⟩ = some (.slice (some adx) ls.length c0) := pb_ HBC.out ZK0.out
           have kl : WB.drew.cell? (adx.add vn) = some (.int .u32 lt) := pb_ (HBAQ.out.trans (HBC.out.mono HBAQ.out.size)) zx0
           have HSW := Zd.mk (show W9.heap.size ≤ WB.drew.heap.size from Nat.le_trans HSZ6.out HBd.out.size)
           clear zx0 zb
           refine start_ (n := 11) (S := fun w' => w'.cell? ⟨g12, 1, none⟩ = some va ∧ w'.cell? ⟨gk1, 0, none⟩ = some (.slice (some adx) ls.length c0) ∧ w'.cell? (adx.add vn) = some (.int .u32 lt)) (ds := [10]) Mk264_ (by kernel_rfl) rfl rfl ⟨kv, kk, kl⟩ (fun hHeld => ?_)
           refine with_tabW srw.tab22 srw.bits22 (fun HT_ HW_ => ?_)
           generalize WB.drew = WC at *
           refine pz HT_.out 0 (some 115) Mk265_ rfl rfl ?_
           refine pz HT_.out 2 (some 117) Mk266_ rfl rfl ?_
           refine pz HT_.out 4 (some 119) Mk267_ rfl rfl ?_
           refine tz HT_.out HW_.out 1 (some 116) Mk268_ rfl rfl hHeld ?_
           refine tz HT_.out HW_.out 3 (some 118) Mk269_ rfl rfl hHeld ?_
           refine pz HT_.out 5 (some 120) Mk270_ rfl rfl ?_
           refine tz HT_.out HW_.out 6 (some 121) Mk271_ rfl rfl hHeld ?_
           refine one_ (i := 7) (N := some 122) Mk272_ rfl rfl (one_of HT_.out (by kernel_rfl)) (by decide) (fun K hK => ?_)
           have hBA := below_alloc (Below.refl WC.heap.size WC) (.cells #[.int .u32 lt] 48)
           have kva_ := pb_ hBA kv
           have kka_ := pb_ hBA kk
           have kla_ := pb_ hBA kl
           clear hBA
           refine value_ (w1 := WC.alloc (.cells #[.int .u32 lt] 48)) (v := .slice (some ⟨WC.heap.size, 0, none⟩) 1 1) (by rfl) rfl ?_ ?_
           ·(go_simp; try rfl)
           refine hK.out _ _ ⟨kva_, kka_, kla_⟩ (fun hHeld => ?_)
           clear hK K
           refine norm_ (a' := ?_) ?_ ?_
           rotate_left
           ·show Act.put _ (some 122) _ = _
            simp only [Act.put, List.setIfInBounds_toArray, List.set_cons_zero, List.set_cons_succ, i64_w, i32_w]
            rfl
           refine one_ (i := 8) (N := some 123) Mk273_ rfl rfl (one_of HT_.out (by kernel_rfl)) (by decide) (fun K hK => ?_)
           refine Kd.R_append_step (Kd.int .u32) (w0 := WQ) (W := WC) WQ.heap.size (by rfl) (.tmp 116) (.tmp 122) 22 48 (.int .u32 0) 4 rfl huu infoU32 rfl (by decide) (by decide) va sofar lt [.int .u32 lt] (fun _ => True) (fun _ => False) rfl rfl rfl (fun _ hk => hk.elim) (fun _ _ => trivial) HVA.out HBC.out HBC.out.size (by have := HSL.out; omega) ?_
           intro v9_ w9 ho hb hg hat
           obtain ⟨A9, n9, c9, e9⟩ : ∃ A n c, v9_ = .slice A n c := (by obtain ⟨A, c, e⟩ := Kd.R_slice ho; exact ⟨A, _, c, e⟩)
           subst e9
           have HR9 := Zd.mk ho
           have HB9 := Zd.mk hb
           have HG9 := Zd.mk hg
           have HT9 := Zd.mk hat
           have hne_ := R_neW HVA.out HBKC.out
           have kvb_ := hg.cell kv hne_
           have kkb_ := hg.cell kk (fun e => by have h_ : WQ.heap.size ≤ gk1 := R_base HVA.out gk1 e.symm; have := HGK.out; omega)
           have klb_ := hg.cell kl (fun e => by have h_ := R_base HVA.out _ e.symm; have := HAD.out; omega)
           have fvb_ := bz_ (bg_ HBKC.out hg hne_) 1
           clear ho hb hg hat hHeld hne_
           refine hK.out _ _ ⟨kvb_, kkb_, klb_⟩ (fun hHeld => ?_)
           clear hK K
           refine norm_ (a' := ?_) ?_ ?_
           rotate_left
           ·show Act.put _ (some 123) _ = _
            simp only [Act.put, List.setIfInBounds_toArray, List.set_cons_zero, List.set_cons_succ, i64_w, i32_w]
            rfl
           refine pz HT_.out 9 (some 124) Mk274_ rfl rfl ?_
           refine last_ (i := 10) (N := none) Mk275_ rfl rfl (one_of HT_.out (by kernel_rfl)) (by decide) (fun K hK => ?_)
           refine skip_ (w1 := w9.setCell ⟨g12, 1, none⟩ (.slice A9 n9 c9)) (by rfl) rfl ?_ ?_
           ·(go_simp; try rfl)
           refine hK.out _ _ ?_
           clear hK K
           refine done_ (done_of HT_.out (by kernel_rfl)) ?_
           clear hHeld HT_ HW_
           obtain ⟨W8, hW8⟩ : ∃ W : World, W = w9.setCell ⟨g12, 1, none⟩ (.slice A9 n9 c9) := ⟨_, rfl⟩
           rw [← hW8]
           have HW8 := Zd.mk hW8
           clear hW8 kv kk kl
           have HNE := Zd.mk (R_neW HVA.out HBKC.out)
           have HBK9 := Zd.mk (bg_ HBKC.out HG9.out HNE.out)
           go_wp2
           go_roundg (gk - 1)
           case measure => have := HI.out; omega
           case rel =>
            refine ⟨i + 1, .slice A9 n9 c9, by have := HI.out; omega, by first | rfl | (congr 1; go_num; done), ⟨by rw [HW8.out]; exact HB9.out.setCell HG12.out _⟩, ⟨by rw [HW8.out, blk_set HBK9.out 1 _]; rfl⟩, ⟨by rw [HSN.out, HW8.out]; exact R_setW HR9.out HBK9.out⟩, ⟨?_⟩, ⟨fun k hk => ?_⟩, ⟨?_⟩⟩
            ·rw [HW8.out]
             refine R_setW (Kd.R_grown2 HVS2.out rfl HG9.out (fun k hk e => ?_)) HBK9.out
             have h1 := HVO.out k hk
             have h2 := HVZ.out k e.symm
             omega
            ·rcases HT9.out with e | ⟨b, e, hb⟩
             ·exact HVO.out k (e ▸ hk)
             ·rw [e] at hk
              cases hk
              exact Nat.le_trans HSW.out hb
            ·rw [HW8.out]
             have h1 := HG9.out.size
             have h2 := HSW.out
             simp only [World.size_setCell]
             omega
          ·have e : i = lp.length := by have := HI.out; omega
           subst e
           rw [List.take_length] at HVR
           obtain ⟨A8, n8, c8, e8⟩ : ∃ A n c, va0 = .slice A n c := by obtain ⟨A, c, e⟩ := Kd.R_slice HVS.out; exact ⟨A, _, c, e⟩
           obtain ⟨A9, n9, c9, e9⟩ : ∃ A n c, va = .slice A n c := by obtain ⟨A, c, e⟩ := Kd.R_slice HVR.out; exact ⟨A, _, c, e⟩
           subst e8
           subst e9
           have HBQ := Zd.mk (HBAQ.out.trans (HBW6.out.mono HBAQ.out.size))
           have HBWz := Zd.mk ((HBW6.out.block _ (blk_lt HBW5.out)).trans HBW5.out)
           have q0 : WV.cell? ⟨g6, 0, none⟩ = some (.slice none 0 0) := (bq_ HBWz.out 0).trans rfl
           have q1 : WV.cell? ⟨g6, 1, none⟩ = some (.slice none 0 0) := (bq_ HBWz.out 1).trans rfl
           have f0 : WV.frozen? ⟨g6, 0, none⟩ = false := bz_ HBWz.out 0
           have f1 : WV.frozen? ⟨g6, 1, none⟩ = false := bz_ HBWz.out 1
           have q2 : WV.cell? ⟨g12, 0, none⟩ = some (.slice A8 n8 c8) := (bq_ HBKV.out 0).trans rfl
           have q3 : WV.cell? ⟨g12, 1, none⟩ = some (.slice A9 n9 c9) := (bq_ HBKV.out 1).trans rfl
           go_wp2
           have r0 : ((WV.setCell ⟨g6, 0, none⟩ (.slice A8 n8 c8)).setCell ⟨g6, 1, none⟩ (.slice A9 n9 c9)).cell? ⟨g6, 0, none⟩ = some (.slice A8 n8 c8) := (bq_ (blk_set (blk_set HBWz.out 0 _) 1 _) 0).trans rfl
           have r1 : ((WV.setCell ⟨g6, 0, none⟩ (.slice A8 n8 c8)).setCell ⟨g6, 1, none⟩ (.slice A9 n9 c9)).cell? ⟨g6, 1, none⟩ = some (.slice A9 n9 c9) := (bq_ (blk_set (blk_set HBWz.out 0 _) 1 _) 1).trans rfl
           refine bodyPost_ret (v := .tuple #[.agg #[.slice A8 n8 c8, .slice A9 n9 c9], .bool true]) (by simp [results, Try.results16, go_sem, r0, r1]) rfl ?_
           rw [HE.out, HRT.out, HRT.out, ← HSTL.out]
           exact ⟨_, _, rfl, Kd.R_lower (R_put2 HVS.out HBWz.out (by decide) _ _) HBAQ.out.size, Kd.R_lower (R_put2 HVR.out HBWz.out (by decide) _ _) HBAQ.out.size, (Below.setCell HBQ.out HG6.out _).setCell HG6.out _⟩
 ·have HE := Zd.mk (show wb = false from by rw [HWB.out, decide_eq_false e1, Bool.false_and])
  have em1 : (mg != 0) = true := by simpa using e1
  go_enter Try.func16, Try.ntmps16
  go_upto_region 1 with fail
  rw [← hW2, ← hg6, ← hgk]
  clear hW2 hg6 hgk
  go_upto_region 2 with (go_at_call 8; refine HM1.out.mono ?_; rintro e w3 ⟨rfl, hB3⟩; have HB3 := Zd.mk hB3; have HBW3 := Zd.mk ((hB3.block _ (blk_lt HBW.out)).trans HBW.out); clear hB3)
  have q0 : (w3).cell? ⟨g6, 0, none⟩ = some (.slice none 0 0) := (bq_ HBW3.out 0).trans rfl
  have q1 : (w3).cell? ⟨g6, 1, none⟩ = some (.slice none 0 0) := (bq_ HBW3.out 1).trans rfl
  have f0 : (w3).frozen? ⟨g6, 0, none⟩ = false := bz_ HBW3.out 0
  have f1 : (w3).frozen? ⟨g6, 1, none⟩ = false := bz_ HBW3.out 1
  go_wp2
  have r0 : (((w3).setCell ⟨g6, 0, none⟩ (.slice none 0 0)).setCell ⟨g6, 1, none⟩ (.slice none 0 0)).cell? ⟨g6, 0, none⟩ = some (.slice none 0 0) := (bq_ (blk_set (blk_set HBW3.out 0 _) 1 _) 0).trans rfl
  have r1 : (((w3).setCell ⟨g6, 0, none⟩ (.slice none 0 0)).setCell ⟨g6, 1, none⟩ (.slice none 0 0)).cell? ⟨g6, 1, none⟩ = some (.slice none 0 0) := (bq_ (blk_set (blk_set HBW3.out 0 _) 1 _) 1).trans rfl
  refine bodyPost_ret (v := .tuple #[.agg #[.slice none 0 0, .slice none 0 0], .bool false]) (by simp [results, Try.results16, go_sem, r0, r1]) rfl ?_
  rw [HE.out, HRF.out, HRF.out]
  exact ⟨_, _, rfl, Kd.R_nil _ _ _ _ _, Kd.R_nil _ _ _ _ _, (Below.setCell (HB2.out.trans (HB3.out.mono HB2.out.size)) HG6.out _).setCell HG6.out _⟩
end Go.Proofs.Ytapejnikpmfddaa.X
