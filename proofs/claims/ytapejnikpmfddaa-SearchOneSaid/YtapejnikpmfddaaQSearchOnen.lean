/- A part of the claim SearchOne. -/
import Derived.Test.YtapejnikpmfddaaQSearchOnem
namespace Go.Proofs.Ytapejnikpmfddaa.X
open Go.RowKit Go.Proofs.YtapejnikpmfddaaW.PrintWords Go.Proofs.YtapejnikpmfddaaW.PrintLast Go.Proofs.YtapejnikpmfddaaW.PrintMore
open Go.Proofs.Ytapejnikpmfddaa.P Go.Proofs.Ytapejnikpmfddaa.Evx
set_option linter.unusedSimpArgs false
set_option linter.unusedVariables false
def findG (ls ss : List Int) (nxs : List (List Int)) (s : S29) (want : Bool) : Option (List Nat × List Nat) :=
 Sg.findF (newPD ls ss nxs s).next (newPD ls ss nxs s).good (newPD ls ss nxs s).N (newPD ls ss nxs s).P ((newPD ls ss nxs s).starts want)
def vertsG (ls ss : List Int) (nxs : List (List Int)) (s : S29) (l : List Nat) : List Int := castL (l.map (newPD ls ss nxs s).vert)
def findV (ls ss : List Int) (nxs : List (List Int)) (s : S29) : Option (List Nat × List Nat) → List Int × List Int × Bool
 | none => ([], [], false)
 | some (st, lp) => (vertsG ls ss nxs s st, vertsG ls ss nxs s lp, true)
def search_Find.f (l0_0 : List Int) (l0_1 : List Int) (l0_2 : List (List Int)) (a1_0 : Int) (a1_1 : Int) (l1_2 : List S29) : Option (List Int × List Int × Bool × Int) :=
 some (if newErr l0_0 l0_1 l0_2 ⟨a1_0, a1_1, l1_2⟩ = 0 then ((findV l0_0 l0_1 l0_2 ⟨a1_0, a1_1, l1_2⟩ (findG l0_0 l0_1 l0_2 ⟨a1_0, a1_1, l1_2⟩ true)).1, (findV l0_0 l0_1 l0_2 ⟨a1_0, a1_1, l1_2⟩ (findG l0_0 l0_1 l0_2 ⟨a1_0, a1_1, l1_2⟩ true)).2.1, (findV l0_0 l0_1 l0_2 ⟨a1_0, a1_1, l1_2⟩ (findG l0_0 l0_1 l0_2 ⟨a1_0, a1_1, l1_2⟩ true)).2.2, 0) else ([], [], false, newErr l0_0 l0_1 l0_2 ⟨a1_0, a1_1, l1_2⟩))
def search_All.f (l0_0 : List Int) (l0_1 : List Int) (l0_2 : List (List Int)) (a1_0 : Int) (a1_1 : Int) (l1_2 : List S29) : Option (Bool × Int) :=
 some (if newErr l0_0 l0_1 l0_2 ⟨a1_0, a1_1, l1_2⟩ = 0 then ((findG l0_0 l0_1 l0_2 ⟨a1_0, a1_1, l1_2⟩ false).isNone, 0) else (false, newErr l0_0 l0_1 l0_2 ⟨a1_0, a1_1, l1_2⟩))
theorem natK_ints {e : Nat} {w : World} {base : Nat} {ok : Nat → Prop} {v : Value} {xs : List Nat} (h : Kd.R natK e w base ok v xs) : Kd.R (Kd.int .i64) e w base ok v (castL xs) := natK_to_int h
set_option maxHeartbeats 3200000 in
set_option maxRecDepth 100000 in
theorem Find_calls (ls ss : List Int) (nxs : List (List Int)) (s : S29) (A0 A1 A2 A5 : Option Addr) (c0 c1 c2 c5 : Nat) (w : World)
  (h0 : Kd.C (Kd.int .u32) w A0 ls.length ls) (l0 : ls.length ≤ c0) (h1 : Kd.C (Kd.int .i64) w A1 ss.length ss) (l1 : ss.length ≤ c1) (h2 : Kd.C (Kd.slice 3 (Kd.int .i64)) w A2 nxs.length nxs) (l2 : nxs.length ≤ c2) (h5 : Kd.C k29 w A5 s.f2.length s.f2) (l5 : s.f2.length ≤ c5) :
  Calls Try.prog 11 #[.agg #[.slice A0 ls.length c0, .slice A1 ss.length c1, .slice A2 nxs.length c2], .agg #[.int .i64 s.f0, .int .i64 s.f1, .slice A5 s.f2.length c5]] w fun e w' =>
   ∃ v1 v2, e = .returned (.tuple #[v1, v2, .bool (if newErr ls ss nxs s = 0 then (findV ls ss nxs s (findG ls ss nxs s true)).2.2 else false), .int .i64 (newErr ls ss nxs s)]) ∧ Kd.R (Kd.int .i64) 3 w' w.heap.size (fun _ => True) v1 (if newErr ls ss nxs s = 0 then (findV ls ss nxs s (findG ls ss nxs s true)).1 else []) ∧
    Kd.R (Kd.int .i64) 3 w' w.heap.size (fun _ => True) v2 (if newErr ls ss nxs s = 0 then (findV ls ss nxs s (findG ls ss nxs s true)).2.1 else []) ∧ Below w.heap.size w w' := by
 have huK := Try.underlying26
 have huF := Try.underlying29
 obtain ⟨W2, hW2⟩ : ∃ W2, W2 = (w.alloc (.cells #[.slice A0 ls.length c0, .slice A1 ss.length c1, .slice A2 nxs.length c2] 26)).alloc (.cells #[.int .i64 s.f0, .int .i64 s.f1, .slice A5 s.f2.length c5] 29) := ⟨_, rfl⟩
 have hB2 : Below w.heap.size w W2 := by rw [hW2]; exact below_alloc (below_alloc (Below.refl _ _) _) _
 have hbk : W2.heap[w.heap.size]? = some (.cells #[.slice A0 ls.length c0, .slice A1 ss.length c1, .slice A2 nxs.length c2] 26 (0, 0)) := by rw [hW2]; exact ba_ (heap_alloc_new w _) _
 have hbf : W2.heap[w.heap.size + 1]? = some (.cells #[.int .i64 s.f0, .int .i64 s.f1, .slice A5 s.f2.length c5] 29 (0, 0)) := by
  rw [hW2]
  have := heap_alloc_new (w.alloc (.cells #[.slice A0 ls.length c0, .slice A1 ss.length c1, .slice A2 nxs.length c2] 26)) (.cells #[.int .i64 s.f0, .int .i64 s.f1, .slice A5 s.f2.length c5] 29)
  simpa using this
 have HNW := Zd.mk (newProduct_walk ls ss nxs s A0 A1 A2 A5 c0 c1 c2 c5 W2 (Kd.C_below h0 hB2) l0 (Kd.C_below h1 hB2) l1 (Kd.C_below h2 hB2) l2 (Kd.C_below h5 hB2) l5)
 have zk0 : W2.cell? ⟨w.heap.size, 0, none⟩ = some (.slice A0 ls.length c0) := (bq_ hbk 0).trans rfl
 have zk1 : W2.cell? ⟨w.heap.size, 1, none⟩ = some (.slice A1 ss.length c1) := (bq_ hbk 1).trans rfl
 have zk2 : W2.cell? ⟨w.heap.size, 2, none⟩ = some (.slice A2 nxs.length c2) := (bq_ hbk 2).trans rfl
 have zf0 : W2.cell? ⟨w.heap.size + 1, 0, none⟩ = some (.int .i64 s.f0) := (bq_ hbf 0).trans rfl
 have zf1 : W2.cell? ⟨w.heap.size + 1, 1, none⟩ = some (.int .i64 s.f1) := (bq_ hbf 1).trans rfl
 have zf2 : W2.cell? ⟨w.heap.size + 1, 2, none⟩ = some (.slice A5 s.f2.length c5) := (bq_ hbf 2).trans rfl
 have HB2 := Zd.mk hB2
 have HOK := Zd.mk (fun (h : newErr ls ss nxs s = 0) => show (newPD ls ss nxs s).Ok from by
  unfold newErr at h
  by_cases e1 : mayG ls ss nxs = 0
  ·rw [if_pos e1] at h
   by_cases e2 : mayF s = 0
   ·exact newPD_ok (mayG_ok e1) e2
   ·rw [if_neg e2] at h; exact absurd h e2
  ·rw [if_neg e1] at h; exact absurd h e1)
 have HFG := Zd.mk (show findG ls ss nxs s true = Sg.findF (newPD ls ss nxs s).next (newPD ls ss nxs s).good (newPD ls ss nxs s).N (newPD ls ss nxs s).P ((newPD ls ss nxs s).starts true) from rfl)
 clear h0 h1 h2 h5 hbk hbf hB2
 have HFV0 := Zd.mk (show findV ls ss nxs s none = ([], [], false) from rfl)
 have HFV1 := Zd.mk (fun st lp => show findV ls ss nxs s (some (st, lp)) = (castL (st.map (newPD ls ss nxs s).vert), castL (lp.map (newPD ls ss nxs s).vert), true) from rfl)
 generalize findG ls ss nxs s true = fg at *
 generalize findV ls ss nxs s = fv at *
 generalize newPD ls ss nxs s = p at *
 generalize newErr ls ss nxs s = er at *
 by_cases e1 : er = 0
 ·have em : (er != 0) = false := by rw [e1]; rfl
  have em1 : ¬ er ≠ 0 := fun h => h e1
  have HPO := Zd.mk (HOK.out e1)
  have HE := Zd.mk e1
  clear e1
  go_enter Try.func11, Try.ntmps11
  go_upto_region 1 with fail
  rw [← hW2]
  clear hW2
  go_upto_region 2 with (go_at_call 25; refine HNW.out.mono ?_; rintro e w3 ⟨hN, hB3⟩; unfold NewOk at hN; rw [if_pos HE.out] at hN; obtain ⟨g, rfl, hP⟩ := hN; have HP := Zd.mk hP; have HB3 := Zd.mk (HB2.out.trans (hB3.mono HB2.out.size)); clear hP hB3)
  have HFW := Zd.mk (find_walk p true g w3 HP.out HPO.out)
  rw [← HFG.out] at HFW
  cases hfg : fg with
  | none =>
   rw [hfg] at HFW
   go_wp2_with (go_at_call 26; refine HFW.out.mono ?_; rintro e w4 ⟨hF, hB4⟩; have hF' : e = .returned (.tuple #[.slice none 0 0, .slice none 0 0, .bool false]) := hF; subst hF'; have HB4 := Zd.mk hB4; clear hB4 hF)
   (try simp only [Exit.inBlock, Exit.then])
   refine bodyPost_ret (v := .tuple #[.slice none 0 0, .slice none 0 0, .bool false, .int .i64 0]) (by simp [results, Try.results11, go_sem]) rfl ?_
   (try simp only [if_pos HE.out, HE.out])
   rw [HFV0.out]
   exact ⟨_, _, rfl, Kd.R_nil _ _ _ _ _, Kd.R_nil _ _ _ _ _, HB3.out.trans (HB4.out.mono HB3.out.size)⟩
  | some q =>
   obtain ⟨st, lp⟩ := q
   rw [hfg] at HFW
   go_wp2_with (go_at_call 26; refine HFW.out.mono ?_; rintro e w4 ⟨⟨v1, v2, rfl, hR1, hR2⟩, hB4⟩; have HB4 := Zd.mk hB4; have HR1 := Zd.mk hR1; have HR2 := Zd.mk hR2; clear hB4 hR1 hR2)
   (try simp only [Exit.inBlock, Exit.then])
   refine bodyPost_ret (v := .tuple #[v1, v2, .bool true, .int .i64 0]) (by simp [results, Try.results11, go_sem]) rfl ?_
   (try simp only [if_pos HE.out, HE.out])
   rw [HFV1.out]
   exact ⟨v1, v2, rfl, natK_ints (Kd.R_lower HR1.out HB3.out.size), natK_ints (Kd.R_lower HR2.out HB3.out.size), HB3.out.trans (HB4.out.mono HB3.out.size)⟩
 ·have em : (er != 0) = true := by simpa using e1
  go_enter Try.func11, Try.ntmps11
  go_upto_region 1 with fail
  rw [← hW2]
  clear hW2
  go_wp2_with (go_at_call 25; refine HNW.out.mono ?_; rintro e w3 ⟨hN, hB3⟩; unfold NewOk at hN; rw [if_neg e1] at hN; subst hN; have HB3 := Zd.mk (HB2.out.trans (hB3.mono HB2.out.size)); clear hB3)
  (try simp only [Exit.inBlock, Exit.then])
  refine bodyPost_ret (v := .tuple #[.slice none 0 0, .slice none 0 0, .bool false, .int .i64 er]) (by simp [results, Try.results11, go_sem]) rfl ?_
  (try simp only [if_neg e1])
  exact ⟨_, _, rfl, Kd.R_nil _ _ _ _ _, Kd.R_nil _ _ _ _ _, HB3.out⟩
theorem search_Find.calls (A0_0 : Option Addr) (c0_0 : Nat) (l0_0 : List Int) (A0_1 : Option Addr) (c0_1 : Nat) (l0_1 : List Int) (A0_2 : Option Addr) (c0_2 : Nat) (l0_2 : List (List Int)) (a1_0 : Int) (a1_1 : Int) (A1_2 : Option Addr) (c1_2 : Nat) (l1_2 : List S29) (r1 : List Int) (r2 : List Int) (r3 : Bool) (r4 : Int) (w : World) (hr0_0 : Kd.C (Kd.int .u32) w A0_0 l0_0.length l0_0) (hc0_0 : l0_0.length ≤ c0_0) (hr0_1 : Kd.C (Kd.int .i64) w A0_1 l0_1.length l0_1) (hc0_1 : l0_1.length ≤ c0_1) (hr0_2 : Kd.C (Kd.slice 3 (Kd.int .i64)) w A0_2 l0_2.length l0_2) (hc0_2 : l0_2.length ≤ c0_2) (hr1_2 : Kd.C k29 w A1_2 l1_2.length l1_2) (hc1_2 : l1_2.length ≤ c1_2) (h : search_Find.f l0_0 l0_1 l0_2 a1_0 a1_1 l1_2 = some (r1, r2, r3, r4)) :
  Calls Try.prog 11 #[.agg #[.slice A0_0 l0_0.length c0_0, .slice A0_1 l0_1.length c0_1, .slice A0_2 l0_2.length c0_2], .agg #[.int .i64 a1_0, .int .i64 a1_1, .slice A1_2 l1_2.length c1_2]] w fun e w' => ∃ v1_ v2_ : Value, e = .returned (.tuple #[v1_, v2_, .bool r3, .int .i64 r4]) ∧ Kd.R (Kd.int .i64) 3 w' w.heap.size (fun _ => True) v1_ r1 ∧ Kd.R (Kd.int .i64) 3 w' w.heap.size (fun _ => True) v2_ r2 ∧ Below w.heap.size w w' := by
 have H := Find_calls l0_0 l0_1 l0_2 ⟨a1_0, a1_1, l1_2⟩ A0_0 A0_1 A0_2 A1_2 c0_0 c0_1 c0_2 c1_2 w hr0_0 hc0_0 hr0_1 hc0_1 hr0_2 hc0_2 hr1_2 hc1_2
 have h' := Option.some.inj h
 by_cases e : newErr l0_0 l0_1 l0_2 ⟨a1_0, a1_1, l1_2⟩ = 0
 ·rw [if_pos e] at h'
  rw [if_pos e, if_pos e, if_pos e, e] at H
  injection h' with h1 h'
  injection h' with h2 h'
  injection h' with h3 h4
  subst h1
  subst h2
  subst h3
  subst h4
  exact H
 ·rw [if_neg e] at h'
  rw [if_neg e, if_neg e, if_neg e] at H
  injection h' with h1 h'
  injection h' with h2 h'
  injection h' with h3 h4
  subst h1
  subst h2
  subst h3
  subst h4
  exact H
set_option maxHeartbeats 3200000 in
set_option maxRecDepth 100000 in
theorem All_calls (ls ss : List Int) (nxs : List (List Int)) (s : S29) (A0 A1 A2 A5 : Option Addr) (c0 c1 c2 c5 : Nat) (w : World)
  (h0 : Kd.C (Kd.int .u32) w A0 ls.length ls) (l0 : ls.length ≤ c0) (h1 : Kd.C (Kd.int .i64) w A1 ss.length ss) (l1 : ss.length ≤ c1) (h2 : Kd.C (Kd.slice 3 (Kd.int .i64)) w A2 nxs.length nxs) (l2 : nxs.length ≤ c2) (h5 : Kd.C k29 w A5 s.f2.length s.f2) (l5 : s.f2.length ≤ c5) :
  Calls Try.prog 12 #[.agg #[.slice A0 ls.length c0, .slice A1 ss.length c1, .slice A2 nxs.length c2], .agg #[.int .i64 s.f0, .int .i64 s.f1, .slice A5 s.f2.length c5]] w fun e w' =>
   e = .returned (.tuple #[.bool (if newErr ls ss nxs s = 0 then (findG ls ss nxs s false).isNone else false), .int .i64 (newErr ls ss nxs s)]) ∧ Below w.heap.size w w' := by
 have huK := Try.underlying26
 have huF := Try.underlying29
 obtain ⟨W2, hW2⟩ : ∃ W2, W2 = (w.alloc (.cells #[.slice A0 ls.length c0, .slice A1 ss.length c1, .slice A2 nxs.length c2] 26)).alloc (.cells #[.int .i64 s.f0, .int .i64 s.f1, .slice A5 s.f2.length c5] 29) := ⟨_, rfl⟩
 have hB2 : Below w.heap.size w W2 := by rw [hW2]; exact below_alloc (below_alloc (Below.refl _ _) _) _
 have hbk : W2.heap[w.heap.size]? = some (.cells #[.slice A0 ls.length c0, .slice A1 ss.length c1, .slice A2 nxs.length c2] 26 (0, 0)) := by rw [hW2]; exact ba_ (heap_alloc_new w _) _
 have hbf : W2.heap[w.heap.size + 1]? = some (.cells #[.int .i64 s.f0, .int .i64 s.f1, .slice A5 s.f2.length c5] 29 (0, 0)) := by
  rw [hW2]
  have := heap_alloc_new (w.alloc (.cells #[.slice A0 ls.length c0, .slice A1 ss.length c1, .slice A2 nxs.length c2] 26)) (.cells #[.int .i64 s.f0, .int .i64 s.f1, .slice A5 s.f2.length c5] 29)
  simpa using this
 have HNW := Zd.mk (newProduct_walk ls ss nxs s A0 A1 A2 A5 c0 c1 c2 c5 W2 (Kd.C_below h0 hB2) l0 (Kd.C_below h1 hB2) l1 (Kd.C_below h2 hB2) l2 (Kd.C_below h5 hB2) l5)
 have zk0 : W2.cell? ⟨w.heap.size, 0, none⟩ = some (.slice A0 ls.length c0) := (bq_ hbk 0).trans rfl
 have zk1 : W2.cell? ⟨w.heap.size, 1, none⟩ = some (.slice A1 ss.length c1) := (bq_ hbk 1).trans rfl
 have zk2 : W2.cell? ⟨w.heap.size, 2, none⟩ = some (.slice A2 nxs.length c2) := (bq_ hbk 2).trans rfl
 have zf0 : W2.cell? ⟨w.heap.size + 1, 0, none⟩ = some (.int .i64 s.f0) := (bq_ hbf 0).trans rfl
 have zf1 : W2.cell? ⟨w.heap.size + 1, 1, none⟩ = some (.int .i64 s.f1) := (bq_ hbf 1).trans rfl
 have zf2 : W2.cell? ⟨w.heap.size + 1, 2, none⟩ = some (.slice A5 s.f2.length c5) := (bq_ hbf 2).trans rfl
 have HB2 := Zd.mk hB2
 have HOK := Zd.mk (fun (h : newErr ls ss nxs s = 0) => show (newPD ls ss nxs s).Ok from by
  unfold newErr at h
  by_cases e1 : mayG ls ss nxs = 0
  ·rw [if_pos e1] at h
   by_cases e2 : mayF s = 0
   ·exact newPD_ok (mayG_ok e1) e2
   ·rw [if_neg e2] at h; exact absurd h e2
  ·rw [if_neg e1] at h; exact absurd h e1)
 have HFG := Zd.mk (show findG ls ss nxs s false = Sg.findF (newPD ls ss nxs s).next (newPD ls ss nxs s).good (newPD ls ss nxs s).N (newPD ls ss nxs s).P ((newPD ls ss nxs s).starts false) from rfl)
 clear h0 h1 h2 h5 hbk hbf hB2
 generalize findG ls ss nxs s false = fg at *
 generalize newPD ls ss nxs s = p at *
 generalize newErr ls ss nxs s = er at *
 by_cases e1 : er = 0
 ·have em : (er != 0) = false := by rw [e1]; rfl
  have em1 : ¬ er ≠ 0 := fun h => h e1
  have HPO := Zd.mk (HOK.out e1)
  have HE := Zd.mk e1
  clear e1
  go_enter Try.func12, Try.ntmps12
  go_upto_region 1 with fail
  rw [← hW2]
  clear hW2
  go_upto_region 2 with (go_at_call 25; refine HNW.out.mono ?_; rintro e w3 ⟨hN, hB3⟩; unfold NewOk at hN; rw [if_pos HE.out] at hN; obtain ⟨g, rfl, hP⟩ := hN; have HP := Zd.mk hP; have HB3 := Zd.mk (HB2.out.trans (hB3.mono HB2.out.size)); clear hP hB3)
  have HFW := Zd.mk (find_walk p false g w3 HP.out HPO.out)
  rw [← HFG.out] at HFW
  cases hfg : fg with
  | none =>
   rw [hfg] at HFW
   go_wp2_with (go_at_call 26; refine HFW.out.mono ?_; rintro e w4 ⟨hF, hB4⟩; have hF' : e = .returned (.tuple #[.slice none 0 0, .slice none 0 0, .bool false]) := hF; subst hF'; have HB4 := Zd.mk hB4; clear hB4 hF)
   go_ret2
   refine ⟨?_, HB3.out.trans (HB4.out.mono HB3.out.size)⟩
   (try simp only [if_pos HE.out, HE.out])
   rfl
  | some q =>
   obtain ⟨st, lp⟩ := q
   rw [hfg] at HFW
   go_wp2_with (go_at_call 26; refine HFW.out.mono ?_; rintro e w4 ⟨⟨v1, v2, rfl, hR1, hR2⟩, hB4⟩; have HB4 := Zd.mk hB4; have HR1 := Zd.mk hR1; have HR2 := Zd.mk hR2; clear hB4 hR1 hR2)
   go_ret2
   refine ⟨?_, HB3.out.trans (HB4.out.mono HB3.out.size)⟩
   (try simp only [if_pos HE.out, HE.out])
   rfl
 ·have em : (er != 0) = true := by simpa using e1
  go_enter Try.func12, Try.ntmps12
  go_upto_region 1 with fail
  rw [← hW2]
  clear hW2
  go_wp2_with (go_at_call 25; refine HNW.out.mono ?_; rintro e w3 ⟨hN, hB3⟩; unfold NewOk at hN; rw [if_neg e1] at hN; subst hN; have HB3 := Zd.mk (HB2.out.trans (hB3.mono HB2.out.size)); clear hB3)
  go_ret2
  exact ⟨by (try simp only [if_neg e1]); rfl, HB3.out⟩
theorem search_All.calls (A0_0 : Option Addr) (c0_0 : Nat) (l0_0 : List Int) (A0_1 : Option Addr) (c0_1 : Nat) (l0_1 : List Int) (A0_2 : Option Addr) (c0_2 : Nat) (l0_2 : List (List Int)) (a1_0 : Int) (a1_1 : Int) (A1_2 : Option Addr) (c1_2 : Nat) (l1_2 : List S29) (r1 : Bool) (r2 : Int) (w : World) (hr0_0 : Kd.C (Kd.int .u32) w A0_0 l0_0.length l0_0) (hc0_0 : l0_0.length ≤ c0_0) (hr0_1 : Kd.C (Kd.int .i64) w A0_1 l0_1.length l0_1) (hc0_1 : l0_1.length ≤ c0_1) (hr0_2 : Kd.C (Kd.slice 3 (Kd.int .i64)) w A0_2 l0_2.length l0_2) (hc0_2 : l0_2.length ≤ c0_2) (hr1_2 : Kd.C k29 w A1_2 l1_2.length l1_2) (hc1_2 : l1_2.length ≤ c1_2) (h : search_All.f l0_0 l0_1 l0_2 a1_0 a1_1 l1_2 = some (r1, r2)) :
  Calls Try.prog 12 #[.agg #[.slice A0_0 l0_0.length c0_0, .slice A0_1 l0_1.length c0_1, .slice A0_2 l0_2.length c0_2], .agg #[.int .i64 a1_0, .int .i64 a1_1, .slice A1_2 l1_2.length c1_2]] w fun e w' => e = .returned (.tuple #[.bool r1, .int .i64 r2]) ∧ Below w.heap.size w w' := by
 have H := All_calls l0_0 l0_1 l0_2 ⟨a1_0, a1_1, l1_2⟩ A0_0 A0_1 A0_2 A1_2 c0_0 c0_1 c0_2 c1_2 w hr0_0 hc0_0 hr0_1 hc0_1 hr0_2 hc0_2 hr1_2 hc1_2
 have h' := Option.some.inj h
 by_cases e : newErr l0_0 l0_1 l0_2 ⟨a1_0, a1_1, l1_2⟩ = 0
 ·rw [if_pos e] at h' H
  obtain ⟨rfl, rfl⟩ := Prod.mk.inj h'
  rw [e] at H
  exact H
 ·rw [if_neg e] at h' H
  obtain ⟨rfl, rfl⟩ := Prod.mk.inj h'
  exact H
end Go.Proofs.Ytapejnikpmfddaa.X
namespace Go.Proofs.Ytapejnikpmfddaa.X
open Go.RowKit Go.Proofs.YtapejnikpmfddaaW.PrintWords Go.Proofs.YtapejnikpmfddaaW.PrintLast Go.Proofs.YtapejnikpmfddaaW.PrintMore
open Go.Proofs.Ytapejnikpmfddaa.P
set_option linter.unusedSimpArgs false
set_option linter.unusedVariables false
set_option maxHeartbeats 1600000 in
theorem GrowI_nil (m : Int) (w : World) (h0 : 0 < m) (h1 : m < 1000000000) :
  Calls Try.prog 52 #[.slice none 0 0, .int .i64 m] w fun e w' => ∃ v, e = .returned v ∧ Kd.R (Kd.int .i64) 3 w' w.heap.size (fun _ => True) v [] ∧ Below w.heap.size w w' := by
 have hus := Try.underlying23
 have hui := Try.underlying3
 have hnn : ¬ m < 0 := by omega
 go_enter Try.func52, Try.ntmps52
 go_wp2_with ((with_reducible refine gate_builtin (b := .append) (xs := #[.tmp 20, .tmp 21]) rfl ?_); at_builtin; refine Kd.R_append_zeros (Kd.int .i64) (w0 := w) w.heap.size rfl (.tmp 20) (.tmp 21) 23 3 3 (.int .i64 0) 8 rfl hus hui infoI rfl (by decide) (by decide) (.slice none 0 0) [] 0 (kx := .i64) m (fun _ => True) rfl rfl rfl (fun _ _ => trivial) (Kd.R_nil _ _ _ _ _) (by omega) (Below.refl _ _) (Nat.le_refl _) (by simp; omega) ?_; intro v1 w1 hR hB hg hat; obtain ⟨A1, c1, hv1⟩ := Kd.R_slice hR; subst hv1; have HR := Zd.mk hR; have HB := Zd.mk hB; clear hR hB hg hat)
 go_ret
 exact ⟨_, rfl, by have := Kd.R_take (m := 0) HR.out (by simp); simpa using this, HB.out⟩
set_option maxHeartbeats 4000000 in
set_option maxRecDepth 100000 in
theorem ConcatI_calls (gb : Nat) (A1 A2 : Option Addr) (c1 c2 : Nat) (l1 l2 : List Int) (w : World) (hb : w.heap[gb]? = some (.cells #[.slice A1 l1.length c1, .slice A2 l2.length c2] 23 (0, 0))) (hr1 : Kd.C (Kd.int .i64) w A1 l1.length l1) (hr2 : Kd.C (Kd.int .i64) w A2 l2.length l2) (h0 : 0 < l1.length + l2.length) (h1 : l1.length + l2.length < 1000000000) :
  Calls Try.prog 27 #[.slice (some ⟨gb, 0, none⟩) 2 2] w fun e w' => ∃ v, e = .returned v ∧ Kd.R (Kd.int .i64) 3 w' w.heap.size (fun _ => True) v (l1 ++ l2) ∧ Below w.heap.size w w' := by
 have hus := Try.underlying23
 have huss := Try.underlying24
 have hui := Try.underlying3
 have hgb : gb < w.heap.size := blk_lt hb
 have x0 : w.cell? ⟨gb, 0, none⟩ = some (.slice A1 l1.length c1) := (bq_ hb 0).trans rfl
 have x1 : w.cell? ⟨gb, 1, none⟩ = some (.slice A2 l2.length c2) := (bq_ hb 1).trans rfl
 have R1 := Zd.mk hr1
 have R2 := Zd.mk hr2
 have X0 := Zd.mk x0
 have X1 := Zd.mk x1
 clear hb hr1 hr2 x0 x1
 go_enter Try.func27, Try.ntmps27
 go_wp2
 go_loopg [3, 11] 2 (fun kq v3 v11 w' => (kq = 2 ∧ v3 = .int .i64 0 ∧ v11 = .int .i64 0 ∧ w' = w) ∨ (kq = 1 ∧ v3 = .int .i64 (l1.length : Int) ∧ v11 = .int .i64 1 ∧ w' = w) ∨ (kq = 0 ∧ v3 = .int .i64 ((l1.length : Int) + (l2.length : Int)) ∧ v11 = .int .i64 2 ∧ w' = w))
 case atStart => exact .inl ⟨rfl, rfl, rfl, rfl⟩
 case round =>
  rcases hrel with ⟨rfl, rfl, rfl, rfl⟩ | ⟨rfl, rfl, rfl, rfl⟩ | ⟨rfl, rfl, rfl, rfl⟩
  ·have y0 := X0.out
   have hn : ¬ ((l1.length : Int) < 0) := by omega
   go_wp2
   go_roundg 1
   case measure => omega
   case rel => exact .inr (.inl ⟨rfl, by first | rfl | (simp; done), rfl, rfl⟩)
  ·have y1 := X1.out
   have hn : ¬ ((l1.length : Int) + (l2.length : Int) < 0) := by omega
   go_wp2
   go_roundg 0
   case measure => omega
   case rel => exact .inr (.inr ⟨rfl, by first | rfl | (simp; done), rfl, rfl⟩)
  ·obtain ⟨WW, rfl⟩ : ∃ W : World, W = wr := ⟨_, rfl⟩
   go_wp2_with (go_at_call 52; refine (GrowI_nil _ _ (by omega) (by omega)).mono ?_; rintro e w1 ⟨v, rfl, hR, hB⟩; have HR := Zd.mk hR; have HB := Zd.mk hB; clear hR hB)
   go_loopg [6, 27] 2 (fun kq v6 v27 w' => Zd (Below WW.heap.size WW w') ∧ ((kq = 2 ∧ v27 = .int .i64 0 ∧ Zd (Kd.R (Kd.int .i64) 3 w' WW.heap.size (fun _ => True) v6 [])) ∨ (kq = 1 ∧ v27 = .int .i64 1 ∧ Zd (Kd.R (Kd.int .i64) 3 w' WW.heap.size (fun _ => True) v6 l1)) ∨ (kq = 0 ∧ v27 = .int .i64 2 ∧ Zd (Kd.R (Kd.int .i64) 3 w' WW.heap.size (fun _ => True) v6 (l1 ++ l2)))))
   case atStart => exact ⟨HB, .inl ⟨rfl, rfl, HR⟩⟩
   case round =>
    obtain ⟨HBV, hrel⟩ := hrel
    rcases hrel with ⟨rfl, rfl, HV⟩ | ⟨rfl, rfl, HV⟩ | ⟨rfl, rfl, HV⟩
    ·have y0 := (HBV.out.cell (World.block_lt_of_cell? _ _ X0.out)).trans X0.out
     go_wp2_with (first | ((with_reducible refine gate_builtin (b := .append) (xs := #[.tmp 31, .tmp 32]) rfl ?_); at_builtin; refine Kd.R_append_row (Value.int .i64) (0 : Int) (h1 := fun _ => rfl) (w0 := WW) WW.heap.size rfl (.tmp 31) (.tmp 32) 23 3 (.int .i64 0) 8 rfl hus infoI rfl (by decide) u6 [] l1 A1 l1.length c1 (fun _ => True) rfl rfl (fun _ _ => trivial) HV.out (Kd.C_below R1.out HBV.out) HBV.out HBV.out.size (by first | omega | (simp; omega)) ?_; intro v1 w2 hR hB hg hat; have HV2 := Zd.mk hR; have HBV2 := Zd.mk hB; clear hR hB hg hat))
     go_roundg 1
     case measure => omega
     case rel => exact ⟨HBV2, .inr (.inl ⟨rfl, rfl, HV2⟩)⟩
    ·have y1 := (HBV.out.cell (World.block_lt_of_cell? _ _ X1.out)).trans X1.out
     go_wp2_with (first | ((with_reducible refine gate_builtin (b := .append) (xs := #[.tmp 31, .tmp 32]) rfl ?_); at_builtin; refine Kd.R_append_row (Value.int .i64) (0 : Int) (h1 := fun _ => rfl) (w0 := WW) WW.heap.size rfl (.tmp 31) (.tmp 32) 23 3 (.int .i64 0) 8 rfl hus infoI rfl (by decide) u6 l1 l2 A2 l2.length c2 (fun _ => True) rfl rfl (fun _ _ => trivial) HV.out (Kd.C_below R2.out HBV.out) HBV.out HBV.out.size (by first | omega | (simp; omega)) ?_; intro v1 w2 hR hB hg hat; have HV2 := Zd.mk hR; have HBV2 := Zd.mk hB; clear hR hB hg hat))
     go_roundg 0
     case measure => omega
     case rel => exact ⟨HBV2, .inr (.inr ⟨rfl, rfl, HV2⟩)⟩
    ·go_wp2
     go_ret
     exact ⟨_, rfl, HV.out, HBV.out⟩
set_option maxHeartbeats 1600000 in
set_option maxRecDepth 100000 in
theorem Clone_calls (A : Option Addr) (c : Nat) (l : List Int) (w : World) (hr : Kd.C (Kd.int .u32) w A l.length l) (hl : l.length < 1000000000) :
  Calls Try.prog 29 #[.slice A l.length c] w fun e w' => ∃ v, e = .returned v ∧ Kd.R (Kd.int .u32) 48 w' w.heap.size (fun _ => True) v l ∧ Below w.heap.size w w' := by
 have hus := Try.underlying22
 have HR := Zd.mk hr
 cases A with
 | none =>
  have hl0 : l = [] := by
   match l, hr with
   | [], _ => rfl
   | a :: r, hr => obtain ⟨ad, e, _⟩ := hr.2.2 (by simp); cases e
  have HL := Zd.mk hl0
  have hq : ∀ (n : Nat) (W : World), (binOp BinOp.eql 22 (.slice none n c) (.slice none 0 0)).run Try.prog W = .ok (.bool true) W := fun _ _ => by kernel_rfl
  clear hr hl0
  go_enter Try.func29, Try.ntmps29
  go_wp2
  go_ret
  exact ⟨_, rfl, by rw [HL.out]; exact Kd.R_nil _ _ _ _ _, Below.refl _ _⟩
 | some ad =>
  have HO := Zd.mk (show Kd.R (Kd.int .u32) 48 (w.alloc (.cells #[] 48)) w.heap.size (fun _ => True) (.slice (some ⟨w.heap.size, 0, none⟩) 0 0) [] from
   Kd.R_of_own (enc := Value.int .u32) (h1 := fun _ => rfl) ⟨by simp [encs], .inr ⟨w.heap.size, 0, #[], rfl, Nat.le_refl _, heap_alloc_new w _, Nat.le_refl _, by decide, rfl, rfl⟩⟩ (fun _ _ => trivial))
  have HB1 := Zd.mk (below_alloc (Below.refl w.heap.size w) (.cells #[] 48))
  have hq : ∀ (n : Nat) (W : World), (binOp BinOp.eql 22 (.slice (some ad) n c) (.slice none 0 0)).run Try.prog W = .ok (.bool false) W := fun _ _ => by kernel_rfl
  clear hr
  go_enter Try.func29, Try.ntmps29
  go_wp2_with ((with_reducible refine gate_builtin (b := .append) (xs := #[.tmp 5, .tmp 6]) rfl ?_); at_builtin; refine Kd.R_append_row (Value.int .u32) (0 : Int) (h1 := fun _ => rfl) (w0 := w) w.heap.size rfl (.tmp 5) (.tmp 6) 22 48 (.int .u32 0) 4 rfl hus infoU32 rfl (by decide) (.slice (some ⟨w.heap.size, 0, none⟩) 0 0) [] l (some ad) l.length c (fun _ => True) rfl rfl (fun _ _ => trivial) HO.out (Kd.C_below HR.out HB1.out) HB1.out HB1.out.size (by first | omega | (simp; omega)) ?_; intro v1 w2 hR hB hg hat; have HV2 := Zd.mk hR; have HBV2 := Zd.mk hB; clear hR hB hg hat)
  go_ret
  exact ⟨_, rfl, HV2.out, HBV2.out⟩
end Go.Proofs.Ytapejnikpmfddaa.X
namespace Go.Proofs.Ytapejnikpmfddaa.X
open Go.RowKit Go.Proofs.YtapejnikpmfddaaW.PrintWords Go.Proofs.YtapejnikpmfddaaW.PrintLast Go.Proofs.YtapejnikpmfddaaW.PrintMore
open Go.Proofs.Ytapejnikpmfddaa.P Go.Proofs.Ytapejnikpmfddaa.Evx
set_option linter.unusedSimpArgs false
set_option linter.unusedVariables false
theorem index_loop (l : List Int) (a : Int) (hb : l.length ≤ 9223372036854775807) : ∀ (r p : List Int), p ++ r = l → ∃ t : Int, Ev (fun k => slices_Index_int_int.l0 k l a (l.length : Int) (p.length : Int)) t ∧ decide (t ≥ 0) = r.contains a
 | [], p, h => by
  subst h
  exact ⟨-1, ev_step (fun k => rfl) (ev_neg (by simp) (ev_some _)), rfl⟩
 | v :: r, p, h => by
  have hlen : l.length = p.length + (r.length + 1) := by rw [← h]; simp
  have hrd : rd l (p.length : Int) = v := by rw [← h]; exact rd_app p v r
  by_cases e : a = v
  ·refine ⟨(p.length : Int), ev_step (fun k => rfl) (ev_pos (by omega) (ev_pos (by omega) (ev_pos (by omega) ?_))), ?_⟩
   ·rw [hrd]
    exact ev_pos e (ev_some _)
   ·rw [List.contains_cons, beq_iff_eq.2 e, Bool.true_or]
    exact decide_eq_true (by omega)
  ·obtain ⟨t, h1, h2⟩ := index_loop l a hb r (p ++ [v]) (by rw [← h]; simp)
   refine ⟨t, ev_step (fun k => rfl) (ev_pos (by omega) (ev_pos (by omega) (ev_pos (by omega) ?_))), ?_⟩
   ·rw [hrd]
    refine ev_neg e ?_
    rw [w64 (by omega) (by omega), show ((p.length : Int) + 1) = ((p ++ [v]).length : Int) by simp]
    exact h1
   ·rw [h2, List.contains_cons, beq_eq_false_iff_ne.2 e, Bool.false_or]
theorem contains_ev (l : List Int) (a : Int) (hb : l.length ≤ 9223372036854775807) : Ev (fun k => slices_Contains_int_int.f k l a) (l.contains a) := by
 obtain ⟨t, h1, h2⟩ := index_loop l a hb l [] rfl
 unfold slices_Contains_int_int.f
 refine ev_bind (show Ev (fun k => slices_Index_int_int.f k l a) t from h1) (ev_eq (ev_some _) h2)
theorem Contains_calls (l : List Int) (a : Int) (A : Option Addr) (c : Nat) (w : World) (hr : Kd.C (Kd.int .i64) w A l.length l) (hc : l.length ≤ c) :
  Calls Try.prog 28 #[.slice A l.length c, .int .i64 a] w fun e w' => e = .returned (.bool (l.contains a)) ∧ Below w.heap.size w w' := by
 obtain ⟨k, hk⟩ := (contains_ev l a (Kd.C_max hr)).rounds
 exact (slices_Contains_int_int.calls k A c l a _ w hr hc hk).mono (fun e w' h => ⟨h.1, h.2.below⟩)
def okAt (ls ss : List Int) (nxs : List (List Int)) (all : List Int) (i : Nat) : Bool :=
 if all.getD i 0 < 0 then false else if (ls.length : Int) ≤ all.getD i 0 then false else if i = 0 then ss.contains (all.getD i 0) else (nxs.getD (all.getD (i - 1) 0).toNat []).contains (all.getD i 0)
def walkB (ls ss : List Int) (nxs : List (List Int)) (all : List Int) : Bool := (List.range all.length).all (okAt ls ss nxs all)
def lettersG (ls all : List Int) : List Int := all.map (fun v => ls.getD v.toNat 0)
def wordB (ls ss : List Int) (nxs : List (List Int)) (st lp : List Int) : Bool :=
 decide (mayG ls ss nxs = 0) && (decide (lp ≠ []) && (walkB ls ss nxs (st ++ lp) && ((nxs.getD ((st ++ lp).getD ((st ++ lp).length - 1) 0).toNat []).contains (lp.getD 0 0) && wordS (lettersG ls st) (lettersG ls lp))))
theorem len_letters (ls all : List Int) : (lettersG ls all).length = all.length := List.length_map ..
section
variable {W w w1 : World} {g p : Nat}
def put2 (w : World) (p : Nat) (x y : Value) : World := (w.setCell ⟨p, 0, none⟩ x).setCell ⟨p, 1, none⟩ y
theorem below_put2 (hB : Below W.heap.size W w) (hp : W.heap.size ≤ p) (x y : Value) : Below W.heap.size W (put2 w p x y) := (hB.setCell hp x).setCell hp y
theorem Lay.put2 {a b : Value} {t : TypeId} (h : Lay W w p #[a, b] t) (x y : Value) : Lay W (put2 w p x y) p #[x, y] t := ⟨h.1, (blk_set (blk_set h.2 0 x) 1 y).trans rfl⟩
theorem R_put2 {w : World} {base p : Nat} {ok : Nat → Prop} {v a b : Value} {xs : List Int} {t : TypeId} (h : Kd.R (Kd.int .u32) 48 w base ok v xs) (hb : w.heap[p]? = some (.cells #[a, b] t (0, 0))) (ht : (48 : Nat) ≠ t) (x y : Value) : Kd.R (Kd.int .u32) 48 (put2 w p x y) base ok v xs := by
 have hne : ∀ k, v.ownBlock = some k → k ≠ p := fun k hk e => by
  obtain ⟨cells, hc⟩ := Kd.R_typed h k hk
  rw [e, hb] at hc
  injection hc with hc
  injection hc with _ h2 _
  exact ht h2.symm
 exact Kd.R_mono (Kd.R_step (Kd.R_tight rfl h) (fun k hk _ => by
  have hk' : k ≠ p := hne k hk.symm
  unfold put2
  rw [Below.heap_setCell _ ⟨p, 1, none⟩ y k hk', Below.heap_setCell _ ⟨p, 0, none⟩ x k hk'])) (fun k hk => h.1 k hk.symm)
end
theorem all_take {f : Nat → Bool} {n : Nat} (h : ∀ j, j < n → f j = true) : (List.range n).all f = true := List.all_eq_true.2 (fun j hj => h j (List.mem_range.1 hj))
theorem all_fail {f : Nat → Bool} {n i : Nat} (hi : i < n) (h : f i = false) : (List.range n).all f = false := by
 cases e : (List.range n).all f with
 | false => rfl
 | true =>
  have := List.all_eq_true.1 e i (List.mem_range.2 hi)
  rw [h] at this; cases this
theorem walk_range {ls ss : List Int} {nxs : List (List Int)} {all : List Int} {i : Nat} (h : okAt ls ss nxs all i = true) : 0 ≤ all.getD i 0 ∧ all.getD i 0 < (ls.length : Int) := by
 unfold okAt at h
 split at h
 ·cases h
 ·split at h
  ·cases h
  ·omega
theorem letters_snoc {ls all : List Int} {i : Nat} (h : i < all.length) : lettersG ls (all.take (i + 1)) = lettersG ls (all.take i) ++ [ls.getD (all.getD i 0).toNat 0] := by
 unfold lettersG
 rw [List.take_add_one, List.getElem?_eq_getElem h, Option.toList_some, List.map_append, List.getD_eq_getElem?_getD (l := all), List.getElem?_eq_getElem h]; rfl
def wordR (ls : List Int) (b : Bool) (l : List Int) : List Int := if b = true then lettersG ls l else []
def search_Word.f (l0_0 : List Int) (l0_1 : List Int) (l0_2 : List (List Int)) (l1 : List Int) (l2 : List Int) : Option (List Int × List Int × Bool) :=
 if l1.length + l2.length < 1000000000 then some (wordR l0_0 (wordB l0_0 l0_1 l0_2 l1 l2) l1, wordR l0_0 (wordB l0_0 l0_1 l0_2 l1 l2) l2, wordB l0_0 l0_1 l0_2 l1 l2) else none
end Go.Proofs.Ytapejnikpmfddaa.X
