/- A part of the claim SearchReal. -/
import Derived.Test.YtapejnikpmfddaaQSearchRealn
set_option linter.unusedVariables false
set_option linter.unusedSimpArgs false
set_option maxHeartbeats 8000000
set_option maxRecDepth 100000
namespace Go.Proofs.Ytapejnikpmfddaa.X
open Go.RowKit Go.Proofs.YtapejnikpmfddaaW.PrintWords Go.Proofs.YtapejnikpmfddaaW.PrintLast Go.Proofs.YtapejnikpmfddaaW.PrintMore
open Go.Proofs.Ytapejnikpmfddaa.P Go.Proofs.Ytapejnikpmfddaa.Evx
def findG (ls ss : List Int) (nxs : List (List Int)) (s : S29) (want : Bool) : Option (List Nat × List Nat) :=
 Sg.findF (newPD ls ss nxs s).next (newPD ls ss nxs s).good (newPD ls ss nxs s).N (newPD ls ss nxs s).P ((newPD ls ss nxs s).starts want)
def vertsG (ls ss : List Int) (nxs : List (List Int)) (s : S29) (l : List Nat) : List Int := castL (l.map (newPD ls ss nxs s).vert)
def findV (ls ss : List Int) (nxs : List (List Int)) (s : S29) : Option (List Nat × List Nat) → List Int × List Int × Bool
 | none => ([], [], false)
 | some (st, lp) => (vertsG ls ss nxs s st, vertsG ls ss nxs s lp, true)
def search_Find.f (l0_0 : List Int) (l0_1 : List Int) (l0_2 : List (List Int)) (a1_0 : Int) (a1_1 : Int) (l1_2 : List S29) : Option (List Int × List Int × Bool × Int) :=
 some (if newErr l0_0 l0_1 l0_2 ⟨a1_0, a1_1, l1_2⟩ = 0 then ((findV l0_0 l0_1 l0_2 ⟨a1_0, a1_1, l1_2⟩ (findG l0_0 l0_1 l0_2 ⟨a1_0, a1_1, l1_2⟩ true)).1, (findV l0_0 l0_1 l0_2 ⟨a1_0, a1_1, l1_2⟩ (findG l0_0 l0_1 l0_2 ⟨a1_0, a1_1, l1_2⟩ true)).2.1, (findV l0_0 l0_1 l0_2 ⟨a1_0, a1_1, l1_2⟩ (findG l0_0 l0_1 l0_2 ⟨a1_0, a1_1, l1_2⟩ true)).2.2, 0) else ([], [], false, newErr l0_0 l0_1 l0_2 ⟨a1_0, a1_1, l1_2⟩))
def search_All.f (l0_0 : List Int) (l0_1 : List Int) (l0_2 : List (List Int)) (a1_0 : Int) (a1_1 : Int) (l1_2 : List S29) : Option (Bool × Int) :=
 some (if newErr l0_0 l0_1 l0_2 ⟨a1_0, a1_1, l1_2⟩ = 0 then ((findG l0_0 l0_1 l0_2 ⟨a1_0, a1_1, l1_2⟩ false).isNone, 0) else (false, newErr l0_0 l0_1 l0_2 ⟨a1_0, a1_1, l1_2⟩))
theorem natK_ints {e : Nat} {w : World} {base : Nat} {ok : Nat → Prop} {v : Value} {xs : List Nat} (h : Kd.R natK e w base ok v xs) : Kd.R (Kd.int .i64) e w base ok v (castL xs) := natK_to_int h
theorem Find_calls (ls ss : List Int) (nxs : List (List Int)) (s : S29) (A0 A1 A2 A5 : Option Addr) (c0 c1 c2 c5 : Nat) (w : World)
  (h0 : Kd.C (Kd.int .u32) w A0 ls.length ls) (l0 : ls.length ≤ c0) (h1 : Kd.C (Kd.int .i64) w A1 ss.length ss) (l1 : ss.length ≤ c1) (h2 : Kd.C (Kd.slice 3 (Kd.int .i64)) w A2 nxs.length nxs) (l2 : nxs.length ≤ c2) (h5 : Kd.C k29 w A5 s.f2.length s.f2) (l5 : s.f2.length ≤ c5) :
  Calls Try.prog 11 #[.agg #[.slice A0 ls.length c0, .slice A1 ss.length c1, .slice A2 nxs.length c2], .agg #[.int .i64 s.f0, .int .i64 s.f1, .slice A5 s.f2.length c5]] w fun e w' =>
   ∃ v1 v2, e = .returned (.tuple #[v1, v2, .bool (if newErr ls ss nxs s = 0 then (findV ls ss nxs s (findG ls ss nxs s true)).2.2 else false), .int .i64 (newErr ls ss nxs s)]) ∧ Kd.R (Kd.int .i64) 3 w' w.heap.size (fun _ => True) v1 (if newErr ls ss nxs s = 0 then (findV ls ss nxs s (findG ls ss nxs s true)).1 else []) ∧
    Kd.R (Kd.int .i64) 3 w' w.heap.size (fun _ => True) v2 (if newErr ls ss nxs s = 0 then (findV ls ss nxs s (findG ls ss nxs s true)).2.1 else []) ∧ Below w.heap.size w w' := by
 have huK := Try.underlying26
 have huF := Try.underlying29
 obtain ⟨W2, hW2⟩ : ∃ W2, W2 = (w.alloc (.cells #[.slice A0 ls.length c0, .slice A1 ss.length c1, .slice A2 nxs.length c2] 26)).alloc (.cells #[.int .i64 s.f0, .int .i64 s.f1, .slice A5 s.f2.length c5] 29) := ⟨_, rfl⟩
 have hB2 : Below w.heap.size w W2 := by rw [hW2]; exact below_alloc (below_alloc (Below.refl _ _) _) _
 have hbk : W2.heap[w.heap.size]? = some (.cells #[.slice A0 ls.length c0, .slice A1 ss.length c1, .slice A2 nxs.length c2] 26 (0, 0)) := by rw [hW2]; exact ba_ (heap_alloc_new w _) _
 have hbf : W2.heap[w.heap.size + 1]? = some (.cells #[.int .i64 s.f0, .int .i64 s.f1, .slice A5 s.f2.length c5] 29 (0, 0)) := by
  rw [hW2]
  have := heap_alloc_new (w.alloc (.cells #[.slice A0 ls.length c0, .slice A1 ss.length c1, .slice A2 nxs.length c2] 26)) (.cells #[.int .i64 s.f0, .int .i64 s.f1, .slice A5 s.f2.length c5] 29)
  simpa using this
 have HNW := Zd.mk (newProduct_walk ls ss nxs s A0 A1 A2 A5 c0 c1 c2 c5 W2 (Kd.C_below h0 hB2) l0 (Kd.C_below h1 hB2) l1 (Kd.C_below h2 hB2) l2 (Kd.C_below h5 hB2) l5)
 have zk0 : W2.cell? ⟨w.heap.size, 0, none⟩ = some (.slice A0 ls.length c0) := (bq_ hbk 0).trans rfl
 have zk1 : W2.cell? ⟨w.heap.size, 1, none⟩ = some (.slice A1 ss.length c1) := (bq_ hbk 1).trans rfl
 have zk2 : W2.cell? ⟨w.heap.size, 2, none⟩ = some (.slice A2 nxs.length c2) := (bq_ hbk 2).trans rfl
 have zf0 : W2.cell? ⟨w.heap.size + 1, 0, none⟩ = some (.int .i64 s.f0) := (bq_ hbf 0).trans rfl
 have zf1 : W2.cell? ⟨w.heap.size + 1, 1, none⟩ = some (.int .i64 s.f1) := (bq_ hbf 1).trans rfl
 have zf2 : W2.cell? ⟨w.heap.size + 1, 2, none⟩ = some (.slice A5 s.f2.length c5) := (bq_ hbf 2).trans rfl
 have HB2 := Zd.mk hB2
 have HOK := Zd.mk (fun (h : newErr ls ss nxs s = 0) => show (newPD ls ss nxs s).Ok from by
  unfold newErr at h
  by_cases e1 : mayG ls ss nxs = 0
  ·rw [if_pos e1] at h
   by_cases e2 : mayF s = 0
   ·exact newPD_ok (mayG_ok e1) e2
   ·rw [if_neg e2] at h; exact absurd h e2
  ·rw [if_neg e1] at h; exact absurd h e1)
 have HFG := Zd.mk (show findG ls ss nxs s true = Sg.findF (newPD ls ss nxs s).next (newPD ls ss nxs s).good (newPD ls ss nxs s).N (newPD ls ss nxs s).P ((newPD ls ss nxs s).starts true) from rfl)
 clear h0 h1 h2 h5 hbk hbf hB2
 have HFV0 := Zd.mk (show findV ls ss nxs s none = ([], [], false) from rfl)
 have HFV1 := Zd.mk (fun st lp => show findV ls ss nxs s (some (st, lp)) = (castL (st.map (newPD ls ss nxs s).vert), castL (lp.map (newPD ls ss nxs s).vert), true) from rfl)
 generalize findG ls ss nxs s true = fg at *
 generalize findV ls ss nxs s = fv at *
 generalize newPD ls ss nxs s = p at *
 generalize newErr ls ss nxs s = er at *
 by_cases e1 : er = 0
 ·have em : (er != 0) = false := by rw [e1]; rfl
  have em1 : ¬ er ≠ 0 := fun h => h e1
  have HPO := Zd.mk (HOK.out e1)
  have HE := Zd.mk e1
  clear e1
  go_enter Try.func11, Try.ntmps11
  go_upto_region 1 with fail
  rw [← hW2]
  clear hW2
  go_upto_region 2 with (go_at_call 25; refine HNW.out.mono ?_; rintro e w3 ⟨hN, hB3⟩; unfold NewOk at hN; rw [if_pos HE.out] at hN; obtain ⟨g, rfl, hP⟩ := hN; have HP := Zd.mk hP; have HB3 := Zd.mk (HB2.out.trans (hB3.mono HB2.out.size)); clear hP hB3)
  have HFW := Zd.mk (find_walk p true g w3 HP.out HPO.out)
  rw [← HFG.out] at HFW
  cases hfg : fg with
  | none =>
   rw [hfg] at HFW
   go_wp2_with (go_at_call 26; refine HFW.out.mono ?_; rintro e w4 ⟨hF, hB4⟩; have hF' : e = .returned (.tuple #[.slice none 0 0, .slice none 0 0, .bool false]) := hF; subst hF'; have HB4 := Zd.mk hB4; clear hB4 hF)
   (try simp only [Exit.inBlock, Exit.then])
   refine bodyPost_ret (v := .tuple #[.slice none 0 0, .slice none 0 0, .bool false, .int .i64 0]) (by simp [results, Try.results11, go_sem]) rfl ?_
   (try simp only [if_pos HE.out, HE.out])
   rw [HFV0.out]
   exact ⟨_, _, rfl, Kd.R_nil _ _ _ _ _, Kd.R_nil _ _ _ _ _, HB3.out.trans (HB4.out.mono HB3.out.size)⟩
  | some q =>
   obtain ⟨st, lp⟩ := q
   rw [hfg] at HFW
   go_wp2_with (go_at_call 26; refine HFW.out.mono ?_; rintro e w4 ⟨⟨v1, v2, rfl, hR1, hR2⟩, hB4⟩; have HB4 := Zd.mk hB4; have HR1 := Zd.mk hR1; have HR2 := Zd.mk hR2; clear hB4 hR1 hR2)
   (try simp only [Exit.inBlock, Exit.then])
   refine bodyPost_ret (v := .tuple #[v1, v2, .bool true, .int .i64 0]) (by simp [results, Try.results11, go_sem]) rfl ?_
   (try simp only [if_pos HE.out, HE.out])
   rw [HFV1.out]
   exact ⟨v1, v2, rfl, natK_ints (Kd.R_lower HR1.out HB3.out.size), natK_ints (Kd.R_lower HR2.out HB3.out.size), HB3.out.trans (HB4.out.mono HB3.out.size)⟩
 ·have em : (er != 0) = true := by simpa using e1
  go_enter Try.func11, Try.ntmps11
  go_upto_region 1 with fail
  rw [← hW2]
  clear hW2
  go_wp2_with (go_at_call 25; refine HNW.out.mono ?_; rintro e w3 ⟨hN, hB3⟩; unfold NewOk at hN; rw [if_neg e1] at hN; subst hN; have HB3 := Zd.mk (HB2.out.trans (hB3.mono HB2.out.size)); clear hB3)
  (try simp only [Exit.inBlock, Exit.then])
  refine bodyPost_ret (v := .tuple #[.slice none 0 0, .slice none 0 0, .bool false, .int .i64 er]) (by simp [results, Try.results11, go_sem]) rfl ?_
  (try simp only [if_neg e1])
  exact ⟨_, _, rfl, Kd.R_nil _ _ _ _ _, Kd.R_nil _ _ _ _ _, HB3.out⟩
theorem search_Find.calls (A0_0 : Option Addr) (c0_0 : Nat) (l0_0 : List Int) (A0_1 : Option Addr) (c0_1 : Nat) (l0_1 : List Int) (A0_2 : Option Addr) (c0_2 : Nat) (l0_2 : List (List Int)) (a1_0 : Int) (a1_1 : Int) (A1_2 : Option Addr) (c1_2 : Nat) (l1_2 : List S29) (r1 : List Int) (r2 : List Int) (r3 : Bool) (r4 : Int) (w : World) (hr0_0 : Kd.C (Kd.int .u32) w A0_0 l0_0.length l0_0) (hc0_0 : l0_0.length ≤ c0_0) (hr0_1 : Kd.C (Kd.int .i64) w A0_1 l0_1.length l0_1) (hc0_1 : l0_1.length ≤ c0_1) (hr0_2 : Kd.C (Kd.slice 3 (Kd.int .i64)) w A0_2 l0_2.length l0_2) (hc0_2 : l0_2.length ≤ c0_2) (hr1_2 : Kd.C k29 w A1_2 l1_2.length l1_2) (hc1_2 : l1_2.length ≤ c1_2) (h : search_Find.f l0_0 l0_1 l0_2 a1_0 a1_1 l1_2 = some (r1, r2, r3, r4)) :
  Calls Try.prog 11 #[.agg #[.slice A0_0 l0_0.length c0_0, .slice A0_1 l0_1.length c0_1, .slice A0_2 l0_2.length c0_2], .agg #[.int .i64 a1_0, .int .i64 a1_1, .slice A1_2 l1_2.length c1_2]] w fun e w' => ∃ v1_ v2_ : Value, e = .returned (.tuple #[v1_, v2_, .bool r3, .int .i64 r4]) ∧ Kd.R (Kd.int .i64) 3 w' w.heap.size (fun _ => True) v1_ r1 ∧ Kd.R (Kd.int .i64) 3 w' w.heap.size (fun _ => True) v2_ r2 ∧ Below w.heap.size w w' := by
 have H := Find_calls l0_0 l0_1 l0_2 ⟨a1_0, a1_1, l1_2⟩ A0_0 A0_1 A0_2 A1_2 c0_0 c0_1 c0_2 c1_2 w hr0_0 hc0_0 hr0_1 hc0_1 hr0_2 hc0_2 hr1_2 hc1_2
 have h' := Option.some.inj h
 by_cases e : newErr l0_0 l0_1 l0_2 ⟨a1_0, a1_1, l1_2⟩ = 0
 ·rw [if_pos e] at h'
  rw [if_pos e, if_pos e, if_pos e, e] at H
  injection h' with h1 h'
  injection h' with h2 h'
  injection h' with h3 h4
  subst h1
  subst h2
  subst h3
  subst h4
  exact H
 ·rw [if_neg e] at h'
  rw [if_neg e, if_neg e, if_neg e] at H
  injection h' with h1 h'
  injection h' with h2 h'
  injection h' with h3 h4
  subst h1
  subst h2
  subst h3
  subst h4
  exact H
theorem All_calls (ls ss : List Int) (nxs : List (List Int)) (s : S29) (A0 A1 A2 A5 : Option Addr) (c0 c1 c2 c5 : Nat) (w : World)
  (h0 : Kd.C (Kd.int .u32) w A0 ls.length ls) (l0 : ls.length ≤ c0) (h1 : Kd.C (Kd.int .i64) w A1 ss.length ss) (l1 : ss.length ≤ c1) (h2 : Kd.C (Kd.slice 3 (Kd.int .i64)) w A2 nxs.length nxs) (l2 : nxs.length ≤ c2) (h5 : Kd.C k29 w A5 s.f2.length s.f2) (l5 : s.f2.length ≤ c5) :
  Calls Try.prog 12 #[.agg #[.slice A0 ls.length c0, .slice A1 ss.length c1, .slice A2 nxs.length c2], .agg #[.int .i64 s.f0, .int .i64 s.f1, .slice A5 s.f2.length c5]] w fun e w' =>
   e = .returned (.tuple #[.bool (if newErr ls ss nxs s = 0 then (findG ls ss nxs s false).isNone else false), .int .i64 (newErr ls ss nxs s)]) ∧ Below w.heap.size w w' := by
 have huK := Try.underlying26
 have huF := Try.underlying29
 obtain ⟨W2, hW2⟩ : ∃ W2, W2 = (w.alloc (.cells #[.slice A0 ls.length c0, .slice A1 ss.length c1, .slice A2 nxs.length c2] 26)).alloc (.cells #[.int .i64 s.f0, .int .i64 s.f1, .slice A5 s.f2.length c5] 29) := ⟨_, rfl⟩
 have hB2 : Below w.heap.size w W2 := by rw [hW2]; exact below_alloc (below_alloc (Below.refl _ _) _) _
 have hbk : W2.heap[w.heap.size]? = some (.cells #[.slice A0 ls.length c0, .slice A1 ss.length c1, .slice A2 nxs.length c2] 26 (0, 0)) := by rw [hW2]; exact ba_ (heap_alloc_new w _) _
 have hbf : W2.heap[w.heap.size + 1]? = some (.cells #[.int .i64 s.f0, .int .i64 s.f1, .slice A5 s.f2.length c5] 29 (0, 0)) := by
  rw [hW2]
  have := heap_alloc_new (w.alloc (.cells #[.slice A0 ls.length c0, .slice A1 ss.length c1, .slice A2 nxs.length c2] 26)) (.cells #[.int .i64 s.f0, .int .i64 s.f1, .slice A5 s.f2.length c5] 29)
  simpa using this
 have HNW := Zd.mk (newProduct_walk ls ss nxs s A0 A1 A2 A5 c0 c1 c2 c5 W2 (Kd.C_below h0 hB2) l0 (Kd.C_below h1 hB2) l1 (Kd.C_below h2 hB2) l2 (Kd.C_below h5 hB2) l5)
 have zk0 : W2.cell? ⟨w.heap.size, 0, none⟩ = some (.slice A0 ls.length c0) := (bq_ hbk 0).trans rfl
 have zk1 : W2.cell? ⟨w.heap.size, 1, none⟩ = some (.slice A1 ss.length c1) := (bq_ hbk 1).trans rfl
 have zk2 : W2.cell? ⟨w.heap.size, 2, none⟩ = some (.slice A2 nxs.length c2) := (bq_ hbk 2).trans rfl
 have zf0 : W2.cell? ⟨w.heap.size + 1, 0, none⟩ = some (.int .i64 s.f0) := (bq_ hbf 0).trans rfl
 have zf1 : W2.cell? ⟨w.heap.size + 1, 1, none⟩ = some (.int .i64 s.f1) := (bq_ hbf 1).trans rfl
 have zf2 : W2.cell? ⟨w.heap.size + 1, 2, none⟩ = some (.slice A5 s.f2.length c5) := (bq_ hbf 2).trans rfl
 have HB2 := Zd.mk hB2
 have HOK := Zd.mk (fun (h : newErr ls ss nxs s = 0) => show (newPD ls ss nxs s).Ok from by
  unfold newErr at h
  by_cases e1 : mayG ls ss nxs = 0
  ·rw [if_pos e1] at h
   by_cases e2 : mayF s = 0
   ·exact newPD_ok (mayG_ok e1) e2
   ·rw [if_neg e2] at h; exact absurd h e2
  ·rw [if_neg e1] at h; exact absurd h e1)
 have HFG := Zd.mk (show findG ls ss nxs s false = Sg.findF (newPD ls ss nxs s).next (newPD ls ss nxs s).good (newPD ls ss nxs s).N (newPD ls ss nxs s).P ((newPD ls ss nxs s).starts false) from rfl)
 clear h0 h1 h2 h5 hbk hbf hB2
 generalize findG ls ss nxs s false = fg at *
 generalize newPD ls ss nxs s = p at *
 generalize newErr ls ss nxs s = er at *
 by_cases e1 : er = 0
 ·have em : (er != 0) = false := by rw [e1]; rfl
  have em1 : ¬ er ≠ 0 := fun h => h e1
  have HPO := Zd.mk (HOK.out e1)
  have HE := Zd.mk e1
  clear e1
  go_enter Try.func12, Try.ntmps12
  go_upto_region 1 with fail
  rw [← hW2]
  clear hW2
  go_upto_region 2 with (go_at_call 25; refine HNW.out.mono ?_; rintro e w3 ⟨hN, hB3⟩; unfold NewOk at hN; rw [if_pos HE.out] at hN; obtain ⟨g, rfl, hP⟩ := hN; have HP := Zd.mk hP; have HB3 := Zd.mk (HB2.out.trans (hB3.mono HB2.out.size)); clear hP hB3)
  have HFW := Zd.mk (find_walk p false g w3 HP.out HPO.out)
  rw [← HFG.out] at HFW
  cases hfg : fg with
  | none =>
   rw [hfg] at HFW
   go_wp2_with (go_at_call 26; refine HFW.out.mono ?_; rintro e w4 ⟨hF, hB4⟩; have hF' : e = .returned (.tuple #[.slice none 0 0, .slice none 0 0, .bool false]) := hF; subst hF'; have HB4 := Zd.mk hB4; clear hB4 hF)
   go_ret2
   refine ⟨?_, HB3.out.trans (HB4.out.mono HB3.out.size)⟩
   (try simp only [if_pos HE.out, HE.out])
   rfl
  | some q =>
   obtain ⟨st, lp⟩ := q
   rw [hfg] at HFW
   go_wp2_with (go_at_call 26; refine HFW.out.mono ?_; rintro e w4 ⟨⟨v1, v2, rfl, hR1, hR2⟩, hB4⟩; have HB4 := Zd.mk hB4; have HR1 := Zd.mk hR1; have HR2 := Zd.mk hR2; clear hB4 hR1 hR2)
   go_ret2
   refine ⟨?_, HB3.out.trans (HB4.out.mono HB3.out.size)⟩
   (try simp only [if_pos HE.out, HE.out])
   rfl
 ·have em : (er != 0) = true := by simpa using e1
  go_enter Try.func12, Try.ntmps12
  go_upto_region 1 with fail
  rw [← hW2]
  clear hW2
  go_wp2_with (go_at_call 25; refine HNW.out.mono ?_; rintro e w3 ⟨hN, hB3⟩; unfold NewOk at hN; rw [if_neg e1] at hN; subst hN; have HB3 := Zd.mk (HB2.out.trans (hB3.mono HB2.out.size)); clear hB3)
  go_ret2
  exact ⟨by (try simp only [if_neg e1]); rfl, HB3.out⟩
theorem search_All.calls (A0_0 : Option Addr) (c0_0 : Nat) (l0_0 : List Int) (A0_1 : Option Addr) (c0_1 : Nat) (l0_1 : List Int) (A0_2 : Option Addr) (c0_2 : Nat) (l0_2 : List (List Int)) (a1_0 : Int) (a1_1 : Int) (A1_2 : Option Addr) (c1_2 : Nat) (l1_2 : List S29) (r1 : Bool) (r2 : Int) (w : World) (hr0_0 : Kd.C (Kd.int .u32) w A0_0 l0_0.length l0_0) (hc0_0 : l0_0.length ≤ c0_0) (hr0_1 : Kd.C (Kd.int .i64) w A0_1 l0_1.length l0_1) (hc0_1 : l0_1.length ≤ c0_1) (hr0_2 : Kd.C (Kd.slice 3 (Kd.int .i64)) w A0_2 l0_2.length l0_2) (hc0_2 : l0_2.length ≤ c0_2) (hr1_2 : Kd.C k29 w A1_2 l1_2.length l1_2) (hc1_2 : l1_2.length ≤ c1_2) (h : search_All.f l0_0 l0_1 l0_2 a1_0 a1_1 l1_2 = some (r1, r2)) :
  Calls Try.prog 12 #[.agg #[.slice A0_0 l0_0.length c0_0, .slice A0_1 l0_1.length c0_1, .slice A0_2 l0_2.length c0_2], .agg #[.int .i64 a1_0, .int .i64 a1_1, .slice A1_2 l1_2.length c1_2]] w fun e w' => e = .returned (.tuple #[.bool r1, .int .i64 r2]) ∧ Below w.heap.size w w' := by
 have H := All_calls l0_0 l0_1 l0_2 ⟨a1_0, a1_1, l1_2⟩ A0_0 A0_1 A0_2 A1_2 c0_0 c0_1 c0_2 c1_2 w hr0_0 hc0_0 hr0_1 hc0_1 hr0_2 hc0_2 hr1_2 hc1_2
 have h' := Option.some.inj h
 by_cases e : newErr l0_0 l0_1 l0_2 ⟨a1_0, a1_1, l1_2⟩ = 0
 ·rw [if_pos e] at h' H
  obtain ⟨rfl, rfl⟩ := Prod.mk.inj h'
  rw [e] at H
  exact H
 ·rw [if_neg e] at h' H
  obtain ⟨rfl, rfl⟩ := Prod.mk.inj h'
  exact H
end Go.Proofs.Ytapejnikpmfddaa.X
namespace Go.Proofs.Ytapejnikpmfddaa.X
open Go.RowKit Go.Proofs.YtapejnikpmfddaaW.PrintWords Go.Proofs.YtapejnikpmfddaaW.PrintLast Go.Proofs.YtapejnikpmfddaaW.PrintMore
open Go.Proofs.Ytapejnikpmfddaa.P
theorem GrowI_nil (m : Int) (w : World) (h0 : 0 < m) (h1 : m < 1000000000) :
  Calls Try.prog 52 #[.slice none 0 0, .int .i64 m] w fun e w' => ∃ v, e = .returned v ∧ Kd.R (Kd.int .i64) 3 w' w.heap.size (fun _ => True) v [] ∧ Below w.heap.size w w' := by
 have hus := Try.underlying23
 have hui := Try.underlying3
 have hnn : ¬ m < 0 := by omega
 go_enter Try.func52, Try.ntmps52
 go_wp2_with ((with_reducible refine gate_builtin (b := .append) (xs := #[.tmp 20, .tmp 21]) rfl ?_); at_builtin; refine Kd.R_append_zeros (Kd.int .i64) (w0 := w) w.heap.size rfl (.tmp 20) (.tmp 21) 23 3 3 (.int .i64 0) 8 rfl hus hui infoI rfl (by decide) (by decide) (.slice none 0 0) [] 0 (kx := .i64) m (fun _ => True) rfl rfl rfl (fun _ _ => trivial) (Kd.R_nil _ _ _ _ _) (by omega) (Below.refl _ _) (Nat.le_refl _) (by simp; omega) ?_; intro v1 w1 hR hB hg hat; obtain ⟨A1, c1, hv1⟩ := Kd.R_slice hR; subst hv1; have HR := Zd.mk hR; have HB := Zd.mk hB; clear hR hB hg hat)
 go_ret
 exact ⟨_, rfl, by have := Kd.R_take (m := 0) HR.out (by simp); simpa using this, HB.out⟩
theorem ConcatI_calls (gb : Nat) (A1 A2 : Option Addr) (c1 c2 : Nat) (l1 l2 : List Int) (w : World) (hb : w.heap[gb]? = some (.cells #[.slice A1 l1.length c1, .slice A2 l2.length c2] 23 (0, 0))) (hr1 : Kd.C (Kd.int .i64) w A1 l1.length l1) (hr2 : Kd.C (Kd.int .i64) w A2 l2.length l2) (h0 : 0 < l1.length + l2.length) (h1 : l1.length + l2.length < 1000000000) :
  Calls Try.prog 27 #[.slice (some ⟨gb, 0, none⟩) 2 2] w fun e w' => ∃ v, e = .returned v ∧ Kd.R (Kd.int .i64) 3 w' w.heap.size (fun _ => True) v (l1 ++ l2) ∧ Below w.heap.size w w' := by
 have hus := Try.underlying23
 have huss := Try.underlying24
 have hui := Try.underlying3
 have hgb : gb < w.heap.size := blk_lt hb
 have x0 : w.cell? ⟨gb, 0, none⟩ = some (.slice A1 l1.length c1) := (bq_ hb 0).trans rfl
 have x1 : w.cell? ⟨gb, 1, none⟩ = some (.slice A2 l2.length c2) := (bq_ hb 1).trans rfl
 have R1 := Zd.mk hr1
 have R2 := Zd.mk hr2
 have X0 := Zd.mk x0
 have X1 := Zd.mk x1
 clear hb hr1 hr2 x0 x1
 go_enter Try.func27, Try.ntmps27
 go_wp2
 go_loopg [3, 11] 2 (fun kq v3 v11 w' => (kq = 2 ∧ v3 = .int .i64 0 ∧ v11 = .int .i64 0 ∧ w' = w) ∨ (kq = 1 ∧ v3 = .int .i64 (l1.length : Int) ∧ v11 = .int .i64 1 ∧ w' = w) ∨ (kq = 0 ∧ v3 = .int .i64 ((l1.length : Int) + (l2.length : Int)) ∧ v11 = .int .i64 2 ∧ w' = w))
 case atStart => exact .inl ⟨rfl, rfl, rfl, rfl⟩
 case round =>
  rcases hrel with ⟨rfl, rfl, rfl, rfl⟩ | ⟨rfl, rfl, rfl, rfl⟩ | ⟨rfl, rfl, rfl, rfl⟩
  ·have y0 := X0.out
   have hn : ¬ ((l1.length : Int) < 0) := by omega
   go_wp2
   go_roundg 1
   case measure => omega
   case rel => exact .inr (.inl ⟨rfl, by first | rfl | (simp; done), rfl, rfl⟩)
  ·have y1 := X1.out
   have hn : ¬ ((l1.length : Int) + (l2.length : Int) < 0) := by omega
   go_wp2
   go_roundg 0
   case measure => omega
   case rel => exact .inr (.inr ⟨rfl, by first | rfl | (simp; done), rfl, rfl⟩)
  ·obtain ⟨WW, rfl⟩ : ∃ W : World, W = wr := ⟨_, rfl⟩
   go_wp2_with (go_at_call 52; refine (GrowI_nil _ _ (by omega) (by omega)).mono ?_; rintro e w1 ⟨v, rfl, hR, hB⟩; have HR := Zd.mk hR; have HB := Zd.mk hB; clear hR hB)
   go_loopg [6, 27] 2 (fun kq v6 v27 w' => Zd (Below WW.heap.size WW w') ∧ ((kq = 2 ∧ v27 = .int .i64 0 ∧ Zd (Kd.R (Kd.int .i64) 3 w' WW.heap.size (fun _ => True) v6 [])) ∨ (kq = 1 ∧ v27 = .int .i64 1 ∧ Zd (Kd.R (Kd.int .i64) 3 w' WW.heap.size (fun _ => True) v6 l1)) ∨ (kq = 0 ∧ v27 = .int .i64 2 ∧ Zd (Kd.R (Kd.int .i64) 3 w' WW.heap.size (fun _ => True) v6 (l1 ++ l2)))))
   case atStart => exact ⟨HB, .inl ⟨rfl, rfl, HR⟩⟩
   case round =>
    obtain ⟨HBV, hrel⟩ := hrel
    rcases hrel with ⟨rfl, rfl, HV⟩ | ⟨rfl, rfl, HV⟩ | ⟨rfl, rfl, HV⟩
    ·have y0 := (HBV.out.cell (World.block_lt_of_cell? _ _ X0.out)).trans X0.out
     go_wp2_with (first | ((with_reducible refine gate_builtin (b := .append) (xs := #[.tmp 31, .tmp 32]) rfl ?_); at_builtin; refine Kd.R_append_row (Value.int .i64) (0 : Int) (h1 := fun _ => rfl) (w0 := WW) WW.heap.size rfl (.tmp 31) (.tmp 32) 23 3 (.int .i64 0) 8 rfl hus infoI rfl (by decide) u6 [] l1 A1 l1.length c1 (fun _ => True) rfl rfl (fun _ _ => trivial) HV.out (Kd.C_below R1.out HBV.out) HBV.out HBV.out.size (by first | omega | (simp; omega)) ?_; intro v1 w2 hR hB hg hat; have HV2 := Zd.mk hR; have HBV2 := Zd.mk hB; clear hR hB hg hat))
     go_roundg 1
     case measure => omega
     case rel => exact ⟨HBV2, .inr (.inl ⟨rfl, rfl, HV2⟩)⟩
    ·have y1 := (HBV.out.cell (World.block_lt_of_cell? _ _ X1.out)).trans X1.out
     go_wp2_with (first | ((with_reducible refine gate_builtin (b := .append) (xs := #[.tmp 31, .tmp 32]) rfl ?_); at_builtin; refine Kd.R_append_row (Value.int .i64) (0 : Int) (h1 := fun _ => rfl) (w0 := WW) WW.heap.size rfl (.tmp 31) (.tmp 32) 23 3 (.int .i64 0) 8 rfl hus infoI rfl (by decide) u6 l1 l2 A2 l2.length c2 (fun _ => True) rfl rfl (fun _ _ => trivial) HV.out (Kd.C_below R2.out HBV.out) HBV.out HBV.out.size (by first | omega | (simp; omega)) ?_; intro v1 w2 hR hB hg hat; have HV2 := Zd.mk hR; have HBV2 := Zd.mk hB; clear hR hB hg hat))
     go_roundg 0
     case measure => omega
     case rel => exact ⟨HBV2, .inr (.inr ⟨rfl, rfl, HV2⟩)⟩
    ·go_wp2
     go_ret
     exact ⟨_, rfl, HV.out, HBV.out⟩
theorem Clone_calls (A : Option Addr) (c : Nat) (l : List Int) (w : World) (hr : Kd.C (Kd.int .u32) w A l.length l) (hl : l.length < 1000000000) :
  Calls Try.prog 29 #[.slice A l.length c] w fun e w' => ∃ v, e = .returned v ∧ Kd.R (Kd.int .u32) 48 w' w.heap.size (fun _ => True) v l ∧ Below w.heap.size w w' := by
 have hus := Try.underlying22
 have HR := Zd.mk hr
 cases A with
 | none =>
  have hl0 : l = [] := by
   match l, hr with
   | [], _ => rfl
   | a :: r, hr => obtain ⟨ad, e, _⟩ := hr.2.2 (by simp); cases e
  have HL := Zd.mk hl0
  have hq : ∀ (n : Nat) (W : World), (binOp BinOp.eql 22 (.slice none n c) (.slice none 0 0)).run Try.prog W = .ok (.bool true) W := fun _ _ => by kernel_rfl
  clear hr hl0
  go_enter Try.func29, Try.ntmps29
  go_wp2
  go_ret
  exact ⟨_, rfl, by rw [HL.out]; exact Kd.R_nil _ _ _ _ _, Below.refl _ _⟩
 | some ad =>
  have HO := Zd.mk (show Kd.R (Kd.int .u32) 48 (w.alloc (.cells #[] 48)) w.heap.size (fun _ => True) (.slice (some ⟨w.heap.size, 0, none⟩) 0 0) [] from
   Kd.R_of_own (enc := Value.int .u32) (h1 := fun _ => rfl) ⟨by simp [encs], .inr ⟨w.heap.size, 0, #[], rfl, Nat.le_refl _, heap_alloc_new w _, Nat.le_refl _, by decide, rfl, rfl⟩⟩ (fun _ _ => trivial))
  have HB1 := Zd.mk (below_alloc (Below.refl w.heap.size w) (.cells #[] 48))
  have hq : ∀ (n : Nat) (W : World), (binOp BinOp.eql 22 (.slice (some ad) n c) (.slice none 0 0)).run Try.prog W = .ok (.bool false) W := fun _ _ => by kernel_rfl
  clear hr
  go_enter Try.func29, Try.ntmps29
  go_wp2_with ((with_reducible refine gate_builtin (b := .append) (xs := #[.tmp 5, .tmp 6]) rfl ?_); at_builtin; refine Kd.R_append_row (Value.int .u32) (0 : Int) (h1 := fun _ => rfl) (w0 := w) w.heap.size rfl (.tmp 5) (.tmp 6) 22 48 (.int .u32 0) 4 rfl hus infoU32 rfl (by decide) (.slice (some ⟨w.heap.size, 0, none⟩) 0 0) [] l (some ad) l.length c (fun _ => True) rfl rfl (fun _ _ => trivial) HO.out (Kd.C_below HR.out HB1.out) HB1.out HB1.out.size (by first | omega | (simp; omega)) ?_; intro v1 w2 hR hB hg hat; have HV2 := Zd.mk hR; have HBV2 := Zd.mk hB; clear hR hB hg hat)
  go_ret
  exact ⟨_, rfl, HV2.out, HBV2.out⟩
end Go.Proofs.Ytapejnikpmfddaa.X
namespace Go.Proofs.Ytapejnikpmfddaa.P
open Go.RowKit Go.Proofs.YtapejnikpmfddaaW.PrintWords Go.Proofs.YtapejnikpmfddaaW.PrintLast Go.Proofs.YtapejnikpmfddaaW.PrintMore
attribute [local go_sem] max2_int min2_int max_two min_two max_three min_three max_four min_four

open Go.Proofs.Ytapejnikpmfddaa.X
def formula_Holds.f (a0_0 : Int) (a0_1 : Int) (l0_2 : List (S29)) (l1_0 : List Int) (l1_1 : List Int) : Option (Bool) := (formula_Row.f a0_0 a0_1 l0_2 l1_0 l1_1).bind fun t223 => (if (t223.length : Int) > 0 then (if 0 < (t223.length : Int) then (some (rdOf false t223 0)) else (none)) else (some false))
theorem formula_Holds.calls (a0_0 : Int) (a0_1 : Int) (A0_2 : Option Addr) (c0_2 : Nat) (l0_2 : List (S29)) (A1_0 : Option Addr) (c1_0 : Nat) (l1_0 : List Int) (A1_1 : Option Addr) (c1_1 : Nat) (l1_1 : List Int) (r : Bool) (w : World) (hr0_2 : Kd.C k29 w A0_2 l0_2.length l0_2) (hc0_2 : l0_2.length ≤ c0_2) (hr1_0 : Kd.C (Kd.int .u32) w A1_0 l1_0.length l1_0) (hc1_0 : l1_0.length ≤ c1_0) (hr1_1 : Kd.C (Kd.int .u32) w A1_1 l1_1.length l1_1) (hc1_1 : l1_1.length ≤ c1_1) (h : formula_Holds.f a0_0 a0_1 l0_2 l1_0 l1_1 = some r) :
  Calls Try.prog 14 #[.agg #[.int .i64 a0_0, .int .i64 a0_1, .slice A0_2 l0_2.length c0_2], .agg #[.slice A1_0 l1_0.length c1_0, .slice A1_1 l1_1.length c1_1]] w fun e w' => e = .returned (.bool r) ∧ Below w.heap.size w w' := by
 have hu29 := Try.underlying29
 have hu40 := Try.underlying40
 have HR0_2 := Zd.mk hr0_2
 have HC0_2 := Zd.mk hc0_2
 clear hr0_2 hc0_2
 have HR1_0 := Zd.mk hr1_0
 have HC1_0 := Zd.mk hc1_0
 clear hr1_0 hc1_0
 have HR1_1 := Zd.mk hr1_1
 have HC1_1 := Zd.mk hc1_1
 clear hr1_1 hc1_1
 have HB := Zd.mk (Below.refl w.heap.size w)
 have H : ((formula_Row.f a0_0 a0_1 l0_2 l1_0 l1_1).bind fun t223 => (if (t223.length : Int) > 0 then (if 0 < (t223.length : Int) then (some (rdOf false t223 0)) else (none)) else (some false))) = some r := h
 clear h
 replace H := Option.bind_eq_some_iff.mp H
 obtain ⟨t223, A30, H⟩ := H
 replace H : (if (t223.length : Int) > 0 then (if 0 < (t223.length : Int) then (some (rdOf false t223 0)) else (none)) else (some false)) = some r := H
 have A3 := Zd.mk A30
 clear A30
 by_cases c4 : (t223.length : Int) > 0
 ·rw [if_pos c4] at H
  have c4b0 : decide (0 < (t223.length : Int)) = true := decide_eq_true c4
  have c4b1 : decide (0 < t223.length) = true := decide_eq_true (by omega)
  clear c4
  by_cases c5 : 0 < (t223.length : Int)
  ·rw [if_pos c5] at H
   have c5b0 : decide (0 < (t223.length : Int)) = true := decide_eq_true c5
   have c5b1 : decide (0 < t223.length) = true := decide_eq_true (by omega)
   clear c5
   obtain rfl := Option.some.inj H
   go_enter Try.func14, Try.ntmps14
   go_wp2_with (first | ((with_reducible refine gate_dst (N := 2) rfl ?_); refine box_event ?hg (N := 2) ?hd (cs := #[.int .i64 a0_0, .int .i64 a0_1, .slice A0_2 l0_2.length c0_2]) (t := 29) ?hr ?_; (case hd => rfl); (case hg => rfl); (case hr => first | (go_simp; done) | (go_simp; rfl)); intro gb221 hg w6 hbox hb; have n0_ := Zd.mk (bt_ B_ hb); have n1_ := Zd.mk (hbox); have n2_ := Zd.mk ((by rw [hg]; exact (bs_ B_) : w.heap.size ≤ gb221)); have n3_ := Zd.mk ((by rw [hg]; exact (bs_ B_) : w.heap.size ≤ gb221)); clear HB; have HB := n0_; have BK221 := n1_; have GW221 := n2_; have GE221 := n3_; clear n0_ n1_ n2_ n3_; clear hb hbox hg) | ((with_reducible refine gate_dst (N := 3) rfl ?_); refine box_event ?hg (N := 3) ?hd (cs := #[.slice A1_0 l1_0.length c1_0, .slice A1_1 l1_1.length c1_1]) (t := 40) ?hr ?_; (case hd => rfl); (case hg => rfl); (case hr => first | (go_simp; done) | (go_simp; rfl)); intro gb222 hg w7 hbox hb; have n0_ := Zd.mk (bb_ (g := gb221) (o := .cells #[.int .i64 a0_0, .int .i64 a0_1, .slice A0_2 l0_2.length c0_2] 29 (0, 0)) K_ hb); have n1_ := Zd.mk (bt_ B_ hb); have n2_ := Zd.mk (hbox); have n3_ := Zd.mk ((by rw [hg]; exact (bs_ B_) : w.heap.size ≤ gb222)); have n4_ := Zd.mk ((by rw [hg]; exact (bs_ B_) : w.heap.size ≤ gb222)); have n5_ := Zd.mk ((by rw [hg]; exact Nat.ne_of_lt (blk_lt (g := gb221) (o := .cells #[.int .i64 a0_0, .int .i64 a0_1, .slice A0_2 l0_2.length c0_2] 29 (0, 0)) K_) : gb221 ≠ gb222)); have n6_ := Zd.mk ((by rw [hg]; exact Nat.ne_of_gt (blk_lt (g := gb221) (o := .cells #[.int .i64 a0_0, .int .i64 a0_1, .slice A0_2 l0_2.length c0_2] 29 (0, 0)) K_) : gb222 ≠ gb221)); clear BK221; clear HB; have BK221 := n0_; have HB := n1_; have BK222 := n2_; have GW222 := n3_; have GE222 := n4_; have NB221_222 := n5_; have NB222_221 := n6_; clear n0_ n1_ n2_ n3_ n4_ n5_ n6_; clear hb hbox hg; have hnb8 := NB221_222.out; have hnc8 := NB222_221.out; have hcz9_0 : w7.cell? ⟨gb221, 0, none⟩ = some (.int .i64 a0_0) := (bq_ BK221.out 0).trans rfl; have hcz9_1 : w7.cell? ⟨gb221, 1, none⟩ = some (.int .i64 a0_1) := (bq_ BK221.out 1).trans rfl; have hcz9_2 : w7.cell? ⟨gb221, 2, none⟩ = some (.slice A0_2 l0_2.length c0_2) := (bq_ BK221.out 2).trans rfl; have hfz9_0 := bz_ BK221.out 0; have hfz9_1 := bz_ BK221.out 1; have hfz9_2 := bz_ BK221.out 2; have hcz10_0 : w7.cell? ⟨gb222, 0, none⟩ = some (.slice A1_0 l1_0.length c1_0) := (bq_ BK222.out 0).trans rfl; have hcz10_1 : w7.cell? ⟨gb222, 1, none⟩ = some (.slice A1_1 l1_1.length c1_1) := (bq_ BK222.out 1).trans rfl; have hfz10_0 := bz_ BK222.out 0; have hfz10_1 := bz_ BK222.out 1) | ((with_reducible refine gate_callee (f := 31) rfl ?_); refine goesL_ (some 8) rfl rfl Try.func31 (by kernel_rfl) rfl #[.agg #[.int .i64 a0_0, .int .i64 a0_1, .slice A0_2 l0_2.length c0_2], .agg #[.slice A1_0 l1_0.length c1_0, .slice A1_1 l1_1.length c1_1]] rfl (by (try simp only [List.map_toArray, List.map_cons, List.map_nil]); first | done | rfl | (simp only [List.length_drop, List.length_take]; rfl)) ?_; (with_reducible refine (formula_Row.calls a0_0 a0_1 _ _ l0_2 _ _ l1_0 _ _ l1_1 t223 _ ?side1 ?side2 ?side3 ?side4 ?side5 ?side6 A3.out).mono ?_); (case side1 => exact Kd.C_below HR0_2.out B_); (case side2 => exact HC0_2.out); (case side3 => exact Kd.C_below HR1_0.out B_); (case side4 => exact HC1_0.out); (case side5 => exact Kd.C_below HR1_1.out B_); (case side6 => exact HC1_1.out); rintro e w11 ⟨v224, rfl, ho0, hb⟩; refine ⟨_, rfl, ?_⟩; have n0_ := Zd.mk (Kd.R_lower ho0 (bs_ B_)); have n1_ := Zd.mk (bb_ (g := gb221) (o := .cells #[.int .i64 a0_0, .int .i64 a0_1, .slice A0_2 l0_2.length c0_2] 29 (0, 0)) K_ hb); have n2_ := Zd.mk (bb_ (g := gb222) (o := .cells #[.slice A1_0 l1_0.length c1_0, .slice A1_1 l1_1.length c1_1] 40 (0, 0)) K_ hb); have n3_ := Zd.mk (bt_ B_ hb); clear BK221; clear BK222; clear HB; have HO225 := n0_; have BK221 := n1_; have BK222 := n2_; have HB := n3_; clear n0_ n1_ n2_ n3_; (try clear hb); (try clear hb2); (try clear hk); (try clear hi); (try clear ho0); obtain ⟨Ao12, co12, eo12⟩ := Kd.R_slice HO225.out; subst eo12; have p226 : 0 ≤ (0 : Int) := (by omega); have q226 : 0 < (t223.length : Int) := of_decide_eq_true (by first | (with_reducible assumption) | assumption); obtain ⟨ad226, e226, hx226_0⟩ := Kd.at_bool (Kd.R_reads' HO225.out).2.2 0 p226 q226; cases e226; have qi226 : (0 < t223.length) = True := eq_true (by omega); (try rw [show ((0 : Int)).toNat = 0 from rfl] at hx226_0); (try rw [Addr.add_zero'] at hx226_0); replace p226 := eq_true p226; replace q226 := eq_true q226))
   go_ret
   exact ⟨by first | rfl | (simp [errW_none, errW_some] <;> rfl) | (simp [*, errW_none, errW_some] <;> rfl), B_⟩
  ·rw [if_neg c5] at H
   exact absurd H (by simp)
 ·rw [if_neg c4] at H
  have c4b0 : decide (0 < (t223.length : Int)) = false := decide_eq_false c4
  have c4b1 : decide (0 < t223.length) = false := decide_eq_false (by omega)
  clear c4
  obtain rfl := Option.some.inj H
  go_enter Try.func14, Try.ntmps14
  go_wp2_with (first | ((with_reducible refine gate_dst (N := 2) rfl ?_); refine box_event ?hg (N := 2) ?hd (cs := #[.int .i64 a0_0, .int .i64 a0_1, .slice A0_2 l0_2.length c0_2]) (t := 29) ?hr ?_; (case hd => rfl); (case hg => rfl); (case hr => first | (go_simp; done) | (go_simp; rfl)); intro gb221 hg w13 hbox hb; have n0_ := Zd.mk (bt_ B_ hb); have n1_ := Zd.mk (hbox); have n2_ := Zd.mk ((by rw [hg]; exact (bs_ B_) : w.heap.size ≤ gb221)); have n3_ := Zd.mk ((by rw [hg]; exact (bs_ B_) : w.heap.size ≤ gb221)); clear HB; have HB := n0_; have BK221 := n1_; have GW221 := n2_; have GE221 := n3_; clear n0_ n1_ n2_ n3_; clear hb hbox hg) | ((with_reducible refine gate_dst (N := 3) rfl ?_); refine box_event ?hg (N := 3) ?hd (cs := #[.slice A1_0 l1_0.length c1_0, .slice A1_1 l1_1.length c1_1]) (t := 40) ?hr ?_; (case hd => rfl); (case hg => rfl); (case hr => first | (go_simp; done) | (go_simp; rfl)); intro gb222 hg w14 hbox hb; have n0_ := Zd.mk (bb_ (g := gb221) (o := .cells #[.int .i64 a0_0, .int .i64 a0_1, .slice A0_2 l0_2.length c0_2] 29 (0, 0)) K_ hb); have n1_ := Zd.mk (bt_ B_ hb); have n2_ := Zd.mk (hbox); have n3_ := Zd.mk ((by rw [hg]; exact (bs_ B_) : w.heap.size ≤ gb222)); have n4_ := Zd.mk ((by rw [hg]; exact (bs_ B_) : w.heap.size ≤ gb222)); have n5_ := Zd.mk ((by rw [hg]; exact Nat.ne_of_lt (blk_lt (g := gb221) (o := .cells #[.int .i64 a0_0, .int .i64 a0_1, .slice A0_2 l0_2.length c0_2] 29 (0, 0)) K_) : gb221 ≠ gb222)); have n6_ := Zd.mk ((by rw [hg]; exact Nat.ne_of_gt (blk_lt (g := gb221) (o := .cells #[.int .i64 a0_0, .int .i64 a0_1, .slice A0_2 l0_2.length c0_2] 29 (0, 0)) K_) : gb222 ≠ gb221)); clear BK221; clear HB; have BK221 := n0_; have HB := n1_; have BK222 := n2_; have GW222 := n3_; have GE222 := n4_; have NB221_222 := n5_; have NB222_221 := n6_; clear n0_ n1_ n2_ n3_ n4_ n5_ n6_; clear hb hbox hg; have hnb15 := NB221_222.out; have hnc15 := NB222_221.out; have hcz16_0 : w14.cell? ⟨gb221, 0, none⟩ = some (.int .i64 a0_0) := (bq_ BK221.out 0).trans rfl; have hcz16_1 : w14.cell? ⟨gb221, 1, none⟩ = some (.int .i64 a0_1) := (bq_ BK221.out 1).trans rfl; have hcz16_2 : w14.cell? ⟨gb221, 2, none⟩ = some (.slice A0_2 l0_2.length c0_2) := (bq_ BK221.out 2).trans rfl; have hfz16_0 := bz_ BK221.out 0; have hfz16_1 := bz_ BK221.out 1; have hfz16_2 := bz_ BK221.out 2; have hcz17_0 : w14.cell? ⟨gb222, 0, none⟩ = some (.slice A1_0 l1_0.length c1_0) := (bq_ BK222.out 0).trans rfl; have hcz17_1 : w14.cell? ⟨gb222, 1, none⟩ = some (.slice A1_1 l1_1.length c1_1) := (bq_ BK222.out 1).trans rfl; have hfz17_0 := bz_ BK222.out 0; have hfz17_1 := bz_ BK222.out 1) | ((with_reducible refine gate_callee (f := 31) rfl ?_); refine goesL_ (some 8) rfl rfl Try.func31 (by kernel_rfl) rfl #[.agg #[.int .i64 a0_0, .int .i64 a0_1, .slice A0_2 l0_2.length c0_2], .agg #[.slice A1_0 l1_0.length c1_0, .slice A1_1 l1_1.length c1_1]] rfl (by (try simp only [List.map_toArray, List.map_cons, List.map_nil]); first | done | rfl | (simp only [List.length_drop, List.length_take]; rfl)) ?_; (with_reducible refine (formula_Row.calls a0_0 a0_1 _ _ l0_2 _ _ l1_0 _ _ l1_1 t223 _ ?side1 ?side2 ?side3 ?side4 ?side5 ?side6 A3.out).mono ?_); (case side1 => exact Kd.C_below HR0_2.out B_); (case side2 => exact HC0_2.out); (case side3 => exact Kd.C_below HR1_0.out B_); (case side4 => exact HC1_0.out); (case side5 => exact Kd.C_below HR1_1.out B_); (case side6 => exact HC1_1.out); rintro e w18 ⟨v224, rfl, ho0, hb⟩; refine ⟨_, rfl, ?_⟩; have n0_ := Zd.mk (Kd.R_lower ho0 (bs_ B_)); have n1_ := Zd.mk (bb_ (g := gb221) (o := .cells #[.int .i64 a0_0, .int .i64 a0_1, .slice A0_2 l0_2.length c0_2] 29 (0, 0)) K_ hb); have n2_ := Zd.mk (bb_ (g := gb222) (o := .cells #[.slice A1_0 l1_0.length c1_0, .slice A1_1 l1_1.length c1_1] 40 (0, 0)) K_ hb); have n3_ := Zd.mk (bt_ B_ hb); clear BK221; clear BK222; clear HB; have HO225 := n0_; have BK221 := n1_; have BK222 := n2_; have HB := n3_; clear n0_ n1_ n2_ n3_; (try clear hb); (try clear hb2); (try clear hk); (try clear hi); (try clear ho0); obtain ⟨Ao19, co19, eo19⟩ := Kd.R_slice HO225.out; subst eo19))
  go_ret
  exact ⟨by first | rfl | (simp [errW_none, errW_some] <;> rfl) | (simp [*, errW_none, errW_some] <;> rfl), B_⟩

end Go.Proofs.Ytapejnikpmfddaa.P
