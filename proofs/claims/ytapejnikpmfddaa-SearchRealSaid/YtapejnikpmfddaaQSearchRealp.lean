/- A part of the claim SearchReal. -/
import Derived.Test.YtapejnikpmfddaaQSearchRealo
set_option linter.unusedVariables false
set_option linter.unusedSimpArgs false
namespace Go.Proofs.Ytapejnikpmfddaa.X
open Go.RowKit Go.Proofs.YtapejnikpmfddaaW.PrintWords Go.Proofs.YtapejnikpmfddaaW.PrintMore
open Go.Proofs.Ytapejnikpmfddaa.P Go.Proofs.Ytapejnikpmfddaa.Evx
def WeiAt (s : S29) : Prop := ∀ (d r : Int), 0 ≤ d → d ≤ 41 → 0 ≤ r → r ≤ 500 → ∃ n : Int, Ev (fun k => parrylaw22_weigh.f k s.f0 s.f1 s.f2 d r) n ∧ 1 ≤ n ∧ n ≤ 1000
theorem weigh_l (kids : List S29) (d r : Int) (hd0 : 0 ≤ d) (hd : d ≤ 40) (hr0 : 1 ≤ r) (hr : r ≤ 500) (ih : ∀ k ∈ kids, WeiAt k) :
  ∀ (e j : Nat) (n : Int), j + e = kids.length → (j : Int) < n → n ≤ r → ∃ n' : Int, Ev (fun k => parrylaw22_weigh.l0 k d r n kids (kids.length : Int) j) n' ∧ 1 ≤ n' ∧ n' ≤ 1000
 | 0, j, n, hj, h1, h2 => ⟨n, ev_step (fun k => rfl) (ev_neg (by omega) (ev_some _)), by omega, by omega⟩
 | e + 1, j, n, hj, h1, h2 => by
  have hlt : j < kids.length := by omega
  obtain ⟨x, hx, x1, x2⟩ := ih _ (List.getElem_mem hlt) (d + 1) (r - n) (by omega) (by omega) (by omega) (by omega)
  by_cases hc : n + x > r
  ·refine ⟨1000, ev_step (fun k => rfl) (ev_pos (by omega) (ev_pos (by omega) (ev_pos (by omega) ?_))), by omega, by omega⟩
   rw [rdT_nat kids j hlt, w64 (x := d + 1) (by omega) (by omega), w64 (x := r - n) (by omega) (by omega)]
   refine ev_bind hx ?_
   rw [w64 (by omega) (by omega)]
   exact ev_pos hc (ev_some _)
  ·obtain ⟨n', hn', a1, a2⟩ := weigh_l kids d r hd0 hd hr0 hr ih e (j + 1) (n + x) (by omega) (by omega) (by omega)
   refine ⟨n', ev_step (fun k => rfl) (ev_pos (by omega) (ev_pos (by omega) (ev_pos (by omega) ?_))), a1, a2⟩
   rw [rdT_nat kids j hlt, w64 (x := d + 1) (by omega) (by omega), w64 (x := r - n) (by omega) (by omega)]
   refine ev_bind hx ?_
   rw [w64 (x := n + x) (by omega) (by omega), w64 (x := (j : Int) + 1) (by omega) (by omega)]
   refine ev_neg hc ?_
   exact_mod_cast hn'
mutual
theorem weigh_ev : ∀ s : S29, WeiAt s
 | ⟨op, m, kids⟩ => by
  intro d r h1 h2 h3 h4
  have ih := weigh_evL kids
  by_cases hd : d > 40
  ·exact ⟨1000, ev_step (fun k => rfl) (ev_pos hd (ev_step (f := fun _ => some 1000) (fun k => rfl) (ev_some _))), by omega, by omega⟩
  ·by_cases hr : r < 1
   ·exact ⟨1000, ev_step (fun k => rfl) (ev_neg hd (ev_step (fun k => rfl) (ev_pos (decide_eq_true hr) (ev_some _)))), by omega, by omega⟩
   ·obtain ⟨n', hn', a1, a2⟩ := weigh_l kids d r h1 (by omega) (by omega) h4 ih kids.length 0 1 (by omega) (by omega) (by omega)
    exact ⟨n', ev_step (fun k => rfl) (ev_neg hd (ev_step (fun k => rfl) (ev_neg (by rw [decide_eq_false hr]; simp) hn'))), a1, a2⟩
theorem weigh_evL : ∀ l : List S29, ∀ k ∈ l, WeiAt k
 | [], k, hk => by cases hk
 | a :: r, k, hk => by
  rcases List.mem_cons.1 hk with e | e
  ·rw [e]; exact weigh_ev a
  ·exact weigh_evL r k e
end
theorem heavy_ev (s : S29) : ∃ n : Int, Ev (fun k => parrylaw22_Heavy.f k s.f0 s.f1 s.f2) n ∧ 0 ≤ n ∧ n ≤ 1000 := by
 obtain ⟨n, hn, a1, a2⟩ := weigh_ev s 0 500 (by omega) (by omega) (by omega) (by omega)
 unfold parrylaw22_Heavy.f
 by_cases h : n > 300
 ·exact ⟨n, ev_bind hn (ev_pos h (ev_some _)), by omega, by omega⟩
 ·exact ⟨0, ev_bind hn (ev_neg h (ev_some _)), by omega, by omega⟩
theorem heavy24_loop (ls ss : List Int) (nxs : List (List Int)) (s : S29) (h0 : ls.length < 4611686018427387904) (hb : nxs.length < 1000000000000000) : ∀ (r p : List (List Int)) (x : Int), p ++ r = nxs → ∃ n : Int, Ev (fun k => parrylaw24_Heavy.l0 k x nxs (nxs.length : Int) (p.length : Int) ls ss nxs s.f0 s.f1 s.f2) n ∧
  (GraphOk ls ss nxs → (ls.length : Int) ≤ x → x ≤ 400 + 200 * (p.length : Int) → n ≤ 0 → mayF s = 0 → 2 ^ tnS s * ls.length ≤ 200)
 | [], p, x, h => by
  have hj : ∀ b : Bool, ∃ n : Int, Ev (fun k => parrylaw24_Heavy.j1 k x b ls ss nxs s.f0 s.f1 s.f2) n ∧ (b = true → n = x) ∧ (b = false → n ≤ 0 → GraphOk ls ss nxs → mayF s = 0 → 2 ^ tnS s * ls.length ≤ 200) := by
   intro b
   cases b with
   | true => exact ⟨x, ev_step (f := fun _ => some x) (fun k => rfl) (ev_some _), fun _ => rfl, fun h => (by cases h)⟩
   | false =>
    obtain ⟨m, hm, m0, m1⟩ := heavy_ev s
    by_cases c : m > 0
    ·exact ⟨m, ev_step (fun k => rfl) (ev_neg (f := fun _ => some x) (show ¬ false = true by decide) (ev_bind hm (ev_pos c (ev_some _)))), fun h => (by cases h), fun _ h => (by omega)⟩
    ·by_cases c2 : wrap64 (sizeS s * (ls.length : Int)) > 200
     ·refine ⟨1, ev_step (fun k => rfl) (ev_neg (f := fun _ => some x) (show ¬ false = true by decide) (ev_bind hm (ev_neg c ?_))), fun h => (by cases h), fun _ h => (by omega)⟩
      exact ev_bindv (show parryref22_Size.f s.f0 s.f1 s.f2 = some (sizeS s) from by cases s; rfl) (ev_pos c2 (ev_some _))
     ·refine ⟨0, ev_step (fun k => rfl) (ev_neg (f := fun _ => some x) (show ¬ false = true by decide) (ev_bind hm (ev_neg c ?_))), fun h => (by cases h), fun _ _ hg hz => ?_⟩
      ·exact ev_bindv (show parryref22_Size.f s.f0 s.f1 s.f2 = some (sizeS s) from by cases s; rfl) (ev_neg c2 (ev_some _))
      ·have h8 := (may_zero hz).2.2.1
       have hp : (2 : Nat) ^ tnS s ≤ 2 ^ 8 := Nat.pow_le_pow_right (by decide) h8
       have hl := hg.n
       have hmul : 2 ^ tnS s * ls.length ≤ 256 * 200 := Nat.mul_le_mul hp hl
       have e : sizeS s * (ls.length : Int) = ((2 ^ tnS s * ls.length : Nat) : Int) := by
        unfold sizeS
        rw [if_pos hz, Int.natCast_mul, Int.natCast_pow]; rfl
       rw [e, w64 (by omega) (by omega)] at c2
       omega
  have hpl : p.length = nxs.length := by rw [← h]; simp
  by_cases c : x > 300
  ·obtain ⟨n, h1, h2, _⟩ := hj true
   exact ⟨n, ev_step (fun k => rfl) (ev_neg (by omega) (ev_pos c h1)), fun _ _ _ h5 => by have := h2 rfl; omega⟩
  ·obtain ⟨n, h1, h2, h3⟩ := hj (decide ((nxs.length : Int) > 100))
   refine ⟨n, ev_step (fun k => rfl) (ev_neg (by omega) (ev_neg c h1)), fun hg hx _ h5 hz => ?_⟩
   by_cases d : (nxs.length : Int) > 100
   ·have h4 := h2 (decide_eq_true d)
    have h6 := hg.nn
    omega
   ·exact h3 (decide_eq_false d) h5 hg hz
 | v :: r, p, x, h => by
  have hlen : nxs.length = p.length + (r.length + 1) := by rw [← h]; simp
  have hrd : rd_L3 nxs (p.length : Int) = v := by rw [← h]; exact rdL_app p v r
  obtain ⟨n, h1, h2⟩ := heavy24_loop ls ss nxs s h0 hb r (p ++ [v]) (wrap64 (x + (v.length : Int))) (by rw [← h]; simp)
  refine ⟨n, ev_step (fun k => rfl) (ev_pos (by omega) (ev_pos (by omega) (ev_pos (by omega) ?_))), fun hg hx hy h5 hz => ?_⟩
  ·rw [hrd, w64 (x := (p.length : Int) + 1) (by omega) (by omega), show ((p.length : Int) + 1) = ((p ++ [v]).length : Int) by simp]
   exact h1
  ·have hv := (hg.nx v (by rw [← h]; simp)).2.1
   have hn := hg.nn
   have hn2 := hg.n
   have e : wrap64 (x + (v.length : Int)) = x + (v.length : Int) := w64 (by omega) (by omega)
   rw [e] at h2
   have hpl : ((p ++ [v]).length : Int) = (p.length : Int) + 1 := by simp
   exact h2 hg (by omega) (by omega) h5 hz
theorem heavy24_ev (ls ss : List Int) (nxs : List (List Int)) (s : S29) (h0 : ls.length < 4611686018427387904) (h1 : ss.length < 4611686018427387904) (hb : nxs.length < 1000000000000000) : ∃ n : Int, Ev (fun k => parrylaw24_Heavy.f k ls ss nxs s.f0 s.f1 s.f2) n ∧ (GraphOk ls ss nxs → n ≤ 0 → mayF s = 0 → 2 ^ tnS s * ls.length ≤ 200) := by
 obtain ⟨n, h2, h3⟩ := heavy24_loop ls ss nxs s h0 hb nxs [] (wrap64 ((ls.length : Int) + (ss.length : Int))) rfl
 refine ⟨n, h2, fun hg h5 hz => h3 hg ?_ ?_ h5 hz⟩
 ·rw [w64 (by omega) (by omega)]; omega
 ·have := hg.n
  have := hg.sl
  rw [w64 (by omega) (by omega)]; simp; omega
open Go.Proofs.YtapejnikpmfddaaW.PrintLast
theorem index_loop (l : List Int) (a : Int) (hb : l.length ≤ 9223372036854775807) : ∀ (r p : List Int), p ++ r = l → ∃ t : Int, Ev (fun k => slices_Index_int_int.l0 k l a (l.length : Int) (p.length : Int)) t ∧ decide (t ≥ 0) = r.contains a
 | [], p, h => by
  subst h
  exact ⟨-1, ev_step (fun k => rfl) (ev_neg (by simp) (ev_some _)), rfl⟩
 | v :: r, p, h => by
  have hlen : l.length = p.length + (r.length + 1) := by rw [← h]; simp
  have hrd : rd l (p.length : Int) = v := by rw [← h]; exact rd_app p v r
  by_cases e : a = v
  ·refine ⟨(p.length : Int), ev_step (fun k => rfl) (ev_pos (by omega) (ev_pos (by omega) (ev_pos (by omega) ?_))), ?_⟩
   ·rw [hrd]
    exact ev_pos e (ev_some _)
   ·rw [List.contains_cons, beq_iff_eq.2 e, Bool.true_or]
    exact decide_eq_true (by omega)
  ·obtain ⟨t, h1, h2⟩ := index_loop l a hb r (p ++ [v]) (by rw [← h]; simp)
   refine ⟨t, ev_step (fun k => rfl) (ev_pos (by omega) (ev_pos (by omega) (ev_pos (by omega) ?_))), ?_⟩
   ·rw [hrd]
    refine ev_neg e ?_
    rw [w64 (by omega) (by omega), show ((p.length : Int) + 1) = ((p ++ [v]).length : Int) by simp]
    exact h1
   ·rw [h2, List.contains_cons, beq_eq_false_iff_ne.2 e, Bool.false_or]
theorem contains_ev (l : List Int) (a : Int) (hb : l.length ≤ 9223372036854775807) : Ev (fun k => slices_Contains_int_int.f k l a) (l.contains a) := by
 obtain ⟨t, h1, h2⟩ := index_loop l a hb l [] rfl
 unfold slices_Contains_int_int.f
 refine ev_bind (show Ev (fun k => slices_Index_int_int.f k l a) t from h1) (ev_eq (ev_some _) h2)
theorem Contains_calls (l : List Int) (a : Int) (A : Option Addr) (c : Nat) (w : World) (hr : Kd.C (Kd.int .i64) w A l.length l) (hc : l.length ≤ c) :
  Calls Try.prog 28 #[.slice A l.length c, .int .i64 a] w fun e w' => e = .returned (.bool (l.contains a)) ∧ Below w.heap.size w w' := by
 obtain ⟨k, hk⟩ := (contains_ev l a (Kd.C_max hr)).rounds
 exact (slices_Contains_int_int.calls k A c l a _ w hr hc hk).mono (fun e w' h => ⟨h.1, h.2.below⟩)
def okAt (ls ss : List Int) (nxs : List (List Int)) (all : List Int) (i : Nat) : Bool :=
 if all.getD i 0 < 0 then false else if (ls.length : Int) ≤ all.getD i 0 then false else if i = 0 then ss.contains (all.getD i 0) else (nxs.getD (all.getD (i - 1) 0).toNat []).contains (all.getD i 0)
def walkB (ls ss : List Int) (nxs : List (List Int)) (all : List Int) : Bool := (List.range all.length).all (okAt ls ss nxs all)
def lettersG (ls all : List Int) : List Int := all.map (fun v => ls.getD v.toNat 0)
def wordB (ls ss : List Int) (nxs : List (List Int)) (st lp : List Int) : Bool :=
 decide (mayG ls ss nxs = 0) && (decide (lp ≠ []) && (walkB ls ss nxs (st ++ lp) && ((nxs.getD ((st ++ lp).getD ((st ++ lp).length - 1) 0).toNat []).contains (lp.getD 0 0) && wordS (lettersG ls st) (lettersG ls lp))))
theorem len_letters (ls all : List Int) : (lettersG ls all).length = all.length := List.length_map ..
section
variable {W w w1 : World} {g p : Nat}
def put2 (w : World) (p : Nat) (x y : Value) : World := (w.setCell ⟨p, 0, none⟩ x).setCell ⟨p, 1, none⟩ y
theorem below_put2 (hB : Below W.heap.size W w) (hp : W.heap.size ≤ p) (x y : Value) : Below W.heap.size W (put2 w p x y) := (hB.setCell hp x).setCell hp y
theorem Lay.put2 {a b : Value} {t : TypeId} (h : Lay W w p #[a, b] t) (x y : Value) : Lay W (put2 w p x y) p #[x, y] t := ⟨h.1, (blk_set (blk_set h.2 0 x) 1 y).trans rfl⟩
theorem R_put2 {w : World} {base p : Nat} {ok : Nat → Prop} {v a b : Value} {xs : List Int} {t : TypeId} (h : Kd.R (Kd.int .u32) 48 w base ok v xs) (hb : w.heap[p]? = some (.cells #[a, b] t (0, 0))) (ht : (48 : Nat) ≠ t) (x y : Value) : Kd.R (Kd.int .u32) 48 (put2 w p x y) base ok v xs := by
 have hne : ∀ k, v.ownBlock = some k → k ≠ p := fun k hk e => by
  obtain ⟨cells, hc⟩ := Kd.R_typed h k hk
  rw [e, hb] at hc
  injection hc with hc
  injection hc with _ h2 _
  exact ht h2.symm
 exact Kd.R_mono (Kd.R_step (Kd.R_tight rfl h) (fun k hk _ => by
  have hk' : k ≠ p := hne k hk.symm
  unfold put2
  rw [Below.heap_setCell _ ⟨p, 1, none⟩ y k hk', Below.heap_setCell _ ⟨p, 0, none⟩ x k hk'])) (fun k hk => h.1 k hk.symm)
end
theorem all_take {f : Nat → Bool} {n : Nat} (h : ∀ j, j < n → f j = true) : (List.range n).all f = true := List.all_eq_true.2 (fun j hj => h j (List.mem_range.1 hj))
theorem all_fail {f : Nat → Bool} {n i : Nat} (hi : i < n) (h : f i = false) : (List.range n).all f = false := by
 cases e : (List.range n).all f with
 | false => rfl
 | true =>
  have := List.all_eq_true.1 e i (List.mem_range.2 hi)
  rw [h] at this; cases this
theorem walk_range {ls ss : List Int} {nxs : List (List Int)} {all : List Int} {i : Nat} (h : okAt ls ss nxs all i = true) : 0 ≤ all.getD i 0 ∧ all.getD i 0 < (ls.length : Int) := by
 unfold okAt at h
 split at h
 ·cases h
 ·split at h
  ·cases h
  ·omega
theorem letters_snoc {ls all : List Int} {i : Nat} (h : i < all.length) : lettersG ls (all.take (i + 1)) = lettersG ls (all.take i) ++ [ls.getD (all.getD i 0).toNat 0] := by
 unfold lettersG
 rw [List.take_add_one, List.getElem?_eq_getElem h, Option.toList_some, List.map_append, List.getD_eq_getElem?_getD (l := all), List.getElem?_eq_getElem h]; rfl
def wordR (ls : List Int) (b : Bool) (l : List Int) : List Int := if b = true then lettersG ls l else []
def search_Word.f (l0_0 : List Int) (l0_1 : List Int) (l0_2 : List (List Int)) (l1 : List Int) (l2 : List Int) : Option (List Int × List Int × Bool) :=
 if l1.length + l2.length < 1000000000 then some (wordR l0_0 (wordB l0_0 l0_1 l0_2 l1 l2) l1, wordR l0_0 (wordB l0_0 l0_1 l0_2 l1 l2) l2, wordB l0_0 l0_1 l0_2 l1 l2) else none
end Go.Proofs.Ytapejnikpmfddaa.X
