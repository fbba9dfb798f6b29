/- A part of the claim SearchReal. -/
import Derived.Test.YtapejnikpmfddaaQSearchReall
set_option linter.unusedVariables false
set_option linter.unusedSimpArgs false
namespace Go.Proofs.Ytapejnikpmfddaa.X
open Go.RowKit Go.Proofs.YtapejnikpmfddaaW.PrintWords Go.Proofs.YtapejnikpmfddaaW.PrintLast Go.Proofs.YtapejnikpmfddaaW.PrintMore
open Go.Proofs.Ytapejnikpmfddaa.P Go.Proofs.Ytapejnikpmfddaa.Evx
def secOf (t : S29) (i : Nat) : S81 := ⟨headT t, ((i + (if t.f0 = 6 then 1 else 0) : Nat) : Int), ((2 ^ tnS (headT t) : Nat) : Int)⟩
def partsOf : List S29 → Nat → List S81
 | [], _ => []
 | t :: r, i => secOf t i :: partsOf r (i + 1)
theorem len_partsOf : ∀ (l : List S29) (i : Nat), (partsOf l i).length = l.length
 | [], _ => rfl
 | t :: r, i => by rw [partsOf, List.length_cons, List.length_cons, len_partsOf r]
theorem partsOf_app (B : List S29) : ∀ (l : List S29) (i : Nat), partsOf (l ++ B) i = partsOf l i ++ partsOf B (i + l.length)
 | [], i => by simp [partsOf]
 | t :: r, i => by
  rw [List.cons_append, partsOf, partsOf, partsOf_app B r (i + 1), List.cons_append, List.length_cons, show i + 1 + r.length = i + (r.length + 1) by omega]
theorem partsOf_take {l : List S29} {i : Nat} (h : i < l.length) : partsOf (l.take (i + 1)) 0 = partsOf (l.take i) 0 ++ [secOf (l[i]'h) i] := by
 rw [List.take_succ_eq_append_getElem h, partsOf_app, List.length_take, Nat.min_eq_left (by omega), Nat.zero_add]; rfl
theorem mem_partsOf {q : S81} : ∀ (l : List S29) (i : Nat), q ∈ partsOf l i → ∃ t j, t ∈ l ∧ i ≤ j ∧ j < i + l.length ∧ q = secOf t j
 | [], i, h => by cases h
 | t :: r, i, h => by
  rw [partsOf] at h
  rcases List.mem_cons.1 h with e | h
  ·exact ⟨t, i, List.mem_cons_self .., Nat.le_refl _, by simp, e⟩
  ·obtain ⟨t', j, h1, h2, h3, h4⟩ := mem_partsOf r (i + 1) h
   exact ⟨t', j, List.mem_cons_of_mem _ h1, by omega, by rw [List.length_cons]; omega, h4⟩
theorem parts_bound {s : S29} (hm : mayF s = 0) : ∀ q, q ∈ partsOf (timesS s) 0 → 0 ≤ q.f1 ∧ q.f1 ≤ 60 ∧ 0 < q.f2 ∧ q.f2 ≤ 4096 := by
 intro q hq
 obtain ⟨t, j, h1, h2, h3, rfl⟩ := mem_partsOf _ _ hq
 have h8 : (timesS s).length ≤ 8 := by rw [len_times]; exact (may_zero hm).2.2.1
 have hh := head_may ((times_sub s t h1).may hm)
 have ht := (may_zero hh).2.2.1
 have hp : (2 : Nat) ^ tnS (headT t) ≤ 2 ^ 8 := Nat.pow_le_pow_right (by decide) ht
 have hp1 : 1 ≤ (2 : Nat) ^ tnS (headT t) := Nat.one_le_two_pow
 refine ⟨Int.natCast_nonneg _, ?_, ?_, ?_⟩
 ·show ((j + (if t.f0 = 6 then 1 else 0) : Nat) : Int) ≤ 60
  split <;> omega
 ·show (0 : Int) < ((2 ^ tnS (headT t) : Nat) : Int)
  omega
 ·show ((2 ^ tnS (headT t) : Nat) : Int) ≤ 4096
  omega
def stageF (ps : List S81) (ls : List Int) (sz v t x : Nat) : List Nat :=
 if x / sz < v then (List.range sz).filter (fun u => aheadN u (ls.getD (x / sz) 0) ps == x % sz) else if x / sz = v then (List.range t).filter (fun u => aheadN u (ls.getD (x / sz) 0) ps == x % sz) else []
def stageL (ps : List S81) (ls : List Int) (sz N v t : Nat) : List (List Nat) := (List.range N).map (stageF ps ls sz v t)
section
variable {ps : List S81} {ls : List Int} {sz N v t x : Nat}
theorem stage_zero : stageL ps ls sz N 0 0 = List.replicate N [] := by
 unfold stageL
 rw [List.eq_replicate_iff]
 refine ⟨by simp, fun b hb => ?_⟩
 obtain ⟨x, _, rfl⟩ := List.mem_map.1 hb
 unfold stageF
 rw [if_neg (Nat.not_lt_zero _)]
 split <;> simp
theorem stage_next : stageL ps ls sz N v sz = stageL ps ls sz N (v + 1) 0 := by
 unfold stageL
 refine List.map_congr_left (fun x _ => ?_)
 unfold stageF
 by_cases h1 : x / sz < v
 ·rw [if_pos h1, if_pos (by omega)]
 ·rw [if_neg h1]
  by_cases h2 : x / sz = v
  ·rw [if_pos h2, if_pos (by omega)]
  ·rw [if_neg h2, if_neg (by omega)]
   split <;> simp
theorem stage_len : (stageL ps ls sz N v t).length = N := by simp [stageL]
theorem stage_get (h : x < N) : (stageL ps ls sz N v t).getD x [] = stageF ps ls sz v t x := by
 unfold stageL
 rw [List.getD_eq_getElem?_getD, List.getElem?_map, List.getElem?_range h]; rfl
theorem stage_le (ht : t ≤ sz) : (stageF ps ls sz v t x).length ≤ sz := by
 unfold stageF
 split
 ·exact Nat.le_trans (List.length_filter_le _ _) (by simp)
 ·split
  ·exact Nat.le_trans (List.length_filter_le _ _) (by simp; exact ht)
  ·simp
theorem stage_set {s : Nat} (hsz : 0 < sz) (hs : aheadN t (ls.getD v 0) ps = s) (hlt : s < sz) (hx : v * sz + s < N) : (stageL ps ls sz N v t).set (v * sz + s) (stageF ps ls sz v t (v * sz + s) ++ [t]) = stageL ps ls sz N v (t + 1) := by
 have hd : (v * sz + s) / sz = v := by rw [Nat.mul_comm, Nat.mul_add_div hsz, Nat.div_eq_of_lt hlt, Nat.add_zero]
 have hm : (v * sz + s) % sz = s := by rw [Nat.mul_comm, Nat.mul_add_mod, Nat.mod_eq_of_lt hlt]
 apply List.ext_getElem?
 intro y
 by_cases hy : y < N
 ·rw [List.getElem?_set]
  have hr : (stageL ps ls sz N v (t + 1))[y]? = some (stageF ps ls sz v (t + 1) y) := by unfold stageL; rw [List.getElem?_map, List.getElem?_range hy]; rfl
  have hl : (stageL ps ls sz N v t)[y]? = some (stageF ps ls sz v t y) := by unfold stageL; rw [List.getElem?_map, List.getElem?_range hy]; rfl
  rw [hr, hl, stage_len]
  by_cases e : v * sz + s = y
  ·rw [if_pos e, if_pos (e ▸ hy)]
   congr 1
   subst e
   unfold stageF
   rw [hd, hm, if_neg (Nat.lt_irrefl _), if_pos rfl, if_neg (Nat.lt_irrefl _), if_pos rfl, List.range_succ, List.filter_append]
   congr 1
   rw [List.filter_cons, hs]
   simp
  ·rw [if_neg e]
   congr 1
   unfold stageF
   by_cases h1 : y / sz < v
   ·rw [if_pos h1, if_pos h1]
   ·rw [if_neg h1, if_neg h1]
    by_cases h2 : y / sz = v
    ·rw [if_pos h2, if_pos h2, List.range_succ, List.filter_append]
     have h3 : y % sz ≠ s := fun k => e (by have := Nat.div_add_mod y sz; rw [h2, k, Nat.mul_comm] at this; exact this)
     rw [List.filter_cons, h2, hs]
     have : (s == y % sz) = false := by simp; exact fun k => h3 k.symm
     rw [this]
     simp
    ·rw [if_neg h2, if_neg h2]
 ·rw [List.getElem?_eq_none (by rw [List.length_set, stage_len]; omega), List.getElem?_eq_none (by rw [stage_len]; omega)]
end
def newPD (ls ss : List Int) (nxs : List (List Int)) (s : S29) : PD :=
 ⟨ls, ss.map Int.toNat, nxs.map (fun l => l.map Int.toNat), s, 2 ^ tnS s, partsOf (timesS s) 0, stageL (partsOf (timesS s) 0) ls (2 ^ tnS s) (2 ^ tnS s * ls.length) ls.length 0⟩
def newErr (ls ss : List Int) (nxs : List (List Int)) (s : S29) : Int :=
 if mayG ls ss nxs = 0 then (if mayF s = 0 then (if 3000 < 2 ^ tnS s * ls.length then 7 else 0) else mayF s) else mayG ls ss nxs
theorem map_getD {α β : Type} (f : α → β) (l : List α) (d : α) (d' : β) (h : f d = d') (i : Nat) : (l.map f).getD i d' = f (l.getD i d) := by
 rw [List.getD_eq_getElem?_getD, List.getElem?_map, List.getD_eq_getElem?_getD]
 cases l[i]? with
 | none => exact h.symm
 | some x => rfl
theorem newPD_ok {ls ss : List Int} {nxs : List (List Int)} {s : S29} (hg : GraphOk ls ss nxs) (hm : mayF s = 0) : (newPD ls ss nxs s).Ok := by
 have h8 := (may_zero hm).2.2.1
 have hp : (2 : Nat) ^ tnS s ≤ 2 ^ 8 := Nat.pow_le_pow_right (by decide) h8
 have hp1 : 1 ≤ (2 : Nat) ^ tnS s := Nat.one_le_two_pow
 have hrow : ∀ v, v < ls.length → ∃ l, l ∈ nxs ∧ (nxs.map (fun l => l.map Int.toNat)).getD v [] = l.map Int.toNat := fun v hv => by
  have hv' : v < nxs.length := by rw [hg.nn]; exact hv
  refine ⟨nxs[v]'hv', List.getElem_mem hv', ?_⟩
  rw [map_getD (fun l => l.map Int.toNat) nxs [] [] rfl, List.getD_eq_getElem?_getD, List.getElem?_eq_getElem hv']; rfl
 have hsl : ∀ x, x < 2 ^ tnS s * ls.length → (stageL (partsOf (timesS s) 0) ls (2 ^ tnS s) (2 ^ tnS s * ls.length) ls.length 0).getD x [] = (List.range (2 ^ tnS s)).filter (fun u => aheadN u (ls.getD (x / 2 ^ tnS s) 0) (partsOf (timesS s) 0) == x % 2 ^ tnS s) := fun x hx => by
  rw [stage_get hx]
  unfold stageF
  rw [if_pos (by rw [Nat.div_lt_iff_lt_mul (by omega), Nat.mul_comm]; exact hx)]
 constructor
 ·exact hg.n
 ·show (nxs.map _).length = ls.length
  rw [List.length_map]; exact hg.nn
 ·exact hp1
 ·exact hp
 ·exact stage_len
 ·intro v hv y hy
  obtain ⟨l, hl, e⟩ := hrow v hv
  rw [show (newPD ls ss nxs s).nxs = nxs.map (fun l => l.map Int.toNat) from rfl, e] at hy
  obtain ⟨a, ha, rfl⟩ := List.mem_map.1 hy
  have := (hg.nx l hl).2.2 a ha
  show a.toNat < ls.length
  omega
 ·intro v hv
  obtain ⟨l, hl, e⟩ := hrow v hv
  rw [show (newPD ls ss nxs s).nxs = nxs.map (fun l => l.map Int.toNat) from rfl, e, List.length_map]
  exact (hg.nx l hl).2.1
 ·intro x hx t ht
  have hx' : x < 2 ^ tnS s * ls.length := by rw [← stage_len (ps := partsOf (timesS s) 0) (ls := ls) (sz := 2 ^ tnS s) (N := 2 ^ tnS s * ls.length) (v := ls.length) (t := 0)]; exact hx
  rw [show (newPD ls ss nxs s).after = stageL (partsOf (timesS s) 0) ls (2 ^ tnS s) (2 ^ tnS s * ls.length) ls.length 0 from rfl, hsl x hx'] at ht
  exact List.mem_range.1 (List.mem_filter.1 ht).1
 ·intro x hx
  have hx' : x < 2 ^ tnS s * ls.length := by rw [← stage_len (ps := partsOf (timesS s) 0) (ls := ls) (sz := 2 ^ tnS s) (N := 2 ^ tnS s * ls.length) (v := ls.length) (t := 0)]; exact hx
  rw [show (newPD ls ss nxs s).after = stageL (partsOf (timesS s) 0) ls (2 ^ tnS s) (2 ^ tnS s * ls.length) ls.length 0 from rfl, hsl x hx']
  refine Nat.le_trans (List.length_filter_le _ _) ?_
  rw [List.length_range]; exact hp
 ·intro v hv
  obtain ⟨a, ha, rfl⟩ := List.mem_map.1 hv
  have := hg.st a ha
  show a.toNat < ls.length
  omega
 ·show (ss.map _).length ≤ 200
  rw [List.length_map]; exact hg.sl
 ·show (partsOf (timesS s) 0).length ≤ 8
  rw [len_partsOf, len_times]; exact h8
theorem C_map {α β : Type} {d : Kd α} {d' : Kd β} (f : α → β) (hs : d'.sz = d.sz) {w : World} {A : Option Addr} {n : Nat} {xs : List α} (h : Kd.C d w A n xs) (hk : ∀ x, x ∈ xs → ∀ c, d.K w x c → d'.K w (f x) c) : Kd.C d' w A n (xs.map f) := by
 obtain ⟨h1, h2, h3⟩ := h
 refine ⟨by rw [List.length_map]; exact h1, h2, fun hn => ?_⟩
 obtain ⟨ad, e, hc⟩ := h3 hn
 refine ⟨ad, e, fun j p hj => ?_⟩
 rw [List.getElem?_map] at hj
 obtain ⟨x, hx, rfl⟩ := Option.map_eq_some_iff.1 hj
 obtain ⟨c, c1, c2, c3⟩ := hc j x hx
 exact ⟨c, by rw [hs]; exact c1, hk x (List.mem_of_getElem? hx) c c2, fun k u hu => by rw [hs]; exact c3 k u hu⟩
theorem natC_of_int {w : World} {A : Option Addr} {n : Nat} {xs : List Int} (h : Kd.C (Kd.int .i64) w A n xs) (h0 : ∀ x, x ∈ xs → 0 ≤ x) : Kd.C natK w A n (xs.map Int.toNat) := by
 refine C_map Int.toNat rfl h (fun x hx c hc => ?_)
 have hc' : c = [Value.int .i64 x] := hc
 show c = [natV x.toNat]
 rw [hc']
 unfold natV
 rw [Int.toNat_of_nonneg (h0 x hx)]
theorem rows_of_int {w : World} {A : Option Addr} {n : Nat} {xs : List (List Int)} (h : Kd.C (Kd.slice 3 (Kd.int .i64)) w A n xs) (h0 : ∀ l, l ∈ xs → ∀ x, x ∈ l → 0 ≤ x) : Kd.C (Kd.slice 3 natK) w A n (xs.map (fun l => l.map Int.toNat)) := by
 refine C_map (d' := Kd.slice 3 natK) (fun l : List Int => l.map Int.toNat) rfl h (fun l hl c hc => ?_)
 obtain ⟨A', c', e, h1, h2⟩ := hc
 refine ⟨A', c', by rw [List.length_map]; exact e, by rw [List.length_map]; exact h1, ?_⟩
 have h3 := natC_of_int h2 (fun x hx => h0 l hl x hx)
 show Kd.C natK w A' (l.map Int.toNat).length (l.map Int.toNat)
 rw [List.length_map]
 exact h3
end Go.Proofs.Ytapejnikpmfddaa.X
