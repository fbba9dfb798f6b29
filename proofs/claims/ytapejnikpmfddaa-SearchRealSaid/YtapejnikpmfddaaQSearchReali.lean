/- A part of the claim SearchReal. -/
import Derived.Test.YtapejnikpmfddaaQSearchRealh
set_option linter.unusedVariables false
set_option linter.unusedSimpArgs false
set_option maxHeartbeats 6400000
set_option maxRecDepth 100000
namespace Go.Proofs.Ytapejnikpmfddaa.X
open Go.RowKit Go.Proofs.YtapejnikpmfddaaW.PrintWords Go.Proofs.YtapejnikpmfddaaW.PrintLast Go.Proofs.YtapejnikpmfddaaW.PrintMore
open Go.Proofs.Ytapejnikpmfddaa.P Go.Proofs.Ytapejnikpmfddaa.Evx
def sle.T11 : Bool × List (List Nat × List Nat) := (true, [([], []), ([0], [0]), ([1], [1]), ([2], [2]), ([], []), ([], []), ([5], [5]), ([6], [6]), ([7], [7]), ([], []), ([3, 4, 0, 1, 2, 3, 4, 8], [3, 4]), ([10, 0, 1, 2, 3, 4, 8], [10]), ([8, 9, 0, 1, 2, 3, 4, 5, 6, 7, 8, 9, 10, 11], [8, 9]), ([12, 11, 0, 1, 2, 3, 4, 5, 6, 7, 8, 9, 10, 11], [12])])
def sle.B11 : List Nat := [0, 1, 3, 7, 0, 0, 32, 96, 224, 0, 511, 1535, 4095, 8191]
theorem sle.tab11 : rtab .any (opsOf Try.f88 11) = sle.T11 := by kernel_rfl
theorem sle.bits11 : waitsOk sle.T11.2 sle.B11 = true := by kernel_rfl
theorem ents_len (E : List Ent) : (E.flatMap entCells).length = E.length * 2 := by
 induction E with
 | nil => rfl
 | cons e r ih => rw [List.flatMap_cons, List.length_append, ih, List.length_cons]; show 2 + r.length * 2 = _; omega
theorem ents_take (E0 : List Ent) (e : Ent) : ((E0 ++ [e]).flatMap entCells).take (E0.length * 2) = E0.flatMap entCells := by
 rw [List.flatMap_append, ← ents_len E0, List.take_left']
 rfl
theorem ents_snoc {E : List Ent} {l : List (Nat × List Nat)} {q : Nat × List Nat} (h : E.map (fun e => (e.x, e.rest)) = (q :: l).reverse) : ∃ E0 e, E = E0 ++ [e] ∧ e.x = q.1 ∧ e.rest = q.2 ∧ E0.map (fun e => (e.x, e.rest)) = l.reverse := by
 rw [List.reverse_cons] at h
 obtain ⟨E0, E1, e1, e2, e3⟩ := List.map_eq_append_iff.1 h
 match E1, e3 with
 | [e], e3 =>
  simp only [List.map_cons, List.map_nil, List.cons.injEq, and_true] at e3
  exact ⟨E0, e, e1, by rw [← e3], by rw [← e3], e2⟩
theorem CallsOk.form {ρ : Nat → Nat} {base : Nat} {W : World} {vc : Value} {E : List Ent} (h : CallsOk ρ base W vc E) (hE : 0 < E.length) : ∃ g c, vc = .slice (some ⟨g, 0, none⟩) E.length c ∧ E.length ≤ c ∧ ρ g = 6 ∧ base ≤ g := by
 rcases h.own.2 with ⟨_, h0⟩ | ⟨g, cap, cur, e, hb, _, hc, _⟩
 ·omega
 ·exact ⟨g, cap, e, hc, h.role g (by rw [e]; rfl), hb⟩
theorem CallsOk.pop {ρ : Nat → Nat} {base g c : Nat} {W : World} {E0 : List Ent} {e : Ent} (h : CallsOk ρ base W (.slice (some ⟨g, 0, none⟩) (E0 ++ [e]).length c) (E0 ++ [e])) : CallsOk ρ base W (.slice (some ⟨g, 0, none⟩) E0.length c) E0 := by
 refine ⟨?_, fun k hk => h.role k hk, fun q hq => h.ents q (List.mem_append_left _ hq)⟩
 have := own_take h.own (m := E0.length) (by simp)
 rw [ents_take] at this
 exact this
theorem CallsOk.cells {ρ : Nat → Nat} {base g c : Nat} {W : World} {E0 : List Ent} {e : Ent} (h : CallsOk ρ base W (.slice (some ⟨g, 0, none⟩) (E0 ++ [e]).length c) (E0 ++ [e])) :
  W.cell? ⟨g, E0.length * 2, none⟩ = some (.int .i64 (e.x : Int)) ∧ W.cell? ⟨g, E0.length * 2 + 1, none⟩ = some (.slice e.A e.rest.length e.cap) ∧ ∀ j, W.frozen? ⟨g, j, none⟩ = false := by
 have hc := h.own.cells (g := g) rfl
 have h0 : ((E0 ++ [e]).flatMap entCells)[E0.length * 2]? = some (.int .i64 (e.x : Int)) := by
  rw [List.flatMap_append, List.getElem?_append_right (by rw [ents_len]; exact Nat.le_refl _), ents_len, Nat.sub_self]; rfl
 have h1 : ((E0 ++ [e]).flatMap entCells)[E0.length * 2 + 1]? = some (.slice e.A e.rest.length e.cap) := by
  rw [List.flatMap_append, List.getElem?_append_right (by rw [ents_len]; omega), ents_len, show E0.length * 2 + 1 - E0.length * 2 = 1 by omega]; rfl
 have c0 := hc _ _ h0
 have c1 := hc _ _ h1
 rw [add_plain] at c0 c1
 refine ⟨c0, c1, fun j => ?_⟩
 rcases h.own.2 with ⟨e', _⟩ | ⟨g', cap, cur, e', _, hh, _⟩
 ·cases e'
 ·cases e'
  exact bz_ hh j
section
variable {ρ : Nat → Nat} {w0 W W1 : World} {a : At} {vs vc v1 : Value} {fo : Option Addr} {E : List Ent} {st : Sg.FS}
theorem IsF.recolor (h : IsF ρ w0 W a vs vc fo E st) {b : Nat} (hb : ρ b = 8) : IsF (fun k => if k = b then 7 else ρ k) w0 W a vs vc fo E st := by
 have key : ∀ {k r : Nat}, ρ k = r → r ≠ 8 → (if k = b then 7 else ρ k) = r := fun {k r} hk hr => by
  rw [if_neg (fun e => hr (by rw [← hk, e]; exact hb))]; exact hk
 refine ⟨h.bel, h.blk, key h.rg (by decide), h.bg, Kd.R_mono h.nums (fun k hk => key hk (by decide)), Kd.R_mono h.lows (fun k hk => key hk (by decide)), Kd.R_mono h.on (fun k hk => key hk (by decide)), Kd.R_mono h.stk (fun k hk => key hk (by decide)), ⟨h.calls.own, fun k hk => key (h.calls.role k hk) (by decide), fun e he => ⟨(h.calls.ents e he).cap, (h.calls.ents e he).rd, fun ad ha hp => ⟨key ((h.calls.ents e he).role ad ha hp).1 (by decide), ((h.calls.ents e he).role ad ha hp).2⟩⟩⟩, h.cs, ?_⟩
 match hf : st.found, hfo : fo, h.fnd with
 | none, none, _ => exact trivial
 | some c, some a, hh =>
  obtain ⟨gc, e, A, k, h1, h2, h3, h4⟩ := hh
  exact ⟨gc, e, A, k, h1, h2, key h3 (by decide), fun ad ha hp => ⟨key (h4 ad ha hp).1 (by decide), (h4 ad ha hp).2⟩⟩
 | none, some _, hh => exact hh.elim
 | some _, none, hh => exact hh.elim
theorem IsF.popStk {gs n c : Nat} {x : Nat} {r : List Nat} (h : IsF ρ w0 W a (.slice (some ⟨gs, 0, none⟩) (n + 1) c) vc fo E { st with stk := x :: r }) (hn : r.length = n) : IsF ρ w0 (W.setCell ⟨a.g, 5, none⟩ (.slice (some ⟨gs, 0, none⟩) n c)) a (.slice (some ⟨gs, 0, none⟩) n c) vc fo E { st with stk := r } := by
 refine h.fin 5 _ rfl rfl rfl rfl ?_ h.calls h.cs h.fnd
 have h1 := Kd.R_take h.stk (m := n) (by simp; omega)
 have h2 : ((x :: r).reverse).take n = r.reverse := by rw [List.reverse_cons, ← hn, ← List.length_reverse, List.take_left']; rfl
 rw [h2] at h1
 exact h1
end
theorem marks_take (b : Bool) (l : List Nat) (c : List Bool) (j : Nat) (h : j < l.length) : Sg.marks b (l.take (j + 1)) c = (Sg.marks b (l.take j) c).set (l.getD j 0) b := by
 rw [take_snocN h]
 unfold Sg.marks
 rw [List.foldl_append]; rfl
theorem drop_cons {l : List Nat} {j : Nat} (h : j < l.length) : l.drop j = l.getD j 0 :: l.drop (j + 1) := by
 rw [List.drop_eq_getElem_cons h, List.getD_eq_getElem?_getD, List.getElem?_eq_getElem h]; rfl
theorem pop_facts (x : Nat) (l : List Nat) (h : x ∈ l) : ∃ TT R, Sg.popF x l = (TT, R) ∧ l = TT ++ R ∧ 0 < TT.length ∧ TT.getD (TT.length - 1) 0 = x ∧ ∀ j, j + 1 < TT.length → TT.getD j 0 ≠ x := by
 obtain ⟨T, R, e1, e2, e3⟩ := Sg.pop_parts x l h
 refine ⟨T ++ [x], R, e1, by rw [e2, List.append_assoc]; rfl, by simp, by simp, fun j hj hx => e3 ?_⟩
 have hj' : j < T.length := by simpa using hj
 rw [List.getD_eq_getElem?_getD, List.getElem?_append_left hj', List.getElem?_eq_getElem hj', Option.getD_some] at hx
 rw [← hx]
 exact List.getElem_mem hj'
def yOf (l : List Nat) (j : Nat) : Int := if j = 0 then -1 else ((l.getD (j - 1) 0 : Nat) : Int)
theorem yOf_step (l : List Nat) (j : Nat) : ((l.getD j 0 : Nat) : Int) = yOf l (j + 1) := by unfold yOf; rw [if_neg (by omega)]; rfl
theorem yOf_ne {l : List Nat} {j x : Nat} (h : ∀ j, j + 1 < l.length → l.getD j 0 ≠ x) (hj : j < l.length) : yOf l j ≠ (x : Int) := by
 unfold yOf
 split
 ·omega
 ·have := h (j - 1) (by omega)
  omega
theorem yOf_end {l : List Nat} {x : Nat} (h0 : 0 < l.length) (h : l.getD (l.length - 1) 0 = x) : yOf l l.length = (x : Int) := by
 unfold yOf
 rw [if_neg (by omega), h]
section
variable {ρ : Nat → Nat} {w0 W W1 : World} {a : At} {vs vc v1 : Value} {fo : Option Addr} {E : List Ent} {st : Sg.FS} {r : Nat}
theorem IsF.keepN (h : IsF ρ w0 W a vs vc fo E st) (hk : Keep ρ r W W1) (hr : 7 < r) (hB : Below w0.heap.size w0 W1) : IsF ρ w0 W1 a vs vc fo E st :=
 ⟨hB, (hk.block _ h.lt (by rw [h.rg]; omega)).trans h.blk, h.rg, h.bg, R_keepR h.nums hk (by omega), R_keepR h.lows hk (by omega), R_keepR h.on hk (by omega), R_keepR h.stk hk (by omega), h.calls.keep hk (by omega) (by omega), h.cs, h.fnd.keep hk (by omega)⟩
end
structure PopAt (ρ : Nat → Nat) (w0 W : World) (a : At) (gs cp : Nat) (vc : Value) (fo : Option Addr) (E : List Ent) (st : Sg.FS) (gi gcm : Nat) (TT : List Nat) (j i : Nat) : Prop where
 f : IsF ρ w0 W a (.slice (some ⟨gs, 0, none⟩) (st.stk.length - j) cp) vc fo E { st with stk := st.stk.drop j, on := Sg.marks false (TT.take i) st.on }
 row : Kd.R Kd.bool 4 W w0.heap.size (fun k => ρ k = 8) (.slice (some ⟨gi, 0, none⟩) a.N a.N) (Sg.marks true (TT.take i) (List.replicate a.N false))
 blk : W.heap[gcm]? = some (.cells #[.slice (some ⟨gi, 0, none⟩) a.N a.N] 108 (0, 0))
 rc : ρ gcm = 7
section
variable {ρ : Nat → Nat} {w0 W W1 : World} {a : At} {gs cp : Nat} {vc : Value} {fo : Option Addr} {E : List Ent} {st : Sg.FS} {gi gcm : Nat} {TT : List Nat} {j i r : Nat}
theorem PopAt.below (h : PopAt ρ w0 W a gs cp vc fo E st gi gcm TT j i) (hb : Below W.heap.size W W1) : PopAt ρ w0 W1 a gs cp vc fo E st gi gcm TT j i :=
 ⟨h.f.below hb, R_keepR (r := 0) h.row (.below hb) (by decide), (hb.block _ (blk_lt h.blk)).trans h.blk, h.rc⟩
theorem PopAt.keepN (h : PopAt ρ w0 W a gs cp vc fo E st gi gcm TT j i) (hk : Keep ρ 9 W W1) (hB : Below w0.heap.size w0 W1) : PopAt ρ w0 W1 a gs cp vc fo E st gi gcm TT j i :=
 ⟨h.f.keepN hk (by decide) hB, R_keepR h.row hk (by decide), (hk.block _ (blk_lt h.blk) (by rw [h.rc]; decide)).trans h.blk, h.rc⟩
theorem PopAt.off (h : PopAt ρ w0 W a gs cp vc fo E st gi gcm TT j i) (hj : j < st.stk.length) : PopAt ρ w0 (W.setCell ⟨a.g, 5, none⟩ (.slice (some ⟨gs, 0, none⟩) (st.stk.length - (j + 1)) cp)) a gs cp vc fo E st gi gcm TT (j + 1) i := by
 have hf := h.f
 rw [drop_cons hj, show st.stk.length - j = (st.stk.length - (j + 1)) + 1 by omega] at hf
 have h1 := IsF.popStk (st := { st with on := Sg.marks false (TT.take i) st.on }) hf (by rw [List.length_drop])
 have hk : Keep ρ 4 W (W.setCell ⟨a.g, 5, none⟩ (.slice (some ⟨gs, 0, none⟩) (st.stk.length - (j + 1)) cp)) := .set h.f.rg 5 _
 exact ⟨h1, R_keepR h.row hk (by decide), (hk.block _ (blk_lt h.blk) (by rw [h.rc]; decide)).trans h.blk, h.rc⟩
theorem PopAt.mark (h : PopAt ρ w0 W a gs cp vc fo E st gi gcm TT j i) (hi : i < TT.length) {y : Nat} (hy : TT.getD i 0 = y) : PopAt ρ w0 ((W.setCell ⟨a.go, y, none⟩ (.bool false)).setCell ⟨gi, y, none⟩ (.bool true)) a gs cp vc fo E st gi gcm TT j (i + 1) := by
 have h1 := h.f.setOn y false
 have hk3 : Keep ρ 3 W (W.setCell ⟨a.go, y, none⟩ (.bool false)) := .set h.f.ro y _
 have hr1 := R_keepR h.row hk3 (by decide)
 have hr2 := boolK_put hr1 y true
 have hgi : ρ gi = 8 := h.row.1 _ rfl
 have hk8 : Keep ρ 8 (W.setCell ⟨a.go, y, none⟩ (.bool false)) ((W.setCell ⟨a.go, y, none⟩ (.bool false)).setCell ⟨gi, y, none⟩ (.bool true)) := .set hgi y _
 have h2 := h1.keepN hk8 (by decide) (h1.bel.setCell (R_slice_base hr1) _)
 refine ⟨?_, ?_, (hk8.block _ (by simp; exact blk_lt h.blk) (by rw [h.rc]; decide)).trans ((hk3.block _ (blk_lt h.blk) (by rw [h.rc]; decide)).trans h.blk), h.rc⟩
 ·rw [marks_take false TT st.on i hi, hy]
  exact h2
 ·rw [marks_take true TT _ i hi, hy]
  exact hr2
theorem PopAt.top (h : PopAt ρ w0 W a gs cp vc fo E st gi gcm TT j i) {R : List Nat} (hs : st.stk = TT ++ R) (hj : j < TT.length) : W.cell? ⟨gs, st.stk.length - (j + 1), none⟩ = some (.int .i64 ((TT.getD j 0 : Nat) : Int)) := by
 have hl : st.stk.length = TT.length + R.length := by rw [hs, List.length_append]
 obtain ⟨q, _⟩ := natK_cell h.f.stk (j := st.stk.length - (j + 1)) (by omega)
 rw [q]
 congr 3
 show ((st.stk.drop j).reverse).getD _ 0 = _
 rw [List.getD_eq_getElem?_getD, List.getElem?_reverse (by rw [List.length_drop]; omega), List.length_drop, List.getElem?_drop, show j + (st.stk.length - j - 1 - (st.stk.length - (j + 1))) = j by omega, hs, List.getElem?_append_left hj, ← List.getD_eq_getElem?_getD]
end
section
variable {ρ : Nat → Nat} {w0 W W1 : World} {a : At} {gs cp : Nat} {vc : Value} {fo : Option Addr} {E : List Ent} {st : Sg.FS} {gi gcm : Nat} {TT : List Nat} {j i r : Nat} {cb : List Bool}
theorem FndOk.no {f : Option (List Bool)} (h : FndOk ρ W fo f) (e : f = none) : fo = none := by
 subst e
 match fo, h with
 | none, _ => rfl
theorem FndOk.yes {f : Option (List Bool)} (h : FndOk ρ W fo f) {c : List Bool} (e : f = some c) : ∃ gc, fo = some ⟨gc, 0, none⟩ := by
 subst e
 match fo, h with
 | some a, ⟨gc, e, _⟩ => exact ⟨gc, by rw [e]⟩
theorem PopAt.comp (h : PopAt ρ w0 W a gs cp vc fo E st gi gcm TT j TT.length) (hcb : cb = Sg.marks true TT (List.replicate a.N false)) : cb.length = a.N ∧ Kd.C Kd.bool W (some ⟨gi, 0, none⟩) cb.length cb ∧ W.heap[gcm]? = some (.cells #[.slice (some ⟨gi, 0, none⟩) cb.length a.N] 108 (0, 0)) := by
 have hl : cb.length = a.N := by rw [hcb, Sg.marks_len, List.length_replicate]
 have hr := h.row
 have hb := h.blk
 rw [List.take_length, ← hcb] at hr
 obtain ⟨A, c, e, _, hC⟩ := Kd.R_reads hr
 rw [Value.slice.injEq] at e
 obtain ⟨rfl, _, _⟩ := e
 refine ⟨hl, hC, ?_⟩
 rw [hl]
 exact hb
theorem PopAt.end_ (h : PopAt ρ w0 W a gs cp vc fo E st gi gcm TT TT.length TT.length) {R : List Nat} (hs : st.stk = TT ++ R) : IsF ρ w0 W a (.slice (some ⟨gs, 0, none⟩) (st.stk.length - TT.length) cp) vc fo E { st with stk := R, on := Sg.marks false TT st.on } := by
 have hf := h.f
 rw [List.take_length] at hf
 exact hf.to (by rw [hs, List.drop_left])
theorem PopAt.fnd (h : PopAt ρ w0 W a gs cp vc fo E st gi gcm TT TT.length TT.length) {R : List Nat} (hs : st.stk = TT ++ R) (hcb : cb = Sg.marks true TT (List.replicate a.N false)) : IsF (fun k => if k = gi then 7 else ρ k) w0 (W.setCell ⟨a.g, 7, none⟩ (.pointer (some ⟨gcm, 0, none⟩))) a (.slice (some ⟨gs, 0, none⟩) (st.stk.length - TT.length) cp) vc (some ⟨gcm, 0, none⟩) E { st with stk := R, on := Sg.marks false TT st.on, found := some cb } := by
 obtain ⟨h1, h2, h3⟩ := h.comp hcb
 have hgi : ρ gi = 8 := h.row.1 _ rfl
 have hf := (h.end_ hs).recolor hgi
 have hlt : gi < W.heap.size := by
  obtain ⟨inner, ho⟩ := Kd.R_own h.row
  exact own_lt ho gi rfl
 refine hf.fin 7 _ rfl rfl rfl rfl hf.stk hf.calls hf.cs ?_
 exact ⟨gcm, rfl, some ⟨gi, 0, none⟩, a.N, h3, h2, (if_neg (fun e => by have := h.rc; rw [e, hgi] at this; cases this)).trans h.rc, fun ad ha _ => by cases ha; exact ⟨if_pos rfl, hlt⟩⟩
end
theorem leave_walk (p : PD) (ρ : Nat → Nat) (w0 W : World) (a : At) (vs vc : Value) (fo : Option Addr) (E : List Ent) (st : Sg.FS) (x : Nat) (cs : List (Nat × List Nat)) (frm : List Nat) (h : IsF ρ w0 W a vs vc fo E st) (hP : IsProd w0 a.pg p) (hok : p.Ok) (haN : a.N = p.N) (hI : Sg.Inv p.next p.N p.P p.good frm (fun _ => False) st) (hc : st.calls = (x, []) :: cs) (hE : E.length < 1000000) (hsl : st.stk.length < 1000000) :
  Calls Try.prog 88 #[.pointer (some ⟨a.g, 0, none⟩), .int .i64 (x : Int)] W fun e W' => e = .returned (.tuple #[]) ∧ ∃ ρ' vs' vc' fo' E', IsF ρ' w0 W' a vs' vc' fo' E' (Sg.leaveF (Sg.settF p.next p.P p.good) st x cs) := by
 have hui := Try.underlying23
 have hub := Try.underlying67
 have huF := Try.underlying103
 have huV := Try.underlying101
 have huv := Try.underlying123
 have huc := Try.underlying108
 obtain ⟨E0, e0, eE, hex, her, hE0⟩ := ents_snoc (by rw [← hc]; exact h.cs)
 subst eE
 obtain ⟨bc, cc, e, hcc, hrc, hbc⟩ := h.calls.form (by simp)
 subst e
 have hn1 : (E0 ++ [e0]).length = E0.length + 1 := by simp
 have hxg : x ∈ st.calls.map Prod.fst := by rw [hc]; exact List.mem_cons_self ..
 have hxs := hI.cs x hxg
 have hxN : x < a.N := by rw [haN]; exact hI.lt (hI.sv x hxs)
 have k6 := h.c6
 have f6 := h.fz 6
 rw [hn1] at k6 hcc
 have hB1 : Below W.heap.size W W.drew := below_drew1 (Below.refl _ _)
 have h1 : IsF ρ w0 (W.drew.setCell ⟨a.g, 6, none⟩ (.slice (some ⟨bc, 0, none⟩) E0.length cc)) a vs (.slice (some ⟨bc, 0, none⟩) E0.length cc) fo E0 { st with calls := cs } :=
  (h.below hB1).fin 6 _ rfl rfl rfl rfl (h.below hB1).stk (h.below hB1).calls.pop hE0 (h.below hB1).fnd
 have k6d := (h.below hB1).c6
 have f6d := (h.below hB1).fz 6
 rw [hn1] at k6d
 obtain ⟨iV, hiV, _⟩ := Option.map_eq_some_iff.1 infoV
 have hcut := cut_to (P := Try.prog) 101 123 .i64 huV hiV (some ⟨bc, 0, none⟩) (E0.length + 1) cc (E0.length : Int) (Int.natCast_nonneg _) (by omega) hcc
 rw [Int.toNat_natCast] at hcut
 have H1 := Zd.mk h1
 have HI := Zd.mk hI
 have HC := Zd.mk hc
 have HP := Zd.mk hP
 have HOK := Zd.mk hok
 have HAN := Zd.mk haN
 have hkl : E0.length < 1000000 := by omega
 have HE0 := Zd.mk hE0
 generalize hk : E0.length = k at *
 have HK := Zd.mk hk
 have hkw : IntKind.i64.wrap (k : Int) = (k : Int) := (i64_w _).trans (w64n (by omega))
 clear h h1 hI hc hP hok haN hxg hxs hn1 hE hE0 hB1 hk hiV
 go_enter Try.func88, Try.ntmps88
 go_wp2
 go_still_tail 12, (by kernel_rfl)
 change wpList _ _ _ _ _ W.drew
 generalize W.drew = Wd at *
 go_upto_region 1 with fail
 obtain ⟨W1, hW1⟩ : ∃ W1 : World, W1 = Wd.setCell ⟨a.g, 6, none⟩ (.slice (some ⟨bc, 0, none⟩) k cc) := ⟨_, rfl⟩
 rw [← hW1] at H1 ⊢
 have k6 := H1.out.c6
 have k2 := H1.out.c2
 clear k6d f6d hcut hW1 f6
 go_upto_if 27 with fail
 go_cut [] (fun wx => Zd (IsF ρ w0 wx a vs (.slice (some ⟨bc, 0, none⟩) k cc) fo E0 { st with lows := Sg.lowered st x cs, calls := cs }))
 case first =>
  cases hcs : cs with
  | nil =>
   subst hcs
   have hk0 : k = 0 := by
    have := HE0.out
    rw [List.reverse_nil, List.map_eq_nil_iff] at this
    rw [← HK.out, this]; rfl
   subst hk0
   go_wp2
   go_meet
   exact H1
  | cons q cs' =>
   obtain ⟨u, ru⟩ := q
   subst hcs
   obtain ⟨E00, eu, eE, hux, _, hE00⟩ := ents_snoc HE0.out
   subst eE
   have hk0 : k = E00.length + 1 := by rw [← HK.out]; simp
   have hcl := H1.out.calls
   rw [← HK.out] at hcl
   obtain ⟨cu, _, _⟩ := hcl.cells
   rw [hux] at cu
   have huN : u < a.N := by
    rw [HAN.out]
    exact HI.out.lt (HI.out.sv u (HI.out.cs u (by rw [HC.out]; exact List.mem_cons_of_mem _ (List.mem_cons_self ..))))
   have hul : (u : Int) < (a.N : Int) := by omega
   have hxl : (x : Int) < (a.N : Int) := by omega
   obtain ⟨lu, _⟩ := natK_cell H1.out.lows huN
   obtain ⟨lx, _⟩ := natK_cell H1.out.lows hxN
   subst hk0
   generalize E00.length = k0 at *
   have hkw2 : IntKind.i64.wrap (k0 : Int) = (k0 : Int) := (i64_w _).trans (w64n (by omega))
   have HSL := Zd.mk (fun W (hb : Below W1.heap.size W1 W) => (H1.out.below hb).setLow u (min (st.lows.getD u 0) (st.lows.getD x 0)))
   have HFL := Zd.mk (fun W (hb : Below W1.heap.size W1 W) => natK_cell (H1.out.below hb).lows huN)
   generalize hnu : st.lows.getD u 0 = nu at *
   generalize hnx : st.lows.getD x 0 = nx at *
   have HNU := Zd.mk hnu
   have HNX := Zd.mk hnx
   clear hnu hnx
   go_wp2
   go_quiet (fail)
   go_upto_region 3 with fail
   have hB12 : Below W1.heap.size W1 (W1.drewN nq) := pd_ (Below.refl _ _) nq
   have hB13 : Below W1.heap.size W1 (W1.drewN nq).drew := below_drew1 hB12
   have k2a := pb_ hB12 k2
   have lua := pb_ hB12 lu
   have lxa := pb_ hB12 lx
   have HSL2 := Zd.mk (HSL.out _ hB13)
   obtain ⟨lub, fub⟩ := HFL.out _ hB13
   clear k2 lu lx cu hcl
   generalize W1.drewN nq = W2 at *
   by_cases hmn : nx < nu
   ·have hmi : ((nx : Nat) : Int) < (nu : Int) := by omega
    have hmj : ¬ ((nu : Nat) : Int) < (nx : Int) := by omega
    have hme : min nu nx = nx := by omega
    rw [hme] at HSL2
    clear hme
    go_still_tail 20, (by kernel_rfl)
    change wpList _ _ _ _ _ W2.drew
    generalize W2.drew = W3 at *
    go_wp2
    go_meet
    exact ⟨HSL2.out.to (by rw [show Sg.lowered st x ((u, ru) :: cs') = st.lows.set u (min (st.lows.getD u 0) (st.lows.getD x 0)) from rfl, HNU.out, HNX.out, show min nu nx = nx by omega])⟩
   ·have hmi : ¬ ((nx : Nat) : Int) < (nu : Int) := by omega
    have hme : min nu nx = nu := by omega
    rw [hme] at HSL2
    clear hme
    go_still_tail 20, (by kernel_rfl)
    change wpList _ _ _ _ _ W2.drew
    generalize W2.drew = W3 at *
    go_wp2
    go_meet
    exact ⟨HSL2.out.to (by rw [show Sg.lowered st x ((u, ru) :: cs') = st.lows.set u (min (st.lows.getD u 0) (st.lows.getD x 0)) from rfl, HNU.out, HNX.out, show min nu nx = nu by omega])⟩
 case rest =>
  obtain ⟨W5, rfl⟩ : ∃ W : World, W = wc := ⟨_, rfl⟩
  have H5 := hcut
  clear hcut H1 k6 k2
  obtain ⟨lx, _⟩ := natK_cell H5.out.lows hxN
  obtain ⟨nx, _⟩ := natK_cell H5.out.nums hxN
  have k1 := H5.out.c1
  have k2 := H5.out.c2
  have hxl : (x : Int) < (a.N : Int) := by omega
  have HLF := Zd.mk (show Sg.leaveF (Sg.settF p.next p.P p.good) st x cs = _ from rfl)
  have HD := Zd.mk (fun W (hb : Below W5.heap.size W5 W) => H5.out.below hb)
  simp only at lx nx
  by_cases hl : (Sg.lowered st x cs).getD x 0 < st.nums.getD x 0
  ·have HLF2 := Zd.mk (show Sg.leaveF (Sg.settF p.next p.P p.good) st x cs = { st with lows := Sg.lowered st x cs, calls := cs } from by unfold Sg.leaveF; rw [if_pos hl])
   have hli : (((Sg.lowered st x cs).getD x 0 : Nat) : Int) < ((st.nums.getD x 0 : Nat) : Int) := by omega
   clear hl HLF
   generalize (Sg.lowered st x cs).getD x 0 = n0 at *
   generalize st.nums.getD x 0 = n1 at *
   go_wp2
   go_quiet (fail)
   go_wp2
   refine bodyPost_ret (results_none rfl _ _ _) rfl ?_
   exact ⟨rfl, _, _, _, _, _, (HD.out _ (pd_ (Below.refl _ _) _)).to HLF2.out⟩
  ·have HLF2 := Zd.mk (show Sg.leaveF (Sg.settF p.next p.P p.good) st x cs = { st with lows := Sg.lowered st x cs, calls := cs, stk := (Sg.popF x st.stk).2, on := Sg.marks false (Sg.popF x st.stk).1 st.on, found := if st.found.isNone && Sg.settF p.next p.P p.good (Sg.marks true (Sg.popF x st.stk).1 (List.replicate st.nums.length false)) (Sg.popF x st.stk).1 then some (Sg.marks true (Sg.popF x st.stk).1 (List.replicate st.nums.length false)) else st.found } from by unfold Sg.leaveF; rw [if_neg hl])
   have hli : ¬ (Sg.lowered st x cs).getD x 0 < st.nums.getD x 0 := hl
   have hxs : x ∈ st.stk := HI.out.cs x (by rw [HC.out]; exact List.mem_cons_self ..)
   obtain ⟨TT, R, hp, hsplit, hT0, hTl, hTx⟩ := pop_facts x st.stk hxs
   have HTN := Zd.mk (show ∀ y, y ∈ TT → y < a.N from fun y hy => by rw [HAN.out]; exact HI.out.lt (HI.out.sv y (by rw [hsplit]; exact List.mem_append_left _ hy)))
   have HLN := Zd.mk (show st.nums.length = a.N by rw [HAN.out]; exact HI.out.ln)
   obtain ⟨gs, cp, e, hgs, _, hcp⟩ := natK_form H5.out.stk (by rw [List.length_reverse]; exact List.length_pos_of_mem hxs)
   rw [List.length_reverse] at e hcp
   have e' : vs = .slice (some ⟨gs, 0, none⟩) st.stk.length cp := e
   subst e'
   clear e
   have HSPL := Zd.mk hsplit
   have HPOP := Zd.mk hp
   have HTL := Zd.mk hTl
   have HTX := Zd.mk hTx
   have hTn : TT.length ≤ st.stk.length := by rw [hsplit, List.length_append]; omega
   clear hl HLF hxs hp hsplit hTl hTx
   have HF5 := Zd.mk (show IsF ρ w0 W5 a (.slice (some ⟨gs, 0, none⟩) st.stk.length cp) (.slice (some ⟨bc, 0, none⟩) k cc) fo E0 { st with lows := Sg.lowered st x cs, calls := cs } from H5.out)
   clear H5 HD
   generalize (Sg.lowered st x cs).getD x 0 = n0 at *
   generalize st.nums.getD x 0 = n1 at *
   go_wp2
   go_quiet (fail)
   have HF6 := Zd.mk (HF5.out.below (pd_ (Below.refl _ _) nq))
   generalize W5.drewN nq = W6 at *
   have k1 := HF6.out.c1
   have hmk := make_rep a.N (by rw [HAN.out]; have := HOK.out.N_le; omega)
   clear k2 lx nx HF5
   obtain ⟨s5, hs5⟩ : ∃ s : Sg.FS, s = { st with lows := Sg.lowered st x cs, calls := cs } := ⟨_, rfl⟩
   rw [← hs5] at HF6
   have HSP5 := Zd.mk (show s5.stk = TT ++ R by rw [hs5]; exact HSPL.out)
   have HSL5 := Zd.mk (show s5.stk.length = st.stk.length by rw [hs5])
   have HON5 := Zd.mk (show s5.on = st.on by rw [hs5])
   have HFO5 := Zd.mk (show s5.found = st.found by rw [hs5])
   have HEQ5 := Zd.mk hs5
   clear hs5
   obtain ⟨ρ9, hρ9⟩ : ∃ r, r = roleTo (roleTo (roleTo ρ W6.heap.size 8) (W6.heap.size + 1) 7) (W6.heap.size + 2) 9 := ⟨_, rfl⟩
   obtain ⟨W7, hW7⟩ : ∃ W : World, W = W6.alloc (.cells ⟨repRow a.N false⟩ 4) := ⟨_, rfl⟩
   obtain ⟨W8, hW8⟩ : ∃ W : World, W = W7.alloc (.cells #[.slice (some ⟨W6.heap.size, 0, none⟩) a.N a.N] 108) := ⟨_, rfl⟩
   have hz7 : W7.heap.size = W6.heap.size + 1 := by rw [hW7]; simp
   have hz8 : W8.heap.size = W6.heap.size + 2 := by rw [hW8]; simp [hz7]
   have hb7 : Below W6.heap.size W6 W7 := by rw [hW7]; exact below_alloc (Below.refl _ _) _
   have hb8 : Below W7.heap.size W7 W8 := by rw [hW8]; exact below_alloc (Below.refl _ _) _
   have HPA := Zd.mk (show PopAt ρ9 w0 W8 a gs cp (.slice (some ⟨bc, 0, none⟩) k cc) fo E0 s5 W6.heap.size (W6.heap.size + 1) TT 0 0 from by
    have h7 := (((HF6.out.rerole 8).below hb7).rerole 7).below hb8
    have h8 := h7.rerole 9
    rw [hz8, hz7] at h8
    rw [← hρ9] at h8
    have hg8 : ρ9 W6.heap.size = 8 := by rw [hρ9, roleTo_old (by omega), roleTo_old (by omega), roleTo_new (Nat.le_refl _)]
    have hg7 : ρ9 (W6.heap.size + 1) = 7 := by rw [hρ9, roleTo_old (by omega), roleTo_new (Nat.le_refl _)]
    have hrow7 : Kd.R Kd.bool 4 W7 w0.heap.size (fun k => ρ9 k = 8) (.slice (some ⟨W6.heap.size, 0, none⟩) a.N a.N) (List.replicate a.N false) := by
     refine Kd.R_of_own ?_ (fun k hk => by simp [Value.ownBlock] at hk; rw [← hk]; exact hg8)
     have := own_made_of (enc := Value.bool) (d := false) W6 w0.heap.size 4 a.N HF6.out.bel.size (by rw [HAN.out]; have := HOK.out.N_le; omega)
     rw [made_rep] at this
     rw [hW7, List.length_replicate]
     exact this
    exact ⟨by rw [← HSL5.out] at h8; exact h8, R_keepR (r := 0) hrow7 (.below hb8) (by decide), by rw [hW8, ← hz7]; exact heap_alloc_new W7 _, hg7⟩)
   have hr9 : ∀ k, W6.heap.size + 2 ≤ k → ρ9 k = 9 := fun k hk => by rw [hρ9]; exact roleTo_new hk
   have HAL := Zd.mk (Kd.R_nil natK 3 W8 w0.heap.size (fun k => ρ9 k = 9))
   have k1b : W8.cell? ⟨W6.heap.size + 1, 0, none⟩ = some (.slice (some ⟨W6.heap.size, 0, none⟩) a.N a.N) := (bq_ HPA.out.blk 0).trans rfl
   obtain ⟨gi, hgi⟩ : ∃ g, g = W6.heap.size := ⟨_, rfl⟩
   clear hb7 hb8 hρ9
   go_wp2
   obtain ⟨gcm, hgcm⟩ : ∃ g, g = gi + 1 := ⟨_, rfl⟩
   rw [← hW7, ← hW8, ← hgi, ← hgcm]
   clear hW7 hW8
   rw [← hgi, ← hgcm] at HPA k1b
   rw [← hgi] at hz8
   have hr9' : ∀ k, gcm + 1 ≤ k → ρ9 k = 9 := fun k hk => hr9 k (by omega)
   clear hr9 hgi hz7 hmk k1 k1b
   have hgsz : gcm + 1 ≤ W8.heap.size := by omega
   clear hgcm
   go_loopg [6, 7] TT.length (fun kq v6 v7 w' => ∃ j, kq + j = TT.length ∧ v7 = .int .i64 (yOf TT j) ∧ Zd (PopAt ρ9 w0 w' a gs cp (.slice (some ⟨bc, 0, none⟩) k cc) fo E0 s5 gi gcm TT j j) ∧ Zd (Kd.R natK 3 w' w0.heap.size (fun k => ρ9 k = 9) v6 (TT.take j)))
   case atStart => exact ⟨0, rfl, rfl, HPA, HAL⟩
   case round =>
    obtain ⟨j, hj, rfl, HPJ, HAJ⟩ := hrel
    obtain ⟨WW, rfl⟩ : ∃ W : World, W = wr := ⟨_, rfl⟩
    have HJ := Zd.mk hj
    clear hj HPA HAL
    have hjT : j ≤ TT.length := by have := HJ.out; omega
    by_cases hjl : j < TT.length
    ·have hyx : yOf TT j ≠ (x : Int) := yOf_ne HTX.out hjl
     generalize yOf TT j = yj at *
     have k5 := HPJ.out.f.c5
     obtain ⟨m, hm⟩ : ∃ m, s5.stk.length - (j + 1) = m := ⟨_, rfl⟩
     have hjs : j < s5.stk.length := by rw [HSL5.out]; omega
     have hm1 : s5.stk.length - j = m + 1 := by omega
     have hmc : m + 1 ≤ cp := by have := HSL5.out; omega
     have hml : m < 1000000 := by have := HSL5.out; omega
     have ht := HPJ.out.top HSP5.out hjl
     rw [hm] at ht
     rw [hm1] at k5
     have hyN : TT.getD j 0 < a.N := HTN.out _ (by rw [List.getD_eq_getElem?_getD, List.getElem?_eq_getElem hjl]; exact List.getElem_mem hjl)
     have HY1 := Zd.mk (yOf_step TT j)
     obtain ⟨y, hy⟩ : ∃ y, TT.getD j 0 = y := ⟨_, rfl⟩
     rw [hy] at ht hyN HY1
     have HY := Zd.mk hy
     have hyl : (y : Int) < (a.N : Int) := by omega
     have HOFF := Zd.mk (fun W (hb : Below WW.heap.size WW W) => show PopAt ρ9 w0 (W.setCell ⟨a.g, 5, none⟩ (.slice (some ⟨gs, 0, none⟩) m cp)) a gs cp (.slice (some ⟨bc, 0, none⟩) k cc) fo E0 s5 gi gcm TT (j + 1) j from hm ▸ (HPJ.out.below hb).off hjs)
     have HC5 := Zd.mk (fun W (hb : Below WW.heap.size WW W) => (show W.cell? ⟨a.g, 5, none⟩ = some (.slice (some ⟨gs, 0, none⟩) (m + 1) cp) from hm1 ▸ (HPJ.out.below hb).f.c5))
     have HF5 := Zd.mk (fun W (hb : Below WW.heap.size WW W) => (HPJ.out.below hb).f.fz 5)
     have HAA := Zd.mk (fun W (hb : Below WW.heap.size WW W) => R_keepR (r := 0) HAJ.out (.below hb) (by decide))
     have hkm : IntKind.i64.wrap (m : Int) = (m : Int) := (i64_w _).trans (w64n (by omega))
     obtain ⟨iI, hiI, _⟩ := Option.map_eq_some_iff.1 infoI
     have hcutm := cut_to (P := Try.prog) 23 3 .i64 hui hiI (some ⟨gs, 0, none⟩) (m + 1) cp (m : Int) (Int.natCast_nonneg _) (by omega) hmc
     rw [Int.toNat_natCast] at hcutm
     clear hy hm hm1 hiI HPJ HAJ hjs
     go_wp2
     go_quiet (fail)
     go_upto_region 10 with fail
     have hB1 : Below WW.heap.size WW (WW.drewN nq) := pd_ (Below.refl _ _) nq
     have hB2 : Below WW.heap.size WW (WW.drewN nq).drew := below_drew1 hB1
     have k5a := HC5.out _ hB1
     have k5b := HC5.out _ hB2
     have f5b := HF5.out _ hB2
     have HO2 := Zd.mk (HOFF.out _ hB2)
     have HA2 := Zd.mk (HAA.out _ hB2)
     clear hB1 hB2 k5 ht HC5 HF5 HAA HOFF
     generalize WW.drewN nq = WA at *
     go_still_tail 12, (by kernel_rfl)
     change wpList _ _ _ _ _ WA.drew
     generalize WA.drew = WA2 at *
     go_upto_region 11 with fail
     obtain ⟨WB, hWB⟩ : ∃ W : World, W = WA2.setCell ⟨a.g, 5, none⟩ (.slice (some ⟨gs, 0, none⟩) m cp) := ⟨_, rfl⟩
     rw [← hWB]
     rw [← hWB] at HO2
     have HA3 := Zd.mk (show Kd.R natK 3 WB w0.heap.size (fun k => ρ9 k = 9) u6 (TT.take j) from by rw [hWB]; exact R_keepR HA2.out (.set (r := 4) HO2.out.f.rg 5 _) (by decide))
     have k3 := HO2.out.f.c3
     have kc : WB.cell? ⟨gcm, 0, none⟩ = some (.slice (some ⟨gi, 0, none⟩) a.N a.N) := (bq_ HO2.out.blk 0).trans rfl
     have hD : Below WB.heap.size WB WB.drew := below_drew1 (Below.refl _ _)
     have hO3 := HO2.out.below hD
     obtain ⟨z1, y1⟩ := boolK_cell hO3.f.on hyN
     have hk3 : Keep ρ9 3 WB.drew (WB.drew.setCell ⟨a.go, y, none⟩ (.bool false)) := .set hO3.f.ro y _
     obtain ⟨z2, y2⟩ := boolK_cell (R_keepR hO3.row hk3 (by decide)) hyN
     have HO4 := Zd.mk (hO3.mark hjl HY.out)
     have HA4 := Zd.mk (R_keepR (R_keepR (R_keepR (r := 0) HA3.out (.below hD) (by decide)) hk3 (by decide)) (.set (r := 8) (hO3.row.1 _ rfl) y (.bool true)) (by decide))
     generalize (Sg.marks false (TT.take j) s5.on).getD y false = n2 at z1
     generalize (Sg.marks true (TT.take j) (List.replicate a.N false)).getD y false = n3 at z2
     clear hD hO3 hk3 HO2 HA2 HA3 hWB k5a k5b f5b hcutm hkm
     refine start_ (n := 14) (S := fun w' => w'.cell? ⟨a.g, 3, none⟩ = some (.slice (some ⟨a.go, 0, none⟩) a.N a.N) ∧ w'.cell? ⟨gcm, 0, none⟩ = some (.slice (some ⟨gi, 0, none⟩) a.N a.N)) (ds := [11, 13]) Mk152_ (by kernel_rfl) rfl rfl ⟨k3, kc⟩ (fun hHeld => ?_)
     refine with_tabW sle.tab11 sle.bits11 (fun HT_ HW_ => ?_)
     generalize WB.drew = WC at *
     refine pz HT_.out 0 (some 114) Mk153_ rfl rfl ?_
     refine pz HT_.out 1 (some 115) Mk154_ rfl rfl ?_
     refine pz HT_.out 2 (some 116) Mk155_ rfl rfl ?_
     refine pz HT_.out 4 (some 118) Mk156_ rfl rfl ?_
     refine pz HT_.out 5 (some 119) Mk157_ rfl rfl ?_
     refine pz HT_.out 6 (some 120) Mk158_ rfl rfl ?_
     refine pz HT_.out 7 (some 121) Mk159_ rfl rfl ?_
     refine pz HT_.out 9 (some 123) Mk160_ rfl rfl ?_
     refine tz HT_.out HW_.out 3 (some 117) Mk161_ rfl rfl hHeld ?_
     refine tz HT_.out HW_.out 8 (some 122) Mk162_ rfl rfl hHeld ?_
     refine pz HT_.out 10 (some 124) Mk163_ rfl rfl ?_
     refine last_ (i := 11) (N := none) Mk164_ rfl rfl (one_of HT_.out (by kernel_rfl)) (by decide) (fun K hK => ?_)
     refine skip_ (w1 := WC.setCell ⟨a.go, y, none⟩ (.bool false)) (by rfl) rfl ?_ ?_
     ·(go_simp; try rfl)
     refine hK.out _ _ ?_
     clear hK K
     refine pz HT_.out 12 (some 125) Mk165_ rfl rfl ?_
     refine last_ (i := 13) (N := none) Mk166_ rfl rfl (one_of HT_.out (by kernel_rfl)) (by decide) (fun K hK => ?_)
     refine skip_ (w1 := (WC.setCell ⟨a.go, y, none⟩ (.bool false)).setCell ⟨gi, y, none⟩ (.bool true)) (by rfl) rfl ?_ ?_
     ·(go_simp; try rfl)
     refine hK.out _ _ ?_
     clear hK K
     refine done_ (done_of HT_.out (by kernel_rfl)) ?_
     clear hHeld HT_ HW_
     obtain ⟨WD, hWD⟩ : ∃ W3 : World, W3 = (WC.setCell ⟨a.go, y, none⟩ (.bool false)).setCell ⟨gi, y, none⟩ (.bool true) := ⟨_, rfl⟩
     rw [← hWD] at HO4 HA4 ⊢
     clear z1 z2 y1 y2 k3 kc hWD
     have hTj : (TT.take j).length < 1000000 := by rw [List.length_take]; omega
     have hgl : gcm + 1 ≤ WD.heap.size := blk_lt HO4.out.blk
     go_wp2_with ((with_reducible refine gate_builtin (b := .append) (xs := #[.tmp 126, .tmp 128]) rfl ?_); at_builtin; refine Kd.R_append natK (w0 := w0) w0.heap.size rfl (.tmp 126) (.tmp 128) 23 3 (.int .i64 0) 8 rfl hui infoI rfl (by decide) (by omega) u6 (TT.take j) y [.int .i64 (y : Int)] (fun k => ρ9 k = 9) (fun _ => False) rfl ?aX ?aP (fun _ hk => hk.elim) ?aF ?aO ?aB ?aS ?aL ?_; (case aX => first | rfl | (simp; done) | (go_simp; done)); (case aP => exact rfl); (case aF => exact (fun k hk => hr9' k (by omega))); (case aO => exact HA4.out); (case aB => exact HO4.out.f.bel); (case aS => exact HO4.out.f.bel.size); (case aL => first | omega | (simp; omega)); intro v9_ w9 ho hb hg hat; have HK9 := Zd.mk (HO4.out.keepN (.grown hg (fun k e => HA4.out.1 k e)) hb); have HV9 := Zd.mk ho; clear ho hb hg hat)
     go_roundg (TT.length - (j + 1))
     case measure => have := HJ.out; omega
     case rel =>
      refine ⟨j + 1, by omega, by rw [HY1.out], HK9, ⟨?_⟩⟩
      rw [take_snocN hjl, HY.out]
      exact HV9.out
    ·have e : j = TT.length := by omega
     subst e
     rw [yOf_end hT0 HTL.out]
     obtain ⟨cb, hcb⟩ : ∃ c, c = Sg.marks true TT (List.replicate a.N false) := ⟨_, rfl⟩
     obtain ⟨hcl, hCb, hCc⟩ := HPJ.out.comp hcb
     rw [List.take_length] at HAJ
     obtain ⟨A6, c6, e6, hc6, hC6⟩ := Kd.R_reads HAJ.out
     subst e6
     have k7 := HPJ.out.f.c7
     have k0 := HPJ.out.f.c0
     have hnl : s5.stk.length - TT.length = s5.stk.length - TT.length := rfl
     have HSW := Zd.mk (fun W (hb : Below WW.heap.size WW W) => settles_walk p a.pg gcm cb A6 c6 TT W (HP.out.below (HPJ.out.f.bel.trans (hb.mono HPJ.out.f.bel.size))) HOK.out ⟨_, _, (hb.block _ (blk_lt hCc)).trans hCc, Kd.C_below hCb hb⟩ (by rw [hcl]; exact HAN.out) (Kd.C_below hC6 hb) (fun y hy => by rw [← HAN.out]; exact HTN.out y hy) hT0 (by omega))
     have HCB := Zd.mk hcb
     have HBF := Zd.mk (fun W (hb : Below WW.heap.size WW W) => (HPJ.out.below hb).end_ HSP5.out)
     have HBY := Zd.mk (fun W (hb : Below WW.heap.size WW W) => (HPJ.out.below hb).fnd HSP5.out hcb)
     have HK7 := Zd.mk (fun W (hb : Below WW.heap.size WW W) => (HPJ.out.below hb).f.c7)
     have HZ7 := Zd.mk (fun W (hb : Below WW.heap.size WW W) => (HPJ.out.below hb).f.fz 7)
     have HFN := Zd.mk (show FndOk ρ9 WW fo st.found from HFO5.out ▸ HPJ.out.f.fnd)
     clear hcb hCb hCc hC6 HAJ HPJ hnl
     cases hfo : st.found with
     | none =>
      have e := HFN.out.no hfo
      subst e
      have HFO := Zd.mk hfo
      clear hfo
      obtain ⟨b, hb⟩ : ∃ b, b = Sg.settF p.next p.P p.good cb TT := ⟨_, rfl⟩
      have HBB := Zd.mk hb
      rw [← hb] at HSW
      clear hb
      cases b
      ·go_wp2_with (go_at_call 96; refine (HSW.out _ (Below.refl _ _)).mono ?_; rintro e w9 ⟨rfl, hB⟩; have HB9 := Zd.mk hB; clear hB)
       go_end0
       refine ⟨rfl, _, _, _, _, _, (HBF.out _ HB9.out).to ?_⟩
       have e := HLF2.out
       rw [HPOP.out, HLN.out] at e
       rw [e, HEQ5.out]
       simp only [← HCB.out, ← HBB.out, Bool.and_false, Bool.false_eq_true, if_false]
      ·go_wp2_with (go_at_call 96; refine (HSW.out _ (Below.refl _ _)).mono ?_; rintro e w9 ⟨rfl, hB⟩; have k7b := HK7.out _ hB; have f7b := HZ7.out _ hB; have HB9 := Zd.mk hB; clear hB)
       go_end0
       refine ⟨rfl, _, _, _, _, _, (HBY.out _ HB9.out).to ?_⟩
       have e := HLF2.out
       rw [HPOP.out, HLN.out] at e
       rw [e, HEQ5.out]
       simp only [← HCB.out, ← HBB.out, HFO.out, Option.isNone_none, Bool.and_true, if_true]
     | some cf =>
      obtain ⟨gc, e⟩ := HFN.out.yes hfo
      subst e
      have HFO := Zd.mk hfo
      clear hfo
      go_wp2
      go_end0
      refine ⟨rfl, _, _, _, _, _, (HBF.out _ (Below.refl _ _)).to ?_⟩
      have e := HLF2.out
      rw [HPOP.out, HLN.out] at e
      rw [e, HEQ5.out]
      simp only [HFO.out, Option.isNone_some, Bool.false_and, Bool.false_eq_true, if_false]
end Go.Proofs.Ytapejnikpmfddaa.X
