/- A part of the claim SearchForms. -/
import Derived.Test.YtapejnikpmfddaaGreatQSearchFormsj
set_option linter.unusedVariables false
set_option linter.unusedSimpArgs false
set_option maxHeartbeats 6400000
set_option maxRecDepth 100000
namespace Go.Proofs.YtapejnikpmfddaaGreat.X
open Go.RowKit Go.Proofs.aI.bM Go.Proofs.aI.dG Go.Proofs.aI.dM
open Go.Proofs.YtapejnikpmfddaaGreat.P Go.Proofs.YtapejnikpmfddaaGreat.gY
def sle.T11 : Bool × List (List Nat × List Nat) := (true, [([], []), ([0], [0]), ([1], [1]), ([2], [2]), ([], []), ([], []), ([5], [5]), ([6], [6]), ([7], [7]), ([], []), ([3, 4, 0, 1, 2, 3, 4, 8], [3, 4]), ([10, 0, 1, 2, 3, 4, 8], [10]), ([8, 9, 0, 1, 2, 3, 4, 5, 6, 7, 8, 9, 10, 11], [8, 9]), ([12, 11, 0, 1, 2, 3, 4, 5, 6, 7, 8, 9, 10, 11], [12])])
def sle.B11 : List Nat := [0, 1, 3, 7, 0, 0, 32, 96, 224, 0, 511, 1535, 4095, 8191]
theorem sle.aqW : dh .any (opsOf Tryz.f92 11) = sle.T11 := by kernel_rfl
theorem sle.aqX : ik sle.T11.2 sle.B11 = true := by kernel_rfl
theorem FR (E : List gQ) : (E.flatMap zh).length = E.length * 2 := by
 induction E with
 | nil => rfl
 | cons e r ih => rw [List.flatMap_cons, List.length_append, ih, List.length_cons]; show 2 + r.length * 2 = _; omega
theorem aqY (E0 : List gQ) (e : gQ) : ((E0 ++ [e]).flatMap zh).take (E0.length * 2) = E0.flatMap zh := by
 rw [List.flatMap_append, ← FR E0, List.take_left'];rfl
theorem Xw {E : List gQ} {l : List (Nat × List Nat)} {q : Nat × List Nat} (h : E.map (fun e => (e.x, e.rest)) = (q :: l).reverse) : ∃ E0 e, E = E0 ++ [e] ∧ e.x = q.1 ∧ e.rest = q.2 ∧ E0.map (fun e => (e.x, e.rest)) = l.reverse := by
 rw [List.reverse_cons] at h;obtain ⟨E0, E1, e1, e2, e3⟩ := List.map_eq_append_iff.1 h;match E1, e3 with
 | [e], e3 =>
  simp only [List.map_cons, List.map_nil, List.cons.injEq, and_true] at e3;exact ⟨E0, e, e1, by rw [← e3], by rw [← e3], e2⟩
theorem sO.form {ρ : Nat → Nat} {base : Nat} {W : World} {vc : Value} {E : List gQ} (h : sO ρ base W vc E) (hE : 0 < E.length) : ∃ g c, vc = .slice (some ⟨g, 0, none⟩) E.length c ∧ E.length ≤ c ∧ ρ g = 6 ∧ base ≤ g := by
 rcases h.own.2 with ⟨_, h0⟩ | ⟨g, cap, cur, e, hb, _, hc, _⟩
 ·omega
 ·exact ⟨g, cap, e, hc, h.role g (by rw [e]; rfl), hb⟩
theorem sO.pop {ρ : Nat → Nat} {base g c : Nat} {W : World} {E0 : List gQ} {e : gQ} (h : sO ρ base W (.slice (some ⟨g, 0, none⟩) (E0 ++ [e]).length c) (E0 ++ [e])) : sO ρ base W (.slice (some ⟨g, 0, none⟩) E0.length c) E0 := by
 refine ⟨?_, fun k hk => h.role k hk, fun q hq => h.AP q (List.mem_append_left _ hq)⟩;have := aav h.own (m := E0.length) (by simp);rw [aqY] at this;exact this
theorem sO.cells {ρ : Nat → Nat} {base g c : Nat} {W : World} {E0 : List gQ} {e : gQ} (h : sO ρ base W (.slice (some ⟨g, 0, none⟩) (E0 ++ [e]).length c) (E0 ++ [e])) :
  W.cell? ⟨g, E0.length * 2, none⟩ = some (.int .i64 (e.x : Int)) ∧ W.cell? ⟨g, E0.length * 2 + 1, none⟩ = some (.slice e.A e.rest.length e.cap) ∧ ∀ j, W.frozen? ⟨g, j, none⟩ = false := by
 have hc := h.own.cells (g := g) rfl;have h0 : ((E0 ++ [e]).flatMap zh)[E0.length * 2]? = some (.int .i64 (e.x : Int)) := by
  rw [List.flatMap_append, List.getElem?_append_right (by rw [FR]; exact Nat.le_refl _), FR, Nat.sub_self]; rfl
 have h1 : ((E0 ++ [e]).flatMap zh)[E0.length * 2 + 1]? = some (.slice e.A e.rest.length e.cap) := by
  rw [List.flatMap_append, List.getElem?_append_right (by rw [FR]; omega), FR, show E0.length * 2 + 1 - E0.length * 2 = 1 by omega]; rfl
 have c0 := hc _ _ h0;have c1 := hc _ _ h1;rw [add_plain] at c0 c1;refine ⟨c0, c1, fun j => ?_⟩;rcases h.own.2 with ⟨e', _⟩ | ⟨g', cap, cur, e', _, hh, _⟩
 ·cases e'
 ·cases e'
  exact aN hh j
section
variable {ρ : Nat → Nat} {w0 W W1 : World} {a : At} {vs vc v1 : Value} {fo : Option Addr} {E : List gQ} {st : Sg.FS}
theorem bL.aqZ (h : bL ρ w0 W a vs vc fo E st) {b : Nat} (hb : ρ b = 8) : bL (fun k => if k = b then 7 else ρ k) w0 W a vs vc fo E st := by
 have key : ∀ {k r : Nat}, ρ k = r → r ≠ 8 → (if k = b then 7 else ρ k) = r := fun {k r} hk hr => by
  rw [if_neg (fun e => hr (by rw [← hk, e]; exact hb))]; exact hk
 refine ⟨h.j6, h.blk, key h.rg ai, h.bg, Kd.jd h.nums (fun k hk => key hk ai), Kd.jd h.bJ (fun k hk => key hk ai), Kd.jd h.on (fun k hk => key hk ai), Kd.jd h.bB (fun k hk => key hk ai), ⟨h.calls.own, fun k hk => key (h.calls.role k hk) ai, fun e he => ⟨(h.calls.AP e he).cap, (h.calls.AP e he).rd, fun ad ha hp => ⟨key ((h.calls.AP e he).role ad ha hp).1 ai, ((h.calls.AP e he).role ad ha hp).2⟩⟩⟩, h.cs, ?_⟩;match hf : st.found, hfo : fo, h.l6 with
 | none, none, _ => exact trivial
 | some c, some a, hh =>
  obtain ⟨gc, e, A, k, h1, h2, h3, h4⟩ := hh;exact ⟨gc, e, A, k, h1, h2, key h3 ai, fun ad ha hp => ⟨key (h4 ad ha hp).1 ai, (h4 ad ha hp).2⟩⟩
 | none, some _, hh => exact hh.elim
 | some _, none, hh => exact hh.elim
theorem bL.aq0 {gs n c : Nat} {x : Nat} {r : List Nat} (h : bL ρ w0 W a (.slice (some ⟨gs, 0, none⟩) (n + 1) c) vc fo E { st with bB := x :: r }) (hn : r.length = n) : bL ρ w0 (W.setCell ⟨a.g, 5, none⟩ (.slice (some ⟨gs, 0, none⟩) n c)) a (.slice (some ⟨gs, 0, none⟩) n c) vc fo E { st with bB := r } := by
 refine h.fin 5 _ rfl rfl rfl rfl ?_ h.calls h.cs h.l6;have h1 := Kd.NN h.bB (m := n) (by simp; omega);have h2 : ((x :: r).reverse).take n = r.reverse := by rw [List.reverse_cons, ← hn, ← List.length_reverse, List.take_left']; rfl
 rw [h2] at h1;exact h1
end
theorem afJ (b : Bool) (l : List Nat) (c : List Bool) (j : Nat) (h : j < l.length) : Sg.marks b (l.take (j + 1)) c = (Sg.marks b (l.take j) c).set (l.getD j 0) b := by
 rw [wF h];unfold Sg.marks;rw [List.foldl_append]; rfl
theorem drop_cons {l : List Nat} {j : Nat} (h : j < l.length) : l.drop j = l.getD j 0 :: l.drop (j + 1) := by
 rw [List.drop_eq_getElem_cons h, List.getD_eq_getElem?_getD, List.getElem?_eq_getElem h]; rfl
theorem aq1 (x : Nat) (l : List Nat) (h : x ∈ l) : ∃ TT R, Sg.nQ x l = (TT, R) ∧ l = TT ++ R ∧ 0 < TT.length ∧ TT.getD (TT.length - 1) 0 = x ∧ ∀ j, j + 1 < TT.length → TT.getD j 0 ≠ x := by
 obtain ⟨T, R, e1, e2, e3⟩ := Sg.VL x l h;refine ⟨T ++ [x], R, e1, by rw [e2, List.append_assoc]; rfl, by simp, by simp, fun j hj hx => e3 ?_⟩;have hj' : j < T.length := by simpa using hj
 rw [List.getD_eq_getElem?_getD, List.getElem?_append_left hj', List.getElem?_eq_getElem hj', Option.getD_some] at hx;rw [← hx];exact List.getElem_mem hj'
def Cc (l : List Nat) (j : Nat) : Int := if j = 0 then -1 else ((l.getD (j - 1) 0 : Nat) : Int)
theorem aq2 (l : List Nat) (j : Nat) : ((l.getD j 0 : Nat) : Int) = Cc l (j + 1) := by unfold Cc; rw [if_neg ag]; rfl
theorem aq3 {l : List Nat} {j x : Nat} (h : ∀ j, j + 1 < l.length → l.getD j 0 ≠ x) (hj : j < l.length) : Cc l j ≠ (x : Int) := by
 unfold Cc;split
 ·omega
 ·have := h (j - 1) ag;omega
theorem aq4 {l : List Nat} {x : Nat} (h0 : 0 < l.length) (h : l.getD (l.length - 1) 0 = x) : Cc l l.length = (x : Int) := by
 unfold Cc;rw [if_neg ag, h]
section
variable {ρ : Nat → Nat} {w0 W W1 : World} {a : At} {vs vc v1 : Value} {fo : Option Addr} {E : List gQ} {st : Sg.FS} {r : Nat}
theorem bL.QD (h : bL ρ w0 W a vs vc fo E st) (hk : lD ρ r W W1) (hr : 7 < r) (hB : Below w0.heap.size w0 W1) : bL ρ w0 W1 a vs vc fo E st :=
 ⟨hB, (hk.block _ h.lt (by rw [h.rg]; omega)).trans h.blk, h.rg, h.bg, ek h.nums hk ag, ek h.bJ hk ag, ek h.on hk ag, ek h.bB hk ag, h.calls.keep hk ag ag, h.cs, h.l6.keep hk ag⟩
end
structure mZ (ρ : Nat → Nat) (w0 W : World) (a : At) (gs cp : Nat) (vc : Value) (fo : Option Addr) (E : List gQ) (st : Sg.FS) (gi jR : Nat) (TT : List Nat) (j i : Nat) : Prop where
 f : bL ρ w0 W a (.slice (some ⟨gs, 0, none⟩) (st.bB.length - j) cp) vc fo E { st with bB := st.bB.drop j, on := Sg.marks false (TT.take i) st.on }
 row : Kd.R Kd.bool 4 W w0.heap.size (fun k => ρ k = 8) (.slice (some ⟨gi, 0, none⟩) a.N a.N) (Sg.marks true (TT.take i) (List.replicate a.N false))
 blk : W.heap[jR]? = some (.cells #[.slice (some ⟨gi, 0, none⟩) a.N a.N] 110 (0, 0))
 rc : ρ jR = 7
section
variable {ρ : Nat → Nat} {w0 W W1 : World} {a : At} {gs cp : Nat} {vc : Value} {fo : Option Addr} {E : List gQ} {st : Sg.FS} {gi jR : Nat} {TT : List Nat} {j i r : Nat}
theorem mZ.below (h : mZ ρ w0 W a gs cp vc fo E st gi jR TT j i) (hb : Below W.heap.size W W1) : mZ ρ w0 W1 a gs cp vc fo E st gi jR TT j i :=
 ⟨h.f.below hb, ek (r := 0) h.row (.below hb) ai, (hb.block _ (aT h.blk)).trans h.blk, h.rc⟩
theorem mZ.QD (h : mZ ρ w0 W a gs cp vc fo E st gi jR TT j i) (hk : lD ρ 9 W W1) (hB : Below w0.heap.size w0 W1) : mZ ρ w0 W1 a gs cp vc fo E st gi jR TT j i :=
 ⟨h.f.QD hk ai hB, ek h.row hk ai, (hk.block _ (aT h.blk) (by rw [h.rc]; decide)).trans h.blk, h.rc⟩
theorem mZ.off (h : mZ ρ w0 W a gs cp vc fo E st gi jR TT j i) (hj : j < st.bB.length) : mZ ρ w0 (W.setCell ⟨a.g, 5, none⟩ (.slice (some ⟨gs, 0, none⟩) (st.bB.length - (j + 1)) cp)) a gs cp vc fo E st gi jR TT (j + 1) i := by
 have hf := h.f;rw [drop_cons hj, show st.bB.length - j = (st.bB.length - (j + 1)) + 1 by omega] at hf;have h1 := bL.aq0 (st := { st with on := Sg.marks false (TT.take i) st.on }) hf (by rw [List.length_drop]);have hk : lD ρ 4 W (W.setCell ⟨a.g, 5, none⟩ (.slice (some ⟨gs, 0, none⟩) (st.bB.length - (j + 1)) cp)) := .set h.f.rg 5 _;exact ⟨h1, ek h.row hk ai, (hk.block _ (aT h.blk) (by rw [h.rc]; decide)).trans h.blk, h.rc⟩
theorem mZ.mark (h : mZ ρ w0 W a gs cp vc fo E st gi jR TT j i) (hi : i < TT.length) {y : Nat} (hy : TT.getD i 0 = y) : mZ ρ w0 ((W.setCell ⟨a.go, y, none⟩ (.bool false)).setCell ⟨gi, y, none⟩ (.bool true)) a gs cp vc fo E st gi jR TT j (i + 1) := by
 have h1 := h.f.afG y false;have hk3 : lD ρ 3 W (W.setCell ⟨a.go, y, none⟩ (.bool false)) := .set h.f.ro y _;have hr1 := ek h.row hk3 ai;have hr2 := DN hr1 y true;have hgi : ρ gi = 8 := h.row.1 _ rfl;have hk8 : lD ρ 8 (W.setCell ⟨a.go, y, none⟩ (.bool false)) ((W.setCell ⟨a.go, y, none⟩ (.bool false)).setCell ⟨gi, y, none⟩ (.bool true)) := .set hgi y _;have h2 := h1.QD hk8 ai (h1.j6.setCell (Qz hr1) _);refine ⟨?_, ?_, (hk8.block _ (by simp; exact aT h.blk) (by rw [h.rc]; decide)).trans ((hk3.block _ (aT h.blk) (by rw [h.rc]; decide)).trans h.blk), h.rc⟩
 ·rw [afJ false TT st.on i hi, hy];exact h2
 ·rw [afJ true TT _ i hi, hy];exact hr2
theorem mZ.top (h : mZ ρ w0 W a gs cp vc fo E st gi jR TT j i) {R : List Nat} (hs : st.bB = TT ++ R) (hj : j < TT.length) : W.cell? ⟨gs, st.bB.length - (j + 1), none⟩ = some (.int .i64 ((TT.getD j 0 : Nat) : Int)) := by
 have hl : st.bB.length = TT.length + R.length := by rw [hs, List.length_append]
 obtain ⟨q, _⟩ := sK h.f.bB (j := st.bB.length - (j + 1)) ag;rw [q];congr 3;show ((st.bB.drop j).reverse).getD _ 0 = _;rw [List.getD_eq_getElem?_getD, List.getElem?_reverse (by rw [List.length_drop]; omega), List.length_drop, List.getElem?_drop, show j + (st.bB.length - j - 1 - (st.bB.length - (j + 1))) = j by omega, hs, List.getElem?_append_left hj, ← List.getD_eq_getElem?_getD]
end
section
variable {ρ : Nat → Nat} {w0 W W1 : World} {a : At} {gs cp : Nat} {vc : Value} {fo : Option Addr} {E : List gQ} {st : Sg.FS} {gi jR : Nat} {TT : List Nat} {j i r : Nat} {cb : List Bool}
theorem uu.no {f : Option (List Bool)} (h : uu ρ W fo f) (e : f = none) : fo = none := by
 subst e;match fo, h with
 | none, _ => rfl
theorem uu.yes {f : Option (List Bool)} (h : uu ρ W fo f) {c : List Bool} (e : f = some c) : ∃ gc, fo = some ⟨gc, 0, none⟩ := by
 subst e;match fo, h with
 | some a, ⟨gc, e, _⟩ => exact ⟨gc, by rw [e]⟩
theorem mZ.comp (h : mZ ρ w0 W a gs cp vc fo E st gi jR TT j TT.length) (hcb : cb = Sg.marks true TT (List.replicate a.N false)) : cb.length = a.N ∧ Kd.C Kd.bool W (some ⟨gi, 0, none⟩) cb.length cb ∧ W.heap[jR]? = some (.cells #[.slice (some ⟨gi, 0, none⟩) cb.length a.N] 110 (0, 0)) := by
 have hl : cb.length = a.N := by rw [hcb, Sg.KZ, List.length_replicate]
 have hr := h.row;have hb := h.blk;rw [List.take_length, ← hcb] at hr;obtain ⟨A, c, e, _, hC⟩ := Kd.iO hr;rw [Value.slice.injEq] at e;obtain ⟨rfl, _, _⟩ := e;refine ⟨hl, hC, ?_⟩;rw [hl];exact hb
theorem mZ.end_ (h : mZ ρ w0 W a gs cp vc fo E st gi jR TT TT.length TT.length) {R : List Nat} (hs : st.bB = TT ++ R) : bL ρ w0 W a (.slice (some ⟨gs, 0, none⟩) (st.bB.length - TT.length) cp) vc fo E { st with bB := R, on := Sg.marks false TT st.on } := by
 have hf := h.f;rw [List.take_length] at hf;exact hf.to (by rw [hs, List.drop_left])
theorem mZ.l6 (h : mZ ρ w0 W a gs cp vc fo E st gi jR TT TT.length TT.length) {R : List Nat} (hs : st.bB = TT ++ R) (hcb : cb = Sg.marks true TT (List.replicate a.N false)) : bL (fun k => if k = gi then 7 else ρ k) w0 (W.setCell ⟨a.g, 7, none⟩ (.pointer (some ⟨jR, 0, none⟩))) a (.slice (some ⟨gs, 0, none⟩) (st.bB.length - TT.length) cp) vc (some ⟨jR, 0, none⟩) E { st with bB := R, on := Sg.marks false TT st.on, found := some cb } := by
 obtain ⟨h1, h2, h3⟩ := h.comp hcb;have hgi : ρ gi = 8 := h.row.1 _ rfl;have hf := (h.end_ hs).aqZ hgi;have hlt : gi < W.heap.size := by
  obtain ⟨inner, ho⟩ := Kd.xu h.row;exact iD ho gi rfl
 refine hf.fin 7 _ rfl rfl rfl rfl hf.bB hf.calls hf.cs ?_;exact ⟨jR, rfl, some ⟨gi, 0, none⟩, a.N, h3, h2, (if_neg (fun e => by have := h.rc; rw [e, hgi] at this; cases this)).trans h.rc, fun ad ha _ => by cases ha; exact ⟨if_pos rfl, hlt⟩⟩
end
theorem aq5 (p : PD) (ρ : Nat → Nat) (w0 W : World) (a : At) (vs vc : Value) (fo : Option Addr) (E : List gQ) (st : Sg.FS) (x : Nat) (cs : List (Nat × List Nat)) (frm : List Nat) (h : bL ρ w0 W a vs vc fo E st) (hP : qc w0 a.pg p) (hok : p.Ok) (Cb : a.N = p.N) (hI : Sg.Inv p.next p.N p.P p.good frm (fun _ => False) st) (hc : st.calls = (x, []) :: cs) (hE : E.length < 1000000) (hsl : st.bB.length < 1000000) :
  Calls Tryz.prog 92 #[.pointer (some ⟨a.g, 0, none⟩), .int .i64 (x : Int)] W fun e W' => e = .returned (.tuple #[]) ∧ ∃ ρ' vs' wK AQ E', bL ρ' w0 W' a vs' wK AQ E' (Sg.xO (Sg.gm p.next p.P p.good) st x cs) := by
 have fM := Tryz.underlying23;have hub := Tryz.underlying57;have jm := Tryz.underlying105;have QA := Tryz.underlying103;have huv := Tryz.underlying129;have huc := Tryz.underlying110;obtain ⟨E0, e0, eE, hex, her, hE0⟩ := Xw (by rw [← hc]; exact h.cs);subst eE;obtain ⟨bc, cc, e, hcc, hrc, hbc⟩ := h.calls.form (by simp);subst e;have hn1 : (E0 ++ [e0]).length = E0.length + 1 := by simp
 have hxg : x ∈ st.calls.map Prod.fst := by rw [hc]; exact List.mem_cons_self ..
 have hxs := hI.cs x hxg;have ou : x < a.N := by rw [Cb]; exact hI.lt (hI.sv x hxs)
 have k6 := h.c6;have f6 := h.fz 6;rw [hn1] at k6 hcc;have hB1 : Below W.heap.size W W.drew := bV (Below.refl _ _);have h1 : bL ρ w0 (W.drew.setCell ⟨a.g, 6, none⟩ (.slice (some ⟨bc, 0, none⟩) E0.length cc)) a vs (.slice (some ⟨bc, 0, none⟩) E0.length cc) fo E0 { st with calls := cs } :=
  (h.below hB1).fin 6 _ rfl rfl rfl rfl (h.below hB1).bB (h.below hB1).calls.pop hE0 (h.below hB1).l6
 have k6d := (h.below hB1).c6;have f6d := (h.below hB1).fz 6;rw [hn1] at k6d;obtain ⟨iV, hiV, _⟩ := Option.map_eq_some_iff.1 afH;have hcut := JJ (P := Tryz.prog) 103 129 .i64 QA hiV (some ⟨bc, 0, none⟩) (E0.length + 1) cc (E0.length : Int) (Int.natCast_nonneg _) ag hcc;rw [Int.toNat_natCast] at hcut;have H1 := Zd.mk h1;have HI := Zd.mk hI;have HC := Zd.mk hc;have HP := Zd.mk hP;have eG := Zd.mk hok;have ui := Zd.mk Cb;have hkl : E0.length < 1000000 := by omega
 have IX := Zd.mk hE0;generalize hk : E0.length = k at *;have HK := Zd.mk hk;have hkw : IntKind.i64.wrap (k : Int) = (k : Int) := (bE _).trans (vD ag);clear h h1 hI hc hP hok Cb hxg hxs hn1 hE hE0 hB1 hk hiV;go_enter Tryz.func92, Tryz.ntmps92;go_wp2
 go_still_tail 12, aa
 change wpList _ _ _ _ _ W.drew;generalize W.drew = Wd at *;go_upto_region 1 with fail
 obtain ⟨W1, hW1⟩ : ∃ W1 : World, W1 = Wd.setCell ⟨a.g, 6, none⟩ (.slice (some ⟨bc, 0, none⟩) k cc) := ⟨_, rfl⟩;rw [← hW1] at H1 ⊢;have k6 := H1.out.c6;have k2 := H1.out.c2;clear k6d f6d hcut hW1 f6
 go_upto_if 27 with fail
 go_cut [] (fun wx => Zd (bL ρ w0 wx a vs (.slice (some ⟨bc, 0, none⟩) k cc) fo E0 { st with bJ := Sg.jZ st x cs, calls := cs }))
 case first =>
  cases hcs : cs with
  | nil =>
   subst hcs;have hk0 : k = 0 := by
    have := IX.out;rw [List.reverse_nil, List.map_eq_nil_iff] at this;rw [← HK.out, this]; rfl
   subst hk0;go_wp2;go_meet;exact H1
  | cons q cs' =>
   obtain ⟨u, ru⟩ := q;subst hcs;obtain ⟨E00, eu, eE, K4, _, awx⟩ := Xw IX.out;subst eE;have hk0 : k = E00.length + 1 := by rw [← HK.out]; simp
   have hcl := H1.out.calls;rw [← HK.out] at hcl;obtain ⟨cu, _, _⟩ := hcl.cells;rw [K4] at cu;have huN : u < a.N := by
    rw [ui.out];exact HI.out.lt (HI.out.sv u (HI.out.cs u (by rw [HC.out]; exact List.mem_cons_of_mem _ (List.mem_cons_self ..))))
   have VN : (u : Int) < (a.N : Int) := by omega
   have hxl : (x : Int) < (a.N : Int) := by omega
   obtain ⟨lu, _⟩ := sK H1.out.bJ huN;obtain ⟨lx, _⟩ := sK H1.out.bJ ou;subst hk0;generalize E00.length = k0 at *;have awy : IntKind.i64.wrap (k0 : Int) = (k0 : Int) := (bE _).trans (vD ag);have wB := Zd.mk (fun W (hb : Below W1.heap.size W1 W) => (H1.out.below hb).Xn u (min (st.bJ.getD u 0) (st.bJ.getD x 0)));have Fy := Zd.mk (fun W (hb : Below W1.heap.size W1 W) => sK (H1.out.below hb).bJ huN);generalize hnu : st.bJ.getD u 0 = nu at *;generalize hnx : st.bJ.getD x 0 = nx at *;have HNU := Zd.mk hnu;have j4 := Zd.mk hnx;clear hnu hnx;go_wp2
   go_quiet (fail)
   go_upto_region 3 with fail
   have QE : Below W1.heap.size W1 (W1.drewN nq) := fB (Below.refl _ _) nq;have afK : Below W1.heap.size W1 (W1.drewN nq).drew := bV QE;have k2a := aG QE k2;have lua := aG QE lu;have lxa := aG QE lx;have QG := Zd.mk (wB.out _ afK);obtain ⟨lub, fub⟩ := Fy.out _ afK;clear k2 lu lx cu hcl;generalize W1.drewN nq = W2 at *;by_cases FT : nx < nu
   ·have rE : ((nx : Nat) : Int) < (nu : Int) := by omega
    have hmj : ¬ ((nu : Nat) : Int) < (nx : Int) := by omega
    have hme : min nu nx = nx := by omega
    rw [hme] at QG;clear hme
    go_still_tail 20, aa
    change wpList _ _ _ _ _ W2.drew;generalize W2.drew = W3 at *;go_wp2;go_meet;exact ⟨QG.out.to (by rw [show Sg.jZ st x ((u, ru) :: cs') = st.bJ.set u (min (st.bJ.getD u 0) (st.bJ.getD x 0)) from rfl, HNU.out, j4.out, show min nu nx = nx by omega])⟩
   ·have rE : ¬ ((nx : Nat) : Int) < (nu : Int) := by omega
    have hme : min nu nx = nu := by omega
    rw [hme] at QG;clear hme
    go_still_tail 20, aa
    change wpList _ _ _ _ _ W2.drew;generalize W2.drew = W3 at *;go_wp2;go_meet;exact ⟨QG.out.to (by rw [show Sg.jZ st x ((u, ru) :: cs') = st.bJ.set u (min (st.bJ.getD u 0) (st.bJ.getD x 0)) from rfl, HNU.out, j4.out, show min nu nx = nu by omega])⟩
 case rest =>
  obtain ⟨W5, rfl⟩ : ∃ W : World, W = wc := ⟨_, rfl⟩;have H5 := hcut;clear hcut H1 k6 k2;obtain ⟨lx, _⟩ := sK H5.out.bJ ou;obtain ⟨nx, _⟩ := sK H5.out.nums ou;have k1 := H5.out.c1;have k2 := H5.out.c2;have hxl : (x : Int) < (a.N : Int) := by omega
  have QH := Zd.mk (show Sg.xO (Sg.gm p.next p.P p.good) st x cs = _ from rfl);have HD := Zd.mk (fun W (hb : Below W5.heap.size W5 W) => H5.out.below hb);simp only at lx nx;by_cases hl : (Sg.jZ st x cs).getD x 0 < st.nums.getD x 0
  ·have LG := Zd.mk (show Sg.xO (Sg.gm p.next p.P p.good) st x cs = { st with bJ := Sg.jZ st x cs, calls := cs } from by unfold Sg.xO; rw [if_pos hl]);have vF : (((Sg.jZ st x cs).getD x 0 : Nat) : Int) < ((st.nums.getD x 0 : Nat) : Int) := by omega
   clear hl QH;generalize (Sg.jZ st x cs).getD x 0 = n0 at *;generalize st.nums.getD x 0 = n1 at *;go_wp2
   go_quiet (fail)
   go_wp2;refine bodyPost_ret (results_none rfl _ _ _) rfl ?_
   exact ⟨rfl, _, _, _, _, _, (HD.out _ (fB (Below.refl _ _) _)).to LG.out⟩
  ·have LG := Zd.mk (show Sg.xO (Sg.gm p.next p.P p.good) st x cs = { st with bJ := Sg.jZ st x cs, calls := cs, bB := (Sg.nQ x st.bB).2, on := Sg.marks false (Sg.nQ x st.bB).1 st.on, found := if st.found.isNone && Sg.gm p.next p.P p.good (Sg.marks true (Sg.nQ x st.bB).1 (List.replicate st.nums.length false)) (Sg.nQ x st.bB).1 then some (Sg.marks true (Sg.nQ x st.bB).1 (List.replicate st.nums.length false)) else st.found } from by unfold Sg.xO; rw [if_neg hl]);have vF : ¬ (Sg.jZ st x cs).getD x 0 < st.nums.getD x 0 := hl;have hxs : x ∈ st.bB := HI.out.cs x (by rw [HC.out]; exact List.mem_cons_self ..);obtain ⟨TT, R, hp, hsplit, hT0, LH, hTx⟩ := aq1 x st.bB hxs;have rF := Zd.mk (show ∀ y, y ∈ TT → y < a.N from fun y hy => by rw [ui.out]; exact HI.out.lt (HI.out.sv y (by rw [hsplit]; exact List.mem_append_left _ hy)));have y7 := Zd.mk (show st.nums.length = a.N by rw [ui.out]; exact HI.out.ln);obtain ⟨gs, cp, e, hgs, _, hcp⟩ := afl H5.out.bB (by rw [List.length_reverse]; exact List.length_pos_of_mem hxs);rw [List.length_reverse] at e hcp;have e' : vs = .slice (some ⟨gs, 0, none⟩) st.bB.length cp := e;subst e';clear e;have aq6 := Zd.mk hsplit;have Xx := Zd.mk hp;have qg := Zd.mk LH;have HTX := Zd.mk hTx;have hTn : TT.length ≤ st.bB.length := by rw [hsplit, List.length_append]; omega
   clear hl QH hxs hp hsplit LH hTx;have FO := Zd.mk (show bL ρ w0 W5 a (.slice (some ⟨gs, 0, none⟩) st.bB.length cp) (.slice (some ⟨bc, 0, none⟩) k cc) fo E0 { st with bJ := Sg.jZ st x cs, calls := cs } from H5.out);clear H5 HD;generalize (Sg.jZ st x cs).getD x 0 = n0 at *;generalize st.nums.getD x 0 = n1 at *;go_wp2
   go_quiet (fail)
   have mY := Zd.mk (FO.out.below (fB (Below.refl _ _) nq));generalize W5.drewN nq = W6 at *;have k1 := mY.out.c1;have hmk := Pg a.N (by rw [ui.out]; have := eG.out.BN; omega);clear k2 lx nx FO;obtain ⟨s5, hs5⟩ : ∃ s : Sg.FS, s = { st with bJ := Sg.jZ st x cs, calls := cs } := ⟨_, rfl⟩;rw [← hs5] at mY;have Xy := Zd.mk (show s5.bB = TT ++ R by rw [hs5]; exact aq6.out);have QI := Zd.mk (show s5.bB.length = st.bB.length by rw [hs5]);have awz := Zd.mk (show s5.on = st.on by rw [hs5]);have aq7 := Zd.mk (show s5.found = st.found by rw [hs5]);have Xz := Zd.mk hs5;clear hs5;obtain ⟨vL, LJ⟩ : ∃ r, r = uq (uq (uq ρ W6.heap.size 8) (W6.heap.size + 1) 7) (W6.heap.size + 2) 9 := ⟨_, rfl⟩;obtain ⟨W7, AR⟩ : ∃ W : World, W = W6.alloc (.cells ⟨yJ a.N false⟩ 4) := ⟨_, rfl⟩;obtain ⟨W8, rO⟩ : ∃ W : World, W = W7.alloc (.cells #[.slice (some ⟨W6.heap.size, 0, none⟩) a.N a.N] 110) := ⟨_, rfl⟩;have QJ : W7.heap.size = W6.heap.size + 1 := by rw [AR]; simp
   have hz8 : W8.heap.size = W6.heap.size + 2 := by rw [rO]; simp [QJ]
   have hb7 : Below W6.heap.size W6 W7 := by rw [AR]; exact aW (Below.refl _ _) _
   have XA : Below W7.heap.size W7 W8 := by rw [rO]; exact aW (Below.refl _ _) _
   have IY := Zd.mk (show mZ vL w0 W8 a gs cp (.slice (some ⟨bc, 0, none⟩) k cc) fo E0 s5 W6.heap.size (W6.heap.size + 1) TT 0 0 from by
    have h7 := (((mY.out.wJ 8).below hb7).wJ 7).below XA;have h8 := h7.wJ 9;rw [hz8, QJ] at h8;rw [← LJ] at h8;have hg8 : vL W6.heap.size = 8 := by rw [LJ, Ca ag, Ca ag, IV (Nat.le_refl _)]
    have QM : vL (W6.heap.size + 1) = 7 := by rw [LJ, Ca ag, IV (Nat.le_refl _)]
    have aq8 : Kd.R Kd.bool 4 W7 w0.heap.size (fun k => vL k = 8) (.slice (some ⟨W6.heap.size, 0, none⟩) a.N a.N) (List.replicate a.N false) := by
     refine Kd.vY ?_ (fun k hk => by simp [Value.ownBlock] at hk; rw [← hk]; exact hg8);have := aag (enc := Value.bool) (d := false) W6 w0.heap.size 4 a.N mY.out.j6.size (by rw [ui.out]; have := eG.out.BN; omega);rw [adp] at this;rw [AR, List.length_replicate];exact this
    exact ⟨by rw [← QI.out] at h8; exact h8, ek (r := 0) aq8 (.below XA) ai, by rw [rO, ← QJ]; exact heap_alloc_new W7 _, QM⟩)
   have hr9 : ∀ k, W6.heap.size + 2 ≤ k → vL k = 9 := fun k hk => by rw [LJ]; exact IV hk
   have uo := Zd.mk (Kd.lK bD 3 W8 w0.heap.size (fun k => vL k = 9));have k1b : W8.cell? ⟨W6.heap.size + 1, 0, none⟩ = some (.slice (some ⟨W6.heap.size, 0, none⟩) a.N a.N) := (aj IY.out.blk 0).trans rfl;obtain ⟨gi, hgi⟩ : ∃ g, g = W6.heap.size := ⟨_, rfl⟩;clear hb7 XA LJ;go_wp2;obtain ⟨jR, XB⟩ : ∃ g, g = gi + 1 := ⟨_, rfl⟩;rw [← AR, ← rO, ← hgi, ← XB];clear AR rO;rw [← hgi, ← XB] at IY k1b;rw [← hgi] at hz8;have aq9 : ∀ k, jR + 1 ≤ k → vL k = 9 := fun k hk => hr9 k ag;clear hr9 hgi QJ hmk k1 k1b;have awC : jR + 1 ≤ W8.heap.size := by omega
   clear XB;go_loopg [6, 7] TT.length (fun kq v6 v7 w' => ∃ j, kq + j = TT.length ∧ v7 = .int .i64 (Cc TT j) ∧ Zd (mZ vL w0 w' a gs cp (.slice (some ⟨bc, 0, none⟩) k cc) fo E0 s5 gi jR TT j j) ∧ Zd (Kd.R bD 3 w' w0.heap.size (fun k => vL k = 9) v6 (TT.take j)))
   case atStart => exact ⟨0, rfl, rfl, IY, uo⟩
   case round =>
    obtain ⟨j, hj, rfl, rP, LK⟩ := hrel;obtain ⟨WW, rfl⟩ : ∃ W : World, W = wr := ⟨_, rfl⟩;have HJ := Zd.mk hj;clear hj IY uo;have hjT : j ≤ TT.length := by have := HJ.out; omega
    by_cases hjl : j < TT.length
    ·have hyx : Cc TT j ≠ (x : Int) := aq3 HTX.out hjl;generalize Cc TT j = yj at *;have k5 := rP.out.f.c5;obtain ⟨m, hm⟩ : ∃ m, s5.bB.length - (j + 1) = m := ⟨_, rfl⟩;have hjs : j < s5.bB.length := by rw [QI.out]; omega
     have hm1 : s5.bB.length - j = m + 1 := by omega
     have hmc : m + 1 ≤ cp := by have := QI.out; omega
     have CF : m < 1000000 := by have := QI.out; omega
     have ht := rP.out.top Xy.out hjl;rw [hm] at ht;rw [hm1] at k5;have vz : TT.getD j 0 < a.N := rF.out _ (by rw [List.getD_eq_getElem?_getD, List.getElem?_eq_getElem hjl]; exact List.getElem_mem hjl);have HY1 := Zd.mk (aq2 TT j);obtain ⟨y, hy⟩ : ∃ y, TT.getD j 0 = y := ⟨_, rfl⟩;rw [hy] at ht vz HY1;have HY := Zd.mk hy;have hyl : (y : Int) < (a.N : Int) := by omega
     have afL := Zd.mk (fun W (hb : Below WW.heap.size WW W) => show mZ vL w0 (W.setCell ⟨a.g, 5, none⟩ (.slice (some ⟨gs, 0, none⟩) m cp)) a gs cp (.slice (some ⟨bc, 0, none⟩) k cc) fo E0 s5 gi jR TT (j + 1) j from hm ▸ (rP.out.below hb).off hjs);have uK := Zd.mk (fun W (hb : Below WW.heap.size WW W) => (show W.cell? ⟨a.g, 5, none⟩ = some (.slice (some ⟨gs, 0, none⟩) (m + 1) cp) from hm1 ▸ (rP.out.below hb).f.c5));have FO := Zd.mk (fun W (hb : Below WW.heap.size WW W) => (rP.out.below hb).f.fz 5);have Ls := Zd.mk (fun W (hb : Below WW.heap.size WW W) => ek (r := 0) LK.out (.below hb) ai);have wL : IntKind.i64.wrap (m : Int) = (m : Int) := (bE _).trans (vD ag);obtain ⟨iI, BZ, _⟩ := Option.map_eq_some_iff.1 nR;have afM := JJ (P := Tryz.prog) 23 3 .i64 fM BZ (some ⟨gs, 0, none⟩) (m + 1) cp (m : Int) (Int.natCast_nonneg _) ag hmc;rw [Int.toNat_natCast] at afM;clear hy hm hm1 BZ rP LK hjs;go_wp2
     go_quiet (fail)
     go_upto_region 10 with fail
     have hB1 : Below WW.heap.size WW (WW.drewN nq) := fB (Below.refl _ _) nq;have hB2 : Below WW.heap.size WW (WW.drewN nq).drew := bV hB1;have k5a := uK.out _ hB1;have k5b := uK.out _ hB2;have Xt := FO.out _ hB2;have IZ := Zd.mk (afL.out _ hB2);have HA2 := Zd.mk (Ls.out _ hB2);clear hB1 hB2 k5 ht uK FO Ls afL;generalize WW.drewN nq = WA at *
     go_still_tail 12, aa
     change wpList _ _ _ _ _ WA.drew;generalize WA.drew = WA2 at *;go_upto_region 11 with fail
     obtain ⟨WB, qh⟩ : ∃ W : World, W = WA2.setCell ⟨a.g, 5, none⟩ (.slice (some ⟨gs, 0, none⟩) m cp) := ⟨_, rfl⟩;rw [← qh];rw [← qh] at IZ;have HA3 := Zd.mk (show Kd.R bD 3 WB w0.heap.size (fun k => vL k = 9) u6 (TT.take j) from by rw [qh]; exact ek HA2.out (.set (r := 4) IZ.out.f.rg 5 _) ai);have k3 := IZ.out.f.c3;have kc : WB.cell? ⟨jR, 0, none⟩ = some (.slice (some ⟨gi, 0, none⟩) a.N a.N) := (aj IZ.out.blk 0).trans rfl;have hD : Below WB.heap.size WB WB.drew := bV (Below.refl _ _);have hO3 := IZ.out.below hD;obtain ⟨z1, y1⟩ := zi hO3.f.on vz;have hk3 : lD vL 3 WB.drew (WB.drew.setCell ⟨a.go, y, none⟩ (.bool false)) := .set hO3.f.ro y _;obtain ⟨z2, y2⟩ := zi (ek hO3.row hk3 ai) vz;have LM := Zd.mk (hO3.mark hjl HY.out);have FU := Zd.mk (ek (ek (ek (r := 0) HA3.out (.below hD) ai) hk3 ai) (.set (r := 8) (hO3.row.1 _ rfl) y (.bool true)) ai);generalize (Sg.marks false (TT.take j) s5.on).getD y false = n2 at z1;generalize (Sg.marks true (TT.take j) (List.replicate a.N false)).getD y false = n3 at z2;clear hD hO3 hk3 IZ HA2 HA3 qh k5a k5b Xt afM wL;refine iP (n := 14) (S := fun w' => w'.cell? ⟨a.g, 3, none⟩ = some (.slice (some ⟨a.go, 0, none⟩) a.N a.N) ∧ w'.cell? ⟨jR, 0, none⟩ = some (.slice (some ⟨gi, 0, none⟩) a.N a.N)) (ds := [11, 13]) al2 aa rfl rfl ⟨k3, kc⟩ (fun hHeld => ?_);refine iR sle.aqW sle.aqX (fun ae bA => ?_);generalize WB.drew = WC at *;refine pz ae.out 0 (some 114) al3 rfl rfl ?_;refine pz ae.out 1 (some 115) al4 rfl rfl ?_;refine pz ae.out 2 (some 116) al5 rfl rfl ?_;refine pz ae.out 4 (some 118) al6 rfl rfl ?_;refine pz ae.out 5 (some 119) al7 rfl rfl ?_;refine pz ae.out 6 (some 120) al8 rfl rfl ?_;refine pz ae.out 7 (some 121) al9 rfl rfl ?_;refine pz ae.out 9 (some 123) al_ rfl rfl ?_;refine tz ae.out bA.out 3 (some 117) ama rfl rfl hHeld ?_;refine tz ae.out bA.out 8 (some 122) amb rfl rfl hHeld ?_;refine pz ae.out 10 (some 124) amc rfl rfl ?_;refine kV (i := 11) (N := none) amd rfl rfl (di ae.out aa) ai (fun K hK => ?_);refine iQ (w1 := WC.setCell ⟨a.go, y, none⟩ (.bool false)) bu rfl ?_ ?_
     ·(go_simp; try rfl)
     refine hK.out _ _ ?_;clear hK K;refine pz ae.out 12 (some 125) ame rfl rfl ?_;refine kV (i := 13) (N := none) amf rfl rfl (di ae.out aa) ai (fun K hK => ?_);refine iQ (w1 := (WC.setCell ⟨a.go, y, none⟩ (.bool false)).setCell ⟨gi, y, none⟩ (.bool true)) bu rfl ?_ ?_
     ·(go_simp; try rfl)
     refine hK.out _ _ ?_;clear hK K;refine kD (kE ae.out aa) ?_;clear hHeld ae bA;obtain ⟨WD, hWD⟩ : ∃ W3 : World, W3 = (WC.setCell ⟨a.go, y, none⟩ (.bool false)).setCell ⟨gi, y, none⟩ (.bool true) := ⟨_, rfl⟩;rw [← hWD] at LM FU ⊢;clear z1 z2 y1 y2 k3 kc hWD;have hTj : (TT.take j).length < 1000000 := by rw [List.length_take]; omega
     have hgl : jR + 1 ≤ WD.heap.size := aT LM.out.blk;go_wp2_with ((with_reducible refine lL (b := .append) (xs := #[.tmp 126, .tmp 128]) rfl ?_); at_builtin; refine Kd.xw bD (w0 := w0) w0.heap.size rfl (.tmp 126) (.tmp 128) 23 3 (.int .i64 0) 8 rfl fM nR rfl ai ag u6 (TT.take j) y [.int .i64 (y : Int)] (fun k => vL k = 9) (fun _ => False) rfl ?aX ?aP (fun _ hk => hk.elim) ?aF ?aO ?aB ?aS ?aL ?_; (case aX => first | rfl | (simp; done) | (go_simp; done)); (case aP => exact rfl); (case aF => exact (fun k hk => aq9 k ag)); (case aO => exact FU.out); (case aB => exact LM.out.f.j6); (case aS => exact LM.out.f.j6.size); (case aL => first | omega | (simp; omega)); intro QB w9 ho hb hg hat; have HK9 := Zd.mk (LM.out.QD (.grown hg (fun k e => FU.out.1 k e)) hb); have Lj := Zd.mk ho; clear ho hb hg hat);go_roundg (TT.length - (j + 1))
     case measure => have := HJ.out; omega
     case rel =>
      refine ⟨j + 1, by omega, by rw [HY1.out], HK9, ⟨?_⟩⟩;rw [wF hjl, HY.out];exact Lj.out
    ·have e : j = TT.length := by omega
     subst e;rw [aq4 hT0 qg.out];obtain ⟨cb, hcb⟩ : ∃ c, c = Sg.marks true TT (List.replicate a.N false) := ⟨_, rfl⟩;obtain ⟨hcl, hCb, DK⟩ := rP.out.comp hcb;rw [List.take_length] at LK;obtain ⟨A6, c6, e6, hc6, FP⟩ := Kd.iO LK.out;subst e6;have k7 := rP.out.f.c7;have k0 := rP.out.f.c0;have hnl : s5.bB.length - TT.length = s5.bB.length - TT.length := rfl;have I1 := Zd.mk (fun W (hb : Below WW.heap.size WW W) => aqu p a.pg jR cb A6 c6 TT W (HP.out.below (rP.out.f.j6.trans (hb.mono rP.out.f.j6.size))) eG.out ⟨_, _, (hb.block _ (aT DK)).trans DK, Kd.aQ hCb hb⟩ (by rw [hcl]; exact ui.out) (Kd.aQ FP hb) (fun y hy => by rw [← ui.out]; exact rF.out y hy) hT0 ag);have Pt := Zd.mk hcb;have jq := Zd.mk (fun W (hb : Below WW.heap.size WW W) => (rP.out.below hb).end_ Xy.out);have I4 := Zd.mk (fun W (hb : Below WW.heap.size WW W) => (rP.out.below hb).l6 Xy.out hcb);have Ce := Zd.mk (fun W (hb : Below WW.heap.size WW W) => (rP.out.below hb).f.c7);have HZ7 := Zd.mk (fun W (hb : Below WW.heap.size WW W) => (rP.out.below hb).f.fz 7);have Ll := Zd.mk (show uu vL WW fo st.found from aq7.out ▸ rP.out.f.l6);clear hcb hCb DK FP LK rP hnl;cases hfo : st.found with
     | none =>
      have e := Ll.out.no hfo;subst e;have Cf := Zd.mk hfo;clear hfo;obtain ⟨b, hb⟩ : ∃ b, b = Sg.gm p.next p.P p.good cb TT := ⟨_, rfl⟩;have oQ := Zd.mk hb;rw [← hb] at I1;clear hb;cases b
      ·go_wp2_with (go_at_call 101; refine (I1.out _ (Below.refl _ _)).mono ?_; rintro e w9 ⟨rfl, hB⟩; have fE := Zd.mk hB; clear hB)
       go_end0
       refine ⟨rfl, _, _, _, _, _, (jq.out _ fE.out).to ?_⟩;have e := LG.out;rw [Xx.out, y7.out] at e;rw [e, Xz.out];simp only [← Pt.out, ← oQ.out, Bool.and_false, Bool.false_eq_true, if_false]
      ·go_wp2_with (go_at_call 101; refine (I1.out _ (Below.refl _ _)).mono ?_; rintro e w9 ⟨rfl, hB⟩; have k7b := Ce.out _ hB; have f7b := HZ7.out _ hB; have fE := Zd.mk hB; clear hB)
       go_end0
       refine ⟨rfl, _, _, _, _, _, (I4.out _ fE.out).to ?_⟩;have e := LG.out;rw [Xx.out, y7.out] at e;rw [e, Xz.out];simp only [← Pt.out, ← oQ.out, Cf.out, Option.isNone_none, Bool.and_true, if_true]
     | some cf =>
      obtain ⟨gc, e⟩ := Ll.out.yes hfo;subst e;have Cf := Zd.mk hfo;clear hfo;go_wp2
      go_end0
      refine ⟨rfl, _, _, _, _, _, (jq.out _ (Below.refl _ _)).to ?_⟩;have e := LG.out;rw [Xx.out, y7.out] at e;rw [e, Xz.out];simp only [Cf.out, Option.isNone_some, Bool.false_and, Bool.false_eq_true, if_false]
end Go.Proofs.YtapejnikpmfddaaGreat.X
