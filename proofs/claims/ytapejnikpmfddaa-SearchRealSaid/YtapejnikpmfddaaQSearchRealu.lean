/- A part of the claim SearchReal. -/
import Derived.Maps.Own
import Derived.Maps.OwnSet
import Derived.Maps.Views
import Derived.Test.YtapejnikpmfddaaQSearchRealt
set_option linter.unusedVariables false
set_option linter.unusedSimpArgs false
set_option maxHeartbeats 12800000
set_option maxRecDepth 100000
namespace Go.Proofs.Ytapejnikpmfddaa.X
open Go.RowKit Go.Proofs.YtapejnikpmfddaaW.PrintWords Go.Proofs.YtapejnikpmfddaaW.PrintLast Go.Proofs.YtapejnikpmfddaaW.PrintMore
open Go.Proofs.Ytapejnikpmfddaa.P Go.Proofs.Ytapejnikpmfddaa.Evx
def srl.T31 : Bool × List (List Nat × List Nat) := (true, [([], []), ([], []), ([], []), ([2], [2]), ([1, 3], [1, 3]), ([], []), ([], []), ([6], [6]), ([5, 7], [5, 7]), ([0, 4, 8], [0, 4, 8]), ([9], [9]), ([10], [10]), ([10], [10]), ([], []), ([13, 11, 9, 0, 1, 2, 3, 4, 5, 6, 7, 8, 9, 10, 11, 13], [11, 13]), ([12, 14, 0, 1, 2, 3, 4, 5, 6, 7, 8, 9, 10, 11, 12, 13, 14], [12])])
def srl.B31 : List Nat := [0, 0, 0, 4, 14, 0, 0, 64, 224, 511, 1023, 2047, 2047, 0, 12287, 32767]
theorem srl.tab31 : rtab .any (opsOf Try.f3 31) = srl.T31 := by kernel_rfl
theorem srl.bits31 : waitsOk srl.T31.2 srl.B31 = true := by kernel_rfl
theorem lawI : Maps.Keyed Try.prog 3 := Maps.int_keyed Try.underlying3
theorem zeroI (w : World) : (zeroValue 3).run Try.prog w = .ok (.int .i64 0) w := by kernel_rfl
def MapI (w : World) (g n : Nat) (f : Int → Int) : Prop :=
  ∃ D : DataW Unit, w.ownsMap Try.prog 3 (plainElem Try.prog 3) g n D ∧ ∀ x, (Lit.int .i64 x).wf = true → D.atKey (.int .i64 x) (.lit (.int .i64 0)) = .lit (.int .i64 (f x))
theorem MapI.made (w : World) : MapI (w.alloc (.map #[] 0)) w.heap.size 0 (fun _ => 0) := ⟨.map [], World.ownsMap_made _ _ _ _, fun _ _ => rfl⟩
theorem MapI.lt {w : World} {g n : Nat} {f : Int → Int} (h : MapI w g n f) : g < w.heap.size := by
  obtain ⟨D, h, _⟩ := h
  exact h.lt
theorem MapI.more {w : World} {g n n' : Nat} {f : Int → Int} (h : MapI w g n f) (hn : n ≤ n') : MapI w g n' f := by
  obtain ⟨D, h1, h2⟩ := h
  exact ⟨D, h1.mono hn, h2⟩
theorem MapI.grown {w w' : World} {g n : Nat} {f : Int → Int} (h : MapI w g n f) {row : Option Nat} (hg : w.grownBy w' row) (hne : some g ≠ row) : MapI w' g n f := by
  obtain ⟨D, h1, h2⟩ := h
  exact ⟨D, h1.kept hg hne, h2⟩
theorem MapI.same {w w' : World} {g n : Nat} {f : Int → Int} (h : MapI w g n f) (hb : w'.heap[g]? = w.heap[g]?) : MapI w' g n f := by
  obtain ⟨D, ⟨es, clock, h1, h2⟩, h3⟩ := h
  exact ⟨D, ⟨es, clock, hb.trans h1, h2⟩, h3⟩
theorem MapI.below {w w' : World} {g n : Nat} {f : Int → Int} (h : MapI w g n f) (hB : Below w.heap.size w w') : MapI w' g n f := h.same (hB.block _ h.lt)
theorem MapI.look {w : World} {g n : Nat} {f : Int → Int} (h : MapI w g n f) {x : Int} (hx : (Lit.int .i64 x).wf = true) : (Instr.lookup 45 (.map (some g)) (.int .i64 x) false).run Try.prog w = .ok (.int .i64 (f x)) w := by
  obtain ⟨D, h1, h2⟩ := h
  obtain ⟨c, hrun, hat, _⟩ := h1.lookup_int lawI Try.underlying45 Try.underlying3 (zeroI w) (Maps.keyOf_int_mk Try.underlying3 hx)
  rw [h2 x hx] at hat
  injection hat with hat
  injection hat with _ hat
  rw [hat]
  exact hrun
theorem wp_put {w : World} {ops : Array Oper} {rest : List Oper} {o : Oper} {a : Act} {Q : Exit → Act → World → Prop} (hg : o.guard = none) (m x v : Operand) (hop : o.op = Op.mapUpdate 45 m x v)
    (g n : Nat) (f : Int → Int) (hm : a.eval m = .map (some g)) (h : MapI w g n f) (hn : n < 100000) (kx vx : Int) (hx : a.eval x = .int .i64 kx) (hv : a.eval v = .int .i64 vx) (hkw : (Lit.int .i64 kx).wf = true) (hvw : (Lit.int .i64 vx).wf = true)
    (hK : ∀ w', MapI w' g (n + 1) (fun y => if y = kx then vx else f y) → w.grownBy w' (some g) → wpList Try.prog ops Q rest (a.put o.dst undef) w') : wpList Try.prog ops Q (o :: rest) a w := by
  obtain ⟨D, h1, h2⟩ := h
  refine wpList_mapUpdate_own w hg m x v 45 hop 3 3 lawI Try.underlying45 (plainElem Try.prog 3) g n D hm h1 (by unfold maxLen; omega) _ _ (.int .i64 kx) hx hv (Maps.keyOf_int_mk Try.underlying3 hkw) (.lit (.int .i64 vx)) [] (plainElem_int Try.underlying3 hvw) ?_
  intro w' h3 h4
  refine hK w' ⟨_, h3, fun y hy => ?_⟩ h4
  by_cases e : y = kx
  · subst e
    rw [show (fun y' : Int => if y' = y then vx else f y') y = vx from if_pos rfl]
    exact Maps.atKey_put_same h1.isMap (by trivial) _ _
  · rw [show (fun y' : Int => if y' = kx then vx else f y') y = f y from if_neg e, Maps.atKey_put_other (by intro h; injection h with _ h; exact e h)]
    exact h2 y hy
theorem wf_nat {v : Nat} (h : v < 4611686018427387904) : (Lit.int .i64 (v : Int)).wf = true := by
  have h1 : IntKind.min .i64 = -9223372036854775808 := by decide
  have h2 : IntKind.max .i64 = 9223372036854775807 := by decide
  show (decide (IntKind.min .i64 ≤ (v : Int)) && decide ((v : Int) ≤ IntKind.max .i64)) = true
  rw [h1, h2, Bool.and_eq_true, decide_eq_true_eq, decide_eq_true_eq]
  omega
theorem wf_succ {i : Nat} (h : i < 4611686018427387903) : (Lit.int .i64 ((i : Int) + 1)).wf = true := wf_nat (v := i + 1) (by omega)
theorem holds_val {s : S29} {st lp : List Int} (hm : mayF s = 0) (h1 : st.length ≤ 3000) (h2 : 1 ≤ lp.length) (h3 : lp.length ≤ 27000) : formula_Holds.f s.f0 s.f1 s.f2 st lp = some (L.lassoW (st ++ lp) st.length s 0) := by
  unfold formula_Holds.f
  have hw : wordS st lp = true := decide_eq_true ⟨h1, h2, h3⟩
  have hr : formula_Row.f s.f0 s.f1 s.f2 st lp = some (rowS (st ++ lp) st.length s) := by
    rw [show formula_Row.f s.f0 s.f1 s.f2 st lp = some (rowF s st lp) by cases s; rfl]
    have e : rowF s st lp = rowS (st ++ lp) st.length s := if_pos ⟨hm, hw⟩
    exact congrArg some e
  rw [hr]
  have hl : (rowS (st ++ lp) st.length s).length = (st ++ lp).length := len_row _ _ _
  rw [List.length_append] at hl
  show (if ((rowS (st ++ lp) st.length s).length : Int) > 0 then _ else _) = _
  rw [if_pos (by omega), if_pos (by omega)]
  rfl
theorem Find_full {ls ss : List Int} {nxs : List (List Int)} {s : S29} (he : newErr ls ss nxs s = 0) {q : Option (List Nat × List Nat)} (hq : findG ls ss nxs s true = q) {sa sc : List Int} {bok : Bool} (ha : (findV ls ss nxs s q).1 = sa) (hc : (findV ls ss nxs s q).2.1 = sc) (hb : q.isSome = bok) {na nc : Nat} (hna : sa.length = na) (hnc : sc.length = nc)
    (A0 A1 A2 A5 : Option Addr) (c0 c1 c2 c5 : Nat) (w : World)
    (h0 : Kd.C (Kd.int .u32) w A0 ls.length ls) (l0 : ls.length ≤ c0) (h1 : Kd.C (Kd.int .i64) w A1 ss.length ss) (l1 : ss.length ≤ c1) (h2 : Kd.C (Kd.slice 3 (Kd.int .i64)) w A2 nxs.length nxs) (l2 : nxs.length ≤ c2) (h5 : Kd.C k29 w A5 s.f2.length s.f2) (l5 : s.f2.length ≤ c5) :
    Calls Try.prog 11 #[.agg #[.slice A0 ls.length c0, .slice A1 ss.length c1, .slice A2 nxs.length c2], .agg #[.int .i64 s.f0, .int .i64 s.f1, .slice A5 s.f2.length c5]] w fun e w' => ∃ P1 p1 P2 p2, e = .returned (.tuple #[.slice P1 na p1, .slice P2 nc p2, .bool bok, .int .i64 0]) ∧ na ≤ p1 ∧ nc ≤ p2 ∧ Kd.C (Kd.int .i64) w' P1 sa.length sa ∧ Kd.C (Kd.int .i64) w' P2 sc.length sc ∧ Below w.heap.size w w' := by
  refine (Find_calls ls ss nxs s A0 A1 A2 A5 c0 c1 c2 c5 w h0 l0 h1 l1 h2 l2 h5 l5).mono ?_
  rintro e w' ⟨v1, v2, rfl, hR1, hR2, hB⟩
  rw [he, if_pos rfl, hq, ha] at hR1
  rw [he, if_pos rfl, hq, hc] at hR2
  obtain ⟨P1, p1, e1, hp1, hC1⟩ := Kd.R_reads hR1
  obtain ⟨P2, p2, e2, hp2, hC2⟩ := Kd.R_reads hR2
  subst e1
  subst e2
  rw [he, if_pos rfl, hq, show (findV ls ss nxs s q).2.2 = q.isSome from by
    cases q with
    | none => rfl
    | some p => obtain ⟨a, b⟩ := p; rfl, hb, hna, hnc]
  exact ⟨P1, p1, P2, p2, rfl, by omega, by omega, by rw [← hna]; exact hC1, by rw [← hnc]; exact hC2, hB⟩
theorem All_full {ls ss : List Int} {nxs : List (List Int)} {s : S29} (he : newErr ls ss nxs s = 0) {bs : Bool} (hb : (findG ls ss nxs s false).isNone = bs) (A0 A1 A2 A5 : Option Addr) (c0 c1 c2 c5 : Nat) (w : World)
    (h0 : Kd.C (Kd.int .u32) w A0 ls.length ls) (l0 : ls.length ≤ c0) (h1 : Kd.C (Kd.int .i64) w A1 ss.length ss) (l1 : ss.length ≤ c1) (h2 : Kd.C (Kd.slice 3 (Kd.int .i64)) w A2 nxs.length nxs) (l2 : nxs.length ≤ c2) (h5 : Kd.C k29 w A5 s.f2.length s.f2) (l5 : s.f2.length ≤ c5) :
    Calls Try.prog 12 #[.agg #[.slice A0 ls.length c0, .slice A1 ss.length c1, .slice A2 nxs.length c2], .agg #[.int .i64 s.f0, .int .i64 s.f1, .slice A5 s.f2.length c5]] w fun e w' => e = .returned (.tuple #[.bool bs, .int .i64 0]) ∧ Below w.heap.size w w' := by
  refine (All_calls ls ss nxs s A0 A1 A2 A5 c0 c1 c2 c5 w h0 l0 h1 l1 h2 l2 h5 l5).mono ?_
  rintro e w' ⟨rfl, hB⟩
  rw [he, if_pos rfl, hb]
  exact ⟨rfl, hB⟩
theorem Word_sl {ls ss : List Int} {nxs : List (List Int)} {st lp : List Int} (hT : wordB ls ss nxs st lp = true) {sn ln : Nat} (hsn : st.length = sn) (hln : lp.length = ln) (hlen : sn + ln < 1000000000) (A0 A1 A2 B1 B2 : Option Addr) (c0 c1 c2 d1 d2 : Nat) (w : World)
    (h0 : Kd.C (Kd.int .u32) w A0 ls.length ls) (l0 : ls.length ≤ c0) (h1 : Kd.C (Kd.int .i64) w A1 ss.length ss) (l1 : ss.length ≤ c1) (h2 : Kd.C (Kd.slice 3 (Kd.int .i64)) w A2 nxs.length nxs) (l2 : nxs.length ≤ c2)
    (h3 : Kd.C (Kd.int .i64) w B1 st.length st) (l3 : sn ≤ d1) (h4 : Kd.C (Kd.int .i64) w B2 lp.length lp) (l4 : ln ≤ d2) :
    Calls Try.prog 13 #[.agg #[.slice A0 ls.length c0, .slice A1 ss.length c1, .slice A2 nxs.length c2], .slice B1 sn d1, .slice B2 ln d2] w fun e w' => ∃ A c A' c', e = .returned (.tuple #[.agg #[.slice A sn c, .slice A' ln c'], .bool true]) ∧ Kd.R (Kd.int .u32) 48 w' w.heap.size (fun _ => True) (.slice A sn c) (lettersG ls st) ∧ Kd.R (Kd.int .u32) 48 w' w.heap.size (fun _ => True) (.slice A' ln c') (lettersG ls lp) ∧ Below w.heap.size w w' := by
  subst hsn
  subst hln
  refine (Word_true ls ss nxs st lp A0 A1 A2 B1 B2 c0 c1 c2 d1 d2 w h0 l0 h1 l1 h2 l2 h3 l3 h4 l4 hlen hT).mono ?_
  rintro e w' ⟨v1, v2, rfl, hR1, hR2, hB⟩
  obtain ⟨P1, p1, e1, hp1, hC1⟩ := Kd.R_reads hR1
  obtain ⟨P2, p2, e2, hp2, hC2⟩ := Kd.R_reads hR2
  rw [len_letters] at e1 e2
  subst e1
  subst e2
  exact ⟨P1, p1, P2, p2, rfl, hR1, hR2, hB⟩
theorem Holds_sl {s : S29} (hm : mayF s = 0) {st lp : List Int} {v1 v2 : Value} {b1 b2 : Nat} {ok1 ok2 : Nat → Prop} {w : World} (hR1 : Kd.R (Kd.int .u32) 48 w b1 ok1 v1 st) (hR2 : Kd.R (Kd.int .u32) 48 w b2 ok2 v2 lp) (h1 : st.length ≤ 3000) (h2 : 1 ≤ lp.length) (h3 : lp.length ≤ 27000) {r : Bool} (hr : L.lassoW (st ++ lp) st.length s 0 = r)
    (A5 : Option Addr) (c5 : Nat) (h5 : Kd.C k29 w A5 s.f2.length s.f2) (l5 : s.f2.length ≤ c5) :
    Calls Try.prog 14 #[.agg #[.int .i64 s.f0, .int .i64 s.f1, .slice A5 s.f2.length c5], .agg #[v1, v2]] w fun e w' => e = .returned (.bool r) ∧ Below w.heap.size w w' := by
  obtain ⟨P1, p1, e1, hp1, hC1⟩ := Kd.R_reads hR1
  obtain ⟨P2, p2, e2, hp2, hC2⟩ := Kd.R_reads hR2
  subst e1
  subst e2
  subst hr
  exact formula_Holds.calls s.f0 s.f1 A5 c5 s.f2 P1 p1 st P2 p2 lp _ w h5 l5 hC1 hp1 hC2 hp2 (holds_val hm h1 h2 h3)
theorem searchReal_walk (ls ss : List Int) (nxs : List (List Int)) (s : S29) (wk : List Int) (A0 A1 A2 A5 A6 : Option Addr) (c0 c1 c2 c5 c6 : Nat) (w : World) (b0 : ls.length < 4611686018427387904) (b1 : ss.length < 4611686018427387904) (b2 : nxs.length < 1000000000000000) (b3 : ∀ x, x ∈ nxs → x.length ≤ 9223372036854775807)
    (h0 : Kd.C (Kd.int .u32) w A0 ls.length ls) (l0 : ls.length ≤ c0) (h1 : Kd.C (Kd.int .i64) w A1 ss.length ss) (l1 : ss.length ≤ c1) (h2 : Kd.C (Kd.slice 3 (Kd.int .i64)) w A2 nxs.length nxs) (l2 : nxs.length ≤ c2) (h5 : Kd.C k29 w A5 s.f2.length s.f2) (l5 : s.f2.length ≤ c5) (h6 : Kd.C (Kd.int .i64) w A6 wk.length wk) (l6 : wk.length ≤ c6) :
    Calls Try.prog 3 #[.agg #[.slice A0 ls.length c0, .slice A1 ss.length c1, .slice A2 nxs.length c2], .agg #[.int .i64 s.f0, .int .i64 s.f1, .slice A5 s.f2.length c5], .slice A6 wk.length c6] w fun e w' => e = .returned (.bool true) ∧ Below w.heap.size w w' := by
  have huK := Try.underlying26
  have huF := Try.underlying29
  have huW := Try.underlying40
  have huu := Try.underlying22
  have hui := Try.underlying23
  have huii := Try.underlying24
  have hum := Try.underlying45
  obtain ⟨n, hn, hn3⟩ := heavy24_ev ls ss nxs s b0 b1 b2
  obtain ⟨kh, hkh⟩ := hn.rounds
  obtain ⟨km, hkm⟩ := (rmay_ev ls ss nxs (by omega) (by omega) b3).rounds
  obtain ⟨W2, hW2⟩ : ∃ W2, W2 = (w.alloc (.cells #[.slice A0 ls.length c0, .slice A1 ss.length c1, .slice A2 nxs.length c2] 26)).alloc (.cells #[.int .i64 s.f0, .int .i64 s.f1, .slice A5 s.f2.length c5] 29) := ⟨_, rfl⟩
  have hB2 : Below w.heap.size w W2 := by rw [hW2]; exact below_alloc (below_alloc (Below.refl _ _) _) _
  have hbk : W2.heap[w.heap.size]? = some (.cells #[.slice A0 ls.length c0, .slice A1 ss.length c1, .slice A2 nxs.length c2] 26 (0, 0)) := by rw [hW2]; exact ba_ (heap_alloc_new w _) _
  have hbf : W2.heap[w.heap.size + 1]? = some (.cells #[.int .i64 s.f0, .int .i64 s.f1, .slice A5 s.f2.length c5] 29 (0, 0)) := by
    rw [hW2]
    have := heap_alloc_new (w.alloc (.cells #[.slice A0 ls.length c0, .slice A1 ss.length c1, .slice A2 nxs.length c2] 26)) (.cells #[.int .i64 s.f0, .int .i64 s.f1, .slice A5 s.f2.length c5] 29)
    simpa using this
  obtain ⟨gk1, hgk⟩ : ∃ k, k = w.heap.size := ⟨_, rfl⟩
  obtain ⟨gf, hgf⟩ : ∃ k, k = gk1 + 1 := ⟨_, rfl⟩
  rw [← hgk] at hbk
  rw [← hgk, ← hgf] at hbf
  have k0 : W2.cell? ⟨gk1, 0, none⟩ = some (.slice A0 ls.length c0) := (bq_ hbk 0).trans rfl
  have k1 : W2.cell? ⟨gk1, 1, none⟩ = some (.slice A1 ss.length c1) := (bq_ hbk 1).trans rfl
  have k2 : W2.cell? ⟨gk1, 2, none⟩ = some (.slice A2 nxs.length c2) := (bq_ hbk 2).trans rfl
  have f0 : W2.cell? ⟨gf, 0, none⟩ = some (.int .i64 s.f0) := (bq_ hbf 0).trans rfl
  have f1 : W2.cell? ⟨gf, 1, none⟩ = some (.int .i64 s.f1) := (bq_ hbf 1).trans rfl
  have f2 : W2.cell? ⟨gf, 2, none⟩ = some (.slice A5 s.f2.length c5) := (bq_ hbf 2).trans rfl
  have HHV := Zd.mk (fun W (hb : Below W2.heap.size W2 W) => parrylaw24_Heavy.calls kh A0 c0 ls A1 c1 ss A2 c2 nxs s.f0 s.f1 A5 c5 s.f2 n W (Kd.C_below h0 (hB2.trans (hb.mono hB2.size))) l0 (Kd.C_below h1 (hB2.trans (hb.mono hB2.size))) l1 (Kd.C_below h2 (hB2.trans (hb.mono hB2.size))) l2 (Kd.C_below h5 (hB2.trans (hb.mono hB2.size))) l5 hkh)
  have HMG := Zd.mk (fun W (hb : Below W2.heap.size W2 W) => parryref22_MayGraph.calls km A0 c0 ls A1 c1 ss A2 c2 nxs (mayG ls ss nxs) W (Kd.C_below h0 (hB2.trans (hb.mono hB2.size))) l0 (Kd.C_below h1 (hB2.trans (hb.mono hB2.size))) l1 (Kd.C_below h2 (hB2.trans (hb.mono hB2.size))) l2 hkm)
  have HMF := Zd.mk (fun W (hb : Below W2.heap.size W2 W) => May_calls s A5 c5 W (Kd.C_below h5 (hB2.trans (hb.mono hB2.size))) l5)
  have HBK := Zd.mk hbk
  have HBF := Zd.mk hbf
  have HB2 := Zd.mk hB2
  have H0 := Zd.mk h0
  have H1 := Zd.mk h1
  have H2 := Zd.mk h2
  have H5 := Zd.mk h5
  have H6 := Zd.mk h6
  have HN3 := Zd.mk hn3
  have HGOK := Zd.mk (@mayG_ok ls ss nxs)
  obtain ⟨mg, hmg⟩ : ∃ m, m = mayG ls ss nxs := ⟨_, rfl⟩
  obtain ⟨mf, hmf⟩ : ∃ m, m = mayF s := ⟨_, rfl⟩
  rw [← hmg] at HMG
  rw [← hmf] at HMF
  have HMG0 := Zd.mk hmg
  have HMF0 := Zd.mk hmf
  clear h0 h1 h2 h5 h6 hbk hbf hB2 hkh hkm hn hn3 hmg hmf b3
  by_cases g1 : 0 < n
  · have t1 : decide (0 < n) = true := decide_eq_true g1
    go_enter Try.func3, Try.ntmps3
    go_upto_region 1 with fail
    rw [← hW2, ← hgk, ← hgf]
    clear hW2 hgk hgf
    go_wp2_with (first | (go_at_call 7; refine (HHV.out _ (Below.refl _ _)).mono ?_; rintro e w3 ⟨rfl, hB⟩; have HB3 := Zd.mk hB; have k0_3 := pb_ hB k0; have k1_3 := pb_ hB k1; have k2_3 := pb_ hB k2; have f0_3 := pb_ hB f0; have f1_3 := pb_ hB f1; have f2_3 := pb_ hB f2; clear hB) | (go_at_call 10; refine (awake_calls _).mono ?_; rintro e w19 ⟨rfl, hB⟩; have HB19 := Zd.mk (HB3.out.trans (hB.mono HB3.out.size)); clear hB))
    go_ret
    exact ⟨rfl, HB2.out.trans (HB19.out.mono HB2.out.size)⟩
  · have t1 : decide (0 < n) = false := decide_eq_false g1
    by_cases g2 : mg = 0
    · have t2 : (mg != 0) = false := by rw [g2]; rfl
      by_cases g3 : mf = 0
      · have t3 : (mf != 0) = false := by rw [g3]; rfl
        by_cases g4 : 60 < wk.length
        · have t4 : decide (60 < (wk.length : Int)) = true := decide_eq_true (by omega)
          have t4' : decide (60 < wk.length) = true := decide_eq_true g4
          clear g3 g2
          go_enter Try.func3, Try.ntmps3
          go_upto_region 1 with fail
          rw [← hW2, ← hgk, ← hgf]
          clear hW2 hgk hgf
          go_wp2_with (first | (go_at_call 7; refine (HHV.out _ (Below.refl _ _)).mono ?_; rintro e w3 ⟨rfl, hB⟩; have HB3 := Zd.mk hB; have k0_3 := pb_ hB k0; have k1_3 := pb_ hB k1; have k2_3 := pb_ hB k2; have f0_3 := pb_ hB f0; have f1_3 := pb_ hB f1; have f2_3 := pb_ hB f2; clear hB) | (go_at_call 8; refine (HMG.out _ HB3.out).mono ?_; rintro e w4 ⟨rfl, hB⟩; have HB4 := Zd.mk (HB3.out.trans (hB.mono HB3.out.size)); have k0_4 := pb_ hB k0_3; have f0_4 := pb_ hB f0_3; have f1_4 := pb_ hB f1_3; have f2_4 := pb_ hB f2_3; clear hB) | (go_at_call 9; refine (HMF.out _ HB4.out).mono ?_; rintro e w5 ⟨rfl, hB⟩; have HB5 := Zd.mk (HB4.out.trans (hB.mono HB4.out.size)); have k0_5 := pb_ hB k0_4; clear hB) | (go_at_call 10; refine (awake_calls _).mono ?_; rintro e w19 ⟨rfl, hB⟩; have HB19 := Zd.mk (HB5.out.trans (hB.mono HB5.out.size)); clear hB))
          go_ret
          exact ⟨rfl, HB2.out.trans (HB19.out.mono HB2.out.size)⟩
        · have t4 : decide (60 < (wk.length : Int)) = false := decide_eq_false (by omega)
          have t4' : decide (60 < wk.length) = false := decide_eq_false g4
          have hok := HGOK.out (HMG0.out.symm.trans g2)
          have hmG : mayG ls ss nxs = 0 := HMG0.out.symm.trans g2
          have hmF : mayF s = 0 := HMF0.out.symm.trans g3
          have hsz := HN3.out hok (by omega) hmF
          have hes : newErr ls ss nxs s = 0 := by
            unfold newErr
            rw [if_pos hmG, if_pos hmF, if_neg (by omega)]
          have hls : ls.length ≤ 200 := hok.n
          have hwl : wk.length ≤ 60 := by omega
          obtain ⟨q, hq⟩ : ∃ q, findG ls ss nxs s true = q := ⟨_, rfl⟩
          obtain ⟨sa, hsa⟩ : ∃ l, (findV ls ss nxs s q).1 = l := ⟨_, rfl⟩
          obtain ⟨sc, hsc⟩ : ∃ l, (findV ls ss nxs s q).2.1 = l := ⟨_, rfl⟩
          obtain ⟨bok, hbok⟩ : ∃ b, q.isSome = b := ⟨_, rfl⟩
          obtain ⟨ball, hball⟩ : ∃ b, (findG ls ss nxs s false).isNone = b := ⟨_, rfl⟩
          obtain ⟨na, hna⟩ : ∃ n, sa.length = n := ⟨_, rfl⟩
          obtain ⟨nc, hnc⟩ : ∃ n, sc.length = n := ⟨_, rfl⟩
          have HTOLD := Zd.mk (show bok = true → wordB ls ss nxs sa sc = true ∧ sa.length ≤ 200 ∧ 1 ≤ sc.length ∧ sc.length ≤ 2000 ∧ L.lassoW (lettersG ls sa ++ lettersG ls sc) (lettersG ls sa).length s 0 = true from fun hb => by
            cases q with
            | none => rw [← hbok] at hb; cases hb
            | some p =>
              obtain ⟨a, c⟩ := p
              rw [← hsa, ← hsc]
              exact L.found_told hmG hmF hsz hq)
          have HOKF := Zd.mk (show bok = false → findG ls ss nxs s true = none from fun hb => by
            cases q with
            | none => exact hq
            | some p => rw [← hbok] at hb; cases hb)
          have HALT := Zd.mk (show ball = true → findG ls ss nxs s false = none from fun hb => Option.isNone_iff_eq_none.1 (hball.trans hb))
          have HNONE := Zd.mk (show ss.length = 0 → bok = false ∧ ball = true from fun h => by
            have h1 := L.none_start (f := s) hok hmF (List.length_eq_zero_iff.1 h) true
            have h2 := L.none_start (f := s) hok hmF (List.length_eq_zero_iff.1 h) false
            rw [hq] at h1
            rw [h1] at hbok
            rw [h2] at hball
            exact ⟨hbok.symm, hball.symm⟩)
          have HF1 := Zd.mk (fun W (hb : Below w.heap.size w W) => Find_full hes hq hsa hsc hbok hna hnc A0 A1 A2 A5 c0 c1 c2 c5 W (Kd.C_below H0.out hb) l0 (Kd.C_below H1.out hb) l1 (Kd.C_below H2.out hb) l2 (Kd.C_below H5.out hb) l5)
          have HA1 := Zd.mk (fun W (hb : Below w.heap.size w W) => All_full hes hball A0 A1 A2 A5 c0 c1 c2 c5 W (Kd.C_below H0.out hb) l0 (Kd.C_below H1.out hb) l1 (Kd.C_below H2.out hb) l2 (Kd.C_below H5.out hb) l5)
          have HNA := Zd.mk hna
          have HNC := Zd.mk hnc
          have HOK := Zd.mk hok
          have HMF1 := Zd.mk hmF
          have HMG1 := Zd.mk hmG
          have QK := Zd.mk (And.intro k0 (And.intro k1 k2))
          have QF := Zd.mk (And.intro f0 (And.intro f1 f2))
          clear hok hmG hmF hsz hes hq hsa hsc hbok hball hna hnc HN3 HGOK HMG0 HMF0 g2 g3 q
          go_enter Try.func3, Try.ntmps3
          go_upto_region 1 with fail
          rw [← hW2, ← hgk, ← hgf]
          clear hW2 hgk hgf
          go_upto_region 3 with (first | (go_at_call 7; refine (HHV.out _ (Below.refl _ _)).mono ?_; rintro e w3 ⟨rfl, hB⟩; have HB3 := Zd.mk hB; have k0_3 := pb_ hB k0; have k1_3 := pb_ hB k1; have k2_3 := pb_ hB k2; have f0_3 := pb_ hB f0; have f1_3 := pb_ hB f1; have f2_3 := pb_ hB f2; clear hB) | (go_at_call 8; refine (HMG.out _ HB3.out).mono ?_; rintro e w4 ⟨rfl, hB⟩; have HB4 := Zd.mk (HB3.out.trans (hB.mono HB3.out.size)); have k0_4 := pb_ hB k0_3; have f0_4 := pb_ hB f0_3; have f1_4 := pb_ hB f1_3; have f2_4 := pb_ hB f2_3; clear hB) | (go_at_call 9; refine (HMF.out _ HB4.out).mono ?_; rintro e w5 ⟨rfl, hB⟩; have HB5 := Zd.mk (HB4.out.trans (hB.mono HB4.out.size)); have k0_5 := pb_ hB k0_4; clear hB))
          clear k0_3 k1_3 k2_3 f0_3 f1_3 f2_3 k0_4 f0_4 f1_4 f2_4 k0_5 k0 k1 k2 f0 f1 f2 HHV HMG HMF HB3 HB4
          have k0_5 := pb_ HB5.out QK.out.1
          have k1_5 := pb_ HB5.out QK.out.2.1
          have k2_5 := pb_ HB5.out QK.out.2.2
          have f0_5 := pb_ HB5.out QF.out.1
          have f1_5 := pb_ HB5.out QF.out.2.1
          have f2_5 := pb_ HB5.out QF.out.2.2
          have HBw5 := Zd.mk (HB2.out.trans (HB5.out.mono HB2.out.size))
          go_upto_region 4 with (go_at_call 11; refine (HF1.out _ HBw5.out).mono ?_; rintro e w6 ⟨P1, p1, P2, p2, rfl, hp1, hp2, hC1, hC2, hB⟩; have HC1 := Zd.mk hC1; have HC2 := Zd.mk hC2; have HB6 := Zd.mk (HB5.out.trans (hB.mono HB5.out.size)); have k0_6 := pb_ hB k0_5; have k1_6 := pb_ hB k1_5; have k2_6 := pb_ hB k2_5; have f0_6 := pb_ hB f0_5; have f1_6 := pb_ hB f1_5; have f2_6 := pb_ hB f2_5; clear hC1 hC2 hB)
          have HBw6 := Zd.mk (HB2.out.trans (HB6.out.mono HB2.out.size))
          clear k0_5 k1_5 k2_5 f0_5 f1_5 f2_5
          go_upto_if 78 with (go_at_call 12; refine (HA1.out _ HBw6.out).mono ?_; rintro e w7 ⟨rfl, hB⟩; have HB67 := Zd.mk hB; have HB7 := Zd.mk (HB6.out.trans (hB.mono HB6.out.size)); have k0_7 := pb_ hB k0_6; have k1_7 := pb_ hB k1_6; have k2_7 := pb_ hB k2_6; have f0_7 := pb_ hB f0_6; have f1_7 := pb_ hB f1_6; have f2_7 := pb_ hB f2_6; clear hB)
          clear k0_6 k1_6 k2_6 f0_6 f1_6 f2_6
          have HBw7 := Zd.mk (HB2.out.trans (HB7.out.mono HB2.out.size))
          go_cut [] (fun wx => Zd (Below W2.heap.size W2 wx))
          case first =>
            cases bok
            · go_wp2
              go_meet
              exact HB7
            · obtain ⟨ht1, ht2, ht3, ht4, ht5⟩ := HTOLD.out rfl
              have HW1 := Zd.mk (Word_sl ht1 HNA.out HNC.out (by have := HNA.out; have := HNC.out; omega) A0 A1 A2 P1 P2 c0 c1 c2 p1 p2 w7 (Kd.C_below H0.out HBw7.out) l0 (Kd.C_below H1.out HBw7.out) l1 (Kd.C_below H2.out HBw7.out) l2 (Kd.C_below HC1.out HB67.out) hp1 (Kd.C_below HC2.out HB67.out) hp2)
              go_upto_region 9 with (go_at_call 13; refine HW1.out.mono ?_; rintro e w8 ⟨Q1, q1, Q2, q2, rfl, hR1, hR2, hB⟩; have HR1 := Zd.mk hR1; have HR2 := Zd.mk hR2; have HB8 := Zd.mk (HB7.out.trans (hB.mono HB7.out.size)); clear hR1 hR2 hB)
              obtain ⟨W9, hW9⟩ : ∃ W : World, W = w8.alloc (.cells #[.slice Q1 na q1, .slice Q2 nc q2] 40) := ⟨_, rfl⟩
              have hB9 : Below w8.heap.size w8 W9 := by rw [hW9]; exact below_alloc (Below.refl _ _) _
              have hb9 : W9.heap[w8.heap.size]? = some (.cells #[.slice Q1 na q1, .slice Q2 nc q2] 40 (0, 0)) := by rw [hW9]; exact heap_alloc_new w8 _
              obtain ⟨g9, hg9⟩ : ∃ k, k = w8.heap.size := ⟨_, rfl⟩
              rw [← hW9, ← hg9]
              rw [← hg9] at hb9
              have HB9 := Zd.mk (HB8.out.trans (hB9.mono HB8.out.size))
              have z0 : W9.cell? ⟨g9, 0, none⟩ = some (.slice Q1 na q1) := (bq_ hb9 0).trans rfl
              have z1 : W9.cell? ⟨g9, 1, none⟩ = some (.slice Q2 nc q2) := (bq_ hb9 1).trans rfl
              have f0_9 := pb_ HB9.out QF.out.1
              have f1_9 := pb_ HB9.out QF.out.2.1
              have f2_9 := pb_ HB9.out QF.out.2.2
              have HHO := Zd.mk (Holds_sl HMF1.out (Kd.R_below HR1.out hB9) (Kd.R_below HR2.out hB9) (by rw [len_letters]; omega) (by rw [len_letters]; omega) (by rw [len_letters]; omega) ht5 A5 c5 (Kd.C_below H5.out (HB2.out.trans (HB9.out.mono HB2.out.size))) l5)
              clear hW9 hB9 hb9 hg9 ht1 ht2 ht3 ht4 ht5 k0_7 k1_7 k2_7 f0_7 f1_7 f2_7
              go_wp2_with (go_at_call 14; refine HHO.out.mono ?_; rintro e w10 ⟨rfl, hB⟩; have HB10 := Zd.mk (HB9.out.trans (hB.mono HB9.out.size)); clear hB)
              go_meet
              exact HB10
          case rest =>
            obtain ⟨W3, rfl⟩ : ∃ W : World, W = wc := ⟨_, rfl⟩
            have HB3 := hcut
            clear hcut k0_7 k1_7 k2_7 f0_7 f1_7 f2_7 HF1 HA1 HTOLD HNA HNC HC1 HC2 HB5 HB6 HB67 HB7 HBw5 HBw6 HBw7
            have HBw3 := Zd.mk (HB2.out.trans (HB3.out.mono HB2.out.size))
            have k1_3 := pb_ HB3.out QK.out.2.1
            by_cases hs0 : ss.length = 0
            · obtain ⟨rfl, rfl⟩ := HNONE.out hs0
              have u1 : decide (0 < (ss.length : Int)) = false := decide_eq_false (by omega)
              have u3 : decide (0 < ss.length) = false := decide_eq_false (by omega)
              have u2 : ((ss.length : Int) == 0) = true := by rw [hs0]; rfl
              clear hs0
              go_wp2_with (go_at_call 10; refine (awake_calls _).mono ?_; rintro e w19 ⟨rfl, hB⟩; have HB19 := Zd.mk (HB3.out.trans (hB.mono HB3.out.size)); clear hB)
              go_ret
              exact ⟨rfl, HB2.out.trans (HB19.out.mono HB2.out.size)⟩
            · have u1 : decide (0 < (ss.length : Int)) = true := decide_eq_true (by omega)
              have u3 : decide (0 < ss.length) = true := decide_eq_true (by omega)
              have u2 : ((ss.length : Int) == 0) = false := beq_eq_false_iff_ne.2 (by omega)
              by_cases hw0 : wk.length = 0
              · have u4 : ((wk.length : Int) == 0) = true := by rw [hw0]; rfl
                have hse : ¬ ss = [] := fun e => hs0 (by rw [e]; rfl)
                clear hw0 hwl t4 t4' g4 hs0
                go_wp2_with (go_at_call 10; refine (awake_calls _).mono ?_; rintro e w19 ⟨rfl, hB⟩; have HB19 := Zd.mk (HB3.out.trans (hB.mono HB3.out.size)); clear hB)
                go_ret
                exact ⟨rfl, HB2.out.trans (HB19.out.mono HB2.out.size)⟩
              · have u4 : ((wk.length : Int) == 0) = false := beq_eq_false_iff_ne.2 (by omega)
                have hs1 : 1 ≤ (ss.length : Int) := by omega
                have hss : ss.length ≤ 200 := HOK.out.sl
                obtain ⟨ad6, e6, z60⟩ := int_at H6.out (show 0 < wk.length by omega)
                subst e6
                obtain ⟨x0, hx0⟩ : ∃ x, x = wk.getD 0 0 := ⟨_, rfl⟩
                rw [← hx0] at z60
                have hws : IntKind.u64.wrap (ss.length : Int) = (ss.length : Int) := u64_id (by omega) (by omega)
                have hpr := pick_range x0 hs1
                have hpe := pick_eq x0 hs1 (by omega)
                rw [hws] at hpe
                obtain ⟨p0, hp0⟩ : ∃ v : Nat, pick x0 (ss.length : Int) = (v : Int) := ⟨(pick x0 (ss.length : Int)).toNat, by omega⟩
                rw [hp0] at hpe hpr
                have hps : p0 < ss.length := by omega
                have hps2 : (p0 : Int) < (ss.length : Int) := by omega
                obtain ⟨ad1, e1, z10⟩ := int_at H1.out hps
                subst e1
                have hmem : ss.getD p0 0 ∈ ss := by rw [List.getD_eq_getElem?_getD, List.getElem?_eq_getElem hps]; exact List.getElem_mem hps
                have hst := HOK.out.st _ hmem
                obtain ⟨v0, hv0⟩ : ∃ v : Nat, ss.getD p0 0 = (v : Int) := ⟨(ss.getD p0 0).toNat, by omega⟩
                rw [hv0] at z10
                have HV0 := Zd.mk (show v0 < ls.length by omega)
                have HP0 : Zd (L.PathN ls ss nxs ([] ++ [v0])) := ⟨fun x hx => by rw [List.mem_singleton.1 hx]; exact HV0.out, List.mem_map.2 ⟨_, hmem, by rw [hv0]; rfl⟩, fun i hi => by simp at hi⟩
                have z6 : W3.cell? ad6 = some (.int .i64 x0) := pb_ HBw3.out z60
                have hwk1 : 0 < (wk.length : Int) := by omega
                have hwk2 : 0 < wk.length := by omega
                have z1 := pb_ HBw3.out z10
                have hpe2 : IntKind.i64.wrap (Int.tmod (IntKind.u64.wrap x0) (ss.length : Int)) = (p0 : Int) := (i64_w _).trans hpe
                have hse : ¬ ss = [] := fun e => hs0 (by rw [e]; rfl)
                clear hs0 hw0 hx0 hpr hp0 hmem hst hv0 z60 z10 t4 t4' g4 HNONE
                go_upto_region 13 with fail
                clear u1 u2 u3 u4 hse
                go_cut [15] (fun v15 wx => v15 = .int .i64 (v0 : Int) ∧ Zd (Below W3.heap.size W3 wx))
                case first =>
                  go_wp2
                  go_quiet (fail)
                  go_wp2
                  go_meet
                  exact ⟨rfl, ⟨pd_ (Below.refl _ _) _⟩⟩
                case rest =>
                  obtain ⟨rfl, HBc⟩ := hcut
                  obtain ⟨W4, rfl⟩ : ∃ W : World, W = wc := ⟨_, rfl⟩
                  clear hpe hpe2 hws z1 z6 k1_3 hps2 hs1
                  have HB4 := Zd.mk (HB3.out.trans (HBc.out.mono HB3.out.size))
                  have HBw4 := Zd.mk (HB2.out.trans (HB4.out.mono HB2.out.size))
                  have k0_4 := pb_ HB4.out QK.out.1
                  have hmm := @run_makeMap Try.prog
                  obtain ⟨t1n, ht1n⟩ : ∃ t, t = wk.length + ls.length := ⟨_, rfl⟩
                  obtain ⟨T, hT⟩ : ∃ t, t = t1n + 1 := ⟨_, rfl⟩
                  have hTl : T ≤ 300 := by omega
                  have hw1 : IntKind.i64.wrap ((wk.length : Int) + (ls.length : Int)) = (t1n : Int) := by rw [ht1n]; exact (i64_w _).trans ((w64 (by omega) (by omega)).trans (by omega))
                  have hw2 : IntKind.i64.wrap ((t1n : Int) + 1) = (T : Int) := by rw [hT]; exact (i64_w _).trans ((w64 (by omega) (by omega)).trans (by omega))
                  go_upto_region 16 with fail
                  obtain ⟨Wm, hW5⟩ : ∃ W : World, W = W4.alloc (.map #[] 0) := ⟨_, rfl⟩
                  obtain ⟨gm, hgm⟩ : ∃ k, k = W4.heap.size := ⟨_, rfl⟩
                  rw [← hW5, ← hgm]
                  have hB5 : Below W4.heap.size W4 Wm := by rw [hW5]; exact below_alloc (Below.refl _ _) _
                  have HM5 := Zd.mk (show MapI Wm gm 0 (fun _ => 0) by rw [hW5, hgm]; exact MapI.made W4)
                  have HGM := Zd.mk hgm
                  have HB45 := Zd.mk hB5
                  have k0_5 := pb_ hB5 k0_4
                  clear hW5 hgm hB5 k0_4 hmm
                  go_upto_block 0 with fail
                  go_cut [15, 17] (fun v15 v17 wx => ∃ (v : Nat) (wy : List Nat) (fs : Int → Int) (Aw : Option Addr) (nw cw : Nat), v15 = .int .i64 (v : Int) ∧ v17 = .slice Aw nw cw ∧ Zd (nw = wy.length) ∧ Zd (wy.length ≤ T) ∧ Zd (Kd.R (Kd.int .i64) 3 wx W4.heap.size (fun k => k ≠ gm) (.slice Aw nw cw) (castL wy)) ∧ Zd (∃ m, m ≤ 1000 ∧ MapI wx gm m fs) ∧ Zd (L.PathN ls ss nxs (wy ++ [v])) ∧ Zd (L.SeenOk wy fs) ∧ Zd (Below W4.heap.size W4 wx))
                  case first =>
                    go_wp2
                    go_loopg [15, 17, 139] T (fun kq v15 v17 v139 w' => ∃ (i v : Nat) (wy : List Nat) (fs : Int → Int) (Aw : Option Addr) (cw : Nat), i + kq = T ∧ v139 = .int .i64 (i : Int) ∧ v15 = .int .i64 (v : Int) ∧ v17 = .slice Aw i cw ∧ Zd (i = wy.length) ∧ Zd (Kd.R (Kd.int .i64) 3 w' W4.heap.size (fun k => k ≠ gm) (.slice Aw i cw) (castL wy)) ∧ Zd (MapI w' gm i fs) ∧ Zd (L.PathN ls ss nxs (wy ++ [v])) ∧ Zd (L.SeenOk wy fs) ∧ Zd (Below W4.heap.size W4 w'))
                    case atStart => exact ⟨0, v0, [], _, none, 0, by omega, rfl, rfl, rfl, ⟨rfl⟩, ⟨Kd.R_nil _ _ _ _ _⟩, HM5, HP0, ⟨L.seen_nil⟩, HB45⟩
                    case round =>
                      obtain ⟨i, v, wy, fs, Aw, cw, hi, rfl, rfl, rfl, HIL, HR, HM, HP, HS, HBL⟩ := hrel
                      obtain ⟨WW, rfl⟩ : ∃ W : World, W = wr := ⟨_, rfl⟩
                      have HI := Zd.mk hi
                      clear hi
                      by_cases hiT : i < T
                      · have hiT2 : (i : Int) < (T : Int) := by omega
                        have hvl : v < ls.length := HP.out.1 v (List.mem_append_right _ (List.mem_singleton.2 rfl))
                        have hvw : (Lit.int .i64 (v : Int)).wf = true := wf_nat (by omega)
                        have hl_ := HM.out.look hvw
                        obtain ⟨bb, hbb⟩ : ∃ b, decide (wk.length ≤ i ∧ 0 < fs (v : Int)) = b := ⟨_, rfl⟩
                        go_upto_region 19 with fail
                        go_cut [151] (fun v151 wx => v151 = .bool bb ∧ wx = WW)
                        case first =>
                          by_cases hwi : wk.length ≤ i
                          · have d1 : decide ((wk.length : Int) ≤ (i : Int)) = true := decide_eq_true (by omega)
                            have d1' : decide (wk.length ≤ i) = true := decide_eq_true hwi
                            by_cases hf : 0 < fs (v : Int)
                            · have d2 : decide (0 < fs (v : Int)) = true := decide_eq_true hf
                              have e : bb = true := by rw [← hbb]; exact decide_eq_true ⟨hwi, hf⟩
                              subst e
                              clear hbb
                              go_wp2
                              go_meet
                              exact ⟨rfl, rfl⟩
                            · have d2 : decide (0 < fs (v : Int)) = false := decide_eq_false hf
                              have e : bb = false := by rw [← hbb]; exact decide_eq_false (fun h => hf h.2)
                              subst e
                              clear hbb
                              go_wp2
                              go_meet
                              exact ⟨rfl, rfl⟩
                          · have d1 : decide ((wk.length : Int) ≤ (i : Int)) = false := decide_eq_false (by omega)
                            have d1' : decide (wk.length ≤ i) = false := decide_eq_false hwi
                            have e : bb = false := by rw [← hbb]; exact decide_eq_false (fun h => hwi h.1)
                            subst e
                            clear hbb
                            go_wp2
                            go_meet
                            exact ⟨rfl, rfl⟩
                        case rest =>
                          obtain ⟨rfl, hwc⟩ := hcut
                          rw [hwc]
                          clear hwc wc hl_
                          cases bb
                          · go_upto_if 155 with fail
                            go_cut [] (fun wx => ∃ fs2 : Int → Int, Zd (Kd.R (Kd.int .i64) 3 wx W4.heap.size (fun k => k ≠ gm) (.slice Aw i cw) (castL wy)) ∧ Zd (MapI wx gm (i + 1) fs2) ∧ Zd (L.SeenOk (wy ++ [v]) fs2) ∧ Zd (Below W4.heap.size W4 wx))
                            case first =>
                              by_cases hwi : wk.length ≤ i
                              · have d1 : decide ((wk.length : Int) ≤ (i : Int)) = true := decide_eq_true (by omega)
                                have d1' : decide (wk.length ≤ i) = true := decide_eq_true hwi
                                go_wp2_with (first
                                  | (at_mapUpdate; refine wp_put rfl _ _ _ rfl gm i fs rfl HM.out (by omega) _ _ rfl rfl hvw (wf_succ (by omega)) ?_; intro w21 hM hg; have HM21 := Zd.mk hM; have HG21 := Zd.mk hg; clear hM hg)
                                  | go_in)
                                go_meet
                                refine ⟨_, ⟨Kd.R_grown HR.out HG21.out (fun k hk e => by injection e with e; exact hk e)⟩, HM21, ⟨?_⟩, ⟨HBL.out.grown HG21.out HBL.out.size (fun k e => by injection e with e; rw [← e, HGM.out]; exact Nat.le_refl _)⟩⟩
                                have h_ := L.seen_add HS.out v
                                rw [← HIL.out] at h_
                                exact h_
                              · have d1 : decide ((wk.length : Int) ≤ (i : Int)) = false := decide_eq_false (by omega)
                                have d1' : decide (wk.length ≤ i) = false := decide_eq_false hwi
                                go_wp2
                                go_meet
                                exact ⟨fs, HR, ⟨HM.out.more (Nat.le_succ _)⟩, ⟨L.seen_keep HS.out v⟩, HBL⟩
                            case rest =>
                              obtain ⟨fs2, HR2, HM2, HS2, HBL2⟩ := hcut
                              obtain ⟨W6, rfl⟩ : ∃ W : World, W = wc := ⟨_, rfl⟩
                              clear HR HM HS HBL
                              have hil3 : i ≤ 300 := by omega
                              have HCL := Zd.mk (show (castL wy).length = i by rw [L.castL_len, ← HIL.out])
                              have HGX := Zd.mk (show gm < W6.heap.size from HM2.out.lt)
                              go_upto_region 23 with ((with_reducible refine gate_builtin (b := .append) (xs := #[.tmp 161, .tmp 163]) rfl ?_); at_builtin; refine Kd.R_append (Kd.int .i64) (w0 := W4) W4.heap.size rfl (.tmp 161) (.tmp 163) 23 3 (.int .i64 0) 8 rfl hui infoI rfl (by decide) (by omega) (.slice Aw i cw) (castL wy) (v : Int) [.int .i64 (v : Int)] (fun k => k ≠ gm) (fun _ => False) rfl ?aX ?aP (fun _ hk => hk.elim) ?aF ?aO ?aB ?aS ?aL ?_; (case aX => first | rfl | (simp; done) | (go_simp; done)); (case aP => exact rfl); (case aF => exact (fun k hk e => Nat.lt_irrefl _ (Nat.lt_of_lt_of_le HGX.out (e ▸ hk)))); (case aO => exact HR2.out); (case aB => exact HBL2.out); (case aS => exact HBL2.out.size); (case aL => rw [HCL.out]; omega); intro v9_ w9 ho hb hg hat; obtain ⟨A9, c9, e9⟩ : ∃ A c, v9_ = .slice A (castL wy ++ [(v : Int)]).length c := Kd.R_slice ho; rw [show (castL wy ++ [(v : Int)]).length = i + 1 by rw [List.length_append, HCL.out]; rfl] at e9; subst e9; have HR9 := Zd.mk ho; have HB9 := Zd.mk hb; have HM9 := Zd.mk (HM2.out.grown hg (fun e => HR2.out.1 _ e.symm rfl)); clear ho hb hg hat)
                              go_upto_if 169 with fail
                              go_cut [19] (fun v19 wx => ∃ pk : Int, v19 = .int .i64 pk ∧ wx = w9)
                              case first =>
                                by_cases hn : i + 1 < wk.length
                                · have d3 : decide ((i : Int) + 1 < (wk.length : Int)) = true := decide_eq_true (by omega)
                                  have d3' : decide (i + 1 < wk.length) = true := decide_eq_true hn
                                  have hn2 : (i : Int) + 1 < (wk.length : Int) := by omega
                                  obtain ⟨ad6', e6, zw⟩ := int_at H6.out hn
                                  injection e6 with e6
                                  subst e6
                                  have zw9 := pb_ (HBw4.out.trans (HB9.out.mono HBw4.out.size)) zw
                                  have zw9' : w9.cell? ⟨ad6.block, ad6.off + (i + 1), none⟩ = some (.int .i64 (wk.getD (i + 1) 0)) := zw9
                                  clear zw
                                  go_wp2
                                  go_meet
                                  exact ⟨_, rfl, rfl⟩
                                · have d3 : decide ((i : Int) + 1 < (wk.length : Int)) = false := decide_eq_false (by omega)
                                  have d3' : decide (i + 1 < wk.length) = false := decide_eq_false hn
                                  go_wp2
                                  go_meet
                                  exact ⟨_, rfl, rfl⟩
                              case rest =>
                                obtain ⟨pk, rfl, hwc⟩ := hcut
                                rw [hwc]
                                clear hwc wc
                                have hvn : v < nxs.length := by rw [HOK.out.nn]; exact hvl
                                obtain ⟨adn, Ar, cr, eA, kr0, lr, hCr⟩ := row_at H2.out hvn
                                subst eA
                                have hmem : nxs.getD v [] ∈ nxs := by rw [List.getD_eq_getElem?_getD, List.getElem?_eq_getElem hvn]; exact List.getElem_mem hvn
                                obtain ⟨row, hrow⟩ : ∃ r, r = nxs.getD v [] := ⟨_, rfl⟩
                                rw [← hrow] at hmem kr0 lr hCr
                                have hrok := HOK.out.nx row hmem
                                have hrl1 : 1 ≤ row.length := List.length_pos_iff.2 hrok.1
                                have hrl2 := hrok.2.1
                                have hr1 : 1 ≤ (row.length : Int) := by omega
                                have hwr : IntKind.u64.wrap (row.length : Int) = (row.length : Int) := u64_id (by omega) (by omega)
                                have hqr := pick_range pk hr1
                                have hqe := pick_eq pk hr1 (by omega)
                                rw [hwr] at hqe
                                obtain ⟨p, hp⟩ : ∃ v : Nat, pick pk (row.length : Int) = (v : Int) := ⟨(pick pk (row.length : Int)).toNat, by omega⟩
                                rw [hp] at hqe hqr
                                have hpl : p < row.length := by omega
                                have hpl2 : (p : Int) < (row.length : Int) := by omega
                                obtain ⟨adr, er, zr⟩ := int_at hCr hpl
                                subst er
                                have hymem : row.getD p 0 ∈ row := by rw [List.getD_eq_getElem?_getD, List.getElem?_eq_getElem hpl]; exact List.getElem_mem hpl
                                have hyr := hrok.2.2 _ hymem
                                obtain ⟨yn, hyn⟩ : ∃ v : Nat, row.getD p 0 = (v : Int) := ⟨(row.getD p 0).toNat, by omega⟩
                                rw [hyn] at zr hyr
                                have HYL := Zd.mk (show yn < ls.length by omega)
                                have HYM := Zd.mk (show yn ∈ L.nxN nxs v from List.mem_map.2 ⟨_, by rw [← hrow]; exact hymem, by rw [hyn]; rfl⟩)
                                have hqe2 : IntKind.i64.wrap (Int.tmod (IntKind.u64.wrap pk) (row.length : Int)) = (p : Int) := (i64_w _).trans hqe
                                have hBw9 := HBw4.out.trans (HB9.out.mono HBw4.out.size)
                                have kr9 := pb_ hBw9 kr0
                                have zr9 := pb_ hBw9 zr
                                have k2_9 := pb_ (HB4.out.trans (HB9.out.mono HB4.out.size)) QK.out.2.2
                                have hvn2 : (v : Int) < (nxs.length : Int) := by omega
                                clear hBw9 kr0 zr hmem hrow hrok hqr hp hymem hyr hyn hCr
                                go_upto_region 26 with fail
                                go_quiet (fail)
                                obtain ⟨wx, hwx⟩ : ∃ W : World, W = w9.drewN nq := ⟨_, rfl⟩
                                have HBd := Zd.mk (show Below w9.heap.size w9 wx by rw [hwx]; exact pd_ (Below.refl _ _) _)
                                rw [← hwx]
                                clear hwx
                                clear hqe hqe2 hwr kr9 zr9 k2_9 hvn2 hpl2 hr1
                                go_wp2
                                go_roundg (gk - 1)
                                case measure => have := HI.out; omega
                                case rel =>
                                  refine ⟨i + 1, yn, wy ++ [v], fs2, A9, c9, by have := HI.out; omega, by first | rfl | (congr 1; go_num; done), rfl, rfl, ⟨by rw [List.length_append, ← HIL.out]; rfl⟩, ⟨?_⟩, ⟨HM9.out.below HBd.out⟩, ⟨L.path_step HP.out HYM.out HYL.out⟩, HS2, ⟨HB9.out.trans (HBd.out.mono HB9.out.size)⟩⟩
                                  have e : castL (wy ++ [v]) = castL wy ++ [(v : Int)] := List.map_append ..
                                  rw [e]
                                  exact Kd.R_below HR9.out HBd.out
                          · go_wp2
                            go_meet
                            exact ⟨v, wy, fs, Aw, i, cw, rfl, rfl, HIL, ⟨by have := HIL.out; omega⟩, HR, ⟨i, by omega, HM.out⟩, HP, HS, HBL⟩
                      · go_wp2
                        go_meet
                        exact ⟨v, wy, fs, Aw, i, cw, rfl, rfl, HIL, ⟨by have := HIL.out; have := HI.out; omega⟩, HR, ⟨i, by have := HI.out; omega, HM.out⟩, HP, HS, HBL⟩
                  case rest =>
                    obtain ⟨v, wy, fs, Aw, nw, cw, rfl, rfl, HNW, HLEN, HR, HMM, HP, HS, HBL⟩ := hcut
                    obtain ⟨W5, rfl⟩ : ∃ W : World, W = wc := ⟨_, rfl⟩
                    obtain ⟨m, _, hMI⟩ := HMM.out
                    have HB5 := Zd.mk (HB4.out.trans (HBL.out.mono HB4.out.size))
                    have HBw5 := Zd.mk (HB2.out.trans (HB5.out.mono HB2.out.size))
                    have hvl : v < ls.length := HP.out.1 v (List.mem_append_right _ (List.mem_singleton.2 rfl))
                    have hvw : (Lit.int .i64 (v : Int)).wf = true := wf_nat (by omega)
                    have hl_ := hMI.look hvw
                    clear HMM hMI k0_5 hw1 hw2 HM5 HP0 HV0 HB45
                    rcases HS.out v with h0 | ⟨j, hj, hfj, hgj⟩
                    · rw [h0] at hl_
                      clear h0
                      go_wp2_with (go_at_call 10; refine (awake_calls _).mono ?_; rintro e w19 ⟨rfl, hB⟩; have HB19 := Zd.mk (HB5.out.trans (hB.mono HB5.out.size)); clear hB)
                      go_ret
                      exact ⟨rfl, HB2.out.trans (HB19.out.mono HB2.out.size)⟩
                    · obtain ⟨a1, ha1⟩ : ∃ k, k = j + 1 := ⟨_, rfl⟩
                      have hcl : (castL wy).length = nw := by rw [L.castL_len, HNW.out]
                      have hnw := HNW.out
                      have hlen := HLEN.out
                      have hnr := (Kd.R_reads' HR.out)
                      rw [show fs (v : Int) = (a1 : Int) by rw [hfj, ha1]; rfl] at hl_
                      have ha0 : ¬ a1 = 0 := by omega
                      have d1 : decide ((a1 : Int) < 1) = false := decide_eq_false (by omega)
                      have d2 : decide ((nw : Int) < (a1 : Int)) = false := decide_eq_false (by omega)
                      have d3 : decide (nw < a1) = false := decide_eq_false (by omega)
                      have hwj : IntKind.i64.wrap ((a1 : Int) - 1) = (j : Int) := (i64_w _).trans ((w64 (by omega) (by omega)).trans (by omega))
                      obtain ⟨hW, hT⟩ := L.walk_told (f := s) HMG1.out HMF1.out HP.out hj hgj (by omega)
                      obtain ⟨iI, hiI, _, hszI, _⟩ := info_parts infoI
                      obtain ⟨hcutT, hAT, hCT⟩ := print_take_of (P := Try.prog) (Value.int .i64) 0 23 3 .i64 Try.underlying23 hiI hszI Aw cw (castL wy) (j : Int) (by omega) (by omega) (by have := hnr.2.1; omega)
                      obtain ⟨A9, hcutD, hAD, hCD⟩ := print_drop_of (P := Try.prog) (Value.int .i64) 0 23 3 .i64 Try.underlying23 hiI hszI Aw cw (castL wy) (j : Int) (by omega) (by omega) (by have := hnr.2.1; omega)
                      have hC3 := Kd.C_of_reads (h1 := fun _ => rfl) (hAT W5 (Kd.reads_of_C hnr.2.2))
                      have hC4 := Kd.C_of_reads (h1 := fun _ => rfl) (hAD W5 (Kd.reads_of_C hnr.2.2))
                      simp only [Int.toNat_natCast] at hcutT hcutD hC3 hC4 hCT hCD
                      obtain ⟨st, hst⟩ : ∃ l, l = (castL wy).take j := ⟨_, rfl⟩
                      obtain ⟨lp, hlp⟩ : ∃ l, l = (castL wy).drop j := ⟨_, rfl⟩
                      obtain ⟨sn, hsn⟩ : ∃ n, n = st.length := ⟨_, rfl⟩
                      obtain ⟨ln, hln⟩ : ∃ n, n = lp.length := ⟨_, rfl⟩
                      have hs1 : sn = j := by rw [hsn, hst, List.length_take]; omega
                      have hl1 : ln = nw - j := by rw [hln, hlp, List.length_drop]; omega
                      rw [← hst, ← hlp] at hW hT
                      rw [← hst, ← hsn, hcl] at hcutT
                      rw [← hlp, ← hln, hcl] at hcutD
                      rw [← hst] at hC3 hCT
                      rw [← hlp] at hC4 hCD
                      have HWD := Zd.mk (fun W (hb : Below W5.heap.size W5 W) => Word_sl hW hsn.symm hln.symm (by omega) A0 (some ad1) A2 Aw A9 c0 c1 c2 cw (cw - j) W (Kd.C_below H0.out (HBw5.out.trans (hb.mono HBw5.out.size))) l0 (Kd.C_below H1.out (HBw5.out.trans (hb.mono HBw5.out.size))) l1 (Kd.C_below H2.out (HBw5.out.trans (hb.mono HBw5.out.size))) l2 (Kd.C_below hC3 hb) (by omega) (Kd.C_below hC4 hb) (by omega))
                      obtain ⟨stl, hstl⟩ : ∃ l, l = lettersG ls st := ⟨_, rfl⟩
                      obtain ⟨lpl, hlpl⟩ : ∃ l, l = lettersG ls lp := ⟨_, rfl⟩
                      have hll1 : stl.length = sn := by rw [hstl, len_letters, hsn]
                      have hll2 : lpl.length = ln := by rw [hlpl, len_letters, hln]
                      rw [← hstl, ← hlpl] at HWD hT
                      obtain ⟨bh, hbh⟩ : ∃ b, L.lassoW (stl ++ lpl) stl.length s 0 = b := ⟨_, rfl⟩
                      rw [hbh] at hT
                      have HT1 := Zd.mk (fun h => hT true (HOKF.out h))
                      have HT2 := Zd.mk (fun h => hT false (HALT.out h))
                      have HBH := Zd.mk hbh
                      have HLL := Zd.mk (And.intro (show stl.length ≤ 3000 by omega) (And.intro (show 1 ≤ lpl.length by omega) (show lpl.length ≤ 27000 by omega)))
                      generalize cw - j = c9 at *
                      generalize some ad1 = A1 at *
                      have zk0 := pb_ HB5.out QK.out.1
                      have zk1 := pb_ HB5.out QK.out.2.1
                      have zk2 := pb_ HB5.out QK.out.2.2
                      clear hfj hgj hnr hW hT hAT hAD hCT hCD hC3 hC4 hiI hszI hst hlp hsn hln hs1 hl1 hstl hlpl hll1 hll2 hbh hnw hcl hlen ha1 HS HP HR HOKF HALT
                      go_upto_region 31 with fail
                      have BW := Zd.mk (below_drew1 (Below.refl W5.heap.size W5))
                      refine start_ (n := 16) (S := fun w' => True) (ds := []) Mk65_ (by kernel_rfl) rfl rfl trivial (fun hHeld => ?_)
                      refine with_tabW srl.tab31 srl.bits31 (fun HT_ HW_ => ?_)
                      refine inv_at [0, 1, 2, 3, 4, 5, 6, 7, 8, 9, 10, 11, 12, 13, 14, 15] (fun a0_ b a w' => ∃ (A4 : Option Addr) (c4 : Nat) (A8 : Option Addr) (c8 : Nat) (g13 : Nat) (m9_ : Value) (m10_ : Value) (m11_ : Value) (m13_ : Value), a = putSel a0_ b [(0, 207, .agg #[.slice A0 ls.length c0, .slice A1 ss.length c1, .slice A2 nxs.length c2]), (1, 208, .slice Aw nw cw), (2, 209, .int .i64 (a1 : Int)), (3, 210, .int .i64 (j : Int)), (4, 211, .slice Aw sn cw), (5, 212, .slice Aw nw cw), (6, 213, .int .i64 (a1 : Int)), (7, 214, .int .i64 (j : Int)), (8, 215, .slice A9 ln c9), (9, 216, m9_), (10, 206, m10_), (11, 217, m11_), (12, 218, .bool true), (13, 21, m13_), (15, 22, .bool true)] ∧ (Below W5.heap.size W5 w') ∧ (b 9 = true → Kd.R (Kd.int .u32) 48 w' W5.heap.size (fun _ => True) (.slice A4 sn c4) stl) ∧ (b 9 = true → Kd.R (Kd.int .u32) 48 w' W5.heap.size (fun _ => True) (.slice A8 ln c8) lpl) ∧ (b 13 = true → b 14 = false → Lay W5 w' g13 #[.slice none 0 0, .slice none 0 0] 40) ∧ (b 14 = true → Lay W5 w' g13 #[.slice A4 sn c4, .slice A8 ln c8] 40) ∧ (b 9 = true → (m9_ : Value) = .tuple #[.agg #[.slice A4 sn c4, .slice A8 ln c8], .bool true]) ∧ (b 10 = true → (m10_ : Value) = .tuple #[.agg #[.slice A4 sn c4, .slice A8 ln c8], .bool true]) ∧ (b 11 = true → (m11_ : Value) = .agg #[.slice A4 sn c4, .slice A8 ln c8]) ∧ (b 13 = true → (m13_ : Value) = .pointer (some ⟨g13, 0, none⟩))) HT_.out HW_.out (by kernel_rfl) (by kernel_rfl) ?_ ?_ ?_
                      · exact ⟨none, 0, none, 0, 0, .bool false, .bool false, .bool false, .bool false, by simp only [putSel, Bool.false_eq_true, if_false], BW.out, fun h_ => absurd h_ (by decide), fun h_ => absurd h_ (by decide), fun h_ => absurd h_ (by decide), fun h_ => absurd h_ (by decide), fun h_ => absurd h_ (by decide), fun h_ => absurd h_ (by decide), fun h_ => absurd h_ (by decide), fun h_ => absurd h_ (by decide)⟩
                      · skip
                        clear BW
                        refine steps_cons ?_ ?_
                        · rintro b a w' ⟨A4, c4, A8, c8, g13, m9_, m10_, m11_, m13_, ha, Q_BW, Q_RA, Q_RB, Q_P13, Q_S14, Q_X9_, Q_X10_, Q_X11_, Q_X13_⟩ hb_ hon hoff
                          refine ⟨_, rfl, fun K hK => ?_⟩
                          have e3 : a.tmps[3]? = some (.pointer (some ⟨gk1, 0, none⟩)) := by rw [ha]; exact (putSel_off rfl).trans rfl
                          replace ha := Zd.mk ha
                          have BW := Zd.mk Q_BW
                          have y0_ := pb_ BW.out zk0
                          have y1_ := pb_ BW.out zk1
                          have y2_ := pb_ BW.out zk2
                          refine value_ (w1 := w') (v := .agg #[.slice A0 ls.length c0, .slice A1 ss.length c1, .slice A2 nxs.length c2]) (by rfl) rfl ?_ ?_
                          · go_simp
                            (try simp only [i64_w])
                            try rfl
                          refine hK.out _ _ ⟨A4, c4, A8, c8, g13, m9_, m10_, m11_, m13_, (by rw [ha.out]; exact putSel_upk 0 hb_ rfl rfl rfl), Q_BW, fun h0_ => no_ (hoff 9 (by kernel_rfl)) h0_, fun h0_ => no_ (hoff 9 (by kernel_rfl)) h0_, Q_P13, fun h0_ => no_ (hoff 14 (by kernel_rfl)) h0_, fun h0_ => no_ (hoff 9 (by kernel_rfl)) h0_, fun h0_ => no_ (hoff 10 (by kernel_rfl)) h0_, fun h0_ => no_ (hoff 11 (by kernel_rfl)) h0_, Q_X13_⟩
                        refine steps_cons ?_ ?_
                        · rintro b a w' ⟨A4, c4, A8, c8, g13, m9_, m10_, m11_, m13_, ha, Q_BW, Q_RA, Q_RB, Q_P13, Q_S14, Q_X9_, Q_X10_, Q_X11_, Q_X13_⟩ hb_ hon hoff
                          refine ⟨_, rfl, fun K hK => ?_⟩
                          have e17 : a.tmps[17]? = some (.slice Aw nw cw) := by rw [ha]; exact (putSel_off rfl).trans rfl
                          replace ha := Zd.mk ha
                          have BW := Zd.mk Q_BW
                          refine value_ (w1 := w') (v := .slice Aw nw cw) (by rfl) rfl ?_ ?_
                          · go_simp
                            (try simp only [i64_w])
                            try rfl
                          refine hK.out _ _ ⟨A4, c4, A8, c8, g13, m9_, m10_, m11_, m13_, (by rw [ha.out]; exact putSel_upk 1 hb_ rfl rfl rfl), Q_BW, fun h0_ => no_ (hoff 9 (by kernel_rfl)) h0_, fun h0_ => no_ (hoff 9 (by kernel_rfl)) h0_, Q_P13, fun h0_ => no_ (hoff 14 (by kernel_rfl)) h0_, fun h0_ => no_ (hoff 9 (by kernel_rfl)) h0_, fun h0_ => no_ (hoff 10 (by kernel_rfl)) h0_, fun h0_ => no_ (hoff 11 (by kernel_rfl)) h0_, Q_X13_⟩
                        refine steps_cons ?_ ?_
                        · rintro b a w' ⟨A4, c4, A8, c8, g13, m9_, m10_, m11_, m13_, ha, Q_BW, Q_RA, Q_RB, Q_P13, Q_S14, Q_X9_, Q_X10_, Q_X11_, Q_X13_⟩ hb_ hon hoff
                          refine ⟨_, rfl, fun K hK => ?_⟩
                          have e20 : a.tmps[20]? = some (.int .i64 (a1 : Int)) := by rw [ha]; exact (putSel_off rfl).trans rfl
                          replace ha := Zd.mk ha
                          have BW := Zd.mk Q_BW
                          refine value_ (w1 := w') (v := .int .i64 (a1 : Int)) (by rfl) rfl ?_ ?_
                          · go_simp
                            (try simp only [i64_w])
                            try rfl
                          refine hK.out _ _ ⟨A4, c4, A8, c8, g13, m9_, m10_, m11_, m13_, (by rw [ha.out]; exact putSel_upk 2 hb_ rfl rfl rfl), Q_BW, fun h0_ => no_ (hoff 9 (by kernel_rfl)) h0_, fun h0_ => no_ (hoff 9 (by kernel_rfl)) h0_, Q_P13, fun h0_ => no_ (hoff 14 (by kernel_rfl)) h0_, fun h0_ => no_ (hoff 9 (by kernel_rfl)) h0_, fun h0_ => no_ (hoff 10 (by kernel_rfl)) h0_, fun h0_ => no_ (hoff 11 (by kernel_rfl)) h0_, Q_X13_⟩
                        refine steps_cons ?_ ?_
                        · rintro b a w' ⟨A4, c4, A8, c8, g13, m9_, m10_, m11_, m13_, ha, Q_BW, Q_RA, Q_RB, Q_P13, Q_S14, Q_X9_, Q_X10_, Q_X11_, Q_X13_⟩ hb_ hon hoff
                          refine ⟨_, rfl, fun K hK => ?_⟩
                          have e209 : a.tmps[209]? = some (.int .i64 (a1 : Int)) := by rw [ha]; exact putSel_on (e := (2, 209, .int .i64 (a1 : Int))) 2 rfl rfl (hon 2 (by kernel_rfl)) rfl
                          replace ha := Zd.mk ha
                          have BW := Zd.mk Q_BW
                          refine value_ (w1 := w') (v := .int .i64 (j : Int)) (by rfl) rfl ?_ ?_
                          · go_simp
                            (try simp only [i64_w])
                            try rfl
                          refine hK.out _ _ ⟨A4, c4, A8, c8, g13, m9_, m10_, m11_, m13_, (by rw [ha.out]; exact putSel_upk 3 hb_ rfl rfl rfl), Q_BW, fun h0_ => no_ (hoff 9 (by kernel_rfl)) h0_, fun h0_ => no_ (hoff 9 (by kernel_rfl)) h0_, Q_P13, fun h0_ => no_ (hoff 14 (by kernel_rfl)) h0_, fun h0_ => no_ (hoff 9 (by kernel_rfl)) h0_, fun h0_ => no_ (hoff 10 (by kernel_rfl)) h0_, fun h0_ => no_ (hoff 11 (by kernel_rfl)) h0_, Q_X13_⟩
                        refine steps_cons ?_ ?_
                        · rintro b a w' ⟨A4, c4, A8, c8, g13, m9_, m10_, m11_, m13_, ha, Q_BW, Q_RA, Q_RB, Q_P13, Q_S14, Q_X9_, Q_X10_, Q_X11_, Q_X13_⟩ hb_ hon hoff
                          refine ⟨_, rfl, fun K hK => ?_⟩
                          have e208 : a.tmps[208]? = some (.slice Aw nw cw) := by rw [ha]; exact putSel_on (e := (1, 208, .slice Aw nw cw)) 1 rfl rfl (hon 1 (by kernel_rfl)) rfl
                          have e210 : a.tmps[210]? = some (.int .i64 (j : Int)) := by rw [ha]; exact putSel_on (e := (3, 210, .int .i64 (j : Int))) 3 rfl rfl (hon 3 (by kernel_rfl)) rfl
                          replace ha := Zd.mk ha
                          have BW := Zd.mk Q_BW
                          refine value_ (w1 := w') (v := .slice Aw sn cw) (by rfl) rfl ?_ ?_
                          · go_simp
                            (try simp only [i64_w])
                            try rfl
                          refine hK.out _ _ ⟨A4, c4, A8, c8, g13, m9_, m10_, m11_, m13_, (by rw [ha.out]; exact putSel_upk 4 hb_ rfl rfl rfl), Q_BW, fun h0_ => no_ (hoff 9 (by kernel_rfl)) h0_, fun h0_ => no_ (hoff 9 (by kernel_rfl)) h0_, Q_P13, fun h0_ => no_ (hoff 14 (by kernel_rfl)) h0_, fun h0_ => no_ (hoff 9 (by kernel_rfl)) h0_, fun h0_ => no_ (hoff 10 (by kernel_rfl)) h0_, fun h0_ => no_ (hoff 11 (by kernel_rfl)) h0_, Q_X13_⟩
                        refine steps_cons ?_ ?_
                        · rintro b a w' ⟨A4, c4, A8, c8, g13, m9_, m10_, m11_, m13_, ha, Q_BW, Q_RA, Q_RB, Q_P13, Q_S14, Q_X9_, Q_X10_, Q_X11_, Q_X13_⟩ hb_ hon hoff
                          refine ⟨_, rfl, fun K hK => ?_⟩
                          have e17 : a.tmps[17]? = some (.slice Aw nw cw) := by rw [ha]; exact (putSel_off rfl).trans rfl
                          replace ha := Zd.mk ha
                          have BW := Zd.mk Q_BW
                          refine value_ (w1 := w') (v := .slice Aw nw cw) (by rfl) rfl ?_ ?_
                          · go_simp
                            (try simp only [i64_w])
                            try rfl
                          refine hK.out _ _ ⟨A4, c4, A8, c8, g13, m9_, m10_, m11_, m13_, (by rw [ha.out]; exact putSel_upk 5 hb_ rfl rfl rfl), Q_BW, fun h0_ => no_ (hoff 9 (by kernel_rfl)) h0_, fun h0_ => no_ (hoff 9 (by kernel_rfl)) h0_, Q_P13, fun h0_ => no_ (hoff 14 (by kernel_rfl)) h0_, fun h0_ => no_ (hoff 9 (by kernel_rfl)) h0_, fun h0_ => no_ (hoff 10 (by kernel_rfl)) h0_, fun h0_ => no_ (hoff 11 (by kernel_rfl)) h0_, Q_X13_⟩
                        refine steps_cons ?_ ?_
                        · rintro b a w' ⟨A4, c4, A8, c8, g13, m9_, m10_, m11_, m13_, ha, Q_BW, Q_RA, Q_RB, Q_P13, Q_S14, Q_X9_, Q_X10_, Q_X11_, Q_X13_⟩ hb_ hon hoff
                          refine ⟨_, rfl, fun K hK => ?_⟩
                          have e20 : a.tmps[20]? = some (.int .i64 (a1 : Int)) := by rw [ha]; exact (putSel_off rfl).trans rfl
                          replace ha := Zd.mk ha
                          have BW := Zd.mk Q_BW
                          refine value_ (w1 := w') (v := .int .i64 (a1 : Int)) (by rfl) rfl ?_ ?_
                          · go_simp
                            (try simp only [i64_w])
                            try rfl
                          refine hK.out _ _ ⟨A4, c4, A8, c8, g13, m9_, m10_, m11_, m13_, (by rw [ha.out]; exact putSel_upk 6 hb_ rfl rfl rfl), Q_BW, fun h0_ => no_ (hoff 9 (by kernel_rfl)) h0_, fun h0_ => no_ (hoff 9 (by kernel_rfl)) h0_, Q_P13, fun h0_ => no_ (hoff 14 (by kernel_rfl)) h0_, fun h0_ => no_ (hoff 9 (by kernel_rfl)) h0_, fun h0_ => no_ (hoff 10 (by kernel_rfl)) h0_, fun h0_ => no_ (hoff 11 (by kernel_rfl)) h0_, Q_X13_⟩
                        refine steps_cons ?_ ?_
                        · rintro b a w' ⟨A4, c4, A8, c8, g13, m9_, m10_, m11_, m13_, ha, Q_BW, Q_RA, Q_RB, Q_P13, Q_S14, Q_X9_, Q_X10_, Q_X11_, Q_X13_⟩ hb_ hon hoff
                          refine ⟨_, rfl, fun K hK => ?_⟩
                          have e213 : a.tmps[213]? = some (.int .i64 (a1 : Int)) := by rw [ha]; exact putSel_on (e := (6, 213, .int .i64 (a1 : Int))) 6 rfl rfl (hon 6 (by kernel_rfl)) rfl
                          replace ha := Zd.mk ha
                          have BW := Zd.mk Q_BW
                          refine value_ (w1 := w') (v := .int .i64 (j : Int)) (by rfl) rfl ?_ ?_
                          · go_simp
                            (try simp only [i64_w])
                            try rfl
                          refine hK.out _ _ ⟨A4, c4, A8, c8, g13, m9_, m10_, m11_, m13_, (by rw [ha.out]; exact putSel_upk 7 hb_ rfl rfl rfl), Q_BW, fun h0_ => no_ (hoff 9 (by kernel_rfl)) h0_, fun h0_ => no_ (hoff 9 (by kernel_rfl)) h0_, Q_P13, fun h0_ => no_ (hoff 14 (by kernel_rfl)) h0_, fun h0_ => no_ (hoff 9 (by kernel_rfl)) h0_, fun h0_ => no_ (hoff 10 (by kernel_rfl)) h0_, fun h0_ => no_ (hoff 11 (by kernel_rfl)) h0_, Q_X13_⟩
                        refine steps_cons ?_ ?_
                        · rintro b a w' ⟨A4, c4, A8, c8, g13, m9_, m10_, m11_, m13_, ha, Q_BW, Q_RA, Q_RB, Q_P13, Q_S14, Q_X9_, Q_X10_, Q_X11_, Q_X13_⟩ hb_ hon hoff
                          refine ⟨_, rfl, fun K hK => ?_⟩
                          have e212 : a.tmps[212]? = some (.slice Aw nw cw) := by rw [ha]; exact putSel_on (e := (5, 212, .slice Aw nw cw)) 5 rfl rfl (hon 5 (by kernel_rfl)) rfl
                          have e214 : a.tmps[214]? = some (.int .i64 (j : Int)) := by rw [ha]; exact putSel_on (e := (7, 214, .int .i64 (j : Int))) 7 rfl rfl (hon 7 (by kernel_rfl)) rfl
                          replace ha := Zd.mk ha
                          have BW := Zd.mk Q_BW
                          refine value_ (w1 := w') (v := .slice A9 ln c9) (by rfl) rfl ?_ ?_
                          · go_simp
                            (try simp only [i64_w])
                            try rfl
                          refine hK.out _ _ ⟨A4, c4, A8, c8, g13, m9_, m10_, m11_, m13_, (by rw [ha.out]; exact putSel_upk 8 hb_ rfl rfl rfl), Q_BW, fun h0_ => no_ (hoff 9 (by kernel_rfl)) h0_, fun h0_ => no_ (hoff 9 (by kernel_rfl)) h0_, Q_P13, fun h0_ => no_ (hoff 14 (by kernel_rfl)) h0_, fun h0_ => no_ (hoff 9 (by kernel_rfl)) h0_, fun h0_ => no_ (hoff 10 (by kernel_rfl)) h0_, fun h0_ => no_ (hoff 11 (by kernel_rfl)) h0_, Q_X13_⟩
                        refine steps_cons ?_ ?_
                        · rintro b a w' ⟨A4, c4, A8, c8, g13, m9_, m10_, m11_, m13_, ha, Q_BW, Q_RA, Q_RB, Q_P13, Q_S14, Q_X9_, Q_X10_, Q_X11_, Q_X13_⟩ hb_ hon hoff
                          refine ⟨_, rfl, fun K hK => ?_⟩
                          have e207 : a.tmps[207]? = some (.agg #[.slice A0 ls.length c0, .slice A1 ss.length c1, .slice A2 nxs.length c2]) := by rw [ha]; exact putSel_on (e := (0, 207, .agg #[.slice A0 ls.length c0, .slice A1 ss.length c1, .slice A2 nxs.length c2])) 0 rfl rfl (hon 0 (by kernel_rfl)) rfl
                          have e211 : a.tmps[211]? = some (.slice Aw sn cw) := by rw [ha]; exact putSel_on (e := (4, 211, .slice Aw sn cw)) 4 rfl rfl (hon 4 (by kernel_rfl)) rfl
                          have e215 : a.tmps[215]? = some (.slice A9 ln c9) := by rw [ha]; exact putSel_on (e := (8, 215, .slice A9 ln c9)) 8 rfl rfl (hon 8 (by kernel_rfl)) rfl
                          replace ha := Zd.mk ha
                          have BW := Zd.mk Q_BW
                          refine goes_ Try.func13 (by kernel_rfl) rfl #[.agg #[.slice A0 ls.length c0, .slice A1 ss.length c1, .slice A2 nxs.length c2], .slice Aw sn cw, .slice A9 ln c9] (by rfl) rfl rfl (by first | (simp only [List.map_toArray, List.map_cons, List.map_nil, Act.eval, Array.getD_eq_getD_getElem?, Option.getD_some, e207, e211, e215]; done) | (simp only [List.map_toArray, List.map_cons, List.map_nil, Act.eval, Array.getD_eq_getD_getElem?, Option.getD_some, e207, e211, e215]; rfl)) ?_
                          with_reducible refine (HWD.out _ BW.out).mono ?_
                          rintro e_ w1 ⟨A4_, c4_, A8_, c8_, rfl, hR1, hR2, hB⟩
                          refine ⟨_, rfl, ?_⟩
                          refine hK.out _ _ ⟨A4_, c4_, A8_, c8_, g13, (.tuple #[.agg #[.slice A4_ sn c4_, .slice A8_ ln c8_], .bool true]), m10_, m11_, m13_, (by rw [ha.out]; exact putSel_upk 9 hb_ rfl rfl rfl), BW.out.trans (hB.mono BW.out.size), fun _ => Kd.R_lower hR1 BW.out.size, fun _ => Kd.R_lower hR2 BW.out.size, fun h0_ h1_ => (Q_P13 h0_ h1_).below hB, fun h0_ => no_ (hoff 14 (by kernel_rfl)) h0_, fun _ => rfl, fun h0_ => no_ (hoff 10 (by kernel_rfl)) h0_, fun h0_ => no_ (hoff 11 (by kernel_rfl)) h0_, Q_X13_⟩
                        refine steps_cons ?_ ?_
                        · rintro b a w' ⟨A4, c4, A8, c8, g13, m9_, m10_, m11_, m13_, ha, Q_BW, Q_RA, Q_RB, Q_P13, Q_S14, Q_X9_, Q_X10_, Q_X11_, Q_X13_⟩ hb_ hon hoff
                          refine ⟨_, rfl, fun K hK => ?_⟩
                          have e216 : a.tmps[216]? = some (m9_) := by rw [ha]; exact putSel_on (e := (9, 216, m9_)) 9 rfl rfl (hon 9 (by kernel_rfl)) rfl
                          rw [Q_X9_ (hon 9 (by kernel_rfl))] at e216
                          replace ha := Zd.mk ha
                          have BW := Zd.mk Q_BW
                          have RA := Zd.mk (Q_RA (hon 9 (by kernel_rfl)))
                          have RB := Zd.mk (Q_RB (hon 9 (by kernel_rfl)))
                          refine value_ (w1 := w') (v := .tuple #[.agg #[.slice A4 sn c4, .slice A8 ln c8], .bool true]) (by rfl) rfl ?_ ?_
                          · go_simp
                            (try simp only [i64_w])
                            try rfl
                          refine hK.out _ _ ⟨A4, c4, A8, c8, g13, m9_, (.tuple #[.agg #[.slice A4 sn c4, .slice A8 ln c8], .bool true]), m11_, m13_, (by rw [ha.out]; exact putSel_upk 10 hb_ rfl rfl rfl), Q_BW, Q_RA, Q_RB, Q_P13, fun h0_ => no_ (hoff 14 (by kernel_rfl)) h0_, Q_X9_, fun _ => rfl, fun h0_ => no_ (hoff 11 (by kernel_rfl)) h0_, Q_X13_⟩
                        refine steps_cons ?_ ?_
                        · rintro b a w' ⟨A4, c4, A8, c8, g13, m9_, m10_, m11_, m13_, ha, Q_BW, Q_RA, Q_RB, Q_P13, Q_S14, Q_X9_, Q_X10_, Q_X11_, Q_X13_⟩ hb_ hon hoff
                          refine ⟨_, rfl, fun K hK => ?_⟩
                          have e206 : a.tmps[206]? = some (m10_) := by rw [ha]; exact putSel_on (e := (10, 206, m10_)) 10 rfl rfl (hon 10 (by kernel_rfl)) rfl
                          rw [Q_X10_ (hon 10 (by kernel_rfl))] at e206
                          replace ha := Zd.mk ha
                          have BW := Zd.mk Q_BW
                          have RA := Zd.mk (Q_RA (hon 9 (by kernel_rfl)))
                          have RB := Zd.mk (Q_RB (hon 9 (by kernel_rfl)))
                          refine value_ (w1 := w') (v := .agg #[.slice A4 sn c4, .slice A8 ln c8]) (by rfl) rfl ?_ ?_
                          · go_simp
                            (try simp only [i64_w])
                            try rfl
                          refine hK.out _ _ ⟨A4, c4, A8, c8, g13, m9_, m10_, (.agg #[.slice A4 sn c4, .slice A8 ln c8]), m13_, (by rw [ha.out]; exact putSel_upk 11 hb_ rfl rfl rfl), Q_BW, Q_RA, Q_RB, Q_P13, fun h0_ => no_ (hoff 14 (by kernel_rfl)) h0_, Q_X9_, Q_X10_, fun _ => rfl, Q_X13_⟩
                        refine steps_cons ?_ ?_
                        · rintro b a w' ⟨A4, c4, A8, c8, g13, m9_, m10_, m11_, m13_, ha, Q_BW, Q_RA, Q_RB, Q_P13, Q_S14, Q_X9_, Q_X10_, Q_X11_, Q_X13_⟩ hb_ hon hoff
                          refine ⟨_, rfl, fun K hK => ?_⟩
                          have e206 : a.tmps[206]? = some (m10_) := by rw [ha]; exact putSel_on (e := (10, 206, m10_)) 10 rfl rfl (hon 10 (by kernel_rfl)) rfl
                          rw [Q_X10_ (hon 10 (by kernel_rfl))] at e206
                          replace ha := Zd.mk ha
                          have BW := Zd.mk Q_BW
                          have RA := Zd.mk (Q_RA (hon 9 (by kernel_rfl)))
                          have RB := Zd.mk (Q_RB (hon 9 (by kernel_rfl)))
                          refine value_ (w1 := w') (v := .bool true) (by rfl) rfl ?_ ?_
                          · go_simp
                            (try simp only [i64_w])
                            try rfl
                          refine hK.out _ _ ⟨A4, c4, A8, c8, g13, m9_, m10_, m11_, m13_, (by rw [ha.out]; exact putSel_upk 12 hb_ rfl rfl rfl), Q_BW, Q_RA, Q_RB, Q_P13, Q_S14, Q_X9_, Q_X10_, Q_X11_, Q_X13_⟩
                        refine steps_cons ?_ ?_
                        · rintro b a w' ⟨A4, c4, A8, c8, g13, m9_, m10_, m11_, m13_, ha, Q_BW, Q_RA, Q_RB, Q_P13, Q_S14, Q_X9_, Q_X10_, Q_X11_, Q_X13_⟩ hb_ hon hoff
                          refine ⟨_, rfl, fun K hK => ?_⟩
                          replace ha := Zd.mk ha
                          have BW := Zd.mk Q_BW
                          refine value_ (w1 := w'.alloc (.cells #[.slice none 0 0, .slice none 0 0] 40)) (v := .pointer (some ⟨w'.heap.size, 0, none⟩)) (by rfl) rfl ?_ ?_
                          · (go_simp; try rfl)
                          refine hK.out _ _ ⟨A4, c4, A8, c8, w'.heap.size, m9_, m10_, m11_, (.pointer (some ⟨w'.heap.size, 0, none⟩)), (by rw [ha.out]; exact putSel_upk 13 hb_ rfl rfl rfl), below_alloc BW.out _, fun h0_ => Kd.R_alloc (Q_RA h0_) _, fun h0_ => Kd.R_alloc (Q_RB h0_) _, fun _ _ => Lay.new BW.out _ _, fun h0_ => no_ (hoff 14 (by kernel_rfl)) h0_, Q_X9_, Q_X10_, Q_X11_, fun _ => rfl⟩
                        refine steps_cons ?_ ?_
                        · rintro b a w' ⟨A4, c4, A8, c8, g13, m9_, m10_, m11_, m13_, ha, Q_BW, Q_RA, Q_RB, Q_P13, Q_S14, Q_X9_, Q_X10_, Q_X11_, Q_X13_⟩ hb_ hon hoff
                          refine ⟨_, rfl, fun K hK => ?_⟩
                          have e21 : a.tmps[21]? = some (m13_) := by rw [ha]; exact putSel_on (e := (13, 21, m13_)) 13 rfl rfl (hon 13 (by kernel_rfl)) rfl
                          rw [Q_X13_ (hon 13 (by kernel_rfl))] at e21
                          have e217 : a.tmps[217]? = some (m11_) := by rw [ha]; exact putSel_on (e := (11, 217, m11_)) 11 rfl rfl (hon 11 (by kernel_rfl)) rfl
                          rw [Q_X11_ (hon 11 (by kernel_rfl))] at e217
                          replace ha := Zd.mk ha
                          have BW := Zd.mk Q_BW
                          have RA := Zd.mk (Q_RA (hon 9 (by kernel_rfl)))
                          have RB := Zd.mk (Q_RB (hon 9 (by kernel_rfl)))
                          have P13 := Zd.mk (Q_P13 (hon 13 (by kernel_rfl)) hb_)
                          have z0_ := (bq_ P13.out.2 0).trans rfl
                          have z1_ := (bq_ P13.out.2 1).trans rfl
                          have f0_ := bz_ P13.out.2 0
                          have f1_ := bz_ P13.out.2 1
                          refine skip_ (w1 := put2 w' g13 (.slice A4 sn c4) (.slice A8 ln c8)) (by rfl) rfl ?_ ?_
                          · (unfold put2; go_simp; try rfl)
                          refine hK.out _ _ ⟨A4, c4, A8, c8, g13, m9_, m10_, m11_, m13_, (by rw [ha.out]; exact putSel_none (v := undef) rfl), below_put2 BW.out P13.out.1 _ _, fun _ => R_put2 RA.out P13.out.2 (by decide) _ _, fun _ => R_put2 RB.out P13.out.2 (by decide) _ _, fun _ h1_ => absurd ((up_self b 14).symm.trans h1_) (by decide), fun _ => P13.out.put2 _ _, Q_X9_, Q_X10_, Q_X11_, Q_X13_⟩
                        refine steps_cons ?_ ?_
                        · rintro b a w' ⟨A4, c4, A8, c8, g13, m9_, m10_, m11_, m13_, ha, Q_BW, Q_RA, Q_RB, Q_P13, Q_S14, Q_X9_, Q_X10_, Q_X11_, Q_X13_⟩ hb_ hon hoff
                          refine ⟨_, rfl, fun K hK => ?_⟩
                          have e218 : a.tmps[218]? = some (.bool true) := by rw [ha]; exact putSel_on (e := (12, 218, .bool true)) 12 rfl rfl (hon 12 (by kernel_rfl)) rfl
                          replace ha := Zd.mk ha
                          have BW := Zd.mk Q_BW
                          have RA := Zd.mk (Q_RA (hon 9 (by kernel_rfl)))
                          have RB := Zd.mk (Q_RB (hon 9 (by kernel_rfl)))
                          have S14 := Zd.mk (Q_S14 (hon 14 (by kernel_rfl)))
                          refine value_ (w1 := w') (v := .bool true) (by rfl) rfl ?_ ?_
                          · go_simp
                            (try simp only [i64_w])
                            try rfl
                          refine hK.out _ _ ⟨A4, c4, A8, c8, g13, m9_, m10_, m11_, m13_, (by rw [ha.out]; exact putSel_upk 14 hb_ rfl rfl rfl), Q_BW, Q_RA, Q_RB, fun _ h1_ => absurd ((hon 14 (by kernel_rfl)).symm.trans h1_) (by decide), Q_S14, Q_X9_, Q_X10_, Q_X11_, Q_X13_⟩
                        exact steps_nil
                      · rintro b a w' hall ⟨A4, c4, A8, c8, g13, m9_, m10_, m11_, m13_, ha, Q_BW, Q_RA, Q_RB, Q_P13, Q_S14, Q_X9_, Q_X10_, Q_X11_, Q_X13_⟩
                        clear BW
                        have hb0_ := hall 0 (by kernel_rfl)
                        have hb1_ := hall 1 (by kernel_rfl)
                        have hb2_ := hall 2 (by kernel_rfl)
                        have hb3_ := hall 3 (by kernel_rfl)
                        have hb4_ := hall 4 (by kernel_rfl)
                        have hb5_ := hall 5 (by kernel_rfl)
                        have hb6_ := hall 6 (by kernel_rfl)
                        have hb7_ := hall 7 (by kernel_rfl)
                        have hb8_ := hall 8 (by kernel_rfl)
                        have hb9_ := hall 9 (by kernel_rfl)
                        have hb10_ := hall 10 (by kernel_rfl)
                        have hb11_ := hall 11 (by kernel_rfl)
                        have hb12_ := hall 12 (by kernel_rfl)
                        have hb13_ := hall 13 (by kernel_rfl)
                        have hb14_ := hall 14 (by kernel_rfl)
                        have hb15_ := hall 15 (by kernel_rfl)
                        subst ha
                        obtain rfl := Q_X9_ hb9_
                        obtain rfl := Q_X10_ hb10_
                        obtain rfl := Q_X11_ hb11_
                        obtain rfl := Q_X13_ hb13_
                        simp only [putSel, hb0_, hb1_, hb2_, hb3_, hb4_, hb5_, hb6_, hb7_, hb8_, hb9_, hb10_, hb11_, hb12_, hb13_, hb14_, hb15_, if_true, Act.put, List.setIfInBounds_toArray, List.set_cons_zero, List.set_cons_succ]
                        have BW := Zd.mk Q_BW
                        clear Q_BW
                        have RA := Zd.mk (Q_RA hb9_)
                        clear Q_RA
                        have RB := Zd.mk (Q_RB hb9_)
                        clear Q_RB
                        clear Q_P13
                        have S14 := Zd.mk (Q_S14 hb14_)
                        clear Q_S14
                        clear hall hb0_ hb1_ hb2_ hb3_ hb4_ hb5_ hb6_ hb7_ hb8_ hb9_ hb10_ hb11_ hb12_ hb13_ hb14_ hb15_
                        obtain ⟨W7, rfl⟩ : ∃ W : World, W = w' := ⟨_, rfl⟩
                        have HB7 := Zd.mk (HB5.out.trans (BW.out.mono HB5.out.size))
                        clear zk0 zk1 zk2 hcutT hcutD hwj hl_ d1 d2 d3
                        have z0 : W7.cell? ⟨g13, 0, none⟩ = some (.slice A4 sn c4) := (bq_ S14.out.2 0).trans rfl
                        have z1 : W7.cell? ⟨g13, 1, none⟩ = some (.slice A8 ln c8) := (bq_ S14.out.2 1).trans rfl
                        have f0_7 := pb_ HB7.out QF.out.1
                        have f1_7 := pb_ HB7.out QF.out.2.1
                        have f2_7 := pb_ HB7.out QF.out.2.2
                        have HHO := Zd.mk (Holds_sl HMF1.out RA.out RB.out HLL.out.1 HLL.out.2.1 HLL.out.2.2 HBH.out A5 c5 (Kd.C_below H5.out (HB2.out.trans (HB7.out.mono HB2.out.size))) l5)
                        go_upto_region 35 with (go_at_call 14; refine HHO.out.mono ?_; rintro e w8 ⟨rfl, hB⟩; have HB8 := Zd.mk (HB7.out.trans (hB.mono HB7.out.size)); clear hB)
                        cases bok <;> cases ball <;> cases bh <;> first
                          | exact absurd rfl (HT1.out rfl)
                          | exact absurd rfl (HT2.out rfl)
                          | (go_wp2_with (go_at_call 10; refine (awake_calls _).mono ?_; rintro e w19 ⟨rfl, hB⟩; have HB19 := Zd.mk (HB8.out.trans (hB.mono HB8.out.size)); clear hB)
                             go_ret
                             exact ⟨rfl, HB2.out.trans (HB19.out.mono HB2.out.size)⟩)
      · have t3 : (mf != 0) = true := by simpa using g3
        clear g2
        go_enter Try.func3, Try.ntmps3
        go_upto_region 1 with fail
        rw [← hW2, ← hgk, ← hgf]
        clear hW2 hgk hgf
        go_wp2_with (first | (go_at_call 7; refine (HHV.out _ (Below.refl _ _)).mono ?_; rintro e w3 ⟨rfl, hB⟩; have HB3 := Zd.mk hB; have k0_3 := pb_ hB k0; have k1_3 := pb_ hB k1; have k2_3 := pb_ hB k2; have f0_3 := pb_ hB f0; have f1_3 := pb_ hB f1; have f2_3 := pb_ hB f2; clear hB) | (go_at_call 8; refine (HMG.out _ HB3.out).mono ?_; rintro e w4 ⟨rfl, hB⟩; have HB4 := Zd.mk (HB3.out.trans (hB.mono HB3.out.size)); have k0_4 := pb_ hB k0_3; have f0_4 := pb_ hB f0_3; have f1_4 := pb_ hB f1_3; have f2_4 := pb_ hB f2_3; clear hB) | (go_at_call 9; refine (HMF.out _ HB4.out).mono ?_; rintro e w5 ⟨rfl, hB⟩; have HB5 := Zd.mk (HB4.out.trans (hB.mono HB4.out.size)); have k0_5 := pb_ hB k0_4; clear hB) | (go_at_call 10; refine (awake_calls _).mono ?_; rintro e w19 ⟨rfl, hB⟩; have HB19 := Zd.mk (HB5.out.trans (hB.mono HB5.out.size)); clear hB))
        go_ret
        exact ⟨rfl, HB2.out.trans (HB19.out.mono HB2.out.size)⟩
    · have t2 : (mg != 0) = true := by simpa using g2
      go_enter Try.func3, Try.ntmps3
      go_upto_region 1 with fail
      rw [← hW2, ← hgk, ← hgf]
      clear hW2 hgk hgf
      go_wp2_with (first | (go_at_call 7; refine (HHV.out _ (Below.refl _ _)).mono ?_; rintro e w3 ⟨rfl, hB⟩; have HB3 := Zd.mk hB; have k0_3 := pb_ hB k0; have k1_3 := pb_ hB k1; have k2_3 := pb_ hB k2; have f0_3 := pb_ hB f0; have f1_3 := pb_ hB f1; have f2_3 := pb_ hB f2; clear hB) | (go_at_call 8; refine (HMG.out _ HB3.out).mono ?_; rintro e w4 ⟨rfl, hB⟩; have HB4 := Zd.mk (HB3.out.trans (hB.mono HB3.out.size)); have k0_4 := pb_ hB k0_3; have f0_4 := pb_ hB f0_3; have f1_4 := pb_ hB f1_3; have f2_4 := pb_ hB f2_3; clear hB) | (go_at_call 10; refine (awake_calls _).mono ?_; rintro e w19 ⟨rfl, hB⟩; have HB19 := Zd.mk (HB4.out.trans (hB.mono HB4.out.size)); clear hB))
      go_ret
      exact ⟨rfl, HB2.out.trans (HB19.out.mono HB2.out.size)⟩
def parrylaw24_SearchReal.f (l0_0 : List Int) (l0_1 : List Int) (l0_2 : List (List Int)) (a1_0 : Int) (a1_1 : Int) (l1_2 : List S29) (l2 : List Int) : Option Bool := if l0_0.length < 4611686018427387904 ∧ l0_1.length < 4611686018427387904 ∧ l0_2.length < 1000000000000000 ∧ ∀ x, x ∈ l0_2 → x.length ≤ 9223372036854775807 then some true else none
theorem parrylaw24_SearchReal.calls (A0_0 : Option Addr) (c0_0 : Nat) (l0_0 : List Int) (A0_1 : Option Addr) (c0_1 : Nat) (l0_1 : List Int) (A0_2 : Option Addr) (c0_2 : Nat) (l0_2 : List (List Int)) (a1_0 : Int) (a1_1 : Int) (A1_2 : Option Addr) (c1_2 : Nat) (l1_2 : List S29) (A2 : Option Addr) (c2 : Nat) (l2 : List Int) (r : Bool) (w : World) (hr0_0 : Kd.C (Kd.int .u32) w A0_0 l0_0.length l0_0) (hc0_0 : l0_0.length ≤ c0_0) (hr0_1 : Kd.C (Kd.int .i64) w A0_1 l0_1.length l0_1) (hc0_1 : l0_1.length ≤ c0_1) (hr0_2 : Kd.C (Kd.slice 3 (Kd.int .i64)) w A0_2 l0_2.length l0_2) (hc0_2 : l0_2.length ≤ c0_2) (hr1_2 : Kd.C k29 w A1_2 l1_2.length l1_2) (hc1_2 : l1_2.length ≤ c1_2) (hr2 : Kd.C (Kd.int .i64) w A2 l2.length l2) (hc2 : l2.length ≤ c2) (h : parrylaw24_SearchReal.f l0_0 l0_1 l0_2 a1_0 a1_1 l1_2 l2 = some r) (hrt : r = true) :
    Calls Try.prog 3 #[.agg #[.slice A0_0 l0_0.length c0_0, .slice A0_1 l0_1.length c0_1, .slice A0_2 l0_2.length c0_2], .agg #[.int .i64 a1_0, .int .i64 a1_1, .slice A1_2 l1_2.length c1_2], .slice A2 l2.length c2] w fun e w' => e = .returned (.bool r) ∧ Below w.heap.size w w' := by
  subst hrt
  unfold parrylaw24_SearchReal.f at h
  split at h
  · rename_i hb
    exact searchReal_walk l0_0 l0_1 l0_2 ⟨a1_0, a1_1, l1_2⟩ l2 A0_0 A0_1 A0_2 A1_2 A2 c0_0 c0_1 c0_2 c1_2 c2 w hb.1 hb.2.1 hb.2.2.1 hb.2.2.2 hr0_0 hc0_0 hr0_1 hc0_1 hr0_2 hc0_2 hr1_2 hc1_2 hr2 hc2
  · cases h
end Go.Proofs.Ytapejnikpmfddaa.X
