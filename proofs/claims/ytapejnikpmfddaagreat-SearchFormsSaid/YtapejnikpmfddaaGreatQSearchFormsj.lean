/- A part of the claim SearchForms. -/
import Derived.Test.YtapejnikpmfddaaGreatQSearchFormsi
set_option linter.unusedVariables false
set_option linter.unusedSimpArgs false
set_option maxHeartbeats 6400000
set_option maxRecDepth 100000
namespace Go.Proofs.YtapejnikpmfddaaGreat.X
open Go.RowKit Go.Proofs.aI.bM Go.Proofs.aI.dG Go.Proofs.aI.dM
open Go.Proofs.YtapejnikpmfddaaGreat.P Go.Proofs.YtapejnikpmfddaaGreat.gY
theorem Qm {w : World} {base g n cap : Nat} {ok : Nat → Prop} {xs : List Int} (h : Kd.R (Kd.int .i64) 3 w base ok (.slice (some ⟨g, 0, none⟩) n cap) xs) {j : Nat} (hj : j < n) : w.cell? ⟨g, j, none⟩ = some (.int .i64 (xs.getD j 0)) ∧ w.frozen? ⟨g, j, none⟩ = false := by
 have := Kd.JN (d := 0) h (j : Int) ag ag;rw [Int.toNat_natCast] at this;have h2 : qE 0 xs (j : Int) = xs.getD j 0 := by unfold qE; rw [Int.toNat_natCast]
 rw [h2] at this;exact this
theorem aqh {w : World} {base g n cap : Nat} {ok : Nat → Prop} {xs : List Int} (h : Kd.R (Kd.int .i64) 3 w base ok (.slice (some ⟨g, 0, none⟩) n cap) xs) (j : Nat) (x : Int) : Kd.R (Kd.int .i64) 3 (w.setCell ⟨g, j, none⟩ (.int .i64 x)) base ok (.slice (some ⟨g, 0, none⟩) n cap) (xs.set j x) := by
 have := Kd.JO h (j : Int) x;rw [Int.toNat_natCast] at this;exact this
theorem aqi (W : World) (n : Nat) (h : n < 1000000000) : Kd.R (Kd.int .i64) 3 (W.alloc (.cells (madeCells #[.int .i64 0] n) 3)) W.heap.size (fun k => k = W.heap.size) (.slice (some ⟨W.heap.size, 0, none⟩) n n) (List.replicate n 0) :=
 Kd.vY (by rw [List.length_replicate]; exact aag (enc := Value.int .i64) (d := 0) W W.heap.size 3 n (Nat.le_refl _) ag) (fun k hk => by simp [Value.ownBlock] at hk; exact hk.symm)
structure qW (W : World) (base ga N : Nat) (vt : Value) (s : List Int × List Nat) : Prop where
 came : Kd.R (Kd.int .i64) 3 W base (fun k => k = ga) (.slice (some ⟨ga, 0, none⟩) N N) s.1
 todo : Kd.R bD 3 W base (fun k => k ≠ ga) vt s.2
theorem qW.below {W W1 : World} {base ga N : Nat} {vt : Value} {s : List Int × List Nat} (h : qW W base ga N vt s) (hb : Below W.heap.size W W1) : qW W1 base ga N vt s := ⟨Kd.gU h.came hb, Kd.gU h.todo hb⟩
theorem qW.put {W : World} {base ga N : Nat} {vt : Value} {s : List Int × List Nat} (h : qW W base ga N vt s) (y : Nat) (v : Int) : qW (W.setCell ⟨ga, y, none⟩ (.int .i64 v)) base ga N vt (s.1.set y v, s.2) :=
 ⟨aqh h.came y v, Kd.Be h.todo (fun k hk => hk) _⟩
theorem qW.ne {W : World} {base ga N : Nat} {vt : Value} {s : List Int × List Nat} (h : qW W base ga N vt s) : ∀ k, k = ga → some k ≠ vt.ownBlock := fun k hk e => h.todo.1 k e.symm hk
theorem qW.grown {W W1 : World} {base ga N : Nat} {vt v1 : Value} {s : List Int × List Nat} {l : List Nat} (h : qW W base ga N vt s) (hg : W.grownBy W1 vt.ownBlock) (ho : Kd.R bD 3 W1 base (fun k => k ≠ ga) v1 l) : qW W1 base ga N v1 (s.1, l) :=
 ⟨Kd.aaj h.came hg h.ne, ho⟩
theorem qW.lt {W : World} {base ga N : Nat} {vt : Value} {s : List Int × List Nat} (h : qW W base ga N vt s) (hN : 0 < N) : ga < W.heap.size := by
 obtain ⟨inner, ho⟩ := Kd.xu h.came;exact iD ho ga rfl
theorem qW.apart {W W1 : World} {base ga N : Nat} {vt v : Value} {s : List Int × List Nat} {l : List Nat} (h : qW W base ga N vt s) (hN : 0 < N) (hb : base ≤ W.heap.size) (hr : Kd.R bD 3 W1 W.heap.size (fun _ => True) v l) : Kd.R bD 3 W1 base (fun k => k ≠ ga ∧ some k ≠ vt.ownBlock) v l := by
 refine Kd.sj (Kd.jd (Kd.xn hr) (fun k hk => ?_)) hb;have h1 := h.lt hN;have h2 := hk.2.1;refine ⟨by omega, fun e => ?_⟩;obtain ⟨inner, ho⟩ := Kd.xu h.todo;have := iD ho k e.symm;omega
theorem aqj {nx : Nat → List Nat} {inn : Nat → Bool} {frm : List Nat} {came : List Int} {x : Nat} {l : List Nat} (h : Sg.rG nx inn frm came x l) : (came.getD x 0 = -1 ∧ l = [x]) ∨ ∃ (z : Nat) (l2 : List Nat), came.getD x 0 = (z : Int) + 1 ∧ l = x :: l2 ∧ Sg.rG nx inn frm came z l2 := by
 cases h with
 | root e _ => exact .inl ⟨e, rfl⟩
 | step e _ _ h3 => exact .inr ⟨_, _, e, rfl, h3⟩
theorem aqk (s : List Int × List Nat) (l : List Nat) (x : Nat) : Sg.ow s (l ++ [x]) = if (Sg.ow s l).1.getD x 0 = 0 then Sg.xP (-1) (Sg.ow s l) x else Sg.ow s l := by
 unfold Sg.ow;rw [List.foldl_append]; rfl
theorem aql (s : List Int × List Nat) (l : List Nat) (j : Nat) (h : j < l.length) : Sg.ow s (l.take (j + 1)) = if (Sg.ow s (l.take j)).1.getD (l.getD j 0) 0 = 0 then Sg.xP (-1) (Sg.ow s (l.take j)) (l.getD j 0) else Sg.ow s (l.take j) := by
 rw [wF h]; exact aqk _ _ _
theorem aqm (inn : Nat → Bool) (z : Nat) (s : List Int × List Nat) (l : List Nat) (x : Nat) : Sg.mJ inn z s (l ++ [x]) = if (Sg.mJ inn z s l).1.getD x 0 = 0 ∧ inn x = true then Sg.xP ((z : Int) + 1) (Sg.mJ inn z s l) x else Sg.mJ inn z s l := by
 unfold Sg.mJ;rw [List.foldl_append]; rfl
theorem aqn (inn : Nat → Bool) (z : Nat) (s : List Int × List Nat) (l : List Nat) (j : Nat) (h : j < l.length) : Sg.mJ inn z s (l.take (j + 1)) = if (Sg.mJ inn z s (l.take j)).1.getD (l.getD j 0) 0 = 0 ∧ inn (l.getD j 0) = true then Sg.xP ((z : Int) + 1) (Sg.mJ inn z s (l.take j)) (l.getD j 0) else Sg.mJ inn z s (l.take j) := by
 rw [wF h]; exact aqm _ _ _ _ _
theorem WL (p : PD) (g : Nat) (ki kg : FuncId) (fi ci fg cg : Array Value) (inn goal : Nat → Bool) (A : Option Addr) (c : Nat) (frm : List Nat) (w : World) (h : qc w g p) (hok : p.Ok) (hi : wE ki fi ci inn p.N w) (hg : wE kg fg cg goal p.N w) (hr : Kd.C bD w A frm.length frm) (hf : ∀ x, x ∈ frm → x < p.N) (hfl : frm.length < 1000000) :
  Calls Tryz.prog 43 #[.pointer (some ⟨g, 0, none⟩), .slice A frm.length c, .func (.func ki) fi ci, .func (.func kg) fg cg] w fun e w' => ∃ v, e = .returned v ∧ Kd.R bD 3 w' w.heap.size (fun _ => True) v (Sg.kM p.next inn goal p.N frm) ∧ Below w.heap.size w w' := by
 have fM := Tryz.underlying23;have hN := hok.BN;have FC := Zd.mk h;have eG := Zd.mk hok;have HII := Zd.mk hi;have yO := Zd.mk hg;have hei := hi.enters;have heg := hg.enters;have HR := Zd.mk hr;have HF := Zd.mk hf;have hnx : ∀ x, x < p.N → ∀ y, y ∈ p.next x → y < p.N := fun x hx y hy => hok.xS hx hy;have j4 := Zd.mk hnx;obtain ⟨A0, A1, A2, A5, A7, A8, c0, c1, c2, c5, c7, c8, h'⟩ := h;have q8 := h'.q8;have BO := Tryz.underlying74;have hal : p.after.length = p.N := hok.al;have Qn := Zd.mk (show Sg.kM p.next inn goal p.N frm = Sg.wD p.next inn goal p.N (p.N + 1) 0 (Sg.ow (List.replicate p.N 0, []) frm) from rfl);have hmk := aiQ (P := Tryz.prog) 23 3 .i64 8 fM nR ai p.N ag;have HM := Zd.mk (aqi w p.N ag);rw [hal] at q8;clear h' hi hg hr hf hok hnx hal;go_enter Tryz.func43, Tryz.ntmps43;go_wp2;clear hmk;go_loopg [10, 26] frm.length (fun kq v10 v26 w' => ∃ j : Nat, j + kq = frm.length ∧ v26 = .int .i64 (j : Int) ∧ Zd (qW w' w.heap.size w.heap.size p.N v10 (Sg.ow (List.replicate p.N 0, []) (frm.take j))) ∧ Zd (Below w.heap.size w w'))
 case atStart => exact ⟨0, by omega, rfl, ⟨HM.out, Kd.lK _ _ _ _ _⟩, ⟨aW (Below.refl _ _) _⟩⟩
 case round =>
  obtain ⟨WW, rfl⟩ : ∃ W : World, W = wr := ⟨_, rfl⟩;obtain ⟨j, hj, rfl, HV, HB⟩ := hrel;have HJ := Zd.mk hj;clear hj;by_cases hlt : j < frm.length
  ·have hjl : ((j : Nat) : Int) < (frm.length : Int) := by omega
   obtain ⟨ad, rfl, qj⟩ := vC HR.out hlt;have Ld := aG HB.out qj;have o6 := HF.out _ (xR hlt);have kY := Zd.mk (aql (List.replicate p.N 0, []) frm j hlt);have oP := Zd.mk (show (Sg.ow (List.replicate p.N 0, []) (frm.take j)).2.length ≤ p.N from (Sg.IA (nx := p.next) (inn := inn) HF.out (frm.take j) _ (fun x hx => List.mem_of_mem_take hx) Sg.P6).1.le);generalize frm.getD j 0 = x at *;generalize Sg.ow (List.replicate p.N 0, []) (frm.take j) = s at *;obtain ⟨cx, fx⟩ := Qm HV.out.came o6;have hxl : (x : Int) < (p.N : Int) := by omega
   have hsl : s.2.length ≤ 51200 := Nat.le_trans oP.out hN;by_cases hz : s.1.getD x 0 = 0
   ·have HP := Zd.mk (HV.out.put x (-1));have qf := Zd.mk (show Below w.heap.size w (WW.setCell ⟨w.heap.size, x, none⟩ (.int .i64 (-1))) from HB.out.setCell (Nat.le_refl _) _);have HS2 := Zd.mk (kY.out.trans (if_pos (show s.1.getD x 0 = 0 from hz)));rw [hz] at cx;clear hz kY;go_wp2_with ((with_reducible refine lL (b := .append) (xs := #[.tmp 38, .tmp 40]) rfl ?_); at_builtin; refine Kd.xw bD (w0 := w) w.heap.size rfl (.tmp 38) (.tmp 40) 23 3 (.int .i64 0) 8 rfl fM nR rfl ai ag u10 s.2 x [.int .i64 (x : Int)] (fun k => k ≠ w.heap.size) (fun _ => False) rfl ?aX ?aP (fun _ hk => hk.elim) ?aF ?aO ?aB ?aS ?aL ?_; (case aX => first | rfl | (simp; done) | (go_simp; done)); (case aP => exact rfl); (case aF => exact (fun k hk => by have := HP.out.lt ag; show k ≠ w.heap.size; omega)); (case aO => exact HP.out.todo); (case aB => exact qf.out); (case aS => exact qf.out.size); (case aL => omega); intro v9 w9 ho hb hg hat; have Lj := Zd.mk (HP.out.grown hg ho); have fE := Zd.mk hb; clear ho hb hg hat);go_roundg (gk - 1)
    case measure => have := HJ.out; omega
    case rel => exact ⟨j + 1, by have := HJ.out; omega, by go_num, ⟨by rw [HS2.out]; exact Lj.out⟩, fE⟩
   ·have HS2 := Zd.mk (kY.out.trans (if_neg (show ¬ s.1.getD x 0 = 0 from hz)));have hz2 : ((s.1.getD x 0) == 0) = false := by rw [beq_eq_false_iff_ne]; exact hz
    generalize s.1.getD x 0 = cv at *;clear kY;go_wp2;go_roundg (gk - 1)
    case measure => have := HJ.out; omega
    case rel => exact ⟨j + 1, by have := HJ.out; omega, by go_num, ⟨by rw [HS2.out]; exact HV.out⟩, HB⟩
  ·have hjl : ¬ ((j : Nat) : Int) < (frm.length : Int) := by omega
   have htk : frm.take j = frm := List.take_of_length_le ag;rw [htk] at HV;clear htk;have HSH := Zd.mk (Sg.IA (nx := p.next) (inn := inn) HF.out frm (List.replicate p.N 0, []) (fun _ k => k) Sg.P6).1;generalize Sg.ow (List.replicate p.N 0, []) frm = s0 at *;obtain ⟨FN, WM⟩ : ∃ F, F = Sg.kM p.next inn goal p.N frm := ⟨_, rfl⟩;rw [← WM] at Qn;have Ll := Zd.mk WM;clear WM;go_wp2;go_loopg [10, 13] (p.N + 1) (fun kq v10 v13 w' => ∃ (i : Nat) (s : List Int × List Nat), kq + i = p.N + 1 ∧ v13 = .int .i64 (i : Int) ∧ Zd (Sg.wD p.next inn goal p.N kq i s = FN) ∧ Zd (Sg.oZ p.next inn p.N frm s) ∧ Zd (qW w' w.heap.size w.heap.size p.N v10 s) ∧ Zd (Below w.heap.size w w'))
   case atStart => exact ⟨0, s0, by omega, rfl, ⟨Qn.out.symm⟩, HSH, HV, HB⟩
   case round =>
    obtain ⟨W2, rfl⟩ : ∃ W : World, W = wr := ⟨_, rfl⟩;obtain ⟨i, s, hj, rfl, HE, HH, jI, HB2⟩ := hrel;obtain ⟨k1, hk1⟩ : ∃ k, k = gk := ⟨_, rfl⟩;rw [← hk1] at hj HE;have HJ2 := Zd.mk hj;have dR := Zd.mk hk1;clear hj hk1;have awm := HH.out.le;obtain ⟨At, ct, et, hct, WN⟩ := Kd.iO jI.out.todo;by_cases vF : i < s.2.length
    ·have hil : ((i : Nat) : Int) < (s.2.length : Int) := by omega
     obtain ⟨adt, eat, qt⟩ := vC WN vF;cases eat;have o6 := HH.out.lt (xR vF);have HTR := Zd.mk (HH.out.tr i _ (Sg.getD_some vF));obtain ⟨k2, hk2⟩ : ∃ k2, k1 = k2 + 1 := ⟨k1 - 1, by have := HJ2.out; omega⟩;have HE2 := Zd.mk (show (if goal (s.2.getD i 0) = true then (Sg.Iz s.1 p.N (s.2.getD i 0)).reverse else Sg.wD p.next inn goal p.N k2 (i + 1) (Sg.mJ inn (s.2.getD i 0) s (p.next (s.2.getD i 0)))) = FN from by
      have := HE.out;rw [hk2] at this;unfold Sg.wD at this;rw [if_pos vF] at this;exact this)
     have oh := Zd.mk hk2;have zg := Zd.mk (yO.out.tells W2 HB2.out _ o6);have HXM := Zd.mk (show s.2.getD i 0 ∈ s.2 from xR vF);have HIL := Zd.mk vF;subst et;clear WN hk2 HE;generalize s.2.getD i 0 = x at *;cases hgx : goal x with
     | true =>
      rw [hgx] at zg HE2;obtain ⟨tr, htr, htl⟩ := HTR.out;have fK := Zd.mk (htr.back p.N ag);have qg := Zd.mk (show tr.length ≤ 51200 from by omega);have aqo := Zd.mk htr;have WQ := Zd.mk (show FN = tr.reverse from by have := HE2.out; rw [if_pos rfl, fK.out] at this; exact this.symm);have HQ := Zd.mk (fun W (hb : Below W2.heap.size W2 W) => jI.out.below hb);clear hgx htr htl HE2;go_wp2_with ((with_reducible refine zg.out.mono ?_); rintro e w5 ⟨rfl, dJ⟩; have cZ := Zd.mk dJ; clear dJ);have HV5 := Zd.mk (HQ.out _ cZ.out);have WR := Zd.mk (HB2.out.trans (cZ.out.mono HB2.out.size));have aqp := Zd.mk (show Kd.R bD 3 (w5.alloc (.cells #[.int .i64 (x : Int)] 3)) w.heap.size (fun k => k ≠ w.heap.size) (.slice (some ⟨w5.heap.size, 0, none⟩) 1 1) [x] from
       Kd.vY (World.ownsRow_lit (base := w.heap.size) (e := 3) (size := 1) w5 #[.int .i64 (x : Int)] 1 WR.out.size ai rfl) (fun k hk => by
        have hk' : w5.heap.size = k := by simpa [Value.ownBlock] using hk
        have := HV5.out.lt ag;show k ≠ w.heap.size;omega))
      have um := Zd.mk (show Below w.heap.size w (w5.alloc (.cells #[.int .i64 (x : Int)] 3)) from WR.out.alloc WR.out.size _);have HVA := Zd.mk (HV5.out.below (aW (Below.refl _ _) (.cells #[.int .i64 (x : Int)] 3)));go_loopg [14, 15] tr.length (fun kq v14 v15 w' => ∃ (x' : Nat) (l' pre : List Nat), l'.length = kq ∧ v14 = .int .i64 (x' : Int) ∧ Zd (Sg.rG p.next inn frm s.1 x' l') ∧ Zd (pre ++ l' = tr) ∧ Zd (Kd.R bD 3 w' w.heap.size (fun k => k ≠ w.heap.size) v15 (pre ++ [x'])) ∧ Zd (Kd.R (Kd.int .i64) 3 w' w.heap.size (fun k => k = w.heap.size) (.slice (some ⟨w.heap.size, 0, none⟩) p.N p.N) s.1) ∧ Zd (Below w.heap.size w w'))
      case atStart => exact ⟨x, tr, [], rfl, rfl, aqo, ⟨rfl⟩, aqp, ⟨HVA.out.came⟩, um⟩
      case round =>
       obtain ⟨W6, rfl⟩ : ∃ W : World, W = wr := ⟨_, rfl⟩;obtain ⟨x', l', pre, hl', rfl, HT6, WU, Xa, Xb, gP⟩ := hrel;have HL6 := Zd.mk hl';clear hl';have hx6 : x' < p.N := by
        have := Sg.VX HT6.out.ne0;rw [HH.out.len] at this;exact this
       have awn : (x' : Int) < (p.N : Int) := by omega
       obtain ⟨cx, fx⟩ := Qm Xb.out hx6;have hpl : pre.length + l'.length ≤ 51200 := by have := qg.out; rw [← WU.out, List.length_append] at this; exact this
       rcases aqj HT6.out with ⟨e6, f6⟩ | ⟨z, l2, e6, f6, h6⟩
       ·have mY := Zd.mk (show pre ++ [x'] = tr from by rw [← f6]; exact WU.out);have Qo := Zd.mk (aqg u15 (pre ++ [x']) w W6 _ gP.out Xa.out (by rw [f6] at hpl; simp at hpl ⊢; omega));rw [e6] at cx;clear e6 f6;go_wp2_with (go_at_call 63; refine Qo.out.mono ?_; rintro e w7 ⟨rfl, l9, xV⟩; have Dy := Zd.mk l9; have iy := Zd.mk xV; clear l9 xV);go_ret;exact ⟨_, rfl, by rw [← Ll.out, WQ.out, ← mY.out]; exact Dy.out, iy.out⟩
       ·have HP7 := Zd.mk (show (pre ++ [x']) ++ l2 = tr from by rw [List.append_assoc, ← WU.out, f6]; rfl);have FD := Zd.mk h6;have Lm : l2.length + 1 = gk := by rw [← HL6.out, f6]; rfl
        have Qp := Zd.mk Lm;have hzn : z < p.N := by
         have := Sg.VX h6.ne0;rw [HH.out.len] at this;exact this
        have hpx : (pre ++ [x']).length ≤ 51200 := by rw [f6] at hpl; simp at hpl ⊢; omega
        have hz0 : (0 : Int) ≤ (z : Int) := Int.natCast_nonneg _;have hz1 : (z : Int) ≤ 51200 := by omega
        rw [e6] at cx;clear e6 f6 h6 Lm;go_wp2_with ((with_reducible refine lL (b := .append) (xs := #[.tmp 68, .tmp 70]) rfl ?_); at_builtin; refine Kd.xw bD (w0 := w) w.heap.size rfl (.tmp 68) (.tmp 70) 23 3 (.int .i64 0) 8 rfl fM nR rfl ai ag u15 (pre ++ [x']) z [.int .i64 (z : Int)] (fun k => k ≠ w.heap.size) (fun _ => False) rfl ?aX ?aP (fun _ hk => hk.elim) ?aF ?aO ?aB ?aS ?aL ?_; (case aX => first | rfl | (simp; done) | (go_simp; done)); (case aP => exact rfl); (case aF => exact (fun k hk => by have := iD (Kd.xu Xb.out).choose_spec w.heap.size rfl; show k ≠ w.heap.size; omega)); (case aO => exact Xa.out); (case aB => exact gP.out); (case aS => exact gP.out.size); (case aL => omega); intro v9 w9 ho hb hg hat; have HO9 := Zd.mk ho; have fE := Zd.mk hb; have FE := Zd.mk (Kd.aaj Xb.out hg (fun k hk e_ => Xa.out.1 k e_.symm hk)); clear ho hb hg hat);go_roundg (gk - 1)
        case measure => have := Qp.out; omega
        case rel => exact ⟨z, l2, pre ++ [x'], by have := Qp.out; omega, rfl, FD, HP7, HO9, FE, fE⟩
     | false =>
      rw [hgx] at zg HE2;have WQ := Zd.mk (show Sg.wD p.next inn goal p.N k2 (i + 1) (Sg.mJ inn x s (p.next x)) = FN from by have := HE2.out; rwa [if_neg (by simp)] at this);have HQ := Zd.mk (fun W (hb : Below W2.heap.size W2 W) => jI.out.below hb);have FH := Zd.mk (fun l hl => Sg.La (frm := frm) (inn := inn) j4.out (x := x) l s hl HXM.out HH.out);have hlen : (p.next x).length ≤ 51200 := by
       have := eG.out.Qa (x := x) (j := (p.nxs.getD (x / p.size) []).length) o6
       rwa [List.take_of_length_le (Nat.le_refl _)] at this
      have FI := Zd.mk (fun W (hb : Below w.heap.size w W) => Wj p g x W (FC.out.below hb) eG.out o6);have Dz := Zd.mk (fun y (hy : y ∈ p.next x) => j4.out x o6 y hy);clear hgx HE2;generalize p.next x = row at *;go_wp2_with (first | ((with_reducible refine zg.out.mono ?_); rintro e w5 ⟨rfl, dJ⟩; have HV5 := Zd.mk (HQ.out _ dJ); have cZ := Zd.mk (HB2.out.trans (dJ.mono HB2.out.size)); clear dJ) | (go_at_call 64; refine (FI.out _ cZ.out).mono ?_; rintro e w6 ⟨vr, rfl, oz, fP⟩; obtain ⟨Ar, cr, er, hcr, nT⟩ := Kd.iO oz; subst er; have HV6 := Zd.mk (HV5.out.below fP); have IL := Zd.mk (show Kd.R bD 3 w6 w.heap.size (fun k => (k ≠ w.heap.size) ∧ some k ≠ (Value.slice (some adt) s.2.length ct).ownBlock) (.slice Ar row.length cr) row from HV5.out.apart ag cZ.out.size oz); have gP := Zd.mk (cZ.out.trans (fP.mono cZ.out.size)); clear oz fP nT hcr));go_loopg [10, 79] row.length (fun kq v10 v79 w' => ∃ q : Nat, q + kq = row.length ∧ v79 = .int .i64 (q : Int) ∧ Zd (qW w' w.heap.size w.heap.size p.N v10 (Sg.mJ inn x s (row.take q))) ∧ Zd (Kd.R bD 3 w' w.heap.size (fun k => (k ≠ w.heap.size) ∧ some k ≠ v10.ownBlock) (.slice Ar row.length cr) row) ∧ Zd (Below w.heap.size w w'))
      case atStart => exact ⟨0, by omega, rfl, HV6, IL, gP⟩
      case round =>
       obtain ⟨W7, rfl⟩ : ∃ W : World, W = wr := ⟨_, rfl⟩;obtain ⟨q, hq, rfl, kN, Dy, iy⟩ := hrel;have IM := Zd.mk hq;clear hq;by_cases hlq : q < row.length
       ·have Bg : ((q : Nat) : Int) < (row.length : Int) := by omega
        obtain ⟨A7', c7', e7, hc7, Lp⟩ := Kd.iO Dy.out;cases e7;obtain ⟨Fz, ear, qr⟩ := vC Lp hlq;cases ear;have hyn := Dz.out _ (xR hlq);have HST := Zd.mk (aqn inn x s row q hlq);have oP := Zd.mk (show (Sg.mJ inn x s (row.take q)).2.length ≤ p.N from (FH.out (row.take q) (fun y hy => List.mem_of_mem_take hy)).1.le);have Qq := Zd.mk (HII.out.tells W7 iy.out _ hyn);clear Lp hc7;generalize row.getD q 0 = y at *;generalize Sg.mJ inn x s (row.take q) = sq at *;obtain ⟨cx, fx⟩ := Qm kN.out.came hyn;have hyl : (y : Int) < (p.N : Int) := by omega
        have hsl : sq.2.length ≤ 51200 := Nat.le_trans oP.out hN;have hx1 : (x : Int) ≤ 51200 := by omega
        by_cases hz : sq.1.getD y 0 = 0
        ·cases IP : inn y with
         | true =>
          rw [IP] at Qq;have HS2 := Zd.mk (HST.out.trans (if_pos ⟨hz, IP⟩));have Xc := Zd.mk (fun W (hb : Below W7.heap.size W7 W) => And.intro (Qm (kN.out.below hb).came hyn) (And.intro ((kN.out.below hb).put y ((x : Int) + 1)) (Kd.Be (p := ⟨w.heap.size, y, none⟩) (Kd.gU Dy.out hb) (fun k hk => hk.1) (.int .i64 ((x : Int) + 1)))));have hsz : (sq.1.getD y 0 == 0) = true := by rw [hz]; rfl
          rw [hz] at cx;clear hz IP HST;go_wp2_with (first | ((with_reducible refine Qq.out.mono ?_); rintro e w8 ⟨rfl, sM⟩; obtain ⟨⟨cy, fy⟩, Lr, qX⟩ := Xc.out _ sM; have FJ := Zd.mk Lr; have BV := Zd.mk qX; have jP := Zd.mk ((iy.out.trans (sM.mono iy.out.size)).setCell (Nat.le_refl w.heap.size) (p := ⟨w.heap.size, y, none⟩) (.int .i64 ((x : Int) + 1))); clear sM Lr qX) | ((with_reducible refine lL (b := .append) (xs := #[.tmp 98, .tmp 100]) rfl ?_); at_builtin; refine Kd.xw bD (w0 := w) w.heap.size rfl (.tmp 98) (.tmp 100) 23 3 (.int .i64 0) 8 rfl fM nR rfl ai ag u10 sq.2 y [.int .i64 (y : Int)] (fun k => k ≠ w.heap.size) (fun _ => False) rfl ?aX ?aP (fun _ hk => hk.elim) ?aF ?aO ?aB ?aS ?aL ?_; (case aX => first | rfl | (simp; done) | (go_simp; done)); (case aP => exact rfl); (case aF => exact (fun k hk => by have := FJ.out.lt ag; show k ≠ w.heap.size; omega)); (case aO => exact FJ.out.todo); (case aB => exact jP.out); (case aS => exact jP.out.size); (case aL => omega); intro v9 w9 ho hb hg hat; have Lj := Zd.mk (FJ.out.grown hg ho); have fE := Zd.mk hb; have AO := Zd.mk (Kd.ajg BV.out hg hat); clear ho hb hg hat));go_roundg (gk - 1)
          case measure => have := IM.out; omega
          case rel => exact ⟨q + 1, by have := IM.out; omega, by go_num, ⟨by rw [HS2.out]; exact Lj.out⟩, AO, fE⟩
         | false =>
          rw [IP] at Qq;have HS2 := Zd.mk (HST.out.trans (if_neg (fun h => by rw [IP] at h; cases h.2)));rw [hz] at cx;clear hz IP HST;have Xc := Zd.mk (fun W (hb : Below W7.heap.size W7 W) => And.intro (kN.out.below hb) (Kd.gU Dy.out hb));go_wp2_with ((with_reducible refine Qq.out.mono ?_); rintro e w8 ⟨rfl, sM⟩; obtain ⟨Lr, qX⟩ := Xc.out _ sM; have FJ := Zd.mk Lr; have BV := Zd.mk qX; have jP := Zd.mk (iy.out.trans (sM.mono iy.out.size)); clear sM Lr qX);go_roundg (gk - 1)
          case measure => have := IM.out; omega
          case rel => exact ⟨q + 1, by have := IM.out; omega, by go_num, ⟨by rw [HS2.out]; exact FJ.out⟩, BV, jP⟩
        ·have HS2 := Zd.mk (HST.out.trans (if_neg (fun h => hz h.1)));have hz2 : ((sq.1.getD y 0) == 0) = false := by rw [beq_eq_false_iff_ne]; exact hz
         generalize sq.1.getD y 0 = cv at *;clear HST;go_wp2;go_roundg (gk - 1)
         case measure => have := IM.out; omega
         case rel => exact ⟨q + 1, by have := IM.out; omega, by go_num, ⟨by rw [HS2.out]; exact kN.out⟩, Dy, iy⟩
       ·have Bg : ¬ ((q : Nat) : Int) < (row.length : Int) := by omega
        have htk : row.take q = row := List.take_of_length_le ag;rw [htk] at kN;have HHN := Zd.mk (FH.out row (fun _ k => k)).1;clear htk;go_wp2;go_roundg (k1 - 1)
        case measure => have := HJ2.out; have := dR.out; have := oh.out; omega
        case rel => exact ⟨i + 1, Sg.mJ inn x s row, by have := HJ2.out; have := oh.out; omega, by go_num, ⟨by have := oh.out; rw [this]; exact WQ.out⟩, HHN, kN, iy⟩
    ·have hil : ¬ ((i : Nat) : Int) < (s.2.length : Int) := by omega
     have HE2 := Zd.mk (show FN = [] from by
      rw [← HE.out];cases k1 with
      | zero => rfl
      | succ k2 => unfold Sg.wD; rw [if_neg vF])
     subst et;clear WN;go_wp2;go_ret;exact ⟨_, rfl, by rw [← Ll.out, HE2.out]; exact Kd.lK _ _ _ _ _, HB2.out⟩
def PD.P (p : PD) : Nat := p.parts.length
theorem aqr (f : Nat → Bool) (l : List Nat) (j : Nat) (h : j < l.length) : (l.take (j + 1)).any f = ((l.take j).any f || f (l.getD j 0)) := by
 rw [wF h, List.any_append]; simp
theorem aqs (f : Nat → Bool) (i : Nat) : (List.range (i + 1)).all f = ((List.range i).all f && f i) := by
 rw [List.range_succ, List.all_append]; simp
theorem aqt {f : Nat → Bool} {i n : Nat} (h : i < n) (hf : f i = false) : (List.range n).all f = false := by
 cases e : (List.range n).all f with
 | false => rfl
 | true =>
  rw [List.all_eq_true] at e;have := e i (List.mem_range.2 h);rw [hf] at this;cases this
theorem aqu (p : PD) (g gc : Nat) (cb : List Bool) (A : Option Addr) (c : Nat) (all : List Nat) (w : World) (h : qc w g p) (hok : p.Ok) (hc : ze w gc cb) (hcl : cb.length = p.N) (hr : Kd.C bD w A all.length all) (hall : ∀ x, x ∈ all → x < p.N) (hne : 0 < all.length) (hal : all.length < 1000000) :
  Calls Tryz.prog 101 #[.pointer (some ⟨g, 0, none⟩), .pointer (some ⟨gc, 0, none⟩), .slice A all.length c] w fun e w' => e = .returned (.bool (Sg.gm p.next p.P p.good cb all)) ∧ Below w.heap.size w w' := by
 have fM := Tryz.underlying23;have BO := Tryz.underlying74;obtain ⟨A0, A1, A2, A5, A7, A8, c0, c1, c2, c5, c7, c8, h'⟩ := id h;have q7 := h'.q7;have FC := Zd.mk h;have eG := Zd.mk hok;have HR := Zd.mk hr;have uo := Zd.mk hall;obtain ⟨ad, rfl, q0⟩ := vC hr hne;rw [show ad.add 0 = ad by simp [Addr.add]] at q0;have hh : all.headD 0 = all.getD 0 0 := by cases all <;> rfl
 have BU := Zd.mk (show Sg.gm p.next p.P p.good cb all = (!((p.next (all.getD 0 0)).filter (Sg.aH cb)).isEmpty && (List.range p.P).all fun i => all.any fun x => p.good i x) from by unfold Sg.gm; rw [hh]; rfl);have Qr := Zd.mk (afp p g gc (all.getD 0 0) cb w h hok (hall _ (xR hne)) hc hcl);have hP : p.parts.length ≤ 8 := hok.pl;have h00 : (0 : Int) < (all.length : Int) := by omega
 clear h h' hok hr hall hc hh;generalize all.getD 0 0 = x0 at *;generalize (p.next x0).filter (Sg.aH cb) = inn at *;cases hie : inn.isEmpty with
 | true =>
  have hl : inn.length = 0 := by rw [List.isEmpty_iff] at hie; rw [hie]; rfl
  have HL := Zd.mk hl;have HE := Zd.mk (show Sg.gm p.next p.P p.good cb all = false from by rw [BU.out, hie]; rfl);clear hl hie;go_enter Tryz.func101, Tryz.ntmps101;go_wp2_with (go_at_call 69; refine Qr.out.mono ?_; rintro e w4 ⟨v4, rfl, vJ, hB4⟩; obtain ⟨A4, c4, e4, _, _⟩ := Kd.iO vJ; subst e4; rw [HL.out]; have bQ := Zd.mk hB4; clear hB4 vJ);go_ret;exact ⟨by rw [HE.out]; rfl, bQ.out⟩
 | false =>
  have hl : 0 < inn.length := by
   cases inn with
   | nil => cases hie
   | cons a r => simp
  have hl2 : ((inn.length : Int) == 0) = false := by rw [beq_eq_false_iff_ne]; omega
  have hl3 : ¬ inn.length = 0 := by omega
  have HE := Zd.mk (show Sg.gm p.next p.P p.good cb all = (List.range p.P).all fun i => all.any fun x => p.good i x from by rw [BU.out, hie]; rfl);clear hie;go_enter Tryz.func101, Tryz.ntmps101;go_wp2_with (go_at_call 69; refine Qr.out.mono ?_; rintro e w4 ⟨v4, rfl, vJ, hB4⟩; obtain ⟨A4, c4, e4, _, _⟩ := Kd.iO vJ; subst e4; have q7' := aG hB4 q7; have bQ := Zd.mk hB4; clear hB4 vJ);go_loopg [24] p.parts.length (fun kq v24 w' => ∃ i : Nat, i + kq = p.parts.length ∧ v24 = .int .i64 (i : Int) ∧ Zd ((List.range i).all (fun i => all.any fun x => p.good i x) = true) ∧ Zd (Below w.heap.size w w'))
  case atStart => exact ⟨0, by omega, rfl, ⟨rfl⟩, bQ⟩
  case round =>
   obtain ⟨WW, rfl⟩ : ∃ W : World, W = wr := ⟨_, rfl⟩;obtain ⟨i, hi, rfl, Ls, HB⟩ := hrel;obtain ⟨k1, hk1⟩ : ∃ k, k = gk := ⟨_, rfl⟩;rw [← hk1] at hi;have HI := Zd.mk hi;have dR := Zd.mk hk1;clear hi hk1;by_cases hlt : i < p.parts.length
   ·have hil : ((i : Nat) : Int) < (p.parts.length : Int) := by omega
    have HAR := Zd.mk (aqs (fun i => all.any fun x => p.good i x) i);have HAS := Zd.mk (fun hf => aqt (f := fun i => all.any fun x => p.good i x) (i := i) (n := p.P) hlt hf);have DC := Zd.mk (fun W (hb : Below w.heap.size w W) x hx => We p g i x W (FC.out.below hb) eG.out hx);go_wp2;go_loopg [8, 29] all.length (fun kq v8 v29 w' => ∃ (j : Nat) (b : Bool), j + kq = all.length ∧ v29 = .int .i64 (j : Int) ∧ v8 = .bool b ∧ Zd ((all.take j).any (fun x => p.good i x) = b) ∧ Zd (Below w.heap.size w w'))
    case atStart => exact ⟨0, false, by omega, rfl, rfl, ⟨rfl⟩, HB⟩
    case round =>
     obtain ⟨WX, rfl⟩ : ∃ W : World, W = wr := ⟨_, rfl⟩;obtain ⟨j, b, hj, rfl, rfl, DD, HB2⟩ := hrel;have HJ := Zd.mk hj;clear hj;by_cases hlj : j < all.length
     ·have hjl : ((j : Nat) : Int) < (all.length : Int) := by omega
      obtain ⟨ad2, e2, qj⟩ := vC HR.out hlj;cases e2;have Ld := aG HB2.out qj;have HAT := Zd.mk (aqr (fun x => p.good i x) all j hlj);have HG2 := Zd.mk (DC.out WX HB2.out _ (uo.out _ (xR hlj)));generalize all.getD j 0 = x at *;cases b with
      | true =>
       go_wp2;go_roundg (gk - 1)
       case measure => have := HJ.out; omega
       case rel => exact ⟨j + 1, true, by have := HJ.out; omega, by go_num, rfl, ⟨by rw [HAT.out, DD.out]; rfl⟩, HB2⟩
      | false =>
       have CW := Zd.mk (show ((all.take (j + 1)).any fun x => p.good i x) = p.good i x from by rw [HAT.out, DD.out, Bool.false_or]);generalize p.good i x = gv at *;go_wp2_with (go_at_call 67; refine HG2.out.mono ?_; rintro e w5 ⟨rfl, dJ⟩; have cZ := Zd.mk (HB2.out.trans (dJ.mono HB2.out.size)); clear dJ);go_roundg (gk - 1)
       case measure => have := HJ.out; omega
       case rel => exact ⟨j + 1, gv, by have := HJ.out; omega, by go_num, rfl, CW, cZ⟩
     ·have hjl : ¬ ((j : Nat) : Int) < (all.length : Int) := by omega
      have htk : all.take j = all := List.take_of_length_le ag;rw [htk] at DD;clear htk;cases b with
      | true =>
       have HN := Zd.mk (show (List.range (i + 1)).all (fun i => all.any fun x => p.good i x) = true from by rw [HAR.out, Ls.out]; simpa using DD.out);go_wp2;go_roundg (k1 - 1)
       case measure => have := HI.out; have := dR.out; omega
       case rel => exact ⟨i + 1, by have := HI.out; omega, by go_num, HN, HB2⟩
      | false =>
       have HN := Zd.mk (show Sg.gm p.next p.P p.good cb all = false from HE.out.trans (HAS.out DD.out));go_wp2;go_ret;exact ⟨by rw [HN.out]; rfl, HB2.out⟩
   ·have hil : ¬ ((i : Nat) : Int) < (p.parts.length : Int) := by omega
    have hie : p.P = i := by have := HI.out; show p.parts.length = i; omega
    have HN := Zd.mk (show Sg.gm p.next p.P p.good cb all = true from by rw [HE.out, hie]; exact Ls.out);clear hie;go_wp2;go_ret;exact ⟨by rw [HN.out]; rfl, HB.out⟩
def DF.DI : Bool × List (List Nat × List Nat) := (true, [([], []), ([], []), ([], []), ([], []), ([1, 2, 3], [1, 2, 3]), ([], []), ([], []), ([0, 4, 5, 6, 4], [0, 4, 5, 6]), ([7, 7, 0, 1, 2, 3, 4, 5, 6, 7], [7])])
def DF.Lt : List Nat := [0, 0, 0, 0, 14, 0, 0, 127, 255]
theorem DF.Lu : dh .any (opsOf Tryz.f47 12) = DF.DI := by kernel_rfl
theorem DF.Lv : ik DF.DI.2 DF.Lt = true := by kernel_rfl
theorem aqv (p : PD) (g b b9 i y : Nat) (W : World) (hb : ji W b (.pointer (some ⟨g, 0, none⟩)) 51) (hi : ji W b9 (.int .i64 (i : Int)) 3) (h : qc W g p) (hok : p.Ok) (hy : y < p.N) :
  Calls Tryz.prog 66 #[.int .i64 (y : Int), .pointer (some ⟨b, 0, none⟩), .pointer (some ⟨b9, 0, none⟩)] W fun e W' => e = .returned (.bool (p.good i y)) ∧ Below W.heap.size W W' := by
 have q := cell1 hb;have q9 := cell1 hi;have HC := Zd.mk (We p g i y W h hok hy);clear hb hi h hok hy;generalize p.good i y = r at *;go_enter Tryz.func66, Tryz.ntmps66;go_wp2_with (go_at_call 67; refine HC.out.mono ?_; rintro e w4 ⟨rfl, hB4⟩; have bQ := Zd.mk hB4; clear hB4);go_ret;exact ⟨rfl, bQ.out⟩
theorem aqw (p : PD) (g b b9 i y : Nat) (W : World) (hb : ji W b (.pointer (some ⟨g, 0, none⟩)) 51) (hi : ji W b9 (.int .i64 (i : Int)) 3) (h : qc W g p) (hok : p.Ok) (hy : y < p.N) :
  Calls Tryz.prog 68 #[.int .i64 (y : Int), .pointer (some ⟨b, 0, none⟩), .pointer (some ⟨b9, 0, none⟩)] W fun e W' => e = .returned (.bool (p.good i y)) ∧ Below W.heap.size W W' := by
 have q := cell1 hb;have q9 := cell1 hi;have HC := Zd.mk (We p g i y W h hok hy);clear hb hi h hok hy;generalize p.good i y = r at *;go_enter Tryz.func68, Tryz.ntmps68;go_wp2_with (go_at_call 67; refine HC.out.mono ?_; rintro e w4 ⟨rfl, hB4⟩; have bQ := Zd.mk hB4; clear hB4);go_ret;exact ⟨rfl, bQ.out⟩
theorem aqx (b x y : Nat) (W : World) (hb : ji W b (.int .i64 (x : Int)) 3) :
  Calls Tryz.prog 70 #[.int .i64 (y : Int), .pointer (some ⟨b, 0, none⟩)] W fun e W' => e = .returned (.bool (y == x)) ∧ Below W.heap.size W W' := by
 have q := cell1 hb;have e1 : (((y : Nat) : Int) == ((x : Nat) : Int)) = (y == x) := by
  rw [Bool.eq_iff_iff, beq_iff_eq, beq_iff_eq]; omega
 have HE := Zd.mk e1;clear hb e1;go_enter Tryz.func70, Tryz.ntmps70;go_wp2;go_ret;exact ⟨by rw [← HE.out]; first | rfl | simp, Below.refl _ _⟩
theorem Xd (gc N : Nat) (cb : List Bool) (w : World) (h : ze w gc cb) (hcl : cb.length = N) : wE 45 #[.pointer (some ⟨gc, 0, none⟩)] #[] (Sg.aH cb) N w :=
 ⟨sw Tryz.func45 aa rfl, fun W hW x hx => afh gc x cb W (h.below hW) (by rw [hcl]; exact hx)⟩
theorem afz {i l : Nat} (h : i ≤ 8) (h1 : l ≤ 1 + i * 51200) : l ≤ 1000000 := by omega
theorem Xe : ∀ (l : List Nat), l ≠ [] → l.getD (l.length - 1) 0 = l.getLastD 0
 | [], h => absurd rfl h
 | [a], _ => rfl
 | a :: b :: r, _ => by
  have := Xe (b :: r) (by simp);rw [List.getLastD_cons] at this;rw [List.getLastD_cons, List.getLastD_cons];show (a :: b :: r).getD (r.length + 1) 0 = _;rw [List.getD_cons_succ];exact this
theorem aqy {n i : Nat} (h : i < n) : (List.range n).drop i = i :: (List.range n).drop (i + 1) := by
 rw [List.drop_eq_getElem_cons (by simpa using h)]; simp
theorem aqz (w : World) (x : Nat) : Kd.C bD (w.alloc (.cells #[.int .i64 (x : Int)] 3)) (some ⟨w.heap.size, 0, none⟩) [x].length [x] := by
 have h := Kd.vY (enc := xQ) (h1 := fun _ => rfl) (xs := [x]) (ok := fun _ => True) (World.ownsRow_lit (base := 0) (e := 3) (size := 1) w #[.int .i64 (x : Int)] 1 (Nat.zero_le _) ai rfl) (fun _ _ => trivial);obtain ⟨A, c, e, _, hC⟩ := Kd.iO h;cases e;exact hC
theorem aqA (w : World) (x base : Nat) (hb : base ≤ w.heap.size) : Kd.R bD 3 (w.alloc (.cells #[.int .i64 (x : Int)] 3)) base (fun _ => True) (.slice (some ⟨w.heap.size, 0, none⟩) 1 1) [x] :=
 Kd.vY (enc := xQ) (h1 := fun _ => rfl) (xs := [x]) (World.ownsRow_lit (base := base) (e := 3) (size := 1) w #[.int .i64 (x : Int)] 1 hb ai rfl) (fun _ _ => trivial)
theorem aqB {w : World} {A : Option Addr} {c : Nat} {xs : List Nat} (hne : 0 < xs.length) (hc : xs.length ≤ c) (hC : Kd.C bD w A xs.length xs) :
  (∀ W : World, (Instr.slice 23 (.slice A xs.length c) none (some (.int .i64 ((xs.length : Int) - 1))) none).run Tryz.prog W = .ok (.slice A xs.dropLast.length c) W) ∧ Kd.C bD w A xs.dropLast.length xs.dropLast := by
 obtain ⟨iI, h1, h2⟩ := Option.map_eq_some_iff.1 nR;simp only [Prod.mk.injEq] at h2;obtain ⟨hr, hd, _⟩ := ai2 xQ 0 23 3 .i64 Tryz.underlying23 h1 h2.2.1 A c xs ((xs.length : Int) - 1) ag ag hc;have e : xs.take ((xs.length : Int) - 1).toNat = xs.dropLast := by
  rw [List.dropLast_eq_take]; congr 1; omega
 rw [e] at hr hd;exact ⟨hr, Kd.JH (d := 0) (hd w (Kd.yw (d := 0) hC))⟩
theorem aqC (p : PD) (g gc x : Nat) (cb : List Bool) (frm : List Nat) (w : World) (h : qc w g p) (hok : p.Ok) (hc : ze w gc cb) (hG : Sg.vk p.next p.N p.P p.good frm cb) (hx : cb.getD x false = true) :
  Calls Tryz.prog 47 #[.pointer (some ⟨g, 0, none⟩), .pointer (some ⟨gc, 0, none⟩), .int .i64 (x : Int)] w fun e w' => ∃ v, e = .returned v ∧ Kd.R bD 3 w' w.heap.size (fun _ => True) v (Sg.vB p.next (Sg.aH cb) p.good p.N p.P x) ∧ Below w.heap.size w w' ∧ (Sg.vB p.next (Sg.aH cb) p.good p.N p.P x).length ≤ 2000000 := by
 have fM := Tryz.underlying23;have BO := Tryz.underlying74;have xE : ∀ fn first cap w, (Instr.makeFunc fn first cap).run Tryz.prog w = .ok (.func fn first cap) w := fun _ _ _ _ => rfl;obtain ⟨W1, hW1⟩ : ∃ W1, W1 = w.alloc (.cells #[.pointer (some ⟨g, 0, none⟩)] 51) := ⟨_, rfl⟩;obtain ⟨W2, hW2⟩ : ∃ W2, W2 = W1.alloc (.cells #[.int .i64 (x : Int)] 3) := ⟨_, rfl⟩;have hz1 : W1.heap.size = w.heap.size + 1 := by rw [hW1]; simp
 have hB1 : Below w.heap.size w W1 := by rw [hW1]; exact aW (Below.refl _ _) _
 have hB2 : Below w.heap.size w W2 := by rw [hW2]; exact aW hB1 _
 have hb3 : ji W2 w.heap.size (.pointer (some ⟨g, 0, none⟩)) 51 := by rw [hW2, hW1]; exact bf (heap_alloc_new w _) _
 have hb5 : ji W2 (w.heap.size + 1) (.int .i64 (x : Int)) 3 := by rw [hW2, ← hz1]; exact heap_alloc_new W1 _
 have HWW := Zd.mk (show W2 = (w.alloc (.cells #[.pointer (some ⟨g, 0, none⟩)] 51)).alloc (.cells #[.int .i64 (x : Int)] 3) from by rw [hW2, hW1]);have HB2 := Zd.mk hB2;have HB3 := Zd.mk hb3;have cZ := Zd.mk hb5;have FC := Zd.mk (h.below hB2);have DJ := Zd.mk (hc.below hB2);have eG := Zd.mk hok;have zg := Zd.mk hG;have j4 := Zd.mk (fun x (hx : x < p.N) y (hy : y ∈ p.next x) => hok.xS hx hy);obtain ⟨A0, A1, A2, A5, A7, A8, c0, c1, c2, c5, c7, c8, h'⟩ := id (h.below hB2);have q7 := h'.q7;have hcx := cell1 hb3;have hpl : p.parts.length ≤ 8 := hok.pl;have hN := hok.BN;have Bp := Zd.mk hx;have xI := Zd.mk (show Sg.vB p.next (Sg.aH cb) p.good p.N p.P x = Sg.VY p.next (Sg.aH cb) p.N x (Sg.ug p.next (Sg.aH cb) p.good p.N (List.range p.P) [x]) from rfl);have pQ := Zd.mk (aqA W2 x W2.heap.size (Nat.le_refl _));have Xf := Zd.mk (show Below W2.heap.size W2 (W2.alloc (.cells #[.int .i64 (x : Int)] 3)) from aW (Below.refl _ _) _);have q7a := aG Xf.out q7;have awo := aG Xf.out hcx;have awp := cell1 hb5;obtain ⟨PF, Xg⟩ : ∃ F, F = Sg.ug p.next (Sg.aH cb) p.good p.N (List.range p.P) [x] := ⟨_, rfl⟩;rw [← Xg] at xI;have Qs := Zd.mk Xg;clear h h' hc hok hG hx hW1 hW2 hz1 hB1 hB2 hb3 hb5 Xg;go_enter Tryz.func47, Tryz.ntmps47;go_upto_region 1 with fail
 rw [← HWW.out];go_wp2;go_loopg [8, 23] p.parts.length (fun kq v8 v23 w' => ∃ (i : Nat) (cur : List Nat), i + kq = p.parts.length ∧ v23 = .int .i64 (i : Int) ∧ Zd (Sg.ug p.next (Sg.aH cb) p.good p.N ((List.range p.P).drop i) cur = PF) ∧ Zd (Sg.Walk p.next (Sg.aH cb) x cur) ∧ Zd (cur.length ≤ 1 + i * 51200) ∧ Zd (Kd.R bD 3 w' W2.heap.size (fun _ => True) v8 cur) ∧ Zd (Below W2.heap.size W2 w'))
 case atStart => exact ⟨0, [x], by omega, rfl, ⟨Qs.out.symm⟩, ⟨trivial, ⟨[], rfl⟩, fun y hy => by rw [List.mem_singleton.1 hy]; exact Bp.out⟩, ⟨Nat.le_refl _⟩, pQ, Xf⟩
 case round =>
  obtain ⟨WW, rfl⟩ : ∃ W : World, W = wr := ⟨_, rfl⟩;obtain ⟨i, cur, hj, rfl, HPE, FL, oP, HV, HB⟩ := hrel;have HJ := Zd.mk hj;clear hj;obtain ⟨q, hq⟩ := FL.out.head;have Xh : cur ≠ [] := by rw [hq]; simp
  have hcl0 : 0 < cur.length := by rw [hq]; simp
  clear hq;have hmem : ∀ y, y ∈ cur → y < p.N := fun y hy => zg.out.lt y (FL.out.mem y hy);obtain ⟨Ac, cc, ec, hcc, DK⟩ := Kd.iO HV.out;cases ec;have hlast := Xe cur Xh;obtain ⟨adc, eac, afA⟩ := vC DK (j := cur.length - 1) ag;cases eac;rw [hlast] at afA;by_cases hlt : i < p.parts.length
  ·have hil : ((i : Nat) : Int) < (p.parts.length : Int) := by omega
   have hcl : cur.length ≤ 1000000 := afz ag oP.out;have IQ := Zd.mk (show Sg.ug p.next (Sg.aH cb) p.good p.N ((List.range p.P).drop (i + 1)) (if cur.any (p.good i) = true then cur else cur ++ (Sg.kM p.next (Sg.aH cb) (p.good i) p.N [cur.getLastD 0]).tail) = PF from by
    have := HPE.out;rw [aqy (show i < p.P from hlt), Sg.apQ] at this;exact this)
   obtain ⟨hln, mm, Lx, afB⟩ := Sg.apO zg.out j4.out (i := i) hlt FL.out;have HWL := Zd.mk (Sg.V7 (inn := Sg.aH cb) (goal := p.good i) j4.out (frm := [cur.getLastD 0]) (fun y hy => by rw [List.mem_singleton.1 hy]; exact hln));rw [Lx] at IQ HWL;obtain ⟨W9, Qt⟩ : ∃ W9, W9 = WW.alloc (.cells #[.int .i64 (i : Int)] 3) := ⟨_, rfl⟩;have Qu : Below WW.heap.size WW W9 := by rw [Qt]; exact aW (Below.refl _ _) _
   have LA : Below W2.heap.size W2 W9 := HB.out.trans (Qu.mono HB.out.size);have LB : ji W9 WW.heap.size (.int .i64 (i : Int)) 3 := by rw [Qt]; exact heap_alloc_new WW _
   have IU : ji W9 w.heap.size (.pointer (some ⟨g, 0, none⟩)) 51 := (LA.block _ (aT HB3.out)).trans HB3.out;have Xi := Zd.mk (FC.out.below LA);have hp1 : wE 66 #[] #[.pointer (some ⟨w.heap.size, 0, none⟩), .pointer (some ⟨WW.heap.size, 0, none⟩)] (p.good i) p.N W9 :=
    ⟨sw Tryz.func66 aa rfl, fun W hW y hy => aqv p g w.heap.size WW.heap.size i y W ((hW.block _ (aT IU)).trans IU) ((hW.block _ (aT LB)).trans LB) (Xi.out.below hW) eG.out hy⟩
   have hp2 : wE 68 #[] #[.pointer (some ⟨w.heap.size, 0, none⟩), .pointer (some ⟨WW.heap.size, 0, none⟩)] (p.good i) p.N W9 :=
    ⟨sw Tryz.func68 aa rfl, fun W hW y hy => aqw p g w.heap.size WW.heap.size i y W ((hW.block _ (aT IU)).trans IU) ((hW.block _ (aT LB)).trans LB) (Xi.out.below hW) eG.out hy⟩
   have Qv := Zd.mk (apX _ _ _ _ p.N (some adc) cc cur W9 hp1 (Kd.aQ DK Qu) hmem ag);have FM := Zd.mk (fun W (hb : Below W9.heap.size W9 W) => show Calls Tryz.prog 43 #[.pointer (some ⟨g, 0, none⟩), .slice (some ⟨W.heap.size, 0, none⟩) 1 1, .func (.func 45) #[.pointer (some ⟨gc, 0, none⟩)] #[], .func (.func 68) #[] #[.pointer (some ⟨w.heap.size, 0, none⟩), .pointer (some ⟨WW.heap.size, 0, none⟩)]] (W.alloc (.cells #[.int .i64 ((cur.getLastD 0 : Nat) : Int)] 3)) _ from
    WL p g 45 68 #[.pointer (some ⟨gc, 0, none⟩)] #[] #[] #[.pointer (some ⟨w.heap.size, 0, none⟩), .pointer (some ⟨WW.heap.size, 0, none⟩)] (Sg.aH cb) (p.good i) (some ⟨W.heap.size, 0, none⟩) 1 [cur.getLastD 0] (W.alloc (.cells #[.int .i64 ((cur.getLastD 0 : Nat) : Int)] 3))
     ((Xi.out.below hb).below (aW (Below.refl _ _) _)) eG.out ((Xd gc p.N cb W ((DJ.out.below LA).below hb) zg.out.len).below (aW (Below.refl _ _) _)) ((hp2.below hb).below (aW (Below.refl _ _) _)) (aqz W _) (fun y hy => by rw [List.mem_singleton.1 hy]; exact hln) (by simp))
   rw [Lx] at FM;have aqD := Zd.mk afB;have HW9 := Zd.mk Qt;have fE := Zd.mk Qu;have awq := Zd.mk LA;have aqE := cell1 IU;have HHF := Zd.mk (sw Tryz.func45 aa rfl);have ht : (((cur.length : Nat) : Int) - 1).toNat = cur.length - 1 := by omega
   have aqF : (1 : Int) ≤ (cur.length : Int) := by omega
   have aqG : (cur.length : Int) - 1 < (cur.length : Int) := by omega
   have afC : (cur.getLastD 0 :: mm).length ≤ 51200 := Nat.le_trans HWL.out hN;obtain ⟨iI, BZ⟩ : ∃ iI, Tryz.prog.info? 3 = some iI ∧ iI.size = 1 := by
    obtain ⟨iI, h1, h2⟩ := Option.map_eq_some_iff.1 nR;simp only [Prod.mk.injEq] at h2;exact ⟨iI, h1, h2.2.1⟩
   have afD := Zd.mk (fun A c => aiW xQ 0 23 3 .i64 fM BZ.1 BZ.2 A (cur.getLastD 0 :: mm).length c 1 (by simp));generalize cur.getLastD 0 = last at *;have hmd : (last :: mm).drop 1 = mm := rfl;have HMD := Zd.mk (show ∀ W A c, (last :: mm).length ≤ c → Kd.C bD W A (last :: mm).length (last :: mm) → ∃ A', (∀ W : World, (Instr.slice 23 (.slice A (last :: mm).length c) (some (.int .i64 (1 : Int))) none none).run Tryz.prog W = .ok (.slice A' mm.length (c - 1)) W) ∧ Kd.C bD W A' mm.length mm from fun W A c hle hC => by
    obtain ⟨A', h1, h2⟩ := afD.out A c;refine ⟨A', fun W => ?_, Kd.JH (d := 0) (by have := h2 W _ hle (Kd.yw (d := 0) hC); exact this)⟩;have := h1 W;exact this)
   have awr : mm.length ≤ 51200 := by simp at afC; omega
   obtain ⟨more, hmo⟩ : ∃ more, more = last :: mm := ⟨_, rfl⟩;rw [← hmo] at FM HMD IQ;have qg := Zd.mk (show more.tail = mm from by rw [hmo]; rfl);clear hmd hmo afC Lx afB hp1 hp2 LB IU DK hcc hmem Xh afD BZ hlast Qt Qu LA;cases hany : cur.any (p.good i) with
   | true =>
    rw [hany] at Qv;have Xj := Zd.mk (show Sg.ug p.next (Sg.aH cb) p.good p.N ((List.range p.P).drop (i + 1)) cur = PF from by have := IQ.out; rwa [hany, if_pos rfl] at this);clear hany IQ;go_upto_region 6 with fail
    rw [← HW9.out];go_wp2_with (go_at_call 65; refine Qv.out.mono ?_; rintro e w5 ⟨rfl, dJ⟩; have cZ := Zd.mk (fE.out.trans (dJ.mono fE.out.size)); clear dJ);go_roundg (gk - 1)
    case measure => have := HJ.out; omega
    case rel => exact ⟨i + 1, cur, by have := HJ.out; omega, by go_num, Xj, FL, ⟨Nat.le_trans oP.out (Nat.add_le_add_left (Nat.mul_le_mul_right _ (Nat.le_succ i)) 1)⟩, ⟨Kd.gU HV.out cZ.out⟩, ⟨HB.out.trans (cZ.out.mono HB.out.size)⟩⟩
   | false =>
    rw [hany] at Qv;have Xj := Zd.mk (show Sg.ug p.next (Sg.aH cb) p.good p.N ((List.range p.P).drop (i + 1)) (cur ++ mm) = PF from by have := IQ.out; rwa [hany, if_neg (by simp), qg.out] at this);clear hany IQ;have hmore : (last :: mm).length = mm.length + 1 := rfl;go_upto_region 6 with fail
    rw [← HW9.out];go_wp2_with (first
     | (go_at_call 65; refine Qv.out.mono ?_; rintro e w5 ⟨rfl, dJ⟩; have Xk := fE.out.trans (dJ.mono fE.out.size); have aws := aG Xk afA; have aqH := aG dJ aqE; have awt := aG (aW (Below.refl _ _) (.cells #[.int .i64 (last : Int)] 3)) aqH; have cZ := Zd.mk dJ; have DL := Zd.mk Xk; have Qw := Zd.mk (FM.out w5 dJ); clear dJ Xk)
     | (go_at_call 43; refine Qw.out.mono ?_; rintro e w6 ⟨v6, rfl, oz, fP⟩; obtain ⟨Am, cm, em, hcm, hCm⟩ := Kd.iO oz; subst em; obtain ⟨A', hrun, hC'⟩ := HMD.out w6 Am cm hcm hCm; have HC' := Zd.mk hC'; have gP := Zd.mk (DL.out.trans ((aW (Below.refl _ _) _ : Below w5.heap.size w5 _).trans (fP.mono (by simp)) |>.mono DL.out.size)); clear oz fP hcm hCm hC')
     | ((with_reducible refine lL (b := .append) (xs := #[.tmp 41, .tmp 43]) rfl ?_); at_builtin; refine Kd.Ez xQ 0 (h1 := fun _ => rfl) (w0 := W2) W2.heap.size rfl (.tmp 41) (.tmp 43) 23 3 (.int .i64 0) 8 rfl fM nR rfl ai (.slice (some adc) cur.length cc) cur mm A' mm.length (cm - 1) (fun _ => True) rfl rfl (fun _ _ => trivial) (Kd.gU HV.out gP.out) HC'.out (HB.out.trans (gP.out.mono HB.out.size)) (HB.out.trans (gP.out.mono HB.out.size)).size ag ?_; intro v7 w7 l9 xV hg hat; have kN := Zd.mk l9; have iy := Zd.mk xV; clear l9 xV hg hat))
    go_roundg (gk - 1)
    case measure => have := HJ.out; omega
    case rel => exact ⟨i + 1, cur ++ mm, by have := HJ.out; omega, by go_num, Xj, aqD, ⟨by have h1 := oP.out; rw [List.length_append, Nat.succ_mul]; generalize i * 51200 = t at h1 ⊢; omega⟩, kN, iy⟩
  ·have hil : ¬ ((i : Nat) : Int) < (p.parts.length : Int) := by omega
   have hcl : cur.length ≤ 1000000 := afz (by have := HJ.out; omega) oP.out;have aqI := Zd.mk (show cur = PF from by
    have := HPE.out;rw [List.drop_eq_nil_of_le (by rw [List.length_range]; show p.parts.length ≤ i; omega)] at this;exact this)
   obtain ⟨hln, hbw⟩ := Sg.apP zg.out j4.out Bp.out FL.out;have hinl : ∀ y, y ∈ (p.next (cur.getLastD 0)).filter (Sg.aH cb) → y < p.N := fun y hy => j4.out _ hln y (List.mem_filter.1 hy).1;have jQ := Zd.mk (Sg.V7 (inn := Sg.aH cb) (goal := fun y => y == x) j4.out hinl);have afE := Zd.mk (show 0 < (Sg.kM p.next (Sg.aH cb) (fun y => y == x) p.N ((p.next (cur.getLastD 0)).filter (Sg.aH cb))).length from List.length_pos_iff.2 hbw);have hlen : ((p.next (cur.getLastD 0)).filter (Sg.aH cb)).length < 1000000 := by
    have h1 := eG.out.Qa (x := cur.getLastD 0) (j := (p.nxs.getD (cur.getLastD 0 / p.size) []).length) hln;rw [List.take_of_length_le (Nat.le_refl _)] at h1;have h2 : (p.next (cur.getLastD 0)).length ≤ 51200 := h1;have h3 := List.length_filter_le (Sg.aH cb) (p.next (cur.getLastD 0));omega
   have Qr := Zd.mk (fun W (hb : Below WW.heap.size WW W) => afp p g gc (cur.getLastD 0) cb W ((FC.out.below HB.out).below hb) eG.out hln ((DJ.out.below HB.out).below hb) zg.out.len);have LC : ji WW (w.heap.size + 1) (.int .i64 (x : Int)) 3 := (HB.out.block _ (aT cZ.out)).trans cZ.out;have FM := Zd.mk (fun A c W (hb : Below WW.heap.size WW W) (hC : Kd.C bD W A ((p.next (cur.getLastD 0)).filter (Sg.aH cb)).length ((p.next (cur.getLastD 0)).filter (Sg.aH cb))) =>
    WL p g 45 70 #[.pointer (some ⟨gc, 0, none⟩)] #[] #[] #[.pointer (some ⟨w.heap.size + 1, 0, none⟩)] (Sg.aH cb) (fun y => y == x) A c ((p.next (cur.getLastD 0)).filter (Sg.aH cb)) W
     ((FC.out.below HB.out).below hb) eG.out (Xd gc p.N cb W ((DJ.out.below HB.out).below hb) zg.out.len) ⟨sw Tryz.func70 aa rfl, fun W' hW' y hy => aqx (w.heap.size + 1) x y W' ((hW'.block _ (aT ((hb.block _ (aT LC)).trans LC))).trans ((hb.block _ (aT LC)).trans LC))⟩ hC hinl hlen)
   have afF := Zd.mk (show Sg.vB p.next (Sg.aH cb) p.good p.N p.P x = cur ++ (Sg.kM p.next (Sg.aH cb) (fun y => y == x) p.N ((p.next (cur.getLastD 0)).filter (Sg.aH cb))).dropLast from by rw [xI.out, ← aqI.out]; rfl);have z3 := aG HB.out hcx;have ht : (((cur.length : Nat) : Int) - 1).toNat = cur.length - 1 := by omega
   have aqF : (1 : Int) ≤ (cur.length : Int) := by omega
   have aqG : (cur.length : Int) - 1 < (cur.length : Int) := by omega
   generalize Sg.kM p.next (Sg.aH cb) (fun y => y == x) p.N ((p.next (cur.getLastD 0)).filter (Sg.aH cb)) = back at *;generalize (p.next (cur.getLastD 0)).filter (Sg.aH cb) = inl at *;generalize cur.getLastD 0 = last at *;have awu : back.length ≤ 51200 := Nat.le_trans jQ.out hN;have awv : (1 : Int) ≤ (back.length : Int) := by have := afE.out; omega
   have hbd : back.dropLast.length ≤ 51200 := by rw [List.length_dropLast]; omega
   clear DK hcc hmem Xh hlast hinl hbw hln hlen LC;go_upto_region 12 with fail
   obtain ⟨WE, rfl⟩ : ∃ W : World, W = WW := ⟨_, rfl⟩;refine iP (n := 9) (S := fun w' => w'.cell? ⟨w.heap.size, 0, none⟩ = some (.pointer (some ⟨g, 0, none⟩))) (ds := []) abP aa rfl rfl (z3) (fun hHeld => ?_);refine iR DF.Lu DF.Lv (fun ae bA => ?_);refine pz ae.out 2 (some 54) ak7 rfl rfl ?_;refine pz ae.out 3 (some 55) ak8 rfl rfl ?_;refine pz ae.out 5 (some 57) ak9 rfl rfl ?_;refine pz ae.out 6 (some 58) ak_ rfl rfl ?_;refine tz ae.out bA.out 0 (some 52) ala rfl rfl hHeld ?_;refine tz ae.out bA.out 1 (some 53) alb rfl rfl hHeld ?_;refine gV (i := 4) (N := some 56) abQ rfl rfl (di ae.out aa) ai (fun K hK => ?_);refine jT Tryz.func69 aa rfl #[.pointer (some ⟨g, 0, none⟩), .pointer (some ⟨gc, 0, none⟩), .int .i64 (last : Int)] bu rfl rfl (by simp only [List.map_toArray, List.map_cons, List.map_nil]; rfl) ?_
   with_reducible refine (Qr.out _ (show Below WE.heap.size WE WE.drew from bV (Below.refl _ _))).mono ?_
   rintro e_ wc4 ⟨v4, rfl, vJ, hB⟩;have Qx := Zd.mk (show Below WE.heap.size WE wc4 from (bV (Below.refl _ _)).trans hB);obtain ⟨Ai, ci, ei, hci, hCi⟩ := Kd.iO vJ;subst ei;have HCi := Zd.mk hCi;clear vJ hci hCi;clear hB hHeld;refine ⟨_, rfl, ?_⟩;refine hK.out _ _ ((aG Qx.out z3)) (fun hHeld => ?_);clear hK K;refine gW (a' := ?_) ?_ ?_;rotate_left
   ·show Act.put _ (some 56) _ = _;simp only [Act.put, List.setIfInBounds_toArray, List.set_cons_zero, List.set_cons_succ, bE, dS];rfl
   refine gV (i := 7) (N := some 59) abR rfl rfl (di ae.out aa) ai (fun K hK => ?_);refine jT Tryz.func43 aa rfl #[.pointer (some ⟨g, 0, none⟩), .slice Ai inl.length ci, .func (.func 45) #[.pointer (some ⟨gc, 0, none⟩)] #[], .func (.func 70) #[] #[.pointer (some ⟨w.heap.size + 1, 0, none⟩)]] bu rfl rfl (by simp only [List.map_toArray, List.map_cons, List.map_nil]; rfl) ?_
   with_reducible refine (FM.out _ _ _ Qx.out HCi.out).mono ?_
   rintro e_ wc7 ⟨v7, rfl, l9, hB⟩;have Xl := Zd.mk (show Below WE.heap.size WE wc7 from Qx.out.trans (hB.mono Qx.out.size));obtain ⟨Aw, cw, ew, hcw, Pq⟩ := Kd.iO l9;subst ew;obtain ⟨hrun, hCd⟩ := aqB afE.out hcw Pq;have aqJ := Zd.mk hrun;have HCd := Zd.mk hCd;clear l9 hcw Pq hrun hCd;clear hB hHeld;refine ⟨_, rfl, ?_⟩;refine hK.out _ _ ((aG Xl.out z3)) (fun hHeld => ?_);clear hK K;refine gW (a' := ?_) ?_ ?_;rotate_left
   ·show Act.put _ (some 59) _ = _;simp only [Act.put, List.setIfInBounds_toArray, List.set_cons_zero, List.set_cons_succ, bE, dS];rfl
   refine pz ae.out 8 (some 13) abS rfl rfl ?_;refine kD (kE ae.out aa) ?_;clear hHeld ae bA;have hrun := aqJ.out;have Qh := Zd.mk (HB.out.trans (Xl.out.mono HB.out.size));go_wp2_with ((with_reducible refine lL (b := .append) (xs := #[.tmp 60, .tmp 65]) rfl ?_); at_builtin; refine Kd.Ez xQ 0 (h1 := fun _ => rfl) (w0 := W2) W2.heap.size rfl (.tmp 60) (.tmp 65) 23 3 (.int .i64 0) 8 rfl fM nR rfl ai (.slice (some adc) cur.length cc) cur back.dropLast Aw (back.length - 1) cw (fun _ => True) rfl rfl (fun _ _ => trivial) (Kd.gU HV.out Xl.out) (by have := HCd.out; rwa [List.length_dropLast] at this) Qh.out Qh.out.size ag ?_; intro v7 w7 l9 xV hg hat; have kN := Zd.mk l9; have iy := Zd.mk xV; clear l9 xV hg hat);go_ret;exact ⟨_, rfl, by rw [afF.out]; exact Kd.sj kN.out HB2.out.size, HB2.out.trans (iy.out.mono HB2.out.size), by rw [afF.out, List.length_append]; omega⟩
structure lD (ρ : Nat → Nat) (r : Nat) (W W1 : World) : Prop where
 size : W.heap.size ≤ W1.heap.size
 block : ∀ k, k < W.heap.size → ρ k ≠ r → W1.heap[k]? = W.heap[k]?
theorem lD.set {ρ : Nat → Nat} {r b : Nat} {W : World} (h : ρ b = r) (j : Nat) (u : Value) : lD ρ r W (W.setCell ⟨b, j, none⟩ u) :=
 ⟨by simp, fun k _ hk => Below.heap_setCell W ⟨b, j, none⟩ u k (fun e => hk (by rw [e]; exact h))⟩
theorem lD.below {ρ : Nat → Nat} {r : Nat} {W W1 : World} (h : Below W.heap.size W W1) : lD ρ r W W1 := ⟨h.size, fun k hk _ => h.block k hk⟩
theorem lD.grown {ρ : Nat → Nat} {r : Nat} {W W1 : World} {row : Option Nat} (h : W.grownBy W1 row) (hr : ∀ k, row = some k → ρ k = r) : lD ρ r W W1 := ⟨h.size, fun k hk hn => h.block k hk (fun e => hn (hr k e.symm))⟩
def uq (ρ : Nat → Nat) (n r : Nat) : Nat → Nat := fun k => if k < n then ρ k else r
theorem Ca {ρ : Nat → Nat} {n r k : Nat} (h : k < n) : uq ρ n r k = ρ k := by unfold uq; rw [if_pos h]
theorem IV {ρ : Nat → Nat} {n r k : Nat} (h : n ≤ k) : uq ρ n r k = r := by unfold uq; rw [if_neg ag]
section
variable {α : Type} {d : Kd α} {e base : Nat} {v : Value} {xs : List α} {ρ : Nat → Nat} {r q : Nat} {W W1 : World}
theorem ek (h : d.R e W base (fun k => ρ k = q) v xs) (hk : lD ρ r W W1) (hn : q ≠ r) : d.R e W1 base (fun k => ρ k = q) v xs := Kd.Eu h (fun k ho hlt => hk.block k hlt (by rw [ho]; exact hn))
theorem Qy (h : d.R e W base (fun k => ρ k = q) v xs) : d.R e W base (fun k => uq ρ W.heap.size r k = q) v xs := Kd.jd (Kd.xn h) (fun k hk => by rw [Ca hk.2.2.1]; exact hk.1)
end
theorem aqK {w w1 : World} {A : Option Addr} {n : Nat} {xs : List Nat} (h : Kd.C bD w A n xs) (hk : ∀ ad, A = some ad → 0 < n → w1.heap[ad.block]? = w.heap[ad.block]?) : Kd.C bD w1 A n xs := by
 obtain ⟨h1, h2, h3⟩ := Kd.yw (d := 0) h;refine Kd.JH (d := 0) ⟨h1, h2, fun hn => ?_⟩;obtain ⟨ad, e, hc⟩ := h3 hn;refine ⟨ad, e, fun j hj => ?_⟩;have hb : (ad.add j).block = ad.block := by unfold Addr.add; split <;> rfl
 have hk2 := hk ad e hn;rw [← hb] at hk2;rw [World.cell?_of_block hk2];exact hc j hj
theorem aqL {w w1 : World} {A : Option Addr} {n : Nat} {xs : List Bool} (h : Kd.C Kd.bool w A n xs) (hk : ∀ ad, A = some ad → 0 < n → w1.heap[ad.block]? = w.heap[ad.block]?) : Kd.C Kd.bool w1 A n xs := by
 obtain ⟨h1, h2, h3⟩ := Kd.yw (d := false) h;refine Kd.JH (d := false) ⟨h1, h2, fun hn => ?_⟩;obtain ⟨ad, e, hc⟩ := h3 hn;refine ⟨ad, e, fun j hj => ?_⟩;have hb : (ad.add j).block = ad.block := by unfold Addr.add; split <;> rfl
 have hk2 := hk ad e hn;rw [← hb] at hk2;rw [World.cell?_of_block hk2];exact hc j hj
structure gQ where
 x : Nat
 A : Option Addr
 cap : Nat
 rest : List Nat
def zh (e : gQ) : List Value := [.int .i64 (e.x : Int), .slice e.A e.rest.length e.cap]
structure xW (ρ : Nat → Nat) (W : World) (e : gQ) : Prop where
 cap : e.rest.length ≤ e.cap
 rd : Kd.C bD W e.A e.rest.length e.rest
 role : ∀ ad, e.A = some ad → 0 < e.rest.length → ρ ad.block = 7 ∧ ad.block < W.heap.size
theorem xW.keep {ρ : Nat → Nat} {r : Nat} {W W1 : World} {e : gQ} (h : xW ρ W e) (hk : lD ρ r W W1) (hn : r ≠ 7) : xW ρ W1 e :=
 ⟨h.cap, aqK h.rd (fun ad ha hp => hk.block _ (h.role ad ha hp).2 (by rw [(h.role ad ha hp).1]; exact Ne.symm hn)), fun ad ha hp => ⟨(h.role ad ha hp).1, Nat.lt_of_lt_of_le (h.role ad ha hp).2 hk.size⟩⟩
theorem xW.wJ {ρ : Nat → Nat} {r : Nat} {W : World} {e : gQ} (h : xW ρ W e) : xW (uq ρ W.heap.size r) W e :=
 ⟨h.cap, h.rd, fun ad ha hp => ⟨by rw [Ca (h.role ad ha hp).2]; exact (h.role ad ha hp).1, (h.role ad ha hp).2⟩⟩
structure sO (ρ : Nat → Nat) (base : Nat) (W : World) (vc : Value) (E : List gQ) : Prop where
 own : W.ownsRow base 129 2 vc E.length (E.flatMap zh)
 role : ∀ k, vc.ownBlock = some k → ρ k = 6
 AP : ∀ e, e ∈ E → xW ρ W e
theorem sO.keep {ρ : Nat → Nat} {r base : Nat} {W W1 : World} {vc : Value} {E : List gQ} (h : sO ρ base W vc E) (hk : lD ρ r W W1) (h6 : r ≠ 6) (h7 : r ≠ 7) : sO ρ base W1 vc E :=
 ⟨yu h.own (fun k hk' => hk.block k (iD h.own k hk') (by rw [h.role k hk']; exact Ne.symm h6)), h.role, fun e he => (h.AP e he).keep hk h7⟩
theorem sO.wJ {ρ : Nat → Nat} {r base : Nat} {W : World} {vc : Value} {E : List gQ} (h : sO ρ base W vc E) : sO (uq ρ W.heap.size r) base W vc E :=
 ⟨h.own, fun k hk => by rw [Ca (iD h.own k hk)]; exact h.role k hk, fun e he => (h.AP e he).wJ⟩
def uu (ρ : Nat → Nat) (W : World) (fo : Option Addr) (f : Option (List Bool)) : Prop :=
 match f, fo with
 | none, none => True
 | some c, some a => ∃ gc, a = ⟨gc, 0, none⟩ ∧ ∃ A k, W.heap[gc]? = some (.cells #[.slice A c.length k] 110 (0, 0)) ∧ Kd.C Kd.bool W A c.length c ∧ ρ gc = 7 ∧ ∀ ad, A = some ad → 0 < c.length → ρ ad.block = 7 ∧ ad.block < W.heap.size
 | _, _ => False
theorem uu.keep {ρ : Nat → Nat} {r : Nat} {W W1 : World} {fo : Option Addr} {f : Option (List Bool)} (h : uu ρ W fo f) (hk : lD ρ r W W1) (h7 : r ≠ 7) : uu ρ W1 fo f := by
 match f, fo, h with
 | none, none, _ => trivial
 | some c, some a, ⟨gc, e, A, k, h1, h2, h3, h4⟩ =>
  exact ⟨gc, e, A, k, (hk.block gc (aT h1) (by rw [h3]; exact Ne.symm h7)).trans h1, aqL h2 (fun ad ha hp => hk.block _ (h4 ad ha hp).2 (by rw [(h4 ad ha hp).1]; exact Ne.symm h7)), h3, fun ad ha hp => ⟨(h4 ad ha hp).1, Nat.lt_of_lt_of_le (h4 ad ha hp).2 hk.size⟩⟩
theorem uu.wJ {ρ : Nat → Nat} {r : Nat} {W : World} {fo : Option Addr} {f : Option (List Bool)} (h : uu ρ W fo f) : uu (uq ρ W.heap.size r) W fo f := by
 match f, fo, h with
 | none, none, _ => trivial
 | some c, some a, ⟨gc, e, A, k, h1, h2, h3, h4⟩ =>
  exact ⟨gc, e, A, k, h1, h2, by rw [Ca (aT h1)]; exact h3, fun ad ha hp => ⟨by rw [Ca (h4 ad ha hp).2]; exact (h4 ad ha hp).1, (h4 ad ha hp).2⟩⟩
structure At where
 N : Nat
 pg : Nat
 g : Nat
 gn : Nat
 gl : Nat
 go : Nat
def Xm (a : At) (met : Nat) (vs vc : Value) (fo : Option Addr) : Array Value :=
 #[.pointer (some ⟨a.pg, 0, none⟩), .slice (some ⟨a.gn, 0, none⟩) a.N a.N, .slice (some ⟨a.gl, 0, none⟩) a.N a.N, .slice (some ⟨a.go, 0, none⟩) a.N a.N, .int .i64 (met : Int), vs, vc, .pointer fo]
structure bL (ρ : Nat → Nat) (w0 W : World) (a : At) (vs vc : Value) (fo : Option Addr) (E : List gQ) (st : Sg.FS) : Prop where
 j6 : Below w0.heap.size w0 W
 blk : W.heap[a.g]? = some (.cells (Xm a st.met vs vc fo) 105 (0, 0))
 rg : ρ a.g = 4
 bg : w0.heap.size ≤ a.g
 nums : Kd.R bD 3 W w0.heap.size (fun k => ρ k = 1) (.slice (some ⟨a.gn, 0, none⟩) a.N a.N) st.nums
 bJ : Kd.R bD 3 W w0.heap.size (fun k => ρ k = 2) (.slice (some ⟨a.gl, 0, none⟩) a.N a.N) st.bJ
 on : Kd.R Kd.bool 4 W w0.heap.size (fun k => ρ k = 3) (.slice (some ⟨a.go, 0, none⟩) a.N a.N) st.on
 bB : Kd.R bD 3 W w0.heap.size (fun k => ρ k = 5) vs st.bB.reverse
 calls : sO ρ w0.heap.size W vc E
 cs : E.map (fun e => (e.x, e.rest)) = st.calls.reverse
 l6 : uu ρ W fo st.found
section
variable {ρ : Nat → Nat} {w0 W W1 : World} {a : At} {vs vc v1 : Value} {fo : Option Addr} {E : List gQ} {st : Sg.FS}
theorem bL.c0 (h : bL ρ w0 W a vs vc fo E st) : W.cell? ⟨a.g, 0, none⟩ = some (.pointer (some ⟨a.pg, 0, none⟩)) := (aj h.blk 0).trans rfl
theorem bL.c1 (h : bL ρ w0 W a vs vc fo E st) : W.cell? ⟨a.g, 1, none⟩ = some (.slice (some ⟨a.gn, 0, none⟩) a.N a.N) := (aj h.blk 1).trans rfl
theorem bL.c2 (h : bL ρ w0 W a vs vc fo E st) : W.cell? ⟨a.g, 2, none⟩ = some (.slice (some ⟨a.gl, 0, none⟩) a.N a.N) := (aj h.blk 2).trans rfl
theorem bL.c3 (h : bL ρ w0 W a vs vc fo E st) : W.cell? ⟨a.g, 3, none⟩ = some (.slice (some ⟨a.go, 0, none⟩) a.N a.N) := (aj h.blk 3).trans rfl
theorem bL.c4 (h : bL ρ w0 W a vs vc fo E st) : W.cell? ⟨a.g, 4, none⟩ = some (.int .i64 (st.met : Int)) := (aj h.blk 4).trans rfl
theorem bL.c5 (h : bL ρ w0 W a vs vc fo E st) : W.cell? ⟨a.g, 5, none⟩ = some vs := (aj h.blk 5).trans rfl
theorem bL.c6 (h : bL ρ w0 W a vs vc fo E st) : W.cell? ⟨a.g, 6, none⟩ = some vc := (aj h.blk 6).trans rfl
theorem bL.c7 (h : bL ρ w0 W a vs vc fo E st) : W.cell? ⟨a.g, 7, none⟩ = some (.pointer fo) := (aj h.blk 7).trans rfl
theorem bL.fz (h : bL ρ w0 W a vs vc fo E st) (i : Nat) : W.frozen? ⟨a.g, i, none⟩ = false := aN h.blk i
theorem bL.lt (h : bL ρ w0 W a vs vc fo E st) : a.g < W.heap.size := aT h.blk
theorem bL.rn (h : bL ρ w0 W a vs vc fo E st) : ρ a.gn = 1 := h.nums.1 _ rfl
theorem bL.rl (h : bL ρ w0 W a vs vc fo E st) : ρ a.gl = 2 := h.bJ.1 _ rfl
theorem bL.ro (h : bL ρ w0 W a vs vc fo E st) : ρ a.go = 3 := h.on.1 _ rfl
theorem Qz {α : Type} {d : Kd α} {e base g n c : Nat} {ok : Nat → Prop} {xs : List α} {w : World} (h : d.R e w base ok (.slice (some ⟨g, 0, none⟩) n c) xs) : base ≤ g := by
 obtain ⟨inner, ho⟩ := Kd.xu h;exact xm ho g rfl
theorem bL.below (h : bL ρ w0 W a vs vc fo E st) (hb : Below W.heap.size W W1) : bL ρ w0 W1 a vs vc fo E st := by
 have hk : lD ρ 0 W W1 := .below hb;exact ⟨h.j6.trans (hb.mono h.j6.size), (hb.block _ h.lt).trans h.blk, h.rg, h.bg, ek h.nums hk ai, ek h.bJ hk ai, ek h.on hk ai, ek h.bB hk ai, h.calls.keep hk ai ai, h.cs, h.l6.keep hk ai⟩
theorem bL.wJ (h : bL ρ w0 W a vs vc fo E st) (r : Nat) : bL (uq ρ W.heap.size r) w0 W a vs vc fo E st :=
 ⟨h.j6, h.blk, by rw [Ca h.lt]; exact h.rg, h.bg, Qy h.nums, Qy h.bJ, Qy h.on, Qy h.bB, h.calls.wJ, h.cs, h.l6.wJ⟩
theorem bL.fin (h : bL ρ w0 W a vs vc fo E st) (j : Nat) (u : Value) {st' : Sg.FS} {vs' wK : Value} {AQ : Option Addr} {E' : List gQ} (hc : (Xm a st.met vs vc fo).setIfInBounds j u = Xm a st'.met vs' wK AQ)
  (hn : st'.nums = st.nums) (hl : st'.bJ = st.bJ) (ho : st'.on = st.on) (hs : Kd.R bD 3 W w0.heap.size (fun k => ρ k = 5) vs' st'.bB.reverse) (hcl : sO ρ w0.heap.size W wK E') (hcs : E'.map (fun e => (e.x, e.rest)) = st'.calls.reverse) (hf : uu ρ W AQ st'.found) :
  bL ρ w0 (W.setCell ⟨a.g, j, none⟩ u) a vs' wK AQ E' st' := by
 have hk : lD ρ 4 W (W.setCell ⟨a.g, j, none⟩ u) := .set h.rg j u;exact ⟨h.j6.setCell h.bg _, by rw [jc h.blk j u, hc], h.rg, h.bg, by rw [hn]; exact ek h.nums hk ai, by rw [hl]; exact ek h.bJ hk ai, by rw [ho]; exact ek h.on hk ai, ek hs hk ai, hcl.keep hk ai ai, hcs, hf.keep hk ai⟩
theorem bL.aqM (h : bL ρ w0 W a vs vc fo E st) (m : Nat) : bL ρ w0 (W.setCell ⟨a.g, 4, none⟩ (.int .i64 (m : Int))) a vs vc fo E { st with met := m } :=
 h.fin 4 _ rfl rfl rfl rfl h.bB h.calls h.cs h.l6
theorem bL.aqN (h : bL ρ w0 W a vs vc fo E st) (x m : Nat) : bL ρ w0 (W.setCell ⟨a.gn, x, none⟩ (.int .i64 (m : Int))) a vs vc fo E { st with nums := st.nums.set x m } := by
 have hk : lD ρ 1 W (W.setCell ⟨a.gn, x, none⟩ (.int .i64 (m : Int))) := .set h.rn x _;exact ⟨h.j6.setCell (Qz h.nums) _, (hk.block _ h.lt (by rw [h.rg]; decide)).trans h.blk, h.rg, h.bg, Qf h.nums x m, ek h.bJ hk ai, ek h.on hk ai, ek h.bB hk ai, h.calls.keep hk ai ai, h.cs, h.l6.keep hk ai⟩
theorem bL.Xn (h : bL ρ w0 W a vs vc fo E st) (x m : Nat) : bL ρ w0 (W.setCell ⟨a.gl, x, none⟩ (.int .i64 (m : Int))) a vs vc fo E { st with bJ := st.bJ.set x m } := by
 have hk : lD ρ 2 W (W.setCell ⟨a.gl, x, none⟩ (.int .i64 (m : Int))) := .set h.rl x _;exact ⟨h.j6.setCell (Qz h.bJ) _, (hk.block _ h.lt (by rw [h.rg]; decide)).trans h.blk, h.rg, h.bg, ek h.nums hk ai, Qf h.bJ x m, ek h.on hk ai, ek h.bB hk ai, h.calls.keep hk ai ai, h.cs, h.l6.keep hk ai⟩
theorem DN {w : World} {base g n cap : Nat} {ok : Nat → Prop} {xs : List Bool} (h : Kd.R Kd.bool 4 w base ok (.slice (some ⟨g, 0, none⟩) n cap) xs) (j : Nat) (x : Bool) : Kd.R Kd.bool 4 (w.setCell ⟨g, j, none⟩ (.bool x)) base ok (.slice (some ⟨g, 0, none⟩) n cap) (xs.set j x) := by
 have := Kd.JO h (j : Int) x;rw [Int.toNat_natCast] at this;exact this
theorem zi {w : World} {base g n cap : Nat} {ok : Nat → Prop} {xs : List Bool} (h : Kd.R Kd.bool 4 w base ok (.slice (some ⟨g, 0, none⟩) n cap) xs) {j : Nat} (hj : j < n) : w.cell? ⟨g, j, none⟩ = some (.bool (xs.getD j false)) ∧ w.frozen? ⟨g, j, none⟩ = false := by
 have := Kd.JN (d := false) h (j : Int) ag ag;rw [Int.toNat_natCast] at this;have h2 : qE false xs (j : Int) = xs.getD j false := by unfold qE; rw [Int.toNat_natCast]
 rw [h2] at this;exact this
theorem bL.afG (h : bL ρ w0 W a vs vc fo E st) (x : Nat) (b : Bool) : bL ρ w0 (W.setCell ⟨a.go, x, none⟩ (.bool b)) a vs vc fo E { st with on := st.on.set x b } := by
 have hk : lD ρ 3 W (W.setCell ⟨a.go, x, none⟩ (.bool b)) := .set h.ro x _;exact ⟨h.j6.setCell (Qz h.on) _, (hk.block _ h.lt (by rw [h.rg]; decide)).trans h.blk, h.rg, h.bg, ek h.nums hk ai, ek h.bJ hk ai, DN h.on x b, ek h.bB hk ai, h.calls.keep hk ai ai, h.cs, h.l6.keep hk ai⟩
theorem bL.aqO (h : bL ρ w0 W a vs vc fo E st) (hB : Below w0.heap.size w0 W1) (hg : W.grownBy W1 vs.ownBlock) {l : List Nat} (ho : Kd.R bD 3 W1 w0.heap.size (fun k => ρ k = 5) v1 l) : bL ρ w0 (W1.setCell ⟨a.g, 5, none⟩ v1) a v1 vc fo E { st with bB := l.reverse } := by
 have hk : lD ρ 5 W W1 := .grown hg (fun k e => h.bB.1 k e);have hk4 : lD ρ 4 W1 (W1.setCell ⟨a.g, 5, none⟩ v1) := .set h.rg 5 v1;have hb : W1.heap[a.g]? = _ := (hk.block _ h.lt (by rw [h.rg]; decide)).trans h.blk;exact ⟨hB.setCell h.bg _, by rw [jc hb 5 v1]; rfl, h.rg, h.bg, ek (ek h.nums hk ai) hk4 ai, ek (ek h.bJ hk ai) hk4 ai, ek (ek h.on hk ai) hk4 ai, by rw [List.reverse_reverse]; exact ek ho hk4 ai, (h.calls.keep hk ai ai).keep hk4 ai ai, h.cs, (h.l6.keep hk ai).keep hk4 ai⟩
theorem bL.aqP (h : bL ρ w0 W a vs vc fo E st) (hB : Below w0.heap.size w0 W1) (hg : W.grownBy W1 vc.ownBlock) {e : gQ} (ho : W1.ownsRow w0.heap.size 129 2 v1 (E.length + 1) (E.flatMap zh ++ zh e)) (hr : ∀ k, v1.ownBlock = some k → ρ k = 6) (he : xW ρ W e) {cs : List (Nat × List Nat)} (hcs : cs = (e.x, e.rest) :: st.calls) :
  bL ρ w0 (W1.setCell ⟨a.g, 6, none⟩ v1) a vs v1 fo (E ++ [e]) { st with calls := cs } := by
 have hk : lD ρ 6 W W1 := .grown hg (fun k e => h.calls.role k e);have hk4 : lD ρ 4 W1 (W1.setCell ⟨a.g, 6, none⟩ v1) := .set h.rg 6 v1;have hb : W1.heap[a.g]? = _ := (hk.block _ h.lt (by rw [h.rg]; decide)).trans h.blk;have hc1 : sO ρ w0.heap.size W1 v1 (E ++ [e]) := ⟨by rw [List.length_append, List.flatMap_append]; simpa using ho, hr, fun q hq => by
  rcases List.mem_append.1 hq with k | k
  ·exact (h.calls.AP q k).keep hk ai
  ·rw [List.mem_singleton.1 k]; exact he.keep hk ai⟩
 exact ⟨hB.setCell h.bg _, by rw [jc hb 6 v1]; rfl, h.rg, h.bg, ek (ek h.nums hk ai) hk4 ai, ek (ek h.bJ hk ai) hk4 ai, ek (ek h.on hk ai) hk4 ai, ek (ek h.bB hk ai) hk4 ai, hc1.keep hk4 ai ai, by rw [List.map_append, h.cs, hcs]; simp, (h.l6.keep hk ai).keep hk4 ai⟩
end
def rM.T1 : Bool × List (List Nat × List Nat) := (true, [([], []), ([0], [0]), ([1], [1]), ([2], [2]), ([], []), ([], []), ([5], [5]), ([6], [6]), ([7], [7]), ([], []), ([], []), ([10], [10]), ([11], [11]), ([12], [12]), ([], []), ([], []), ([15], [15]), ([16], [16]), ([17], [17]), ([], []), ([19], [19]), ([20], [20]), ([21], [21]), ([3, 4, 0, 1, 2, 3, 4, 8, 13, 15, 16, 17, 18, 22], [3, 4]), ([23, 18, 0, 1, 2, 3, 4, 8, 13, 15, 16, 17, 18, 22], [18, 23]), ([8, 9, 0, 1, 2, 3, 4, 5, 6, 7, 8, 9, 13, 15, 16, 17, 18, 19, 20, 21, 22, 23, 24], [8, 9]), ([25, 22, 24, 0, 1, 2, 3, 4, 5, 6, 7, 8, 9, 13, 15, 16, 17, 18, 19, 20, 21, 22, 23, 24], [22, 25]), ([13, 14, 0, 1, 2, 3, 4, 5, 6, 7, 8, 9, 10, 11, 12, 13, 14, 15, 16, 17, 18, 19, 20, 21, 22, 23, 24, 25, 26], [13, 14]), ([27, 26, 0, 1, 2, 3, 4, 5, 6, 7, 8, 9, 10, 11, 12, 13, 14, 15, 16, 17, 18, 19, 20, 21, 22, 23, 24, 25, 26], [27])])
def rM.B1 : List Nat := [0, 1, 3, 7, 0, 0, 32, 96, 224, 0, 0, 1024, 3072, 7168, 0, 0, 32768, 98304, 229376, 0, 524288, 1572864, 3670016, 8371711, 16760319, 33538047, 67092479, 134217727, 268435455]
theorem rM.Xo : dh .any (opsOf Tryz.f62 1) = rM.T1 := by kernel_rfl
theorem rM.Xp : ik rM.T1.2 rM.B1 = true := by kernel_rfl
def rM.T3 : Bool × List (List Nat × List Nat) := (true, [([], []), ([], []), ([1], [1]), ([2], [2]), ([3], [3]), ([], []), ([], []), ([6], [6]), ([7], [7]), ([8], [8]), ([], []), ([9, 10], [9, 10]), ([5, 11], [5, 11]), ([12], [12]), ([4, 13, 11], [4, 13]), ([0, 0, 1, 2, 3, 4, 5, 6, 7, 8, 9, 10, 11, 12, 13, 14], [0]), ([15, 0, 1, 2, 3, 4, 5, 6, 7, 8, 9, 10, 11, 12, 13, 14], [15]), ([16, 14, 14, 0, 1, 2, 3, 4, 5, 6, 7, 8, 9, 10, 11, 12, 13, 14], [14, 16])])
def rM.B3 : List Nat := [0, 0, 2, 6, 14, 0, 0, 64, 192, 448, 0, 1984, 4064, 8160, 16382, 32767, 65535, 131071]
theorem rM.Wp : dh .any (opsOf Tryz.f62 3) = rM.T3 := by kernel_rfl
theorem rM.Wq : ik rM.T3.2 rM.B3 = true := by kernel_rfl
theorem afH : (Tryz.prog.info? 129).map (fun i => (i.zero, i.size, i.bytes)) = some (some (.agg #[.int .i64 0, .slice none 0 0]), 2, 32) := by kernel_rfl
section
variable {ρ : Nat → Nat} {w0 W W1 : World} {a : At} {vs vc v1 : Value} {fo : Option Addr} {E : List gQ} {st : Sg.FS}
theorem bL.Xq (h : bL ρ w0 W a vs vc fo E st) : some a.g ≠ vc.ownBlock := fun e => by have := h.calls.role _ e.symm; rw [h.rg] at this; cases this
theorem bL.gvs (h : bL ρ w0 W a vs vc fo E st) : some a.g ≠ vs.ownBlock := fun e => by have : ρ a.g = 5 := h.bB.1 _ e.symm; rw [h.rg] at this; cases this
theorem bL.fzc (h : bL ρ w0 W a vs vc fo E st) (hg : W.grownBy W1 vc.ownBlock) (i : Nat) : W1.frozen? ⟨a.g, i, none⟩ = false := aN (oM h.blk hg h.Xq) i
theorem bL.fzs (h : bL ρ w0 W a vs vc fo E st) (hg : W.grownBy W1 vs.ownBlock) (i : Nat) : W1.frozen? ⟨a.g, i, none⟩ = false := aN (oM h.blk hg h.gvs) i
theorem bL.to (h : bL ρ w0 W a vs vc fo E st) {st' : Sg.FS} (e : st' = st) : bL ρ w0 W a vs vc fo E st' := by rw [e]; exact h
end
theorem aqQ {ρ : Nat → Nat} {W w6 : World} {base c : Nat} {A : Option Addr} {x : Nat} {l : List Nat} (hb : W.heap.size ≤ base) (hc : l.length ≤ c) (hC : Kd.C bD w6 A l.length l) (hR : Kd.R bD 3 w6 base (fun _ => True) (.slice A l.length c) l) : xW (uq ρ W.heap.size 7) w6 ⟨x, A, c, l⟩ := by
 refine ⟨hc, hC, fun ad ha _ => ?_⟩;obtain ⟨inner, ho⟩ := Kd.xu hR;have ha' : A = some ad := ha;subst ha';have h1 := xm ho ad.block rfl;have h2 := iD ho ad.block rfl;exact ⟨IV ag, h2⟩
theorem afI (p : PD) (ρ : Nat → Nat) (w0 W : World) (a : At) (vs vc : Value) (fo : Option Addr) (E : List gQ) (st : Sg.FS) (x : Nat) (h : bL ρ w0 W a vs vc fo E st) (hP : qc w0 a.pg p) (hok : p.Ok) (Cb : a.N = p.N) (hx : x < p.N) (hm : st.met < 1000000) (hs : st.bB.length < 1000000) (hE : E.length < 1000000) :
  Calls Tryz.prog 62 #[.pointer (some ⟨a.g, 0, none⟩), .int .i64 (x : Int)] W fun e W' => e = .returned (.tuple #[]) ∧ ∃ ρ' vs' wK E', bL ρ' w0 W' a vs' wK fo E' (Sg.ib p.next st x) := by
 have fM := Tryz.underlying23;have hub := Tryz.underlying57;have jm := Tryz.underlying105;have QA := Tryz.underlying103;have huv := Tryz.underlying129;have hxa : x < a.N := by omega
 have hxl : (x : Int) < (a.N : Int) := by omega
 have r4 := h.c4;have f4 := h.fz 4;obtain ⟨m, hmm⟩ : ∃ m, m = st.met + 1 := ⟨_, rfl⟩;have hmI : ((st.met : Nat) : Int) + 1 = (m : Int) := by rw [hmm]; rfl
 have Xr := Zd.mk (show Sg.ib p.next st x = { st with nums := st.nums.set x m, bJ := st.bJ.set x m, on := st.on.set x true, met := m, bB := x :: st.bB, calls := (x, p.next x) :: st.calls } from by rw [hmm]; rfl);obtain ⟨W1, hW1⟩ : ∃ W1, W1 = W.setCell ⟨a.g, 4, none⟩ (.int .i64 (m : Int)) := ⟨_, rfl⟩;have h1 : bL ρ w0 W1 a vs vc fo E { st with met := m } := by rw [hW1]; exact h.aqM m
 have k1 := h1.c1;have k2 := h1.c2;have k3 := h1.c3;have k4 : W1.cell? ⟨a.g, 4, none⟩ = some (.int .i64 (m : Int)) := h1.c4;have hD : Below W1.heap.size W1 W1.drew := bV (Below.refl _ _);have h2 := h1.below hD;have h3 := h2.aqN x m;have h4 := h3.Xn x m;have h5 := h4.afG x true;obtain ⟨z1, y1⟩ := sK h2.nums hxa;obtain ⟨z2, y2⟩ := sK h3.bJ hxa;obtain ⟨z3, y3⟩ := zi h4.on hxa;have HW1 := Zd.mk hW1;have H5 := Zd.mk h5;have HP := Zd.mk hP;have eG := Zd.mk hok;have HST := Zd.mk hs;have HMI := Zd.mk hmI;generalize st.nums.getD x 0 = n0 at z1;generalize st.bJ.getD x 0 = n1 at z2;generalize st.on.getD x false = n2 at z3;clear h h1 hW1 h2 h3 h4 h5 hD hP hok hmm hmI Cb;go_enter Tryz.func62, Tryz.ntmps62;go_upto_region 1 with fail
 rw [HMI.out, ← HW1.out];refine iP (n := 29) (S := fun w' => w'.cell? ⟨a.g, 1, none⟩ = some (.slice (some ⟨a.gn, 0, none⟩) a.N a.N) ∧ w'.cell? ⟨a.g, 2, none⟩ = some (.slice (some ⟨a.gl, 0, none⟩) a.N a.N) ∧ w'.cell? ⟨a.g, 3, none⟩ = some (.slice (some ⟨a.go, 0, none⟩) a.N a.N) ∧ w'.cell? ⟨a.g, 4, none⟩ = some (.int .i64 (m : Int))) (ds := [24, 26, 28]) alc aa rfl rfl ⟨k1, k2, k3, k4⟩ (fun hHeld => ?_);refine iR rM.Xo rM.Xp (fun ae bA => ?_);generalize W1.drew = W2 at *;refine pz ae.out 0 (some 11) ald rfl rfl ?_;refine pz ae.out 1 (some 12) ale rfl rfl ?_;refine pz ae.out 2 (some 13) alf rfl rfl ?_;refine pz ae.out 4 (some 15) alg rfl rfl ?_;refine pz ae.out 5 (some 16) alh rfl rfl ?_;refine pz ae.out 6 (some 17) ali rfl rfl ?_;refine pz ae.out 7 (some 18) alj rfl rfl ?_;refine pz ae.out 9 (some 20) alk rfl rfl ?_;refine pz ae.out 10 (some 21) alm rfl rfl ?_;refine pz ae.out 11 (some 22) aln rfl rfl ?_;refine pz ae.out 12 (some 23) alo rfl rfl ?_;refine pz ae.out 14 (some 25) alp rfl rfl ?_;refine pz ae.out 15 (some 26) alq rfl rfl ?_;refine pz ae.out 16 (some 27) alr rfl rfl ?_;refine pz ae.out 17 (some 28) als rfl rfl ?_;refine pz ae.out 19 (some 30) alu rfl rfl ?_;refine pz ae.out 20 (some 31) alv rfl rfl ?_;refine pz ae.out 21 (some 32) alx rfl rfl ?_;refine tz ae.out bA.out 3 (some 14) aly rfl rfl hHeld ?_;refine tz ae.out bA.out 8 (some 19) alz rfl rfl hHeld ?_;refine tz ae.out bA.out 13 (some 24) alA rfl rfl hHeld ?_;refine tz ae.out bA.out 18 (some 29) alB rfl rfl hHeld ?_;refine tz ae.out bA.out 22 (some 33) alC rfl rfl hHeld ?_;refine pz ae.out 23 (some 34) alD rfl rfl ?_;refine kV (i := 24) (N := none) alE rfl rfl (di ae.out aa) ai (fun K hK => ?_);refine iQ (w1 := W2.setCell ⟨a.gn, x, none⟩ (.int .i64 (m : Int))) bu rfl ?_ ?_
 ·(go_simp; try rfl)
 refine hK.out _ _ ?_;clear hK K;refine pz ae.out 25 (some 35) alF rfl rfl ?_;refine kV (i := 26) (N := none) alG rfl rfl (di ae.out aa) ai (fun K hK => ?_);refine iQ (w1 := (W2.setCell ⟨a.gn, x, none⟩ (.int .i64 (m : Int))).setCell ⟨a.gl, x, none⟩ (.int .i64 (m : Int))) bu rfl ?_ ?_
 ·(go_simp; try rfl)
 refine hK.out _ _ ?_;clear hK K;refine pz ae.out 27 (some 36) alH rfl rfl ?_;refine kV (i := 28) (N := none) alI rfl rfl (di ae.out aa) ai (fun K hK => ?_);refine iQ (w1 := ((W2.setCell ⟨a.gn, x, none⟩ (.int .i64 (m : Int))).setCell ⟨a.gl, x, none⟩ (.int .i64 (m : Int))).setCell ⟨a.go, x, none⟩ (.bool true)) bu rfl ?_ ?_
 ·(go_simp; try rfl)
 refine hK.out _ _ ?_;clear hK K;refine kD (kE ae.out aa) ?_;clear hHeld ae bA;obtain ⟨W3, hW3⟩ : ∃ W3 : World, W3 = ((W2.setCell ⟨a.gn, x, none⟩ (.int .i64 (m : Int))).setCell ⟨a.gl, x, none⟩ (.int .i64 (m : Int))).setCell ⟨a.go, x, none⟩ (.bool true) := ⟨_, rfl⟩;rw [← hW3] at H5 ⊢;have H6 := Zd.mk (H5.out.wJ 5);have c5 := H5.out.c5;have hsl : st.bB.reverse.length < 1000000 := by rw [List.length_reverse]; exact HST.out
 clear k1 k2 k3 k4 z1 z2 z3 y1 y2 y3 hW3;go_upto_region 3 with ((with_reducible refine lL (b := .append) (xs := #[.tmp 41, .tmp 43]) rfl ?_); at_builtin; refine Kd.xw bD (w0 := w0) w0.heap.size rfl (.tmp 41) (.tmp 43) 23 3 (.int .i64 0) 8 rfl fM nR rfl ai ag vs st.bB.reverse x [.int .i64 (x : Int)] (fun k => uq ρ W3.heap.size 5 k = 5) (fun _ => False) rfl ?aX ?aP (fun _ hk => hk.elim) ?aF ?aO ?aB ?aS ?aL ?_; (case aX => first | rfl | (simp; done) | (go_simp; done)); (case aP => exact rfl); (case aF => exact (fun k hk => IV hk)); (case aO => exact H6.out.bB); (case aB => exact H6.out.j6); (case aS => exact H6.out.j6.size); (case aL => first | omega | (simp; omega)); intro QB w9 ho hb hg hat; obtain ⟨A9, n9, c9, e9⟩ : ∃ A n c, QB = .slice A n c := (by obtain ⟨A, c, e⟩ := Kd.vX ho; exact ⟨A, _, c, e⟩); subst e9; have c5b := hg.cell c5 H6.out.gvs; have Xt := H6.out.fzs hg 5; have H9 := Zd.mk (H6.out.aqO hb hg ho); clear ho hb hg hat)
 obtain ⟨W5, zk⟩ : ∃ W5 : World, W5 = w9.setCell ⟨a.g, 5, none⟩ (.slice A9 n9 c9) := ⟨_, rfl⟩;rw [← zk] at H9 ⊢;have FO := Zd.mk (H9.out.wJ 7);have k0 := H9.out.c0;have k6 := H9.out.c6;have j4 := Zd.mk (fun W (hb : Below W5.heap.size W5 W) => Wj p a.pg x W (HP.out.below (H9.out.j6.trans (hb.mono H9.out.j6.size))) eG.out hx);have IW := Zd.mk (fun (w6 : World) (A6 : Option Addr) (c6 : Nat) (hB : Below W5.drew.heap.size W5.drew w6) (hc6 : (p.next x).length ≤ c6) (FP : Kd.C bD w6 A6 (p.next x).length (p.next x)) (oz : Kd.R bD 3 w6 W5.drew.heap.size (fun _ => True) (.slice A6 (p.next x).length c6) (p.next x)) => aqQ (ρ := uq ρ W3.heap.size 5) (W := W5) (x := x) (Nat.le_refl _) hc6 FP oz);generalize p.next x = LD at *;clear c5 c5b Xt zk;refine iP (n := 18) (S := fun w' => w'.cell? ⟨a.g, 0, none⟩ = some (.pointer (some ⟨a.pg, 0, none⟩)) ∧ w'.cell? ⟨a.g, 6, none⟩ = some vc) (ds := [17]) alJ aa rfl rfl ⟨k0, k6⟩ (fun hHeld => ?_);refine iR rM.Wp rM.Wq (fun ae bA => ?_);refine pz ae.out 0 (some 47) alK rfl rfl ?_;refine pz ae.out 1 (some 48) alL rfl rfl ?_;refine pz ae.out 2 (some 49) alM rfl rfl ?_;refine pz ae.out 3 (some 50) alN rfl rfl ?_;refine pz ae.out 5 (some 52) alO rfl rfl ?_;refine pz ae.out 6 (some 53) alP rfl rfl ?_;refine pz ae.out 7 (some 54) alQ rfl rfl ?_;refine pz ae.out 8 (some 55) alR rfl rfl ?_;refine pz ae.out 10 (some 57) alS rfl rfl ?_;refine tz ae.out bA.out 4 (some 51) alT rfl rfl hHeld ?_;refine tz ae.out bA.out 9 (some 56) alU rfl rfl hHeld ?_;refine gV (i := 11) (N := some 58) alV rfl rfl (di ae.out aa) ai (fun K hK => ?_);refine jT Tryz.func64 aa rfl #[.pointer (some ⟨a.pg, 0, none⟩), .int .i64 (x : Int)] bu rfl rfl (by simp only [List.map_toArray, List.map_cons, List.map_nil]; rfl) ?_
 with_reducible refine (j4.out _ (show Below W5.heap.size W5 W5.drew from bV (Below.refl _ _))).mono ?_
 rintro e_ w6 ⟨v6, rfl, oz, hB⟩;obtain ⟨A6, c6, e6, hc6, FP⟩ := Kd.iO oz;subst e6;have mY := Zd.mk (FO.out.below ((bV (Below.refl _ _)).trans hB));have HE6 := Zd.mk (IW.out w6 A6 c6 hB hc6 FP oz);have Xu := mY.out.c0;have Xv := mY.out.c6;have gP := Zd.mk (aW (Below.refl w6.heap.size w6) (.cells #[.int .i64 (x : Int), .slice A6 LD.length c6] 129));have aqR := aG gP.out Xu;have aqS := aG gP.out Xv;clear oz FP hB hHeld;refine ⟨_, rfl, ?_⟩;refine hK.out _ _ ⟨Xu, Xv⟩ (fun hHeld => ?_);clear hK K;refine gW (a' := ?_) ?_ ?_;rotate_left
 ·show Act.put _ (some 58) _ = _;simp only [Act.put, List.setIfInBounds_toArray, List.set_cons_zero, List.set_cons_succ, bE, dS];rfl
 refine pz ae.out 12 (some 59) alW rfl rfl ?_;refine gV (i := 13) (N := some 60) alX rfl rfl (di ae.out aa) ai (fun K hK => ?_);refine dQ (w1 := w6.alloc (.cells #[.int .i64 (x : Int), .slice A6 LD.length c6] 129)) (v := .slice (some ⟨w6.heap.size, 0, none⟩) 1 1) bu rfl ?_ ?_
 ·(go_simp; try rfl)
 refine hK.out _ _ ⟨aqR, aqS⟩ (fun hHeld => ?_);clear hK K;refine gW (a' := ?_) ?_ ?_;rotate_left
 ·show Act.put _ (some 60) _ = _;simp only [Act.put, List.setIfInBounds_toArray, List.set_cons_zero, List.set_cons_succ, bE, dS];rfl
 refine gV (i := 14) (N := some 61) alY rfl rfl (di ae.out aa) ai (fun K hK => ?_);refine aad (w0 := w0) (W := w6) w0.heap.size bu (.tmp 51) (.tmp 60) 103 129 (.agg #[.int .i64 0, .slice none 0 0]) 2 32 rfl QA afH rfl ai ai vc E.length (E.flatMap zh) [.int .i64 (x : Int), .slice A6 LD.length c6] rfl rfl rfl (by simp [Value.oneCell']) mY.out.calls.own mY.out.j6 mY.out.j6.size ag ?_;intro LF w7 ho hb hg hat;obtain ⟨A7, n7, c7, e7⟩ : ∃ A n c, LF = .slice A n c := (by obtain ⟨A, c, e⟩ := Tt ho; exact ⟨A, _, c, e⟩);subst e7;have kN := Zd.mk ho;have iy := Zd.mk hb;have FQ := Zd.mk hg;have FD := Zd.mk hat;have aqT := (hg.cell Xu (mY.out.Xq));have aqU := (hg.cell Xv (mY.out.Xq));have aww := mY.out.fzc hg 6;clear ho hb hg hat hHeld;refine hK.out _ _ ⟨aqT, aqU⟩ (fun hHeld => ?_);clear hK K;refine gW (a' := ?_) ?_ ?_;rotate_left
 ·show Act.put _ (some 61) _ = _;simp only [Act.put, List.setIfInBounds_toArray, List.set_cons_zero, List.set_cons_succ, bE, dS];rfl
 refine pz ae.out 15 (some 62) alZ rfl rfl ?_;refine pz ae.out 16 (some 63) al0 rfl rfl ?_;refine kV (i := 17) (N := none) al1 rfl rfl (di ae.out aa) ai (fun K hK => ?_);refine iQ (w1 := w7.setCell ⟨a.g, 6, none⟩ (.slice A7 n7 c7)) bu rfl ?_ ?_
 ·(go_simp; try rfl)
 refine hK.out _ _ ?_;clear hK K;refine kD (kE ae.out aa) ?_;clear hHeld ae bA;have aqV := Zd.mk (by
  have h6 := mY.out.wJ 6;have h7 := h6.aqP (e := ⟨x, A6, c6, LD⟩) (cs := (x, LD) :: st.calls) iy.out FQ.out kN.out (fun k hk => by
   rcases FD.out with e | ⟨b, e, hb⟩
   ·rw [e] at hk;exact h6.calls.role k hk
   ·rw [e] at hk;cases hk;exact IV hb) HE6.out.wJ rfl
  exact h7.to (st' := Sg.ib p.next st x) (by rw [Xr.out]; simp))
 go_wp2
 go_end0
 exact ⟨rfl, _, _, _, _, aqV.out⟩
end Go.Proofs.YtapejnikpmfddaaGreat.X
