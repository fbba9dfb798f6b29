/- A part of the claim SearchReal. -/
import Derived.Test.YtapejnikpmfddaaQSearchRealg
set_option linter.unusedVariables false
set_option linter.unusedSimpArgs false
set_option maxHeartbeats 6400000
set_option maxRecDepth 100000
namespace Go.Proofs.Ytapejnikpmfddaa.X
open Go.RowKit Go.Proofs.YtapejnikpmfddaaW.PrintWords Go.Proofs.YtapejnikpmfddaaW.PrintLast Go.Proofs.YtapejnikpmfddaaW.PrintMore
open Go.Proofs.Ytapejnikpmfddaa.P Go.Proofs.Ytapejnikpmfddaa.Evx
theorem intK_cell {w : World} {base g n cap : Nat} {ok : Nat → Prop} {xs : List Int} (h : Kd.R (Kd.int .i64) 3 w base ok (.slice (some ⟨g, 0, none⟩) n cap) xs) {j : Nat} (hj : j < n) : w.cell? ⟨g, j, none⟩ = some (.int .i64 (xs.getD j 0)) ∧ w.frozen? ⟨g, j, none⟩ = false := by
 have := Kd.R_celln (d := 0) h (j : Int) (by omega) (by omega)
 rw [Int.toNat_natCast] at this
 have h2 : rdOf 0 xs (j : Int) = xs.getD j 0 := by unfold rdOf; rw [Int.toNat_natCast]
 rw [h2] at this
 exact this
theorem intK_put {w : World} {base g n cap : Nat} {ok : Nat → Prop} {xs : List Int} (h : Kd.R (Kd.int .i64) 3 w base ok (.slice (some ⟨g, 0, none⟩) n cap) xs) (j : Nat) (x : Int) : Kd.R (Kd.int .i64) 3 (w.setCell ⟨g, j, none⟩ (.int .i64 x)) base ok (.slice (some ⟨g, 0, none⟩) n cap) (xs.set j x) := by
 have := Kd.R_putn h (j : Int) x
 rw [Int.toNat_natCast] at this
 exact this
theorem intK_made (W : World) (n : Nat) (h : n < 1000000000) : Kd.R (Kd.int .i64) 3 (W.alloc (.cells (madeCells #[.int .i64 0] n) 3)) W.heap.size (fun k => k = W.heap.size) (.slice (some ⟨W.heap.size, 0, none⟩) n n) (List.replicate n 0) :=
 Kd.R_of_own (by rw [List.length_replicate]; exact own_made_of (enc := Value.int .i64) (d := 0) W W.heap.size 3 n (Nat.le_refl _) (by omega)) (fun k hk => by simp [Value.ownBlock] at hk; exact hk.symm)
structure Rows2 (W : World) (base ga N : Nat) (vt : Value) (s : List Int × List Nat) : Prop where
 came : Kd.R (Kd.int .i64) 3 W base (fun k => k = ga) (.slice (some ⟨ga, 0, none⟩) N N) s.1
 todo : Kd.R natK 3 W base (fun k => k ≠ ga) vt s.2
theorem Rows2.below {W W1 : World} {base ga N : Nat} {vt : Value} {s : List Int × List Nat} (h : Rows2 W base ga N vt s) (hb : Below W.heap.size W W1) : Rows2 W1 base ga N vt s := ⟨Kd.R_below h.came hb, Kd.R_below h.todo hb⟩
theorem Rows2.put {W : World} {base ga N : Nat} {vt : Value} {s : List Int × List Nat} (h : Rows2 W base ga N vt s) (y : Nat) (v : Int) : Rows2 (W.setCell ⟨ga, y, none⟩ (.int .i64 v)) base ga N vt (s.1.set y v, s.2) :=
 ⟨intK_put h.came y v, Kd.R_far h.todo (fun k hk => hk) _⟩
theorem Rows2.ne {W : World} {base ga N : Nat} {vt : Value} {s : List Int × List Nat} (h : Rows2 W base ga N vt s) : ∀ k, k = ga → some k ≠ vt.ownBlock := fun k hk e => h.todo.1 k e.symm hk
theorem Rows2.grown {W W1 : World} {base ga N : Nat} {vt v1 : Value} {s : List Int × List Nat} {l : List Nat} (h : Rows2 W base ga N vt s) (hg : W.grownBy W1 vt.ownBlock) (ho : Kd.R natK 3 W1 base (fun k => k ≠ ga) v1 l) : Rows2 W1 base ga N v1 (s.1, l) :=
 ⟨Kd.R_grown h.came hg h.ne, ho⟩
theorem Rows2.lt {W : World} {base ga N : Nat} {vt : Value} {s : List Int × List Nat} (h : Rows2 W base ga N vt s) (hN : 0 < N) : ga < W.heap.size := by
 obtain ⟨inner, ho⟩ := Kd.R_own h.came
 exact own_lt ho ga rfl
theorem Rows2.apart {W W1 : World} {base ga N : Nat} {vt v : Value} {s : List Int × List Nat} {l : List Nat} (h : Rows2 W base ga N vt s) (hN : 0 < N) (hb : base ≤ W.heap.size) (hr : Kd.R natK 3 W1 W.heap.size (fun _ => True) v l) : Kd.R natK 3 W1 base (fun k => k ≠ ga ∧ some k ≠ vt.ownBlock) v l := by
 refine Kd.R_lower (Kd.R_mono (Kd.R_bound hr) (fun k hk => ?_)) hb
 have h1 := h.lt hN
 have h2 := hk.2.1
 refine ⟨by omega, fun e => ?_⟩
 obtain ⟨inner, ho⟩ := Kd.R_own h.todo
 have := own_lt ho k e.symm
 omega
theorem traced_cases {nx : Nat → List Nat} {inn : Nat → Bool} {frm : List Nat} {came : List Int} {x : Nat} {l : List Nat} (h : Sg.Traced nx inn frm came x l) : (came.getD x 0 = -1 ∧ l = [x]) ∨ ∃ (z : Nat) (l2 : List Nat), came.getD x 0 = (z : Int) + 1 ∧ l = x :: l2 ∧ Sg.Traced nx inn frm came z l2 := by
 cases h with
 | root e _ => exact .inl ⟨e, rfl⟩
 | step e _ _ h3 => exact .inr ⟨_, _, e, rfl, h3⟩
theorem seed_snoc (s : List Int × List Nat) (l : List Nat) (x : Nat) : Sg.seedF s (l ++ [x]) = if (Sg.seedF s l).1.getD x 0 = 0 then Sg.addF (-1) (Sg.seedF s l) x else Sg.seedF s l := by
 unfold Sg.seedF
 rw [List.foldl_append]; rfl
theorem seed_take (s : List Int × List Nat) (l : List Nat) (j : Nat) (h : j < l.length) : Sg.seedF s (l.take (j + 1)) = if (Sg.seedF s (l.take j)).1.getD (l.getD j 0) 0 = 0 then Sg.addF (-1) (Sg.seedF s (l.take j)) (l.getD j 0) else Sg.seedF s (l.take j) := by
 rw [take_snocN h]; exact seed_snoc _ _ _
theorem spread_snoc (inn : Nat → Bool) (z : Nat) (s : List Int × List Nat) (l : List Nat) (x : Nat) : Sg.spreadF inn z s (l ++ [x]) = if (Sg.spreadF inn z s l).1.getD x 0 = 0 ∧ inn x = true then Sg.addF ((z : Int) + 1) (Sg.spreadF inn z s l) x else Sg.spreadF inn z s l := by
 unfold Sg.spreadF
 rw [List.foldl_append]; rfl
theorem spread_take (inn : Nat → Bool) (z : Nat) (s : List Int × List Nat) (l : List Nat) (j : Nat) (h : j < l.length) : Sg.spreadF inn z s (l.take (j + 1)) = if (Sg.spreadF inn z s (l.take j)).1.getD (l.getD j 0) 0 = 0 ∧ inn (l.getD j 0) = true then Sg.addF ((z : Int) + 1) (Sg.spreadF inn z s (l.take j)) (l.getD j 0) else Sg.spreadF inn z s (l.take j) := by
 rw [take_snocN h]; exact spread_snoc _ _ _ _ _
theorem way_walk (p : PD) (g : Nat) (ki kg : FuncId) (fi ci fg cg : Array Value) (inn goal : Nat → Bool) (A : Option Addr) (c : Nat) (frm : List Nat) (w : World) (h : IsProd w g p) (hok : p.Ok) (hi : PredFn ki fi ci inn p.N w) (hg : PredFn kg fg cg goal p.N w) (hr : Kd.C natK w A frm.length frm) (hf : ∀ x, x ∈ frm → x < p.N) (hfl : frm.length < 1000000) :
  Calls Try.prog 47 #[.pointer (some ⟨g, 0, none⟩), .slice A frm.length c, .func (.func ki) fi ci, .func (.func kg) fg cg] w fun e w' => ∃ v, e = .returned v ∧ Kd.R natK 3 w' w.heap.size (fun _ => True) v (Sg.wayF p.next inn goal p.N frm) ∧ Below w.heap.size w w' := by
 have hui := Try.underlying23
 have hN := hok.N_le
 have HPR := Zd.mk h
 have HOK := Zd.mk hok
 have HII := Zd.mk hi
 have HGG := Zd.mk hg
 have hei := hi.enters
 have heg := hg.enters
 have HR := Zd.mk hr
 have HF := Zd.mk hf
 have hnx : ∀ x, x < p.N → ∀ y, y ∈ p.next x → y < p.N := fun x hx y hy => hok.next_lt hx hy
 have HNX := Zd.mk hnx
 obtain ⟨A0, A1, A2, A5, A7, A8, c0, c1, c2, c5, c7, c8, h'⟩ := h
 have q8 := h'.q8
 have huP := Try.underlying79
 have hal : p.after.length = p.N := hok.al
 have HWF := Zd.mk (show Sg.wayF p.next inn goal p.N frm = Sg.huntF p.next inn goal p.N (p.N + 1) 0 (Sg.seedF (List.replicate p.N 0, []) frm) from rfl)
 have hmk := print_make (P := Try.prog) 23 3 .i64 8 hui infoI (by decide) p.N (by omega)
 have HM := Zd.mk (intK_made w p.N (by omega))
 rw [hal] at q8
 clear h' hi hg hr hf hok hnx hal
 go_enter Try.func47, Try.ntmps47
 go_wp2
 clear hmk
 go_loopg [10, 26] frm.length (fun kq v10 v26 w' => ∃ j : Nat, j + kq = frm.length ∧ v26 = .int .i64 (j : Int) ∧ Zd (Rows2 w' w.heap.size w.heap.size p.N v10 (Sg.seedF (List.replicate p.N 0, []) (frm.take j))) ∧ Zd (Below w.heap.size w w'))
 case atStart => exact ⟨0, by omega, rfl, ⟨HM.out, Kd.R_nil _ _ _ _ _⟩, ⟨below_alloc (Below.refl _ _) _⟩⟩
 case round =>
  obtain ⟨WW, rfl⟩ : ∃ W : World, W = wr := ⟨_, rfl⟩
  obtain ⟨j, hj, rfl, HV, HB⟩ := hrel
  have HJ := Zd.mk hj
  clear hj
  by_cases hlt : j < frm.length
  ·have hjl : ((j : Nat) : Int) < (frm.length : Int) := by omega
   obtain ⟨ad, rfl, qj⟩ := nat_at HR.out hlt
   have qj' := pb_ HB.out qj
   have hxn := HF.out _ (getD_mem hlt)
   have HSN := Zd.mk (seed_take (List.replicate p.N 0, []) frm j hlt)
   have HLE := Zd.mk (show (Sg.seedF (List.replicate p.N 0, []) (frm.take j)).2.length ≤ p.N from (Sg.seed_hunt (nx := p.next) (inn := inn) HF.out (frm.take j) _ (fun x hx => List.mem_of_mem_take hx) Sg.hunt0).1.le)
   generalize frm.getD j 0 = x at *
   generalize Sg.seedF (List.replicate p.N 0, []) (frm.take j) = s at *
   obtain ⟨cx, fx⟩ := intK_cell HV.out.came hxn
   have hxl : (x : Int) < (p.N : Int) := by omega
   have hsl : s.2.length ≤ 51200 := Nat.le_trans HLE.out hN
   by_cases hz : s.1.getD x 0 = 0
   ·have HP := Zd.mk (HV.out.put x (-1))
    have HBP := Zd.mk (show Below w.heap.size w (WW.setCell ⟨w.heap.size, x, none⟩ (.int .i64 (-1))) from HB.out.setCell (Nat.le_refl _) _)
    have HS2 := Zd.mk (HSN.out.trans (if_pos (show s.1.getD x 0 = 0 from hz)))
    rw [hz] at cx
    clear hz HSN
    go_wp2_with ((with_reducible refine gate_builtin (b := .append) (xs := #[.tmp 38, .tmp 40]) rfl ?_); at_builtin; refine Kd.R_append natK (w0 := w) w.heap.size rfl (.tmp 38) (.tmp 40) 23 3 (.int .i64 0) 8 rfl hui infoI rfl (by decide) (by omega) u10 s.2 x [.int .i64 (x : Int)] (fun k => k ≠ w.heap.size) (fun _ => False) rfl ?aX ?aP (fun _ hk => hk.elim) ?aF ?aO ?aB ?aS ?aL ?_; (case aX => first | rfl | (simp; done) | (go_simp; done)); (case aP => exact rfl); (case aF => exact (fun k hk => by have := HP.out.lt (by omega); show k ≠ w.heap.size; omega)); (case aO => exact HP.out.todo); (case aB => exact HBP.out); (case aS => exact HBP.out.size); (case aL => omega); intro v9 w9 ho hb hg hat; have HV9 := Zd.mk (HP.out.grown hg ho); have HB9 := Zd.mk hb; clear ho hb hg hat)
    go_roundg (gk - 1)
    case measure => have := HJ.out; omega
    case rel => exact ⟨j + 1, by have := HJ.out; omega, by go_num, ⟨by rw [HS2.out]; exact HV9.out⟩, HB9⟩
   ·have HS2 := Zd.mk (HSN.out.trans (if_neg (show ¬ s.1.getD x 0 = 0 from hz)))
    have hz2 : ((s.1.getD x 0) == 0) = false := by rw [beq_eq_false_iff_ne]; exact hz
    generalize s.1.getD x 0 = cv at *
    clear HSN
    go_wp2
    go_roundg (gk - 1)
    case measure => have := HJ.out; omega
    case rel => exact ⟨j + 1, by have := HJ.out; omega, by go_num, ⟨by rw [HS2.out]; exact HV.out⟩, HB⟩
  ·have hjl : ¬ ((j : Nat) : Int) < (frm.length : Int) := by omega
   have htk : frm.take j = frm := List.take_of_length_le (by omega)
   rw [htk] at HV
   clear htk
   have HSH := Zd.mk (Sg.seed_hunt (nx := p.next) (inn := inn) HF.out frm (List.replicate p.N 0, []) (fun _ k => k) Sg.hunt0).1
   generalize Sg.seedF (List.replicate p.N 0, []) frm = s0 at *
   obtain ⟨FN, hFN⟩ : ∃ F, F = Sg.wayF p.next inn goal p.N frm := ⟨_, rfl⟩
   rw [← hFN] at HWF
   have HFN := Zd.mk hFN
   clear hFN
   go_wp2
   go_loopg [10, 13] (p.N + 1) (fun kq v10 v13 w' => ∃ (i : Nat) (s : List Int × List Nat), kq + i = p.N + 1 ∧ v13 = .int .i64 (i : Int) ∧ Zd (Sg.huntF p.next inn goal p.N kq i s = FN) ∧ Zd (Sg.Hunt p.next inn p.N frm s) ∧ Zd (Rows2 w' w.heap.size w.heap.size p.N v10 s) ∧ Zd (Below w.heap.size w w'))
   case atStart => exact ⟨0, s0, by omega, rfl, ⟨HWF.out.symm⟩, HSH, HV, HB⟩
   case round =>
    obtain ⟨W2, rfl⟩ : ∃ W : World, W = wr := ⟨_, rfl⟩
    obtain ⟨i, s, hj, rfl, HE, HH, HV2, HB2⟩ := hrel
    obtain ⟨k1, hk1⟩ : ∃ k, k = gk := ⟨_, rfl⟩
    rw [← hk1] at hj HE
    have HJ2 := Zd.mk hj
    have HK1 := Zd.mk hk1
    clear hj hk1
    have hsle := HH.out.le
    obtain ⟨At, ct, et, hct, hCt⟩ := Kd.R_reads HV2.out.todo
    by_cases hli : i < s.2.length
    ·have hil : ((i : Nat) : Int) < (s.2.length : Int) := by omega
     obtain ⟨adt, eat, qt⟩ := nat_at hCt hli
     cases eat
     have hxn := HH.out.lt (getD_mem hli)
     have HTR := Zd.mk (HH.out.tr i _ (Sg.getD_some hli))
     obtain ⟨k2, hk2⟩ : ∃ k2, k1 = k2 + 1 := ⟨k1 - 1, by have := HJ2.out; omega⟩
     have HE2 := Zd.mk (show (if goal (s.2.getD i 0) = true then (Sg.backL s.1 p.N (s.2.getD i 0)).reverse else Sg.huntF p.next inn goal p.N k2 (i + 1) (Sg.spreadF inn (s.2.getD i 0) s (p.next (s.2.getD i 0)))) = FN from by
      have := HE.out
      rw [hk2] at this
      unfold Sg.huntF at this
      rw [if_pos hli] at this
      exact this)
     have HK2 := Zd.mk hk2
     have HGC := Zd.mk (HGG.out.tells W2 HB2.out _ hxn)
     have HXM := Zd.mk (show s.2.getD i 0 ∈ s.2 from getD_mem hli)
     have HIL := Zd.mk hli
     subst et
     clear hCt hk2 HE
     generalize s.2.getD i 0 = x at *
     cases hgx : goal x with
     | true =>
      rw [hgx] at HGC HE2
      obtain ⟨tr, htr, htl⟩ := HTR.out
      have HBK := Zd.mk (htr.back p.N (by omega))
      have HTL := Zd.mk (show tr.length ≤ 51200 from by omega)
      have HTRC := Zd.mk htr
      have HE3 := Zd.mk (show FN = tr.reverse from by have := HE2.out; rw [if_pos rfl, HBK.out] at this; exact this.symm)
      have HQ := Zd.mk (fun W (hb : Below W2.heap.size W2 W) => HV2.out.below hb)
      clear hgx htr htl HE2
      go_wp2_with ((with_reducible refine HGC.out.mono ?_); rintro e w5 ⟨rfl, hB5⟩; have HB5 := Zd.mk hB5; clear hB5)
      have HV5 := Zd.mk (HQ.out _ HB5.out)
      have HBB5 := Zd.mk (HB2.out.trans (HB5.out.mono HB2.out.size))
      have HOUT0 := Zd.mk (show Kd.R natK 3 (w5.alloc (.cells #[.int .i64 (x : Int)] 3)) w.heap.size (fun k => k ≠ w.heap.size) (.slice (some ⟨w5.heap.size, 0, none⟩) 1 1) [x] from
       Kd.R_of_own (World.ownsRow_lit (base := w.heap.size) (e := 3) (size := 1) w5 #[.int .i64 (x : Int)] 1 HBB5.out.size (by decide) rfl) (fun k hk => by
        have hk' : w5.heap.size = k := by simpa [Value.ownBlock] using hk
        have := HV5.out.lt (by omega)
        show k ≠ w.heap.size
        omega))
      have HBA := Zd.mk (show Below w.heap.size w (w5.alloc (.cells #[.int .i64 (x : Int)] 3)) from HBB5.out.alloc HBB5.out.size _)
      have HVA := Zd.mk (HV5.out.below (below_alloc (Below.refl _ _) (.cells #[.int .i64 (x : Int)] 3)))
      go_loopg [14, 15] tr.length (fun kq v14 v15 w' => ∃ (x' : Nat) (l' pre : List Nat), l'.length = kq ∧ v14 = .int .i64 (x' : Int) ∧ Zd (Sg.Traced p.next inn frm s.1 x' l') ∧ Zd (pre ++ l' = tr) ∧ Zd (Kd.R natK 3 w' w.heap.size (fun k => k ≠ w.heap.size) v15 (pre ++ [x'])) ∧ Zd (Kd.R (Kd.int .i64) 3 w' w.heap.size (fun k => k = w.heap.size) (.slice (some ⟨w.heap.size, 0, none⟩) p.N p.N) s.1) ∧ Zd (Below w.heap.size w w'))
      case atStart => exact ⟨x, tr, [], rfl, rfl, HTRC, ⟨rfl⟩, HOUT0, ⟨HVA.out.came⟩, HBA⟩
      case round =>
       obtain ⟨W6, rfl⟩ : ∃ W : World, W = wr := ⟨_, rfl⟩
       obtain ⟨x', l', pre, hl', rfl, HT6, HP6, HO6, HC6, HB6⟩ := hrel
       have HL6 := Zd.mk hl'
       clear hl'
       have hx6 : x' < p.N := by
        have := Sg.getDI_lt HT6.out.ne0
        rw [HH.out.len] at this
        exact this
       have hxl6 : (x' : Int) < (p.N : Int) := by omega
       obtain ⟨cx, fx⟩ := intK_cell HC6.out hx6
       have hpl : pre.length + l'.length ≤ 51200 := by have := HTL.out; rw [← HP6.out, List.length_append] at this; exact this
       rcases traced_cases HT6.out with ⟨e6, f6⟩ | ⟨z, l2, e6, f6, h6⟩
       ·have HF6 := Zd.mk (show pre ++ [x'] = tr from by rw [← f6]; exact HP6.out)
        have HRV := Zd.mk (Reverse_calls u15 (pre ++ [x']) w W6 _ HB6.out HO6.out (by rw [f6] at hpl; simp at hpl ⊢; omega))
        rw [e6] at cx
        clear e6 f6
        go_wp2_with (go_at_call 65; refine HRV.out.mono ?_; rintro e w7 ⟨rfl, hR7, hB7⟩; have HR7 := Zd.mk hR7; have HB7 := Zd.mk hB7; clear hR7 hB7)
        go_ret
        exact ⟨_, rfl, by rw [← HFN.out, HE3.out, ← HF6.out]; exact HR7.out, HB7.out⟩
       ·have HP7 := Zd.mk (show (pre ++ [x']) ++ l2 = tr from by rw [List.append_assoc, ← HP6.out, f6]; rfl)
        have HT7 := Zd.mk h6
        have hl7 : l2.length + 1 = gk := by rw [← HL6.out, f6]; rfl
        have HL7 := Zd.mk hl7
        have hzn : z < p.N := by
         have := Sg.getDI_lt h6.ne0
         rw [HH.out.len] at this
         exact this
        have hpx : (pre ++ [x']).length ≤ 51200 := by rw [f6] at hpl; simp at hpl ⊢; omega
        have hz0 : (0 : Int) ≤ (z : Int) := Int.natCast_nonneg _
        have hz1 : (z : Int) ≤ 51200 := by omega
        rw [e6] at cx
        clear e6 f6 h6 hl7
        go_wp2_with ((with_reducible refine gate_builtin (b := .append) (xs := #[.tmp 68, .tmp 70]) rfl ?_); at_builtin; refine Kd.R_append natK (w0 := w) w.heap.size rfl (.tmp 68) (.tmp 70) 23 3 (.int .i64 0) 8 rfl hui infoI rfl (by decide) (by omega) u15 (pre ++ [x']) z [.int .i64 (z : Int)] (fun k => k ≠ w.heap.size) (fun _ => False) rfl ?aX ?aP (fun _ hk => hk.elim) ?aF ?aO ?aB ?aS ?aL ?_; (case aX => first | rfl | (simp; done) | (go_simp; done)); (case aP => exact rfl); (case aF => exact (fun k hk => by have := own_lt (Kd.R_own HC6.out).choose_spec w.heap.size rfl; show k ≠ w.heap.size; omega)); (case aO => exact HO6.out); (case aB => exact HB6.out); (case aS => exact HB6.out.size); (case aL => omega); intro v9 w9 ho hb hg hat; have HO9 := Zd.mk ho; have HB9 := Zd.mk hb; have HC9 := Zd.mk (Kd.R_grown HC6.out hg (fun k hk e_ => HO6.out.1 k e_.symm hk)); clear ho hb hg hat)
        go_roundg (gk - 1)
        case measure => have := HL7.out; omega
        case rel => exact ⟨z, l2, pre ++ [x'], by have := HL7.out; omega, rfl, HT7, HP7, HO9, HC9, HB9⟩
     | false =>
      rw [hgx] at HGC HE2
      have HE3 := Zd.mk (show Sg.huntF p.next inn goal p.N k2 (i + 1) (Sg.spreadF inn x s (p.next x)) = FN from by have := HE2.out; rwa [if_neg (by simp)] at this)
      have HQ := Zd.mk (fun W (hb : Below W2.heap.size W2 W) => HV2.out.below hb)
      have HSP := Zd.mk (fun l hl => Sg.spread_hunt (frm := frm) (inn := inn) HNX.out (x := x) l s hl HXM.out HH.out)
      have hlen : (p.next x).length ≤ 51200 := by
       have := HOK.out.flat_le (x := x) (j := (p.nxs.getD (x / p.size) []).length) hxn
       rwa [List.take_of_length_le (Nat.le_refl _)] at this
      have HNW := Zd.mk (fun W (hb : Below w.heap.size w W) => next_walk p g x W (HPR.out.below hb) HOK.out hxn)
      have HRL := Zd.mk (fun y (hy : y ∈ p.next x) => HNX.out x hxn y hy)
      clear hgx HE2
      generalize p.next x = row at *
      go_wp2_with (first | ((with_reducible refine HGC.out.mono ?_); rintro e w5 ⟨rfl, hB5⟩; have HV5 := Zd.mk (HQ.out _ hB5); have HB5 := Zd.mk (HB2.out.trans (hB5.mono HB2.out.size)); clear hB5) | (go_at_call 66; refine (HNW.out _ HB5.out).mono ?_; rintro e w6 ⟨vr, rfl, hR6, hB6⟩; obtain ⟨Ar, cr, er, hcr, hCr⟩ := Kd.R_reads hR6; subst er; have HV6 := Zd.mk (HV5.out.below hB6); have HR6 := Zd.mk (show Kd.R natK 3 w6 w.heap.size (fun k => (k ≠ w.heap.size) ∧ some k ≠ (Value.slice (some adt) s.2.length ct).ownBlock) (.slice Ar row.length cr) row from HV5.out.apart (by omega) HB5.out.size hR6); have HB6 := Zd.mk (HB5.out.trans (hB6.mono HB5.out.size)); clear hR6 hB6 hCr hcr))
      go_loopg [10, 79] row.length (fun kq v10 v79 w' => ∃ q : Nat, q + kq = row.length ∧ v79 = .int .i64 (q : Int) ∧ Zd (Rows2 w' w.heap.size w.heap.size p.N v10 (Sg.spreadF inn x s (row.take q))) ∧ Zd (Kd.R natK 3 w' w.heap.size (fun k => (k ≠ w.heap.size) ∧ some k ≠ v10.ownBlock) (.slice Ar row.length cr) row) ∧ Zd (Below w.heap.size w w'))
      case atStart => exact ⟨0, by omega, rfl, HV6, HR6, HB6⟩
      case round =>
       obtain ⟨W7, rfl⟩ : ∃ W : World, W = wr := ⟨_, rfl⟩
       obtain ⟨q, hq, rfl, HV7, HR7, HB7⟩ := hrel
       have HQ7 := Zd.mk hq
       clear hq
       by_cases hlq : q < row.length
       ·have hql : ((q : Nat) : Int) < (row.length : Int) := by omega
        obtain ⟨A7', c7', e7, hc7, hC7⟩ := Kd.R_reads HR7.out
        cases e7
        obtain ⟨adr, ear, qr⟩ := nat_at hC7 hlq
        cases ear
        have hyn := HRL.out _ (getD_mem hlq)
        have HST := Zd.mk (spread_take inn x s row q hlq)
        have HLE := Zd.mk (show (Sg.spreadF inn x s (row.take q)).2.length ≤ p.N from (HSP.out (row.take q) (fun y hy => List.mem_of_mem_take hy)).1.le)
        have HIC := Zd.mk (HII.out.tells W7 HB7.out _ hyn)
        clear hC7 hc7
        generalize row.getD q 0 = y at *
        generalize Sg.spreadF inn x s (row.take q) = sq at *
        obtain ⟨cx, fx⟩ := intK_cell HV7.out.came hyn
        have hyl : (y : Int) < (p.N : Int) := by omega
        have hsl : sq.2.length ≤ 51200 := Nat.le_trans HLE.out hN
        have hx1 : (x : Int) ≤ 51200 := by omega
        by_cases hz : sq.1.getD y 0 = 0
        ·cases hiy : inn y with
         | true =>
          rw [hiy] at HIC
          have HS2 := Zd.mk (HST.out.trans (if_pos ⟨hz, hiy⟩))
          have HPQ := Zd.mk (fun W (hb : Below W7.heap.size W7 W) => And.intro (intK_cell (HV7.out.below hb).came hyn) (And.intro ((HV7.out.below hb).put y ((x : Int) + 1)) (Kd.R_far (p := ⟨w.heap.size, y, none⟩) (Kd.R_below HR7.out hb) (fun k hk => hk.1) (.int .i64 ((x : Int) + 1)))))
          have hsz : (sq.1.getD y 0 == 0) = true := by rw [hz]; rfl
          rw [hz] at cx
          clear hz hiy HST
          go_wp2_with (first | ((with_reducible refine HIC.out.mono ?_); rintro e w8 ⟨rfl, hB8⟩; obtain ⟨⟨cy, fy⟩, hP8, hR8⟩ := HPQ.out _ hB8; have HP8 := Zd.mk hP8; have HR8 := Zd.mk hR8; have HB8 := Zd.mk ((HB7.out.trans (hB8.mono HB7.out.size)).setCell (Nat.le_refl w.heap.size) (p := ⟨w.heap.size, y, none⟩) (.int .i64 ((x : Int) + 1))); clear hB8 hP8 hR8) | ((with_reducible refine gate_builtin (b := .append) (xs := #[.tmp 98, .tmp 100]) rfl ?_); at_builtin; refine Kd.R_append natK (w0 := w) w.heap.size rfl (.tmp 98) (.tmp 100) 23 3 (.int .i64 0) 8 rfl hui infoI rfl (by decide) (by omega) u10 sq.2 y [.int .i64 (y : Int)] (fun k => k ≠ w.heap.size) (fun _ => False) rfl ?aX ?aP (fun _ hk => hk.elim) ?aF ?aO ?aB ?aS ?aL ?_; (case aX => first | rfl | (simp; done) | (go_simp; done)); (case aP => exact rfl); (case aF => exact (fun k hk => by have := HP8.out.lt (by omega); show k ≠ w.heap.size; omega)); (case aO => exact HP8.out.todo); (case aB => exact HB8.out); (case aS => exact HB8.out.size); (case aL => omega); intro v9 w9 ho hb hg hat; have HV9 := Zd.mk (HP8.out.grown hg ho); have HB9 := Zd.mk hb; have HR9 := Zd.mk (Kd.R_after HR8.out hg hat); clear ho hb hg hat))
          go_roundg (gk - 1)
          case measure => have := HQ7.out; omega
          case rel => exact ⟨q + 1, by have := HQ7.out; omega, by go_num, ⟨by rw [HS2.out]; exact HV9.out⟩, HR9, HB9⟩
         | false =>
          rw [hiy] at HIC
          have HS2 := Zd.mk (HST.out.trans (if_neg (fun h => by rw [hiy] at h; cases h.2)))
          rw [hz] at cx
          clear hz hiy HST
          have HPQ := Zd.mk (fun W (hb : Below W7.heap.size W7 W) => And.intro (HV7.out.below hb) (Kd.R_below HR7.out hb))
          go_wp2_with ((with_reducible refine HIC.out.mono ?_); rintro e w8 ⟨rfl, hB8⟩; obtain ⟨hP8, hR8⟩ := HPQ.out _ hB8; have HP8 := Zd.mk hP8; have HR8 := Zd.mk hR8; have HB8 := Zd.mk (HB7.out.trans (hB8.mono HB7.out.size)); clear hB8 hP8 hR8)
          go_roundg (gk - 1)
          case measure => have := HQ7.out; omega
          case rel => exact ⟨q + 1, by have := HQ7.out; omega, by go_num, ⟨by rw [HS2.out]; exact HP8.out⟩, HR8, HB8⟩
        ·have HS2 := Zd.mk (HST.out.trans (if_neg (fun h => hz h.1)))
         have hz2 : ((sq.1.getD y 0) == 0) = false := by rw [beq_eq_false_iff_ne]; exact hz
         generalize sq.1.getD y 0 = cv at *
         clear HST
         go_wp2
         go_roundg (gk - 1)
         case measure => have := HQ7.out; omega
         case rel => exact ⟨q + 1, by have := HQ7.out; omega, by go_num, ⟨by rw [HS2.out]; exact HV7.out⟩, HR7, HB7⟩
       ·have hql : ¬ ((q : Nat) : Int) < (row.length : Int) := by omega
        have htk : row.take q = row := List.take_of_length_le (by omega)
        rw [htk] at HV7
        have HHN := Zd.mk (HSP.out row (fun _ k => k)).1
        clear htk
        go_wp2
        go_roundg (k1 - 1)
        case measure => have := HJ2.out; have := HK1.out; have := HK2.out; omega
        case rel => exact ⟨i + 1, Sg.spreadF inn x s row, by have := HJ2.out; have := HK2.out; omega, by go_num, ⟨by have := HK2.out; rw [this]; exact HE3.out⟩, HHN, HV7, HB7⟩
    ·have hil : ¬ ((i : Nat) : Int) < (s.2.length : Int) := by omega
     have HE2 := Zd.mk (show FN = [] from by
      rw [← HE.out]
      cases k1 with
      | zero => rfl
      | succ k2 => unfold Sg.huntF; rw [if_neg hli])
     subst et
     clear hCt
     go_wp2
     go_ret
     exact ⟨_, rfl, by rw [← HFN.out, HE2.out]; exact Kd.R_nil _ _ _ _ _, HB2.out⟩
def PD.P (p : PD) : Nat := p.parts.length
theorem any_take (f : Nat → Bool) (l : List Nat) (j : Nat) (h : j < l.length) : (l.take (j + 1)).any f = ((l.take j).any f || f (l.getD j 0)) := by
 rw [take_snocN h, List.any_append]; simp
theorem all_range (f : Nat → Bool) (i : Nat) : (List.range (i + 1)).all f = ((List.range i).all f && f i) := by
 rw [List.range_succ, List.all_append]; simp
theorem all_stop {f : Nat → Bool} {i n : Nat} (h : i < n) (hf : f i = false) : (List.range n).all f = false := by
 cases e : (List.range n).all f with
 | false => rfl
 | true =>
  rw [List.all_eq_true] at e
  have := e i (List.mem_range.2 h)
  rw [hf] at this
  cases this
theorem settles_walk (p : PD) (g gc : Nat) (cb : List Bool) (A : Option Addr) (c : Nat) (all : List Nat) (w : World) (h : IsProd w g p) (hok : p.Ok) (hc : IsComp w gc cb) (hcl : cb.length = p.N) (hr : Kd.C natK w A all.length all) (hall : ∀ x, x ∈ all → x < p.N) (hne : 0 < all.length) (hal : all.length < 1000000) :
  Calls Try.prog 96 #[.pointer (some ⟨g, 0, none⟩), .pointer (some ⟨gc, 0, none⟩), .slice A all.length c] w fun e w' => e = .returned (.bool (Sg.settF p.next p.P p.good cb all)) ∧ Below w.heap.size w w' := by
 have hui := Try.underlying23
 have huP := Try.underlying79
 obtain ⟨A0, A1, A2, A5, A7, A8, c0, c1, c2, c5, c7, c8, h'⟩ := id h
 have q7 := h'.q7
 have HPR := Zd.mk h
 have HOK := Zd.mk hok
 have HR := Zd.mk hr
 have HAL := Zd.mk hall
 obtain ⟨ad, rfl, q0⟩ := nat_at hr hne
 rw [show ad.add 0 = ad by simp [Addr.add]] at q0
 have hh : all.headD 0 = all.getD 0 0 := by cases all <;> rfl
 have HSF := Zd.mk (show Sg.settF p.next p.P p.good cb all = (!((p.next (all.getD 0 0)).filter (Sg.hasF cb)).isEmpty && (List.range p.P).all fun i => all.any fun x => p.good i x) from by unfold Sg.settF; rw [hh]; rfl)
 have HIN := Zd.mk (inner_walk p g gc (all.getD 0 0) cb w h hok (hall _ (getD_mem hne)) hc hcl)
 have hP : p.parts.length ≤ 8 := hok.pl
 have h00 : (0 : Int) < (all.length : Int) := by omega
 clear h h' hok hr hall hc hh
 generalize all.getD 0 0 = x0 at *
 generalize (p.next x0).filter (Sg.hasF cb) = inn at *
 cases hie : inn.isEmpty with
 | true =>
  have hl : inn.length = 0 := by rw [List.isEmpty_iff] at hie; rw [hie]; rfl
  have HL := Zd.mk hl
  have HE := Zd.mk (show Sg.settF p.next p.P p.good cb all = false from by rw [HSF.out, hie]; rfl)
  clear hl hie
  go_enter Try.func96, Try.ntmps96
  go_wp2_with (go_at_call 71; refine HIN.out.mono ?_; rintro e w4 ⟨v4, rfl, hR4, hB4⟩; obtain ⟨A4, c4, e4, _, _⟩ := Kd.R_reads hR4; subst e4; rw [HL.out]; have HB4 := Zd.mk hB4; clear hB4 hR4)
  go_ret
  exact ⟨by rw [HE.out]; rfl, HB4.out⟩
 | false =>
  have hl : 0 < inn.length := by
   cases inn with
   | nil => cases hie
   | cons a r => simp
  have hl2 : ((inn.length : Int) == 0) = false := by rw [beq_eq_false_iff_ne]; omega
  have hl3 : ¬ inn.length = 0 := by omega
  have HE := Zd.mk (show Sg.settF p.next p.P p.good cb all = (List.range p.P).all fun i => all.any fun x => p.good i x from by rw [HSF.out, hie]; rfl)
  clear hie
  go_enter Try.func96, Try.ntmps96
  go_wp2_with (go_at_call 71; refine HIN.out.mono ?_; rintro e w4 ⟨v4, rfl, hR4, hB4⟩; obtain ⟨A4, c4, e4, _, _⟩ := Kd.R_reads hR4; subst e4; have q7' := pb_ hB4 q7; have HB4 := Zd.mk hB4; clear hB4 hR4)
  go_loopg [24] p.parts.length (fun kq v24 w' => ∃ i : Nat, i + kq = p.parts.length ∧ v24 = .int .i64 (i : Int) ∧ Zd ((List.range i).all (fun i => all.any fun x => p.good i x) = true) ∧ Zd (Below w.heap.size w w'))
  case atStart => exact ⟨0, by omega, rfl, ⟨rfl⟩, HB4⟩
  case round =>
   obtain ⟨WW, rfl⟩ : ∃ W : World, W = wr := ⟨_, rfl⟩
   obtain ⟨i, hi, rfl, HAA, HB⟩ := hrel
   obtain ⟨k1, hk1⟩ : ∃ k, k = gk := ⟨_, rfl⟩
   rw [← hk1] at hi
   have HI := Zd.mk hi
   have HK1 := Zd.mk hk1
   clear hi hk1
   by_cases hlt : i < p.parts.length
   ·have hil : ((i : Nat) : Int) < (p.parts.length : Int) := by omega
    have HAR := Zd.mk (all_range (fun i => all.any fun x => p.good i x) i)
    have HAS := Zd.mk (fun hf => all_stop (f := fun i => all.any fun x => p.good i x) (i := i) (n := p.P) hlt hf)
    have HGD := Zd.mk (fun W (hb : Below w.heap.size w W) x hx => good_calls p g i x W (HPR.out.below hb) HOK.out hx)
    go_wp2
    go_loopg [8, 29] all.length (fun kq v8 v29 w' => ∃ (j : Nat) (b : Bool), j + kq = all.length ∧ v29 = .int .i64 (j : Int) ∧ v8 = .bool b ∧ Zd ((all.take j).any (fun x => p.good i x) = b) ∧ Zd (Below w.heap.size w w'))
    case atStart => exact ⟨0, false, by omega, rfl, rfl, ⟨rfl⟩, HB⟩
    case round =>
     obtain ⟨WX, rfl⟩ : ∃ W : World, W = wr := ⟨_, rfl⟩
     obtain ⟨j, b, hj, rfl, rfl, HAB, HB2⟩ := hrel
     have HJ := Zd.mk hj
     clear hj
     by_cases hlj : j < all.length
     ·have hjl : ((j : Nat) : Int) < (all.length : Int) := by omega
      obtain ⟨ad2, e2, qj⟩ := nat_at HR.out hlj
      cases e2
      have qj' := pb_ HB2.out qj
      have HAT := Zd.mk (any_take (fun x => p.good i x) all j hlj)
      have HG2 := Zd.mk (HGD.out WX HB2.out _ (HAL.out _ (getD_mem hlj)))
      generalize all.getD j 0 = x at *
      cases b with
      | true =>
       go_wp2
       go_roundg (gk - 1)
       case measure => have := HJ.out; omega
       case rel => exact ⟨j + 1, true, by have := HJ.out; omega, by go_num, rfl, ⟨by rw [HAT.out, HAB.out]; rfl⟩, HB2⟩
      | false =>
       have HGV := Zd.mk (show ((all.take (j + 1)).any fun x => p.good i x) = p.good i x from by rw [HAT.out, HAB.out, Bool.false_or])
       generalize p.good i x = gv at *
       go_wp2_with (go_at_call 69; refine HG2.out.mono ?_; rintro e w5 ⟨rfl, hB5⟩; have HB5 := Zd.mk (HB2.out.trans (hB5.mono HB2.out.size)); clear hB5)
       go_roundg (gk - 1)
       case measure => have := HJ.out; omega
       case rel => exact ⟨j + 1, gv, by have := HJ.out; omega, by go_num, rfl, HGV, HB5⟩
     ·have hjl : ¬ ((j : Nat) : Int) < (all.length : Int) := by omega
      have htk : all.take j = all := List.take_of_length_le (by omega)
      rw [htk] at HAB
      clear htk
      cases b with
      | true =>
       have HN := Zd.mk (show (List.range (i + 1)).all (fun i => all.any fun x => p.good i x) = true from by rw [HAR.out, HAA.out]; simpa using HAB.out)
       go_wp2
       go_roundg (k1 - 1)
       case measure => have := HI.out; have := HK1.out; omega
       case rel => exact ⟨i + 1, by have := HI.out; omega, by go_num, HN, HB2⟩
      | false =>
       have HN := Zd.mk (show Sg.settF p.next p.P p.good cb all = false from HE.out.trans (HAS.out HAB.out))
       go_wp2
       go_ret
       exact ⟨by rw [HN.out]; rfl, HB2.out⟩
   ·have hil : ¬ ((i : Nat) : Int) < (p.parts.length : Int) := by omega
    have hie : p.P = i := by have := HI.out; show p.parts.length = i; omega
    have HN := Zd.mk (show Sg.settF p.next p.P p.good cb all = true from by rw [HE.out, hie]; exact HAA.out)
    clear hie
    go_wp2
    go_ret
    exact ⟨by rw [HN.out]; rfl, HB.out⟩
def srd.T12 : Bool × List (List Nat × List Nat) := (true, [([], []), ([], []), ([], []), ([], []), ([1, 2, 3], [1, 2, 3]), ([], []), ([], []), ([0, 4, 5, 6, 4], [0, 4, 5, 6]), ([7, 7, 0, 1, 2, 3, 4, 5, 6, 7], [7])])
def srd.B12 : List Nat := [0, 0, 0, 0, 14, 0, 0, 127, 255]
theorem srd.tab12 : rtab .any (opsOf Try.f51 12) = srd.T12 := by kernel_rfl
theorem srd.bits12 : waitsOk srd.T12.2 srd.B12 = true := by kernel_rfl
theorem round1_calls (p : PD) (g b b9 i y : Nat) (W : World) (hb : Cell1 W b (.pointer (some ⟨g, 0, none⟩)) 59) (hi : Cell1 W b9 (.int .i64 (i : Int)) 3) (h : IsProd W g p) (hok : p.Ok) (hy : y < p.N) :
  Calls Try.prog 68 #[.int .i64 (y : Int), .pointer (some ⟨b, 0, none⟩), .pointer (some ⟨b9, 0, none⟩)] W fun e W' => e = .returned (.bool (p.good i y)) ∧ Below W.heap.size W W' := by
 have q := cell1 hb
 have q9 := cell1 hi
 have HC := Zd.mk (good_calls p g i y W h hok hy)
 clear hb hi h hok hy
 generalize p.good i y = r at *
 go_enter Try.func68, Try.ntmps68
 go_wp2_with (go_at_call 69; refine HC.out.mono ?_; rintro e w4 ⟨rfl, hB4⟩; have HB4 := Zd.mk hB4; clear hB4)
 go_ret
 exact ⟨rfl, HB4.out⟩
theorem round2_calls (p : PD) (g b b9 i y : Nat) (W : World) (hb : Cell1 W b (.pointer (some ⟨g, 0, none⟩)) 59) (hi : Cell1 W b9 (.int .i64 (i : Int)) 3) (h : IsProd W g p) (hok : p.Ok) (hy : y < p.N) :
  Calls Try.prog 70 #[.int .i64 (y : Int), .pointer (some ⟨b, 0, none⟩), .pointer (some ⟨b9, 0, none⟩)] W fun e W' => e = .returned (.bool (p.good i y)) ∧ Below W.heap.size W W' := by
 have q := cell1 hb
 have q9 := cell1 hi
 have HC := Zd.mk (good_calls p g i y W h hok hy)
 clear hb hi h hok hy
 generalize p.good i y = r at *
 go_enter Try.func70, Try.ntmps70
 go_wp2_with (go_at_call 69; refine HC.out.mono ?_; rintro e w4 ⟨rfl, hB4⟩; have HB4 := Zd.mk hB4; clear hB4)
 go_ret
 exact ⟨rfl, HB4.out⟩
theorem round3_calls (b x y : Nat) (W : World) (hb : Cell1 W b (.int .i64 (x : Int)) 3) :
  Calls Try.prog 72 #[.int .i64 (y : Int), .pointer (some ⟨b, 0, none⟩)] W fun e W' => e = .returned (.bool (y == x)) ∧ Below W.heap.size W W' := by
 have q := cell1 hb
 have e1 : (((y : Nat) : Int) == ((x : Nat) : Int)) = (y == x) := by
  rw [Bool.eq_iff_iff, beq_iff_eq, beq_iff_eq]; omega
 have HE := Zd.mk e1
 clear hb e1
 go_enter Try.func72, Try.ntmps72
 go_wp2
 go_ret
 exact ⟨by rw [← HE.out]; first | rfl | simp, Below.refl _ _⟩
theorem has_fn (gc N : Nat) (cb : List Bool) (w : World) (h : IsComp w gc cb) (hcl : cb.length = N) : PredFn 49 #[.pointer (some ⟨gc, 0, none⟩)] #[] (Sg.hasF cb) N w :=
 ⟨enters_f Try.func49 (by kernel_rfl) rfl, fun W hW x hx => has_walk gc x cb W (h.below hW) (by rw [hcl]; exact hx)⟩
theorem mul8 {i l : Nat} (h : i ≤ 8) (h1 : l ≤ 1 + i * 51200) : l ≤ 1000000 := by omega
theorem last_getD : ∀ (l : List Nat), l ≠ [] → l.getD (l.length - 1) 0 = l.getLastD 0
 | [], h => absurd rfl h
 | [a], _ => rfl
 | a :: b :: r, _ => by
  have := last_getD (b :: r) (by simp)
  rw [List.getLastD_cons] at this
  rw [List.getLastD_cons, List.getLastD_cons]
  show (a :: b :: r).getD (r.length + 1) 0 = _
  rw [List.getD_cons_succ]
  exact this
theorem range_drop {n i : Nat} (h : i < n) : (List.range n).drop i = i :: (List.range n).drop (i + 1) := by
 rw [List.drop_eq_getElem_cons (by simpa using h)]; simp
theorem C_one (w : World) (x : Nat) : Kd.C natK (w.alloc (.cells #[.int .i64 (x : Int)] 3)) (some ⟨w.heap.size, 0, none⟩) [x].length [x] := by
 have h := Kd.R_of_own (enc := natV) (h1 := fun _ => rfl) (xs := [x]) (ok := fun _ => True) (World.ownsRow_lit (base := 0) (e := 3) (size := 1) w #[.int .i64 (x : Int)] 1 (Nat.zero_le _) (by decide) rfl) (fun _ _ => trivial)
 obtain ⟨A, c, e, _, hC⟩ := Kd.R_reads h
 cases e
 exact hC
theorem R_one (w : World) (x base : Nat) (hb : base ≤ w.heap.size) : Kd.R natK 3 (w.alloc (.cells #[.int .i64 (x : Int)] 3)) base (fun _ => True) (.slice (some ⟨w.heap.size, 0, none⟩) 1 1) [x] :=
 Kd.R_of_own (enc := natV) (h1 := fun _ => rfl) (xs := [x]) (World.ownsRow_lit (base := base) (e := 3) (size := 1) w #[.int .i64 (x : Int)] 1 hb (by decide) rfl) (fun _ _ => trivial)
theorem natK_take1 {w : World} {A : Option Addr} {c : Nat} {xs : List Nat} (hne : 0 < xs.length) (hc : xs.length ≤ c) (hC : Kd.C natK w A xs.length xs) :
  (∀ W : World, (Instr.slice 23 (.slice A xs.length c) none (some (.int .i64 ((xs.length : Int) - 1))) none).run Try.prog W = .ok (.slice A xs.dropLast.length c) W) ∧ Kd.C natK w A xs.dropLast.length xs.dropLast := by
 obtain ⟨iI, h1, h2⟩ := Option.map_eq_some_iff.1 infoI
 simp only [Prod.mk.injEq] at h2
 obtain ⟨hr, hd, _⟩ := print_take_of natV 0 23 3 .i64 Try.underlying23 h1 h2.2.1 A c xs ((xs.length : Int) - 1) (by omega) (by omega) hc
 have e : xs.take ((xs.length : Int) - 1).toNat = xs.dropLast := by
  rw [List.dropLast_eq_take]; congr 1; omega
 rw [e] at hr hd
 exact ⟨hr, Kd.C_of_reads (d := 0) (hd w (Kd.reads_of_C (d := 0) hC))⟩
theorem round_walk (p : PD) (g gc x : Nat) (cb : List Bool) (frm : List Nat) (w : World) (h : IsProd w g p) (hok : p.Ok) (hc : IsComp w gc cb) (hG : Sg.GoodC p.next p.N p.P p.good frm cb) (hx : cb.getD x false = true) :
  Calls Try.prog 51 #[.pointer (some ⟨g, 0, none⟩), .pointer (some ⟨gc, 0, none⟩), .int .i64 (x : Int)] w fun e w' => ∃ v, e = .returned v ∧ Kd.R natK 3 w' w.heap.size (fun _ => True) v (Sg.roundF p.next (Sg.hasF cb) p.good p.N p.P x) ∧ Below w.heap.size w w' ∧ (Sg.roundF p.next (Sg.hasF cb) p.good p.N p.P x).length ≤ 2000000 := by
 have hui := Try.underlying23
 have huP := Try.underlying79
 have hmf : ∀ fn first cap w, (Instr.makeFunc fn first cap).run Try.prog w = .ok (.func fn first cap) w := fun _ _ _ _ => rfl
 obtain ⟨W1, hW1⟩ : ∃ W1, W1 = w.alloc (.cells #[.pointer (some ⟨g, 0, none⟩)] 59) := ⟨_, rfl⟩
 obtain ⟨W2, hW2⟩ : ∃ W2, W2 = W1.alloc (.cells #[.int .i64 (x : Int)] 3) := ⟨_, rfl⟩
 have hz1 : W1.heap.size = w.heap.size + 1 := by rw [hW1]; simp
 have hB1 : Below w.heap.size w W1 := by rw [hW1]; exact below_alloc (Below.refl _ _) _
 have hB2 : Below w.heap.size w W2 := by rw [hW2]; exact below_alloc hB1 _
 have hb3 : Cell1 W2 w.heap.size (.pointer (some ⟨g, 0, none⟩)) 59 := by rw [hW2, hW1]; exact ba_ (heap_alloc_new w _) _
 have hb5 : Cell1 W2 (w.heap.size + 1) (.int .i64 (x : Int)) 3 := by rw [hW2, ← hz1]; exact heap_alloc_new W1 _
 have HWW := Zd.mk (show W2 = (w.alloc (.cells #[.pointer (some ⟨g, 0, none⟩)] 59)).alloc (.cells #[.int .i64 (x : Int)] 3) from by rw [hW2, hW1])
 have HB2 := Zd.mk hB2
 have HB3 := Zd.mk hb3
 have HB5 := Zd.mk hb5
 have HPR := Zd.mk (h.below hB2)
 have HCO := Zd.mk (hc.below hB2)
 have HOK := Zd.mk hok
 have HGC := Zd.mk hG
 have HNX := Zd.mk (fun x (hx : x < p.N) y (hy : y ∈ p.next x) => hok.next_lt hx hy)
 obtain ⟨A0, A1, A2, A5, A7, A8, c0, c1, c2, c5, c7, c8, h'⟩ := id (h.below hB2)
 have q7 := h'.q7
 have hcx := cell1 hb3
 have hpl : p.parts.length ≤ 8 := hok.pl
 have hN := hok.N_le
 have HXX := Zd.mk hx
 have HRF := Zd.mk (show Sg.roundF p.next (Sg.hasF cb) p.good p.N p.P x = Sg.backF p.next (Sg.hasF cb) p.N x (Sg.partsF p.next (Sg.hasF cb) p.good p.N (List.range p.P) [x]) from rfl)
 have HR0 := Zd.mk (R_one W2 x W2.heap.size (Nat.le_refl _))
 have HBR := Zd.mk (show Below W2.heap.size W2 (W2.alloc (.cells #[.int .i64 (x : Int)] 3)) from below_alloc (Below.refl _ _) _)
 have q7a := pb_ HBR.out q7
 have hcxa := pb_ HBR.out hcx
 have hb5c := cell1 hb5
 obtain ⟨PF, hPF⟩ : ∃ F, F = Sg.partsF p.next (Sg.hasF cb) p.good p.N (List.range p.P) [x] := ⟨_, rfl⟩
 rw [← hPF] at HRF
 have HPF := Zd.mk hPF
 clear h h' hc hok hG hx hW1 hW2 hz1 hB1 hB2 hb3 hb5 hPF
 go_enter Try.func51, Try.ntmps51
 go_upto_region 1 with fail
 rw [← HWW.out]
 go_wp2
 go_loopg [8, 23] p.parts.length (fun kq v8 v23 w' => ∃ (i : Nat) (cur : List Nat), i + kq = p.parts.length ∧ v23 = .int .i64 (i : Int) ∧ Zd (Sg.partsF p.next (Sg.hasF cb) p.good p.N ((List.range p.P).drop i) cur = PF) ∧ Zd (Sg.Walk p.next (Sg.hasF cb) x cur) ∧ Zd (cur.length ≤ 1 + i * 51200) ∧ Zd (Kd.R natK 3 w' W2.heap.size (fun _ => True) v8 cur) ∧ Zd (Below W2.heap.size W2 w'))
 case atStart => exact ⟨0, [x], by omega, rfl, ⟨HPF.out.symm⟩, ⟨trivial, ⟨[], rfl⟩, fun y hy => by rw [List.mem_singleton.1 hy]; exact HXX.out⟩, ⟨Nat.le_refl _⟩, HR0, HBR⟩
 case round =>
  obtain ⟨WW, rfl⟩ : ∃ W : World, W = wr := ⟨_, rfl⟩
  obtain ⟨i, cur, hj, rfl, HPE, HWK, HLE, HV, HB⟩ := hrel
  have HJ := Zd.mk hj
  clear hj
  obtain ⟨q, hq⟩ := HWK.out.head
  have hcne : cur ≠ [] := by rw [hq]; simp
  have hcl0 : 0 < cur.length := by rw [hq]; simp
  clear hq
  have hmem : ∀ y, y ∈ cur → y < p.N := fun y hy => HGC.out.lt y (HWK.out.mem y hy)
  obtain ⟨Ac, cc, ec, hcc, hCc⟩ := Kd.R_reads HV.out
  cases ec
  have hlast := last_getD cur hcne
  obtain ⟨adc, eac, qlast⟩ := nat_at hCc (j := cur.length - 1) (by omega)
  cases eac
  rw [hlast] at qlast
  by_cases hlt : i < p.parts.length
  ·have hil : ((i : Nat) : Int) < (p.parts.length : Int) := by omega
   have hcl : cur.length ≤ 1000000 := mul8 (by omega) HLE.out
   have HPE2 := Zd.mk (show Sg.partsF p.next (Sg.hasF cb) p.good p.N ((List.range p.P).drop (i + 1)) (if cur.any (p.good i) = true then cur else cur ++ (Sg.wayF p.next (Sg.hasF cb) (p.good i) p.N [cur.getLastD 0]).tail) = PF from by
    have := HPE.out
    rw [range_drop (show i < p.P from hlt), Sg.partsF_cons] at this
    exact this)
   obtain ⟨hln, mm, hway, hwk2⟩ := Sg.part_way HGC.out HNX.out (i := i) hlt HWK.out
   have HWL := Zd.mk (Sg.way_len (inn := Sg.hasF cb) (goal := p.good i) HNX.out (frm := [cur.getLastD 0]) (fun y hy => by rw [List.mem_singleton.1 hy]; exact hln))
   rw [hway] at HPE2 HWL
   obtain ⟨W9, hW9⟩ : ∃ W9, W9 = WW.alloc (.cells #[.int .i64 (i : Int)] 3) := ⟨_, rfl⟩
   have hB9 : Below WW.heap.size WW W9 := by rw [hW9]; exact below_alloc (Below.refl _ _) _
   have hB29 : Below W2.heap.size W2 W9 := HB.out.trans (hB9.mono HB.out.size)
   have hb9 : Cell1 W9 WW.heap.size (.int .i64 (i : Int)) 3 := by rw [hW9]; exact heap_alloc_new WW _
   have hb39 : Cell1 W9 w.heap.size (.pointer (some ⟨g, 0, none⟩)) 59 := (hB29.block _ (blk_lt HB3.out)).trans HB3.out
   have HPR9 := Zd.mk (HPR.out.below hB29)
   have hp1 : PredFn 68 #[] #[.pointer (some ⟨w.heap.size, 0, none⟩), .pointer (some ⟨WW.heap.size, 0, none⟩)] (p.good i) p.N W9 :=
    ⟨enters_f Try.func68 (by kernel_rfl) rfl, fun W hW y hy => round1_calls p g w.heap.size WW.heap.size i y W ((hW.block _ (blk_lt hb39)).trans hb39) ((hW.block _ (blk_lt hb9)).trans hb9) (HPR9.out.below hW) HOK.out hy⟩
   have hp2 : PredFn 70 #[] #[.pointer (some ⟨w.heap.size, 0, none⟩), .pointer (some ⟨WW.heap.size, 0, none⟩)] (p.good i) p.N W9 :=
    ⟨enters_f Try.func70 (by kernel_rfl) rfl, fun W hW y hy => round2_calls p g w.heap.size WW.heap.size i y W ((hW.block _ (blk_lt hb39)).trans hb39) ((hW.block _ (blk_lt hb9)).trans hb9) (HPR9.out.below hW) HOK.out hy⟩
   have HCF := Zd.mk (ContainsFunc_calls _ _ _ _ p.N (some adc) cc cur W9 hp1 (Kd.C_below hCc hB9) hmem (by omega))
   have HWY := Zd.mk (fun W (hb : Below W9.heap.size W9 W) => show Calls Try.prog 47 #[.pointer (some ⟨g, 0, none⟩), .slice (some ⟨W.heap.size, 0, none⟩) 1 1, .func (.func 49) #[.pointer (some ⟨gc, 0, none⟩)] #[], .func (.func 70) #[] #[.pointer (some ⟨w.heap.size, 0, none⟩), .pointer (some ⟨WW.heap.size, 0, none⟩)]] (W.alloc (.cells #[.int .i64 ((cur.getLastD 0 : Nat) : Int)] 3)) _ from
    way_walk p g 49 70 #[.pointer (some ⟨gc, 0, none⟩)] #[] #[] #[.pointer (some ⟨w.heap.size, 0, none⟩), .pointer (some ⟨WW.heap.size, 0, none⟩)] (Sg.hasF cb) (p.good i) (some ⟨W.heap.size, 0, none⟩) 1 [cur.getLastD 0] (W.alloc (.cells #[.int .i64 ((cur.getLastD 0 : Nat) : Int)] 3))
     ((HPR9.out.below hb).below (below_alloc (Below.refl _ _) _)) HOK.out ((has_fn gc p.N cb W ((HCO.out.below hB29).below hb) HGC.out.len).below (below_alloc (Below.refl _ _) _)) ((hp2.below hb).below (below_alloc (Below.refl _ _) _)) (C_one W _) (fun y hy => by rw [List.mem_singleton.1 hy]; exact hln) (by simp))
   rw [hway] at HWY
   have HWK2 := Zd.mk hwk2
   have HW9 := Zd.mk hW9
   have HB9 := Zd.mk hB9
   have HB29 := Zd.mk hB29
   have hcx9 := cell1 hb39
   have HHF := Zd.mk (enters_f Try.func49 (by kernel_rfl) rfl)
   have ht : (((cur.length : Nat) : Int) - 1).toNat = cur.length - 1 := by omega
   have hlc1 : (1 : Int) ≤ (cur.length : Int) := by omega
   have hlc2 : (cur.length : Int) - 1 < (cur.length : Int) := by omega
   have hmsz : (cur.getLastD 0 :: mm).length ≤ 51200 := Nat.le_trans HWL.out hN
   obtain ⟨iI, hiI⟩ : ∃ iI, Try.prog.info? 3 = some iI ∧ iI.size = 1 := by
    obtain ⟨iI, h1, h2⟩ := Option.map_eq_some_iff.1 infoI
    simp only [Prod.mk.injEq] at h2
    exact ⟨iI, h1, h2.2.1⟩
   have HCUT := Zd.mk (fun A c => print_cut_of natV 0 23 3 .i64 hui hiI.1 hiI.2 A (cur.getLastD 0 :: mm).length c 1 (by simp))
   generalize cur.getLastD 0 = last at *
   have hmd : (last :: mm).drop 1 = mm := rfl
   have HMD := Zd.mk (show ∀ W A c, (last :: mm).length ≤ c → Kd.C natK W A (last :: mm).length (last :: mm) → ∃ A', (∀ W : World, (Instr.slice 23 (.slice A (last :: mm).length c) (some (.int .i64 (1 : Int))) none none).run Try.prog W = .ok (.slice A' mm.length (c - 1)) W) ∧ Kd.C natK W A' mm.length mm from fun W A c hle hC => by
    obtain ⟨A', h1, h2⟩ := HCUT.out A c
    refine ⟨A', fun W => ?_, Kd.C_of_reads (d := 0) (by have := h2 W _ hle (Kd.reads_of_C (d := 0) hC); exact this)⟩
    have := h1 W
    exact this)
   have hms2 : mm.length ≤ 51200 := by simp at hmsz; omega
   obtain ⟨more, hmo⟩ : ∃ more, more = last :: mm := ⟨_, rfl⟩
   rw [← hmo] at HWY HMD HPE2
   have HTL := Zd.mk (show more.tail = mm from by rw [hmo]; rfl)
   clear hmd hmo hmsz hway hwk2 hp1 hp2 hb9 hb39 hCc hcc hmem hcne HCUT hiI hlast hW9 hB9 hB29
   cases hany : cur.any (p.good i) with
   | true =>
    rw [hany] at HCF
    have HPE3 := Zd.mk (show Sg.partsF p.next (Sg.hasF cb) p.good p.N ((List.range p.P).drop (i + 1)) cur = PF from by have := HPE2.out; rwa [hany, if_pos rfl] at this)
    clear hany HPE2
    go_upto_region 6 with fail
    rw [← HW9.out]
    go_wp2_with (go_at_call 67; refine HCF.out.mono ?_; rintro e w5 ⟨rfl, hB5⟩; have HB5 := Zd.mk (HB9.out.trans (hB5.mono HB9.out.size)); clear hB5)
    go_roundg (gk - 1)
    case measure => have := HJ.out; omega
    case rel => exact ⟨i + 1, cur, by have := HJ.out; omega, by go_num, HPE3, HWK, ⟨Nat.le_trans HLE.out (Nat.add_le_add_left (Nat.mul_le_mul_right _ (Nat.le_succ i)) 1)⟩, ⟨Kd.R_below HV.out HB5.out⟩, ⟨HB.out.trans (HB5.out.mono HB.out.size)⟩⟩
   | false =>
    rw [hany] at HCF
    have HPE3 := Zd.mk (show Sg.partsF p.next (Sg.hasF cb) p.good p.N ((List.range p.P).drop (i + 1)) (cur ++ mm) = PF from by have := HPE2.out; rwa [hany, if_neg (by simp), HTL.out] at this)
    clear hany HPE2
    have hmore : (last :: mm).length = mm.length + 1 := rfl
    go_upto_region 6 with fail
    rw [← HW9.out]
    go_wp2_with (first
     | (go_at_call 67; refine HCF.out.mono ?_; rintro e w5 ⟨rfl, hB5⟩; have hBW5 := HB9.out.trans (hB5.mono HB9.out.size); have qlast5 := pb_ hBW5 qlast; have hcx5 := pb_ hB5 hcx9; have hcx6 := pb_ (below_alloc (Below.refl _ _) (.cells #[.int .i64 (last : Int)] 3)) hcx5; have HB5 := Zd.mk hB5; have HBW5 := Zd.mk hBW5; have HW5 := Zd.mk (HWY.out w5 hB5); clear hB5 hBW5)
     | (go_at_call 47; refine HW5.out.mono ?_; rintro e w6 ⟨v6, rfl, hR6, hB6⟩; obtain ⟨Am, cm, em, hcm, hCm⟩ := Kd.R_reads hR6; subst em; obtain ⟨A', hrun, hC'⟩ := HMD.out w6 Am cm hcm hCm; have HC' := Zd.mk hC'; have HB6 := Zd.mk (HBW5.out.trans ((below_alloc (Below.refl _ _) _ : Below w5.heap.size w5 _).trans (hB6.mono (by simp)) |>.mono HBW5.out.size)); clear hR6 hB6 hcm hCm hC')
     | ((with_reducible refine gate_builtin (b := .append) (xs := #[.tmp 41, .tmp 43]) rfl ?_); at_builtin; refine Kd.R_append_row natV 0 (h1 := fun _ => rfl) (w0 := W2) W2.heap.size rfl (.tmp 41) (.tmp 43) 23 3 (.int .i64 0) 8 rfl hui infoI rfl (by decide) (.slice (some adc) cur.length cc) cur mm A' mm.length (cm - 1) (fun _ => True) rfl rfl (fun _ _ => trivial) (Kd.R_below HV.out HB6.out) HC'.out (HB.out.trans (HB6.out.mono HB.out.size)) (HB.out.trans (HB6.out.mono HB.out.size)).size (by omega) ?_; intro v7 w7 hR7 hB7 hg hat; have HV7 := Zd.mk hR7; have HB7 := Zd.mk hB7; clear hR7 hB7 hg hat))
    go_roundg (gk - 1)
    case measure => have := HJ.out; omega
    case rel => exact ⟨i + 1, cur ++ mm, by have := HJ.out; omega, by go_num, HPE3, HWK2, ⟨by have h1 := HLE.out; rw [List.length_append, Nat.succ_mul]; generalize i * 51200 = t at h1 ⊢; omega⟩, HV7, HB7⟩
  ·have hil : ¬ ((i : Nat) : Int) < (p.parts.length : Int) := by omega
   have hcl : cur.length ≤ 1000000 := mul8 (by have := HJ.out; omega) HLE.out
   have HPFE := Zd.mk (show cur = PF from by
    have := HPE.out
    rw [List.drop_eq_nil_of_le (by rw [List.length_range]; show p.parts.length ≤ i; omega)] at this
    exact this)
   obtain ⟨hln, hbw⟩ := Sg.back_way HGC.out HNX.out HXX.out HWK.out
   have hinl : ∀ y, y ∈ (p.next (cur.getLastD 0)).filter (Sg.hasF cb) → y < p.N := fun y hy => HNX.out _ hln y (List.mem_filter.1 hy).1
   have HBL := Zd.mk (Sg.way_len (inn := Sg.hasF cb) (goal := fun y => y == x) HNX.out hinl)
   have HBNE := Zd.mk (show 0 < (Sg.wayF p.next (Sg.hasF cb) (fun y => y == x) p.N ((p.next (cur.getLastD 0)).filter (Sg.hasF cb))).length from List.length_pos_iff.2 hbw)
   have hlen : ((p.next (cur.getLastD 0)).filter (Sg.hasF cb)).length < 1000000 := by
    have h1 := HOK.out.flat_le (x := cur.getLastD 0) (j := (p.nxs.getD (cur.getLastD 0 / p.size) []).length) hln
    rw [List.take_of_length_le (Nat.le_refl _)] at h1
    have h2 : (p.next (cur.getLastD 0)).length ≤ 51200 := h1
    have h3 := List.length_filter_le (Sg.hasF cb) (p.next (cur.getLastD 0))
    omega
   have HIN := Zd.mk (fun W (hb : Below WW.heap.size WW W) => inner_walk p g gc (cur.getLastD 0) cb W ((HPR.out.below HB.out).below hb) HOK.out hln ((HCO.out.below HB.out).below hb) HGC.out.len)
   have hb5W : Cell1 WW (w.heap.size + 1) (.int .i64 (x : Int)) 3 := (HB.out.block _ (blk_lt HB5.out)).trans HB5.out
   have HWY := Zd.mk (fun A c W (hb : Below WW.heap.size WW W) (hC : Kd.C natK W A ((p.next (cur.getLastD 0)).filter (Sg.hasF cb)).length ((p.next (cur.getLastD 0)).filter (Sg.hasF cb))) =>
    way_walk p g 49 72 #[.pointer (some ⟨gc, 0, none⟩)] #[] #[] #[.pointer (some ⟨w.heap.size + 1, 0, none⟩)] (Sg.hasF cb) (fun y => y == x) A c ((p.next (cur.getLastD 0)).filter (Sg.hasF cb)) W
     ((HPR.out.below HB.out).below hb) HOK.out (has_fn gc p.N cb W ((HCO.out.below HB.out).below hb) HGC.out.len) ⟨enters_f Try.func72 (by kernel_rfl) rfl, fun W' hW' y hy => round3_calls (w.heap.size + 1) x y W' ((hW'.block _ (blk_lt ((hb.block _ (blk_lt hb5W)).trans hb5W))).trans ((hb.block _ (blk_lt hb5W)).trans hb5W))⟩ hC hinl hlen)
   have HRF2 := Zd.mk (show Sg.roundF p.next (Sg.hasF cb) p.good p.N p.P x = cur ++ (Sg.wayF p.next (Sg.hasF cb) (fun y => y == x) p.N ((p.next (cur.getLastD 0)).filter (Sg.hasF cb))).dropLast from by rw [HRF.out, ← HPFE.out]; rfl)
   have z3 := pb_ HB.out hcx
   have ht : (((cur.length : Nat) : Int) - 1).toNat = cur.length - 1 := by omega
   have hlc1 : (1 : Int) ≤ (cur.length : Int) := by omega
   have hlc2 : (cur.length : Int) - 1 < (cur.length : Int) := by omega
   generalize Sg.wayF p.next (Sg.hasF cb) (fun y => y == x) p.N ((p.next (cur.getLastD 0)).filter (Sg.hasF cb)) = back at *
   generalize (p.next (cur.getLastD 0)).filter (Sg.hasF cb) = inl at *
   generalize cur.getLastD 0 = last at *
   have hbl2 : back.length ≤ 51200 := Nat.le_trans HBL.out hN
   have hbl3 : (1 : Int) ≤ (back.length : Int) := by have := HBNE.out; omega
   have hbd : back.dropLast.length ≤ 51200 := by rw [List.length_dropLast]; omega
   clear hCc hcc hmem hcne hlast hinl hbw hln hlen hb5W
   go_upto_region 12 with fail
   obtain ⟨WE, rfl⟩ : ∃ W : World, W = WW := ⟨_, rfl⟩
   refine start_ (n := 9) (S := fun w' => w'.cell? ⟨w.heap.size, 0, none⟩ = some (.pointer (some ⟨g, 0, none⟩))) (ds := []) Mk93_ (by kernel_rfl) rfl rfl (z3) (fun hHeld => ?_)
   refine with_tabW srd.tab12 srd.bits12 (fun HT_ HW_ => ?_)
   refine pz HT_.out 2 (some 54) Mk94_ rfl rfl ?_
   refine pz HT_.out 3 (some 55) Mk95_ rfl rfl ?_
   refine pz HT_.out 5 (some 57) Mk96_ rfl rfl ?_
   refine pz HT_.out 6 (some 58) Mk97_ rfl rfl ?_
   refine tz HT_.out HW_.out 0 (some 52) Mk98_ rfl rfl hHeld ?_
   refine tz HT_.out HW_.out 1 (some 53) Mk99_ rfl rfl hHeld ?_
   refine one_ (i := 4) (N := some 56) Mk100_ rfl rfl (one_of HT_.out (by kernel_rfl)) (by decide) (fun K hK => ?_)
   refine goes_ Try.func71 (by kernel_rfl) rfl #[.pointer (some ⟨g, 0, none⟩), .pointer (some ⟨gc, 0, none⟩), .int .i64 (last : Int)] (by rfl) rfl rfl (by simp only [List.map_toArray, List.map_cons, List.map_nil]; rfl) ?_
   with_reducible refine (HIN.out _ (show Below WE.heap.size WE WE.drew from below_drew1 (Below.refl _ _))).mono ?_
   rintro e_ wc4 ⟨v4, rfl, hR4, hB⟩
   have HBc4 := Zd.mk (show Below WE.heap.size WE wc4 from (below_drew1 (Below.refl _ _)).trans hB)
   obtain ⟨Ai, ci, ei, hci, hCi⟩ := Kd.R_reads hR4
   subst ei
   have HCi := Zd.mk hCi
   clear hR4 hci hCi
   clear hB hHeld
   refine ⟨_, rfl, ?_⟩
   refine hK.out _ _ ((pb_ HBc4.out z3)) (fun hHeld => ?_)
   clear hK K
   refine norm_ (a' := ?_) ?_ ?_
   rotate_left
   ·show Act.put _ (some 56) _ = _
    simp only [Act.put, List.setIfInBounds_toArray, List.set_cons_zero, List.set_cons_succ, i64_w, i32_w]
    rfl
   refine one_ (i := 7) (N := some 59) Mk101_ rfl rfl (one_of HT_.out (by kernel_rfl)) (by decide) (fun K hK => ?_)
   refine goes_ Try.func47 (by kernel_rfl) rfl #[.pointer (some ⟨g, 0, none⟩), .slice Ai inl.length ci, .func (.func 49) #[.pointer (some ⟨gc, 0, none⟩)] #[], .func (.func 72) #[] #[.pointer (some ⟨w.heap.size + 1, 0, none⟩)]] (by rfl) rfl rfl (by simp only [List.map_toArray, List.map_cons, List.map_nil]; rfl) ?_
   with_reducible refine (HWY.out _ _ _ HBc4.out HCi.out).mono ?_
   rintro e_ wc7 ⟨v7, rfl, hR7, hB⟩
   have HBc7 := Zd.mk (show Below WE.heap.size WE wc7 from HBc4.out.trans (hB.mono HBc4.out.size))
   obtain ⟨Aw, cw, ew, hcw, hCw⟩ := Kd.R_reads hR7
   subst ew
   obtain ⟨hrun, hCd⟩ := natK_take1 HBNE.out hcw hCw
   have HRUN := Zd.mk hrun
   have HCd := Zd.mk hCd
   clear hR7 hcw hCw hrun hCd
   clear hB hHeld
   refine ⟨_, rfl, ?_⟩
   refine hK.out _ _ ((pb_ HBc7.out z3)) (fun hHeld => ?_)
   clear hK K
   refine norm_ (a' := ?_) ?_ ?_
   rotate_left
   ·show Act.put _ (some 59) _ = _
    simp only [Act.put, List.setIfInBounds_toArray, List.set_cons_zero, List.set_cons_succ, i64_w, i32_w]
    rfl
   refine pz HT_.out 8 (some 13) Mk102_ rfl rfl ?_
   refine done_ (done_of HT_.out (by kernel_rfl)) ?_
   clear hHeld HT_ HW_
   have hrun := HRUN.out
   have HBE := Zd.mk (HB.out.trans (HBc7.out.mono HB.out.size))
   go_wp2_with ((with_reducible refine gate_builtin (b := .append) (xs := #[.tmp 60, .tmp 65]) rfl ?_); at_builtin; refine Kd.R_append_row natV 0 (h1 := fun _ => rfl) (w0 := W2) W2.heap.size rfl (.tmp 60) (.tmp 65) 23 3 (.int .i64 0) 8 rfl hui infoI rfl (by decide) (.slice (some adc) cur.length cc) cur back.dropLast Aw (back.length - 1) cw (fun _ => True) rfl rfl (fun _ _ => trivial) (Kd.R_below HV.out HBc7.out) (by have := HCd.out; rwa [List.length_dropLast] at this) HBE.out HBE.out.size (by omega) ?_; intro v7 w7 hR7 hB7 hg hat; have HV7 := Zd.mk hR7; have HB7 := Zd.mk hB7; clear hR7 hB7 hg hat)
   go_ret
   exact ⟨_, rfl, by rw [HRF2.out]; exact Kd.R_lower HV7.out HB2.out.size, HB2.out.trans (HB7.out.mono HB2.out.size), by rw [HRF2.out, List.length_append]; omega⟩
structure Keep (ρ : Nat → Nat) (r : Nat) (W W1 : World) : Prop where
 size : W.heap.size ≤ W1.heap.size
 block : ∀ k, k < W.heap.size → ρ k ≠ r → W1.heap[k]? = W.heap[k]?
theorem Keep.set {ρ : Nat → Nat} {r b : Nat} {W : World} (h : ρ b = r) (j : Nat) (u : Value) : Keep ρ r W (W.setCell ⟨b, j, none⟩ u) :=
 ⟨by simp, fun k _ hk => Below.heap_setCell W ⟨b, j, none⟩ u k (fun e => hk (by rw [e]; exact h))⟩
theorem Keep.below {ρ : Nat → Nat} {r : Nat} {W W1 : World} (h : Below W.heap.size W W1) : Keep ρ r W W1 := ⟨h.size, fun k hk _ => h.block k hk⟩
theorem Keep.grown {ρ : Nat → Nat} {r : Nat} {W W1 : World} {row : Option Nat} (h : W.grownBy W1 row) (hr : ∀ k, row = some k → ρ k = r) : Keep ρ r W W1 := ⟨h.size, fun k hk hn => h.block k hk (fun e => hn (hr k e.symm))⟩
def roleTo (ρ : Nat → Nat) (n r : Nat) : Nat → Nat := fun k => if k < n then ρ k else r
theorem roleTo_old {ρ : Nat → Nat} {n r k : Nat} (h : k < n) : roleTo ρ n r k = ρ k := by unfold roleTo; rw [if_pos h]
theorem roleTo_new {ρ : Nat → Nat} {n r k : Nat} (h : n ≤ k) : roleTo ρ n r k = r := by unfold roleTo; rw [if_neg (by omega)]
section
variable {α : Type} {d : Kd α} {e base : Nat} {v : Value} {xs : List α} {ρ : Nat → Nat} {r q : Nat} {W W1 : World}
theorem R_keepR (h : d.R e W base (fun k => ρ k = q) v xs) (hk : Keep ρ r W W1) (hn : q ≠ r) : d.R e W1 base (fun k => ρ k = q) v xs := Kd.R_step h (fun k ho hlt => hk.block k hlt (by rw [ho]; exact hn))
theorem R_role (h : d.R e W base (fun k => ρ k = q) v xs) : d.R e W base (fun k => roleTo ρ W.heap.size r k = q) v xs := Kd.R_mono (Kd.R_bound h) (fun k hk => by rw [roleTo_old hk.2.2.1]; exact hk.1)
end
theorem C_keepB {w w1 : World} {A : Option Addr} {n : Nat} {xs : List Nat} (h : Kd.C natK w A n xs) (hk : ∀ ad, A = some ad → 0 < n → w1.heap[ad.block]? = w.heap[ad.block]?) : Kd.C natK w1 A n xs := by
 obtain ⟨h1, h2, h3⟩ := Kd.reads_of_C (d := 0) h
 refine Kd.C_of_reads (d := 0) ⟨h1, h2, fun hn => ?_⟩
 obtain ⟨ad, e, hc⟩ := h3 hn
 refine ⟨ad, e, fun j hj => ?_⟩
 have hb : (ad.add j).block = ad.block := by unfold Addr.add; split <;> rfl
 have hk2 := hk ad e hn
 rw [← hb] at hk2
 rw [World.cell?_of_block hk2]
 exact hc j hj
theorem C_keepBool {w w1 : World} {A : Option Addr} {n : Nat} {xs : List Bool} (h : Kd.C Kd.bool w A n xs) (hk : ∀ ad, A = some ad → 0 < n → w1.heap[ad.block]? = w.heap[ad.block]?) : Kd.C Kd.bool w1 A n xs := by
 obtain ⟨h1, h2, h3⟩ := Kd.reads_of_C (d := false) h
 refine Kd.C_of_reads (d := false) ⟨h1, h2, fun hn => ?_⟩
 obtain ⟨ad, e, hc⟩ := h3 hn
 refine ⟨ad, e, fun j hj => ?_⟩
 have hb : (ad.add j).block = ad.block := by unfold Addr.add; split <;> rfl
 have hk2 := hk ad e hn
 rw [← hb] at hk2
 rw [World.cell?_of_block hk2]
 exact hc j hj
structure Ent where
 x : Nat
 A : Option Addr
 cap : Nat
 rest : List Nat
def entCells (e : Ent) : List Value := [.int .i64 (e.x : Int), .slice e.A e.rest.length e.cap]
structure EntOk (ρ : Nat → Nat) (W : World) (e : Ent) : Prop where
 cap : e.rest.length ≤ e.cap
 rd : Kd.C natK W e.A e.rest.length e.rest
 role : ∀ ad, e.A = some ad → 0 < e.rest.length → ρ ad.block = 7 ∧ ad.block < W.heap.size
theorem EntOk.keep {ρ : Nat → Nat} {r : Nat} {W W1 : World} {e : Ent} (h : EntOk ρ W e) (hk : Keep ρ r W W1) (hn : r ≠ 7) : EntOk ρ W1 e :=
 ⟨h.cap, C_keepB h.rd (fun ad ha hp => hk.block _ (h.role ad ha hp).2 (by rw [(h.role ad ha hp).1]; exact Ne.symm hn)), fun ad ha hp => ⟨(h.role ad ha hp).1, Nat.lt_of_lt_of_le (h.role ad ha hp).2 hk.size⟩⟩
theorem EntOk.rerole {ρ : Nat → Nat} {r : Nat} {W : World} {e : Ent} (h : EntOk ρ W e) : EntOk (roleTo ρ W.heap.size r) W e :=
 ⟨h.cap, h.rd, fun ad ha hp => ⟨by rw [roleTo_old (h.role ad ha hp).2]; exact (h.role ad ha hp).1, (h.role ad ha hp).2⟩⟩
structure CallsOk (ρ : Nat → Nat) (base : Nat) (W : World) (vc : Value) (E : List Ent) : Prop where
 own : W.ownsRow base 123 2 vc E.length (E.flatMap entCells)
 role : ∀ k, vc.ownBlock = some k → ρ k = 6
 ents : ∀ e, e ∈ E → EntOk ρ W e
theorem CallsOk.keep {ρ : Nat → Nat} {r base : Nat} {W W1 : World} {vc : Value} {E : List Ent} (h : CallsOk ρ base W vc E) (hk : Keep ρ r W W1) (h6 : r ≠ 6) (h7 : r ≠ 7) : CallsOk ρ base W1 vc E :=
 ⟨own_move h.own (fun k hk' => hk.block k (own_lt h.own k hk') (by rw [h.role k hk']; exact Ne.symm h6)), h.role, fun e he => (h.ents e he).keep hk h7⟩
theorem CallsOk.rerole {ρ : Nat → Nat} {r base : Nat} {W : World} {vc : Value} {E : List Ent} (h : CallsOk ρ base W vc E) : CallsOk (roleTo ρ W.heap.size r) base W vc E :=
 ⟨h.own, fun k hk => by rw [roleTo_old (own_lt h.own k hk)]; exact h.role k hk, fun e he => (h.ents e he).rerole⟩
def FndOk (ρ : Nat → Nat) (W : World) (fo : Option Addr) (f : Option (List Bool)) : Prop :=
 match f, fo with
 | none, none => True
 | some c, some a => ∃ gc, a = ⟨gc, 0, none⟩ ∧ ∃ A k, W.heap[gc]? = some (.cells #[.slice A c.length k] 108 (0, 0)) ∧ Kd.C Kd.bool W A c.length c ∧ ρ gc = 7 ∧ ∀ ad, A = some ad → 0 < c.length → ρ ad.block = 7 ∧ ad.block < W.heap.size
 | _, _ => False
theorem FndOk.keep {ρ : Nat → Nat} {r : Nat} {W W1 : World} {fo : Option Addr} {f : Option (List Bool)} (h : FndOk ρ W fo f) (hk : Keep ρ r W W1) (h7 : r ≠ 7) : FndOk ρ W1 fo f := by
 match f, fo, h with
 | none, none, _ => trivial
 | some c, some a, ⟨gc, e, A, k, h1, h2, h3, h4⟩ =>
  exact ⟨gc, e, A, k, (hk.block gc (blk_lt h1) (by rw [h3]; exact Ne.symm h7)).trans h1, C_keepBool h2 (fun ad ha hp => hk.block _ (h4 ad ha hp).2 (by rw [(h4 ad ha hp).1]; exact Ne.symm h7)), h3, fun ad ha hp => ⟨(h4 ad ha hp).1, Nat.lt_of_lt_of_le (h4 ad ha hp).2 hk.size⟩⟩
theorem FndOk.rerole {ρ : Nat → Nat} {r : Nat} {W : World} {fo : Option Addr} {f : Option (List Bool)} (h : FndOk ρ W fo f) : FndOk (roleTo ρ W.heap.size r) W fo f := by
 match f, fo, h with
 | none, none, _ => trivial
 | some c, some a, ⟨gc, e, A, k, h1, h2, h3, h4⟩ =>
  exact ⟨gc, e, A, k, h1, h2, by rw [roleTo_old (blk_lt h1)]; exact h3, fun ad ha hp => ⟨by rw [roleTo_old (h4 ad ha hp).2]; exact (h4 ad ha hp).1, (h4 ad ha hp).2⟩⟩
structure At where
 N : Nat
 pg : Nat
 g : Nat
 gn : Nat
 gl : Nat
 go : Nat
def finCells (a : At) (met : Nat) (vs vc : Value) (fo : Option Addr) : Array Value :=
 #[.pointer (some ⟨a.pg, 0, none⟩), .slice (some ⟨a.gn, 0, none⟩) a.N a.N, .slice (some ⟨a.gl, 0, none⟩) a.N a.N, .slice (some ⟨a.go, 0, none⟩) a.N a.N, .int .i64 (met : Int), vs, vc, .pointer fo]
structure IsF (ρ : Nat → Nat) (w0 W : World) (a : At) (vs vc : Value) (fo : Option Addr) (E : List Ent) (st : Sg.FS) : Prop where
 bel : Below w0.heap.size w0 W
 blk : W.heap[a.g]? = some (.cells (finCells a st.met vs vc fo) 103 (0, 0))
 rg : ρ a.g = 4
 bg : w0.heap.size ≤ a.g
 nums : Kd.R natK 3 W w0.heap.size (fun k => ρ k = 1) (.slice (some ⟨a.gn, 0, none⟩) a.N a.N) st.nums
 lows : Kd.R natK 3 W w0.heap.size (fun k => ρ k = 2) (.slice (some ⟨a.gl, 0, none⟩) a.N a.N) st.lows
 on : Kd.R Kd.bool 4 W w0.heap.size (fun k => ρ k = 3) (.slice (some ⟨a.go, 0, none⟩) a.N a.N) st.on
 stk : Kd.R natK 3 W w0.heap.size (fun k => ρ k = 5) vs st.stk.reverse
 calls : CallsOk ρ w0.heap.size W vc E
 cs : E.map (fun e => (e.x, e.rest)) = st.calls.reverse
 fnd : FndOk ρ W fo st.found
section
variable {ρ : Nat → Nat} {w0 W W1 : World} {a : At} {vs vc v1 : Value} {fo : Option Addr} {E : List Ent} {st : Sg.FS}
theorem IsF.c0 (h : IsF ρ w0 W a vs vc fo E st) : W.cell? ⟨a.g, 0, none⟩ = some (.pointer (some ⟨a.pg, 0, none⟩)) := (bq_ h.blk 0).trans rfl
theorem IsF.c1 (h : IsF ρ w0 W a vs vc fo E st) : W.cell? ⟨a.g, 1, none⟩ = some (.slice (some ⟨a.gn, 0, none⟩) a.N a.N) := (bq_ h.blk 1).trans rfl
theorem IsF.c2 (h : IsF ρ w0 W a vs vc fo E st) : W.cell? ⟨a.g, 2, none⟩ = some (.slice (some ⟨a.gl, 0, none⟩) a.N a.N) := (bq_ h.blk 2).trans rfl
theorem IsF.c3 (h : IsF ρ w0 W a vs vc fo E st) : W.cell? ⟨a.g, 3, none⟩ = some (.slice (some ⟨a.go, 0, none⟩) a.N a.N) := (bq_ h.blk 3).trans rfl
theorem IsF.c4 (h : IsF ρ w0 W a vs vc fo E st) : W.cell? ⟨a.g, 4, none⟩ = some (.int .i64 (st.met : Int)) := (bq_ h.blk 4).trans rfl
theorem IsF.c5 (h : IsF ρ w0 W a vs vc fo E st) : W.cell? ⟨a.g, 5, none⟩ = some vs := (bq_ h.blk 5).trans rfl
theorem IsF.c6 (h : IsF ρ w0 W a vs vc fo E st) : W.cell? ⟨a.g, 6, none⟩ = some vc := (bq_ h.blk 6).trans rfl
theorem IsF.c7 (h : IsF ρ w0 W a vs vc fo E st) : W.cell? ⟨a.g, 7, none⟩ = some (.pointer fo) := (bq_ h.blk 7).trans rfl
theorem IsF.fz (h : IsF ρ w0 W a vs vc fo E st) (i : Nat) : W.frozen? ⟨a.g, i, none⟩ = false := bz_ h.blk i
theorem IsF.lt (h : IsF ρ w0 W a vs vc fo E st) : a.g < W.heap.size := blk_lt h.blk
theorem IsF.rn (h : IsF ρ w0 W a vs vc fo E st) : ρ a.gn = 1 := h.nums.1 _ rfl
theorem IsF.rl (h : IsF ρ w0 W a vs vc fo E st) : ρ a.gl = 2 := h.lows.1 _ rfl
theorem IsF.ro (h : IsF ρ w0 W a vs vc fo E st) : ρ a.go = 3 := h.on.1 _ rfl
theorem R_slice_base {α : Type} {d : Kd α} {e base g n c : Nat} {ok : Nat → Prop} {xs : List α} {w : World} (h : d.R e w base ok (.slice (some ⟨g, 0, none⟩) n c) xs) : base ≤ g := by
 obtain ⟨inner, ho⟩ := Kd.R_own h
 exact own_base ho g rfl
theorem IsF.below (h : IsF ρ w0 W a vs vc fo E st) (hb : Below W.heap.size W W1) : IsF ρ w0 W1 a vs vc fo E st := by
 have hk : Keep ρ 0 W W1 := .below hb
 exact ⟨h.bel.trans (hb.mono h.bel.size), (hb.block _ h.lt).trans h.blk, h.rg, h.bg, R_keepR h.nums hk (by decide), R_keepR h.lows hk (by decide), R_keepR h.on hk (by decide), R_keepR h.stk hk (by decide), h.calls.keep hk (by decide) (by decide), h.cs, h.fnd.keep hk (by decide)⟩
theorem IsF.rerole (h : IsF ρ w0 W a vs vc fo E st) (r : Nat) : IsF (roleTo ρ W.heap.size r) w0 W a vs vc fo E st :=
 ⟨h.bel, h.blk, by rw [roleTo_old h.lt]; exact h.rg, h.bg, R_role h.nums, R_role h.lows, R_role h.on, R_role h.stk, h.calls.rerole, h.cs, h.fnd.rerole⟩
theorem IsF.fin (h : IsF ρ w0 W a vs vc fo E st) (j : Nat) (u : Value) {st' : Sg.FS} {vs' vc' : Value} {fo' : Option Addr} {E' : List Ent} (hc : (finCells a st.met vs vc fo).setIfInBounds j u = finCells a st'.met vs' vc' fo')
  (hn : st'.nums = st.nums) (hl : st'.lows = st.lows) (ho : st'.on = st.on) (hs : Kd.R natK 3 W w0.heap.size (fun k => ρ k = 5) vs' st'.stk.reverse) (hcl : CallsOk ρ w0.heap.size W vc' E') (hcs : E'.map (fun e => (e.x, e.rest)) = st'.calls.reverse) (hf : FndOk ρ W fo' st'.found) :
  IsF ρ w0 (W.setCell ⟨a.g, j, none⟩ u) a vs' vc' fo' E' st' := by
 have hk : Keep ρ 4 W (W.setCell ⟨a.g, j, none⟩ u) := .set h.rg j u
 exact ⟨h.bel.setCell h.bg _, by rw [blk_set h.blk j u, hc], h.rg, h.bg, by rw [hn]; exact R_keepR h.nums hk (by decide), by rw [hl]; exact R_keepR h.lows hk (by decide), by rw [ho]; exact R_keepR h.on hk (by decide), R_keepR hs hk (by decide), hcl.keep hk (by decide) (by decide), hcs, hf.keep hk (by decide)⟩
theorem IsF.setMet (h : IsF ρ w0 W a vs vc fo E st) (m : Nat) : IsF ρ w0 (W.setCell ⟨a.g, 4, none⟩ (.int .i64 (m : Int))) a vs vc fo E { st with met := m } :=
 h.fin 4 _ rfl rfl rfl rfl h.stk h.calls h.cs h.fnd
theorem IsF.setNum (h : IsF ρ w0 W a vs vc fo E st) (x m : Nat) : IsF ρ w0 (W.setCell ⟨a.gn, x, none⟩ (.int .i64 (m : Int))) a vs vc fo E { st with nums := st.nums.set x m } := by
 have hk : Keep ρ 1 W (W.setCell ⟨a.gn, x, none⟩ (.int .i64 (m : Int))) := .set h.rn x _
 exact ⟨h.bel.setCell (R_slice_base h.nums) _, (hk.block _ h.lt (by rw [h.rg]; decide)).trans h.blk, h.rg, h.bg, natK_put h.nums x m, R_keepR h.lows hk (by decide), R_keepR h.on hk (by decide), R_keepR h.stk hk (by decide), h.calls.keep hk (by decide) (by decide), h.cs, h.fnd.keep hk (by decide)⟩
theorem IsF.setLow (h : IsF ρ w0 W a vs vc fo E st) (x m : Nat) : IsF ρ w0 (W.setCell ⟨a.gl, x, none⟩ (.int .i64 (m : Int))) a vs vc fo E { st with lows := st.lows.set x m } := by
 have hk : Keep ρ 2 W (W.setCell ⟨a.gl, x, none⟩ (.int .i64 (m : Int))) := .set h.rl x _
 exact ⟨h.bel.setCell (R_slice_base h.lows) _, (hk.block _ h.lt (by rw [h.rg]; decide)).trans h.blk, h.rg, h.bg, R_keepR h.nums hk (by decide), natK_put h.lows x m, R_keepR h.on hk (by decide), R_keepR h.stk hk (by decide), h.calls.keep hk (by decide) (by decide), h.cs, h.fnd.keep hk (by decide)⟩
theorem boolK_put {w : World} {base g n cap : Nat} {ok : Nat → Prop} {xs : List Bool} (h : Kd.R Kd.bool 4 w base ok (.slice (some ⟨g, 0, none⟩) n cap) xs) (j : Nat) (x : Bool) : Kd.R Kd.bool 4 (w.setCell ⟨g, j, none⟩ (.bool x)) base ok (.slice (some ⟨g, 0, none⟩) n cap) (xs.set j x) := by
 have := Kd.R_putn h (j : Int) x
 rw [Int.toNat_natCast] at this
 exact this
theorem boolK_cell {w : World} {base g n cap : Nat} {ok : Nat → Prop} {xs : List Bool} (h : Kd.R Kd.bool 4 w base ok (.slice (some ⟨g, 0, none⟩) n cap) xs) {j : Nat} (hj : j < n) : w.cell? ⟨g, j, none⟩ = some (.bool (xs.getD j false)) ∧ w.frozen? ⟨g, j, none⟩ = false := by
 have := Kd.R_celln (d := false) h (j : Int) (by omega) (by omega)
 rw [Int.toNat_natCast] at this
 have h2 : rdOf false xs (j : Int) = xs.getD j false := by unfold rdOf; rw [Int.toNat_natCast]
 rw [h2] at this
 exact this
theorem IsF.setOn (h : IsF ρ w0 W a vs vc fo E st) (x : Nat) (b : Bool) : IsF ρ w0 (W.setCell ⟨a.go, x, none⟩ (.bool b)) a vs vc fo E { st with on := st.on.set x b } := by
 have hk : Keep ρ 3 W (W.setCell ⟨a.go, x, none⟩ (.bool b)) := .set h.ro x _
 exact ⟨h.bel.setCell (R_slice_base h.on) _, (hk.block _ h.lt (by rw [h.rg]; decide)).trans h.blk, h.rg, h.bg, R_keepR h.nums hk (by decide), R_keepR h.lows hk (by decide), boolK_put h.on x b, R_keepR h.stk hk (by decide), h.calls.keep hk (by decide) (by decide), h.cs, h.fnd.keep hk (by decide)⟩
theorem IsF.growStk (h : IsF ρ w0 W a vs vc fo E st) (hB : Below w0.heap.size w0 W1) (hg : W.grownBy W1 vs.ownBlock) {l : List Nat} (ho : Kd.R natK 3 W1 w0.heap.size (fun k => ρ k = 5) v1 l) : IsF ρ w0 (W1.setCell ⟨a.g, 5, none⟩ v1) a v1 vc fo E { st with stk := l.reverse } := by
 have hk : Keep ρ 5 W W1 := .grown hg (fun k e => h.stk.1 k e)
 have hk4 : Keep ρ 4 W1 (W1.setCell ⟨a.g, 5, none⟩ v1) := .set h.rg 5 v1
 have hb : W1.heap[a.g]? = _ := (hk.block _ h.lt (by rw [h.rg]; decide)).trans h.blk
 exact ⟨hB.setCell h.bg _, by rw [blk_set hb 5 v1]; rfl, h.rg, h.bg, R_keepR (R_keepR h.nums hk (by decide)) hk4 (by decide), R_keepR (R_keepR h.lows hk (by decide)) hk4 (by decide), R_keepR (R_keepR h.on hk (by decide)) hk4 (by decide), by rw [List.reverse_reverse]; exact R_keepR ho hk4 (by decide), (h.calls.keep hk (by decide) (by decide)).keep hk4 (by decide) (by decide), h.cs, (h.fnd.keep hk (by decide)).keep hk4 (by decide)⟩
theorem IsF.growCalls (h : IsF ρ w0 W a vs vc fo E st) (hB : Below w0.heap.size w0 W1) (hg : W.grownBy W1 vc.ownBlock) {e : Ent} (ho : W1.ownsRow w0.heap.size 123 2 v1 (E.length + 1) (E.flatMap entCells ++ entCells e)) (hr : ∀ k, v1.ownBlock = some k → ρ k = 6) (he : EntOk ρ W e) {cs : List (Nat × List Nat)} (hcs : cs = (e.x, e.rest) :: st.calls) :
  IsF ρ w0 (W1.setCell ⟨a.g, 6, none⟩ v1) a vs v1 fo (E ++ [e]) { st with calls := cs } := by
 have hk : Keep ρ 6 W W1 := .grown hg (fun k e => h.calls.role k e)
 have hk4 : Keep ρ 4 W1 (W1.setCell ⟨a.g, 6, none⟩ v1) := .set h.rg 6 v1
 have hb : W1.heap[a.g]? = _ := (hk.block _ h.lt (by rw [h.rg]; decide)).trans h.blk
 have hc1 : CallsOk ρ w0.heap.size W1 v1 (E ++ [e]) := ⟨by rw [List.length_append, List.flatMap_append]; simpa using ho, hr, fun q hq => by
  rcases List.mem_append.1 hq with k | k
  ·exact (h.calls.ents q k).keep hk (by decide)
  ·rw [List.mem_singleton.1 k]; exact he.keep hk (by decide)⟩
 exact ⟨hB.setCell h.bg _, by rw [blk_set hb 6 v1]; rfl, h.rg, h.bg, R_keepR (R_keepR h.nums hk (by decide)) hk4 (by decide), R_keepR (R_keepR h.lows hk (by decide)) hk4 (by decide), R_keepR (R_keepR h.on hk (by decide)) hk4 (by decide), R_keepR (R_keepR h.stk hk (by decide)) hk4 (by decide), hc1.keep hk4 (by decide) (by decide), by rw [List.map_append, h.cs, hcs]; simp, (h.fnd.keep hk (by decide)).keep hk4 (by decide)⟩
end
def sen.T1 : Bool × List (List Nat × List Nat) := (true, [([], []), ([0], [0]), ([1], [1]), ([2], [2]), ([], []), ([], []), ([5], [5]), ([6], [6]), ([7], [7]), ([], []), ([], []), ([10], [10]), ([11], [11]), ([12], [12]), ([], []), ([], []), ([15], [15]), ([16], [16]), ([17], [17]), ([], []), ([19], [19]), ([20], [20]), ([21], [21]), ([3, 4, 0, 1, 2, 3, 4, 8, 13, 15, 16, 17, 18, 22], [3, 4]), ([23, 18, 0, 1, 2, 3, 4, 8, 13, 15, 16, 17, 18, 22], [18, 23]), ([8, 9, 0, 1, 2, 3, 4, 5, 6, 7, 8, 9, 13, 15, 16, 17, 18, 19, 20, 21, 22, 23, 24], [8, 9]), ([25, 22, 24, 0, 1, 2, 3, 4, 5, 6, 7, 8, 9, 13, 15, 16, 17, 18, 19, 20, 21, 22, 23, 24], [22, 25]), ([13, 14, 0, 1, 2, 3, 4, 5, 6, 7, 8, 9, 10, 11, 12, 13, 14, 15, 16, 17, 18, 19, 20, 21, 22, 23, 24, 25, 26], [13, 14]), ([27, 26, 0, 1, 2, 3, 4, 5, 6, 7, 8, 9, 10, 11, 12, 13, 14, 15, 16, 17, 18, 19, 20, 21, 22, 23, 24, 25, 26], [27])])
def sen.B1 : List Nat := [0, 1, 3, 7, 0, 0, 32, 96, 224, 0, 0, 1024, 3072, 7168, 0, 0, 32768, 98304, 229376, 0, 524288, 1572864, 3670016, 8371711, 16760319, 33538047, 67092479, 134217727, 268435455]
theorem sen.tab1 : rtab .any (opsOf Try.f64 1) = sen.T1 := by kernel_rfl
theorem sen.bits1 : waitsOk sen.T1.2 sen.B1 = true := by kernel_rfl
def sen.T3 : Bool × List (List Nat × List Nat) := (true, [([], []), ([], []), ([1], [1]), ([2], [2]), ([3], [3]), ([], []), ([], []), ([6], [6]), ([7], [7]), ([8], [8]), ([], []), ([9, 10], [9, 10]), ([5, 11], [5, 11]), ([12], [12]), ([4, 13, 11], [4, 13]), ([0, 0, 1, 2, 3, 4, 5, 6, 7, 8, 9, 10, 11, 12, 13, 14], [0]), ([15, 0, 1, 2, 3, 4, 5, 6, 7, 8, 9, 10, 11, 12, 13, 14], [15]), ([16, 14, 14, 0, 1, 2, 3, 4, 5, 6, 7, 8, 9, 10, 11, 12, 13, 14], [14, 16])])
def sen.B3 : List Nat := [0, 0, 2, 6, 14, 0, 0, 64, 192, 448, 0, 1984, 4064, 8160, 16382, 32767, 65535, 131071]
theorem sen.tab3 : rtab .any (opsOf Try.f64 3) = sen.T3 := by kernel_rfl
theorem sen.bits3 : waitsOk sen.T3.2 sen.B3 = true := by kernel_rfl
theorem infoV : (Try.prog.info? 123).map (fun i => (i.zero, i.size, i.bytes)) = some (some (.agg #[.int .i64 0, .slice none 0 0]), 2, 32) := by kernel_rfl
section
variable {ρ : Nat → Nat} {w0 W W1 : World} {a : At} {vs vc v1 : Value} {fo : Option Addr} {E : List Ent} {st : Sg.FS}
theorem IsF.gvc (h : IsF ρ w0 W a vs vc fo E st) : some a.g ≠ vc.ownBlock := fun e => by have := h.calls.role _ e.symm; rw [h.rg] at this; cases this
theorem IsF.gvs (h : IsF ρ w0 W a vs vc fo E st) : some a.g ≠ vs.ownBlock := fun e => by have : ρ a.g = 5 := h.stk.1 _ e.symm; rw [h.rg] at this; cases this
theorem IsF.fzc (h : IsF ρ w0 W a vs vc fo E st) (hg : W.grownBy W1 vc.ownBlock) (i : Nat) : W1.frozen? ⟨a.g, i, none⟩ = false := bz_ (bg_ h.blk hg h.gvc) i
theorem IsF.fzs (h : IsF ρ w0 W a vs vc fo E st) (hg : W.grownBy W1 vs.ownBlock) (i : Nat) : W1.frozen? ⟨a.g, i, none⟩ = false := bz_ (bg_ h.blk hg h.gvs) i
theorem IsF.to (h : IsF ρ w0 W a vs vc fo E st) {st' : Sg.FS} (e : st' = st) : IsF ρ w0 W a vs vc fo E st' := by rw [e]; exact h
end
theorem ent_new {ρ : Nat → Nat} {W w6 : World} {base c : Nat} {A : Option Addr} {x : Nat} {l : List Nat} (hb : W.heap.size ≤ base) (hc : l.length ≤ c) (hC : Kd.C natK w6 A l.length l) (hR : Kd.R natK 3 w6 base (fun _ => True) (.slice A l.length c) l) : EntOk (roleTo ρ W.heap.size 7) w6 ⟨x, A, c, l⟩ := by
 refine ⟨hc, hC, fun ad ha _ => ?_⟩
 obtain ⟨inner, ho⟩ := Kd.R_own hR
 have ha' : A = some ad := ha
 subst ha'
 have h1 := own_base ho ad.block rfl
 have h2 := own_lt ho ad.block rfl
 exact ⟨roleTo_new (by omega), h2⟩
theorem enter_walk (p : PD) (ρ : Nat → Nat) (w0 W : World) (a : At) (vs vc : Value) (fo : Option Addr) (E : List Ent) (st : Sg.FS) (x : Nat) (h : IsF ρ w0 W a vs vc fo E st) (hP : IsProd w0 a.pg p) (hok : p.Ok) (haN : a.N = p.N) (hx : x < p.N) (hm : st.met < 1000000) (hs : st.stk.length < 1000000) (hE : E.length < 1000000) :
  Calls Try.prog 64 #[.pointer (some ⟨a.g, 0, none⟩), .int .i64 (x : Int)] W fun e W' => e = .returned (.tuple #[]) ∧ ∃ ρ' vs' vc' E', IsF ρ' w0 W' a vs' vc' fo E' (Sg.enterF p.next st x) := by
 have hui := Try.underlying23
 have hub := Try.underlying67
 have huF := Try.underlying103
 have huV := Try.underlying101
 have huv := Try.underlying123
 have hxa : x < a.N := by omega
 have hxl : (x : Int) < (a.N : Int) := by omega
 have r4 := h.c4
 have f4 := h.fz 4
 obtain ⟨m, hmm⟩ : ∃ m, m = st.met + 1 := ⟨_, rfl⟩
 have hmI : ((st.met : Nat) : Int) + 1 = (m : Int) := by rw [hmm]; rfl
 have HEF := Zd.mk (show Sg.enterF p.next st x = { st with nums := st.nums.set x m, lows := st.lows.set x m, on := st.on.set x true, met := m, stk := x :: st.stk, calls := (x, p.next x) :: st.calls } from by rw [hmm]; rfl)
 obtain ⟨W1, hW1⟩ : ∃ W1, W1 = W.setCell ⟨a.g, 4, none⟩ (.int .i64 (m : Int)) := ⟨_, rfl⟩
 have h1 : IsF ρ w0 W1 a vs vc fo E { st with met := m } := by rw [hW1]; exact h.setMet m
 have k1 := h1.c1
 have k2 := h1.c2
 have k3 := h1.c3
 have k4 : W1.cell? ⟨a.g, 4, none⟩ = some (.int .i64 (m : Int)) := h1.c4
 have hD : Below W1.heap.size W1 W1.drew := below_drew1 (Below.refl _ _)
 have h2 := h1.below hD
 have h3 := h2.setNum x m
 have h4 := h3.setLow x m
 have h5 := h4.setOn x true
 obtain ⟨z1, y1⟩ := natK_cell h2.nums hxa
 obtain ⟨z2, y2⟩ := natK_cell h3.lows hxa
 obtain ⟨z3, y3⟩ := boolK_cell h4.on hxa
 have HW1 := Zd.mk hW1
 have H5 := Zd.mk h5
 have HP := Zd.mk hP
 have HOK := Zd.mk hok
 have HST := Zd.mk hs
 have HMI := Zd.mk hmI
 generalize st.nums.getD x 0 = n0 at z1
 generalize st.lows.getD x 0 = n1 at z2
 generalize st.on.getD x false = n2 at z3
 clear h h1 hW1 h2 h3 h4 h5 hD hP hok hmm hmI haN
 go_enter Try.func64, Try.ntmps64
 go_upto_region 1 with fail
 rw [HMI.out, ← HW1.out]
 refine start_ (n := 29) (S := fun w' => w'.cell? ⟨a.g, 1, none⟩ = some (.slice (some ⟨a.gn, 0, none⟩) a.N a.N) ∧ w'.cell? ⟨a.g, 2, none⟩ = some (.slice (some ⟨a.gl, 0, none⟩) a.N a.N) ∧ w'.cell? ⟨a.g, 3, none⟩ = some (.slice (some ⟨a.go, 0, none⟩) a.N a.N) ∧ w'.cell? ⟨a.g, 4, none⟩ = some (.int .i64 (m : Int))) (ds := [24, 26, 28]) Mk103_ (by kernel_rfl) rfl rfl ⟨k1, k2, k3, k4⟩ (fun hHeld => ?_)
 refine with_tabW sen.tab1 sen.bits1 (fun HT_ HW_ => ?_)
 generalize W1.drew = W2 at *
 refine pz HT_.out 0 (some 11) Mk104_ rfl rfl ?_
 refine pz HT_.out 1 (some 12) Mk105_ rfl rfl ?_
 refine pz HT_.out 2 (some 13) Mk106_ rfl rfl ?_
 refine pz HT_.out 4 (some 15) Mk107_ rfl rfl ?_
 refine pz HT_.out 5 (some 16) Mk108_ rfl rfl ?_
 refine pz HT_.out 6 (some 17) Mk109_ rfl rfl ?_
 refine pz HT_.out 7 (some 18) Mk110_ rfl rfl ?_
 refine pz HT_.out 9 (some 20) Mk111_ rfl rfl ?_
 refine pz HT_.out 10 (some 21) Mk112_ rfl rfl ?_
 refine pz HT_.out 11 (some 22) Mk113_ rfl rfl ?_
 refine pz HT_.out 12 (some 23) Mk114_ rfl rfl ?_
 refine pz HT_.out 14 (some 25) Mk115_ rfl rfl ?_
 refine pz HT_.out 15 (some 26) Mk116_ rfl rfl ?_
 refine pz HT_.out 16 (some 27) Mk117_ rfl rfl ?_
 refine pz HT_.out 17 (some 28) Mk118_ rfl rfl ?_
 refine pz HT_.out 19 (some 30) Mk119_ rfl rfl ?_
 refine pz HT_.out 20 (some 31) Mk120_ rfl rfl ?_
 refine pz HT_.out 21 (some 32) Mk121_ rfl rfl ?_
 refine tz HT_.out HW_.out 3 (some 14) Mk122_ rfl rfl hHeld ?_
 refine tz HT_.out HW_.out 8 (some 19) Mk123_ rfl rfl hHeld ?_
 refine tz HT_.out HW_.out 13 (some 24) Mk124_ rfl rfl hHeld ?_
 refine tz HT_.out HW_.out 18 (some 29) Mk125_ rfl rfl hHeld ?_
 refine tz HT_.out HW_.out 22 (some 33) Mk126_ rfl rfl hHeld ?_
 refine pz HT_.out 23 (some 34) Mk127_ rfl rfl ?_
 refine last_ (i := 24) (N := none) Mk128_ rfl rfl (one_of HT_.out (by kernel_rfl)) (by decide) (fun K hK => ?_)
 refine skip_ (w1 := W2.setCell ⟨a.gn, x, none⟩ (.int .i64 (m : Int))) (by rfl) rfl ?_ ?_
 ·(go_simp; try rfl)
 refine hK.out _ _ ?_
 clear hK K
 refine pz HT_.out 25 (some 35) Mk129_ rfl rfl ?_
 refine last_ (i := 26) (N := none) Mk130_ rfl rfl (one_of HT_.out (by kernel_rfl)) (by decide) (fun K hK => ?_)
 refine skip_ (w1 := (W2.setCell ⟨a.gn, x, none⟩ (.int .i64 (m : Int))).setCell ⟨a.gl, x, none⟩ (.int .i64 (m : Int))) (by rfl) rfl ?_ ?_
 ·(go_simp; try rfl)
 refine hK.out _ _ ?_
 clear hK K
 refine pz HT_.out 27 (some 36) Mk131_ rfl rfl ?_
 refine last_ (i := 28) (N := none) Mk132_ rfl rfl (one_of HT_.out (by kernel_rfl)) (by decide) (fun K hK => ?_)
 refine skip_ (w1 := ((W2.setCell ⟨a.gn, x, none⟩ (.int .i64 (m : Int))).setCell ⟨a.gl, x, none⟩ (.int .i64 (m : Int))).setCell ⟨a.go, x, none⟩ (.bool true)) (by rfl) rfl ?_ ?_
 ·(go_simp; try rfl)
 refine hK.out _ _ ?_
 clear hK K
 refine done_ (done_of HT_.out (by kernel_rfl)) ?_
 clear hHeld HT_ HW_
 obtain ⟨W3, hW3⟩ : ∃ W3 : World, W3 = ((W2.setCell ⟨a.gn, x, none⟩ (.int .i64 (m : Int))).setCell ⟨a.gl, x, none⟩ (.int .i64 (m : Int))).setCell ⟨a.go, x, none⟩ (.bool true) := ⟨_, rfl⟩
 rw [← hW3] at H5 ⊢
 have H6 := Zd.mk (H5.out.rerole 5)
 have c5 := H5.out.c5
 have hsl : st.stk.reverse.length < 1000000 := by rw [List.length_reverse]; exact HST.out
 clear k1 k2 k3 k4 z1 z2 z3 y1 y2 y3 hW3
 go_upto_region 3 with ((with_reducible refine gate_builtin (b := .append) (xs := #[.tmp 41, .tmp 43]) rfl ?_); at_builtin; refine Kd.R_append natK (w0 := w0) w0.heap.size rfl (.tmp 41) (.tmp 43) 23 3 (.int .i64 0) 8 rfl hui infoI rfl (by decide) (by omega) vs st.stk.reverse x [.int .i64 (x : Int)] (fun k => roleTo ρ W3.heap.size 5 k = 5) (fun _ => False) rfl ?aX ?aP (fun _ hk => hk.elim) ?aF ?aO ?aB ?aS ?aL ?_; (case aX => first | rfl | (simp; done) | (go_simp; done)); (case aP => exact rfl); (case aF => exact (fun k hk => roleTo_new hk)); (case aO => exact H6.out.stk); (case aB => exact H6.out.bel); (case aS => exact H6.out.bel.size); (case aL => first | omega | (simp; omega)); intro v9_ w9 ho hb hg hat; obtain ⟨A9, n9, c9, e9⟩ : ∃ A n c, v9_ = .slice A n c := (by obtain ⟨A, c, e⟩ := Kd.R_slice ho; exact ⟨A, _, c, e⟩); subst e9; have c5b := hg.cell c5 H6.out.gvs; have f5b := H6.out.fzs hg 5; have H9 := Zd.mk (H6.out.growStk hb hg ho); clear ho hb hg hat)
 obtain ⟨W5, hW5⟩ : ∃ W5 : World, W5 = w9.setCell ⟨a.g, 5, none⟩ (.slice A9 n9 c9) := ⟨_, rfl⟩
 rw [← hW5] at H9 ⊢
 have HF5 := Zd.mk (H9.out.rerole 7)
 have k0 := H9.out.c0
 have k6 := H9.out.c6
 have HNX := Zd.mk (fun W (hb : Below W5.heap.size W5 W) => next_walk p a.pg x W (HP.out.below (H9.out.bel.trans (hb.mono H9.out.bel.size))) HOK.out hx)
 have HEN := Zd.mk (fun (w6 : World) (A6 : Option Addr) (c6 : Nat) (hB : Below W5.drew.heap.size W5.drew w6) (hc6 : (p.next x).length ≤ c6) (hC6 : Kd.C natK w6 A6 (p.next x).length (p.next x)) (hR6 : Kd.R natK 3 w6 W5.drew.heap.size (fun _ => True) (.slice A6 (p.next x).length c6) (p.next x)) => ent_new (ρ := roleTo ρ W3.heap.size 5) (W := W5) (x := x) (Nat.le_refl _) hc6 hC6 hR6)
 generalize p.next x = nxl at *
 clear c5 c5b f5b hW5
 refine start_ (n := 18) (S := fun w' => w'.cell? ⟨a.g, 0, none⟩ = some (.pointer (some ⟨a.pg, 0, none⟩)) ∧ w'.cell? ⟨a.g, 6, none⟩ = some vc) (ds := [17]) Mk133_ (by kernel_rfl) rfl rfl ⟨k0, k6⟩ (fun hHeld => ?_)
 refine with_tabW sen.tab3 sen.bits3 (fun HT_ HW_ => ?_)
 refine pz HT_.out 0 (some 47) Mk134_ rfl rfl ?_
 refine pz HT_.out 1 (some 48) Mk135_ rfl rfl ?_
 refine pz HT_.out 2 (some 49) Mk136_ rfl rfl ?_
 refine pz HT_.out 3 (some 50) Mk137_ rfl rfl ?_
 refine pz HT_.out 5 (some 52) Mk138_ rfl rfl ?_
 refine pz HT_.out 6 (some 53) Mk139_ rfl rfl ?_
 refine pz HT_.out 7 (some 54) Mk140_ rfl rfl ?_
 refine pz HT_.out 8 (some 55) Mk141_ rfl rfl ?_
 refine pz HT_.out 10 (some 57) Mk142_ rfl rfl ?_
 refine tz HT_.out HW_.out 4 (some 51) Mk143_ rfl rfl hHeld ?_
 refine tz HT_.out HW_.out 9 (some 56) Mk144_ rfl rfl hHeld ?_
 refine one_ (i := 11) (N := some 58) Mk145_ rfl rfl (one_of HT_.out (by kernel_rfl)) (by decide) (fun K hK => ?_)
 refine goes_ Try.func66 (by kernel_rfl) rfl #[.pointer (some ⟨a.pg, 0, none⟩), .int .i64 (x : Int)] (by rfl) rfl rfl (by simp only [List.map_toArray, List.map_cons, List.map_nil]; rfl) ?_
 with_reducible refine (HNX.out _ (show Below W5.heap.size W5 W5.drew from below_drew1 (Below.refl _ _))).mono ?_
 rintro e_ w6 ⟨v6, rfl, hR6, hB⟩
 obtain ⟨A6, c6, e6, hc6, hC6⟩ := Kd.R_reads hR6
 subst e6
 have HF6 := Zd.mk (HF5.out.below ((below_drew1 (Below.refl _ _)).trans hB))
 have HE6 := Zd.mk (HEN.out w6 A6 c6 hB hc6 hC6 hR6)
 have k0_ := HF6.out.c0
 have k6_ := HF6.out.c6
 have HB6 := Zd.mk (below_alloc (Below.refl w6.heap.size w6) (.cells #[.int .i64 (x : Int), .slice A6 nxl.length c6] 123))
 have k0a_ := pb_ HB6.out k0_
 have k6a_ := pb_ HB6.out k6_
 clear hR6 hC6 hB hHeld
 refine ⟨_, rfl, ?_⟩
 refine hK.out _ _ ⟨k0_, k6_⟩ (fun hHeld => ?_)
 clear hK K
 refine norm_ (a' := ?_) ?_ ?_
 rotate_left
 ·show Act.put _ (some 58) _ = _
  simp only [Act.put, List.setIfInBounds_toArray, List.set_cons_zero, List.set_cons_succ, i64_w, i32_w]
  rfl
 refine pz HT_.out 12 (some 59) Mk146_ rfl rfl ?_
 refine one_ (i := 13) (N := some 60) Mk147_ rfl rfl (one_of HT_.out (by kernel_rfl)) (by decide) (fun K hK => ?_)
 refine value_ (w1 := w6.alloc (.cells #[.int .i64 (x : Int), .slice A6 nxl.length c6] 123)) (v := .slice (some ⟨w6.heap.size, 0, none⟩) 1 1) (by rfl) rfl ?_ ?_
 ·(go_simp; try rfl)
 refine hK.out _ _ ⟨k0a_, k6a_⟩ (fun hHeld => ?_)
 clear hK K
 refine norm_ (a' := ?_) ?_ ?_
 rotate_left
 ·show Act.put _ (some 60) _ = _
  simp only [Act.put, List.setIfInBounds_toArray, List.set_cons_zero, List.set_cons_succ, i64_w, i32_w]
  rfl
 refine one_ (i := 14) (N := some 61) Mk148_ rfl rfl (one_of HT_.out (by kernel_rfl)) (by decide) (fun K hK => ?_)
 refine step_append_cells (w0 := w0) (W := w6) w0.heap.size (by rfl) (.tmp 51) (.tmp 60) 101 123 (.agg #[.int .i64 0, .slice none 0 0]) 2 32 rfl huV infoV rfl (by decide) (by decide) vc E.length (E.flatMap entCells) [.int .i64 (x : Int), .slice A6 nxl.length c6] rfl rfl rfl (by simp [Value.oneCell']) HF6.out.calls.own HF6.out.bel HF6.out.bel.size (by omega) ?_
 intro v7_ w7 ho hb hg hat
 obtain ⟨A7, n7, c7, e7⟩ : ∃ A n c, v7_ = .slice A n c := (by obtain ⟨A, c, e⟩ := own_slice ho; exact ⟨A, _, c, e⟩)
 subst e7
 have HV7 := Zd.mk ho
 have HB7 := Zd.mk hb
 have HG7 := Zd.mk hg
 have HT7 := Zd.mk hat
 have k0b_ := (hg.cell k0_ (HF6.out.gvc))
 have k6b_ := (hg.cell k6_ (HF6.out.gvc))
 have f6b_ := HF6.out.fzc hg 6
 clear ho hb hg hat hHeld
 refine hK.out _ _ ⟨k0b_, k6b_⟩ (fun hHeld => ?_)
 clear hK K
 refine norm_ (a' := ?_) ?_ ?_
 rotate_left
 ·show Act.put _ (some 61) _ = _
  simp only [Act.put, List.setIfInBounds_toArray, List.set_cons_zero, List.set_cons_succ, i64_w, i32_w]
  rfl
 refine pz HT_.out 15 (some 62) Mk149_ rfl rfl ?_
 refine pz HT_.out 16 (some 63) Mk150_ rfl rfl ?_
 refine last_ (i := 17) (N := none) Mk151_ rfl rfl (one_of HT_.out (by kernel_rfl)) (by decide) (fun K hK => ?_)
 refine skip_ (w1 := w7.setCell ⟨a.g, 6, none⟩ (.slice A7 n7 c7)) (by rfl) rfl ?_ ?_
 ·(go_simp; try rfl)
 refine hK.out _ _ ?_
 clear hK K
 refine done_ (done_of HT_.out (by kernel_rfl)) ?_
 clear hHeld HT_ HW_
 have HFIN := Zd.mk (by
  have h6 := HF6.out.rerole 6
  have h7 := h6.growCalls (e := ⟨x, A6, c6, nxl⟩) (cs := (x, nxl) :: st.calls) HB7.out HG7.out HV7.out (fun k hk => by
   rcases HT7.out with e | ⟨b, e, hb⟩
   ·rw [e] at hk
    exact h6.calls.role k hk
   ·rw [e] at hk
    cases hk
    exact roleTo_new hb) HE6.out.rerole rfl
  exact h7.to (st' := Sg.enterF p.next st x) (by rw [HEF.out]; simp))
 go_wp2
 go_end0
 exact ⟨rfl, _, _, _, _, HFIN.out⟩
end Go.Proofs.Ytapejnikpmfddaa.X
