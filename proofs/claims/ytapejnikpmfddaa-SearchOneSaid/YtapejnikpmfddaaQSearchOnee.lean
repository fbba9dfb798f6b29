/- A part of the claim SearchOne. -/
import Derived.Outline
import Derived.Test.YtapejnikpmfddaaQSearchOned
namespace Go.Proofs.Ytapejnikpmfddaa.X
open Go.RowKit Go.Proofs.YtapejnikpmfddaaW.PrintWords Go.Proofs.YtapejnikpmfddaaW.PrintLast Go.Proofs.YtapejnikpmfddaaW.PrintMore
open Go.Proofs.Ytapejnikpmfddaa.P Go.Proofs.Ytapejnikpmfddaa.Evx
set_option linter.unusedSimpArgs false
set_option linter.unusedVariables false
def rowOp (ls : List Int) (b : Nat) (op m : Int) (x y : List Bool) : List Bool :=
 if op = 2 then settleS (fun i _ => bitS (ls.getD i 0) m) ls.length b false
 else if op = 3 then settleS (fun i _ => !(x.getD i false)) ls.length b false
 else if op = 4 then settleS (fun i _ => x.getD i false && y.getD i false) ls.length b false
 else if op = 5 then settleS (fun i _ => x.getD i false || y.getD i false) ls.length b false
 else if op = 6 then settleS (fun i _ => x.getD (nextS ls.length b i) false) ls.length b false
 else if op = 7 then settleS (fun i nx => y.getD i false || x.getD i false && nx) ls.length b false
 else if op = 8 then settleS (fun i nx => y.getD i false && (x.getD i false || nx)) ls.length b true
 else settleS (fun _ _ => true) ls.length b false
mutual
def rowS (ls : List Int) (b : Nat) : S29 → List Bool
 | ⟨op, m, kids⟩ => rowOp ls b op m ((rowL ls b kids).getD 0 []) ((rowL ls b kids).getD 1 [])
def rowL (ls : List Int) (b : Nat) : List S29 → List (List Bool)
 | [] => []
 | k :: r => rowS ls b k :: rowL ls b r
end
theorem rowL_get (ls : List Int) (b : Nat) : ∀ (l : List S29) (i : Nat) (h : i < l.length), (rowL ls b l).getD i [] = rowS ls b (l[i]'h)
 | k :: r, 0, h => by simp [rowL]
 | k :: r, i + 1, h => by
  have := rowL_get ls b r i (by simpa using h)
  simpa [rowL] using this
theorem len_settle (f : Nat → Bool → Bool) (n b : Nat) (first : Bool) : (settleS f n b first).length = n := by simp [settleS, len_pass]
theorem len_rowOp (ls : List Int) (b : Nat) (op m : Int) (x y : List Bool) : (rowOp ls b op m x y).length = ls.length := by
 unfold rowOp
 repeat' split
 all_goals exact len_settle _ _ _ _
theorem len_row (ls : List Int) (b : Nat) (s : S29) : (rowS ls b s).length = ls.length := by
 obtain ⟨op, m, kids⟩ := s
 rw [rowS]
 exact len_rowOp _ _ _ _ _ _
theorem sound_mem : ∀ {l : List S29}, soundL l = true → ∀ (i : Nat) (h : i < l.length), soundS (l[i]'h) = true
 | k :: r, h, 0, _ => by simp only [soundL, Bool.and_eq_true] at h; exact h.1
 | k :: r, h, i + 1, hi => by simp only [soundL, Bool.and_eq_true] at h; exact sound_mem h.2 i (by simpa using hi)
theorem sound_kid {s : S29} (h : soundS s = true) (i : Nat) (hi : i < s.f2.length) : soundS (s.f2[i]'hi) = true := by
 obtain ⟨op, m, kids⟩ := s
 simp only [soundS, Bool.and_eq_true] at h
 exact sound_mem h.2.2.2.2 i hi
theorem sound_parts {s : S29} (h : soundS s = true) : 0 ≤ kidsS s.f0 ∧ (s.f2.length : Int) = kidsS s.f0 ∧ 0 ≤ s.f1 ∧ s.f1 ≤ mostS s.f0 := by
 obtain ⟨op, m, kids⟩ := s
 simp only [soundS, Bool.and_eq_true, decide_eq_true_eq] at h
 exact ⟨h.1, h.2.1, h.2.2.1, h.2.2.2.1⟩
theorem row_eq (ls : List Int) (b : Nat) (s : S29) : rowS ls b s = rowOp ls b s.f0 s.f1 ((rowL ls b s.f2).getD 0 []) ((rowL ls b s.f2).getD 1 []) := by cases s; rfl
theorem op_cases {op : Int} (h : 0 ≤ kidsS op) : op = 1 ∨ op = 2 ∨ op = 3 ∨ op = 4 ∨ op = 5 ∨ op = 6 ∨ op = 7 ∨ op = 8 := by
 unfold kidsS at h
 split at h
 ·omega
 ·split at h
  ·omega
  ·split at h
   ·omega
   ·omega
def RowAt (ls : List Int) (b : Nat) (s : S29) : Prop := ∀ (rb : Nat) (A : Option Addr) (c n : Nat) (A2 : Option Addr) (cp : Nat) (w : World), ls.length = n → IsRower w rb A n c b → Kd.C (Kd.int .u32) w A n ls → 0 < n → n < 1000000000 → b < n → Kd.C k29 w A2 s.f2.length s.f2 → s.f2.length ≤ cp → soundS s = true →
 Calls Try.prog 55 #[.pointer (some ⟨rb, 0, none⟩), .agg #[.int .i64 s.f0, .int .i64 s.f1, .slice A2 s.f2.length cp]] w fun e w' => ∃ g, e = .returned (.slice (some ⟨g, 0, none⟩) n n) ∧ w.heap.size ≤ g ∧ BRow w' g (rowS ls b s) ∧ Below w.heap.size w w'
def rowBoxes (w : World) (rb : Nat) (op m : Int) (A2 : Option Addr) (len cp : Nat) : World :=
 (((w.alloc (.cells #[.pointer (some ⟨rb, 0, none⟩)] 92)).alloc (.cells #[.int .i64 op, .int .i64 m, .slice A2 len cp] 29)).alloc (.cells #[.slice none 0 0] 67)).alloc (.cells #[.slice none 0 0] 67)
structure RowSt (w wx : World) (rb : Nat) (op m : Int) (A2 : Option Addr) (len cp : Nat) (va vb : Value) : Prop where
 c0 : Cell1 wx w.heap.size (.pointer (some ⟨rb, 0, none⟩)) 92
 c1 : wx.heap[w.heap.size + 1]? = some (.cells #[.int .i64 op, .int .i64 m, .slice A2 len cp] 29 (0, 0))
 c2 : Cell1 wx (w.heap.size + 1 + 1) va 67
 c3 : Cell1 wx (w.heap.size + 1 + 1 + 1) vb 67
 bl : Below w.heap.size w wx
 sz : w.heap.size + 1 + 1 + 1 + 1 ≤ wx.heap.size
theorem RowSt.start (w : World) (rb : Nat) (op m : Int) (A2 : Option Addr) (len cp : Nat) : RowSt w (rowBoxes w rb op m A2 len cp) rb op m A2 len cp (.slice none 0 0) (.slice none 0 0) := by
 refine ⟨?_, ?_, ?_, ?_, ?_, ?_⟩
 ·exact ba_ (ba_ (ba_ (heap_alloc_new w _) _) _) _
 ·refine ba_ (ba_ ?_ _) _
  have := heap_alloc_new (w.alloc (.cells #[.pointer (some ⟨rb, 0, none⟩)] 92)) (.cells #[.int .i64 op, .int .i64 m, .slice A2 len cp] 29)
  simpa using this
 ·refine ba_ ?_ _
  have := heap_alloc_new ((w.alloc (.cells #[.pointer (some ⟨rb, 0, none⟩)] 92)).alloc (.cells #[.int .i64 op, .int .i64 m, .slice A2 len cp] 29)) (.cells #[.slice none 0 0] 67)
  simpa using this
 ·have := heap_alloc_new (((w.alloc (.cells #[.pointer (some ⟨rb, 0, none⟩)] 92)).alloc (.cells #[.int .i64 op, .int .i64 m, .slice A2 len cp] 29)).alloc (.cells #[.slice none 0 0] 67)) (.cells #[.slice none 0 0] 67)
  simpa [Cell1, rowBoxes] using this
 ·exact below_alloc (below_alloc (below_alloc (below_alloc (Below.refl _ _) _) _) _) _
 ·simp [rowBoxes]
theorem RowSt.next {w wx w' : World} {rb : Nat} {op m : Int} {A2 : Option Addr} {len cp : Nat} {va vb : Value} (h : RowSt w wx rb op m A2 len cp va vb) (hB : Below wx.heap.size wx w') : RowSt w w' rb op m A2 len cp va vb :=
 ⟨(hB.block _ (blk_lt h.c0)).trans h.c0, (hB.block _ (blk_lt h.c1)).trans h.c1, (hB.block _ (blk_lt h.c2)).trans h.c2, (hB.block _ (blk_lt h.c3)).trans h.c3, h.bl.trans (hB.mono h.bl.size), Nat.le_trans h.sz hB.size⟩
theorem RowSt.drewN {w wx : World} {rb : Nat} {op m : Int} {A2 : Option Addr} {len cp : Nat} {va vb : Value} (h : RowSt w wx rb op m A2 len cp va vb) (k : Nat) : RowSt w (wx.drewN k) rb op m A2 len cp va vb :=
 h.next (pd_ (Below.refl _ _) k)
theorem RowSt.setA {w wx : World} {rb : Nat} {op m : Int} {A2 : Option Addr} {len cp : Nat} {va vb : Value} (h : RowSt w wx rb op m A2 len cp va vb) (v : Value) : RowSt w (wx.setCell ⟨w.heap.size + 1 + 1, 0, none⟩ v) rb op m A2 len cp v vb :=
 ⟨blk_far h.c0 (by first | (simp; done) | (simp; omega) | omega) v, blk_far h.c1 (by first | (simp; done) | (simp; omega) | omega) v, (blk_set h.c2 0 v).trans (by simp), blk_far h.c3 (by first | (simp; done) | (simp; omega) | omega) v, h.bl.setCell (by first | (simp; done) | (simp; omega) | omega) v, by simpa using h.sz⟩
theorem RowSt.setB {w wx : World} {rb : Nat} {op m : Int} {A2 : Option Addr} {len cp : Nat} {va vb : Value} (h : RowSt w wx rb op m A2 len cp va vb) (v : Value) : RowSt w (wx.setCell ⟨w.heap.size + 1 + 1 + 1, 0, none⟩ v) rb op m A2 len cp va v :=
 ⟨blk_far h.c0 (by first | (simp; done) | (simp; omega) | omega) v, blk_far h.c1 (by first | (simp; done) | (simp; omega) | omega) v, blk_far h.c2 (by first | (simp; done) | (simp; omega) | omega) v, (blk_set h.c3 0 v).trans (by simp), h.bl.setCell (by first | (simp; done) | (simp; omega) | omega) v, by simpa using h.sz⟩
def RowIs (w wx : World) (n : Nat) (v : Value) (x : List Bool) : Prop := ∃ ga, v = .slice (some ⟨ga, 0, none⟩) n n ∧ w.heap.size + 1 + 1 + 1 + 1 ≤ ga ∧ BRow wx ga x ∧ x.length = n
theorem RowIs.next {w wx w' : World} {n : Nat} {v : Value} {x : List Bool} (h : RowIs w wx n v x) (hB : Below wx.heap.size wx w') : RowIs w w' n v x := by
 obtain ⟨ga, h1, h2, h3, h4⟩ := h
 exact ⟨ga, h1, h2, (hB.block _ (blk_lt h3)).trans h3, h4⟩
theorem RowIs.set_ {w wx : World} {n : Nat} {v : Value} {x : List Bool} (h : RowIs w wx n v x) {p : Addr} (hp : p.block < w.heap.size + 1 + 1 + 1 + 1) (u : Value) : RowIs w (wx.setCell p u) n v x := by
 obtain ⟨ga, h1, h2, h3, h4⟩ := h
 exact ⟨ga, h1, h2, blk_far h3 (by omega) u, h4⟩
set_option maxHeartbeats 8000000 in
set_option maxRecDepth 100000 in
theorem row_calls (ls : List Int) (b : Nat) (s : S29) (ih : ∀ k ∈ s.f2, RowAt ls b k) : RowAt ls b s := by
 intro rb A c n A2 cp w hn hR hC h0 h1 hb hk hc hs
 have huF := Try.underlying29
 have huL := Try.underlying27
 have huR := Try.underlying95
 have hus := Try.underlying67
 have hmf : ∀ fn first cap w, (Instr.makeFunc fn first cap).run Try.prog w = .ok (.func fn first cap) w := fun _ _ _ _ => rfl
 have hst := RowSt.start w rb s.f0 s.f1 A2 s.f2.length cp
 have HR := Zd.mk hR
 have HK := Zd.mk hk
 have HC := Zd.mk hC
 have HS := Zd.mk hs
 have HIH := Zd.mk (fun (i : Nat) (hi : i < s.f2.length) W (hB : Below w.heap.size w W) => fun A3 c3 hk3 hc3 => ih (s.f2[i]'hi) (List.getElem_mem hi) rb A c n A3 c3 W hn ((hB.block _ (blk_lt hR)).trans hR) (Kd.C_below hC hB) h0 h1 hb hk3 hc3 (sound_kid hs i hi))
 have hlen := Kd.C_max hk
 clear hR hC hk hs ih
 go_enter Try.func55, Try.ntmps55
 go_upto_if 10 with fail
 change Code.wp _ _ _ _ (rowBoxes w rb s.f0 s.f1 A2 s.f2.length cp)
 generalize rowBoxes w rb s.f0 s.f1 A2 s.f2.length cp = W4 at *
 have HST := Zd.mk hst
 go_cut [] (fun wx => ∃ va x, Zd (RowSt w wx rb s.f0 s.f1 A2 s.f2.length cp va (.slice none 0 0)) ∧ Zd (0 < s.f2.length → RowIs w wx n va x ∧ x = (rowL ls b s.f2).getD 0 []))
 case first =>
  by_cases hl : 0 < s.f2.length
  ·obtain ⟨ad, A3, c3, hA, hx0, hx1, hx2, hl2, hk2⟩ := kid_at HK.out hst.bl 0 hl hl
   subst hA
   have e0 : ad.add (0 * 3) = ad := by cases ad; simp [Addr.add]
   rw [e0] at hx0 hx1 hx2
   have HK2 := Zd.mk (Kd.C_below hk2 hst.bl)
   have HL2 := Zd.mk hl2
   have xp0 := cell1 hst.c0
   have xp1 : W4.cell? ⟨w.heap.size + 1, 2, none⟩ = some (.slice (some ad) s.f2.length cp) := (bq_ hst.c1 2).trans rfl
   have fp2 := bz_ hst.c2 0
   have xp2 := cell1 hst.c2
   clear hst hk2 hl2
   go_upto_region 3 with fail
   have HCALL := Zd.mk (HIH.out 0 hl W4.drew (below_drew1 HST.out.bl) A3 c3 (Kd.C_drew HK2.out) HL2.out)
   have HD := Zd.mk (HST.out.next (below_drew1 (Below.refl _ _)))
   have HDZ := Zd.mk HST.out.sz
   go_region_with (go_at_call 55; refine HCALL.out.mono ?_; rintro e w5 ⟨g, rfl, hg, hG, hB⟩; have HS5 := Zd.mk (HD.out.next hB); have HG := Zd.mk hG; have HGG := Zd.mk (show W4.heap.size ≤ g from hg); have xq2 := cell1 HS5.out.c2; have fq2 := bz_ HS5.out.c2 0; clear hG hB hg)
   all_goals (
    go_wp2_with fail
    go_meet
    exact ⟨_, rowS ls b (s.f2[0]'hl), ⟨HS5.out.setA _⟩, ⟨fun _ => ⟨RowIs.set_ ⟨g, rfl, Nat.le_trans HDZ.out HGG.out, HG.out, (len_row _ _ _).trans hn⟩ (by simp) _, (rowL_get ls b s.f2 0 hl).symm⟩⟩⟩)
  ·have hd : decide (0 < s.f2.length) = false := decide_eq_false hl
   go_wp2
   go_meet
   exact ⟨_, [], HST, ⟨fun h => absurd h hl⟩⟩
 case rest =>
  obtain ⟨va, x, HST2, HX⟩ := hcut
  have x1l : wc.cell? ⟨w.heap.size + 1, 2, none⟩ = some (.slice A2 s.f2.length cp) := (bq_ HST2.out.c1 2).trans rfl
  clear hst HST
  go_upto_if 20 with fail
  go_cut [] (fun wx => ∃ vb y, Zd (RowSt w wx rb s.f0 s.f1 A2 s.f2.length cp va vb) ∧ Zd (0 < s.f2.length → RowIs w wx n va x ∧ x = (rowL ls b s.f2).getD 0 []) ∧ Zd (1 < s.f2.length → RowIs w wx n vb y ∧ y = (rowL ls b s.f2).getD 1 []))
  case first =>
   by_cases hl : 1 < s.f2.length
   ·obtain ⟨ad, A3, c3, hA, hx0, hx1, hx2, hl2, hk2⟩ := kid_at HK.out HST2.out.bl 1 hl hl
    subst hA
    simp only [Nat.one_mul] at hx0 hx1 hx2
    have hx1a : wc.cell? ⟨ad.block, ad.off + 3 + 1, none⟩ = some (.int .i64 (s.f2[1]'hl).f1) := hx1
    have hx2a : wc.cell? ⟨ad.block, ad.off + 3 + 2, none⟩ = some (.slice A3 (s.f2[1]'hl).f2.length c3) := hx2
    have hx0a : wc.cell? ⟨ad.block, ad.off + 3, none⟩ = some (.int .i64 (s.f2[1]'hl).f0) := hx0
    have HK2 := Zd.mk (Kd.C_below hk2 HST2.out.bl)
    have HL2 := Zd.mk hl2
    have xp0 := cell1 HST2.out.c0
    have fp3 := bz_ HST2.out.c3 0
    have xp3 := cell1 HST2.out.c3
    clear hk2 hl2
    have HCALL := Zd.mk (HIH.out 1 hl wc.drew (below_drew1 HST2.out.bl) A3 c3 (Kd.C_drew HK2.out) HL2.out)
    have HD := Zd.mk (HST2.out.next (below_drew1 (Below.refl _ _)))
    have HDZ := Zd.mk HST2.out.sz
    go_upto_region 5 with fail
    go_region_with (go_at_call 55; refine HCALL.out.mono ?_; rintro e w5 ⟨g, rfl, hg, hG, hB⟩; have HS5 := Zd.mk (HD.out.next hB); have HX5 := Zd.mk (fun h => And.intro ((HX.out h).1.next ((below_drew1 (Below.refl _ _)).trans hB)) (HX.out h).2); have HG := Zd.mk hG; have HGG := Zd.mk (show wc.heap.size ≤ g from hg); have xq2 := cell1 HS5.out.c3; have fq2 := bz_ HS5.out.c3 0; clear hG hB hg)
    all_goals (
     go_wp2_with fail
     go_meet
     exact ⟨_, rowS ls b (s.f2[1]'hl), ⟨HS5.out.setB _⟩, ⟨fun h => ⟨(HX5.out h).1.set_ (by simp) _, (HX5.out h).2⟩⟩, ⟨fun _ => ⟨RowIs.set_ ⟨g, rfl, Nat.le_trans HDZ.out HGG.out, HG.out, (len_row _ _ _).trans hn⟩ (by simp) _, (rowL_get ls b s.f2 1 hl).symm⟩⟩⟩)
   ·have hd : decide (1 < s.f2.length) = false := decide_eq_false hl
    go_wp2
    go_meet
    exact ⟨_, [], HST2, HX, ⟨fun h => absurd h hl⟩⟩
  case rest =>
   obtain ⟨vb, y, HST3, HXX, HYY⟩ := hcut
   have hpart := sound_parts HS.out
   have hRw : IsRower wc rb A n c b := (HST3.out.bl.block _ (blk_lt HR.out)).trans HR.out
   have hCw := Kd.C_below HC.out HST3.out.bl
   have hc1 := HST3.out.c1
   have x00 := cell1 HST3.out.c0
   have x0 : wc.cell? ⟨w.heap.size + 1, 0, none⟩ = some (.int .i64 s.f0) := (bq_ HST3.out.c1 0).trans rfl
   clear HST2 HX x1l HIH HK
   rcases op_cases hpart.1 with hop | hop | hop | hop | hop | hop | hop | hop
   ·-- op 1
    have hkk := hpart.2.1
    have hmm := hpart.2.2.2
    rw [hop] at hkk hmm x0
    have hrow : rowS ls b s = settleS (fun _ _ => true) n b false := by
     rw [row_eq, hop]
     unfold rowOp
     rw [if_neg (by decide), if_neg (by decide), if_neg (by decide), if_neg (by decide), if_neg (by decide), if_neg (by decide), if_neg (by decide)]
     rw [hn]
    have HE := Zd.mk (each_calls 84 #[] (enters_f Try.func84 (by kernel_rfl) rfl) (fun _ => true) rb A n c b wc hRw h0 h1 hb (fun W hW i hi => row8_calls i W))
    have HO := Zd.mk hrow
    clear hrow
    go_wp2_with (go_at_call 74; refine HE.out.mono ?_; rintro e w6 ⟨g, rfl, hg, hG, hB⟩; have HG := Zd.mk hG; have HB := Zd.mk hB; have HGS := Zd.mk hg; clear hG hB hg)
    go_ret
    exact ⟨g, rfl, Nat.le_trans HST3.out.bl.size HGS.out, by rw [HO.out]; exact HG.out, HST3.out.bl.trans (HB.out.mono HST3.out.bl.size)⟩
   ·-- op 2
    have hkk := hpart.2.1
    have hmm := hpart.2.2.2
    rw [hop] at hkk hmm x0
    have hrow : rowS ls b s = settleS (fun i _ => bitS (ls.getD i 0) s.f1) n b false := by
     rw [row_eq, hop]
     unfold rowOp
     rw [if_pos rfl]
     rw [hn]
    have hm2 : mostS 2 = 19 := by decide
    have HE := Zd.mk (each_calls 75 #[.pointer (some ⟨w.heap.size, 0, none⟩), .pointer (some ⟨(w.heap.size + 1), 0, none⟩)] (enters_f Try.func75 (by kernel_rfl) rfl) (fun i => bitS (ls.getD i 0) s.f1) rb A n c b wc hRw h0 h1 hb (fun W hW i hi => row1_calls w.heap.size (w.heap.size + 1) rb n c b i A A2 ls s.f0 s.f1 s.f2.length cp W ((hW.block _ (blk_lt HST3.out.c0)).trans HST3.out.c0) ((hW.block _ (blk_lt hRw)).trans hRw) (Kd.C_below hCw hW) ((hW.block _ (blk_lt hc1)).trans hc1) hi hpart.2.2.1 (by omega)))
    have HO := Zd.mk hrow
    clear hrow
    go_wp2_with (go_at_call 74; refine HE.out.mono ?_; rintro e w6 ⟨g, rfl, hg, hG, hB⟩; have HG := Zd.mk hG; have HB := Zd.mk hB; have HGS := Zd.mk hg; clear hG hB hg)
    go_ret
    exact ⟨g, rfl, Nat.le_trans HST3.out.bl.size HGS.out, by rw [HO.out]; exact HG.out, HST3.out.bl.trans (HB.out.mono HST3.out.bl.size)⟩
   ·-- op 3
    have hkk := hpart.2.1
    have hmm := hpart.2.2.2
    rw [hop] at hkk hmm x0
    have hrow : rowS ls b s = settleS (fun i _ => !(((rowL ls b s.f2).getD 0 []).getD i false)) n b false := by
     rw [row_eq, hop]
     unfold rowOp
     rw [if_neg (by decide), if_pos rfl]
     rw [hn]
    obtain ⟨⟨ga, rfl, hga, hA, hAl⟩, hxe⟩ := HXX.out (by have h9 : kidsS 3 = 1 := (by decide); omega)
    rw [← hxe] at hrow
    have HE := Zd.mk (each_calls 76 #[.pointer (some ⟨(w.heap.size + 1 + 1), 0, none⟩)] (enters_f Try.func76 (by kernel_rfl) rfl) (fun i => !(x.getD i false)) rb A n c b wc hRw h0 h1 hb (fun W hW i hi => row2_calls (w.heap.size + 1 + 1) ga n i x W ((hW.block _ (blk_lt HST3.out.c2)).trans HST3.out.c2) ((hW.block _ (blk_lt hA)).trans hA) hAl hi))
    have HO := Zd.mk hrow
    clear hrow
    go_wp2_with (go_at_call 74; refine HE.out.mono ?_; rintro e w6 ⟨g, rfl, hg, hG, hB⟩; have HG := Zd.mk hG; have HB := Zd.mk hB; have HGS := Zd.mk hg; clear hG hB hg)
    go_ret
    exact ⟨g, rfl, Nat.le_trans HST3.out.bl.size HGS.out, by rw [HO.out]; exact HG.out, HST3.out.bl.trans (HB.out.mono HST3.out.bl.size)⟩
   ·-- op 4
    have hkk := hpart.2.1
    have hmm := hpart.2.2.2
    rw [hop] at hkk hmm x0
    have hrow : rowS ls b s = settleS (fun i _ => ((rowL ls b s.f2).getD 0 []).getD i false && ((rowL ls b s.f2).getD 1 []).getD i false) n b false := by
     rw [row_eq, hop]
     unfold rowOp
     rw [if_neg (by decide), if_neg (by decide), if_pos rfl]
     rw [hn]
    obtain ⟨⟨ga, rfl, hga, hA, hAl⟩, hxe⟩ := HXX.out (by have h9 : kidsS 4 = 2 := (by decide); omega)
    rw [← hxe] at hrow
    obtain ⟨⟨gb, rfl, hgb, hBB, hBl⟩, hye⟩ := HYY.out (by have h9 : kidsS 4 = 2 := (by decide); omega)
    rw [← hye] at hrow
    have HE := Zd.mk (each_calls 77 #[.pointer (some ⟨(w.heap.size + 1 + 1), 0, none⟩), .pointer (some ⟨(w.heap.size + 1 + 1 + 1), 0, none⟩)] (enters_f Try.func77 (by kernel_rfl) rfl) (fun i => x.getD i false && y.getD i false) rb A n c b wc hRw h0 h1 hb (fun W hW i hi => row3_calls (w.heap.size + 1 + 1) (w.heap.size + 1 + 1 + 1) ga gb n i x y W ((hW.block _ (blk_lt HST3.out.c2)).trans HST3.out.c2) ((hW.block _ (blk_lt hA)).trans hA) hAl ((hW.block _ (blk_lt HST3.out.c3)).trans HST3.out.c3) ((hW.block _ (blk_lt hBB)).trans hBB) hBl hi))
    have HO := Zd.mk hrow
    clear hrow
    go_wp2_with (go_at_call 74; refine HE.out.mono ?_; rintro e w6 ⟨g, rfl, hg, hG, hB⟩; have HG := Zd.mk hG; have HB := Zd.mk hB; have HGS := Zd.mk hg; clear hG hB hg)
    go_ret
    exact ⟨g, rfl, Nat.le_trans HST3.out.bl.size HGS.out, by rw [HO.out]; exact HG.out, HST3.out.bl.trans (HB.out.mono HST3.out.bl.size)⟩
   ·-- op 5
    have hkk := hpart.2.1
    have hmm := hpart.2.2.2
    rw [hop] at hkk hmm x0
    have hrow : rowS ls b s = settleS (fun i _ => ((rowL ls b s.f2).getD 0 []).getD i false || ((rowL ls b s.f2).getD 1 []).getD i false) n b false := by
     rw [row_eq, hop]
     unfold rowOp
     rw [if_neg (by decide), if_neg (by decide), if_neg (by decide), if_pos rfl]
     rw [hn]
    obtain ⟨⟨ga, rfl, hga, hA, hAl⟩, hxe⟩ := HXX.out (by have h9 : kidsS 5 = 2 := (by decide); omega)
    rw [← hxe] at hrow
    obtain ⟨⟨gb, rfl, hgb, hBB, hBl⟩, hye⟩ := HYY.out (by have h9 : kidsS 5 = 2 := (by decide); omega)
    rw [← hye] at hrow
    have HE := Zd.mk (each_calls 78 #[.pointer (some ⟨(w.heap.size + 1 + 1), 0, none⟩), .pointer (some ⟨(w.heap.size + 1 + 1 + 1), 0, none⟩)] (enters_f Try.func78 (by kernel_rfl) rfl) (fun i => x.getD i false || y.getD i false) rb A n c b wc hRw h0 h1 hb (fun W hW i hi => row4_calls (w.heap.size + 1 + 1) (w.heap.size + 1 + 1 + 1) ga gb n i x y W ((hW.block _ (blk_lt HST3.out.c2)).trans HST3.out.c2) ((hW.block _ (blk_lt hA)).trans hA) hAl ((hW.block _ (blk_lt HST3.out.c3)).trans HST3.out.c3) ((hW.block _ (blk_lt hBB)).trans hBB) hBl hi))
    have HO := Zd.mk hrow
    clear hrow
    go_wp2_with (go_at_call 74; refine HE.out.mono ?_; rintro e w6 ⟨g, rfl, hg, hG, hB⟩; have HG := Zd.mk hG; have HB := Zd.mk hB; have HGS := Zd.mk hg; clear hG hB hg)
    go_ret
    exact ⟨g, rfl, Nat.le_trans HST3.out.bl.size HGS.out, by rw [HO.out]; exact HG.out, HST3.out.bl.trans (HB.out.mono HST3.out.bl.size)⟩
   ·-- op 6
    have hkk := hpart.2.1
    have hmm := hpart.2.2.2
    rw [hop] at hkk hmm x0
    have hrow : rowS ls b s = settleS (fun i _ => ((rowL ls b s.f2).getD 0 []).getD (nextS n b i) false) n b false := by
     rw [row_eq, hop]
     unfold rowOp
     rw [if_neg (by decide), if_neg (by decide), if_neg (by decide), if_neg (by decide), if_pos rfl]
     rw [hn]
    obtain ⟨⟨ga, rfl, hga, hA, hAl⟩, hxe⟩ := HXX.out (by have h9 : kidsS 6 = 1 := (by decide); omega)
    rw [← hxe] at hrow
    have HE := Zd.mk (each_calls 79 #[.pointer (some ⟨(w.heap.size + 1 + 1), 0, none⟩), .pointer (some ⟨w.heap.size, 0, none⟩)] (enters_f Try.func79 (by kernel_rfl) rfl) (fun i => x.getD (nextS n b i) false) rb A n c b wc hRw h0 h1 hb (fun W hW i hi => row5_calls (w.heap.size + 1 + 1) w.heap.size ga rb n c b i A x W ((hW.block _ (blk_lt HST3.out.c2)).trans HST3.out.c2) ((hW.block _ (blk_lt hA)).trans hA) hAl ((hW.block _ (blk_lt HST3.out.c0)).trans HST3.out.c0) ((hW.block _ (blk_lt hRw)).trans hRw) hb hi h1))
    have HO := Zd.mk hrow
    clear hrow
    go_wp2_with (go_at_call 74; refine HE.out.mono ?_; rintro e w6 ⟨g, rfl, hg, hG, hB⟩; have HG := Zd.mk hG; have HB := Zd.mk hB; have HGS := Zd.mk hg; clear hG hB hg)
    go_ret
    exact ⟨g, rfl, Nat.le_trans HST3.out.bl.size HGS.out, by rw [HO.out]; exact HG.out, HST3.out.bl.trans (HB.out.mono HST3.out.bl.size)⟩
   ·-- op 7
    have hkk := hpart.2.1
    have hmm := hpart.2.2.2
    rw [hop] at hkk hmm x0
    have hrow : rowS ls b s = settleS (fun i nx => ((rowL ls b s.f2).getD 1 []).getD i false || ((rowL ls b s.f2).getD 0 []).getD i false && nx) n b false := by
     rw [row_eq, hop]
     unfold rowOp
     rw [if_neg (by decide), if_neg (by decide), if_neg (by decide), if_neg (by decide), if_neg (by decide), if_pos rfl]
     rw [hn]
    obtain ⟨⟨ga, rfl, hga, hA, hAl⟩, hxe⟩ := HXX.out (by have h9 : kidsS 7 = 2 := (by decide); omega)
    rw [← hxe] at hrow
    obtain ⟨⟨gb, rfl, hgb, hBB, hBl⟩, hye⟩ := HYY.out (by have h9 : kidsS 7 = 2 := (by decide); omega)
    rw [← hye] at hrow
    have HE := Zd.mk (settle_calls 82 #[.pointer (some ⟨(w.heap.size + 1 + 1 + 1), 0, none⟩), .pointer (some ⟨(w.heap.size + 1 + 1), 0, none⟩)] (enters_f Try.func82 (by kernel_rfl) rfl) (fun i nx => y.getD i false || x.getD i false && nx) rb A n c b false wc hRw h0 h1 hb (fun W hW i nx hi => row6_calls (w.heap.size + 1 + 1) (w.heap.size + 1 + 1 + 1) ga gb n i nx x y W ((hW.block _ (blk_lt HST3.out.c2)).trans HST3.out.c2) ((hW.block _ (blk_lt hA)).trans hA) hAl ((hW.block _ (blk_lt HST3.out.c3)).trans HST3.out.c3) ((hW.block _ (blk_lt hBB)).trans hBB) hBl hi))
    have HO := Zd.mk hrow
    clear hrow
    go_wp2_with (go_at_call 81; refine HE.out.mono ?_; rintro e w6 ⟨g, rfl, hg, hG, hB⟩; have HG := Zd.mk hG; have HB := Zd.mk hB; have HGS := Zd.mk hg; clear hG hB hg)
    go_ret
    exact ⟨g, rfl, Nat.le_trans HST3.out.bl.size HGS.out, by rw [HO.out]; exact HG.out, HST3.out.bl.trans (HB.out.mono HST3.out.bl.size)⟩
   ·-- op 8
    have hkk := hpart.2.1
    have hmm := hpart.2.2.2
    rw [hop] at hkk hmm x0
    have hrow : rowS ls b s = settleS (fun i nx => ((rowL ls b s.f2).getD 1 []).getD i false && (((rowL ls b s.f2).getD 0 []).getD i false || nx)) n b true := by
     rw [row_eq, hop]
     unfold rowOp
     rw [if_neg (by decide), if_neg (by decide), if_neg (by decide), if_neg (by decide), if_neg (by decide), if_neg (by decide), if_pos rfl]
     rw [hn]
    obtain ⟨⟨ga, rfl, hga, hA, hAl⟩, hxe⟩ := HXX.out (by have h9 : kidsS 8 = 2 := (by decide); omega)
    rw [← hxe] at hrow
    obtain ⟨⟨gb, rfl, hgb, hBB, hBl⟩, hye⟩ := HYY.out (by have h9 : kidsS 8 = 2 := (by decide); omega)
    rw [← hye] at hrow
    have HE := Zd.mk (settle_calls 83 #[.pointer (some ⟨(w.heap.size + 1 + 1 + 1), 0, none⟩), .pointer (some ⟨(w.heap.size + 1 + 1), 0, none⟩)] (enters_f Try.func83 (by kernel_rfl) rfl) (fun i nx => y.getD i false && (x.getD i false || nx)) rb A n c b true wc hRw h0 h1 hb (fun W hW i nx hi => row7_calls (w.heap.size + 1 + 1) (w.heap.size + 1 + 1 + 1) ga gb n i nx x y W ((hW.block _ (blk_lt HST3.out.c2)).trans HST3.out.c2) ((hW.block _ (blk_lt hA)).trans hA) hAl ((hW.block _ (blk_lt HST3.out.c3)).trans HST3.out.c3) ((hW.block _ (blk_lt hBB)).trans hBB) hBl hi))
    have HO := Zd.mk hrow
    clear hrow
    go_wp2_with (go_at_call 81; refine HE.out.mono ?_; rintro e w6 ⟨g, rfl, hg, hG, hB⟩; have HG := Zd.mk hG; have HB := Zd.mk hB; have HGS := Zd.mk hg; clear hG hB hg)
    go_ret
    exact ⟨g, rfl, Nat.le_trans HST3.out.bl.size HGS.out, by rw [HO.out]; exact HG.out, HST3.out.bl.trans (HB.out.mono HST3.out.bl.size)⟩
end Go.Proofs.Ytapejnikpmfddaa.X
namespace Go.Proofs.Ytapejnikpmfddaa.X
open Go.RowKit Go.Proofs.YtapejnikpmfddaaW.PrintWords Go.Proofs.YtapejnikpmfddaaW.PrintLast Go.Proofs.YtapejnikpmfddaaW.PrintMore
open Go.Proofs.Ytapejnikpmfddaa.P
set_option linter.unusedSimpArgs false
set_option linter.unusedVariables false
theorem infoU32 : (Try.prog.info? 48).map (fun i => (i.zero, i.size, i.bytes)) = some (some (.int .u32 0), 1, 4) := by kernel_rfl
set_option maxHeartbeats 1600000 in
theorem Grow_nil (m : Int) (w : World) (h0 : 0 < m) (h1 : m < 1000000000) :
  Calls Try.prog 73 #[.slice none 0 0, .int .i64 m] w fun e w' => ∃ v, e = .returned v ∧ Kd.R (Kd.int .u32) 48 w' w.heap.size (fun _ => True) v [] ∧ Below w.heap.size w w' := by
 have hus := Try.underlying22
 have hui := Try.underlying3
 have hnn : ¬ m < 0 := by omega
 go_enter Try.func73, Try.ntmps73
 go_wp2_with ((with_reducible refine gate_builtin (b := .append) (xs := #[.tmp 20, .tmp 21]) rfl ?_); at_builtin; refine Kd.R_append_zeros (Kd.int .u32) (w0 := w) w.heap.size rfl (.tmp 20) (.tmp 21) 22 3 48 (.int .u32 0) 4 rfl hus hui infoU32 rfl (by decide) (by decide) (.slice none 0 0) [] 0 (kx := .i64) m (fun _ => True) rfl rfl rfl (fun _ _ => trivial) (Kd.R_nil _ _ _ _ _) (by omega) (Below.refl _ _) (Nat.le_refl _) (by simp; omega) ?_; intro v1 w1 hR hB hg hat; obtain ⟨A1, c1, hv1⟩ := Kd.R_slice hR; subst hv1; have HR := Zd.mk hR; have HB := Zd.mk hB; clear hR hB hg hat)
 go_ret
 exact ⟨_, rfl, by have := Kd.R_take (m := 0) HR.out (by simp); simpa using this, HB.out⟩
set_option maxHeartbeats 4000000 in
set_option maxRecDepth 100000 in
theorem Concat_calls (gb : Nat) (A1 A2 : Option Addr) (c1 c2 : Nat) (l1 l2 : List Int) (w : World) (hb : w.heap[gb]? = some (.cells #[.slice A1 l1.length c1, .slice A2 l2.length c2] 22 (0, 0))) (hr1 : Kd.C (Kd.int .u32) w A1 l1.length l1) (hr2 : Kd.C (Kd.int .u32) w A2 l2.length l2) (h0 : 0 < l1.length + l2.length) (h1 : l1.length + l2.length < 1000000000) :
  Calls Try.prog 54 #[.slice (some ⟨gb, 0, none⟩) 2 2] w fun e w' => ∃ v, e = .returned v ∧ Kd.R (Kd.int .u32) 48 w' w.heap.size (fun _ => True) v (l1 ++ l2) ∧ Below w.heap.size w w' := by
 have hus := Try.underlying22
 have huss := Try.underlying111
 have hui := Try.underlying3
 have hgb : gb < w.heap.size := blk_lt hb
 have x0 : w.cell? ⟨gb, 0, none⟩ = some (.slice A1 l1.length c1) := (bq_ hb 0).trans rfl
 have x1 : w.cell? ⟨gb, 1, none⟩ = some (.slice A2 l2.length c2) := (bq_ hb 1).trans rfl
 have R1 := Zd.mk hr1
 have R2 := Zd.mk hr2
 have X0 := Zd.mk x0
 have X1 := Zd.mk x1
 clear hb hr1 hr2 x0 x1
 go_enter Try.func54, Try.ntmps54
 go_wp2
 go_loopg [3, 11] 2 (fun kq v3 v11 w' => (kq = 2 ∧ v3 = .int .i64 0 ∧ v11 = .int .i64 0 ∧ w' = w) ∨ (kq = 1 ∧ v3 = .int .i64 (l1.length : Int) ∧ v11 = .int .i64 1 ∧ w' = w) ∨ (kq = 0 ∧ v3 = .int .i64 ((l1.length : Int) + (l2.length : Int)) ∧ v11 = .int .i64 2 ∧ w' = w))
 case atStart => exact .inl ⟨rfl, rfl, rfl, rfl⟩
 case round =>
  rcases hrel with ⟨rfl, rfl, rfl, rfl⟩ | ⟨rfl, rfl, rfl, rfl⟩ | ⟨rfl, rfl, rfl, rfl⟩
  ·have y0 := X0.out
   have hn : ¬ ((l1.length : Int) < 0) := by omega
   go_wp2
   go_roundg 1
   case measure => omega
   case rel => exact .inr (.inl ⟨rfl, by first | rfl | (simp; done), rfl, rfl⟩)
  ·have y1 := X1.out
   have hn : ¬ ((l1.length : Int) + (l2.length : Int) < 0) := by omega
   go_wp2
   go_roundg 0
   case measure => omega
   case rel => exact .inr (.inr ⟨rfl, by first | rfl | (simp; done), rfl, rfl⟩)
  ·obtain ⟨WW, rfl⟩ : ∃ W : World, W = wr := ⟨_, rfl⟩
   go_wp2_with (go_at_call 73; refine (Grow_nil _ _ (by omega) (by omega)).mono ?_; rintro e w1 ⟨v, rfl, hR, hB⟩; have HR := Zd.mk hR; have HB := Zd.mk hB; clear hR hB)
   go_loopg [6, 27] 2 (fun kq v6 v27 w' => Zd (Below WW.heap.size WW w') ∧ ((kq = 2 ∧ v27 = .int .i64 0 ∧ Zd (Kd.R (Kd.int .u32) 48 w' WW.heap.size (fun _ => True) v6 [])) ∨ (kq = 1 ∧ v27 = .int .i64 1 ∧ Zd (Kd.R (Kd.int .u32) 48 w' WW.heap.size (fun _ => True) v6 l1)) ∨ (kq = 0 ∧ v27 = .int .i64 2 ∧ Zd (Kd.R (Kd.int .u32) 48 w' WW.heap.size (fun _ => True) v6 (l1 ++ l2)))))
   case atStart => exact ⟨HB, .inl ⟨rfl, rfl, HR⟩⟩
   case round =>
    obtain ⟨HBV, hrel⟩ := hrel
    rcases hrel with ⟨rfl, rfl, HV⟩ | ⟨rfl, rfl, HV⟩ | ⟨rfl, rfl, HV⟩
    ·have y0 := (HBV.out.cell (World.block_lt_of_cell? _ _ X0.out)).trans X0.out
     go_wp2_with (first | ((with_reducible refine gate_builtin (b := .append) (xs := #[.tmp 31, .tmp 32]) rfl ?_); at_builtin; refine Kd.R_append_row (Value.int .u32) (0 : Int) (h1 := fun _ => rfl) (w0 := WW) WW.heap.size rfl (.tmp 31) (.tmp 32) 22 48 (.int .u32 0) 4 rfl hus infoU32 rfl (by decide) u6 [] l1 A1 l1.length c1 (fun _ => True) rfl rfl (fun _ _ => trivial) HV.out (Kd.C_below R1.out HBV.out) HBV.out HBV.out.size (by first | omega | (simp; omega)) ?_; intro v1 w2 hR hB hg hat; have HV2 := Zd.mk hR; have HBV2 := Zd.mk hB; clear hR hB hg hat))
     go_roundg 1
     case measure => omega
     case rel => exact ⟨HBV2, .inr (.inl ⟨rfl, rfl, HV2⟩)⟩
    ·have y1 := (HBV.out.cell (World.block_lt_of_cell? _ _ X1.out)).trans X1.out
     go_wp2_with (first | ((with_reducible refine gate_builtin (b := .append) (xs := #[.tmp 31, .tmp 32]) rfl ?_); at_builtin; refine Kd.R_append_row (Value.int .u32) (0 : Int) (h1 := fun _ => rfl) (w0 := WW) WW.heap.size rfl (.tmp 31) (.tmp 32) 22 48 (.int .u32 0) 4 rfl hus infoU32 rfl (by decide) u6 l1 l2 A2 l2.length c2 (fun _ => True) rfl rfl (fun _ _ => trivial) HV.out (Kd.C_below R2.out HBV.out) HBV.out HBV.out.size (by first | omega | (simp; omega)) ?_; intro v1 w2 hR hB hg hat; have HV2 := Zd.mk hR; have HBV2 := Zd.mk hB; clear hR hB hg hat))
     go_roundg 0
     case measure => omega
     case rel => exact ⟨HBV2, .inr (.inr ⟨rfl, rfl, HV2⟩)⟩
    ·go_wp2
     go_ret
     exact ⟨_, rfl, HV.out, HBV.out⟩
end Go.Proofs.Ytapejnikpmfddaa.X
namespace Go.Proofs.Ytapejnikpmfddaa.P
open Go.RowKit Go.Proofs.YtapejnikpmfddaaW.PrintWords Go.Proofs.YtapejnikpmfddaaW.PrintLast Go.Proofs.YtapejnikpmfddaaW.PrintMore
attribute [local go_sem] max2_int min2_int max_two min_two max_three min_three max_four min_four
set_option linter.unusedVariables false
set_option linter.unusedSimpArgs false

def slices_Index_int_int.l0 : Nat → List Int → Int → Int → Int → Option (Int)
 | 0, _, _, _, _ => none
 | k + 1, x0, x1, x7, x8 => if x8 < x7 then (if 0 ≤ x8 then (if x8 < (x0.length : Int) then (if x1 = (rd x0 x8) then (some x8) else (slices_Index_int_int.l0 k x0 x1 x7 (wrap64 (x8 + 1)))) else (none)) else (none)) else (some (-1))
def slices_Index_int_int.f (k : Nat) (l0 : List Int) (a1 : Int) : Option (Int) := slices_Index_int_int.l0 k l0 a1 (l0.length : Int) 0
set_option maxHeartbeats 8000000 in
set_option maxRecDepth 100000 in
theorem slices_Index_int_int.calls (k : Nat) (A0 : Option Addr) (c0 : Nat) (l0 : List Int) (a1 : Int) (r : Int) (w : World) (hr0 : Kd.C (Kd.int .i64) w A0 l0.length l0) (hc0 : l0.length ≤ c0) (h : slices_Index_int_int.f k l0 a1 = some r) :
  Calls Try.prog 53 #[.slice A0 l0.length c0, .int .i64 a1] w fun e w' => e = .returned (.int .i64 r) ∧ Drawn0 w w' := by
 have HR0 := Zd.mk hr0
 have HC0 := Zd.mk hc0
 clear hr0 hc0
 have H : (slices_Index_int_int.l0 k l0 a1 (l0.length : Int) 0) = some r := h
 clear h
 have H' := Zd.mk H
 clear H
 go_enter Try.func53, Try.ntmps53
 go_wp2
 go_loopg [8] k (fun kq v8 w' => ∃ (x8_1 : Int), v8 = .int .i64 x8_1 ∧ Zd (slices_Index_int_int.l0 kq l0 a1 (l0.length : Int) x8_1 = some r) ∧ Zd (kq ≤ k) ∧ Drawn0 w w')
 case atStart => exact ⟨(0), (by first | rfl | (simp; done) | (simp [*]; done)), H', ⟨Nat.le_refl _⟩, by repeat (first | exact Drawn0.refl _ | apply Drawn0.step)⟩
 case round =>
  clear H'
  try clear p2
  obtain ⟨x8_1, rfl, HA, HK1, ⟨m1, rfl⟩⟩ := hrel
  cases gk with
  | zero => exact absurd HA.out (by simp [slices_Index_int_int.l0])
  | succ k1 =>
   have H := HA.out
   clear HA
   simp only [slices_Index_int_int.l0] at H
   by_cases c3 : x8_1 < (l0.length : Int)
   ·rw [if_pos c3] at H
    have c3b0 : decide (x8_1 < (l0.length : Int)) = true := decide_eq_true c3
    clear c3
    by_cases c4 : 0 ≤ x8_1
    ·rw [if_pos c4] at H
     have c4b0 : decide (0 ≤ x8_1) = true := decide_eq_true c4
     clear c4
     by_cases c5 : x8_1 < (l0.length : Int)
     ·rw [if_pos c5] at H
      have c5b0 : decide (x8_1 < (l0.length : Int)) = true := decide_eq_true c5
      clear c5
      by_cases c6 : a1 = (rd l0 x8_1)
      ·rw [if_pos c6] at H
       have c6b0 : (a1 == (rd l0 x8_1)) = true := beq_iff_eq.mpr c6
       have c6b1 : (a1 != (rd l0 x8_1)) = false := bne_eq_false_iff_eq.mpr c6
       clear c6
       obtain rfl := Option.some.inj H
       have p210 : 0 ≤ (x8_1 : Int) := of_decide_eq_true (by first | (with_reducible assumption) | assumption)
       have q210 : x8_1 < (l0.length : Int) := of_decide_eq_true (by first | (with_reducible assumption) | assumption)
       obtain ⟨ad210, e210, hx210_0⟩ := Kd.at_int HR0.out x8_1 p210 q210
       cases e210
       replace p210 := eq_true p210
       replace q210 := eq_true q210
       go_wp2
       go_ret
       exact ⟨by first | rfl | (simp; done) | (simp [*]; done), by repeat (first | exact Drawn0.refl _ | apply Drawn0.step)⟩
      ·rw [if_neg c6] at H
       have c6b0 : (a1 == (rd l0 x8_1)) = false := beq_eq_false_iff_ne.mpr c6
       have c6b1 : (a1 != (rd l0 x8_1)) = true := bne_iff_ne.mpr c6
       have H' := Zd.mk H
       clear H
       have p210 : 0 ≤ (x8_1 : Int) := of_decide_eq_true (by first | (with_reducible assumption) | assumption)
       have q210 : x8_1 < (l0.length : Int) := of_decide_eq_true (by first | (with_reducible assumption) | assumption)
       obtain ⟨ad210, e210, hx210_0⟩ := Kd.at_int HR0.out x8_1 p210 q210
       cases e210
       replace p210 := eq_true p210
       replace q210 := eq_true q210
       go_wp2
       go_roundg k1
       case measure => have := HK1.out; omega
       case rel => exact ⟨(wrap64 (x8_1 + 1)), (by first | rfl | (simp; done) | (simp [*]; done)), H', ⟨by have := HK1.out; omega⟩, by repeat (first | exact Drawn0.refl _ | apply Drawn0.step)⟩
     ·rw [if_neg c5] at H
      exact absurd H (by simp)
    ·rw [if_neg c4] at H
     exact absurd H (by simp)
   ·rw [if_neg c3] at H
    have c3b0 : decide (x8_1 < (l0.length : Int)) = false := decide_eq_false c3
    clear c3
    obtain rfl := Option.some.inj H
    go_wp2
    go_ret
    exact ⟨by first | rfl | (simp; done) | (simp [*]; done), by repeat (first | exact Drawn0.refl _ | apply Drawn0.step)⟩

def slices_Contains_int_int.f (k : Nat) (l0 : List Int) (a1 : Int) : Option (Bool) := (slices_Index_int_int.f k l0 a1).bind fun t211 => (some (decide (t211 ≥ 0)))
set_option maxHeartbeats 8000000 in
set_option maxRecDepth 100000 in
theorem slices_Contains_int_int.calls (k : Nat) (A0 : Option Addr) (c0 : Nat) (l0 : List Int) (a1 : Int) (r : Bool) (w : World) (hr0 : Kd.C (Kd.int .i64) w A0 l0.length l0) (hc0 : l0.length ≤ c0) (h : slices_Contains_int_int.f k l0 a1 = some r) :
  Calls Try.prog 28 #[.slice A0 l0.length c0, .int .i64 a1] w fun e w' => e = .returned (.bool r) ∧ Drawn0 w w' := by
 have HR0 := Zd.mk hr0
 have HC0 := Zd.mk hc0
 clear hr0 hc0
 have H : ((slices_Index_int_int.f k l0 a1).bind fun t211 => (some (decide (t211 ≥ 0)))) = some r := h
 clear h
 replace H := Option.bind_eq_some_iff.mp H
 obtain ⟨t211, A30, H⟩ := H
 replace H : (some (decide (t211 ≥ 0))) = some r := H
 have A3 := Zd.mk A30
 clear A30
 obtain rfl := Option.some.inj H
 go_enter Try.func28, Try.ntmps28
 go_wp2_with (first | ((with_reducible refine gate_callee (f := 53) rfl ?_); refine goesL_ (some 7) rfl rfl Try.func53 (by kernel_rfl) rfl #[.slice A0 l0.length c0, .int .i64 a1] rfl (by (try simp only [List.map_toArray, List.map_cons, List.map_nil]); first | done | rfl | (simp only [List.length_drop, List.length_take]; rfl)) ?_; (with_reducible refine (slices_Index_int_int.calls k _ _ l0 a1 t211 _ ?side1 ?side2 A3.out).mono ?_); (case side1 => repeat (first | exact HR0.out | (with_reducible refine Kd.C_alloc ?_ _) | (with_reducible refine Kd.C_drewN ?_ _) | (with_reducible refine Kd.C_drew ?_))); (case side2 => exact HC0.out); rintro e w' ⟨rfl, ⟨nd, rfl⟩⟩; refine ⟨_, rfl, ?_⟩))
 go_ret
 exact ⟨by first | rfl | (simp; done) | (simp [*]; done), by repeat (first | exact Drawn0.refl _ | apply Drawn0.step)⟩

def formula_MayWord.f (l0_0 : List Int) (l0_1 : List Int) : Option (Bool) := if (l0_0.length : Int) ≤ 3000 then (if (l0_1.length : Int) ≥ 1 then (some (decide ((l0_1.length : Int) ≤ 27000))) else (some false)) else (some false)
set_option maxHeartbeats 8000000 in
set_option maxRecDepth 100000 in
theorem formula_MayWord.calls (A0_0 : Option Addr) (c0_0 : Nat) (l0_0 : List Int) (A0_1 : Option Addr) (c0_1 : Nat) (l0_1 : List Int) (r : Bool) (w : World) (hr0_0 : Kd.C (Kd.int .u32) w A0_0 l0_0.length l0_0) (hc0_0 : l0_0.length ≤ c0_0) (hr0_1 : Kd.C (Kd.int .u32) w A0_1 l0_1.length l0_1) (hc0_1 : l0_1.length ≤ c0_1) (h : formula_MayWord.f l0_0 l0_1 = some r) :
  Calls Try.prog 30 #[.agg #[.slice A0_0 l0_0.length c0_0, .slice A0_1 l0_1.length c0_1]] w fun e w' => e = .returned (.bool r) ∧ Below w.heap.size w w' := by
 have hu40 := Try.underlying40
 have HR0_0 := Zd.mk hr0_0
 have HC0_0 := Zd.mk hc0_0
 clear hr0_0 hc0_0
 have HR0_1 := Zd.mk hr0_1
 have HC0_1 := Zd.mk hc0_1
 clear hr0_1 hc0_1
 have HB := Zd.mk (Below.refl w.heap.size w)
 have H : (if (l0_0.length : Int) ≤ 3000 then (if (l0_1.length : Int) ≥ 1 then (some (decide ((l0_1.length : Int) ≤ 27000))) else (some false)) else (some false)) = some r := h
 clear h
 by_cases c2 : (l0_0.length : Int) ≤ 3000
 ·rw [if_pos c2] at H
  have c2b0 : decide ((l0_0.length : Int) ≤ 3000) = true := decide_eq_true c2
  have c2b1 : decide (l0_0.length ≤ 3000) = true := decide_eq_true (by omega)
  clear c2
  by_cases c3 : (l0_1.length : Int) ≥ 1
  ·rw [if_pos c3] at H
   have c3b0 : decide (1 ≤ (l0_1.length : Int)) = true := decide_eq_true c3
   have c3b1 : decide (1 ≤ l0_1.length) = true := decide_eq_true (by omega)
   clear c3
   obtain rfl := Option.some.inj H
   go_enter Try.func30, Try.ntmps30
   go_wp2_with (first | ((with_reducible refine gate_dst (N := 1) rfl ?_); (try (refine gate_guard (by rfl) ?_; dsimp only)); refine box_event ?hg (N := 1) ?hd (cs := #[.slice A0_0 l0_0.length c0_0, .slice A0_1 l0_1.length c0_1]) (t := 40) ?hr ?_; (case hd => rfl); (case hg => rfl); (case hr => first | (go_simp; done) | (go_simp; rfl)); intro gb212 hg w4 hbox hb; have n0_ := Zd.mk (bt_ B_ hb); have n1_ := Zd.mk (hbox); have n2_ := Zd.mk ((by rw [hg]; exact (bs_ B_) : w.heap.size ≤ gb212)); have n3_ := Zd.mk ((by rw [hg]; exact (bs_ B_) : w.heap.size ≤ gb212)); clear HB; have HB := n0_; have BK212 := n1_; have GW212 := n2_; have GE212 := n3_; clear n0_ n1_ n2_ n3_; clear hb hbox hg; have hcz5_0 : w4.cell? ⟨gb212, 0, none⟩ = some (.slice A0_0 l0_0.length c0_0) := (bq_ BK212.out 0).trans rfl; have hcz5_1 : w4.cell? ⟨gb212, 1, none⟩ = some (.slice A0_1 l0_1.length c0_1) := (bq_ BK212.out 1).trans rfl; have hfz5_0 := bz_ BK212.out 0; have hfz5_1 := bz_ BK212.out 1))
   go_ret
   exact ⟨by first | rfl | (simp [errW_none, errW_some] <;> rfl) | (simp [*, errW_none, errW_some] <;> rfl), B_⟩
  ·rw [if_neg c3] at H
   have c3b0 : decide (1 ≤ (l0_1.length : Int)) = false := decide_eq_false c3
   have c3b1 : decide (1 ≤ l0_1.length) = false := decide_eq_false (by omega)
   clear c3
   obtain rfl := Option.some.inj H
   go_enter Try.func30, Try.ntmps30
   go_wp2_with (first | ((with_reducible refine gate_dst (N := 1) rfl ?_); (try (refine gate_guard (by rfl) ?_; dsimp only)); refine box_event ?hg (N := 1) ?hd (cs := #[.slice A0_0 l0_0.length c0_0, .slice A0_1 l0_1.length c0_1]) (t := 40) ?hr ?_; (case hd => rfl); (case hg => rfl); (case hr => first | (go_simp; done) | (go_simp; rfl)); intro gb212 hg w6 hbox hb; have n0_ := Zd.mk (bt_ B_ hb); have n1_ := Zd.mk (hbox); have n2_ := Zd.mk ((by rw [hg]; exact (bs_ B_) : w.heap.size ≤ gb212)); have n3_ := Zd.mk ((by rw [hg]; exact (bs_ B_) : w.heap.size ≤ gb212)); clear HB; have HB := n0_; have BK212 := n1_; have GW212 := n2_; have GE212 := n3_; clear n0_ n1_ n2_ n3_; clear hb hbox hg; have hcz7_0 : w6.cell? ⟨gb212, 0, none⟩ = some (.slice A0_0 l0_0.length c0_0) := (bq_ BK212.out 0).trans rfl; have hcz7_1 : w6.cell? ⟨gb212, 1, none⟩ = some (.slice A0_1 l0_1.length c0_1) := (bq_ BK212.out 1).trans rfl; have hfz7_0 := bz_ BK212.out 0; have hfz7_1 := bz_ BK212.out 1))
   go_ret
   exact ⟨by first | rfl | (simp [errW_none, errW_some] <;> rfl) | (simp [*, errW_none, errW_some] <;> rfl), B_⟩
 ·rw [if_neg c2] at H
  have c2b0 : decide ((l0_0.length : Int) ≤ 3000) = false := decide_eq_false c2
  have c2b1 : decide (l0_0.length ≤ 3000) = false := decide_eq_false (by omega)
  clear c2
  obtain rfl := Option.some.inj H
  go_enter Try.func30, Try.ntmps30
  go_wp2_with (first | ((with_reducible refine gate_dst (N := 1) rfl ?_); (try (refine gate_guard (by rfl) ?_; dsimp only)); refine box_event ?hg (N := 1) ?hd (cs := #[.slice A0_0 l0_0.length c0_0, .slice A0_1 l0_1.length c0_1]) (t := 40) ?hr ?_; (case hd => rfl); (case hg => rfl); (case hr => first | (go_simp; done) | (go_simp; rfl)); intro gb212 hg w8 hbox hb; have n0_ := Zd.mk (bt_ B_ hb); have n1_ := Zd.mk (hbox); have n2_ := Zd.mk ((by rw [hg]; exact (bs_ B_) : w.heap.size ≤ gb212)); have n3_ := Zd.mk ((by rw [hg]; exact (bs_ B_) : w.heap.size ≤ gb212)); clear HB; have HB := n0_; have BK212 := n1_; have GW212 := n2_; have GE212 := n3_; clear n0_ n1_ n2_ n3_; clear hb hbox hg; have hcz9_0 : w8.cell? ⟨gb212, 0, none⟩ = some (.slice A0_0 l0_0.length c0_0) := (bq_ BK212.out 0).trans rfl; have hcz9_1 : w8.cell? ⟨gb212, 1, none⟩ = some (.slice A0_1 l0_1.length c0_1) := (bq_ BK212.out 1).trans rfl; have hfz9_0 := bz_ BK212.out 0; have hfz9_1 := bz_ BK212.out 1))
  go_ret
  exact ⟨by first | rfl | (simp [errW_none, errW_some] <;> rfl) | (simp [*, errW_none, errW_some] <;> rfl), B_⟩

end Go.Proofs.Ytapejnikpmfddaa.P
