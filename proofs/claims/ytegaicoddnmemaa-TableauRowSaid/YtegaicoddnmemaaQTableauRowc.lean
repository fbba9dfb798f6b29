/- A part of the claim TableauRow. -/
import Derived.Outline
import Derived.Deep.AppendLies
import Derived.Test.YtegaicoddnmemaaQTableauRowa
import Derived.Test.YtegaicoddnmemaaQTableauRowb
namespace Go.Proofs.Ytegaicoddnmemaa.X
open Go.RowKit Go.Proofs.YtegaicoddnmemaaW.PrintWords Go.Proofs.YtegaicoddnmemaaW.PrintLast Go.Proofs.YtegaicoddnmemaaW.PrintMore
open Go.Proofs.Ytegaicoddnmemaa.P Go.Proofs.Ytegaicoddnmemaa.Evx
set_option linter.unusedSimpArgs false
set_option linter.unusedVariables false
/-- A node's row out of its kids' rows. -/
def rowOp (ls : List Int) (b : Nat) (op m : Int) (x y : List Bool) : List Bool :=
  if op = 2 then settleS (fun i _ => bitS (ls.getD i 0) m) ls.length b false
  else if op = 3 then settleS (fun i _ => !(x.getD i false)) ls.length b false
  else if op = 4 then settleS (fun i _ => x.getD i false && y.getD i false) ls.length b false
  else if op = 5 then settleS (fun i _ => x.getD i false || y.getD i false) ls.length b false
  else if op = 6 then settleS (fun i _ => x.getD (nextS ls.length b i) false) ls.length b false
  else if op = 7 then settleS (fun i nx => y.getD i false || x.getD i false && nx) ls.length b false
  else if op = 8 then settleS (fun i nx => y.getD i false && (x.getD i false || nx)) ls.length b true
  else settleS (fun _ _ => true) ls.length b false
mutual
def rowS (ls : List Int) (b : Nat) : S24 → List Bool
  | ⟨op, m, kids⟩ => rowOp ls b op m ((rowL ls b kids).getD 0 []) ((rowL ls b kids).getD 1 [])
def rowL (ls : List Int) (b : Nat) : List S24 → List (List Bool)
  | [] => []
  | k :: r => rowS ls b k :: rowL ls b r
end
theorem rowL_get (ls : List Int) (b : Nat) : ∀ (l : List S24) (i : Nat) (h : i < l.length), (rowL ls b l).getD i [] = rowS ls b (l[i]'h)
  | k :: r, 0, h => by simp [rowL]
  | k :: r, i + 1, h => by
    have := rowL_get ls b r i (by simpa using h)
    simpa [rowL] using this
theorem len_settle (f : Nat → Bool → Bool) (n b : Nat) (first : Bool) : (settleS f n b first).length = n := by simp [settleS, len_pass]
theorem len_rowOp (ls : List Int) (b : Nat) (op m : Int) (x y : List Bool) : (rowOp ls b op m x y).length = ls.length := by
  unfold rowOp
  repeat' split
  all_goals exact len_settle _ _ _ _
theorem len_row (ls : List Int) (b : Nat) (s : S24) : (rowS ls b s).length = ls.length := by
  obtain ⟨op, m, kids⟩ := s
  rw [rowS]
  exact len_rowOp _ _ _ _ _ _
theorem sound_mem : ∀ {l : List S24}, soundL l = true → ∀ (i : Nat) (h : i < l.length), soundS (l[i]'h) = true
  | k :: r, h, 0, _ => by simp only [soundL, Bool.and_eq_true] at h; exact h.1
  | k :: r, h, i + 1, hi => by simp only [soundL, Bool.and_eq_true] at h; exact sound_mem h.2 i (by simpa using hi)
theorem sound_kid {s : S24} (h : soundS s = true) (i : Nat) (hi : i < s.f2.length) : soundS (s.f2[i]'hi) = true := by
  obtain ⟨op, m, kids⟩ := s
  simp only [soundS, Bool.and_eq_true] at h
  exact sound_mem h.2.2.2.2 i hi
theorem sound_parts {s : S24} (h : soundS s = true) : 0 ≤ kidsS s.f0 ∧ (s.f2.length : Int) = kidsS s.f0 ∧ 0 ≤ s.f1 ∧ s.f1 ≤ mostS s.f0 := by
  obtain ⟨op, m, kids⟩ := s
  simp only [soundS, Bool.and_eq_true, decide_eq_true_eq] at h
  exact ⟨h.1, h.2.1, h.2.2.1, h.2.2.2.1⟩
theorem row_eq (ls : List Int) (b : Nat) (s : S24) : rowS ls b s = rowOp ls b s.f0 s.f1 ((rowL ls b s.f2).getD 0 []) ((rowL ls b s.f2).getD 1 []) := by cases s; rfl
theorem op_cases {op : Int} (h : 0 ≤ kidsS op) : op = 1 ∨ op = 2 ∨ op = 3 ∨ op = 4 ∨ op = 5 ∨ op = 6 ∨ op = 7 ∨ op = 8 := by
  unfold kidsS at h
  split at h
  · omega
  · split at h
    · omega
    · split at h
      · omega
      · omega
def RowAt (ls : List Int) (b : Nat) (s : S24) : Prop := ∀ (rb : Nat) (A : Option Addr) (c n : Nat) (A2 : Option Addr) (cp : Nat) (w : World), ls.length = n → IsRower w rb A n c b → Kd.C (Kd.int .u32) w A n ls → 0 < n → n < 1000000000 → b < n → Kd.C k24 w A2 s.f2.length s.f2 → s.f2.length ≤ cp → soundS s = true →
  Calls Try.prog 42 #[.pointer (some ⟨rb, 0, none⟩), .agg #[.int .i64 s.f0, .int .i64 s.f1, .slice A2 s.f2.length cp]] w fun e w' => ∃ g, e = .returned (.slice (some ⟨g, 0, none⟩) n n) ∧ w.heap.size ≤ g ∧ BRow w' g (rowS ls b s) ∧ Below w.heap.size w w'
/-- The four boxes of a call of row. -/
def rowBoxes (w : World) (rb : Nat) (op m : Int) (A2 : Option Addr) (len cp : Nat) : World :=
  (((w.alloc (.cells #[.pointer (some ⟨rb, 0, none⟩)] 70)).alloc (.cells #[.int .i64 op, .int .i64 m, .slice A2 len cp] 24)).alloc (.cells #[.slice none 0 0] 45)).alloc (.cells #[.slice none 0 0] 45)
structure RowSt (w wx : World) (rb : Nat) (op m : Int) (A2 : Option Addr) (len cp : Nat) (va vb : Value) : Prop where
  c0 : Cell1 wx w.heap.size (.pointer (some ⟨rb, 0, none⟩)) 70
  c1 : wx.heap[w.heap.size + 1]? = some (.cells #[.int .i64 op, .int .i64 m, .slice A2 len cp] 24 (0, 0))
  c2 : Cell1 wx (w.heap.size + 1 + 1) va 45
  c3 : Cell1 wx (w.heap.size + 1 + 1 + 1) vb 45
  bl : Below w.heap.size w wx
  sz : w.heap.size + 1 + 1 + 1 + 1 ≤ wx.heap.size
theorem RowSt.start (w : World) (rb : Nat) (op m : Int) (A2 : Option Addr) (len cp : Nat) : RowSt w (rowBoxes w rb op m A2 len cp) rb op m A2 len cp (.slice none 0 0) (.slice none 0 0) := by
  refine ⟨?_, ?_, ?_, ?_, ?_, ?_⟩
  · exact blk_alloc (blk_alloc (blk_alloc (heap_alloc_new w _) _) _) _
  · refine blk_alloc (blk_alloc ?_ _) _
    have := heap_alloc_new (w.alloc (.cells #[.pointer (some ⟨rb, 0, none⟩)] 70)) (.cells #[.int .i64 op, .int .i64 m, .slice A2 len cp] 24)
    simpa using this
  · refine blk_alloc ?_ _
    have := heap_alloc_new ((w.alloc (.cells #[.pointer (some ⟨rb, 0, none⟩)] 70)).alloc (.cells #[.int .i64 op, .int .i64 m, .slice A2 len cp] 24)) (.cells #[.slice none 0 0] 45)
    simpa using this
  · have := heap_alloc_new (((w.alloc (.cells #[.pointer (some ⟨rb, 0, none⟩)] 70)).alloc (.cells #[.int .i64 op, .int .i64 m, .slice A2 len cp] 24)).alloc (.cells #[.slice none 0 0] 45)) (.cells #[.slice none 0 0] 45)
    simpa [Cell1, rowBoxes] using this
  · exact below_alloc (below_alloc (below_alloc (below_alloc (Below.refl _ _) _) _) _) _
  · simp [rowBoxes]
/-- Behind a call that keeps all blocks. -/
theorem RowSt.next {w wx w' : World} {rb : Nat} {op m : Int} {A2 : Option Addr} {len cp : Nat} {va vb : Value} (h : RowSt w wx rb op m A2 len cp va vb) (hB : Below wx.heap.size wx w') : RowSt w w' rb op m A2 len cp va vb :=
  ⟨(hB.block _ (blk_lt h.c0)).trans h.c0, (hB.block _ (blk_lt h.c1)).trans h.c1, (hB.block _ (blk_lt h.c2)).trans h.c2, (hB.block _ (blk_lt h.c3)).trans h.c3, h.bl.trans (hB.mono h.bl.size), Nat.le_trans h.sz hB.size⟩
theorem RowSt.drewN {w wx : World} {rb : Nat} {op m : Int} {A2 : Option Addr} {len cp : Nat} {va vb : Value} (h : RowSt w wx rb op m A2 len cp va vb) (k : Nat) : RowSt w (wx.drewN k) rb op m A2 len cp va vb :=
  h.next (pw_below_drewN (Below.refl _ _) k)
theorem RowSt.setA {w wx : World} {rb : Nat} {op m : Int} {A2 : Option Addr} {len cp : Nat} {va vb : Value} (h : RowSt w wx rb op m A2 len cp va vb) (v : Value) : RowSt w (wx.setCell ⟨w.heap.size + 1 + 1, 0, none⟩ v) rb op m A2 len cp v vb :=
  ⟨blk_far h.c0 (by first | (simp; done) | (simp; omega) | omega) v, blk_far h.c1 (by first | (simp; done) | (simp; omega) | omega) v, (blk_set h.c2 0 v).trans (by simp), blk_far h.c3 (by first | (simp; done) | (simp; omega) | omega) v, h.bl.setCell (by first | (simp; done) | (simp; omega) | omega) v, by simpa using h.sz⟩
theorem RowSt.setB {w wx : World} {rb : Nat} {op m : Int} {A2 : Option Addr} {len cp : Nat} {va vb : Value} (h : RowSt w wx rb op m A2 len cp va vb) (v : Value) : RowSt w (wx.setCell ⟨w.heap.size + 1 + 1 + 1, 0, none⟩ v) rb op m A2 len cp va v :=
  ⟨blk_far h.c0 (by first | (simp; done) | (simp; omega) | omega) v, blk_far h.c1 (by first | (simp; done) | (simp; omega) | omega) v, blk_far h.c2 (by first | (simp; done) | (simp; omega) | omega) v, (blk_set h.c3 0 v).trans (by simp), h.bl.setCell (by first | (simp; done) | (simp; omega) | omega) v, by simpa using h.sz⟩
/-- A kid's row lies there. -/
def RowIs (w wx : World) (n : Nat) (v : Value) (x : List Bool) : Prop := ∃ ga, v = .slice (some ⟨ga, 0, none⟩) n n ∧ w.heap.size + 1 + 1 + 1 + 1 ≤ ga ∧ BRow wx ga x ∧ x.length = n
theorem RowIs.next {w wx w' : World} {n : Nat} {v : Value} {x : List Bool} (h : RowIs w wx n v x) (hB : Below wx.heap.size wx w') : RowIs w w' n v x := by
  obtain ⟨ga, h1, h2, h3, h4⟩ := h
  exact ⟨ga, h1, h2, (hB.block _ (blk_lt h3)).trans h3, h4⟩
theorem RowIs.set_ {w wx : World} {n : Nat} {v : Value} {x : List Bool} (h : RowIs w wx n v x) {p : Addr} (hp : p.block < w.heap.size + 1 + 1 + 1 + 1) (u : Value) : RowIs w (wx.setCell p u) n v x := by
  obtain ⟨ga, h1, h2, h3, h4⟩ := h
  exact ⟨ga, h1, h2, blk_far h3 (by omega) u, h4⟩
set_option maxHeartbeats 8000000 in
set_option maxRecDepth 100000 in
theorem row_calls (ls : List Int) (b : Nat) (s : S24) (ih : ∀ k ∈ s.f2, RowAt ls b k) : RowAt ls b s := by
  intro rb A c n A2 cp w hn hR hC h0 h1 hb hk hc hs
  have huF := Try.underlying24
  have huL := Try.underlying22
  have huR := Try.underlying73
  have hus := Try.underlying45
  have hmf : ∀ fn first cap w, (Instr.makeFunc fn first cap).run Try.prog w = .ok (.func fn first cap) w := fun _ _ _ _ => rfl
  have hst := RowSt.start w rb s.f0 s.f1 A2 s.f2.length cp
  have HR := Aside0.mk hR
  have HK := Aside0.mk hk
  have HC := Aside0.mk hC
  have HS := Aside0.mk hs
  have HIH := Aside0.mk (fun (i : Nat) (hi : i < s.f2.length) W (hB : Below w.heap.size w W) => fun A3 c3 hk3 hc3 => ih (s.f2[i]'hi) (List.getElem_mem hi) rb A c n A3 c3 W hn ((hB.block _ (blk_lt hR)).trans hR) (Kd.C_below hC hB) h0 h1 hb hk3 hc3 (sound_kid hs i hi))
  have hlen := Kd.C_max hk
  clear hR hC hk hs ih
  go_enter Try.func42, Try.ntmps42
  go_upto_if 10 with fail
  change Code.wp _ _ _ _ (rowBoxes w rb s.f0 s.f1 A2 s.f2.length cp)
  generalize rowBoxes w rb s.f0 s.f1 A2 s.f2.length cp = W4 at *
  have HST := Aside0.mk hst
  go_cut [] (fun wx => ∃ va x, Aside0 (RowSt w wx rb s.f0 s.f1 A2 s.f2.length cp va (.slice none 0 0)) ∧ Aside0 (0 < s.f2.length → RowIs w wx n va x ∧ x = (rowL ls b s.f2).getD 0 []))
  case first =>
    by_cases hl : 0 < s.f2.length
    · obtain ⟨ad, A3, c3, hA, hx0, hx1, hx2, hl2, hk2⟩ := kid_at HK.out hst.bl 0 hl hl
      subst hA
      have e0 : ad.add (0 * 3) = ad := by cases ad; simp [Addr.add]
      rw [e0] at hx0 hx1 hx2
      have HK2 := Aside0.mk (Kd.C_below hk2 hst.bl)
      have HL2 := Aside0.mk hl2
      have xp0 := cell1 hst.c0
      have xp1 : W4.cell? ⟨w.heap.size + 1, 2, none⟩ = some (.slice (some ad) s.f2.length cp) := (blk_cell hst.c1 2).trans rfl
      have fp2 := blk_frozen hst.c2 0
      have xp2 := cell1 hst.c2
      clear hst hk2 hl2
      go_upto_region 3 with fail
      have HCALL := Aside0.mk (HIH.out 0 hl W4.drew (below_drew1 HST.out.bl) A3 c3 (Kd.C_drew HK2.out) HL2.out)
      have HD := Aside0.mk (HST.out.next (below_drew1 (Below.refl _ _)))
      have HDZ := Aside0.mk HST.out.sz
      go_region_with (go_at_call 42; refine HCALL.out.mono ?_; rintro e w5 ⟨g, rfl, hg, hG, hB⟩; have HS5 := Aside0.mk (HD.out.next hB); have HG := Aside0.mk hG; have HGG := Aside0.mk (show W4.heap.size ≤ g from hg); have xq2 := cell1 HS5.out.c2; have fq2 := blk_frozen HS5.out.c2 0; clear hG hB hg)
      all_goals (
        go_wp2_with fail
        go_meet
        exact ⟨_, rowS ls b (s.f2[0]'hl), ⟨HS5.out.setA _⟩, ⟨fun _ => ⟨RowIs.set_ ⟨g, rfl, Nat.le_trans HDZ.out HGG.out, HG.out, (len_row _ _ _).trans hn⟩ (by simp) _, (rowL_get ls b s.f2 0 hl).symm⟩⟩⟩)
    · have hd : decide (0 < s.f2.length) = false := decide_eq_false hl
      go_wp2
      go_meet
      exact ⟨_, [], HST, ⟨fun h => absurd h hl⟩⟩
  case rest =>
    obtain ⟨va, x, HST2, HX⟩ := hcut
    have x1l : wc.cell? ⟨w.heap.size + 1, 2, none⟩ = some (.slice A2 s.f2.length cp) := (blk_cell HST2.out.c1 2).trans rfl
    clear hst HST
    go_upto_if 20 with fail
    go_cut [] (fun wx => ∃ vb y, Aside0 (RowSt w wx rb s.f0 s.f1 A2 s.f2.length cp va vb) ∧ Aside0 (0 < s.f2.length → RowIs w wx n va x ∧ x = (rowL ls b s.f2).getD 0 []) ∧ Aside0 (1 < s.f2.length → RowIs w wx n vb y ∧ y = (rowL ls b s.f2).getD 1 []))
    case first =>
      by_cases hl : 1 < s.f2.length
      · obtain ⟨ad, A3, c3, hA, hx0, hx1, hx2, hl2, hk2⟩ := kid_at HK.out HST2.out.bl 1 hl hl
        subst hA
        simp only [Nat.one_mul] at hx0 hx1 hx2
        have hx1a : wc.cell? ⟨ad.block, ad.off + 3 + 1, none⟩ = some (.int .i64 (s.f2[1]'hl).f1) := hx1
        have hx2a : wc.cell? ⟨ad.block, ad.off + 3 + 2, none⟩ = some (.slice A3 (s.f2[1]'hl).f2.length c3) := hx2
        have hx0a : wc.cell? ⟨ad.block, ad.off + 3, none⟩ = some (.int .i64 (s.f2[1]'hl).f0) := hx0
        have HK2 := Aside0.mk (Kd.C_below hk2 HST2.out.bl)
        have HL2 := Aside0.mk hl2
        have xp0 := cell1 HST2.out.c0
        have fp3 := blk_frozen HST2.out.c3 0
        have xp3 := cell1 HST2.out.c3
        clear hk2 hl2
        have HCALL := Aside0.mk (HIH.out 1 hl wc.drew (below_drew1 HST2.out.bl) A3 c3 (Kd.C_drew HK2.out) HL2.out)
        have HD := Aside0.mk (HST2.out.next (below_drew1 (Below.refl _ _)))
        have HDZ := Aside0.mk HST2.out.sz
        go_upto_region 5 with fail
        go_region_with (go_at_call 42; refine HCALL.out.mono ?_; rintro e w5 ⟨g, rfl, hg, hG, hB⟩; have HS5 := Aside0.mk (HD.out.next hB); have HX5 := Aside0.mk (fun h => And.intro ((HX.out h).1.next ((below_drew1 (Below.refl _ _)).trans hB)) (HX.out h).2); have HG := Aside0.mk hG; have HGG := Aside0.mk (show wc.heap.size ≤ g from hg); have xq2 := cell1 HS5.out.c3; have fq2 := blk_frozen HS5.out.c3 0; clear hG hB hg)
        all_goals (
          go_wp2_with fail
          go_meet
          exact ⟨_, rowS ls b (s.f2[1]'hl), ⟨HS5.out.setB _⟩, ⟨fun h => ⟨(HX5.out h).1.set_ (by simp) _, (HX5.out h).2⟩⟩, ⟨fun _ => ⟨RowIs.set_ ⟨g, rfl, Nat.le_trans HDZ.out HGG.out, HG.out, (len_row _ _ _).trans hn⟩ (by simp) _, (rowL_get ls b s.f2 1 hl).symm⟩⟩⟩)
      · have hd : decide (1 < s.f2.length) = false := decide_eq_false hl
        go_wp2
        go_meet
        exact ⟨_, [], HST2, HX, ⟨fun h => absurd h hl⟩⟩
    case rest =>
      obtain ⟨vb, y, HST3, HXX, HYY⟩ := hcut
      have hpart := sound_parts HS.out
      have hRw : IsRower wc rb A n c b := (HST3.out.bl.block _ (blk_lt HR.out)).trans HR.out
      have hCw := Kd.C_below HC.out HST3.out.bl
      have hc1 := HST3.out.c1
      have x00 := cell1 HST3.out.c0
      have x0 : wc.cell? ⟨w.heap.size + 1, 0, none⟩ = some (.int .i64 s.f0) := (blk_cell HST3.out.c1 0).trans rfl
      clear HST2 HX x1l HIH HK
      rcases op_cases hpart.1 with hop | hop | hop | hop | hop | hop | hop | hop
      · -- op 1
        have hkk := hpart.2.1
        have hmm := hpart.2.2.2
        rw [hop] at hkk hmm x0
        have hrow : rowS ls b s = settleS (fun _ _ => true) n b false := by
          rw [row_eq, hop]
          unfold rowOp
          rw [if_neg (by decide), if_neg (by decide), if_neg (by decide), if_neg (by decide), if_neg (by decide), if_neg (by decide), if_neg (by decide)]
          rw [hn]
        have HE := Aside0.mk (each_calls 65 #[] (enters_f Try.func65 (by kernel_rfl) rfl) (fun _ => true) rb A n c b wc hRw h0 h1 hb (fun W hW i hi => row8_calls i W))
        have HO := Aside0.mk hrow
        clear hrow
        go_wp2_with (go_at_call 55; refine HE.out.mono ?_; rintro e w6 ⟨g, rfl, hg, hG, hB⟩; have HG := Aside0.mk hG; have HB := Aside0.mk hB; have HGS := Aside0.mk hg; clear hG hB hg)
        go_ret
        exact ⟨g, rfl, Nat.le_trans HST3.out.bl.size HGS.out, by rw [HO.out]; exact HG.out, HST3.out.bl.trans (HB.out.mono HST3.out.bl.size)⟩
      · -- op 2
        have hkk := hpart.2.1
        have hmm := hpart.2.2.2
        rw [hop] at hkk hmm x0
        have hrow : rowS ls b s = settleS (fun i _ => bitS (ls.getD i 0) s.f1) n b false := by
          rw [row_eq, hop]
          unfold rowOp
          rw [if_pos rfl]
          rw [hn]
        have hm2 : mostS 2 = 19 := by decide
        have HE := Aside0.mk (each_calls 56 #[.pointer (some ⟨w.heap.size, 0, none⟩), .pointer (some ⟨(w.heap.size + 1), 0, none⟩)] (enters_f Try.func56 (by kernel_rfl) rfl) (fun i => bitS (ls.getD i 0) s.f1) rb A n c b wc hRw h0 h1 hb (fun W hW i hi => row1_calls w.heap.size (w.heap.size + 1) rb n c b i A A2 ls s.f0 s.f1 s.f2.length cp W ((hW.block _ (blk_lt HST3.out.c0)).trans HST3.out.c0) ((hW.block _ (blk_lt hRw)).trans hRw) (Kd.C_below hCw hW) ((hW.block _ (blk_lt hc1)).trans hc1) hi hpart.2.2.1 (by omega)))
        have HO := Aside0.mk hrow
        clear hrow
        go_wp2_with (go_at_call 55; refine HE.out.mono ?_; rintro e w6 ⟨g, rfl, hg, hG, hB⟩; have HG := Aside0.mk hG; have HB := Aside0.mk hB; have HGS := Aside0.mk hg; clear hG hB hg)
        go_ret
        exact ⟨g, rfl, Nat.le_trans HST3.out.bl.size HGS.out, by rw [HO.out]; exact HG.out, HST3.out.bl.trans (HB.out.mono HST3.out.bl.size)⟩
      · -- op 3
        have hkk := hpart.2.1
        have hmm := hpart.2.2.2
        rw [hop] at hkk hmm x0
        have hrow : rowS ls b s = settleS (fun i _ => !(((rowL ls b s.f2).getD 0 []).getD i false)) n b false := by
          rw [row_eq, hop]
          unfold rowOp
          rw [if_neg (by decide), if_pos rfl]
          rw [hn]
        obtain ⟨⟨ga, rfl, hga, hA, hAl⟩, hxe⟩ := HXX.out (by have h9 : kidsS 3 = 1 := (by decide); omega)
        rw [← hxe] at hrow
        have HE := Aside0.mk (each_calls 57 #[.pointer (some ⟨(w.heap.size + 1 + 1), 0, none⟩)] (enters_f Try.func57 (by kernel_rfl) rfl) (fun i => !(x.getD i false)) rb A n c b wc hRw h0 h1 hb (fun W hW i hi => row2_calls (w.heap.size + 1 + 1) ga n i x W ((hW.block _ (blk_lt HST3.out.c2)).trans HST3.out.c2) ((hW.block _ (blk_lt hA)).trans hA) hAl hi))
        have HO := Aside0.mk hrow
        clear hrow
        go_wp2_with (go_at_call 55; refine HE.out.mono ?_; rintro e w6 ⟨g, rfl, hg, hG, hB⟩; have HG := Aside0.mk hG; have HB := Aside0.mk hB; have HGS := Aside0.mk hg; clear hG hB hg)
        go_ret
        exact ⟨g, rfl, Nat.le_trans HST3.out.bl.size HGS.out, by rw [HO.out]; exact HG.out, HST3.out.bl.trans (HB.out.mono HST3.out.bl.size)⟩
      · -- op 4
        have hkk := hpart.2.1
        have hmm := hpart.2.2.2
        rw [hop] at hkk hmm x0
        have hrow : rowS ls b s = settleS (fun i _ => ((rowL ls b s.f2).getD 0 []).getD i false && ((rowL ls b s.f2).getD 1 []).getD i false) n b false := by
          rw [row_eq, hop]
          unfold rowOp
          rw [if_neg (by decide), if_neg (by decide), if_pos rfl]
          rw [hn]
        obtain ⟨⟨ga, rfl, hga, hA, hAl⟩, hxe⟩ := HXX.out (by have h9 : kidsS 4 = 2 := (by decide); omega)
        rw [← hxe] at hrow
        obtain ⟨⟨gb, rfl, hgb, hBB, hBl⟩, hye⟩ := HYY.out (by have h9 : kidsS 4 = 2 := (by decide); omega)
        rw [← hye] at hrow
        have HE := Aside0.mk (each_calls 58 #[.pointer (some ⟨(w.heap.size + 1 + 1), 0, none⟩), .pointer (some ⟨(w.heap.size + 1 + 1 + 1), 0, none⟩)] (enters_f Try.func58 (by kernel_rfl) rfl) (fun i => x.getD i false && y.getD i false) rb A n c b wc hRw h0 h1 hb (fun W hW i hi => row3_calls (w.heap.size + 1 + 1) (w.heap.size + 1 + 1 + 1) ga gb n i x y W ((hW.block _ (blk_lt HST3.out.c2)).trans HST3.out.c2) ((hW.block _ (blk_lt hA)).trans hA) hAl ((hW.block _ (blk_lt HST3.out.c3)).trans HST3.out.c3) ((hW.block _ (blk_lt hBB)).trans hBB) hBl hi))
        have HO := Aside0.mk hrow
        clear hrow
        go_wp2_with (go_at_call 55; refine HE.out.mono ?_; rintro e w6 ⟨g, rfl, hg, hG, hB⟩; have HG := Aside0.mk hG; have HB := Aside0.mk hB; have HGS := Aside0.mk hg; clear hG hB hg)
        go_ret
        exact ⟨g, rfl, Nat.le_trans HST3.out.bl.size HGS.out, by rw [HO.out]; exact HG.out, HST3.out.bl.trans (HB.out.mono HST3.out.bl.size)⟩
      · -- op 5
        have hkk := hpart.2.1
        have hmm := hpart.2.2.2
        rw [hop] at hkk hmm x0
        have hrow : rowS ls b s = settleS (fun i _ => ((rowL ls b s.f2).getD 0 []).getD i false || ((rowL ls b s.f2).getD 1 []).getD i false) n b false := by
          rw [row_eq, hop]
          unfold rowOp
          rw [if_neg (by decide), if_neg (by decide), if_neg (by decide), if_pos rfl]
          rw [hn]
        obtain ⟨⟨ga, rfl, hga, hA, hAl⟩, hxe⟩ := HXX.out (by have h9 : kidsS 5 = 2 := (by decide); omega)
        rw [← hxe] at hrow
        obtain ⟨⟨gb, rfl, hgb, hBB, hBl⟩, hye⟩ := HYY.out (by have h9 : kidsS 5 = 2 := (by decide); omega)
        rw [← hye] at hrow
        have HE := Aside0.mk (each_calls 59 #[.pointer (some ⟨(w.heap.size + 1 + 1), 0, none⟩), .pointer (some ⟨(w.heap.size + 1 + 1 + 1), 0, none⟩)] (enters_f Try.func59 (by kernel_rfl) rfl) (fun i => x.getD i false || y.getD i false) rb A n c b wc hRw h0 h1 hb (fun W hW i hi => row4_calls (w.heap.size + 1 + 1) (w.heap.size + 1 + 1 + 1) ga gb n i x y W ((hW.block _ (blk_lt HST3.out.c2)).trans HST3.out.c2) ((hW.block _ (blk_lt hA)).trans hA) hAl ((hW.block _ (blk_lt HST3.out.c3)).trans HST3.out.c3) ((hW.block _ (blk_lt hBB)).trans hBB) hBl hi))
        have HO := Aside0.mk hrow
        clear hrow
        go_wp2_with (go_at_call 55; refine HE.out.mono ?_; rintro e w6 ⟨g, rfl, hg, hG, hB⟩; have HG := Aside0.mk hG; have HB := Aside0.mk hB; have HGS := Aside0.mk hg; clear hG hB hg)
        go_ret
        exact ⟨g, rfl, Nat.le_trans HST3.out.bl.size HGS.out, by rw [HO.out]; exact HG.out, HST3.out.bl.trans (HB.out.mono HST3.out.bl.size)⟩
      · -- op 6
        have hkk := hpart.2.1
        have hmm := hpart.2.2.2
        rw [hop] at hkk hmm x0
        have hrow : rowS ls b s = settleS (fun i _ => ((rowL ls b s.f2).getD 0 []).getD (nextS n b i) false) n b false := by
          rw [row_eq, hop]
          unfold rowOp
          rw [if_neg (by decide), if_neg (by decide), if_neg (by decide), if_neg (by decide), if_pos rfl]
          rw [hn]
        obtain ⟨⟨ga, rfl, hga, hA, hAl⟩, hxe⟩ := HXX.out (by have h9 : kidsS 6 = 1 := (by decide); omega)
        rw [← hxe] at hrow
        have HE := Aside0.mk (each_calls 60 #[.pointer (some ⟨(w.heap.size + 1 + 1), 0, none⟩), .pointer (some ⟨w.heap.size, 0, none⟩)] (enters_f Try.func60 (by kernel_rfl) rfl) (fun i => x.getD (nextS n b i) false) rb A n c b wc hRw h0 h1 hb (fun W hW i hi => row5_calls (w.heap.size + 1 + 1) w.heap.size ga rb n c b i A x W ((hW.block _ (blk_lt HST3.out.c2)).trans HST3.out.c2) ((hW.block _ (blk_lt hA)).trans hA) hAl ((hW.block _ (blk_lt HST3.out.c0)).trans HST3.out.c0) ((hW.block _ (blk_lt hRw)).trans hRw) hb hi h1))
        have HO := Aside0.mk hrow
        clear hrow
        go_wp2_with (go_at_call 55; refine HE.out.mono ?_; rintro e w6 ⟨g, rfl, hg, hG, hB⟩; have HG := Aside0.mk hG; have HB := Aside0.mk hB; have HGS := Aside0.mk hg; clear hG hB hg)
        go_ret
        exact ⟨g, rfl, Nat.le_trans HST3.out.bl.size HGS.out, by rw [HO.out]; exact HG.out, HST3.out.bl.trans (HB.out.mono HST3.out.bl.size)⟩
      · -- op 7
        have hkk := hpart.2.1
        have hmm := hpart.2.2.2
        rw [hop] at hkk hmm x0
        have hrow : rowS ls b s = settleS (fun i nx => ((rowL ls b s.f2).getD 1 []).getD i false || ((rowL ls b s.f2).getD 0 []).getD i false && nx) n b false := by
          rw [row_eq, hop]
          unfold rowOp
          rw [if_neg (by decide), if_neg (by decide), if_neg (by decide), if_neg (by decide), if_neg (by decide), if_pos rfl]
          rw [hn]
        obtain ⟨⟨ga, rfl, hga, hA, hAl⟩, hxe⟩ := HXX.out (by have h9 : kidsS 7 = 2 := (by decide); omega)
        rw [← hxe] at hrow
        obtain ⟨⟨gb, rfl, hgb, hBB, hBl⟩, hye⟩ := HYY.out (by have h9 : kidsS 7 = 2 := (by decide); omega)
        rw [← hye] at hrow
        have HE := Aside0.mk (settle_calls 63 #[.pointer (some ⟨(w.heap.size + 1 + 1 + 1), 0, none⟩), .pointer (some ⟨(w.heap.size + 1 + 1), 0, none⟩)] (enters_f Try.func63 (by kernel_rfl) rfl) (fun i nx => y.getD i false || x.getD i false && nx) rb A n c b false wc hRw h0 h1 hb (fun W hW i nx hi => row6_calls (w.heap.size + 1 + 1) (w.heap.size + 1 + 1 + 1) ga gb n i nx x y W ((hW.block _ (blk_lt HST3.out.c2)).trans HST3.out.c2) ((hW.block _ (blk_lt hA)).trans hA) hAl ((hW.block _ (blk_lt HST3.out.c3)).trans HST3.out.c3) ((hW.block _ (blk_lt hBB)).trans hBB) hBl hi))
        have HO := Aside0.mk hrow
        clear hrow
        go_wp2_with (go_at_call 62; refine HE.out.mono ?_; rintro e w6 ⟨g, rfl, hg, hG, hB⟩; have HG := Aside0.mk hG; have HB := Aside0.mk hB; have HGS := Aside0.mk hg; clear hG hB hg)
        go_ret
        exact ⟨g, rfl, Nat.le_trans HST3.out.bl.size HGS.out, by rw [HO.out]; exact HG.out, HST3.out.bl.trans (HB.out.mono HST3.out.bl.size)⟩
      · -- op 8
        have hkk := hpart.2.1
        have hmm := hpart.2.2.2
        rw [hop] at hkk hmm x0
        have hrow : rowS ls b s = settleS (fun i nx => ((rowL ls b s.f2).getD 1 []).getD i false && (((rowL ls b s.f2).getD 0 []).getD i false || nx)) n b true := by
          rw [row_eq, hop]
          unfold rowOp
          rw [if_neg (by decide), if_neg (by decide), if_neg (by decide), if_neg (by decide), if_neg (by decide), if_neg (by decide), if_pos rfl]
          rw [hn]
        obtain ⟨⟨ga, rfl, hga, hA, hAl⟩, hxe⟩ := HXX.out (by have h9 : kidsS 8 = 2 := (by decide); omega)
        rw [← hxe] at hrow
        obtain ⟨⟨gb, rfl, hgb, hBB, hBl⟩, hye⟩ := HYY.out (by have h9 : kidsS 8 = 2 := (by decide); omega)
        rw [← hye] at hrow
        have HE := Aside0.mk (settle_calls 64 #[.pointer (some ⟨(w.heap.size + 1 + 1 + 1), 0, none⟩), .pointer (some ⟨(w.heap.size + 1 + 1), 0, none⟩)] (enters_f Try.func64 (by kernel_rfl) rfl) (fun i nx => y.getD i false && (x.getD i false || nx)) rb A n c b true wc hRw h0 h1 hb (fun W hW i nx hi => row7_calls (w.heap.size + 1 + 1) (w.heap.size + 1 + 1 + 1) ga gb n i nx x y W ((hW.block _ (blk_lt HST3.out.c2)).trans HST3.out.c2) ((hW.block _ (blk_lt hA)).trans hA) hAl ((hW.block _ (blk_lt HST3.out.c3)).trans HST3.out.c3) ((hW.block _ (blk_lt hBB)).trans hBB) hBl hi))
        have HO := Aside0.mk hrow
        clear hrow
        go_wp2_with (go_at_call 62; refine HE.out.mono ?_; rintro e w6 ⟨g, rfl, hg, hG, hB⟩; have HG := Aside0.mk hG; have HB := Aside0.mk hB; have HGS := Aside0.mk hg; clear hG hB hg)
        go_ret
        exact ⟨g, rfl, Nat.le_trans HST3.out.bl.size HGS.out, by rw [HO.out]; exact HG.out, HST3.out.bl.trans (HB.out.mono HST3.out.bl.size)⟩
end Go.Proofs.Ytegaicoddnmemaa.X

namespace Go.Proofs.Ytegaicoddnmemaa.X
open Go.RowKit Go.Proofs.YtegaicoddnmemaaW.PrintWords Go.Proofs.YtegaicoddnmemaaW.PrintLast Go.Proofs.YtegaicoddnmemaaW.PrintMore
open Go.Proofs.Ytegaicoddnmemaa.P
set_option linter.unusedSimpArgs false
set_option linter.unusedVariables false
theorem infoU32 : (Try.prog.info? 36).map (fun i => (i.zero, i.size, i.bytes)) = some (some (.int .u32 0), 1, 4) := by kernel_rfl
set_option maxHeartbeats 1600000 in
theorem Grow_nil (m : Int) (w : World) (h0 : 0 < m) (h1 : m < 1000000000) :
    Calls Try.prog 54 #[.slice none 0 0, .int .i64 m] w fun e w' => ∃ v, e = .returned v ∧ Kd.R (Kd.int .u32) 36 w' w.heap.size (fun _ => True) v [] ∧ Below w.heap.size w w' := by
  have hus := Try.underlying25
  have hui := Try.underlying3
  have hnn : ¬ m < 0 := by omega
  go_enter Try.func54, Try.ntmps54
  go_wp2_with ((with_reducible refine gate_builtin (b := .append) (xs := #[.tmp 20, .tmp 21]) rfl ?_); at_builtin; refine Kd.R_append_zeros (Kd.int .u32) (w0 := w) w.heap.size rfl (.tmp 20) (.tmp 21) 25 3 36 (.int .u32 0) 4 rfl hus hui infoU32 rfl (by decide) (by decide) (.slice none 0 0) [] 0 (kx := .i64) m (fun _ => True) rfl rfl rfl (fun _ _ => trivial) (Kd.R_nil _ _ _ _ _) (by omega) (Below.refl _ _) (Nat.le_refl _) (by simp; omega) ?_; intro v1 w1 hR hB hg hat; obtain ⟨A1, c1, hv1⟩ := Kd.R_slice hR; subst hv1; have HR := Aside0.mk hR; have HB := Aside0.mk hB; clear hR hB hg hat)
  go_ret
  exact ⟨_, rfl, by have := Kd.R_take (m := 0) HR.out (by simp); simpa using this, HB.out⟩
set_option maxHeartbeats 4000000 in
set_option maxRecDepth 100000 in
theorem Concat_calls (gb : Nat) (A1 A2 : Option Addr) (c1 c2 : Nat) (l1 l2 : List Int) (w : World) (hb : w.heap[gb]? = some (.cells #[.slice A1 l1.length c1, .slice A2 l2.length c2] 25 (0, 0))) (hr1 : Kd.C (Kd.int .u32) w A1 l1.length l1) (hr2 : Kd.C (Kd.int .u32) w A2 l2.length l2) (h0 : 0 < l1.length + l2.length) (h1 : l1.length + l2.length < 1000000000) :
    Calls Try.prog 41 #[.slice (some ⟨gb, 0, none⟩) 2 2] w fun e w' => ∃ v, e = .returned v ∧ Kd.R (Kd.int .u32) 36 w' w.heap.size (fun _ => True) v (l1 ++ l2) ∧ Below w.heap.size w w' := by
  have hus := Try.underlying25
  have huss := Try.underlying84
  have hui := Try.underlying3
  have hgb : gb < w.heap.size := blk_lt hb
  have x0 : w.cell? ⟨gb, 0, none⟩ = some (.slice A1 l1.length c1) := (blk_cell hb 0).trans rfl
  have x1 : w.cell? ⟨gb, 1, none⟩ = some (.slice A2 l2.length c2) := (blk_cell hb 1).trans rfl
  have R1 := Aside0.mk hr1
  have R2 := Aside0.mk hr2
  have X0 := Aside0.mk x0
  have X1 := Aside0.mk x1
  clear hb hr1 hr2 x0 x1
  go_enter Try.func41, Try.ntmps41
  go_wp2
  go_loopg [3, 11] 2 (fun kq v3 v11 w' => (kq = 2 ∧ v3 = .int .i64 0 ∧ v11 = .int .i64 0 ∧ w' = w) ∨ (kq = 1 ∧ v3 = .int .i64 (l1.length : Int) ∧ v11 = .int .i64 1 ∧ w' = w) ∨ (kq = 0 ∧ v3 = .int .i64 ((l1.length : Int) + (l2.length : Int)) ∧ v11 = .int .i64 2 ∧ w' = w))
  case atStart => exact .inl ⟨rfl, rfl, rfl, rfl⟩
  case round =>
    rcases hrel with ⟨rfl, rfl, rfl, rfl⟩ | ⟨rfl, rfl, rfl, rfl⟩ | ⟨rfl, rfl, rfl, rfl⟩
    · have y0 := X0.out
      have hn : ¬ ((l1.length : Int) < 0) := by omega
      go_wp2
      go_roundg 1
      case measure => omega
      case rel => exact .inr (.inl ⟨rfl, by first | rfl | (simp; done), rfl, rfl⟩)
    · have y1 := X1.out
      have hn : ¬ ((l1.length : Int) + (l2.length : Int) < 0) := by omega
      go_wp2
      go_roundg 0
      case measure => omega
      case rel => exact .inr (.inr ⟨rfl, by first | rfl | (simp; done), rfl, rfl⟩)
    · obtain ⟨WW, rfl⟩ : ∃ W : World, W = wr := ⟨_, rfl⟩
      go_wp2_with (go_at_call 54; refine (Grow_nil _ _ (by omega) (by omega)).mono ?_; rintro e w1 ⟨v, rfl, hR, hB⟩; have HR := Aside0.mk hR; have HB := Aside0.mk hB; clear hR hB)
      go_loopg [6, 27] 2 (fun kq v6 v27 w' => Aside0 (Below WW.heap.size WW w') ∧ ((kq = 2 ∧ v27 = .int .i64 0 ∧ Aside0 (Kd.R (Kd.int .u32) 36 w' WW.heap.size (fun _ => True) v6 [])) ∨ (kq = 1 ∧ v27 = .int .i64 1 ∧ Aside0 (Kd.R (Kd.int .u32) 36 w' WW.heap.size (fun _ => True) v6 l1)) ∨ (kq = 0 ∧ v27 = .int .i64 2 ∧ Aside0 (Kd.R (Kd.int .u32) 36 w' WW.heap.size (fun _ => True) v6 (l1 ++ l2)))))
      case atStart => exact ⟨HB, .inl ⟨rfl, rfl, HR⟩⟩
      case round =>
        obtain ⟨HBV, hrel⟩ := hrel
        rcases hrel with ⟨rfl, rfl, HV⟩ | ⟨rfl, rfl, HV⟩ | ⟨rfl, rfl, HV⟩
        · have y0 := (HBV.out.cell (World.block_lt_of_cell? _ _ X0.out)).trans X0.out
          go_wp2_with (first | ((with_reducible refine gate_builtin (b := .append) (xs := #[.tmp 31, .tmp 32]) rfl ?_); at_builtin; refine Kd.R_append_row (Value.int .u32) (0 : Int) (h1 := fun _ => rfl) (w0 := WW) WW.heap.size rfl (.tmp 31) (.tmp 32) 25 36 (.int .u32 0) 4 rfl hus infoU32 rfl (by decide) u6 [] l1 A1 l1.length c1 (fun _ => True) rfl rfl (fun _ _ => trivial) HV.out (Kd.C_below R1.out HBV.out) HBV.out HBV.out.size (by first | omega | (simp; omega)) ?_; intro v1 w2 hR hB hg hat; have HV2 := Aside0.mk hR; have HBV2 := Aside0.mk hB; clear hR hB hg hat))
          go_roundg 1
          case measure => omega
          case rel => exact ⟨HBV2, .inr (.inl ⟨rfl, rfl, HV2⟩)⟩
        · have y1 := (HBV.out.cell (World.block_lt_of_cell? _ _ X1.out)).trans X1.out
          go_wp2_with (first | ((with_reducible refine gate_builtin (b := .append) (xs := #[.tmp 31, .tmp 32]) rfl ?_); at_builtin; refine Kd.R_append_row (Value.int .u32) (0 : Int) (h1 := fun _ => rfl) (w0 := WW) WW.heap.size rfl (.tmp 31) (.tmp 32) 25 36 (.int .u32 0) 4 rfl hus infoU32 rfl (by decide) u6 l1 l2 A2 l2.length c2 (fun _ => True) rfl rfl (fun _ _ => trivial) HV.out (Kd.C_below R2.out HBV.out) HBV.out HBV.out.size (by first | omega | (simp; omega)) ?_; intro v1 w2 hR hB hg hat; have HV2 := Aside0.mk hR; have HBV2 := Aside0.mk hB; clear hR hB hg hat))
          go_roundg 0
          case measure => omega
          case rel => exact ⟨HBV2, .inr (.inr ⟨rfl, rfl, HV2⟩)⟩
        · go_wp2
          go_ret
          exact ⟨_, rfl, HV.out, HBV.out⟩
end Go.Proofs.Ytegaicoddnmemaa.X

namespace Go.Proofs.Ytegaicoddnmemaa.X
open Go.RowKit Go.Proofs.YtegaicoddnmemaaW.PrintWords Go.Proofs.YtegaicoddnmemaaW.PrintLast Go.Proofs.YtegaicoddnmemaaW.PrintMore
open Go.Proofs.Ytegaicoddnmemaa.P Go.Proofs.Ytegaicoddnmemaa.Evx
set_option linter.unusedSimpArgs false
set_option linter.unusedVariables false
mutual
theorem row_all (ls : List Int) (b : Nat) : ∀ s : S24, RowAt ls b s
  | ⟨op, m, kids⟩ => row_calls ls b ⟨op, m, kids⟩ (row_kids ls b kids)
theorem row_kids (ls : List Int) (b : Nat) : ∀ (l : List S24) (k : S24), k ∈ l → RowAt ls b k
  | [], k, hk => by simp at hk
  | a :: r, k, hk => by
    rcases List.mem_cons.1 hk with h | h
    · rw [h]
      exact row_all ls b a
    · exact row_kids ls b r k h
end
/-- May a word be? -/
def wordS (st lp : List Int) : Bool := decide (st.length ≤ 3000 ∧ 1 ≤ lp.length ∧ lp.length ≤ 27000)
theorem mayWord_some (st lp : List Int) : formula_MayWord.f st lp = some (wordS st lp) := by
  unfold formula_MayWord.f wordS
  split
  · split
    · congr 1
      rw [decide_eq_decide]
      omega
    · rw [decide_eq_false]
      omega
  · rw [decide_eq_false]
    omega
theorem brow_R {w w' : World} {g n : Nat} {l : List Bool} (h : BRow w' g l) (hl : l.length = n) (hg : w.heap.size ≤ g) (hn : n < 1000000000) : Kd.R Kd.bool 4 w' w.heap.size (fun _ => True) (.slice (some ⟨g, 0, none⟩) n n) l := by
  refine Kd.R_of_own ?_ (fun _ _ => trivial)
  rw [hl]
  refine ⟨by simp [encs, hl], .inr ⟨g, n, (boolsOf l).toArray, rfl, hg, h, Nat.le_refl _, by simp [maxLen]; omega, by simp [boolsOf, hl], ?_⟩⟩
  simp [boolsOf, encs, hl]
  rw [List.take_of_length_le (by simp [hl])]
theorem rower_new (w : World) (A : Option Addr) (n c b : Nat) : IsRower (w.alloc (.cells #[.slice A n c, .int .i64 (b : Int)] 73)) w.heap.size A n c b := heap_alloc_new _ _
def rowF (s : S24) (st lp : List Int) : List Bool := if mayF s = 0 ∧ wordS st lp = true then rowS (st ++ lp) st.length s else []
theorem may_sound {s : S24} (h : mayF s = 0) : soundS s = true := by
  unfold mayF at h
  split at h
  · split at h
    · assumption
    · simp at h
  · simp at h
set_option maxHeartbeats 8000000 in
set_option maxRecDepth 100000 in
theorem Row_calls (s : S24) (st lp : List Int) (A : Option Addr) (cp : Nat) (A1 A2 : Option Addr) (c1 c2 : Nat) (w : World) (hr : Kd.C k24 w A s.f2.length s.f2) (hc : s.f2.length ≤ cp) (hr1 : Kd.C (Kd.int .u32) w A1 st.length st) (hc1 : st.length ≤ c1) (hr2 : Kd.C (Kd.int .u32) w A2 lp.length lp) (hc2 : lp.length ≤ c2) :
    Calls Try.prog 24 #[.agg #[.int .i64 s.f0, .int .i64 s.f1, .slice A s.f2.length cp], .agg #[.slice A1 st.length c1, .slice A2 lp.length c2]] w fun e w' => ∃ v0_ : Value, e = .returned v0_ ∧ Kd.R Kd.bool 4 w' w.heap.size (fun _ => True) v0_ (rowF s st lp) ∧ Below w.heap.size w w' := by
  have huF := Try.underlying24
  have huL := Try.underlying22
  have huW := Try.underlying27
  have huR := Try.underlying73
  have hus := Try.underlying45
  have huu := Try.underlying25
  have huuu := Try.underlying84
  obtain ⟨W2, hW2⟩ : ∃ W2, W2 = (w.alloc (.cells #[.int .i64 s.f0, .int .i64 s.f1, .slice A s.f2.length cp] 24)).alloc (.cells #[.slice A1 st.length c1, .slice A2 lp.length c2] 27) := ⟨_, rfl⟩
  have hB2 : Below w.heap.size w W2 := by rw [hW2]; exact below_alloc (below_alloc (Below.refl _ _) _) _
  have hb1 : W2.heap[w.heap.size]? = some (.cells #[.int .i64 s.f0, .int .i64 s.f1, .slice A s.f2.length cp] 24 (0, 0)) := by rw [hW2]; exact blk_alloc (heap_alloc_new w _) _
  have hb2 : W2.heap[w.heap.size + 1]? = some (.cells #[.slice A1 st.length c1, .slice A2 lp.length c2] 27 (0, 0)) := by
    rw [hW2]
    have := heap_alloc_new (w.alloc (.cells #[.int .i64 s.f0, .int .i64 s.f1, .slice A s.f2.length cp] 24)) (.cells #[.slice A1 st.length c1, .slice A2 lp.length c2] 27)
    simpa using this
  have HMAY := Aside0.mk (May_calls s A cp W2 (Kd.C_below hr hB2) hc)
  have HW2 := Aside0.mk hW2
  have x0 : W2.cell? ⟨w.heap.size, 0, none⟩ = some (.int .i64 s.f0) := (blk_cell hb1 0).trans rfl
  have x1 : W2.cell? ⟨w.heap.size, 1, none⟩ = some (.int .i64 s.f1) := (blk_cell hb1 1).trans rfl
  have x2 : W2.cell? ⟨w.heap.size, 2, none⟩ = some (.slice A s.f2.length cp) := (blk_cell hb1 2).trans rfl
  have HB2 := Aside0.mk hB2
  have HBX1 := Aside0.mk hb1
  have HBX2 := Aside0.mk hb2
  have HRR := Aside0.mk hr
  have HRF := Aside0.mk (show rowF s st lp = if mayF s = 0 ∧ wordS st lp = true then rowS (st ++ lp) st.length s else [] from rfl)
  have HC1 := Aside0.mk (Kd.C_below hr1 hB2)
  have HC2 := Aside0.mk (Kd.C_below hr2 hB2)
  have HMS := Aside0.mk (@may_sound s)
  clear hb1 hb2 hr hr1 hr2
  generalize mayF s = mv at *
  by_cases hm : mv = 0
  · have em : (mv != 0) = false := by rw [hm]; rfl
    cases hw : wordS st lp with
    | false =>
      have HX := Aside0.mk (show rowF s st lp = [] from by rw [HRF.out, hw, if_neg (by simp)])
      have HWD := Aside0.mk ((mayWord_some st lp).trans (by rw [hw]))
      clear hw
      go_enter Try.func24, Try.ntmps24
      go_upto_region 1 with fail
      rw [← hW2]
      clear hW2 hB2
      go_wp2_with (first | (go_at_call 14; refine HMAY.out.mono ?_; rintro e w3 ⟨rfl, hB3⟩; have HB3 := Aside0.mk hB3; have HBX3 := Aside0.mk ((hB3.block _ (blk_lt HBX2.out)).trans HBX2.out); have y0 := (blk_cell HBX3.out 0).trans rfl; have y1 := (blk_cell HBX3.out 1).trans rfl; clear hB3) | (go_at_call 28; refine (formula_MayWord.calls A1 c1 st A2 c2 lp false _ (Kd.C_below HC1.out HB3.out) hc1 (Kd.C_below HC2.out HB3.out) hc2 HWD.out).mono ?_; rintro e w4 ⟨rfl, hB4⟩; have HB4 := Aside0.mk hB4; clear hB4))
      go_ret
      exact ⟨_, rfl, by rw [HX.out]; exact Kd.R_nil _ _ _ _ _, (HB2.out.trans (HB3.out.mono HB2.out.size)).trans (HB4.out.mono (Nat.le_trans HB2.out.size HB3.out.size))⟩
    | true =>
      have hwp : st.length ≤ 3000 ∧ 1 ≤ lp.length ∧ lp.length ≤ 27000 := of_decide_eq_true hw
      have HX := Aside0.mk (show rowF s st lp = rowS (st ++ lp) st.length s from by rw [HRF.out, hw, if_pos ⟨hm, rfl⟩])
      have HWD := Aside0.mk ((mayWord_some st lp).trans (by rw [hw]))
      have HSO := Aside0.mk (HMS.out hm)
      clear hw
      go_enter Try.func24, Try.ntmps24
      go_upto_region 1 with fail
      rw [← hW2]
      clear hW2 hB2
      go_upto_region 3 with (first | (go_at_call 14; refine HMAY.out.mono ?_; rintro e w3 ⟨rfl, hB3⟩; have HB3 := Aside0.mk hB3; have HBX3 := Aside0.mk ((hB3.block _ (blk_lt HBX2.out)).trans HBX2.out); have HBY3 := Aside0.mk ((hB3.block _ (blk_lt HBX1.out)).trans HBX1.out); have y0 := (blk_cell HBX3.out 0).trans rfl; have y1 := (blk_cell HBX3.out 1).trans rfl; clear hB3) | (go_at_call 28; refine (formula_MayWord.calls A1 c1 st A2 c2 lp true _ (Kd.C_below HC1.out HB3.out) hc1 (Kd.C_below HC2.out HB3.out) hc2 HWD.out).mono ?_; rintro e w4 ⟨rfl, hB4⟩; have HB4 := Aside0.mk hB4; have HBX4 := Aside0.mk ((hB4.block _ (blk_lt HBX3.out)).trans HBX3.out); have HBY4 := Aside0.mk ((hB4.block _ (blk_lt HBY3.out)).trans HBY3.out); have z0 := (blk_cell HBX4.out 0).trans rfl; have z1 := (blk_cell HBX4.out 1).trans rfl; clear hB4))
      have HCA := Aside0.mk (Kd.C_below HC1.out (HB3.out.trans (HB4.out.mono HB3.out.size)))
      have HCB := Aside0.mk (Kd.C_below HC2.out (HB3.out.trans (HB4.out.mono HB3.out.size)))
      have HCAT := Aside0.mk (Concat_calls w4.heap.size A1 A2 c1 c2 st lp (w4.drew.alloc (.cells #[.slice A1 st.length c1, .slice A2 lp.length c2] 25)) (heap_alloc_new w4.drew _) (Kd.C_alloc (Kd.C_drew HCA.out) _) (Kd.C_alloc (Kd.C_drew HCB.out) _) (by omega) (by omega))
      have hb4 : Below w4.heap.size w4 (w4.drew.alloc (.cells #[.slice A1 st.length c1, .slice A2 lp.length c2] 25)) := below_alloc (below_drew1 (Below.refl _ _)) _
      have HB44 := Aside0.mk hb4
      have z0a : w4.cell? ⟨w.heap.size + 1, 0, none⟩ = some (.slice A1 st.length c1) := (blk_cell HBX4.out 0).trans rfl
      have z1a : w4.cell? ⟨w.heap.size + 1, 1, none⟩ = some (.slice A2 lp.length c2) := (blk_cell HBX4.out 1).trans rfl
      have z0b : (w4.drew.alloc (.cells #[.slice A1 st.length c1, .slice A2 lp.length c2] 25)).cell? ⟨w.heap.size + 1, 0, none⟩ = some (.slice A1 st.length c1) := (HB44.out.cell (World.block_lt_of_cell? _ _ z0a)).trans z0a
      have z0c : (w4.alloc (.cells #[.slice A1 st.length c1, .slice A2 lp.length c2] 25)).cell? ⟨w.heap.size + 1, 0, none⟩ = some (.slice A1 st.length c1) := ((below_alloc (Below.refl _ _) _ : Below w4.heap.size w4 _).cell (World.block_lt_of_cell? _ _ z0a)).trans z0a
      clear hb4
      go_cut [5] from 14 to 24 (fun v5 wx => ∃ rb A5 c5, v5 = .pointer (some ⟨rb, 0, none⟩) ∧ Aside0 (IsRower wx rb A5 (st.length + lp.length) c5 st.length) ∧ Aside0 (Kd.C (Kd.int .u32) wx A5 (st.length + lp.length) (st ++ lp)) ∧ Aside0 (Below w4.heap.size w4 wx))
      case first =>
        go_region_with (go_at_call 41; refine HCAT.out.mono ?_; rintro e w5 ⟨v5, rfl, hR5, hB5⟩; obtain ⟨A5, c5, e5⟩ := Kd.R_slice hR5; subst e5; have HR5 := Aside0.mk hR5; have HB5 := Aside0.mk (HB44.out.trans (hB5.mono HB44.out.size)); have HBX5 := Aside0.mk ((HB5.out.block _ (blk_lt HBX4.out)).trans HBX4.out); have q0 : w5.cell? ⟨w.heap.size + 1, 0, none⟩ = some (.slice A1 st.length c1) := (blk_cell HBX5.out 0).trans rfl; clear hR5 hB5)
        all_goals (
          go_wp2_with fail
          go_meet
          exact ⟨_, A5, c5, rfl, ⟨rower_new w5 A5 (st.length + lp.length) c5 st.length⟩, ⟨Kd.C_alloc (by have := (Kd.R_reads' HR5.out).2.2; rwa [List.length_append] at this) _⟩, ⟨HB5.out.trans (below_alloc (Below.refl _ _) _ |>.mono HB5.out.size)⟩⟩)
      case rest =>
        obtain ⟨rb, A5, c5, rfl, HIR, HCC, HB5⟩ := hcut
        have HB5w : Below w.heap.size w wc := HB2.out.trans ((HB3.out.trans ((HB4.out.trans (HB5.out.mono HB4.out.size)).mono HB3.out.size)).mono HB2.out.size)
        have HBY5 := Aside0.mk ((HB5.out.block _ (blk_lt HBY4.out)).trans HBY4.out)
        have t0 : wc.cell? ⟨w.heap.size, 0, none⟩ = some (.int .i64 s.f0) := (blk_cell HBY5.out 0).trans rfl
        have t1 : wc.cell? ⟨w.heap.size, 1, none⟩ = some (.int .i64 s.f1) := (blk_cell HBY5.out 1).trans rfl
        have t2 : wc.cell? ⟨w.heap.size, 2, none⟩ = some (.slice A s.f2.length cp) := (blk_cell HBY5.out 2).trans rfl
        have HROW := Aside0.mk (row_all (st ++ lp) st.length s rb A5 c5 (st.length + lp.length) A cp wc (by simp) HIR.out HCC.out (by omega) (by omega) (by omega) (Kd.C_below HRR.out HB5w) hc HSO.out)
        have HBW := Aside0.mk HB5w
        clear HB5w
        go_wp2_with (go_at_call 42; refine HROW.out.mono ?_; rintro e w6 ⟨g, rfl, hg, hG, hB6⟩; have HG6 := Aside0.mk hG; have HGS := Aside0.mk hg; have HB6 := Aside0.mk hB6; clear hG hg hB6)
        go_ret
        exact ⟨_, rfl, by rw [HX.out]; exact brow_R HG6.out ((len_row _ _ _).trans (by first | rfl | simp)) (Nat.le_trans HBW.out.size HGS.out) (by first | omega | (simp; omega)), HBW.out.trans (HB6.out.mono HBW.out.size)⟩
  · have em : (mv != 0) = true := by simpa using hm
    have HX := Aside0.mk (show rowF s st lp = [] from by rw [HRF.out, if_neg (fun h => hm h.1)])
    go_enter Try.func24, Try.ntmps24
    go_upto_region 1 with fail
    rw [← hW2]
    clear hW2 hB2
    go_wp2_with (go_at_call 14; refine HMAY.out.mono ?_; rintro e w3 ⟨rfl, hB3⟩; have HB3 := Aside0.mk hB3; clear hB3)
    go_ret
    exact ⟨_, rfl, by rw [HX.out]; exact Kd.R_nil _ _ _ _ _, HB2.out.trans (HB3.out.mono HB2.out.size)⟩
def formula_Row.f (a0_0 : Int) (a0_1 : Int) (l0_2 : List S24) (l1_0 : List Int) (l1_1 : List Int) : Option (List Bool) := some (rowF ⟨a0_0, a0_1, l0_2⟩ l1_0 l1_1)
theorem formula_Row.calls (a0_0 : Int) (a0_1 : Int) (A0_2 : Option Addr) (c0_2 : Nat) (l0_2 : List S24) (A1_0 : Option Addr) (c1_0 : Nat) (l1_0 : List Int) (A1_1 : Option Addr) (c1_1 : Nat) (l1_1 : List Int) (r : List Bool) (w : World) (hr0_2 : Kd.C k24 w A0_2 l0_2.length l0_2) (hc0_2 : l0_2.length ≤ c0_2) (hr1_0 : Kd.C (Kd.int .u32) w A1_0 l1_0.length l1_0) (hc1_0 : l1_0.length ≤ c1_0) (hr1_1 : Kd.C (Kd.int .u32) w A1_1 l1_1.length l1_1) (hc1_1 : l1_1.length ≤ c1_1) (h : formula_Row.f a0_0 a0_1 l0_2 l1_0 l1_1 = some r) :
    Calls Try.prog 24 #[.agg #[.int .i64 a0_0, .int .i64 a0_1, .slice A0_2 l0_2.length c0_2], .agg #[.slice A1_0 l1_0.length c1_0, .slice A1_1 l1_1.length c1_1]] w fun e w' => ∃ v0_ : Value, e = .returned v0_ ∧ Kd.R Kd.bool 4 w' w.heap.size (fun _ => True) v0_ r ∧ Below w.heap.size w w' := by
  obtain rfl := Option.some.inj h
  exact Row_calls ⟨a0_0, a0_1, l0_2⟩ l1_0 l1_1 A0_2 c0_2 A1_0 A1_1 c1_0 c1_1 w hr0_2 hc0_2 hr1_0 hc1_0 hr1_1 hc1_1
end Go.Proofs.Ytegaicoddnmemaa.X

namespace Go.Proofs.Ytegaicoddnmemaa.X
open Go.RowKit Go.Proofs.YtegaicoddnmemaaW.PrintWords Go.Proofs.YtegaicoddnmemaaW.PrintMore
open Go.Proofs.Ytegaicoddnmemaa.P
set_option linter.unusedVariables false
set_option linter.unusedSimpArgs false
/-- Bit k of a state. -/
def bitK (sv : Int) (k : Nat) : Bool := (Go.bits .and .i64 (sv / 2 ^ k) 1) == 1
/-- A node's value out of its kids' values and its bit. -/
def valOp (op m lt : Int) (bit x y : Bool) : Bool :=
  if op = 2 then bitS lt m else if op = 3 then !x else if op = 4 then x && y else if op = 5 then x || y else if op = 6 then bit else if op = 7 then y || x && bit else if op = 8 then y && (x || bit) else true
/-- What a timed node says of the state ahead. -/
def saidOp (op : Int) (x v : Bool) : Bool := if op = 6 then x else v
/-- Is a timed node settled. -/
def goodOp (op : Int) (v y : Bool) : Bool := if op = 6 then true else if op = 7 then !v || y else v || !y
def tS (op : Int) : Nat := if timedS op = true then 1 else 0
mutual
/-- How many timed nodes. -/
def tnS : S24 → Nat
  | ⟨op, _, kids⟩ => tS op + tnL kids
def tnL : List S24 → Nat
  | [] => 0
  | k :: r => tnS k + tnL r
end
mutual
/-- A formula's value at a state and a letter; k: the number of its first timed node. -/
def valS (sv lt : Int) : S24 → Nat → Bool
  | ⟨op, m, kids⟩, k => valOp op m lt (bitK sv k) ((valL sv lt kids (k + tS op)).getD 0 false) ((valL sv lt kids (k + tS op)).getD 1 false)
def valL (sv lt : Int) : List S24 → Nat → List Bool
  | [], _ => []
  | c :: r, k => valS sv lt c k :: valL sv lt r (k + tnS c)
end
/-- A node's own entry, if it is timed. -/
def ownE (op : Int) (b : Bool) : List Bool := if timedS op = true then [b] else []
mutual
def saidS (sv lt : Int) : S24 → Nat → List Bool
  | ⟨op, m, kids⟩, k => ownE op (saidOp op ((valL sv lt kids (k + tS op)).getD 0 false) (valS sv lt ⟨op, m, kids⟩ k)) ++ saidL sv lt kids (k + tS op)
def saidL (sv lt : Int) : List S24 → Nat → List Bool
  | [], _ => []
  | c :: r, k => saidS sv lt c k ++ saidL sv lt r (k + tnS c)
end
mutual
def goodS (sv lt : Int) : S24 → Nat → List Bool
  | ⟨op, m, kids⟩, k => ownE op (goodOp op (valS sv lt ⟨op, m, kids⟩ k) ((valL sv lt kids (k + tS op)).getD 1 false)) ++ goodL sv lt kids (k + tS op)
def goodL (sv lt : Int) : List S24 → Nat → List Bool
  | [], _ => []
  | c :: r, k => goodS sv lt c k ++ goodL sv lt r (k + tnS c)
end
theorem len_own (op : Int) (b : Bool) : (ownE op b).length = tS op := by unfold ownE tS; split <;> rfl
mutual
theorem len_said (sv lt : Int) : ∀ (s : S24) (k : Nat), (saidS sv lt s k).length = tnS s
  | ⟨op, m, kids⟩, k => by simp only [saidS, List.length_append, len_own, len_saidL sv lt kids, tnS]
theorem len_saidL (sv lt : Int) : ∀ (l : List S24) (k : Nat), (saidL sv lt l k).length = tnL l
  | [], _ => rfl
  | c :: r, k => by simp only [saidL, List.length_append, len_said sv lt c, len_saidL sv lt r, tnL]
end
mutual
theorem len_good (sv lt : Int) : ∀ (s : S24) (k : Nat), (goodS sv lt s k).length = tnS s
  | ⟨op, m, kids⟩, k => by simp only [goodS, List.length_append, len_own, len_goodL sv lt kids, tnS]
theorem len_goodL (sv lt : Int) : ∀ (l : List S24) (k : Nat), (goodL sv lt l k).length = tnL l
  | [], _ => rfl
  | c :: r, k => by simp only [goodL, List.length_append, len_good sv lt c, len_goodL sv lt r, tnL]
end
theorem val_eq (sv lt : Int) (s : S24) (k : Nat) : valS sv lt s k = valOp s.f0 s.f1 lt (bitK sv k) ((valL sv lt s.f2 (k + tS s.f0)).getD 0 false) ((valL sv lt s.f2 (k + tS s.f0)).getD 1 false) := by cases s; rw [valS]
theorem said_eq (sv lt : Int) (s : S24) (k : Nat) : saidS sv lt s k = ownE s.f0 (saidOp s.f0 ((valL sv lt s.f2 (k + tS s.f0)).getD 0 false) (valS sv lt s k)) ++ saidL sv lt s.f2 (k + tS s.f0) := by cases s; rw [saidS]
theorem good_eq (sv lt : Int) (s : S24) (k : Nat) : goodS sv lt s k = ownE s.f0 (goodOp s.f0 (valS sv lt s k) ((valL sv lt s.f2 (k + tS s.f0)).getD 1 false)) ++ goodL sv lt s.f2 (k + tS s.f0) := by cases s; rw [goodS]
theorem tn_eq (s : S24) : tnS s = tS s.f0 + tnL s.f2 := by cases s; rw [tnS]
end Go.Proofs.Ytegaicoddnmemaa.X

namespace Go.Proofs.Ytegaicoddnmemaa.X
open Go.RowKit Go.Proofs.YtegaicoddnmemaaW.PrintWords Go.Proofs.YtegaicoddnmemaaW.PrintLast Go.Proofs.YtegaicoddnmemaaW.PrintMore
open Go.Proofs.Ytegaicoddnmemaa.P Go.Proofs.Ytegaicoddnmemaa.Evx
set_option linter.unusedSimpArgs false
set_option linter.unusedVariables false
/-- The reader's block. -/
def RdrB (w : World) (rb : Nat) (sv lt : Int) (vs vg : Value) : Prop := w.heap[rb]? = some (.cells #[.int .i64 sv, .int .u32 lt, vs, vg] 64 (0, 0))
/-- A block of one bool, made since W. -/
def BK (W w : World) (g : Nat) : Prop := W.heap.size ≤ g ∧ w.heap[g]? = some (.cells #[.bool false] 4 (0, 0))
section
variable {w w1 W : World} {rb : Nat} {sv lt : Int} {vs vg v : Value}
theorem rdrB_0 (h : RdrB w rb sv lt vs vg) : w.cell? ⟨rb, 0, none⟩ = some (.int .i64 sv) := (blk_cell h 0).trans rfl
theorem rdrB_1 (h : RdrB w rb sv lt vs vg) : w.cell? ⟨rb, 1, none⟩ = some (.int .u32 lt) := (blk_cell h 1).trans rfl
theorem rdrB_2 (h : RdrB w rb sv lt vs vg) : w.cell? ⟨rb, 2, none⟩ = some vs := (blk_cell h 2).trans rfl
theorem rdrB_3 (h : RdrB w rb sv lt vs vg) : w.cell? ⟨rb, 3, none⟩ = some vg := (blk_cell h 3).trans rfl
theorem rdrB_set2 (h : RdrB w rb sv lt vs vg) (v : Value) : RdrB (w.setCell ⟨rb, 2, none⟩ v) rb sv lt v vg := (blk_set h 2 v).trans rfl
theorem rdrB_set3 (h : RdrB w rb sv lt vs vg) (v : Value) : RdrB (w.setCell ⟨rb, 3, none⟩ v) rb sv lt vs v := (blk_set h 3 v).trans rfl
theorem le_alloc {n : Nat} (h : n ≤ w.heap.size) (o : Obj) : n ≤ (w.alloc o).heap.size := by simp; omega
theorem le_set {n : Nat} (h : n ≤ w.heap.size) (p : Addr) (v : Value) : n ≤ (w.setCell p v).heap.size := by simpa using h
end
/-- What a reader's work may write. -/
def RS (rb : Nat) (vs vg : Value) : Nat → Prop := fun k => some k = vs.ownBlock ∨ some k = vg.ownBlock ∨ k = rb
/-- Two rows of bools, grown out of vs and vg since W0. -/
structure Two (w0 W0 : World) (rb : Nat) (vs vg : Value) (w : World) (v1 : Value) (l1 : List Bool) (v2 : Value) (l2 : List Bool) : Prop where
  o1 : w.ownsRow w0.heap.size 4 1 v1 l1.length (encs Value.bool l1)
  o2 : w.ownsRow w0.heap.size 4 1 v2 l2.length (encs Value.bool l2)
  ne : v1.ownBlock = none ∨ v1.ownBlock ≠ v2.ownBlock
  kp : Kept W0 w (RS rb vs vg)
  n1 : ∀ k, v1.ownBlock = some k → some k = vs.ownBlock ∨ W0.heap.size ≤ k
  n2 : ∀ k, v2.ownBlock = some k → some k = vg.ownBlock ∨ W0.heap.size ≤ k
  lt1 : ∀ k, vs.ownBlock = some k → k < W0.heap.size
  lt2 : ∀ k, vg.ownBlock = some k → k < W0.heap.size
  rl : rb < W0.heap.size
  r1 : some rb ≠ vs.ownBlock
  r2 : some rb ≠ vg.ownBlock
  bl : Below w0.heap.size w0 w
  rb0 : w0.heap.size ≤ rb
section
variable {w0 W0 w w1 : World} {rb g cap : Nat} {sv lt : Int} {vs vg v1 v2 x y v : Value} {l1 l2 : List Bool}
theorem Two.le (h : Two w0 W0 rb vs vg w v1 l1 v2 l2) : W0.heap.size ≤ w.heap.size := h.kp.1
theorem Two.rb1 (h : Two w0 W0 rb vs vg w v1 l1 v2 l2) : some rb ≠ v1.ownBlock := fun e => by
  rcases h.n1 rb e.symm with h1 | h1
  · exact h.r1 h1
  · have := h.rl; omega
theorem Two.rb2 (h : Two w0 W0 rb vs vg w v1 l1 v2 l2) : some rb ≠ v2.ownBlock := fun e => by
  rcases h.n2 rb e.symm with h1 | h1
  · exact h.r2 h1
  · have := h.rl; omega
/-- Behind an event that keeps both rows. -/
theorem Two.step (h : Two w0 W0 rb vs vg w v1 l1 v2 l2) (hk : Kept w w1 (fun k => k = rb)) (hb : Below w0.heap.size w0 w1) : Two w0 W0 rb vs vg w1 v1 l1 v2 l2 :=
  { h with
    o1 := own_move h.o1 (fun k hk1 => hk.2 k (own_lt h.o1 k hk1) (fun e => h.rb1 (by rw [hk1, e])))
    o2 := own_move h.o2 (fun k hk1 => hk.2 k (own_lt h.o2 k hk1) (fun e => h.rb2 (by rw [hk1, e])))
    kp := h.kp.then_ hk (fun k e => .inl (.inr (.inr e)))
    bl := hb }
theorem Two.alloc (h : Two w0 W0 rb vs vg w v1 l1 v2 l2) (o : Obj) : Two w0 W0 rb vs vg (w.alloc o) v1 l1 v2 l2 :=
  h.step ((Kept.refl w _).alloc o) (below_alloc h.bl _)
theorem Two.drew (h : Two w0 W0 rb vs vg w v1 l1 v2 l2) : Two w0 W0 rb vs vg w.drew v1 l1 v2 l2 := h.step ((Kept.refl w _).drew) (below_drew1 h.bl)
theorem Two.setR (h : Two w0 W0 rb vs vg w v1 l1 v2 l2) (j : Nat) (v : Value) : Two w0 W0 rb vs vg (w.setCell ⟨rb, j, none⟩ v) v1 l1 v2 l2 :=
  h.step (Kept.setCell (p := ⟨rb, j, none⟩) (Kept.refl w (fun k => k = rb)) (.inl rfl) v) (h.bl.setCell h.rb0 v)
theorem encs_snoc (l : List Bool) (b : Bool) : encs Value.bool (l ++ [b]) = encs Value.bool l ++ [.bool b] := by simp [encs]
theorem Two.app1 (h : Two w0 W0 rb vs vg w vs l1 v2 l2) (ho : w1.ownsRow w0.heap.size 4 1 (.slice (some ⟨g, 0, none⟩) (l1.length + 1) cap) (l1.length + 1) (encs Value.bool l1 ++ [.bool false])) (hg : w.grownBy w1 vs.ownBlock) (hat : vs.ownBlock = some g ∨ g = w.heap.size) :
    Two w0 W0 rb vs vg w1 (.slice (some ⟨g, 0, none⟩) (l1.length + 1) cap) (l1 ++ [false]) v2 l2 := by
  have hob : (Value.slice (some ⟨g, 0, none⟩) (l1.length + 1) cap).ownBlock = some g := rfl
  refine { h with o1 := ?_, o2 := ?_, ne := ?_, kp := ?_, n1 := ?_, bl := ?_ }
  · rw [encs_snoc, List.length_append]; exact ho
  · refine own_move h.o2 (fun k hk => hg.block k (own_lt h.o2 k hk) (fun e => ?_))
    rcases h.ne with h1 | h1
    · rw [h1] at e; cases e
    · exact h1 (by rw [← e, hk])
  · refine .inr (fun e => ?_)
    rw [hob] at e
    have h2 := own_lt h.o2 g e.symm
    rcases hat with h1 | h1
    · rcases h.ne with h3 | h3
      · rw [h3] at h1; cases h1
      · exact h3 (by rw [h1, e])
    · omega
  · exact Kept.of_grown hg h.kp (fun k hk => .inl (.inl hk.symm))
  · intro k hk
    rw [hob] at hk
    injection hk with hk
    subst hk
    rcases hat with h1 | h1
    · exact .inl h1.symm
    · right; have := h.le; omega
  · exact pw_below_grown h.bl _ h.bl.size hg (own_base h.o1)
theorem Two.app2 (h : Two w0 W0 rb vs vg w v1 l1 vg l2) (ho : w1.ownsRow w0.heap.size 4 1 (.slice (some ⟨g, 0, none⟩) (l2.length + 1) cap) (l2.length + 1) (encs Value.bool l2 ++ [.bool false])) (hg : w.grownBy w1 vg.ownBlock) (hat : vg.ownBlock = some g ∨ g = w.heap.size) :
    Two w0 W0 rb vs vg w1 v1 l1 (.slice (some ⟨g, 0, none⟩) (l2.length + 1) cap) (l2 ++ [false]) := by
  have hob : (Value.slice (some ⟨g, 0, none⟩) (l2.length + 1) cap).ownBlock = some g := rfl
  refine { h with o1 := ?_, o2 := ?_, ne := ?_, kp := ?_, n2 := ?_, bl := ?_ }
  · refine own_move h.o1 (fun k hk => hg.block k (own_lt h.o1 k hk) (fun e => ?_))
    rcases h.ne with h1 | h1
    · rw [h1] at hk; cases hk
    · exact h1 (by rw [hk, e])
  · rw [encs_snoc, List.length_append]; exact ho
  · rcases h.ne with h1 | h1
    · exact .inl h1
    · refine .inr (fun e => ?_)
      rw [hob] at e
      have h2 := own_lt h.o1 g e
      rcases hat with h3 | h3
      · exact h1 (by rw [e, h3])
      · omega
  · exact Kept.of_grown hg h.kp (fun k hk => .inl (.inr (.inl hk.symm)))
  · intro k hk
    rw [hob] at hk
    injection hk with hk
    subst hk
    rcases hat with h1 | h1
    · exact .inl h1.symm
    · right; have := h.le; omega
  · exact pw_below_grown h.bl _ h.bl.size hg (own_base h.o2)
theorem Two.keepB1 (h : Two w0 W0 rb vs vg w vs l1 v2 l2) (hb : BK W0 w g) (hg : w.grownBy w1 vs.ownBlock) : BK W0 w1 g :=
  ⟨hb.1, blk_grown hb.2 hg (fun e => by have := h.lt1 g e.symm; have := hb.1; omega)⟩
theorem Two.keepR1 (h : Two w0 W0 rb vs vg w vs l1 v2 l2) (hb : RdrB w rb sv lt x y) (hg : w.grownBy w1 vs.ownBlock) : RdrB w1 rb sv lt x y := blk_grown hb hg h.r1
theorem Two.keepR2 (h : Two w0 W0 rb vs vg w v1 l1 vg l2) (hb : RdrB w rb sv lt x y) (hg : w.grownBy w1 vg.ownBlock) : RdrB w1 rb sv lt x y := blk_grown hb hg h.r2
end
/-- A reader with its rows. -/
structure Rdr (w0 w : World) (rb : Nat) (sv lt : Int) (said good : List Bool) (vs vg : Value) : Prop where
  blk : RdrB w rb sv lt vs vg
  o1 : w.ownsRow w0.heap.size 4 1 vs said.length (encs Value.bool said)
  o2 : w.ownsRow w0.heap.size 4 1 vg good.length (encs Value.bool good)
  ne : vs.ownBlock = none ∨ vs.ownBlock ≠ vg.ownBlock
  bl : Below w0.heap.size w0 w
  rb0 : w0.heap.size ≤ rb
/-- What a reader's work from w to w' leaves. -/
structure Fr (w : World) (rb : Nat) (vs vg : Value) (w' : World) (v1 v2 : Value) : Prop where
  kp : Kept w w' (RS rb vs vg)
  n1 : ∀ k, v1.ownBlock = some k → some k = vs.ownBlock ∨ w.heap.size ≤ k
  n2 : ∀ k, v2.ownBlock = some k → some k = vg.ownBlock ∨ w.heap.size ≤ k
section
variable {w0 w w1 w2 : World} {rb g : Nat} {sv lt : Int} {vs vg v1 v2 x y v : Value} {l1 l2 said good : List Bool}
theorem Fr.refl (w : World) (rb : Nat) (vs vg : Value) : Fr w rb vs vg w vs vg := ⟨Kept.refl _ _, fun _ h => .inl h.symm, fun _ h => .inl h.symm⟩
theorem Fr.trans (h : Fr w rb vs vg w1 v1 v2) (k : Fr w1 rb v1 v2 w2 x y) : Fr w rb vs vg w2 x y := by
  have hle := h.kp.1
  refine ⟨h.kp.then_ k.kp ?_, ?_, ?_⟩
  · rintro j (e | e | e)
    · rcases h.n1 j e.symm with h1 | h1
      · exact .inl (.inl h1)
      · exact .inr h1
    · rcases h.n2 j e.symm with h1 | h1
      · exact .inl (.inr (.inl h1))
      · exact .inr h1
    · exact .inl (.inr (.inr e))
  · intro j e
    rcases k.n1 j e with h1 | h1
    · exact h.n1 j h1.symm
    · exact .inr (by omega)
  · intro j e
    rcases k.n2 j e with h1 | h1
    · exact h.n2 j h1.symm
    · exact .inr (by omega)
theorem Fr.alloc (h : Fr w rb vs vg w1 v1 v2) (o : Obj) : Fr w rb vs vg (w1.alloc o) v1 v2 := ⟨h.kp.alloc o, h.n1, h.n2⟩
theorem Fr.drewN (h : Fr w rb vs vg w1 v1 v2) (m : Nat) : Fr w rb vs vg (w1.drewN m) v1 v2 := ⟨h.kp.drewN m, h.n1, h.n2⟩
theorem Rdr.rne1 (h : Rdr w0 w rb sv lt said good vs vg) : some rb ≠ vs.ownBlock := fun e => by
  obtain ⟨cs, hc⟩ := own_typed h.o1 rb e.symm
  exact blk_ne h.blk hc (by decide) rfl
theorem Rdr.rne2 (h : Rdr w0 w rb sv lt said good vs vg) : some rb ≠ vg.ownBlock := fun e => by
  obtain ⟨cs, hc⟩ := own_typed h.o2 rb e.symm
  exact blk_ne h.blk hc (by decide) rfl
theorem Rdr.below (h : Rdr w0 w rb sv lt said good vs vg) (hb : Below w.heap.size w w1) : Rdr w0 w1 rb sv lt said good vs vg :=
  { h with
    blk := (hb.block _ (blk_lt h.blk)).trans h.blk
    o1 := own_move h.o1 (fun k hk => hb.block k (own_lt h.o1 k hk))
    o2 := own_move h.o2 (fun k hk => hb.block k (own_lt h.o2 k hk))
    bl := h.bl.trans (hb.mono h.bl.size) }
theorem Rdr.alloc (h : Rdr w0 w rb sv lt said good vs vg) (o : Obj) : Rdr w0 (w.alloc o) rb sv lt said good vs vg := h.below (below_alloc (Below.refl _ _) _)
theorem Rdr.drewN (h : Rdr w0 w rb sv lt said good vs vg) (m : Nat) : Rdr w0 (w.drewN m) rb sv lt said good vs vg := h.below (pw_below_drewN (Below.refl _ _) _)
theorem Rdr.two (h : Rdr w0 w rb sv lt said good vs vg) : Two w0 w rb vs vg w vs said vg good :=
  { o1 := h.o1, o2 := h.o2, ne := h.ne, kp := Kept.refl _ _, n1 := fun _ e => .inl e.symm, n2 := fun _ e => .inl e.symm, lt1 := own_lt h.o1, lt2 := own_lt h.o2, rl := blk_lt h.blk, r1 := h.rne1, r2 := h.rne2, bl := h.bl, rb0 := h.rb0 }
theorem Two.rdr (h : Two w0 w rb vs vg w1 v1 l1 v2 l2) (hb : RdrB w1 rb sv lt v1 v2) : Rdr w0 w1 rb sv lt l1 l2 v1 v2 ∧ Fr w rb vs vg w1 v1 v2 :=
  ⟨{ blk := hb, o1 := h.o1, o2 := h.o2, ne := h.ne, bl := h.bl, rb0 := h.rb0 }, ⟨h.kp, h.n1, h.n2⟩⟩
/-- A block that is not the reader's stays. -/
theorem Fr.box (h : Fr w rb vs vg w1 v1 v2) (hR : Rdr w0 w rb sv lt said good vs vg) {o : Obj} (hb : w.heap[g]? = some o) (h1 : some g ≠ vs.ownBlock) (h2 : some g ≠ vg.ownBlock) (h3 : g ≠ rb) : w1.heap[g]? = some o :=
  blk_kept hb h.kp (by rintro (e | e | e) <;> contradiction)
end
theorem own_form {w : World} {base : Nat} {v : Value} {l : List Bool} (h : w.ownsRow base 4 1 v l.length (encs Value.bool l)) : ∃ A c, v = .slice A l.length c ∧ l.length ≤ c := by
  rcases h.2 with ⟨rfl, h0⟩ | ⟨g, cap, cur, rfl, _, _, hc, _⟩
  · exact ⟨none, 0, by rw [h0], by omega⟩
  · exact ⟨_, _, rfl, hc⟩
/-- A cell of a row of one's own: it is there, and may be written. -/
theorem own_put {w : World} {base k : Nat} {v : Value} {l : List Bool} (h : w.ownsRow base 4 1 v l.length (encs Value.bool l)) (hk : k < l.length) :
    ∃ g c, v = .slice (some ⟨g, 0, none⟩) l.length c ∧ base ≤ g ∧ l.length ≤ c ∧ w.cell? ⟨g, k, none⟩ = some (.bool (l.getD k false)) ∧ w.frozen? ⟨g, k, none⟩ = false ∧ ∀ b, (w.setCell ⟨g, k, none⟩ (.bool b)).ownsRow base 4 1 v (l.set k b).length (encs Value.bool (l.set k b)) := by
  rcases h.2 with ⟨_, h0⟩ | ⟨g, cap, cur, rfl, hb, hh, hc, hm, hs, ht⟩
  · omega
  · have hkc : k < cur.size := by omega
    have hcell : cur[k]? = some (.bool (l.getD k false)) := by
      have h1 : (cur.toList.take (l.length * 1))[k]? = some (.bool (l.getD k false)) := by rw [ht]; simp [encs, hk]
      rw [List.getElem?_take_of_lt (by omega)] at h1
      simpa using h1
    refine ⟨g, cap, rfl, hb, hc, (blk_cell hh k).trans hcell, blk_frozen hh k, fun b => ⟨by simp [encs], .inr ⟨g, cap, cur.setIfInBounds k (.bool b), by simp, hb, blk_set hh k _, by simpa using hc, hm, by simpa using hs, ?_⟩⟩⟩
    rw [Array.toList_setIfInBounds, List.length_set, List.take_set, ht]
    simp [encs, List.map_set]
theorem Rdr.put {w0 w : World} {rb k : Nat} {sv lt : Int} {sd gd : List Bool} {x1 x2 : Value} (h : Rdr w0 w rb sv lt sd gd x1 x2) (h1 : k < sd.length) (h2 : k < gd.length) :
    ∃ g1 c1 g2 c2, x1 = .slice (some ⟨g1, 0, none⟩) sd.length c1 ∧ x2 = .slice (some ⟨g2, 0, none⟩) gd.length c2 ∧ g1 ≠ g2 ∧ w.cell? ⟨g1, k, none⟩ = some (.bool (sd.getD k false)) ∧ w.frozen? ⟨g1, k, none⟩ = false ∧ w.cell? ⟨g2, k, none⟩ = some (.bool (gd.getD k false)) ∧ w.frozen? ⟨g2, k, none⟩ = false ∧
      ∀ a b, Rdr w0 ((w.setCell ⟨g1, k, none⟩ (.bool a)).setCell ⟨g2, k, none⟩ (.bool b)) rb sv lt (sd.set k a) (gd.set k b) x1 x2 ∧ Fr w rb x1 x2 ((w.setCell ⟨g1, k, none⟩ (.bool a)).setCell ⟨g2, k, none⟩ (.bool b)) x1 x2 := by
  obtain ⟨g1, c1, e1, b1, l1, p1, q1, s1⟩ := own_put h.o1 h1
  obtain ⟨g2, c2, e2, b2, l2, p2, q2, s2⟩ := own_put h.o2 h2
  have hb1 : x1.ownBlock = some g1 := by rw [e1]; rfl
  have hb2 : x2.ownBlock = some g2 := by rw [e2]; rfl
  have hne : g1 ≠ g2 := by
    rcases h.ne with h3 | h3
    · rw [hb1] at h3; cases h3
    · rw [hb1, hb2] at h3
      exact fun e => h3 (by rw [e])
  refine ⟨g1, c1, g2, c2, e1, e2, hne, p1, q1, p2, q2, fun a b => ⟨?_, ?_⟩⟩
  · have r1 := h.rne1
    have r2 := h.rne2
    rw [hb1] at r1
    rw [hb2] at r2
    refine ⟨?_, ?_, ?_, h.ne, (h.bl.setCell b1 _).setCell b2 _, h.rb0⟩
    · exact blk_far (p := ⟨g2, k, none⟩) (blk_far (p := ⟨g1, k, none⟩) h.blk (fun e => r1 (by rw [e])) _) (fun e => r2 (by rw [e])) _
    · exact own_setCell (p := ⟨g2, k, none⟩) (s1 a) (by rw [hb1]; exact fun e => hne (by injection e with e; exact e.symm)) _
    · have h3 : (w.setCell ⟨g1, k, none⟩ (.bool a)).ownsRow w0.heap.size 4 1 x2 gd.length (encs Value.bool gd) := own_setCell (p := ⟨g1, k, none⟩) h.o2 (by rw [hb2]; exact fun e => hne (by injection e)) _
      obtain ⟨g3, c3, e3, _, _, _, _, s3⟩ := own_put h3 h2
      rw [e2] at e3
      injection e3 with e3 _ _
      injection e3 with e3
      injection e3 with e3
      subst e3
      exact s3 b
  · exact ⟨((Kept.refl w _).setCell (p := ⟨g1, k, none⟩) (.inl (.inl hb1.symm)) _).setCell (p := ⟨g2, k, none⟩) (.inl (.inr (.inl hb2.symm))) _, fun _ e => .inl e.symm, fun _ e => .inl e.symm⟩
/-- The same in any later world that keeps all. -/
theorem Rdr.putL {w0 w : World} {rb k : Nat} {sv lt : Int} {sd gd : List Bool} {x1 x2 : Value} (h : Rdr w0 w rb sv lt sd gd x1 x2) (h1 : k < sd.length) (h2 : k < gd.length) :
    ∃ g1 c1 g2 c2, x1 = .slice (some ⟨g1, 0, none⟩) sd.length c1 ∧ x2 = .slice (some ⟨g2, 0, none⟩) gd.length c2 ∧ g1 ≠ g2 ∧ w.cell? ⟨g1, k, none⟩ = some (.bool (sd.getD k false)) ∧ w.frozen? ⟨g1, k, none⟩ = false ∧ w.cell? ⟨g2, k, none⟩ = some (.bool (gd.getD k false)) ∧ w.frozen? ⟨g2, k, none⟩ = false ∧
      ∀ W, Below w.heap.size w W → ∀ a b, Rdr w0 ((W.setCell ⟨g1, k, none⟩ (.bool a)).setCell ⟨g2, k, none⟩ (.bool b)) rb sv lt (sd.set k a) (gd.set k b) x1 x2 ∧ Fr w rb x1 x2 ((W.setCell ⟨g1, k, none⟩ (.bool a)).setCell ⟨g2, k, none⟩ (.bool b)) x1 x2 := by
  obtain ⟨g1, c1, g2, c2, e1, e2, r⟩ := h.put h1 h2
  refine ⟨g1, c1, g2, c2, e1, e2, r.1, r.2.1, r.2.2.1, r.2.2.2.1, r.2.2.2.2.1, fun W hW a b => ?_⟩
  obtain ⟨g3, c3, g4, c4, e3, e4, s⟩ := (h.below hW).put h1 h2
  have q1 : g3 = g1 := by rw [e1] at e3; injection e3 with e3 _ _; injection e3 with e3; injection e3 with e3; exact e3.symm
  have q2 : g4 = g2 := by rw [e2] at e4; injection e4 with e4 _ _; injection e4 with e4; injection e4 with e4; exact e4.symm
  subst q1 q2
  have s2 := s.2.2.2.2.2 a b
  refine ⟨s2.1, ?_⟩
  have hF : Fr w rb x1 x2 W x1 x2 := ⟨Kept.of_below hW _, fun _ e => .inl e.symm, fun _ e => .inl e.symm⟩
  exact hF.trans s2.2
theorem set_mid (a b : List Bool) (x y : Bool) : (a ++ [x] ++ b).set a.length y = a ++ [y] ++ b := by
  rw [List.append_assoc, List.set_append_right _ _ (Nat.le_refl _), Nat.sub_self]
  simp
end Go.Proofs.Ytegaicoddnmemaa.X

namespace Go.Proofs.Ytegaicoddnmemaa.X
open Go.RowKit Go.Proofs.YtegaicoddnmemaaW.PrintWords Go.Proofs.YtegaicoddnmemaaW.PrintLast Go.Proofs.YtegaicoddnmemaaW.PrintMore
open Go.Proofs.Ytegaicoddnmemaa.P Go.Proofs.Ytegaicoddnmemaa.Evx
set_option linter.unusedSimpArgs false
set_option linter.unusedVariables false
def rdr_value.T4 : Bool × List (List Nat × List Nat) := (true, [([], []), ([], []), ([], []), ([2], [2]), ([3], [3]), ([4], [4]), ([], []), ([5, 6], [5, 6]), ([], []), ([8], [8]), ([9], [9]), ([10], [10]), ([], []), ([11, 12, 7], [11, 12]), ([0, 0, 2, 3, 4, 5, 6, 7, 11, 13], [0]), ([14, 0, 2, 3, 4, 5, 6, 7, 11, 13], [14]), ([15, 7, 13, 0, 2, 3, 4, 5, 6, 7, 11, 13], [7, 15]), ([1, 0, 1, 2, 3, 4, 5, 6, 7, 8, 9, 10, 11, 12, 13, 14, 15, 16], [1]), ([17, 0, 1, 2, 3, 4, 5, 6, 7, 8, 9, 10, 11, 12, 13, 14, 15, 16], [17]), ([18, 13, 16, 0, 1, 2, 3, 4, 5, 6, 7, 8, 9, 10, 11, 12, 13, 14, 15, 16], [13, 18])])
def rdr_value.B4 : List Nat := [0, 0, 0, 4, 12, 28, 0, 124, 0, 256, 768, 1792, 0, 8188, 16381, 32765, 65533, 131071, 262143, 524287]
theorem rdr_value.tab4 : rtab .any (opsOf Try.f52 4) = rdr_value.T4 := by kernel_rfl
theorem rdr_value.bits4 : waitsOk rdr_value.T4.2 rdr_value.B4 = true := by kernel_rfl
def rdr_value.T25 : Bool × List (List Nat × List Nat) := (true, [([], []), ([0], [0]), ([1], [1]), ([2], [2]), ([], []), ([], []), ([5], [5]), ([6], [6]), ([7], [7]), ([], []), ([], []), ([3, 4, 0, 1, 2, 3, 4, 8, 10], [3, 4]), ([11, 10, 0, 1, 2, 3, 4, 8, 10], [10, 11]), ([8, 9, 0, 1, 2, 3, 4, 5, 6, 7, 8, 9, 10, 11, 12], [8, 9]), ([13, 12, 0, 1, 2, 3, 4, 5, 6, 7, 8, 9, 10, 11, 12], [13])])
def rdr_value.B25 : List Nat := [0, 1, 3, 7, 0, 0, 32, 96, 224, 0, 0, 1535, 3583, 8191, 16383]
theorem rdr_value.tab25 : rtab .any (opsOf Try.f52 25) = rdr_value.T25 := by kernel_rfl
theorem rdr_value.bits25 : waitsOk rdr_value.T25.2 rdr_value.B25 = true := by kernel_rfl
def rdr_value.T29 : Bool × List (List Nat × List Nat) := (true, [([], []), ([0], [0]), ([1], [1]), ([2], [2]), ([], []), ([], []), ([5], [5]), ([6], [6]), ([7], [7]), ([], []), ([], []), ([], []), ([11], [11]), ([12], [12]), ([13], [13]), ([13, 14], [13, 14]), ([3, 4, 0, 1, 2, 3, 4, 8, 10], [3, 4]), ([16, 10, 13, 0, 1, 2, 3, 4, 8, 10], [10, 16]), ([8, 9, 0, 1, 2, 3, 4, 5, 6, 7, 8, 9, 10, 11, 12, 13, 14, 15, 16, 17], [8, 9]), ([18, 15, 17, 0, 1, 2, 3, 4, 5, 6, 7, 8, 9, 10, 11, 12, 13, 14, 15, 16, 17], [15, 18])])
def rdr_value.B29 : List Nat := [0, 1, 3, 7, 0, 0, 32, 96, 224, 0, 0, 0, 2048, 6144, 14336, 30720, 1535, 81407, 262143, 524287]
theorem rdr_value.tab29 : rtab .any (opsOf Try.f52 29) = rdr_value.T29 := by kernel_rfl
theorem rdr_value.bits29 : waitsOk rdr_value.T29.2 rdr_value.B29 = true := by kernel_rfl
def rdr_value.T33 : Bool × List (List Nat × List Nat) := (true, [([], []), ([0], [0]), ([1], [1]), ([2], [2]), ([], []), ([], []), ([5], [5]), ([6], [6]), ([7], [7]), ([], []), ([], []), ([], []), ([11], [11]), ([12], [12]), ([13, 12], [12, 13]), ([12, 14], [12, 14]), ([3, 4, 0, 1, 2, 3, 4, 8, 10], [3, 4]), ([16, 10, 12, 0, 1, 2, 3, 4, 8, 10], [10, 16]), ([8, 9, 0, 1, 2, 3, 4, 5, 6, 7, 8, 9, 10, 11, 12, 13, 14, 15, 16, 17], [8, 9]), ([18, 15, 17, 0, 1, 2, 3, 4, 5, 6, 7, 8, 9, 10, 11, 12, 13, 14, 15, 16, 17], [15, 18])])
def rdr_value.B33 : List Nat := [0, 1, 3, 7, 0, 0, 32, 96, 224, 0, 0, 0, 2048, 6144, 14336, 30720, 1535, 73215, 262143, 524287]
theorem rdr_value.tab33 : rtab .any (opsOf Try.f52 33) = rdr_value.T33 := by kernel_rfl
theorem rdr_value.bits33 : waitsOk rdr_value.T33.2 rdr_value.B33 = true := by kernel_rfl
def RdAt (w0 : World) (s : S24) : Prop := ∀ (rb : Nat) (sv lt : Int) (said good : List Bool) (vs vg : Value) (A : Option Addr) (cp : Nat) (w : World), Rdr w0 w rb sv lt said good vs vg → said.length = good.length → said.length + tnS s ≤ 60 → Kd.C k24 w0 A s.f2.length s.f2 → s.f2.length ≤ cp → soundS s = true →
    Calls Try.prog 52 #[.pointer (some ⟨rb, 0, none⟩), .agg #[.int .i64 s.f0, .int .i64 s.f1, .slice A s.f2.length cp]] w fun e w' => e = .returned (.bool (valS sv lt s said.length)) ∧ ∃ v1 v2, Rdr w0 w' rb sv lt (said ++ saidS sv lt s said.length) (good ++ goodS sv lt s said.length) v1 v2 ∧ Fr w rb vs vg w' v1 v2
theorem infoBool0 : (Try.prog.info? 4).map (fun i => (i.zero, i.size, i.bytes)) = some (some (.bool false), 1, 1) := by kernel_rfl
theorem infoB : ∃ i, Try.prog.info? 4 = some i ∧ i.zero = some (.bool false) ∧ i.size = 1 ∧ i.bytes = 1 := by
  obtain ⟨i, hi, hz⟩ := Option.map_eq_some_iff.1 infoBool0
  simp only [Prod.mk.injEq] at hz
  exact ⟨i, hi, hz⟩
set_option maxHeartbeats 8000000 in
set_option maxRecDepth 100000 in
theorem value_calls (w0 : World) (s : S24) (ih : ∀ k ∈ s.f2, RdAt w0 k) : RdAt w0 s := by
  intro rb sv lt said good vs vg A cp w hR hlg hbd hk hc hs
  have huF := Try.underlying24
  have huL := Try.underlying22
  have hur := Try.underlying64
  have hus := Try.underlying45
  obtain ⟨W1, hW1⟩ : ∃ W1, W1 = w.alloc (.cells #[.int .i64 s.f0, .int .i64 s.f1, .slice A s.f2.length cp] 24) := ⟨_, rfl⟩
  have hR1 : Rdr w0 W1 rb sv lt said good vs vg := by rw [hW1]; exact hR.alloc _
  have hF1 : Fr w rb vs vg W1 vs vg := by rw [hW1]; exact (Fr.refl _ _ _ _).alloc _
  have hbx : W1.heap[w.heap.size]? = some (.cells #[.int .i64 s.f0, .int .i64 s.f1, .slice A s.f2.length cp] 24 (0, 0)) := by rw [hW1]; exact heap_alloc_new w _
  have hb1 : some w.heap.size ≠ vs.ownBlock := fun e => Nat.lt_irrefl _ (own_lt hR.o1 _ e.symm)
  have hb2 : some w.heap.size ≠ vg.ownBlock := fun e => Nat.lt_irrefl _ (own_lt hR.o2 _ e.symm)
  have hb3 : w.heap.size ≠ rb := fun e => Nat.lt_irrefl _ (e ▸ blk_lt hR.blk)
  have HBOX := Aside0.mk (fun (w1 : World) (v1 v2 : Value) (h : Fr W1 rb vs vg w1 v1 v2) => h.box hR1 hbx hb1 hb2 hb3)
  have HR1 := Aside0.mk hR1
  have HF1 := Aside0.mk hF1
  have HK := Aside0.mk hk
  have HS := Aside0.mk hs
  have HIH := Aside0.mk ih
  have HLG := Aside0.mk hlg
  have HBD := Aside0.mk hbd
  have HW1 := Aside0.mk hW1
  have hpart := sound_parts hs
  have hk2 := (kids_range s.f0).2
  have hl2 : s.f2.length ≤ 2 := by omega
  have HOP := Aside0.mk (op_cases hpart.1)
  have HM0 := Aside0.mk hpart.2.2
  have x0 : W1.cell? ⟨w.heap.size, 0, none⟩ = some (.int .i64 s.f0) := (blk_cell hbx 0).trans rfl
  have y2 := rdrB_2 hR1.blk
  obtain ⟨A1, c1, hvs, hc1⟩ := own_form hR.o1
  obtain ⟨A2, c2, hvg, hc2⟩ := own_form hR.o2
  subst hvs hvg
  have HEQ := Aside0.mk (And.intro (val_eq sv lt s said.length) (And.intro (said_eq sv lt s said.length) (good_eq sv lt s said.length)))
  have HTN := Aside0.mk (tn_eq s)
  clear hR hk hs ih hlg hbd hR1 hF1 hpart hk2
  go_enter Try.func52, Try.ntmps52
  go_upto_region 1 with fail
  rw [← hW1]
  clear hW1
  go_cut [5] (fun v5 wx => ∃ tm : Bool, v5 = .bool tm ∧ Aside0 (timedS s.f0 = tm) ∧ wx = W1)
  case first =>
    by_cases h6 : 6 ≤ s.f0
    · by_cases h8 : s.f0 ≤ 8
      · have HT := Aside0.mk (show timedS s.f0 = true from by unfold timedS; rw [decide_eq_true h6, decide_eq_true h8]; rfl)
        go_wp2
        go_meet
        exact ⟨_, rfl, HT, rfl⟩
      · have HT := Aside0.mk (show timedS s.f0 = false from by unfold timedS; rw [decide_eq_false h8]; simp)
        go_wp2
        go_meet
        exact ⟨_, rfl, HT, rfl⟩
    · have HT := Aside0.mk (show timedS s.f0 = false from by unfold timedS; rw [decide_eq_false h6]; simp)
      go_wp2
      go_meet
      exact ⟨_, rfl, HT, rfl⟩
  case rest =>
    obtain ⟨tm, rfl, HT, hwc⟩ := hcut
    rw [hwc]
    clear hwc wc
    go_upto_if 28 with fail
    go_cut [] (fun wx => ∃ v1 v2, Aside0 (Rdr w0 wx rb sv lt (said ++ ownE s.f0 false) (good ++ ownE s.f0 false) v1 v2) ∧ Aside0 (Fr W1 rb (.slice A1 said.length c1) (.slice A2 good.length c2) wx v1 v2))
    case first =>
      cases tm with
      | false =>
        have HE := Aside0.mk (show ownE s.f0 false = [] from by unfold ownE; rw [HT.out]; rfl)
        go_wp2
        go_meet
        exact ⟨_, _, ⟨by rw [HE.out, List.append_nil, List.append_nil]; exact HR1.out⟩, ⟨Fr.refl _ _ _ _⟩⟩
      | true =>
        have HE := Aside0.mk (show ownE s.f0 false = [false] from by unfold ownE; rw [HT.out]; rfl)
        have HUS := Aside0.mk hus
        obtain ⟨iB, hiB⟩ := infoB
        have HIB := Aside0.mk hiB
        have GS := Aside0.mk (show W1.heap.size ≤ W1.drew.heap.size from Nat.le_refl _)
        have T0 := Aside0.mk HR1.out.two.drew
        have K0 := Aside0.mk (show RdrB W1.drew rb sv lt (.slice A1 said.length c1) (.slice A2 good.length c2) from HR1.out.blk)
        have HBB := Aside0.mk HR1.out.bl.size
        have hb := HBD.out
        have hg := HLG.out
        have HBD2 := HBD
        replace HBD := Aside0.mk (show (said.length + 1 ≤ maxLen ∧ (said.length + 1) * 1 ≤ 140737488355328) ∧ (good.length + 1 ≤ maxLen ∧ (good.length + 1) * 1 ≤ 140737488355328) from by unfold maxLen; omega)
        clear hiB hb hg
        go_upto_region 4 with fail
        refine start_ (n := 20) (S := fun w' => True) (ds := []) #[false, false, false, false, false, false, false, false, false, false, false, false, false, false, false, false, false, false, false, false] (by kernel_rfl) rfl rfl trivial (fun hHeld => ?_)
        refine with_tabW rdr_value.tab4 rdr_value.bits4 (fun HT_ HW_ => ?_)
        refine pure_ (i := 0) (N := some 29) (v := ?_) (a' := ?_) #[true, false, false, false, false, false, false, false, false, false, false, false, false, false, false, false, false, false, false, false] rfl rfl (any_of HT_.out (by kernel_rfl)) (fun _ _ _ h => h) (Or.inl ⟨by rfl, ?_⟩) ?_ ?_
        rotate_left
        · intro w'
          go_simp
          with_reducible rfl
        rotate_left
        · simp only [Act.put, List.setIfInBounds_toArray, List.set_cons_zero, List.set_cons_succ, i64_w, i32_w]
          rfl
        refine pure_ (i := 1) (N := some 30) (v := ?_) (a' := ?_) #[true, true, false, false, false, false, false, false, false, false, false, false, false, false, false, false, false, false, false, false] rfl rfl (any_of HT_.out (by kernel_rfl)) (fun _ _ _ h => h) (Or.inl ⟨by rfl, ?_⟩) ?_ ?_
        rotate_left
        · intro w'
          go_simp
          with_reducible rfl
        rotate_left
        · simp only [Act.put, List.setIfInBounds_toArray, List.set_cons_zero, List.set_cons_succ, i64_w, i32_w]
          rfl
        refine pure_ (i := 2) (N := some 31) (v := ?_) (a' := ?_) #[true, true, true, false, false, false, false, false, false, false, false, false, false, false, false, false, false, false, false, false] rfl rfl (any_of HT_.out (by kernel_rfl)) (fun _ _ _ h => h) (Or.inl ⟨by rfl, ?_⟩) ?_ ?_
        rotate_left
        · intro w'
          go_simp
          with_reducible rfl
        rotate_left
        · simp only [Act.put, List.setIfInBounds_toArray, List.set_cons_zero, List.set_cons_succ, i64_w, i32_w]
          rfl
        refine pure_ (i := 3) (N := some 32) (v := ?_) (a' := ?_) #[true, true, true, true, false, false, false, false, false, false, false, false, false, false, false, false, false, false, false, false] rfl rfl (any_of HT_.out (by kernel_rfl)) (fun _ _ _ h => h) (Or.inl ⟨by rfl, ?_⟩) ?_ ?_
        rotate_left
        · intro w'
          go_simp
          with_reducible rfl
        rotate_left
        · simp only [Act.put, List.setIfInBounds_toArray, List.set_cons_zero, List.set_cons_succ, i64_w, i32_w]
          rfl
        refine pure_ (i := 4) (N := some 33) (v := ?_) (a' := ?_) #[true, true, true, true, true, false, false, false, false, false, false, false, false, false, false, false, false, false, false, false] rfl rfl (any_of HT_.out (by kernel_rfl)) (fun _ _ _ h => h) (Or.inl ⟨by rfl, ?_⟩) ?_ ?_
        rotate_left
        · intro w'
          go_simp
          with_reducible rfl
        rotate_left
        · simp only [Act.put, List.setIfInBounds_toArray, List.set_cons_zero, List.set_cons_succ, i64_w, i32_w]
          rfl
        refine pure_ (i := 8) (N := some 37) (v := ?_) (a' := ?_) #[true, true, true, true, true, false, false, false, true, false, false, false, false, false, false, false, false, false, false, false] rfl rfl (any_of HT_.out (by kernel_rfl)) (fun _ _ _ h => h) (Or.inl ⟨by rfl, ?_⟩) ?_ ?_
        rotate_left
        · intro w'
          go_simp
          with_reducible rfl
        rotate_left
        · simp only [Act.put, List.setIfInBounds_toArray, List.set_cons_zero, List.set_cons_succ, i64_w, i32_w]
          rfl
        refine pure_ (i := 9) (N := some 38) (v := ?_) (a' := ?_) #[true, true, true, true, true, false, false, false, true, true, false, false, false, false, false, false, false, false, false, false] rfl rfl (any_of HT_.out (by kernel_rfl)) (fun _ _ _ h => h) (Or.inl ⟨by rfl, ?_⟩) ?_ ?_
        rotate_left
        · intro w'
          go_simp
          with_reducible rfl
        rotate_left
        · simp only [Act.put, List.setIfInBounds_toArray, List.set_cons_zero, List.set_cons_succ, i64_w, i32_w]
          rfl
        refine pure_ (i := 10) (N := some 39) (v := ?_) (a' := ?_) #[true, true, true, true, true, false, false, false, true, true, true, false, false, false, false, false, false, false, false, false] rfl rfl (any_of HT_.out (by kernel_rfl)) (fun _ _ _ h => h) (Or.inl ⟨by rfl, ?_⟩) ?_ ?_
        rotate_left
        · intro w'
          go_simp
          with_reducible rfl
        rotate_left
        · simp only [Act.put, List.setIfInBounds_toArray, List.set_cons_zero, List.set_cons_succ, i64_w, i32_w]
          rfl
        refine inv_at [5, 6, 7, 11, 12, 13, 14, 15, 16, 17, 18, 19] (fun a0_ b a w' => ∃ (gb1 : Nat) (gb2 : Nat) (v1 : Value) (v2 : Value) (m6_ : Value) (m12_ : Value), a = putSel a0_ b [(5, 34, .slice A1 said.length c1), (6, 35, m6_), (7, 36, v1), (11, 40, .slice A2 good.length c2), (12, 41, m12_), (13, 42, v2), (14, 43, .pointer (some ⟨rb, 0, none⟩)), (15, 44, .pointer (some ⟨rb, 2, none⟩)), (17, 45, .pointer (some ⟨rb, 0, none⟩)), (18, 46, .pointer (some ⟨rb, 3, none⟩))] ∧ (W1.heap.size ≤ w'.heap.size) ∧ (b 7 = false → Two w0 W1 rb (.slice A1 said.length c1) (.slice A2 good.length c2) w' (.slice A1 said.length c1) said (.slice A2 good.length c2) good) ∧ (b 7 = true → b 13 = false → Two w0 W1 rb (.slice A1 said.length c1) (.slice A2 good.length c2) w' v1 (said ++ [false]) (.slice A2 good.length c2) good) ∧ (b 13 = true → Two w0 W1 rb (.slice A1 said.length c1) (.slice A2 good.length c2) w' v1 (said ++ [false]) v2 (good ++ [false])) ∧ (b 6 = true → b 7 = false → BK W1 w' gb1) ∧ (b 12 = true → b 13 = false → BK W1 w' gb2) ∧ (b 16 = false → RdrB w' rb sv lt (.slice A1 said.length c1) (.slice A2 good.length c2)) ∧ (b 16 = true → b 19 = false → RdrB w' rb sv lt v1 (.slice A2 good.length c2)) ∧ (b 19 = true → RdrB w' rb sv lt v1 v2) ∧ (b 6 = true → (m6_ : Value) = .slice (some ⟨gb1, 0, none⟩) 1 1) ∧ (b 12 = true → (m12_ : Value) = .slice (some ⟨gb2, 0, none⟩) 1 1)) HT_.out HW_.out (by kernel_rfl) (by kernel_rfl) ?_ ?_ ?_
        · exact ⟨0, 0, .bool false, .bool false, .bool false, .bool false, by simp only [putSel, Bool.false_eq_true, if_false], GS.out, fun _ => T0.out, fun h_ => absurd h_ (by decide), fun h_ => absurd h_ (by decide), fun h_ => absurd h_ (by decide), fun h_ => absurd h_ (by decide), fun _ => K0.out, fun h_ => absurd h_ (by decide), fun h_ => absurd h_ (by decide), fun h_ => absurd h_ (by decide), fun h_ => absurd h_ (by decide)⟩
        · skip
          clear GS K0 T0
          refine steps_cons ?_ ?_
          · rintro b a w' ⟨gb1, gb2, v1, v2, m6_, m12_, ha, Q_GS, Q_T0, Q_T1, Q_T2, Q_B1, Q_B2, Q_K0, Q_K1, Q_K2, Q_X6_, Q_X12_⟩ hb_ hon hoff
            refine ⟨_, rfl, fun K hK => ?_⟩
            have e33 : a.tmps[33]? = some (.pointer (some ⟨rb, 2, none⟩)) := by rw [ha]; exact (putSel_off rfl).trans rfl
            replace ha := Aside0.mk ha
            have GS := Aside0.mk Q_GS
            have T0 := Aside0.mk (Q_T0 (hoff 7 (by kernel_rfl)))
            have K0 := Aside0.mk (Q_K0 (hoff 16 (by kernel_rfl)))
            have hk := rdrB_2 K0.out
            refine value_ (w1 := w') (v := .slice A1 said.length c1) (by rfl) rfl ?_ ?_
            · go_simp
              (try simp only [i64_w])
              try rfl
            refine hK.out _ _ ⟨gb1, gb2, v1, v2, m6_, m12_, (by rw [ha.out]; exact putSel_upk 0 hb_ rfl rfl rfl), Q_GS, Q_T0, fun h0_ _ => absurd ((hoff 7 (by kernel_rfl)).symm.trans h0_) (by decide), fun h0_ => absurd ((hoff 13 (by kernel_rfl)).symm.trans h0_) (by decide), Q_B1, Q_B2, Q_K0, fun h0_ _ => absurd ((hoff 16 (by kernel_rfl)).symm.trans h0_) (by decide), fun h0_ => absurd ((hoff 19 (by kernel_rfl)).symm.trans h0_) (by decide), Q_X6_, Q_X12_⟩
          refine steps_cons ?_ ?_
          · rintro b a w' ⟨gb1, gb2, v1, v2, m6_, m12_, ha, Q_GS, Q_T0, Q_T1, Q_T2, Q_B1, Q_B2, Q_K0, Q_K1, Q_K2, Q_X6_, Q_X12_⟩ hb_ hon hoff
            refine ⟨_, rfl, fun K hK => ?_⟩
            replace ha := Aside0.mk ha
            have GS := Aside0.mk Q_GS
            have T0 := Aside0.mk (Q_T0 (hoff 7 (by kernel_rfl)))
            have K0 := Aside0.mk (Q_K0 (hoff 16 (by kernel_rfl)))
            refine value_ (w1 := w'.alloc (.cells #[.bool false] 4)) (v := .slice (some ⟨w'.heap.size, 0, none⟩) 1 1) (by rfl) rfl ?_ ?_
            · go_simp
            refine hK.out _ _ ⟨w'.heap.size, gb2, v1, v2, (.slice (some ⟨w'.heap.size, 0, none⟩) 1 1), m12_, (by rw [ha.out]; exact putSel_upk 1 hb_ rfl rfl rfl), le_alloc GS.out _, fun _ => T0.out.alloc _, fun h0_ _ => absurd ((hoff 7 (by kernel_rfl)).symm.trans h0_) (by decide), fun h0_ => absurd ((hoff 13 (by kernel_rfl)).symm.trans h0_) (by decide), fun _ _ => ⟨GS.out, heap_alloc_new w' _⟩, fun h0_ h1_ => ⟨(Q_B2 h0_ h1_).1, blk_alloc (Q_B2 h0_ h1_).2 _⟩, fun _ => blk_alloc K0.out _, fun h0_ _ => absurd ((hoff 16 (by kernel_rfl)).symm.trans h0_) (by decide), fun h0_ => absurd ((hoff 19 (by kernel_rfl)).symm.trans h0_) (by decide), fun _ => rfl, Q_X12_⟩
          refine steps_cons ?_ ?_
          · rintro b a w' ⟨gb1, gb2, v1, v2, m6_, m12_, ha, Q_GS, Q_T0, Q_T1, Q_T2, Q_B1, Q_B2, Q_K0, Q_K1, Q_K2, Q_X6_, Q_X12_⟩ hb_ hon hoff
            refine ⟨_, rfl, fun K hK => ?_⟩
            have e34 : a.tmps[34]? = some (.slice A1 said.length c1) := by rw [ha]; exact putSel_on (e := (5, 34, .slice A1 said.length c1)) 0 rfl rfl (hon 5 (by kernel_rfl)) rfl
            have e35 : a.tmps[35]? = some (m6_) := by rw [ha]; exact putSel_on (e := (6, 35, m6_)) 1 rfl rfl (hon 6 (by kernel_rfl)) rfl
            rw [Q_X6_ (hon 6 (by kernel_rfl))] at e35
            replace ha := Aside0.mk ha
            have GS := Aside0.mk Q_GS
            have T0 := Aside0.mk (Q_T0 hb_)
            have B1 := Aside0.mk (Q_B1 (hon 6 (by kernel_rfl)) hb_)
            have K0 := Aside0.mk (Q_K0 (hoff 16 (by kernel_rfl)))
            refine step_append_lies _ rfl (.tmp 34) (.tmp 35) 45 (by rfl) w0.heap.size 4 iB (.bool false) 1 1 HUS.out HIB.out.1 HIB.out.2.1 HIB.out.2.2.1 HIB.out.2.2.2 rfl (by decide) (.slice A1 said.length c1) _ _ (eval_of e34) T0.out.o1 ⟨gb1, 0, none⟩ 1 1 [.bool false] (eval_of e35) rfl (World.news_of_block B1.out.2) (by intro u hu; rw [List.mem_singleton.1 hu]; rfl) (by decide) HBD.out.1.1 HBD.out.1.2 (Nat.le_trans HBB.out GS.out) w'.heap.size rfl ?_
            intro g cap w1 hown hgrow hat hlt
            refine hK.out _ _ ⟨gb1, gb2, (.slice (some ⟨g, 0, none⟩) (said.length + 1) cap), v2, m6_, m12_, (by rw [ha.out]; exact putSel_upk 2 hb_ rfl rfl rfl), Nat.le_trans GS.out hgrow.size, fun h0_ => absurd ((up_self b 7).symm.trans h0_) (by decide), fun _ _ => T0.out.app1 hown hgrow hat, fun h0_ => absurd ((hoff 13 (by kernel_rfl)).symm.trans h0_) (by decide), fun _ h1_ => absurd ((up_self b 7).symm.trans h1_) (by decide), fun h0_ h1_ => T0.out.keepB1 (Q_B2 h0_ h1_) hgrow, fun _ => T0.out.keepR1 K0.out hgrow, fun h0_ _ => absurd ((hoff 16 (by kernel_rfl)).symm.trans h0_) (by decide), fun h0_ => absurd ((hoff 19 (by kernel_rfl)).symm.trans h0_) (by decide), Q_X6_, Q_X12_⟩
          refine steps_cons ?_ ?_
          · rintro b a w' ⟨gb1, gb2, v1, v2, m6_, m12_, ha, Q_GS, Q_T0, Q_T1, Q_T2, Q_B1, Q_B2, Q_K0, Q_K1, Q_K2, Q_X6_, Q_X12_⟩ hb_ hon hoff
            refine ⟨_, rfl, fun K hK => ?_⟩
            have e39 : a.tmps[39]? = some (.pointer (some ⟨rb, 3, none⟩)) := by rw [ha]; exact (putSel_off rfl).trans rfl
            replace ha := Aside0.mk ha
            have GS := Aside0.mk Q_GS
            have K0 := Aside0.mk (Q_K0 (hoff 16 (by kernel_rfl)))
            have hk := rdrB_3 K0.out
            refine value_ (w1 := w') (v := .slice A2 good.length c2) (by rfl) rfl ?_ ?_
            · go_simp
              (try simp only [i64_w])
              try rfl
            refine hK.out _ _ ⟨gb1, gb2, v1, v2, m6_, m12_, (by rw [ha.out]; exact putSel_upk 3 hb_ rfl rfl rfl), Q_GS, Q_T0, Q_T1, fun h0_ => absurd ((hoff 13 (by kernel_rfl)).symm.trans h0_) (by decide), Q_B1, Q_B2, Q_K0, fun h0_ _ => absurd ((hoff 16 (by kernel_rfl)).symm.trans h0_) (by decide), fun h0_ => absurd ((hoff 19 (by kernel_rfl)).symm.trans h0_) (by decide), Q_X6_, Q_X12_⟩
          refine steps_cons ?_ ?_
          · rintro b a w' ⟨gb1, gb2, v1, v2, m6_, m12_, ha, Q_GS, Q_T0, Q_T1, Q_T2, Q_B1, Q_B2, Q_K0, Q_K1, Q_K2, Q_X6_, Q_X12_⟩ hb_ hon hoff
            refine ⟨_, rfl, fun K hK => ?_⟩
            replace ha := Aside0.mk ha
            have GS := Aside0.mk Q_GS
            have K0 := Aside0.mk (Q_K0 (hoff 16 (by kernel_rfl)))
            refine value_ (w1 := w'.alloc (.cells #[.bool false] 4)) (v := .slice (some ⟨w'.heap.size, 0, none⟩) 1 1) (by rfl) rfl ?_ ?_
            · go_simp
            refine hK.out _ _ ⟨gb1, w'.heap.size, v1, v2, m6_, (.slice (some ⟨w'.heap.size, 0, none⟩) 1 1), (by rw [ha.out]; exact putSel_upk 4 hb_ rfl rfl rfl), le_alloc GS.out _, fun h0_ => (Q_T0 h0_).alloc _, fun h0_ h1_ => (Q_T1 h0_ h1_).alloc _, fun h0_ => absurd ((hoff 13 (by kernel_rfl)).symm.trans h0_) (by decide), fun h0_ h1_ => ⟨(Q_B1 h0_ h1_).1, blk_alloc (Q_B1 h0_ h1_).2 _⟩, fun _ _ => ⟨GS.out, heap_alloc_new w' _⟩, fun _ => blk_alloc K0.out _, fun h0_ _ => absurd ((hoff 16 (by kernel_rfl)).symm.trans h0_) (by decide), fun h0_ => absurd ((hoff 19 (by kernel_rfl)).symm.trans h0_) (by decide), Q_X6_, fun _ => rfl⟩
          refine steps_cons ?_ ?_
          · rintro b a w' ⟨gb1, gb2, v1, v2, m6_, m12_, ha, Q_GS, Q_T0, Q_T1, Q_T2, Q_B1, Q_B2, Q_K0, Q_K1, Q_K2, Q_X6_, Q_X12_⟩ hb_ hon hoff
            refine ⟨_, rfl, fun K hK => ?_⟩
            have e40 : a.tmps[40]? = some (.slice A2 good.length c2) := by rw [ha]; exact putSel_on (e := (11, 40, .slice A2 good.length c2)) 3 rfl rfl (hon 11 (by kernel_rfl)) rfl
            have e41 : a.tmps[41]? = some (m12_) := by rw [ha]; exact putSel_on (e := (12, 41, m12_)) 4 rfl rfl (hon 12 (by kernel_rfl)) rfl
            rw [Q_X12_ (hon 12 (by kernel_rfl))] at e41
            replace ha := Aside0.mk ha
            have GS := Aside0.mk Q_GS
            have T1 := Aside0.mk (Q_T1 (hon 7 (by kernel_rfl)) hb_)
            have B2 := Aside0.mk (Q_B2 (hon 12 (by kernel_rfl)) hb_)
            have K0 := Aside0.mk (Q_K0 (hoff 16 (by kernel_rfl)))
            refine step_append_lies _ rfl (.tmp 40) (.tmp 41) 45 (by rfl) w0.heap.size 4 iB (.bool false) 1 1 HUS.out HIB.out.1 HIB.out.2.1 HIB.out.2.2.1 HIB.out.2.2.2 rfl (by decide) (.slice A2 good.length c2) _ _ (eval_of e40) T1.out.o2 ⟨gb2, 0, none⟩ 1 1 [.bool false] (eval_of e41) rfl (World.news_of_block B2.out.2) (by intro u hu; rw [List.mem_singleton.1 hu]; rfl) (by decide) HBD.out.2.1 HBD.out.2.2 (Nat.le_trans HBB.out GS.out) w'.heap.size rfl ?_
            intro g cap w1 hown hgrow hat hlt
            refine hK.out _ _ ⟨gb1, gb2, v1, (.slice (some ⟨g, 0, none⟩) (good.length + 1) cap), m6_, m12_, (by rw [ha.out]; exact putSel_upk 5 hb_ rfl rfl rfl), Nat.le_trans GS.out hgrow.size, fun h0_ => absurd ((hon 7 (by kernel_rfl)).symm.trans h0_) (by decide), fun _ h1_ => absurd ((up_self b 13).symm.trans h1_) (by decide), fun _ => T1.out.app2 hown hgrow hat, fun _ h1_ => absurd ((hon 7 (by kernel_rfl)).symm.trans h1_) (by decide), fun _ h1_ => absurd ((up_self b 13).symm.trans h1_) (by decide), fun _ => T1.out.keepR2 K0.out hgrow, fun h0_ _ => absurd ((hoff 16 (by kernel_rfl)).symm.trans h0_) (by decide), fun h0_ => absurd ((hoff 19 (by kernel_rfl)).symm.trans h0_) (by decide), Q_X6_, Q_X12_⟩
          refine steps_cons ?_ ?_
          · rintro b a w' ⟨gb1, gb2, v1, v2, m6_, m12_, ha, Q_GS, Q_T0, Q_T1, Q_T2, Q_B1, Q_B2, Q_K0, Q_K1, Q_K2, Q_X6_, Q_X12_⟩ hb_ hon hoff
            refine ⟨_, rfl, fun K hK => ?_⟩
            have e29 : a.tmps[29]? = some (.pointer (some ⟨rb, 0, none⟩)) := by rw [ha]; exact (putSel_off rfl).trans rfl
            replace ha := Aside0.mk ha
            have GS := Aside0.mk Q_GS
            have T2 := Aside0.mk (Q_T2 (hon 13 (by kernel_rfl)))
            have K0 := Aside0.mk (Q_K0 (hoff 16 (by kernel_rfl)))
            refine value_ (w1 := w') (v := .pointer (some ⟨rb, 0, none⟩)) (by rfl) rfl ?_ ?_
            · go_simp
              (try simp only [i64_w])
              try rfl
            refine hK.out _ _ ⟨gb1, gb2, v1, v2, m6_, m12_, (by rw [ha.out]; exact putSel_upk 6 hb_ rfl rfl rfl), Q_GS, fun h0_ => absurd ((hon 7 (by kernel_rfl)).symm.trans h0_) (by decide), fun _ h1_ => absurd ((hon 13 (by kernel_rfl)).symm.trans h1_) (by decide), Q_T2, fun _ h1_ => absurd ((hon 7 (by kernel_rfl)).symm.trans h1_) (by decide), fun _ h1_ => absurd ((hon 13 (by kernel_rfl)).symm.trans h1_) (by decide), Q_K0, fun h0_ _ => absurd ((hoff 16 (by kernel_rfl)).symm.trans h0_) (by decide), fun h0_ => absurd ((hoff 19 (by kernel_rfl)).symm.trans h0_) (by decide), Q_X6_, Q_X12_⟩
          refine steps_cons ?_ ?_
          · rintro b a w' ⟨gb1, gb2, v1, v2, m6_, m12_, ha, Q_GS, Q_T0, Q_T1, Q_T2, Q_B1, Q_B2, Q_K0, Q_K1, Q_K2, Q_X6_, Q_X12_⟩ hb_ hon hoff
            refine ⟨_, rfl, fun K hK => ?_⟩
            have e43 : a.tmps[43]? = some (.pointer (some ⟨rb, 0, none⟩)) := by rw [ha]; exact putSel_on (e := (14, 43, .pointer (some ⟨rb, 0, none⟩))) 6 rfl rfl (hon 14 (by kernel_rfl)) rfl
            replace ha := Aside0.mk ha
            have GS := Aside0.mk Q_GS
            have T2 := Aside0.mk (Q_T2 (hon 13 (by kernel_rfl)))
            have K0 := Aside0.mk (Q_K0 (hoff 16 (by kernel_rfl)))
            refine value_ (w1 := w') (v := .pointer (some ⟨rb, 2, none⟩)) (by rfl) rfl ?_ ?_
            · go_simp
              (try simp only [i64_w])
              try rfl
            refine hK.out _ _ ⟨gb1, gb2, v1, v2, m6_, m12_, (by rw [ha.out]; exact putSel_upk 7 hb_ rfl rfl rfl), Q_GS, fun h0_ => absurd ((hon 7 (by kernel_rfl)).symm.trans h0_) (by decide), fun _ h1_ => absurd ((hon 13 (by kernel_rfl)).symm.trans h1_) (by decide), Q_T2, fun _ h1_ => absurd ((hon 7 (by kernel_rfl)).symm.trans h1_) (by decide), fun _ h1_ => absurd ((hon 13 (by kernel_rfl)).symm.trans h1_) (by decide), Q_K0, fun h0_ _ => absurd ((hoff 16 (by kernel_rfl)).symm.trans h0_) (by decide), fun h0_ => absurd ((hoff 19 (by kernel_rfl)).symm.trans h0_) (by decide), Q_X6_, Q_X12_⟩
          refine steps_cons ?_ ?_
          · rintro b a w' ⟨gb1, gb2, v1, v2, m6_, m12_, ha, Q_GS, Q_T0, Q_T1, Q_T2, Q_B1, Q_B2, Q_K0, Q_K1, Q_K2, Q_X6_, Q_X12_⟩ hb_ hon hoff
            refine ⟨_, rfl, fun K hK => ?_⟩
            have e44 : a.tmps[44]? = some (.pointer (some ⟨rb, 2, none⟩)) := by rw [ha]; exact putSel_on (e := (15, 44, .pointer (some ⟨rb, 2, none⟩))) 7 rfl rfl (hon 15 (by kernel_rfl)) rfl
            have e36 : a.tmps[36]? = some (v1) := by rw [ha]; exact putSel_on (e := (7, 36, v1)) 2 rfl rfl (hon 7 (by kernel_rfl)) rfl
            replace ha := Aside0.mk ha
            have GS := Aside0.mk Q_GS
            have T2 := Aside0.mk (Q_T2 (hon 13 (by kernel_rfl)))
            have K0 := Aside0.mk (Q_K0 hb_)
            obtain ⟨A_, c_, rfl, _⟩ := own_form T2.out.o1
            have hc := rdrB_2 K0.out
            have hf := blk_frozen K0.out 2
            refine skip_ (w1 := w'.setCell ⟨rb, 2, none⟩ (.slice A_ (said ++ [false]).length c_)) (by rfl) rfl ?_ ?_
            · go_simp
            refine hK.out _ _ ⟨gb1, gb2, (.slice A_ (said ++ [false]).length c_), v2, m6_, m12_, (by rw [ha.out]; exact putSel_none (v := undef) rfl), le_set GS.out _ _, fun h0_ => absurd ((hon 7 (by kernel_rfl)).symm.trans h0_) (by decide), fun _ h1_ => absurd ((hon 13 (by kernel_rfl)).symm.trans h1_) (by decide), fun _ => T2.out.setR _ _, fun _ h1_ => absurd ((hon 7 (by kernel_rfl)).symm.trans h1_) (by decide), fun _ h1_ => absurd ((hon 13 (by kernel_rfl)).symm.trans h1_) (by decide), fun h0_ => absurd ((up_self b 16).symm.trans h0_) (by decide), fun _ _ => rdrB_set2 K0.out _, fun h0_ => absurd ((hoff 19 (by kernel_rfl)).symm.trans h0_) (by decide), Q_X6_, Q_X12_⟩
          refine steps_cons ?_ ?_
          · rintro b a w' ⟨gb1, gb2, v1, v2, m6_, m12_, ha, Q_GS, Q_T0, Q_T1, Q_T2, Q_B1, Q_B2, Q_K0, Q_K1, Q_K2, Q_X6_, Q_X12_⟩ hb_ hon hoff
            refine ⟨_, rfl, fun K hK => ?_⟩
            have e30 : a.tmps[30]? = some (.pointer (some ⟨rb, 0, none⟩)) := by rw [ha]; exact (putSel_off rfl).trans rfl
            replace ha := Aside0.mk ha
            have GS := Aside0.mk Q_GS
            have T2 := Aside0.mk (Q_T2 (hon 13 (by kernel_rfl)))
            have K1 := Aside0.mk (Q_K1 (hon 16 (by kernel_rfl)) (hoff 19 (by kernel_rfl)))
            refine value_ (w1 := w') (v := .pointer (some ⟨rb, 0, none⟩)) (by rfl) rfl ?_ ?_
            · go_simp
              (try simp only [i64_w])
              try rfl
            refine hK.out _ _ ⟨gb1, gb2, v1, v2, m6_, m12_, (by rw [ha.out]; exact putSel_upk 8 hb_ rfl rfl rfl), Q_GS, fun h0_ => absurd ((hon 7 (by kernel_rfl)).symm.trans h0_) (by decide), fun _ h1_ => absurd ((hon 13 (by kernel_rfl)).symm.trans h1_) (by decide), Q_T2, fun _ h1_ => absurd ((hon 7 (by kernel_rfl)).symm.trans h1_) (by decide), fun _ h1_ => absurd ((hon 13 (by kernel_rfl)).symm.trans h1_) (by decide), fun h0_ => absurd ((hon 16 (by kernel_rfl)).symm.trans h0_) (by decide), Q_K1, fun h0_ => absurd ((hoff 19 (by kernel_rfl)).symm.trans h0_) (by decide), Q_X6_, Q_X12_⟩
          refine steps_cons ?_ ?_
          · rintro b a w' ⟨gb1, gb2, v1, v2, m6_, m12_, ha, Q_GS, Q_T0, Q_T1, Q_T2, Q_B1, Q_B2, Q_K0, Q_K1, Q_K2, Q_X6_, Q_X12_⟩ hb_ hon hoff
            refine ⟨_, rfl, fun K hK => ?_⟩
            have e45 : a.tmps[45]? = some (.pointer (some ⟨rb, 0, none⟩)) := by rw [ha]; exact putSel_on (e := (17, 45, .pointer (some ⟨rb, 0, none⟩))) 8 rfl rfl (hon 17 (by kernel_rfl)) rfl
            replace ha := Aside0.mk ha
            have GS := Aside0.mk Q_GS
            have T2 := Aside0.mk (Q_T2 (hon 13 (by kernel_rfl)))
            have K1 := Aside0.mk (Q_K1 (hon 16 (by kernel_rfl)) (hoff 19 (by kernel_rfl)))
            refine value_ (w1 := w') (v := .pointer (some ⟨rb, 3, none⟩)) (by rfl) rfl ?_ ?_
            · go_simp
              (try simp only [i64_w])
              try rfl
            refine hK.out _ _ ⟨gb1, gb2, v1, v2, m6_, m12_, (by rw [ha.out]; exact putSel_upk 9 hb_ rfl rfl rfl), Q_GS, fun h0_ => absurd ((hon 7 (by kernel_rfl)).symm.trans h0_) (by decide), fun _ h1_ => absurd ((hon 13 (by kernel_rfl)).symm.trans h1_) (by decide), Q_T2, fun _ h1_ => absurd ((hon 7 (by kernel_rfl)).symm.trans h1_) (by decide), fun _ h1_ => absurd ((hon 13 (by kernel_rfl)).symm.trans h1_) (by decide), fun h0_ => absurd ((hon 16 (by kernel_rfl)).symm.trans h0_) (by decide), Q_K1, fun h0_ => absurd ((hoff 19 (by kernel_rfl)).symm.trans h0_) (by decide), Q_X6_, Q_X12_⟩
          refine steps_cons ?_ ?_
          · rintro b a w' ⟨gb1, gb2, v1, v2, m6_, m12_, ha, Q_GS, Q_T0, Q_T1, Q_T2, Q_B1, Q_B2, Q_K0, Q_K1, Q_K2, Q_X6_, Q_X12_⟩ hb_ hon hoff
            refine ⟨_, rfl, fun K hK => ?_⟩
            have e46 : a.tmps[46]? = some (.pointer (some ⟨rb, 3, none⟩)) := by rw [ha]; exact putSel_on (e := (18, 46, .pointer (some ⟨rb, 3, none⟩))) 9 rfl rfl (hon 18 (by kernel_rfl)) rfl
            have e42 : a.tmps[42]? = some (v2) := by rw [ha]; exact putSel_on (e := (13, 42, v2)) 5 rfl rfl (hon 13 (by kernel_rfl)) rfl
            replace ha := Aside0.mk ha
            have GS := Aside0.mk Q_GS
            have T2 := Aside0.mk (Q_T2 (hon 13 (by kernel_rfl)))
            have K1 := Aside0.mk (Q_K1 (hon 16 (by kernel_rfl)) hb_)
            obtain ⟨A_, c_, rfl, _⟩ := own_form T2.out.o2
            have hc := rdrB_3 K1.out
            have hf := blk_frozen K1.out 3
            refine skip_ (w1 := w'.setCell ⟨rb, 3, none⟩ (.slice A_ (good ++ [false]).length c_)) (by rfl) rfl ?_ ?_
            · go_simp
            refine hK.out _ _ ⟨gb1, gb2, v1, (.slice A_ (good ++ [false]).length c_), m6_, m12_, (by rw [ha.out]; exact putSel_none (v := undef) rfl), le_set GS.out _ _, fun h0_ => absurd ((hon 7 (by kernel_rfl)).symm.trans h0_) (by decide), fun _ h1_ => absurd ((hon 13 (by kernel_rfl)).symm.trans h1_) (by decide), fun _ => T2.out.setR _ _, fun _ h1_ => absurd ((hon 7 (by kernel_rfl)).symm.trans h1_) (by decide), fun _ h1_ => absurd ((hon 13 (by kernel_rfl)).symm.trans h1_) (by decide), fun h0_ => absurd ((hon 16 (by kernel_rfl)).symm.trans h0_) (by decide), fun _ h1_ => absurd ((up_self b 19).symm.trans h1_) (by decide), fun _ => rdrB_set3 K1.out _, Q_X6_, Q_X12_⟩
          exact steps_nil
        · rintro b a w' hall ⟨gb1, gb2, v1, v2, m6_, m12_, ha, Q_GS, Q_T0, Q_T1, Q_T2, Q_B1, Q_B2, Q_K0, Q_K1, Q_K2, Q_X6_, Q_X12_⟩
          clear GS K0 T0
          have hb5_ := hall 5 (by kernel_rfl)
          have hb6_ := hall 6 (by kernel_rfl)
          have hb7_ := hall 7 (by kernel_rfl)
          have hb11_ := hall 11 (by kernel_rfl)
          have hb12_ := hall 12 (by kernel_rfl)
          have hb13_ := hall 13 (by kernel_rfl)
          have hb14_ := hall 14 (by kernel_rfl)
          have hb15_ := hall 15 (by kernel_rfl)
          have hb16_ := hall 16 (by kernel_rfl)
          have hb17_ := hall 17 (by kernel_rfl)
          have hb18_ := hall 18 (by kernel_rfl)
          have hb19_ := hall 19 (by kernel_rfl)
          subst ha
          obtain rfl := Q_X6_ hb6_
          obtain rfl := Q_X12_ hb12_
          simp only [putSel, hb5_, hb6_, hb7_, hb11_, hb12_, hb13_, hb14_, hb15_, hb16_, hb17_, hb18_, hb19_, if_true, Act.put, List.setIfInBounds_toArray, List.set_cons_zero, List.set_cons_succ]
          have GS := Aside0.mk Q_GS
          clear Q_GS
          clear Q_T0
          clear Q_T1
          have T2 := Aside0.mk (Q_T2 hb13_)
          clear Q_T2
          clear Q_B1
          clear Q_B2
          clear Q_K0
          clear Q_K1
          have K2 := Aside0.mk (Q_K2 hb19_)
          clear Q_K2
          clear hall hb5_ hb6_ hb7_ hb11_ hb12_ hb13_ hb14_ hb15_ hb16_ hb17_ hb18_ hb19_
          go_wp2_with fail
          go_meet
          have hfin := T2.out.rdr K2.out
          exact ⟨v1, v2, ⟨by rw [HE.out]; exact hfin.1⟩, ⟨hfin.2⟩⟩
    case rest =>
      obtain ⟨y1, y2v, HRb, HFb⟩ := hcut
      have hbxc := HBOX.out _ _ _ HFb.out
      have z2 : wc.cell? ⟨w.heap.size, 2, none⟩ = some (.slice A s.f2.length cp) := (blk_cell hbxc 2).trans rfl
      obtain ⟨K, hK⟩ : ∃ K, K = said.length + tS s.f0 := ⟨_, rfl⟩
      have HKD := Aside0.mk hK
      have hsl : (said ++ ownE s.f0 false).length = K := by rw [List.length_append, len_own, hK]
      have hgl : (good ++ ownE s.f0 false).length = K := by rw [List.length_append, len_own, hK, HLG.out]
      have HSL := Aside0.mk hsl
      have HGL := Aside0.mk hgl
      have HLT := Aside0.mk (show K + tnL s.f2 ≤ 60 from by have := HBD.out; have := HTN.out; omega)
      clear hbxc x0 y2 hK hsl hgl
      have hlen := Kd.C_max HK.out
      go_wp2
      go_loopg [50, 7, 8] s.f2.length (fun kq v50 v7 v8 w' => ∃ (j : Nat) (pre sd gd : List Bool) (x1 x2 : Value), j + kq = s.f2.length ∧ v50 = .int .i64 j ∧ v7 = .bool (pre.getD 0 false) ∧ v8 = .bool (pre.getD 1 false) ∧ Aside0 (pre.length = j) ∧ Aside0 (pre ++ valL sv lt (s.f2.drop j) sd.length = valL sv lt s.f2 K) ∧ Aside0 (sd ++ saidL sv lt (s.f2.drop j) sd.length = said ++ ownE s.f0 false ++ saidL sv lt s.f2 K) ∧ Aside0 (gd ++ goodL sv lt (s.f2.drop j) sd.length = good ++ ownE s.f0 false ++ goodL sv lt s.f2 K) ∧ Aside0 (sd.length = gd.length) ∧ Aside0 (sd.length + tnL (s.f2.drop j) = K + tnL s.f2) ∧ Aside0 (Rdr w0 w' rb sv lt sd gd x1 x2) ∧ Aside0 (Fr W1 rb (.slice A1 said.length c1) (.slice A2 good.length c2) w' x1 x2))
      case atStart => exact ⟨0, [], said ++ ownE s.f0 false, good ++ ownE s.f0 false, y1, y2v, by omega, rfl, rfl, rfl, ⟨rfl⟩, ⟨by rw [HSL.out]; rfl⟩, ⟨by rw [HSL.out]; rfl⟩, ⟨by rw [HSL.out]; rfl⟩, ⟨by rw [HSL.out, HGL.out]⟩, ⟨by rw [HSL.out]; rfl⟩, HRb, HFb⟩
      case round =>
        obtain ⟨j, pre, sd, gd, x1, x2, hj, rfl, rfl, rfl, HPL, HPV, HPS, HPG, HLQ, HTQ, HRd, HFd⟩ := hrel
        have HJ := Aside0.mk hj
        clear hj
        by_cases hlt : j < s.f2.length
        · obtain ⟨ad, A3, cp3, e0, hx0, hx1, hx2, hl3, hk3⟩ := kid_at HK.out HRd.out.bl j hlt hlt
          cases e0
          have HK3 := Aside0.mk hk3
          have HL3 := Aside0.mk hl3
          clear hk3 hl3
          have hd := List.drop_eq_getElem_cons hlt
          have HD := Aside0.mk hd
          clear hd
          have htn : sd.length + tnS (s.f2[j]'hlt) ≤ 60 := by
            have h1 := HTQ.out
            rw [HD.out] at h1
            have h2 := HLT.out
            simp only [tnL] at h1
            omega
          have HKK := Aside0.mk (fun W h => HIH.out (s.f2[j]'hlt) (List.getElem_mem hlt) rb sv lt sd gd x1 x2 A3 cp3 W h HLQ.out htn HK3.out HL3.out (sound_kid HS.out j hlt))
          clear htn
          have hPV : (pre ++ [valS sv lt (s.f2[j]'hlt) sd.length]) ++ valL sv lt (s.f2.drop (j + 1)) (sd.length + tnS (s.f2[j]'hlt)) = valL sv lt s.f2 K := by
            rw [← HPV.out, HD.out, valL, List.append_assoc]; rfl
          have hPS : (sd ++ saidS sv lt (s.f2[j]'hlt) sd.length) ++ saidL sv lt (s.f2.drop (j + 1)) (sd.length + tnS (s.f2[j]'hlt)) = said ++ ownE s.f0 false ++ saidL sv lt s.f2 K := by
            rw [← HPS.out, HD.out, saidL, List.append_assoc]
          have hPG : (gd ++ goodS sv lt (s.f2[j]'hlt) sd.length) ++ goodL sv lt (s.f2.drop (j + 1)) (sd.length + tnS (s.f2[j]'hlt)) = good ++ ownE s.f0 false ++ goodL sv lt s.f2 K := by
            rw [← HPG.out, HD.out, goodL, List.append_assoc]
          have hQL : (sd ++ saidS sv lt (s.f2[j]'hlt) sd.length).length = sd.length + tnS (s.f2[j]'hlt) := by rw [List.length_append, len_said]
          have hQG : (gd ++ goodS sv lt (s.f2[j]'hlt) sd.length).length = sd.length + tnS (s.f2[j]'hlt) := by rw [List.length_append, len_good, HLQ.out]
          have hTN : sd.length + tnS (s.f2[j]'hlt) + tnL (s.f2.drop (j + 1)) = K + tnL s.f2 := by rw [← HTQ.out, HD.out, tnL]; omega
          have HPV2 := Aside0.mk hPV
          have HPS2 := Aside0.mk hPS
          have HPG2 := Aside0.mk hPG
          have HQL := Aside0.mk hQL
          have HQG := Aside0.mk hQG
          have HTN2 := Aside0.mk hTN
          clear hPV hPS hPG hQL hQG hTN
          obtain ⟨vv, hvv⟩ : ∃ vv, vv = valS sv lt (s.f2[j]'hlt) sd.length := ⟨_, rfl⟩
          rw [← hvv] at HPV2
          have HVV := Aside0.mk hvv
          clear hvv
          by_cases hj0 : j = 0
          · have hjb : ((j : Int) == 0) = true := by rw [hj0]; rfl
            have hp0 : pre = [] := List.length_eq_zero_iff.1 (by rw [HPL.out, hj0])
            subst hp0
            have HJ0 := Aside0.mk hj0
            clear hj0
            go_wp2_with (go_at_call 52; refine (HKK.out _ (HRd.out.alloc _)).mono ?_; rintro e w2 ⟨rfl, u1, u2, hR2, hF2⟩; have HR2 := Aside0.mk hR2; have HF2 := Aside0.mk (HFd.out.alloc _ |>.trans hF2); clear hR2 hF2; rw [← HVV.out])
            go_roundg (gk - 1)
            case measure => have := HJ.out; omega
            case rel => exact ⟨j + 1, [vv], _, _, u1, u2, by have := HJ.out; omega, by go_num, rfl, rfl, ⟨by rw [HJ0.out]; rfl⟩, ⟨by rw [HQL.out]; exact HPV2.out⟩, ⟨by rw [HQL.out]; exact HPS2.out⟩, ⟨by rw [HQL.out]; exact HPG2.out⟩, ⟨by rw [HQL.out, HQG.out]⟩, ⟨by rw [HQL.out]; exact HTN2.out⟩, HR2, HF2⟩
          · have hjb : ((j : Int) == 0) = false := beq_eq_false_iff_ne.2 (by omega)
            have hj1 : j = 1 := by omega
            obtain ⟨pa, rfl⟩ : ∃ pa, pre = [pa] := List.length_eq_one_iff.1 (by rw [HPL.out, hj1])
            have HJ1 := Aside0.mk hj1
            clear hj1 hj0
            go_wp2_with (go_at_call 52; refine (HKK.out _ (HRd.out.alloc _)).mono ?_; rintro e w2 ⟨rfl, u1, u2, hR2, hF2⟩; have HR2 := Aside0.mk hR2; have HF2 := Aside0.mk (HFd.out.alloc _ |>.trans hF2); clear hR2 hF2; rw [← HVV.out])
            go_roundg (gk - 1)
            case measure => have := HJ.out; omega
            case rel => exact ⟨j + 1, [pa, vv], _, _, u1, u2, by have := HJ.out; omega, by go_num, rfl, rfl, ⟨by rw [HJ1.out]; rfl⟩, ⟨by rw [HQL.out]; exact HPV2.out⟩, ⟨by rw [HQL.out]; exact HPS2.out⟩, ⟨by rw [HQL.out]; exact HPG2.out⟩, ⟨by rw [HQL.out, HQG.out]⟩, ⟨by rw [HQL.out]; exact HTN2.out⟩, HR2, HF2⟩
        · have hdr : s.f2.drop j = [] := List.drop_eq_nil_of_le (by omega)
          have hpv : pre = valL sv lt s.f2 K := by have := HPV.out; rw [hdr, valL, List.append_nil] at this; exact this
          have hps : sd = said ++ ownE s.f0 false ++ saidL sv lt s.f2 K := by have := HPS.out; rw [hdr, saidL, List.append_nil] at this; exact this
          have hpg : gd = good ++ ownE s.f0 false ++ goodL sv lt s.f2 K := by have := HPG.out; rw [hdr, goodL, List.append_nil] at this; exact this
          have hEQ := HEQ.out
          rw [← HKD.out, ← hpv] at hEQ
          obtain ⟨xa, hxa⟩ : ∃ xa, xa = pre.getD 0 false := ⟨_, rfl⟩
          obtain ⟨xb, hxb⟩ : ∃ xb, xb = pre.getD 1 false := ⟨_, rfl⟩
          rw [← hxa, ← hxb] at hEQ
          rw [← hxa, ← hxb]
          have HEQ2 := Aside0.mk hEQ
          have HPS2 := Aside0.mk hps
          have HPG2 := Aside0.mk hpg
          have hbxc := HBOX.out _ _ _ HFd.out
          have z0 : wr.cell? ⟨w.heap.size, 0, none⟩ = some (.int .i64 s.f0) := (blk_cell hbxc 0).trans rfl
          have z1 : wr.cell? ⟨w.heap.size, 1, none⟩ = some (.int .i64 s.f1) := (blk_cell hbxc 1).trans rfl
          have r0 := rdrB_0 HRd.out.blk
          have r1 := rdrB_1 HRd.out.blk
          have r2 := rdrB_2 HRd.out.blk
          have r3 := rdrB_3 HRd.out.blk
          have hkb : said.length ≤ 60 := by have := HBD.out; omega
          clear hdr hpv hps hpg hEQ hxa hxb hbxc
          go_upto_region 14 with fail
          go_cut [12] (fun v12 wx => v12 = .bool (tm && bitK sv said.length) ∧ wx = wr)
          case first =>
            cases tm with
            | false =>
              go_wp2
              go_meet
              exact ⟨rfl, rfl⟩
            | true =>
              go_wp2
              go_meet
              exact ⟨rfl, rfl⟩
          case rest =>
            obtain ⟨rfl, hwc⟩ := hcut
            rw [hwc]
            clear hwc wc
            rcases HOP.out with hop | hop | hop | hop | hop | hop | hop | hop
            · -- op 1
              have hmm := HM0.out
              rw [hop] at z0 hmm
              have htm : tm = false := by rw [← HT.out, hop]; rfl
              subst htm
              have hval : valS sv lt s said.length = (true) := by
                rw [HEQ2.out.1, hop]; unfold valOp
                rw [if_neg (by decide), if_neg (by decide), if_neg (by decide), if_neg (by decide), if_neg (by decide), if_neg (by decide), if_neg (by decide)]
              have HV := Aside0.mk hval
              have hfs : said ++ saidS sv lt s said.length = sd := by rw [HEQ2.out.2.1, HPS2.out, hop]; unfold ownE; rw [if_neg (by decide), if_neg (by decide), List.append_nil, List.nil_append]
              have hfg : good ++ goodS sv lt s said.length = gd := by rw [HEQ2.out.2.2, HPG2.out, hop]; unfold ownE; rw [if_neg (by decide), if_neg (by decide), List.append_nil, List.nil_append]
              have HFS := Aside0.mk hfs
              have HFG := Aside0.mk hfg
              clear hval hfs hfg
              clear hmm
              go_wp2
              go_ret
              exact ⟨by rw [HV.out]; rfl, x1, x2, by rw [HFS.out, HFG.out]; exact HRd.out, HF1.out.trans HFd.out⟩
            · -- op 2
              have hmm := HM0.out
              rw [hop] at z0 hmm
              have htm : tm = false := by rw [← HT.out, hop]; rfl
              subst htm
              have hval : valS sv lt s said.length = (bitS lt s.f1) := by
                rw [HEQ2.out.1, hop]; unfold valOp
                rw [if_pos rfl]
              have HV := Aside0.mk hval
              have hfs : said ++ saidS sv lt s said.length = sd := by rw [HEQ2.out.2.1, HPS2.out, hop]; unfold ownE; rw [if_neg (by decide), if_neg (by decide), List.append_nil, List.nil_append]
              have hfg : good ++ goodS sv lt s said.length = gd := by rw [HEQ2.out.2.2, HPG2.out, hop]; unfold ownE; rw [if_neg (by decide), if_neg (by decide), List.append_nil, List.nil_append]
              have HFS := Aside0.mk hfs
              have HFG := Aside0.mk hfg
              clear hval hfs hfg
              have hm2 : mostS 2 = 19 := by decide
              have hw : IntKind.u64.wrap s.f1 = s.f1 := u64_id hmm.1 (by omega)
              have HBT := Aside0.mk (show bitS lt s.f1 = ((Go.bits .and .u32 (lt / 2 ^ s.f1.toNat) 1) == 1) from by unfold bitS; rw [hw, ← shr_small (k := .u32) (x := lt) (y := s.f1) rfl (by show s.f1 ≤ 32; omega)])
              have hm0 := hmm.1
              have hm1 : s.f1 < 32 := by omega
              clear hw hm2 hmm
              go_wp2
              go_quiet (fail)
              go_wp2
              go_ret
              exact ⟨by rw [HV.out, HBT.out]; rfl, x1, x2, by rw [HFS.out, HFG.out]; exact HRd.out.drewN _, (HF1.out.trans HFd.out).drewN _⟩
            · -- op 3
              have hmm := HM0.out
              rw [hop] at z0 hmm
              have htm : tm = false := by rw [← HT.out, hop]; rfl
              subst htm
              have hval : valS sv lt s said.length = (!xa) := by
                rw [HEQ2.out.1, hop]; unfold valOp
                rw [if_neg (by decide), if_pos rfl]
              have HV := Aside0.mk hval
              have hfs : said ++ saidS sv lt s said.length = sd := by rw [HEQ2.out.2.1, HPS2.out, hop]; unfold ownE; rw [if_neg (by decide), if_neg (by decide), List.append_nil, List.nil_append]
              have hfg : good ++ goodS sv lt s said.length = gd := by rw [HEQ2.out.2.2, HPG2.out, hop]; unfold ownE; rw [if_neg (by decide), if_neg (by decide), List.append_nil, List.nil_append]
              have HFS := Aside0.mk hfs
              have HFG := Aside0.mk hfg
              clear hval hfs hfg
              clear hmm
              go_wp2
              go_ret
              exact ⟨by rw [HV.out]; rfl, x1, x2, by rw [HFS.out, HFG.out]; exact HRd.out, HF1.out.trans HFd.out⟩
            · -- op 4
              have hmm := HM0.out
              rw [hop] at z0 hmm
              have htm : tm = false := by rw [← HT.out, hop]; rfl
              subst htm
              have hval : valS sv lt s said.length = (xa && xb) := by
                rw [HEQ2.out.1, hop]; unfold valOp
                rw [if_neg (by decide), if_neg (by decide), if_pos rfl]
              have HV := Aside0.mk hval
              have hfs : said ++ saidS sv lt s said.length = sd := by rw [HEQ2.out.2.1, HPS2.out, hop]; unfold ownE; rw [if_neg (by decide), if_neg (by decide), List.append_nil, List.nil_append]
              have hfg : good ++ goodS sv lt s said.length = gd := by rw [HEQ2.out.2.2, HPG2.out, hop]; unfold ownE; rw [if_neg (by decide), if_neg (by decide), List.append_nil, List.nil_append]
              have HFS := Aside0.mk hfs
              have HFG := Aside0.mk hfg
              clear hval hfs hfg
              clear hmm
              cases xa
              · go_wp2
                go_ret
                exact ⟨by rw [HV.out]; rfl, x1, x2, by rw [HFS.out, HFG.out]; exact HRd.out, HF1.out.trans HFd.out⟩
              · go_wp2
                go_ret
                exact ⟨by rw [HV.out]; rfl, x1, x2, by rw [HFS.out, HFG.out]; exact HRd.out, HF1.out.trans HFd.out⟩
            · -- op 5
              have hmm := HM0.out
              rw [hop] at z0 hmm
              have htm : tm = false := by rw [← HT.out, hop]; rfl
              subst htm
              have hval : valS sv lt s said.length = (xa || xb) := by
                rw [HEQ2.out.1, hop]; unfold valOp
                rw [if_neg (by decide), if_neg (by decide), if_neg (by decide), if_pos rfl]
              have HV := Aside0.mk hval
              have hfs : said ++ saidS sv lt s said.length = sd := by rw [HEQ2.out.2.1, HPS2.out, hop]; unfold ownE; rw [if_neg (by decide), if_neg (by decide), List.append_nil, List.nil_append]
              have hfg : good ++ goodS sv lt s said.length = gd := by rw [HEQ2.out.2.2, HPG2.out, hop]; unfold ownE; rw [if_neg (by decide), if_neg (by decide), List.append_nil, List.nil_append]
              have HFS := Aside0.mk hfs
              have HFG := Aside0.mk hfg
              clear hval hfs hfg
              clear hmm
              cases xa
              · go_wp2
                go_ret
                exact ⟨by rw [HV.out]; rfl, x1, x2, by rw [HFS.out, HFG.out]; exact HRd.out, HF1.out.trans HFd.out⟩
              · go_wp2
                go_ret
                exact ⟨by rw [HV.out]; rfl, x1, x2, by rw [HFS.out, HFG.out]; exact HRd.out, HF1.out.trans HFd.out⟩
            · -- op 6
              have hmm := HM0.out
              rw [hop] at z0 hmm
              have htm : tm = true := by rw [← HT.out, hop]; rfl
              subst htm
              have hval : valS sv lt s said.length = (bitK sv said.length) := by
                rw [HEQ2.out.1, hop]; unfold valOp
                rw [if_neg (by decide), if_neg (by decide), if_neg (by decide), if_neg (by decide), if_pos rfl]
              have HV := Aside0.mk hval
              have hlsd : said.length < sd.length := by rw [HPS2.out, List.length_append, List.length_append, len_own, hop]; have : tS 6 = 1 := rfl; omega
              have hlgd : said.length < gd.length := by rw [← HLQ.out]; exact hlsd
              have hfs : said ++ saidS sv lt s said.length = sd.set said.length xa := by
                have h1 : ∀ b, ownE 6 b = [b] := fun b => rfl
                rw [HEQ2.out.2.1, HPS2.out, hval, hop, h1, h1, set_mid, List.append_assoc]; rfl
              have hfg : good ++ goodS sv lt s said.length = gd.set said.length true := by
                have h1 : ∀ b, ownE 6 b = [b] := fun b => rfl
                rw [HEQ2.out.2.2, HPG2.out, hval, hop, h1, h1, HLG.out, set_mid, List.append_assoc]; rfl
              have HFS := Aside0.mk hfs
              have HFG := Aside0.mk hfg
              obtain ⟨g1, q1, g2, q2, rfl, rfl, hne, p1, f1, p2, f2, hput⟩ := HRd.out.putL hlsd hlgd
              have HPUT := Aside0.mk hput
              have i0 : (0 : Int) ≤ (said.length : Int) := by omega
              have i1 : (said.length : Int) < (sd.length : Int) := by omega
              have i2 : (said.length : Int) < (gd.length : Int) := by omega
              have hne2 : ¬ g2 = g1 := fun e => hne e.symm
              generalize bitK sv said.length = bk at *
              clear hval hfs hfg hput hmm
              have hr1 : ¬ rb = g1 := fun e => HRd.out.rne1 (by rw [e]; rfl)
              have hr2 : ¬ rb = g2 := fun e => HRd.out.rne2 (by rw [e]; rfl)
              go_upto_region 25 with fail
              refine start_ (n := 15) (S := fun w' => w'.cell? ⟨rb, 2, none⟩ = some (.slice (some ⟨g1, 0, none⟩) sd.length q1) ∧ w'.cell? ⟨rb, 3, none⟩ = some (.slice (some ⟨g2, 0, none⟩) gd.length q2)) (ds := [12, 14]) #[false, false, false, false, false, false, false, false, false, false, false, false, false, false, false] (by kernel_rfl) rfl rfl ⟨r2, r3⟩ (fun hHeld => ?_)
              refine with_tabW rdr_value.tab25 rdr_value.bits25 (fun HT_ HW_ => ?_)
              refine pure_ (i := 0) (N := some 107) (v := ?_) (a' := ?_) #[true, false, false, false, false, false, false, false, false, false, false, false, false, false, false] rfl rfl (any_of HT_.out (by kernel_rfl)) (fun _ _ _ h => h) (Or.inl ⟨by rfl, ?_⟩) ?_ ?_
              rotate_left
              · intro w'
                go_simp
                with_reducible rfl
              rotate_left
              · simp only [Act.put, List.setIfInBounds_toArray, List.set_cons_zero, List.set_cons_succ, i64_w, i32_w]
                rfl
              refine pure_ (i := 1) (N := some 108) (v := ?_) (a' := ?_) #[true, true, false, false, false, false, false, false, false, false, false, false, false, false, false] rfl rfl (any_of HT_.out (by kernel_rfl)) (fun _ _ _ h => h) (Or.inl ⟨by rfl, ?_⟩) ?_ ?_
              rotate_left
              · intro w'
                go_simp
                with_reducible rfl
              rotate_left
              · simp only [Act.put, List.setIfInBounds_toArray, List.set_cons_zero, List.set_cons_succ, i64_w, i32_w]
                rfl
              refine pure_ (i := 2) (N := some 109) (v := ?_) (a' := ?_) #[true, true, true, false, false, false, false, false, false, false, false, false, false, false, false] rfl rfl (any_of HT_.out (by kernel_rfl)) (fun _ _ _ h => h) (Or.inl ⟨by rfl, ?_⟩) ?_ ?_
              rotate_left
              · intro w'
                go_simp
                with_reducible rfl
              rotate_left
              · simp only [Act.put, List.setIfInBounds_toArray, List.set_cons_zero, List.set_cons_succ, i64_w, i32_w]
                rfl
              refine pure_ (i := 4) (N := some 111) (v := ?_) (a' := ?_) #[true, true, true, false, true, false, false, false, false, false, false, false, false, false, false] rfl rfl (any_of HT_.out (by kernel_rfl)) (fun _ _ _ h => h) (Or.inl ⟨by rfl, ?_⟩) ?_ ?_
              rotate_left
              · intro w'
                go_simp
                with_reducible rfl
              rotate_left
              · simp only [Act.put, List.setIfInBounds_toArray, List.set_cons_zero, List.set_cons_succ, i64_w, i32_w]
                rfl
              refine pure_ (i := 5) (N := some 112) (v := ?_) (a' := ?_) #[true, true, true, false, true, true, false, false, false, false, false, false, false, false, false] rfl rfl (any_of HT_.out (by kernel_rfl)) (fun _ _ _ h => h) (Or.inl ⟨by rfl, ?_⟩) ?_ ?_
              rotate_left
              · intro w'
                go_simp
                with_reducible rfl
              rotate_left
              · simp only [Act.put, List.setIfInBounds_toArray, List.set_cons_zero, List.set_cons_succ, i64_w, i32_w]
                rfl
              refine pure_ (i := 6) (N := some 113) (v := ?_) (a' := ?_) #[true, true, true, false, true, true, true, false, false, false, false, false, false, false, false] rfl rfl (any_of HT_.out (by kernel_rfl)) (fun _ _ _ h => h) (Or.inl ⟨by rfl, ?_⟩) ?_ ?_
              rotate_left
              · intro w'
                go_simp
                with_reducible rfl
              rotate_left
              · simp only [Act.put, List.setIfInBounds_toArray, List.set_cons_zero, List.set_cons_succ, i64_w, i32_w]
                rfl
              refine pure_ (i := 7) (N := some 114) (v := ?_) (a' := ?_) #[true, true, true, false, true, true, true, true, false, false, false, false, false, false, false] rfl rfl (any_of HT_.out (by kernel_rfl)) (fun _ _ _ h => h) (Or.inl ⟨by rfl, ?_⟩) ?_ ?_
              rotate_left
              · intro w'
                go_simp
                with_reducible rfl
              rotate_left
              · simp only [Act.put, List.setIfInBounds_toArray, List.set_cons_zero, List.set_cons_succ, i64_w, i32_w]
                rfl
              refine pure_ (i := 9) (N := some 116) (v := ?_) (a' := ?_) #[true, true, true, false, true, true, true, true, false, true, false, false, false, false, false] rfl rfl (any_of HT_.out (by kernel_rfl)) (fun _ _ _ h => h) (Or.inl ⟨by rfl, ?_⟩) ?_ ?_
              rotate_left
              · intro w'
                go_simp
                with_reducible rfl
              rotate_left
              · simp only [Act.put, List.setIfInBounds_toArray, List.set_cons_zero, List.set_cons_succ, i64_w, i32_w]
                rfl
              refine pure_ (i := 10) (N := some 117) (v := ?_) (a' := ?_) #[true, true, true, false, true, true, true, true, false, true, true, false, false, false, false] rfl rfl (any_of HT_.out (by kernel_rfl)) (fun _ _ _ h => h) (Or.inl ⟨by rfl, ?_⟩) ?_ ?_
              rotate_left
              · intro w'
                go_simp
                with_reducible rfl
              rotate_left
              · simp only [Act.put, List.setIfInBounds_toArray, List.set_cons_zero, List.set_cons_succ, i64_w, i32_w]
                rfl
              refine take_ (i := 3) (N := some 110) (v := ?_) (a' := ?_) #[true, true, true, true, true, true, true, true, false, true, true, false, false, false, false] rfl rfl (take_ofW HT_.out HW_.out (by kernel_rfl)) (fun _ _ _ h => h) (Or.inl ⟨by rfl, ?_⟩) hHeld ?_ ?_
              rotate_left
              · rintro w' ⟨s0, s1⟩
                go_simp
                with_reducible rfl
              rotate_left
              · simp only [Act.put, List.setIfInBounds_toArray, List.set_cons_zero, List.set_cons_succ, i64_w, i32_w]
                rfl
              refine take_ (i := 8) (N := some 115) (v := ?_) (a' := ?_) #[true, true, true, true, true, true, true, true, true, true, true, false, false, false, false] rfl rfl (take_ofW HT_.out HW_.out (by kernel_rfl)) (fun _ _ _ h => h) (Or.inl ⟨by rfl, ?_⟩) hHeld ?_ ?_
              rotate_left
              · rintro w' ⟨s0, s1⟩
                go_simp
                with_reducible rfl
              rotate_left
              · simp only [Act.put, List.setIfInBounds_toArray, List.set_cons_zero, List.set_cons_succ, i64_w, i32_w]
                rfl
              refine pure_ (i := 11) (N := some 118) (v := ?_) (a' := ?_) #[true, true, true, true, true, true, true, true, true, true, true, true, false, false, false] rfl rfl (any_of HT_.out (by kernel_rfl)) (fun _ _ _ h => h) (Or.inl ⟨by rfl, ?_⟩) ?_ ?_
              rotate_left
              · intro w'
                go_simp
                with_reducible rfl
              rotate_left
              · simp only [Act.put, List.setIfInBounds_toArray, List.set_cons_zero, List.set_cons_succ, i64_w, i32_w]
                rfl
              refine last_ (i := 12) (N := none) #[true, true, true, true, true, true, true, true, true, true, true, true, true, false, false] rfl rfl (one_of HT_.out (by kernel_rfl)) (by decide) (fun K hK => ?_)
              refine skip_ (w1 := ?_) (by rfl) rfl ?_ ?_
              rotate_left
              · go_simp
                rfl
              refine hK.out _ _ ?_
              clear hK K
              refine pure_ (i := 13) (N := some 119) (v := ?_) (a' := ?_) #[true, true, true, true, true, true, true, true, true, true, true, true, true, true, false] rfl rfl (any_of HT_.out (by kernel_rfl)) (fun _ _ _ h => h) (Or.inl ⟨by rfl, ?_⟩) ?_ ?_
              rotate_left
              · intro w'
                go_simp
                with_reducible rfl
              rotate_left
              · simp only [Act.put, List.setIfInBounds_toArray, List.set_cons_zero, List.set_cons_succ, i64_w, i32_w]
                rfl
              refine last_ (i := 14) (N := none) #[true, true, true, true, true, true, true, true, true, true, true, true, true, true, true] rfl rfl (one_of HT_.out (by kernel_rfl)) (by decide) (fun K hK => ?_)
              refine skip_ (w1 := ?_) (by rfl) rfl ?_ ?_
              rotate_left
              · go_simp
                rfl
              refine hK.out _ _ ?_
              clear hK K
              refine done_ (done_of HT_.out (by kernel_rfl)) ?_
              go_wp2
              go_ret
              exact ⟨by rw [HV.out]; rfl, _, _, by rw [HFS.out, HFG.out]; exact (HPUT.out _ (below_drew1 (Below.refl _ _)) xa true).1, (HF1.out.trans HFd.out).trans (HPUT.out _ (below_drew1 (Below.refl _ _)) xa true).2⟩
            · -- op 7
              have hmm := HM0.out
              rw [hop] at z0 hmm
              have htm : tm = true := by rw [← HT.out, hop]; rfl
              subst htm
              have hval : valS sv lt s said.length = (xb || xa && bitK sv said.length) := by
                rw [HEQ2.out.1, hop]; unfold valOp
                rw [if_neg (by decide), if_neg (by decide), if_neg (by decide), if_neg (by decide), if_neg (by decide), if_pos rfl]
              have HV := Aside0.mk hval
              have hlsd : said.length < sd.length := by rw [HPS2.out, List.length_append, List.length_append, len_own, hop]; have : tS 7 = 1 := rfl; omega
              have hlgd : said.length < gd.length := by rw [← HLQ.out]; exact hlsd
              have hfs : said ++ saidS sv lt s said.length = sd.set said.length (xb || xa && bitK sv said.length) := by
                have h1 : ∀ b, ownE 7 b = [b] := fun b => rfl
                rw [HEQ2.out.2.1, HPS2.out, hval, hop, h1, h1, set_mid, List.append_assoc]; rfl
              have hfg : good ++ goodS sv lt s said.length = gd.set said.length (!(xb || xa && bitK sv said.length) || xb) := by
                have h1 : ∀ b, ownE 7 b = [b] := fun b => rfl
                rw [HEQ2.out.2.2, HPG2.out, hval, hop, h1, h1, HLG.out, set_mid, List.append_assoc]; rfl
              have HFS := Aside0.mk hfs
              have HFG := Aside0.mk hfg
              obtain ⟨g1, q1, g2, q2, rfl, rfl, hne, p1, f1, p2, f2, hput⟩ := HRd.out.putL hlsd hlgd
              have HPUT := Aside0.mk hput
              have i0 : (0 : Int) ≤ (said.length : Int) := by omega
              have i1 : (said.length : Int) < (sd.length : Int) := by omega
              have i2 : (said.length : Int) < (gd.length : Int) := by omega
              have hne2 : ¬ g2 = g1 := fun e => hne e.symm
              generalize bitK sv said.length = bk at *
              clear hval hfs hfg hput hmm
              have hr1 : ¬ rb = g1 := fun e => HRd.out.rne1 (by rw [e]; rfl)
              have hr2 : ¬ rb = g2 := fun e => HRd.out.rne2 (by rw [e]; rfl)
              go_upto_region 28 with fail
              go_cut [13] (fun v13 wx => v13 = .bool (xb || xa && bk) ∧ wx = wr)
              case first =>
                cases xb <;> cases xa <;> (
                  go_wp2
                  go_meet
                  exact ⟨by first | rfl | (cases bk <;> rfl), rfl⟩)
              case rest =>
                obtain ⟨rfl, hwc⟩ := hcut
                rw [hwc]
                clear hwc wc
                generalize (xb || xa && bk) = is at *
                cases is with
                | false =>
                  go_upto_region 29 with fail
                  refine start_ (n := 20) (S := fun w' => w'.cell? ⟨rb, 2, none⟩ = some (.slice (some ⟨g1, 0, none⟩) sd.length q1) ∧ w'.cell? ⟨rb, 3, none⟩ = some (.slice (some ⟨g2, 0, none⟩) gd.length q2)) (ds := [17, 19]) #[false, false, false, false, false, false, false, false, false, false, false, false, false, false, false, false, false, false, false, false] (by kernel_rfl) rfl rfl ⟨r2, r3⟩ (fun hHeld => ?_)
                  refine with_tabW rdr_value.tab29 rdr_value.bits29 (fun HT_ HW_ => ?_)
                  refine pure_ (i := 0) (N := some 130) (v := ?_) (a' := ?_) #[true, false, false, false, false, false, false, false, false, false, false, false, false, false, false, false, false, false, false, false] rfl rfl (any_of HT_.out (by kernel_rfl)) (fun _ _ _ h => h) (Or.inl ⟨by rfl, ?_⟩) ?_ ?_
                  rotate_left
                  · intro w'
                    go_simp
                    with_reducible rfl
                  rotate_left
                  · simp only [Act.put, List.setIfInBounds_toArray, List.set_cons_zero, List.set_cons_succ, i64_w, i32_w]
                    rfl
                  refine pure_ (i := 1) (N := some 131) (v := ?_) (a' := ?_) #[true, true, false, false, false, false, false, false, false, false, false, false, false, false, false, false, false, false, false, false] rfl rfl (any_of HT_.out (by kernel_rfl)) (fun _ _ _ h => h) (Or.inl ⟨by rfl, ?_⟩) ?_ ?_
                  rotate_left
                  · intro w'
                    go_simp
                    with_reducible rfl
                  rotate_left
                  · simp only [Act.put, List.setIfInBounds_toArray, List.set_cons_zero, List.set_cons_succ, i64_w, i32_w]
                    rfl
                  refine pure_ (i := 2) (N := some 132) (v := ?_) (a' := ?_) #[true, true, true, false, false, false, false, false, false, false, false, false, false, false, false, false, false, false, false, false] rfl rfl (any_of HT_.out (by kernel_rfl)) (fun _ _ _ h => h) (Or.inl ⟨by rfl, ?_⟩) ?_ ?_
                  rotate_left
                  · intro w'
                    go_simp
                    with_reducible rfl
                  rotate_left
                  · simp only [Act.put, List.setIfInBounds_toArray, List.set_cons_zero, List.set_cons_succ, i64_w, i32_w]
                    rfl
                  refine pure_ (i := 4) (N := some 134) (v := ?_) (a' := ?_) #[true, true, true, false, true, false, false, false, false, false, false, false, false, false, false, false, false, false, false, false] rfl rfl (any_of HT_.out (by kernel_rfl)) (fun _ _ _ h => h) (Or.inl ⟨by rfl, ?_⟩) ?_ ?_
                  rotate_left
                  · intro w'
                    go_simp
                    with_reducible rfl
                  rotate_left
                  · simp only [Act.put, List.setIfInBounds_toArray, List.set_cons_zero, List.set_cons_succ, i64_w, i32_w]
                    rfl
                  refine pure_ (i := 5) (N := some 135) (v := ?_) (a' := ?_) #[true, true, true, false, true, true, false, false, false, false, false, false, false, false, false, false, false, false, false, false] rfl rfl (any_of HT_.out (by kernel_rfl)) (fun _ _ _ h => h) (Or.inl ⟨by rfl, ?_⟩) ?_ ?_
                  rotate_left
                  · intro w'
                    go_simp
                    with_reducible rfl
                  rotate_left
                  · simp only [Act.put, List.setIfInBounds_toArray, List.set_cons_zero, List.set_cons_succ, i64_w, i32_w]
                    rfl
                  refine pure_ (i := 6) (N := some 136) (v := ?_) (a' := ?_) #[true, true, true, false, true, true, true, false, false, false, false, false, false, false, false, false, false, false, false, false] rfl rfl (any_of HT_.out (by kernel_rfl)) (fun _ _ _ h => h) (Or.inl ⟨by rfl, ?_⟩) ?_ ?_
                  rotate_left
                  · intro w'
                    go_simp
                    with_reducible rfl
                  rotate_left
                  · simp only [Act.put, List.setIfInBounds_toArray, List.set_cons_zero, List.set_cons_succ, i64_w, i32_w]
                    rfl
                  refine pure_ (i := 7) (N := some 137) (v := ?_) (a' := ?_) #[true, true, true, false, true, true, true, true, false, false, false, false, false, false, false, false, false, false, false, false] rfl rfl (any_of HT_.out (by kernel_rfl)) (fun _ _ _ h => h) (Or.inl ⟨by rfl, ?_⟩) ?_ ?_
                  rotate_left
                  · intro w'
                    go_simp
                    with_reducible rfl
                  rotate_left
                  · simp only [Act.put, List.setIfInBounds_toArray, List.set_cons_zero, List.set_cons_succ, i64_w, i32_w]
                    rfl
                  refine pure_ (i := 9) (N := some 139) (v := ?_) (a' := ?_) #[true, true, true, false, true, true, true, true, false, true, false, false, false, false, false, false, false, false, false, false] rfl rfl (any_of HT_.out (by kernel_rfl)) (fun _ _ _ h => h) (Or.inl ⟨by rfl, ?_⟩) ?_ ?_
                  rotate_left
                  · intro w'
                    go_simp
                    with_reducible rfl
                  rotate_left
                  · simp only [Act.put, List.setIfInBounds_toArray, List.set_cons_zero, List.set_cons_succ, i64_w, i32_w]
                    rfl
                  refine pure_ (i := 10) (N := some 140) (v := ?_) (a' := ?_) #[true, true, true, false, true, true, true, true, false, true, true, false, false, false, false, false, false, false, false, false] rfl rfl (any_of HT_.out (by kernel_rfl)) (fun _ _ _ h => h) (Or.inl ⟨by rfl, ?_⟩) ?_ ?_
                  rotate_left
                  · intro w'
                    go_simp
                    with_reducible rfl
                  rotate_left
                  · simp only [Act.put, List.setIfInBounds_toArray, List.set_cons_zero, List.set_cons_succ, i64_w, i32_w]
                    rfl
                  refine pure_ (i := 11) (N := some 141) (v := ?_) (a' := ?_) #[true, true, true, false, true, true, true, true, false, true, true, true, false, false, false, false, false, false, false, false] rfl rfl (any_of HT_.out (by kernel_rfl)) (fun _ _ _ h => h) (Or.inl ⟨by rfl, ?_⟩) ?_ ?_
                  rotate_left
                  · intro w'
                    go_simp
                    with_reducible rfl
                  rotate_left
                  · simp only [Act.put, List.setIfInBounds_toArray, List.set_cons_zero, List.set_cons_succ, i64_w, i32_w]
                    rfl
                  refine pure_ (i := 12) (N := some 142) (v := ?_) (a' := ?_) #[true, true, true, false, true, true, true, true, false, true, true, true, true, false, false, false, false, false, false, false] rfl rfl (any_of HT_.out (by kernel_rfl)) (fun _ _ _ h => h) (Or.inl ⟨by rfl, ?_⟩) ?_ ?_
                  rotate_left
                  · intro w'
                    go_simp
                    with_reducible rfl
                  rotate_left
                  · simp only [Act.put, List.setIfInBounds_toArray, List.set_cons_zero, List.set_cons_succ, i64_w, i32_w]
                    rfl
                  refine pure_ (i := 13) (N := some 143) (v := ?_) (a' := ?_) #[true, true, true, false, true, true, true, true, false, true, true, true, true, true, false, false, false, false, false, false] rfl rfl (any_of HT_.out (by kernel_rfl)) (fun _ _ _ h => h) (Or.inl ⟨by rfl, ?_⟩) ?_ ?_
                  rotate_left
                  · intro w'
                    go_simp
                    with_reducible rfl
                  rotate_left
                  · simp only [Act.put, List.setIfInBounds_toArray, List.set_cons_zero, List.set_cons_succ, i64_w, i32_w]
                    rfl
                  refine pure_ (i := 14) (N := some 144) (v := undef) (a' := ?_) #[true, true, true, false, true, true, true, true, false, true, true, true, true, true, true, false, false, false, false, false] rfl rfl (any_of HT_.out (by kernel_rfl)) (fun _ _ _ h => h) (Or.inr ⟨by rfl, rfl⟩) ?_ ?_
                  rotate_left
                  · simp only [Act.put, List.setIfInBounds_toArray, List.set_cons_zero, List.set_cons_succ, i64_w, i32_w]
                    rfl
                  refine pure_ (i := 15) (N := some 145) (v := ?_) (a' := ?_) #[true, true, true, false, true, true, true, true, false, true, true, true, true, true, true, true, false, false, false, false] rfl rfl (any_of HT_.out (by kernel_rfl)) (fun _ _ _ h => h) (Or.inl ⟨by rfl, ?_⟩) ?_ ?_
                  rotate_left
                  · intro w'
                    go_simp
                    with_reducible rfl
                  rotate_left
                  · simp only [Act.put, List.setIfInBounds_toArray, List.set_cons_zero, List.set_cons_succ, i64_w, i32_w]
                    rfl
                  refine take_ (i := 3) (N := some 133) (v := ?_) (a' := ?_) #[true, true, true, true, true, true, true, true, false, true, true, true, true, true, true, true, false, false, false, false] rfl rfl (take_ofW HT_.out HW_.out (by kernel_rfl)) (fun _ _ _ h => h) (Or.inl ⟨by rfl, ?_⟩) hHeld ?_ ?_
                  rotate_left
                  · rintro w' ⟨s0, s1⟩
                    go_simp
                    with_reducible rfl
                  rotate_left
                  · simp only [Act.put, List.setIfInBounds_toArray, List.set_cons_zero, List.set_cons_succ, i64_w, i32_w]
                    rfl
                  refine take_ (i := 8) (N := some 138) (v := ?_) (a' := ?_) #[true, true, true, true, true, true, true, true, true, true, true, true, true, true, true, true, false, false, false, false] rfl rfl (take_ofW HT_.out HW_.out (by kernel_rfl)) (fun _ _ _ h => h) (Or.inl ⟨by rfl, ?_⟩) hHeld ?_ ?_
                  rotate_left
                  · rintro w' ⟨s0, s1⟩
                    go_simp
                    with_reducible rfl
                  rotate_left
                  · simp only [Act.put, List.setIfInBounds_toArray, List.set_cons_zero, List.set_cons_succ, i64_w, i32_w]
                    rfl
                  refine pure_ (i := 16) (N := some 146) (v := ?_) (a' := ?_) #[true, true, true, true, true, true, true, true, true, true, true, true, true, true, true, true, true, false, false, false] rfl rfl (any_of HT_.out (by kernel_rfl)) (fun _ _ _ h => h) (Or.inl ⟨by rfl, ?_⟩) ?_ ?_
                  rotate_left
                  · intro w'
                    go_simp
                    with_reducible rfl
                  rotate_left
                  · simp only [Act.put, List.setIfInBounds_toArray, List.set_cons_zero, List.set_cons_succ, i64_w, i32_w]
                    rfl
                  refine last_ (i := 17) (N := none) #[true, true, true, true, true, true, true, true, true, true, true, true, true, true, true, true, true, true, false, false] rfl rfl (one_of HT_.out (by kernel_rfl)) (by decide) (fun K hK => ?_)
                  refine skip_ (w1 := ?_) (by rfl) rfl ?_ ?_
                  rotate_left
                  · go_simp
                    rfl
                  refine hK.out _ _ ?_
                  clear hK K
                  refine pure_ (i := 18) (N := some 147) (v := ?_) (a' := ?_) #[true, true, true, true, true, true, true, true, true, true, true, true, true, true, true, true, true, true, true, false] rfl rfl (any_of HT_.out (by kernel_rfl)) (fun _ _ _ h => h) (Or.inl ⟨by rfl, ?_⟩) ?_ ?_
                  rotate_left
                  · intro w'
                    go_simp
                    with_reducible rfl
                  rotate_left
                  · simp only [Act.put, List.setIfInBounds_toArray, List.set_cons_zero, List.set_cons_succ, i64_w, i32_w]
                    rfl
                  refine last_ (i := 19) (N := none) #[true, true, true, true, true, true, true, true, true, true, true, true, true, true, true, true, true, true, true, true] rfl rfl (one_of HT_.out (by kernel_rfl)) (by decide) (fun K hK => ?_)
                  refine skip_ (w1 := ?_) (by rfl) rfl ?_ ?_
                  rotate_left
                  · go_simp
                    rfl
                  refine hK.out _ _ ?_
                  clear hK K
                  refine done_ (done_of HT_.out (by kernel_rfl)) ?_
                  go_wp2
                  go_ret
                  exact ⟨by rw [HV.out]; rfl, _, _, by rw [HFS.out, HFG.out]; exact (HPUT.out _ (below_drew1 (Below.refl _ _)) _ _).1, (HF1.out.trans HFd.out).trans (HPUT.out _ (below_drew1 (Below.refl _ _)) _ _).2⟩
                | true =>
                  go_upto_region 29 with fail
                  refine start_ (n := 20) (S := fun w' => w'.cell? ⟨rb, 2, none⟩ = some (.slice (some ⟨g1, 0, none⟩) sd.length q1) ∧ w'.cell? ⟨rb, 3, none⟩ = some (.slice (some ⟨g2, 0, none⟩) gd.length q2)) (ds := [17, 19]) #[false, false, false, false, false, false, false, false, false, false, false, false, false, false, false, false, false, false, false, false] (by kernel_rfl) rfl rfl ⟨r2, r3⟩ (fun hHeld => ?_)
                  refine with_tabW rdr_value.tab29 rdr_value.bits29 (fun HT_ HW_ => ?_)
                  refine pure_ (i := 0) (N := some 130) (v := ?_) (a' := ?_) #[true, false, false, false, false, false, false, false, false, false, false, false, false, false, false, false, false, false, false, false] rfl rfl (any_of HT_.out (by kernel_rfl)) (fun _ _ _ h => h) (Or.inl ⟨by rfl, ?_⟩) ?_ ?_
                  rotate_left
                  · intro w'
                    go_simp
                    with_reducible rfl
                  rotate_left
                  · simp only [Act.put, List.setIfInBounds_toArray, List.set_cons_zero, List.set_cons_succ, i64_w, i32_w]
                    rfl
                  refine pure_ (i := 1) (N := some 131) (v := ?_) (a' := ?_) #[true, true, false, false, false, false, false, false, false, false, false, false, false, false, false, false, false, false, false, false] rfl rfl (any_of HT_.out (by kernel_rfl)) (fun _ _ _ h => h) (Or.inl ⟨by rfl, ?_⟩) ?_ ?_
                  rotate_left
                  · intro w'
                    go_simp
                    with_reducible rfl
                  rotate_left
                  · simp only [Act.put, List.setIfInBounds_toArray, List.set_cons_zero, List.set_cons_succ, i64_w, i32_w]
                    rfl
                  refine pure_ (i := 2) (N := some 132) (v := ?_) (a' := ?_) #[true, true, true, false, false, false, false, false, false, false, false, false, false, false, false, false, false, false, false, false] rfl rfl (any_of HT_.out (by kernel_rfl)) (fun _ _ _ h => h) (Or.inl ⟨by rfl, ?_⟩) ?_ ?_
                  rotate_left
                  · intro w'
                    go_simp
                    with_reducible rfl
                  rotate_left
                  · simp only [Act.put, List.setIfInBounds_toArray, List.set_cons_zero, List.set_cons_succ, i64_w, i32_w]
                    rfl
                  refine pure_ (i := 4) (N := some 134) (v := ?_) (a' := ?_) #[true, true, true, false, true, false, false, false, false, false, false, false, false, false, false, false, false, false, false, false] rfl rfl (any_of HT_.out (by kernel_rfl)) (fun _ _ _ h => h) (Or.inl ⟨by rfl, ?_⟩) ?_ ?_
                  rotate_left
                  · intro w'
                    go_simp
                    with_reducible rfl
                  rotate_left
                  · simp only [Act.put, List.setIfInBounds_toArray, List.set_cons_zero, List.set_cons_succ, i64_w, i32_w]
                    rfl
                  refine pure_ (i := 5) (N := some 135) (v := ?_) (a' := ?_) #[true, true, true, false, true, true, false, false, false, false, false, false, false, false, false, false, false, false, false, false] rfl rfl (any_of HT_.out (by kernel_rfl)) (fun _ _ _ h => h) (Or.inl ⟨by rfl, ?_⟩) ?_ ?_
                  rotate_left
                  · intro w'
                    go_simp
                    with_reducible rfl
                  rotate_left
                  · simp only [Act.put, List.setIfInBounds_toArray, List.set_cons_zero, List.set_cons_succ, i64_w, i32_w]
                    rfl
                  refine pure_ (i := 6) (N := some 136) (v := ?_) (a' := ?_) #[true, true, true, false, true, true, true, false, false, false, false, false, false, false, false, false, false, false, false, false] rfl rfl (any_of HT_.out (by kernel_rfl)) (fun _ _ _ h => h) (Or.inl ⟨by rfl, ?_⟩) ?_ ?_
                  rotate_left
                  · intro w'
                    go_simp
                    with_reducible rfl
                  rotate_left
                  · simp only [Act.put, List.setIfInBounds_toArray, List.set_cons_zero, List.set_cons_succ, i64_w, i32_w]
                    rfl
                  refine pure_ (i := 7) (N := some 137) (v := ?_) (a' := ?_) #[true, true, true, false, true, true, true, true, false, false, false, false, false, false, false, false, false, false, false, false] rfl rfl (any_of HT_.out (by kernel_rfl)) (fun _ _ _ h => h) (Or.inl ⟨by rfl, ?_⟩) ?_ ?_
                  rotate_left
                  · intro w'
                    go_simp
                    with_reducible rfl
                  rotate_left
                  · simp only [Act.put, List.setIfInBounds_toArray, List.set_cons_zero, List.set_cons_succ, i64_w, i32_w]
                    rfl
                  refine pure_ (i := 9) (N := some 139) (v := ?_) (a' := ?_) #[true, true, true, false, true, true, true, true, false, true, false, false, false, false, false, false, false, false, false, false] rfl rfl (any_of HT_.out (by kernel_rfl)) (fun _ _ _ h => h) (Or.inl ⟨by rfl, ?_⟩) ?_ ?_
                  rotate_left
                  · intro w'
                    go_simp
                    with_reducible rfl
                  rotate_left
                  · simp only [Act.put, List.setIfInBounds_toArray, List.set_cons_zero, List.set_cons_succ, i64_w, i32_w]
                    rfl
                  refine pure_ (i := 10) (N := some 140) (v := ?_) (a' := ?_) #[true, true, true, false, true, true, true, true, false, true, true, false, false, false, false, false, false, false, false, false] rfl rfl (any_of HT_.out (by kernel_rfl)) (fun _ _ _ h => h) (Or.inl ⟨by rfl, ?_⟩) ?_ ?_
                  rotate_left
                  · intro w'
                    go_simp
                    with_reducible rfl
                  rotate_left
                  · simp only [Act.put, List.setIfInBounds_toArray, List.set_cons_zero, List.set_cons_succ, i64_w, i32_w]
                    rfl
                  refine pure_ (i := 11) (N := some 141) (v := ?_) (a' := ?_) #[true, true, true, false, true, true, true, true, false, true, true, true, false, false, false, false, false, false, false, false] rfl rfl (any_of HT_.out (by kernel_rfl)) (fun _ _ _ h => h) (Or.inl ⟨by rfl, ?_⟩) ?_ ?_
                  rotate_left
                  · intro w'
                    go_simp
                    with_reducible rfl
                  rotate_left
                  · simp only [Act.put, List.setIfInBounds_toArray, List.set_cons_zero, List.set_cons_succ, i64_w, i32_w]
                    rfl
                  refine pure_ (i := 12) (N := some 142) (v := ?_) (a' := ?_) #[true, true, true, false, true, true, true, true, false, true, true, true, true, false, false, false, false, false, false, false] rfl rfl (any_of HT_.out (by kernel_rfl)) (fun _ _ _ h => h) (Or.inl ⟨by rfl, ?_⟩) ?_ ?_
                  rotate_left
                  · intro w'
                    go_simp
                    with_reducible rfl
                  rotate_left
                  · simp only [Act.put, List.setIfInBounds_toArray, List.set_cons_zero, List.set_cons_succ, i64_w, i32_w]
                    rfl
                  refine pure_ (i := 13) (N := some 143) (v := ?_) (a' := ?_) #[true, true, true, false, true, true, true, true, false, true, true, true, true, true, false, false, false, false, false, false] rfl rfl (any_of HT_.out (by kernel_rfl)) (fun _ _ _ h => h) (Or.inl ⟨by rfl, ?_⟩) ?_ ?_
                  rotate_left
                  · intro w'
                    go_simp
                    with_reducible rfl
                  rotate_left
                  · simp only [Act.put, List.setIfInBounds_toArray, List.set_cons_zero, List.set_cons_succ, i64_w, i32_w]
                    rfl
                  refine pure_ (i := 14) (N := some 144) (v := ?_) (a' := ?_) #[true, true, true, false, true, true, true, true, false, true, true, true, true, true, true, false, false, false, false, false] rfl rfl (any_of HT_.out (by kernel_rfl)) (fun _ _ _ h => h) (Or.inl ⟨by rfl, ?_⟩) ?_ ?_
                  rotate_left
                  · intro w'
                    go_simp
                    with_reducible rfl
                  rotate_left
                  · simp only [Act.put, List.setIfInBounds_toArray, List.set_cons_zero, List.set_cons_succ, i64_w, i32_w]
                    rfl
                  refine pure_ (i := 15) (N := some 145) (v := ?_) (a' := ?_) #[true, true, true, false, true, true, true, true, false, true, true, true, true, true, true, true, false, false, false, false] rfl rfl (any_of HT_.out (by kernel_rfl)) (fun _ _ _ h => h) (Or.inl ⟨by rfl, ?_⟩) ?_ ?_
                  rotate_left
                  · intro w'
                    go_simp
                    with_reducible rfl
                  rotate_left
                  · simp only [Act.put, List.setIfInBounds_toArray, List.set_cons_zero, List.set_cons_succ, i64_w, i32_w]
                    rfl
                  refine take_ (i := 3) (N := some 133) (v := ?_) (a' := ?_) #[true, true, true, true, true, true, true, true, false, true, true, true, true, true, true, true, false, false, false, false] rfl rfl (take_ofW HT_.out HW_.out (by kernel_rfl)) (fun _ _ _ h => h) (Or.inl ⟨by rfl, ?_⟩) hHeld ?_ ?_
                  rotate_left
                  · rintro w' ⟨s0, s1⟩
                    go_simp
                    with_reducible rfl
                  rotate_left
                  · simp only [Act.put, List.setIfInBounds_toArray, List.set_cons_zero, List.set_cons_succ, i64_w, i32_w]
                    rfl
                  refine take_ (i := 8) (N := some 138) (v := ?_) (a' := ?_) #[true, true, true, true, true, true, true, true, true, true, true, true, true, true, true, true, false, false, false, false] rfl rfl (take_ofW HT_.out HW_.out (by kernel_rfl)) (fun _ _ _ h => h) (Or.inl ⟨by rfl, ?_⟩) hHeld ?_ ?_
                  rotate_left
                  · rintro w' ⟨s0, s1⟩
                    go_simp
                    with_reducible rfl
                  rotate_left
                  · simp only [Act.put, List.setIfInBounds_toArray, List.set_cons_zero, List.set_cons_succ, i64_w, i32_w]
                    rfl
                  refine pure_ (i := 16) (N := some 146) (v := ?_) (a' := ?_) #[true, true, true, true, true, true, true, true, true, true, true, true, true, true, true, true, true, false, false, false] rfl rfl (any_of HT_.out (by kernel_rfl)) (fun _ _ _ h => h) (Or.inl ⟨by rfl, ?_⟩) ?_ ?_
                  rotate_left
                  · intro w'
                    go_simp
                    with_reducible rfl
                  rotate_left
                  · simp only [Act.put, List.setIfInBounds_toArray, List.set_cons_zero, List.set_cons_succ, i64_w, i32_w]
                    rfl
                  refine last_ (i := 17) (N := none) #[true, true, true, true, true, true, true, true, true, true, true, true, true, true, true, true, true, true, false, false] rfl rfl (one_of HT_.out (by kernel_rfl)) (by decide) (fun K hK => ?_)
                  refine skip_ (w1 := ?_) (by rfl) rfl ?_ ?_
                  rotate_left
                  · go_simp
                    rfl
                  refine hK.out _ _ ?_
                  clear hK K
                  refine pure_ (i := 18) (N := some 147) (v := ?_) (a' := ?_) #[true, true, true, true, true, true, true, true, true, true, true, true, true, true, true, true, true, true, true, false] rfl rfl (any_of HT_.out (by kernel_rfl)) (fun _ _ _ h => h) (Or.inl ⟨by rfl, ?_⟩) ?_ ?_
                  rotate_left
                  · intro w'
                    go_simp
                    with_reducible rfl
                  rotate_left
                  · simp only [Act.put, List.setIfInBounds_toArray, List.set_cons_zero, List.set_cons_succ, i64_w, i32_w]
                    rfl
                  refine last_ (i := 19) (N := none) #[true, true, true, true, true, true, true, true, true, true, true, true, true, true, true, true, true, true, true, true] rfl rfl (one_of HT_.out (by kernel_rfl)) (by decide) (fun K hK => ?_)
                  refine skip_ (w1 := ?_) (by rfl) rfl ?_ ?_
                  rotate_left
                  · go_simp
                    rfl
                  refine hK.out _ _ ?_
                  clear hK K
                  refine done_ (done_of HT_.out (by kernel_rfl)) ?_
                  go_wp2
                  go_ret
                  exact ⟨by rw [HV.out]; rfl, _, _, by rw [HFS.out, HFG.out]; exact (HPUT.out _ (below_drew1 (Below.refl _ _)) _ _).1, (HF1.out.trans HFd.out).trans (HPUT.out _ (below_drew1 (Below.refl _ _)) _ _).2⟩
            · -- op 8
              have hmm := HM0.out
              rw [hop] at z0 hmm
              have htm : tm = true := by rw [← HT.out, hop]; rfl
              subst htm
              have hval : valS sv lt s said.length = (xb && (xa || bitK sv said.length)) := by
                rw [HEQ2.out.1, hop]; unfold valOp
                rw [if_neg (by decide), if_neg (by decide), if_neg (by decide), if_neg (by decide), if_neg (by decide), if_neg (by decide), if_pos rfl]
              have HV := Aside0.mk hval
              have hlsd : said.length < sd.length := by rw [HPS2.out, List.length_append, List.length_append, len_own, hop]; have : tS 8 = 1 := rfl; omega
              have hlgd : said.length < gd.length := by rw [← HLQ.out]; exact hlsd
              have hfs : said ++ saidS sv lt s said.length = sd.set said.length (xb && (xa || bitK sv said.length)) := by
                have h1 : ∀ b, ownE 8 b = [b] := fun b => rfl
                rw [HEQ2.out.2.1, HPS2.out, hval, hop, h1, h1, set_mid, List.append_assoc]; rfl
              have hfg : good ++ goodS sv lt s said.length = gd.set said.length ((xb && (xa || bitK sv said.length)) || !xb) := by
                have h1 : ∀ b, ownE 8 b = [b] := fun b => rfl
                rw [HEQ2.out.2.2, HPG2.out, hval, hop, h1, h1, HLG.out, set_mid, List.append_assoc]; rfl
              have HFS := Aside0.mk hfs
              have HFG := Aside0.mk hfg
              obtain ⟨g1, q1, g2, q2, rfl, rfl, hne, p1, f1, p2, f2, hput⟩ := HRd.out.putL hlsd hlgd
              have HPUT := Aside0.mk hput
              have i0 : (0 : Int) ≤ (said.length : Int) := by omega
              have i1 : (said.length : Int) < (sd.length : Int) := by omega
              have i2 : (said.length : Int) < (gd.length : Int) := by omega
              have hne2 : ¬ g2 = g1 := fun e => hne e.symm
              generalize bitK sv said.length = bk at *
              clear hval hfs hfg hput hmm
              have hr1 : ¬ rb = g1 := fun e => HRd.out.rne1 (by rw [e]; rfl)
              have hr2 : ¬ rb = g2 := fun e => HRd.out.rne2 (by rw [e]; rfl)
              go_upto_region 32 with fail
              go_cut [14] (fun v13 wx => v13 = .bool (xb && (xa || bk)) ∧ wx = wr)
              case first =>
                cases xb <;> cases xa <;> (
                  go_wp2
                  go_meet
                  exact ⟨by first | rfl | (cases bk <;> rfl), rfl⟩)
              case rest =>
                obtain ⟨rfl, hwc⟩ := hcut
                rw [hwc]
                clear hwc wc
                generalize (xb && (xa || bk)) = is at *
                cases is with
                | false =>
                  go_upto_region 33 with fail
                  refine start_ (n := 20) (S := fun w' => w'.cell? ⟨rb, 2, none⟩ = some (.slice (some ⟨g1, 0, none⟩) sd.length q1) ∧ w'.cell? ⟨rb, 3, none⟩ = some (.slice (some ⟨g2, 0, none⟩) gd.length q2)) (ds := [17, 19]) #[false, false, false, false, false, false, false, false, false, false, false, false, false, false, false, false, false, false, false, false] (by kernel_rfl) rfl rfl ⟨r2, r3⟩ (fun hHeld => ?_)
                  refine with_tabW rdr_value.tab33 rdr_value.bits33 (fun HT_ HW_ => ?_)
                  refine pure_ (i := 0) (N := some 158) (v := ?_) (a' := ?_) #[true, false, false, false, false, false, false, false, false, false, false, false, false, false, false, false, false, false, false, false] rfl rfl (any_of HT_.out (by kernel_rfl)) (fun _ _ _ h => h) (Or.inl ⟨by rfl, ?_⟩) ?_ ?_
                  rotate_left
                  · intro w'
                    go_simp
                    with_reducible rfl
                  rotate_left
                  · simp only [Act.put, List.setIfInBounds_toArray, List.set_cons_zero, List.set_cons_succ, i64_w, i32_w]
                    rfl
                  refine pure_ (i := 1) (N := some 159) (v := ?_) (a' := ?_) #[true, true, false, false, false, false, false, false, false, false, false, false, false, false, false, false, false, false, false, false] rfl rfl (any_of HT_.out (by kernel_rfl)) (fun _ _ _ h => h) (Or.inl ⟨by rfl, ?_⟩) ?_ ?_
                  rotate_left
                  · intro w'
                    go_simp
                    with_reducible rfl
                  rotate_left
                  · simp only [Act.put, List.setIfInBounds_toArray, List.set_cons_zero, List.set_cons_succ, i64_w, i32_w]
                    rfl
                  refine pure_ (i := 2) (N := some 160) (v := ?_) (a' := ?_) #[true, true, true, false, false, false, false, false, false, false, false, false, false, false, false, false, false, false, false, false] rfl rfl (any_of HT_.out (by kernel_rfl)) (fun _ _ _ h => h) (Or.inl ⟨by rfl, ?_⟩) ?_ ?_
                  rotate_left
                  · intro w'
                    go_simp
                    with_reducible rfl
                  rotate_left
                  · simp only [Act.put, List.setIfInBounds_toArray, List.set_cons_zero, List.set_cons_succ, i64_w, i32_w]
                    rfl
                  refine pure_ (i := 4) (N := some 162) (v := ?_) (a' := ?_) #[true, true, true, false, true, false, false, false, false, false, false, false, false, false, false, false, false, false, false, false] rfl rfl (any_of HT_.out (by kernel_rfl)) (fun _ _ _ h => h) (Or.inl ⟨by rfl, ?_⟩) ?_ ?_
                  rotate_left
                  · intro w'
                    go_simp
                    with_reducible rfl
                  rotate_left
                  · simp only [Act.put, List.setIfInBounds_toArray, List.set_cons_zero, List.set_cons_succ, i64_w, i32_w]
                    rfl
                  refine pure_ (i := 5) (N := some 163) (v := ?_) (a' := ?_) #[true, true, true, false, true, true, false, false, false, false, false, false, false, false, false, false, false, false, false, false] rfl rfl (any_of HT_.out (by kernel_rfl)) (fun _ _ _ h => h) (Or.inl ⟨by rfl, ?_⟩) ?_ ?_
                  rotate_left
                  · intro w'
                    go_simp
                    with_reducible rfl
                  rotate_left
                  · simp only [Act.put, List.setIfInBounds_toArray, List.set_cons_zero, List.set_cons_succ, i64_w, i32_w]
                    rfl
                  refine pure_ (i := 6) (N := some 164) (v := ?_) (a' := ?_) #[true, true, true, false, true, true, true, false, false, false, false, false, false, false, false, false, false, false, false, false] rfl rfl (any_of HT_.out (by kernel_rfl)) (fun _ _ _ h => h) (Or.inl ⟨by rfl, ?_⟩) ?_ ?_
                  rotate_left
                  · intro w'
                    go_simp
                    with_reducible rfl
                  rotate_left
                  · simp only [Act.put, List.setIfInBounds_toArray, List.set_cons_zero, List.set_cons_succ, i64_w, i32_w]
                    rfl
                  refine pure_ (i := 7) (N := some 165) (v := ?_) (a' := ?_) #[true, true, true, false, true, true, true, true, false, false, false, false, false, false, false, false, false, false, false, false] rfl rfl (any_of HT_.out (by kernel_rfl)) (fun _ _ _ h => h) (Or.inl ⟨by rfl, ?_⟩) ?_ ?_
                  rotate_left
                  · intro w'
                    go_simp
                    with_reducible rfl
                  rotate_left
                  · simp only [Act.put, List.setIfInBounds_toArray, List.set_cons_zero, List.set_cons_succ, i64_w, i32_w]
                    rfl
                  refine pure_ (i := 9) (N := some 167) (v := ?_) (a' := ?_) #[true, true, true, false, true, true, true, true, false, true, false, false, false, false, false, false, false, false, false, false] rfl rfl (any_of HT_.out (by kernel_rfl)) (fun _ _ _ h => h) (Or.inl ⟨by rfl, ?_⟩) ?_ ?_
                  rotate_left
                  · intro w'
                    go_simp
                    with_reducible rfl
                  rotate_left
                  · simp only [Act.put, List.setIfInBounds_toArray, List.set_cons_zero, List.set_cons_succ, i64_w, i32_w]
                    rfl
                  refine pure_ (i := 10) (N := some 168) (v := ?_) (a' := ?_) #[true, true, true, false, true, true, true, true, false, true, true, false, false, false, false, false, false, false, false, false] rfl rfl (any_of HT_.out (by kernel_rfl)) (fun _ _ _ h => h) (Or.inl ⟨by rfl, ?_⟩) ?_ ?_
                  rotate_left
                  · intro w'
                    go_simp
                    with_reducible rfl
                  rotate_left
                  · simp only [Act.put, List.setIfInBounds_toArray, List.set_cons_zero, List.set_cons_succ, i64_w, i32_w]
                    rfl
                  refine pure_ (i := 11) (N := some 169) (v := ?_) (a' := ?_) #[true, true, true, false, true, true, true, true, false, true, true, true, false, false, false, false, false, false, false, false] rfl rfl (any_of HT_.out (by kernel_rfl)) (fun _ _ _ h => h) (Or.inl ⟨by rfl, ?_⟩) ?_ ?_
                  rotate_left
                  · intro w'
                    go_simp
                    with_reducible rfl
                  rotate_left
                  · simp only [Act.put, List.setIfInBounds_toArray, List.set_cons_zero, List.set_cons_succ, i64_w, i32_w]
                    rfl
                  refine pure_ (i := 12) (N := some 170) (v := ?_) (a' := ?_) #[true, true, true, false, true, true, true, true, false, true, true, true, true, false, false, false, false, false, false, false] rfl rfl (any_of HT_.out (by kernel_rfl)) (fun _ _ _ h => h) (Or.inl ⟨by rfl, ?_⟩) ?_ ?_
                  rotate_left
                  · intro w'
                    go_simp
                    with_reducible rfl
                  rotate_left
                  · simp only [Act.put, List.setIfInBounds_toArray, List.set_cons_zero, List.set_cons_succ, i64_w, i32_w]
                    rfl
                  refine pure_ (i := 13) (N := some 171) (v := ?_) (a' := ?_) #[true, true, true, false, true, true, true, true, false, true, true, true, true, true, false, false, false, false, false, false] rfl rfl (any_of HT_.out (by kernel_rfl)) (fun _ _ _ h => h) (Or.inl ⟨by rfl, ?_⟩) ?_ ?_
                  rotate_left
                  · intro w'
                    go_simp
                    with_reducible rfl
                  rotate_left
                  · simp only [Act.put, List.setIfInBounds_toArray, List.set_cons_zero, List.set_cons_succ, i64_w, i32_w]
                    rfl
                  refine pure_ (i := 14) (N := some 172) (v := ?_) (a' := ?_) #[true, true, true, false, true, true, true, true, false, true, true, true, true, true, true, false, false, false, false, false] rfl rfl (any_of HT_.out (by kernel_rfl)) (fun _ _ _ h => h) (Or.inl ⟨by rfl, ?_⟩) ?_ ?_
                  rotate_left
                  · intro w'
                    go_simp
                    with_reducible rfl
                  rotate_left
                  · simp only [Act.put, List.setIfInBounds_toArray, List.set_cons_zero, List.set_cons_succ, i64_w, i32_w]
                    rfl
                  refine pure_ (i := 15) (N := some 173) (v := ?_) (a' := ?_) #[true, true, true, false, true, true, true, true, false, true, true, true, true, true, true, true, false, false, false, false] rfl rfl (any_of HT_.out (by kernel_rfl)) (fun _ _ _ h => h) (Or.inl ⟨by rfl, ?_⟩) ?_ ?_
                  rotate_left
                  · intro w'
                    go_simp
                    with_reducible rfl
                  rotate_left
                  · simp only [Act.put, List.setIfInBounds_toArray, List.set_cons_zero, List.set_cons_succ, i64_w, i32_w]
                    rfl
                  refine take_ (i := 3) (N := some 161) (v := ?_) (a' := ?_) #[true, true, true, true, true, true, true, true, false, true, true, true, true, true, true, true, false, false, false, false] rfl rfl (take_ofW HT_.out HW_.out (by kernel_rfl)) (fun _ _ _ h => h) (Or.inl ⟨by rfl, ?_⟩) hHeld ?_ ?_
                  rotate_left
                  · rintro w' ⟨s0, s1⟩
                    go_simp
                    with_reducible rfl
                  rotate_left
                  · simp only [Act.put, List.setIfInBounds_toArray, List.set_cons_zero, List.set_cons_succ, i64_w, i32_w]
                    rfl
                  refine take_ (i := 8) (N := some 166) (v := ?_) (a' := ?_) #[true, true, true, true, true, true, true, true, true, true, true, true, true, true, true, true, false, false, false, false] rfl rfl (take_ofW HT_.out HW_.out (by kernel_rfl)) (fun _ _ _ h => h) (Or.inl ⟨by rfl, ?_⟩) hHeld ?_ ?_
                  rotate_left
                  · rintro w' ⟨s0, s1⟩
                    go_simp
                    with_reducible rfl
                  rotate_left
                  · simp only [Act.put, List.setIfInBounds_toArray, List.set_cons_zero, List.set_cons_succ, i64_w, i32_w]
                    rfl
                  refine pure_ (i := 16) (N := some 174) (v := ?_) (a' := ?_) #[true, true, true, true, true, true, true, true, true, true, true, true, true, true, true, true, true, false, false, false] rfl rfl (any_of HT_.out (by kernel_rfl)) (fun _ _ _ h => h) (Or.inl ⟨by rfl, ?_⟩) ?_ ?_
                  rotate_left
                  · intro w'
                    go_simp
                    with_reducible rfl
                  rotate_left
                  · simp only [Act.put, List.setIfInBounds_toArray, List.set_cons_zero, List.set_cons_succ, i64_w, i32_w]
                    rfl
                  refine last_ (i := 17) (N := none) #[true, true, true, true, true, true, true, true, true, true, true, true, true, true, true, true, true, true, false, false] rfl rfl (one_of HT_.out (by kernel_rfl)) (by decide) (fun K hK => ?_)
                  refine skip_ (w1 := ?_) (by rfl) rfl ?_ ?_
                  rotate_left
                  · go_simp
                    rfl
                  refine hK.out _ _ ?_
                  clear hK K
                  refine pure_ (i := 18) (N := some 175) (v := ?_) (a' := ?_) #[true, true, true, true, true, true, true, true, true, true, true, true, true, true, true, true, true, true, true, false] rfl rfl (any_of HT_.out (by kernel_rfl)) (fun _ _ _ h => h) (Or.inl ⟨by rfl, ?_⟩) ?_ ?_
                  rotate_left
                  · intro w'
                    go_simp
                    with_reducible rfl
                  rotate_left
                  · simp only [Act.put, List.setIfInBounds_toArray, List.set_cons_zero, List.set_cons_succ, i64_w, i32_w]
                    rfl
                  refine last_ (i := 19) (N := none) #[true, true, true, true, true, true, true, true, true, true, true, true, true, true, true, true, true, true, true, true] rfl rfl (one_of HT_.out (by kernel_rfl)) (by decide) (fun K hK => ?_)
                  refine skip_ (w1 := ?_) (by rfl) rfl ?_ ?_
                  rotate_left
                  · go_simp
                    rfl
                  refine hK.out _ _ ?_
                  clear hK K
                  refine done_ (done_of HT_.out (by kernel_rfl)) ?_
                  go_wp2
                  go_ret
                  exact ⟨by rw [HV.out]; rfl, _, _, by rw [HFS.out, HFG.out]; exact (HPUT.out _ (below_drew1 (Below.refl _ _)) _ _).1, (HF1.out.trans HFd.out).trans (HPUT.out _ (below_drew1 (Below.refl _ _)) _ _).2⟩
                | true =>
                  go_upto_region 33 with fail
                  refine start_ (n := 20) (S := fun w' => w'.cell? ⟨rb, 2, none⟩ = some (.slice (some ⟨g1, 0, none⟩) sd.length q1) ∧ w'.cell? ⟨rb, 3, none⟩ = some (.slice (some ⟨g2, 0, none⟩) gd.length q2)) (ds := [17, 19]) #[false, false, false, false, false, false, false, false, false, false, false, false, false, false, false, false, false, false, false, false] (by kernel_rfl) rfl rfl ⟨r2, r3⟩ (fun hHeld => ?_)
                  refine with_tabW rdr_value.tab33 rdr_value.bits33 (fun HT_ HW_ => ?_)
                  refine pure_ (i := 0) (N := some 158) (v := ?_) (a' := ?_) #[true, false, false, false, false, false, false, false, false, false, false, false, false, false, false, false, false, false, false, false] rfl rfl (any_of HT_.out (by kernel_rfl)) (fun _ _ _ h => h) (Or.inl ⟨by rfl, ?_⟩) ?_ ?_
                  rotate_left
                  · intro w'
                    go_simp
                    with_reducible rfl
                  rotate_left
                  · simp only [Act.put, List.setIfInBounds_toArray, List.set_cons_zero, List.set_cons_succ, i64_w, i32_w]
                    rfl
                  refine pure_ (i := 1) (N := some 159) (v := ?_) (a' := ?_) #[true, true, false, false, false, false, false, false, false, false, false, false, false, false, false, false, false, false, false, false] rfl rfl (any_of HT_.out (by kernel_rfl)) (fun _ _ _ h => h) (Or.inl ⟨by rfl, ?_⟩) ?_ ?_
                  rotate_left
                  · intro w'
                    go_simp
                    with_reducible rfl
                  rotate_left
                  · simp only [Act.put, List.setIfInBounds_toArray, List.set_cons_zero, List.set_cons_succ, i64_w, i32_w]
                    rfl
                  refine pure_ (i := 2) (N := some 160) (v := ?_) (a' := ?_) #[true, true, true, false, false, false, false, false, false, false, false, false, false, false, false, false, false, false, false, false] rfl rfl (any_of HT_.out (by kernel_rfl)) (fun _ _ _ h => h) (Or.inl ⟨by rfl, ?_⟩) ?_ ?_
                  rotate_left
                  · intro w'
                    go_simp
                    with_reducible rfl
                  rotate_left
                  · simp only [Act.put, List.setIfInBounds_toArray, List.set_cons_zero, List.set_cons_succ, i64_w, i32_w]
                    rfl
                  refine pure_ (i := 4) (N := some 162) (v := ?_) (a' := ?_) #[true, true, true, false, true, false, false, false, false, false, false, false, false, false, false, false, false, false, false, false] rfl rfl (any_of HT_.out (by kernel_rfl)) (fun _ _ _ h => h) (Or.inl ⟨by rfl, ?_⟩) ?_ ?_
                  rotate_left
                  · intro w'
                    go_simp
                    with_reducible rfl
                  rotate_left
                  · simp only [Act.put, List.setIfInBounds_toArray, List.set_cons_zero, List.set_cons_succ, i64_w, i32_w]
                    rfl
                  refine pure_ (i := 5) (N := some 163) (v := ?_) (a' := ?_) #[true, true, true, false, true, true, false, false, false, false, false, false, false, false, false, false, false, false, false, false] rfl rfl (any_of HT_.out (by kernel_rfl)) (fun _ _ _ h => h) (Or.inl ⟨by rfl, ?_⟩) ?_ ?_
                  rotate_left
                  · intro w'
                    go_simp
                    with_reducible rfl
                  rotate_left
                  · simp only [Act.put, List.setIfInBounds_toArray, List.set_cons_zero, List.set_cons_succ, i64_w, i32_w]
                    rfl
                  refine pure_ (i := 6) (N := some 164) (v := ?_) (a' := ?_) #[true, true, true, false, true, true, true, false, false, false, false, false, false, false, false, false, false, false, false, false] rfl rfl (any_of HT_.out (by kernel_rfl)) (fun _ _ _ h => h) (Or.inl ⟨by rfl, ?_⟩) ?_ ?_
                  rotate_left
                  · intro w'
                    go_simp
                    with_reducible rfl
                  rotate_left
                  · simp only [Act.put, List.setIfInBounds_toArray, List.set_cons_zero, List.set_cons_succ, i64_w, i32_w]
                    rfl
                  refine pure_ (i := 7) (N := some 165) (v := ?_) (a' := ?_) #[true, true, true, false, true, true, true, true, false, false, false, false, false, false, false, false, false, false, false, false] rfl rfl (any_of HT_.out (by kernel_rfl)) (fun _ _ _ h => h) (Or.inl ⟨by rfl, ?_⟩) ?_ ?_
                  rotate_left
                  · intro w'
                    go_simp
                    with_reducible rfl
                  rotate_left
                  · simp only [Act.put, List.setIfInBounds_toArray, List.set_cons_zero, List.set_cons_succ, i64_w, i32_w]
                    rfl
                  refine pure_ (i := 9) (N := some 167) (v := ?_) (a' := ?_) #[true, true, true, false, true, true, true, true, false, true, false, false, false, false, false, false, false, false, false, false] rfl rfl (any_of HT_.out (by kernel_rfl)) (fun _ _ _ h => h) (Or.inl ⟨by rfl, ?_⟩) ?_ ?_
                  rotate_left
                  · intro w'
                    go_simp
                    with_reducible rfl
                  rotate_left
                  · simp only [Act.put, List.setIfInBounds_toArray, List.set_cons_zero, List.set_cons_succ, i64_w, i32_w]
                    rfl
                  refine pure_ (i := 10) (N := some 168) (v := ?_) (a' := ?_) #[true, true, true, false, true, true, true, true, false, true, true, false, false, false, false, false, false, false, false, false] rfl rfl (any_of HT_.out (by kernel_rfl)) (fun _ _ _ h => h) (Or.inl ⟨by rfl, ?_⟩) ?_ ?_
                  rotate_left
                  · intro w'
                    go_simp
                    with_reducible rfl
                  rotate_left
                  · simp only [Act.put, List.setIfInBounds_toArray, List.set_cons_zero, List.set_cons_succ, i64_w, i32_w]
                    rfl
                  refine pure_ (i := 11) (N := some 169) (v := ?_) (a' := ?_) #[true, true, true, false, true, true, true, true, false, true, true, true, false, false, false, false, false, false, false, false] rfl rfl (any_of HT_.out (by kernel_rfl)) (fun _ _ _ h => h) (Or.inl ⟨by rfl, ?_⟩) ?_ ?_
                  rotate_left
                  · intro w'
                    go_simp
                    with_reducible rfl
                  rotate_left
                  · simp only [Act.put, List.setIfInBounds_toArray, List.set_cons_zero, List.set_cons_succ, i64_w, i32_w]
                    rfl
                  refine pure_ (i := 12) (N := some 170) (v := ?_) (a' := ?_) #[true, true, true, false, true, true, true, true, false, true, true, true, true, false, false, false, false, false, false, false] rfl rfl (any_of HT_.out (by kernel_rfl)) (fun _ _ _ h => h) (Or.inl ⟨by rfl, ?_⟩) ?_ ?_
                  rotate_left
                  · intro w'
                    go_simp
                    with_reducible rfl
                  rotate_left
                  · simp only [Act.put, List.setIfInBounds_toArray, List.set_cons_zero, List.set_cons_succ, i64_w, i32_w]
                    rfl
                  refine pure_ (i := 13) (N := some 171) (v := undef) (a' := ?_) #[true, true, true, false, true, true, true, true, false, true, true, true, true, true, false, false, false, false, false, false] rfl rfl (any_of HT_.out (by kernel_rfl)) (fun _ _ _ h => h) (Or.inr ⟨by rfl, rfl⟩) ?_ ?_
                  rotate_left
                  · simp only [Act.put, List.setIfInBounds_toArray, List.set_cons_zero, List.set_cons_succ, i64_w, i32_w]
                    rfl
                  refine pure_ (i := 14) (N := some 172) (v := undef) (a' := ?_) #[true, true, true, false, true, true, true, true, false, true, true, true, true, true, true, false, false, false, false, false] rfl rfl (any_of HT_.out (by kernel_rfl)) (fun _ _ _ h => h) (Or.inr ⟨by rfl, rfl⟩) ?_ ?_
                  rotate_left
                  · simp only [Act.put, List.setIfInBounds_toArray, List.set_cons_zero, List.set_cons_succ, i64_w, i32_w]
                    rfl
                  refine pure_ (i := 15) (N := some 173) (v := ?_) (a' := ?_) #[true, true, true, false, true, true, true, true, false, true, true, true, true, true, true, true, false, false, false, false] rfl rfl (any_of HT_.out (by kernel_rfl)) (fun _ _ _ h => h) (Or.inl ⟨by rfl, ?_⟩) ?_ ?_
                  rotate_left
                  · intro w'
                    go_simp
                    with_reducible rfl
                  rotate_left
                  · simp only [Act.put, List.setIfInBounds_toArray, List.set_cons_zero, List.set_cons_succ, i64_w, i32_w]
                    rfl
                  refine take_ (i := 3) (N := some 161) (v := ?_) (a' := ?_) #[true, true, true, true, true, true, true, true, false, true, true, true, true, true, true, true, false, false, false, false] rfl rfl (take_ofW HT_.out HW_.out (by kernel_rfl)) (fun _ _ _ h => h) (Or.inl ⟨by rfl, ?_⟩) hHeld ?_ ?_
                  rotate_left
                  · rintro w' ⟨s0, s1⟩
                    go_simp
                    with_reducible rfl
                  rotate_left
                  · simp only [Act.put, List.setIfInBounds_toArray, List.set_cons_zero, List.set_cons_succ, i64_w, i32_w]
                    rfl
                  refine take_ (i := 8) (N := some 166) (v := ?_) (a' := ?_) #[true, true, true, true, true, true, true, true, true, true, true, true, true, true, true, true, false, false, false, false] rfl rfl (take_ofW HT_.out HW_.out (by kernel_rfl)) (fun _ _ _ h => h) (Or.inl ⟨by rfl, ?_⟩) hHeld ?_ ?_
                  rotate_left
                  · rintro w' ⟨s0, s1⟩
                    go_simp
                    with_reducible rfl
                  rotate_left
                  · simp only [Act.put, List.setIfInBounds_toArray, List.set_cons_zero, List.set_cons_succ, i64_w, i32_w]
                    rfl
                  refine pure_ (i := 16) (N := some 174) (v := ?_) (a' := ?_) #[true, true, true, true, true, true, true, true, true, true, true, true, true, true, true, true, true, false, false, false] rfl rfl (any_of HT_.out (by kernel_rfl)) (fun _ _ _ h => h) (Or.inl ⟨by rfl, ?_⟩) ?_ ?_
                  rotate_left
                  · intro w'
                    go_simp
                    with_reducible rfl
                  rotate_left
                  · simp only [Act.put, List.setIfInBounds_toArray, List.set_cons_zero, List.set_cons_succ, i64_w, i32_w]
                    rfl
                  refine last_ (i := 17) (N := none) #[true, true, true, true, true, true, true, true, true, true, true, true, true, true, true, true, true, true, false, false] rfl rfl (one_of HT_.out (by kernel_rfl)) (by decide) (fun K hK => ?_)
                  refine skip_ (w1 := ?_) (by rfl) rfl ?_ ?_
                  rotate_left
                  · go_simp
                    rfl
                  refine hK.out _ _ ?_
                  clear hK K
                  refine pure_ (i := 18) (N := some 175) (v := ?_) (a' := ?_) #[true, true, true, true, true, true, true, true, true, true, true, true, true, true, true, true, true, true, true, false] rfl rfl (any_of HT_.out (by kernel_rfl)) (fun _ _ _ h => h) (Or.inl ⟨by rfl, ?_⟩) ?_ ?_
                  rotate_left
                  · intro w'
                    go_simp
                    with_reducible rfl
                  rotate_left
                  · simp only [Act.put, List.setIfInBounds_toArray, List.set_cons_zero, List.set_cons_succ, i64_w, i32_w]
                    rfl
                  refine last_ (i := 19) (N := none) #[true, true, true, true, true, true, true, true, true, true, true, true, true, true, true, true, true, true, true, true] rfl rfl (one_of HT_.out (by kernel_rfl)) (by decide) (fun K hK => ?_)
                  refine skip_ (w1 := ?_) (by rfl) rfl ?_ ?_
                  rotate_left
                  · go_simp
                    rfl
                  refine hK.out _ _ ?_
                  clear hK K
                  refine done_ (done_of HT_.out (by kernel_rfl)) ?_
                  go_wp2
                  go_ret
                  exact ⟨by rw [HV.out]; rfl, _, _, by rw [HFS.out, HFG.out]; exact (HPUT.out _ (below_drew1 (Below.refl _ _)) _ _).1, (HF1.out.trans HFd.out).trans (HPUT.out _ (below_drew1 (Below.refl _ _)) _ _).2⟩
end Go.Proofs.Ytegaicoddnmemaa.X

namespace Go.Proofs.Ytegaicoddnmemaa.X
open Go.RowKit Go.Proofs.YtegaicoddnmemaaW.PrintWords Go.Proofs.YtegaicoddnmemaaW.PrintMore
open Go.Proofs.Ytegaicoddnmemaa.P Go.Proofs.Ytegaicoddnmemaa.Evx
set_option linter.unusedVariables false
set_option linter.unusedSimpArgs false
mutual
/-- How many nodes. -/
def nS : S24 → Nat
  | ⟨_, _, kids⟩ => 1 + nL kids
def nL : List S24 → Nat
  | [] => 0
  | k :: r => nS k + nL r
end
mutual
/-- How deep. -/
def hS : S24 → Nat
  | ⟨_, _, kids⟩ => 1 + hL kids
def hL : List S24 → Nat
  | [] => 0
  | k :: r => max (hS k) (hL r)
end
theorem cnt_t (c : Cnt) (op : Int) : (if timedS op = true then c.t + 1 else c.t) = c.t + (tS op : Int) := by unfold tS; split <;> simp
mutual
theorem goesS_back : ∀ (s : S24) (d : Int) (c : Cnt), (goesS s d c).n ≤ 60 → (goesS s d c).deep = false → goesS s d c = ⟨c.n + nS s, c.t + tnS s, false⟩ ∧ c.deep = false ∧ d + hS s ≤ 13
  | ⟨op, m, kids⟩, d, c, h1, h2 => by
    simp only [goesS] at h1 h2 ⊢
    by_cases hd : d > 12
    · rw [if_pos hd] at h2; cases h2
    · rw [if_neg hd] at h1 h2 ⊢
      obtain ⟨e1, e2, e3⟩ := goesL_back kids (d + 1) _ h1 h2
      rw [e1]
      simp only at e2
      refine ⟨?_, e2, ?_⟩
      · simp only [nS, tnS, Cnt.mk.injEq, cnt_t]
        refine ⟨by omega, by omega, trivial⟩
      · simp only [hS]
        rcases e3 with e3 | e3
        · omega
        · subst e3; simp only [hL]; omega
theorem goesL_back : ∀ (l : List S24) (d : Int) (c : Cnt), (goesL l d c).n ≤ 60 → (goesL l d c).deep = false → goesL l d c = ⟨c.n + nL l, c.t + tnL l, false⟩ ∧ c.deep = false ∧ (d + hL l ≤ 13 ∨ l = [])
  | [], d, c, h1, h2 => by
    simp only [goesL] at h1 h2 ⊢
    refine ⟨?_, h2, .inr trivial⟩
    cases c
    simp only at h2
    subst h2
    simp [nL, tnL]
  | k :: r, d, c, h1, h2 => by
    simp only [goesL] at h1 h2 ⊢
    by_cases hc : c.n > 60
    · rw [if_pos hc] at h1; omega
    · rw [if_neg hc] at h1 h2 ⊢
      obtain ⟨e1, e2, e3⟩ := goesL_back r d _ h1 h2
      have h3 : (goesS k d c).n ≤ 60 := by rw [e1] at h1; simp only at h1; omega
      obtain ⟨f1, f2, f3⟩ := goesS_back k d c h3 e2
      rw [e1, f1]
      refine ⟨?_, f2, .inl ?_⟩
      · simp only [nL, tnL, Cnt.mk.injEq]
        refine ⟨by omega, by omega, trivial⟩
      · simp only [hL]
        rcases e3 with e3 | e3
        · omega
        · subst e3; simp only [hL]; omega
end
mutual
theorem goesS_forth : ∀ (s : S24) (d : Int) (c : Cnt), c.n + nS s ≤ 60 → d + hS s ≤ 13 → c.deep = false → goesS s d c = ⟨c.n + nS s, c.t + tnS s, false⟩
  | ⟨op, m, kids⟩, d, c, h1, h2, h3 => by
    simp only [nS, hS] at h1 h2
    simp only [goesS]
    rw [if_neg (by omega), goesL_forth kids (d + 1) ⟨c.n + 1, if timedS op = true then c.t + 1 else c.t, c.deep⟩ (by simp only; omega) (by omega) h3]
    simp only [nS, tnS, Cnt.mk.injEq, cnt_t]
    refine ⟨by omega, by omega, trivial⟩
theorem goesL_forth : ∀ (l : List S24) (d : Int) (c : Cnt), c.n + nL l ≤ 60 → d + hL l ≤ 13 → c.deep = false → goesL l d c = ⟨c.n + nL l, c.t + tnL l, false⟩
  | [], d, c, h1, h2, h3 => by
    simp only [goesL]
    cases c
    simp only at h3
    subst h3
    simp [nL, tnL]
  | k :: r, d, c, h1, h2, h3 => by
    simp only [nL, hL] at h1 h2
    simp only [goesL]
    rw [if_neg (by omega), goesS_forth k d c (by omega) (by omega) h3, goesL_forth r d _ (by simp only; omega) (by omega) rfl]
    simp only [nL, tnL, Cnt.mk.injEq]
    refine ⟨by omega, by omega, trivial⟩
end
theorem light_iff (s : S24) : lightS s = true ↔ nS s ≤ 60 ∧ hS s ≤ 12 := by
  unfold lightS
  rw [Bool.and_eq_true, decide_eq_true_eq, Bool.not_eq_true']
  constructor
  · rintro ⟨h1, h2⟩
    obtain ⟨e1, _, e3⟩ := goesS_back s 1 ⟨0, 0, false⟩ h1 h2
    unfold cntS at h1
    rw [e1] at h1
    simp only at h1
    exact ⟨by omega, by omega⟩
  · rintro ⟨h1, h2⟩
    have e := goesS_forth s 1 ⟨0, 0, false⟩ (by simp only; omega) (by omega) rfl
    unfold cntS
    rw [e]
    exact ⟨by simp only; omega, rfl⟩
theorem light_t {s : S24} (h : lightS s = true) : (cntS s).t = tnS s := by
  obtain ⟨h1, h2⟩ := (light_iff s).1 h
  unfold cntS
  rw [goesS_forth s 1 ⟨0, 0, false⟩ (by simp only; omega) (by omega) rfl]
  simp
/-- May, by counts without bounds. -/
theorem may_eq (s : S24) : mayF s = if nS s ≤ 60 ∧ hS s ≤ 12 ∧ tnS s ≤ 8 then (if soundS s = true then 0 else 1) else 7 := by
  unfold mayF
  by_cases hl : lightS s = true
  · have h1 := (light_iff s).1 hl
    have h2 := light_t hl
    by_cases ht : tnS s ≤ 8
    · rw [if_pos (show lightS s = true ∧ (cntS s).t ≤ 8 from ⟨hl, by omega⟩), if_pos (show nS s ≤ 60 ∧ hS s ≤ 12 ∧ tnS s ≤ 8 from ⟨h1.1, h1.2, ht⟩)]
    · rw [if_neg (fun h => ht (by omega)), if_neg (fun h => ht h.2.2)]
  · rw [if_neg (fun h => hl h.1), if_neg (fun h => hl ((light_iff s).2 ⟨h.1, h.2.1⟩))]
theorem may_zero {s : S24} (h : mayF s = 0) : nS s ≤ 60 ∧ hS s ≤ 12 ∧ tnS s ≤ 8 ∧ soundS s = true := by
  rw [may_eq] at h
  split at h
  · split at h
    · exact ⟨by omega, by omega, by omega, by assumption⟩
    · cases h
  · cases h
mutual
/-- The nodes that look at other moments. -/
def timesS : S24 → List S24
  | ⟨op, m, kids⟩ => (if timedS op = true then [⟨op, m, kids⟩] else []) ++ timesL kids
def timesL : List S24 → List S24
  | [] => []
  | k :: r => timesS k ++ timesL r
end
mutual
theorem len_times : ∀ s : S24, (timesS s).length = tnS s
  | ⟨op, m, kids⟩ => by
    simp only [timesS, List.length_append, len_timesL kids, tnS, tS]
    split <;> simp
theorem len_timesL : ∀ l : List S24, (timesL l).length = tnL l
  | [] => rfl
  | k :: r => by simp only [timesL, List.length_append, len_times k, len_timesL r, tnL]
end
/-- How many states. -/
def sizeS (s : S24) : Int := if mayF s = 0 then 2 ^ tnS s else 0
def stateS (s : S24) (sv : Int) : Bool := decide (0 ≤ sv ∧ sv < sizeS s)
theorem state_may {s : S24} {sv : Int} (h : stateS s sv = true) : mayF s = 0 := by
  have h1 := of_decide_eq_true h
  by_cases h2 : mayF s = 0
  · exact h2
  · unfold sizeS at h1
    rw [if_neg h2] at h1
    omega
theorem rdT_nat (l : List S24) (i : Nat) (h : i < l.length) : rd_T24 l (i : Int) = l[i]'h := by
  unfold rd_T24
  rw [Int.toNat_natCast, List.getD_eq_getElem?_getD, List.getElem?_eq_getElem h]; rfl
theorem sound_len {s : S24} (h : soundS s = true) : s.f2.length ≤ 2 := by
  obtain ⟨op, m, kids⟩ := s
  simp only [soundS, Bool.and_eq_true, decide_eq_true_eq] at h
  have := (kids_range op).2
  have := h.2.1
  show kids.length ≤ 2
  omega
theorem sound_in : ∀ {l : List S24}, soundL l = true → ∀ k ∈ l, soundS k = true
  | a :: r, h, k, hk => by
    simp only [soundL, Bool.and_eq_true] at h
    rcases List.mem_cons.1 hk with e | e
    · rw [e]; exact h.1
    · exact sound_in h.2 k e
theorem sound_kids_all {s : S24} (h : soundS s = true) : soundL s.f2 = true := by
  obtain ⟨op, m, kids⟩ := s
  simp only [soundS, Bool.and_eq_true] at h
  exact h.2.2.2.2
end Go.Proofs.Ytegaicoddnmemaa.X

namespace Go.Proofs.Ytegaicoddnmemaa.X
open Go.RowKit Go.Proofs.YtegaicoddnmemaaW.PrintWords Go.Proofs.YtegaicoddnmemaaW.PrintMore
open Go.Proofs.Ytegaicoddnmemaa.P Go.Proofs.Ytegaicoddnmemaa.Evx
set_option linter.unusedVariables false
set_option linter.unusedSimpArgs false
theorem eta_f (s : S24) : (⟨s.f0, s.f1, s.f2⟩ : S24) = s := by cases s; rfl
theorem may_some (s : S24) : formula_May.f s.f0 s.f1 s.f2 = some (mayF s) := by cases s; rfl
theorem copied_l (kids : List S24) (op m : Int) (hl : kids.length ≤ 60) (ih : ∀ k ∈ kids, Ev (fun n => formula_copied.f n k.f0 k.f1 k.f2) (k.f0, k.f1, k.f2)) :
    ∀ (d j : Nat) (acc : List S24), j + d = kids.length → acc = kids.take j → Ev (fun n => formula_copied.l0 n kids (kids.length : Int) j op m acc) (op, m, kids)
  | 0, j, acc, hj, ha => by
    refine ev_step (fun k => rfl) (ev_neg (by omega) ?_)
    refine ev_eq (ev_some _) ?_
    rw [ha, List.take_of_length_le (by omega)]
  | d + 1, j, acc, hj, ha => by
    have hlt : j < kids.length := by omega
    refine ev_step (fun k => rfl) (ev_pos (by omega) (ev_pos (by omega) (ev_pos (by omega) ?_)))
    rw [rdT_nat kids j hlt]
    refine ev_bind (ih _ (List.getElem_mem hlt)) ?_
    refine ev_pos (by rw [ha, List.length_take]; omega) ?_
    rw [w64 (by omega) (by omega)]
    have := copied_l kids op m hl ih d (j + 1) (acc ++ [⟨(kids[j]'hlt).f0, (kids[j]'hlt).f1, (kids[j]'hlt).f2⟩]) (by omega) (by rw [ha, List.take_succ_eq_append_getElem hlt, eta_f])
    exact_mod_cast this
mutual
theorem copied_ev : ∀ s : S24, soundS s = true → Ev (fun n => formula_copied.f n s.f0 s.f1 s.f2) (s.f0, s.f1, s.f2)
  | ⟨op, m, kids⟩, h => by
    refine ev_step (fun k => rfl) ?_
    exact copied_l kids op m (by have := sound_len h; simp only at this; omega) (copied_evL kids (sound_kids_all h)) kids.length 0 [] (by omega) rfl
theorem copied_evL : ∀ l : List S24, soundL l = true → ∀ k ∈ l, Ev (fun n => formula_copied.f n k.f0 k.f1 k.f2) (k.f0, k.f1, k.f2)
  | [], _, k, hk => by cases hk
  | a :: r, h, k, hk => by
    simp only [soundL, Bool.and_eq_true] at h
    rcases List.mem_cons.1 hk with e | e
    · rw [e]; exact copied_ev a h.1
    · exact copied_evL r h.2 k e
end
theorem times_l (kids : List S24) (T : List S24) (hT : T.length ≤ 1000) (hb : kids.length ≤ 60) (ih : ∀ k ∈ kids, Ev (fun n => formula_times.f n k.f0 k.f1 k.f2) (timesS k)) :
    ∀ (d j : Nat) (acc : List S24), j + d = kids.length → acc ++ timesL (kids.drop j) = T → Ev (fun n => formula_times.l0 n acc kids (kids.length : Int) j) T
  | 0, j, acc, hj, ha => by
    refine ev_step (fun k => rfl) (ev_neg (by omega) ?_)
    refine ev_eq (ev_some _) ?_
    rw [← ha, List.drop_eq_nil_of_le (by omega), timesL, List.append_nil]
  | d + 1, j, acc, hj, ha => by
    have hlt : j < kids.length := by omega
    have hd := List.drop_eq_getElem_cons hlt
    rw [hd, timesL, ← List.append_assoc] at ha
    refine ev_step (fun k => rfl) (ev_pos (by omega) (ev_pos (by omega) (ev_pos (by omega) ?_)))
    rw [rdT_nat kids j hlt]
    refine ev_bind (ih _ (List.getElem_mem hlt)) ?_
    refine ev_pos (by rw [← ha] at hT; simp only [List.length_append] at hT; omega) ?_
    rw [w64 (by omega) (by omega)]
    have := times_l kids T hT hb ih d (j + 1) (acc ++ timesS (kids[j]'hlt)) (by omega) ha
    exact_mod_cast this
mutual
theorem times_ev : ∀ s : S24, soundS s = true → tnS s ≤ 1000 → Ev (fun n => formula_times.f n s.f0 s.f1 s.f2) (timesS s)
  | ⟨op, m, kids⟩, h, ht => by
    have hk : kids.length ≤ 60 := by have := sound_len h; simp only at this; omega
    have hL : (timesS (⟨op, m, kids⟩ : S24)).length ≤ 1000 := by rw [len_times]; exact ht
    have h0 : ∀ (acc : List S24) (x y : Int), acc = (if timedS op = true then [(⟨op, m, kids⟩ : S24)] else []) → Ev (fun n => formula_times.j0 n acc x y kids) (timesS (⟨op, m, kids⟩ : S24)) := by
      intro acc x y ha
      refine ev_step (fun k => rfl) ?_
      exact times_l kids _ hL hk (times_evL kids (sound_kids_all h) (by simp only [tnS] at ht; omega)) kids.length 0 acc (by omega) (by rw [ha, timesS]; rfl)
    refine ev_step (fun k => rfl) ?_
    refine ev_bindv (timed_some op) (ev_bool (fun c => ?_) (fun c => ?_))
    · refine ev_bind (copied_ev _ h) (ev_pos (by simp) ?_)
      exact h0 _ _ _ (by rw [if_pos c]; rfl)
    · exact h0 _ _ _ (by rw [if_neg (by rw [c]; simp)])
theorem times_evL : ∀ l : List S24, soundL l = true → tnL l ≤ 1000 → ∀ k ∈ l, Ev (fun n => formula_times.f n k.f0 k.f1 k.f2) (timesS k)
  | [], _, _, k, hk => by cases hk
  | a :: r, h, ht, k, hk => by
    simp only [soundL, Bool.and_eq_true] at h
    simp only [tnL] at ht
    rcases List.mem_cons.1 hk with e | e
    · rw [e]; exact times_ev a h.1 (by omega)
    · exact times_evL r h.2 (by omega) k e
end
def TimesS (s : S24) : List S24 := if mayF s = 0 then timesS s else []
theorem Times_ev (s : S24) : Ev (fun n => formula_Times.f n s.f0 s.f1 s.f2) (TimesS s) := by
  unfold formula_Times.f
  refine ev_bindv (may_some s) (ev_ite (fun c => ?_) (fun c => ?_))
  · have hz := may_zero c
    refine ev_bind (times_ev s hz.2.2.2 (by omega)) (ev_eq (ev_some _) ?_)
    unfold TimesS
    rw [if_pos c]
  · exact ev_eq (ev_some _) (by unfold TimesS; rw [if_neg c])
theorem shl_one (n : Nat) (h : n ≤ 8) : shl .i64 1 (n : Int) = 2 ^ n := by
  have : n = 0 ∨ n = 1 ∨ n = 2 ∨ n = 3 ∨ n = 4 ∨ n = 5 ∨ n = 6 ∨ n = 7 ∨ n = 8 := by omega
  rcases this with h | h | h | h | h | h | h | h | h <;> subst h <;> decide
theorem Size_ev (s : S24) : Ev (fun n => tableau_Size.f n s.f0 s.f1 s.f2) (sizeS s) := by
  unfold tableau_Size.f
  refine ev_bindv (may_some s) (ev_ite (fun c => ?_) (fun c => ?_))
  · have hz := may_zero c
    refine ev_bind (Times_ev s) (ev_eq (ev_some _) ?_)
    unfold TimesS sizeS
    rw [if_pos c, if_pos c, len_times, shl_one _ hz.2.2.1]
  · exact ev_eq (ev_some _) (by unfold sizeS; rw [if_neg c])
theorem state_ev (s : S24) (sv : Int) : Ev (fun n => tableau_state.f n s.f0 s.f1 s.f2 sv) (stateS s sv) := by
  unfold tableau_state.f
  refine ev_ite (fun c => ?_) (fun c => ?_)
  · refine ev_bind (Size_ev s) (ev_eq (ev_some _) ?_)
    unfold stateS
    rw [decide_eq_decide]
    omega
  · refine ev_eq (ev_some _) ?_
    unfold stateS
    rw [decide_eq_false]
    omega
end Go.Proofs.Ytegaicoddnmemaa.X

namespace Go.Proofs.Ytegaicoddnmemaa.X
open Go.RowKit Go.Proofs.YtegaicoddnmemaaW.PrintWords Go.Proofs.YtegaicoddnmemaaW.PrintLast Go.Proofs.YtegaicoddnmemaaW.PrintMore
open Go.Proofs.Ytegaicoddnmemaa.P Go.Proofs.Ytegaicoddnmemaa.Evx
set_option linter.unusedSimpArgs false
set_option linter.unusedVariables false
mutual
theorem rd_all (w0 : World) : ∀ s : S24, RdAt w0 s
  | ⟨op, m, kids⟩ => value_calls w0 ⟨op, m, kids⟩ (rd_kids w0 kids)
theorem rd_kids (w0 : World) : ∀ (l : List S24) (k : S24), k ∈ l → RdAt w0 k
  | [], k, hk => by simp at hk
  | a :: r, k, hk => by
    rcases List.mem_cons.1 hk with h | h
    · rw [h]
      exact rd_all w0 a
    · exact rd_kids w0 r k h
end
theorem rdr_new (w W : World) (sv lt : Int) (hB : Below w.heap.size w W) : Rdr w (W.alloc (.cells #[.int .i64 sv, .int .u32 lt, .slice none 0 0, .slice none 0 0] 64)) W.heap.size sv lt [] [] (.slice none 0 0) (.slice none 0 0) :=
  { blk := heap_alloc_new W _, o1 := World.ownsRow_nil _ _ _ _, o2 := World.ownsRow_nil _ _ _ _, ne := .inl rfl, bl := below_alloc hB _, rb0 := hB.size }
set_option maxHeartbeats 1600000 in
theorem read_calls (s : S24) (sv lt : Int) (A : Option Addr) (cp : Nat) (w : World) (hr : Kd.C k24 w A s.f2.length s.f2) (hc : s.f2.length ≤ cp) (hs : soundS s = true) (ht : tnS s ≤ 60) :
    Calls Try.prog 38 #[.agg #[.int .i64 s.f0, .int .i64 s.f1, .slice A s.f2.length cp], .int .i64 sv, .int .u32 lt] w fun e w' => ∃ rb v1 v2, e = .returned (.tuple #[.pointer (some ⟨rb, 0, none⟩), .bool (valS sv lt s 0)]) ∧ Rdr w w' rb sv lt (saidS sv lt s 0) (goodS sv lt s 0) v1 v2 := by
  have huF := Try.underlying24
  have hur := Try.underlying64
  have hR := rdr_new w (w.alloc (.cells #[.int .i64 s.f0, .int .i64 s.f1, .slice A s.f2.length cp] 24)) sv lt (below_alloc (Below.refl _ _) _)
  have hz : (w.alloc (.cells #[.int .i64 s.f0, .int .i64 s.f1, .slice A s.f2.length cp] 24)).heap.size = w.heap.size + 1 := by simp
  rw [hz] at hR
  have HC := Aside0.mk (rd_all w s (w.heap.size + 1) sv lt [] [] (.slice none 0 0) (.slice none 0 0) A cp _ hR rfl (by simpa using ht) hr hc hs)
  clear hR hz hr hc hs ht
  go_enter Try.func38, Try.ntmps38
  go_wp2_with (go_at_call 52; refine HC.out.mono ?_; rintro e w1 ⟨rfl, v1, v2, hR, hF⟩; have HR := Aside0.mk hR; clear hR hF)
  go_ret2
  exact ⟨w.heap.size + 1, v1, v2, rfl, HR.out⟩
def valueF (s : S24) (sv lt : Int) : Bool := if stateS s sv = true then valS sv lt s 0 else false
set_option maxHeartbeats 1600000 in
theorem Value_calls (s : S24) (sv lt : Int) (A : Option Addr) (cp : Nat) (w : World) (hr : Kd.C k24 w A s.f2.length s.f2) (hc : s.f2.length ≤ cp) :
    Calls Try.prog 17 #[.agg #[.int .i64 s.f0, .int .i64 s.f1, .slice A s.f2.length cp], .int .i64 sv, .int .u32 lt] w fun e w' => e = .returned (.bool (valueF s sv lt)) ∧ Below w.heap.size w w' := by
  have huF := Try.underlying24
  obtain ⟨W1, hW1⟩ : ∃ W1, W1 = w.alloc (.cells #[.int .i64 s.f0, .int .i64 s.f1, .slice A s.f2.length cp] 24) := ⟨_, rfl⟩
  have hB1 : Below w.heap.size w W1 := by rw [hW1]; exact below_alloc (Below.refl _ _) _
  have hbx : W1.heap[w.heap.size]? = some (.cells #[.int .i64 s.f0, .int .i64 s.f1, .slice A s.f2.length cp] 24 (0, 0)) := by rw [hW1]; exact heap_alloc_new w _
  have HBX := Aside0.mk hbx
  have HB1 := Aside0.mk hB1
  have HR := Aside0.mk hr
  have HW1 := Aside0.mk hW1
  have x0 : W1.cell? ⟨w.heap.size, 0, none⟩ = some (.int .i64 s.f0) := (blk_cell hbx 0).trans rfl
  have x1 : W1.cell? ⟨w.heap.size, 1, none⟩ = some (.int .i64 s.f1) := (blk_cell hbx 1).trans rfl
  have x2 : W1.cell? ⟨w.heap.size, 2, none⟩ = some (.slice A s.f2.length cp) := (blk_cell hbx 2).trans rfl
  obtain ⟨k1, hk1⟩ := (state_ev s sv).rounds
  have HVF := Aside0.mk (show valueF s sv lt = if stateS s sv = true then valS sv lt s 0 else false from rfl)
  have HM := Aside0.mk (@state_may s sv)
  have HK1 := Aside0.mk hk1
  clear hbx hB1 hr hk1
  cases hst : stateS s sv with
  | false =>
    rw [hst] at HK1 HVF
    have HX := Aside0.mk (show valueF s sv lt = false from by rw [HVF.out]; rfl)
    clear hst
    go_enter Try.func17, Try.ntmps17
    go_upto_region 1 with fail
    rw [← hW1]
    clear hW1
    go_wp2_with (go_at_call 37; refine (tableau_state.calls k1 s.f0 s.f1 A cp s.f2 sv false _ (Kd.C_below HR.out HB1.out) hc HK1.out).mono ?_; rintro e w1 ⟨rfl, hB⟩; have HB := Aside0.mk hB; clear hB)
    go_ret
    exact ⟨show Ending.returned (.bool false) = _ from by rw [HX.out], HB1.out.trans (HB.out.mono HB1.out.size)⟩
  | true =>
    have hz := may_zero (HM.out hst)
    have HZ := Aside0.mk hz
    rw [hst] at HK1 HVF
    have HX := Aside0.mk (show valueF s sv lt = valS sv lt s 0 from by rw [HVF.out]; rfl)
    clear hst hz
    go_enter Try.func17, Try.ntmps17
    go_upto_region 1 with fail
    rw [← hW1]
    clear hW1
    go_wp2_with (first | (go_at_call 37; refine (tableau_state.calls k1 s.f0 s.f1 A cp s.f2 sv true _ (Kd.C_below HR.out HB1.out) hc HK1.out).mono ?_; rintro e w1 ⟨rfl, hB⟩; have HB := Aside0.mk (HB1.out.trans (hB.mono HB1.out.size)); have HBX1 := Aside0.mk ((hB.block _ (blk_lt HBX.out)).trans HBX.out); have y0 := (blk_cell HBX1.out 0).trans rfl; have y1 := (blk_cell HBX1.out 1).trans rfl; have y2 := (blk_cell HBX1.out 2).trans rfl; clear hB) | (go_at_call 38; refine (read_calls s sv lt A cp _ (Kd.C_below HR.out HB.out) hc HZ.out.2.2.2 (by have := HZ.out; omega)).mono ?_; rintro e w2 ⟨rb, v1, v2, rfl, hRd⟩; have HB2 := Aside0.mk (HB.out.trans (hRd.bl.mono HB.out.size)); clear hRd))
    go_ret
    exact ⟨show Ending.returned (.bool (valS sv lt s 0)) = _ from by rw [HX.out], HB2.out⟩
def tableau_Value.f (a0_0 : Int) (a0_1 : Int) (l0_2 : List S24) (a1 : Int) (a2 : Int) : Option Bool := some (valueF ⟨a0_0, a0_1, l0_2⟩ a1 a2)
theorem tableau_Value.calls (a0_0 : Int) (a0_1 : Int) (A0_2 : Option Addr) (c0_2 : Nat) (l0_2 : List S24) (a1 : Int) (a2 : Int) (r : Bool) (w : World) (hr0_2 : Kd.C k24 w A0_2 l0_2.length l0_2) (hc0_2 : l0_2.length ≤ c0_2) (h : tableau_Value.f a0_0 a0_1 l0_2 a1 a2 = some r) :
    Calls Try.prog 17 #[.agg #[.int .i64 a0_0, .int .i64 a0_1, .slice A0_2 l0_2.length c0_2], .int .i64 a1, .int .u32 a2] w fun e w' => e = .returned (.bool r) ∧ Below w.heap.size w w' := by
  obtain rfl := Option.some.inj h
  exact Value_calls ⟨a0_0, a0_1, l0_2⟩ a1 a2 A0_2 c0_2 w hr0_2 hc0_2
/-- Does what is said agree with the bits? -/
def movesL (sv : Int) : List Bool → Nat → Bool
  | [], _ => true
  | b :: r, k => b == bitK sv k && movesL sv r (k + 1)
def movesF (s : S24) (sv lt tv nx : Int) : Bool := stateS s sv && (stateS s tv && movesL sv (saidS tv nx s 0) 0)
set_option maxHeartbeats 3200000 in
set_option maxRecDepth 100000 in
theorem Moves_calls (s : S24) (sv lt tv nx : Int) (A : Option Addr) (cp : Nat) (w : World) (hr : Kd.C k24 w A s.f2.length s.f2) (hc : s.f2.length ≤ cp) :
    Calls Try.prog 18 #[.agg #[.int .i64 s.f0, .int .i64 s.f1, .slice A s.f2.length cp], .int .i64 sv, .int .u32 lt, .int .i64 tv, .int .u32 nx] w fun e w' => e = .returned (.bool (movesF s sv lt tv nx)) ∧ Below w.heap.size w w' := by
  have huF := Try.underlying24
  have hur := Try.underlying64
  have hus := Try.underlying45
  obtain ⟨W1, hW1⟩ : ∃ W1, W1 = w.alloc (.cells #[.int .i64 s.f0, .int .i64 s.f1, .slice A s.f2.length cp] 24) := ⟨_, rfl⟩
  have hB1 : Below w.heap.size w W1 := by rw [hW1]; exact below_alloc (Below.refl _ _) _
  have hbx : W1.heap[w.heap.size]? = some (.cells #[.int .i64 s.f0, .int .i64 s.f1, .slice A s.f2.length cp] 24 (0, 0)) := by rw [hW1]; exact heap_alloc_new w _
  have HBX := Aside0.mk hbx
  have HB1 := Aside0.mk hB1
  have HR := Aside0.mk hr
  have HW1 := Aside0.mk hW1
  have x0 : W1.cell? ⟨w.heap.size, 0, none⟩ = some (.int .i64 s.f0) := (blk_cell hbx 0).trans rfl
  have x1 : W1.cell? ⟨w.heap.size, 1, none⟩ = some (.int .i64 s.f1) := (blk_cell hbx 1).trans rfl
  have x2 : W1.cell? ⟨w.heap.size, 2, none⟩ = some (.slice A s.f2.length cp) := (blk_cell hbx 2).trans rfl
  obtain ⟨k1, hk1⟩ := (state_ev s sv).rounds
  obtain ⟨k2, hk2⟩ := (state_ev s tv).rounds
  have HVF := Aside0.mk (show movesF s sv lt tv nx = (stateS s sv && (stateS s tv && movesL sv (saidS tv nx s 0) 0)) from rfl)
  have HM := Aside0.mk (@state_may s tv)
  have HK1 := Aside0.mk hk1
  have HK2 := Aside0.mk hk2
  clear hbx hB1 hr hk1 hk2
  generalize movesF s sv lt tv nx = R at *
  cases hst : stateS s sv with
  | false =>
    rw [hst] at HK1 HVF
    have HX := Aside0.mk (show R = false from by rw [HVF.out]; rfl)
    clear hst
    go_enter Try.func18, Try.ntmps18
    go_upto_region 1 with fail
    rw [← hW1]
    clear hW1
    go_wp2_with (go_at_call 37; refine (tableau_state.calls k1 s.f0 s.f1 A cp s.f2 sv false _ (Kd.C_below HR.out HB1.out) hc HK1.out).mono ?_; rintro e w1 ⟨rfl, hB⟩; have HB := Aside0.mk hB; clear hB)
    go_ret
    exact ⟨show Ending.returned (.bool false) = _ from by rw [HX.out], HB1.out.trans (HB.out.mono HB1.out.size)⟩
  | true =>
    rw [hst] at HK1 HVF
    clear hst
    go_enter Try.func18, Try.ntmps18
    go_upto_region 1 with fail
    rw [← hW1]
    clear hW1
    cases hs2 : stateS s tv with
    | false =>
      rw [hs2] at HK2 HVF
      have HX := Aside0.mk (show R = false from by rw [HVF.out]; rfl)
      clear hs2
      go_wp2_with (go_at_call 37; first | ((with_reducible refine (tableau_state.calls k1 s.f0 s.f1 A cp s.f2 sv true _ (Kd.C_below HR.out HB1.out) hc HK1.out).mono ?_); rintro e w1 ⟨rfl, hB⟩; have HB := Aside0.mk (HB1.out.trans (hB.mono HB1.out.size)); have HBX1 := Aside0.mk ((hB.block _ (blk_lt HBX.out)).trans HBX.out); have y0 := (blk_cell HBX1.out 0).trans rfl; have y1 := (blk_cell HBX1.out 1).trans rfl; have y2 := (blk_cell HBX1.out 2).trans rfl; clear hB) | ((with_reducible refine (tableau_state.calls k2 s.f0 s.f1 A cp s.f2 tv false _ (Kd.C_below HR.out HB.out) hc HK2.out).mono ?_); rintro e w2 ⟨rfl, hB⟩; have HB2 := Aside0.mk (HB.out.trans (hB.mono HB.out.size)); clear hB))
      go_ret
      exact ⟨show Ending.returned (.bool false) = _ from by rw [HX.out], HB2.out⟩
    | true =>
      have HZ := Aside0.mk (may_zero (HM.out hs2))
      rw [hs2] at HK2 HVF
      have HX := Aside0.mk (show R = movesL sv (saidS tv nx s 0) 0 from by rw [HVF.out]; rfl)
      have hlz : (saidS tv nx s 0).length ≤ 8 := by rw [len_said]; exact HZ.out.2.2.1
      generalize hl : saidS tv nx s 0 = l at *
      have HLL := Aside0.mk hl
      clear hs2 hl
      go_wp2_with (first | (go_at_call 37; first | ((with_reducible refine (tableau_state.calls k1 s.f0 s.f1 A cp s.f2 sv true _ (Kd.C_below HR.out HB1.out) hc HK1.out).mono ?_); rintro e w1 ⟨rfl, hB⟩; have HB := Aside0.mk (HB1.out.trans (hB.mono HB1.out.size)); have HBX1 := Aside0.mk ((hB.block _ (blk_lt HBX.out)).trans HBX.out); have y0 := (blk_cell HBX1.out 0).trans rfl; have y1 := (blk_cell HBX1.out 1).trans rfl; have y2 := (blk_cell HBX1.out 2).trans rfl; clear hB) | ((with_reducible refine (tableau_state.calls k2 s.f0 s.f1 A cp s.f2 tv true _ (Kd.C_below HR.out HB.out) hc HK2.out).mono ?_); rintro e w2 ⟨rfl, hB⟩; have HB2 := Aside0.mk (HB.out.trans (hB.mono HB.out.size)); have HBX2 := Aside0.mk ((hB.block _ (blk_lt HBX1.out)).trans HBX1.out); have z0 := (blk_cell HBX2.out 0).trans rfl; have z1 := (blk_cell HBX2.out 1).trans rfl; have z2 := (blk_cell HBX2.out 2).trans rfl; clear hB)) | (go_at_call 38; refine (read_calls s tv nx A cp _ (Kd.C_below HR.out HB2.out) hc HZ.out.2.2.2 (by have := HZ.out; omega)).mono ?_; rintro e w3 ⟨rb, v1, v2, rfl, hRd⟩; rw [HLL.out] at hRd; obtain ⟨A1, c1, hvs, hc1⟩ := own_form hRd.o1; subst hvs; have r2 := rdrB_2 hRd.blk; have HB3 := Aside0.mk (HB2.out.trans (hRd.bl.mono HB2.out.size)); have HRd := Aside0.mk hRd; clear hRd))
      go_loopg [37] l.length (fun kq v37 w' => ∃ j : Nat, j + kq = l.length ∧ v37 = .int .i64 j ∧ Aside0 (movesL sv (l.drop j) j = movesL sv l 0) ∧ Aside0 (Rdr w2 w' rb tv nx l (goodS tv nx s 0) (.slice A1 l.length c1) v2) ∧ Aside0 (Below w.heap.size w w'))
      case atStart => exact ⟨0, by omega, rfl, ⟨rfl⟩, HRd, HB3⟩
      case round =>
        obtain ⟨j, hj, rfl, HMV, HRj, HBj⟩ := hrel
        have HJ := Aside0.mk hj
        clear hj
        by_cases hlt : j < l.length
        · obtain ⟨g1, q1, e1, _, _, p1, f1, _⟩ := own_put HRj.out.o1 hlt
          injection e1 with e1 _ e3
          subst e1 e3
          have HST := Aside0.mk (show movesL sv l 0 = ((l.getD j false == bitK sv j) && movesL sv (l.drop (j + 1)) (j + 1)) from by rw [← HMV.out, List.drop_eq_getElem_cons hlt, movesL, List.getD_eq_getElem?_getD, List.getElem?_eq_getElem hlt]; rfl)
          have HBT := Aside0.mk (show bitK sv j = ((Go.bits .and .i64 (sv / 2 ^ j) 1) == 1) from rfl)
          have hj8 : j ≤ 8 := by omega
          generalize l.getD j false = b at *
          go_upto_region 7 with fail
          go_cut [49] (fun v49 wx => ∃ t : Bool, v49 = .bool t ∧ Aside0 ((b != bitK sv j) = t) ∧ wx = wr)
          case first =>
            cases b
            all_goals
              go_wp2
              go_meet
              exact ⟨_, rfl, ⟨by unfold bitK; simp⟩, rfl⟩
          case rest =>
            obtain ⟨tt, rfl, HTT, hwc⟩ := hcut
            rw [hwc]
            clear hwc wc HBT
            generalize bitK sv j = c at *
            cases tt with
            | false =>
              have HS2 := Aside0.mk (show movesL sv (l.drop (j + 1)) (j + 1) = movesL sv l 0 from by have := HTT.out; rw [HST.out]; cases b <;> cases c <;> simp_all)
              go_wp2
              go_roundg (gk - 1)
              case measure => have := HJ.out; omega
              case rel => exact ⟨j + 1, by have := HJ.out; omega, by go_num, HS2, HRj, HBj⟩
            | true =>
              have HS2 := Aside0.mk (show R = false from by have := HTT.out; rw [HX.out, HST.out]; cases b <;> cases c <;> simp_all)
              go_wp2
              go_ret
              exact ⟨by rw [HS2.out]; rfl, HBj.out⟩
        · have HS2 := Aside0.mk (show R = true from by rw [HX.out, ← HMV.out, List.drop_eq_nil_of_le (by omega)]; rfl)
          go_wp2
          go_ret
          exact ⟨by rw [HS2.out]; rfl, HBj.out⟩
def tableau_Moves.f (a0_0 : Int) (a0_1 : Int) (l0_2 : List S24) (a1 : Int) (a2 : Int) (a3 : Int) (a4 : Int) : Option Bool := some (movesF ⟨a0_0, a0_1, l0_2⟩ a1 a2 a3 a4)
theorem tableau_Moves.calls (a0_0 : Int) (a0_1 : Int) (A0_2 : Option Addr) (c0_2 : Nat) (l0_2 : List S24) (a1 : Int) (a2 : Int) (a3 : Int) (a4 : Int) (r : Bool) (w : World) (hr0_2 : Kd.C k24 w A0_2 l0_2.length l0_2) (hc0_2 : l0_2.length ≤ c0_2) (h : tableau_Moves.f a0_0 a0_1 l0_2 a1 a2 a3 a4 = some r) :
    Calls Try.prog 18 #[.agg #[.int .i64 a0_0, .int .i64 a0_1, .slice A0_2 l0_2.length c0_2], .int .i64 a1, .int .u32 a2, .int .i64 a3, .int .u32 a4] w fun e w' => e = .returned (.bool r) ∧ Below w.heap.size w w' := by
  obtain rfl := Option.some.inj h
  exact Moves_calls ⟨a0_0, a0_1, l0_2⟩ a1 a2 a3 a4 A0_2 c0_2 w hr0_2 hc0_2
def goodF (s : S24) (k sv lt : Int) : Bool := stateS s sv && (decide (0 ≤ k) && (decide (k < tnS s) && (goodS sv lt s 0).getD k.toNat false))
set_option maxHeartbeats 3200000 in
set_option maxRecDepth 100000 in
theorem Good_calls (s : S24) (k sv lt : Int) (A : Option Addr) (cp : Nat) (w : World) (hr : Kd.C k24 w A s.f2.length s.f2) (hc : s.f2.length ≤ cp) :
    Calls Try.prog 22 #[.agg #[.int .i64 s.f0, .int .i64 s.f1, .slice A s.f2.length cp], .int .i64 k, .int .i64 sv, .int .u32 lt] w fun e w' => e = .returned (.bool (goodF s k sv lt)) ∧ Below w.heap.size w w' := by
  have huF := Try.underlying24
  have hur := Try.underlying64
  have hus := Try.underlying45
  obtain ⟨W1, hW1⟩ : ∃ W1, W1 = w.alloc (.cells #[.int .i64 s.f0, .int .i64 s.f1, .slice A s.f2.length cp] 24) := ⟨_, rfl⟩
  have hB1 : Below w.heap.size w W1 := by rw [hW1]; exact below_alloc (Below.refl _ _) _
  have hbx : W1.heap[w.heap.size]? = some (.cells #[.int .i64 s.f0, .int .i64 s.f1, .slice A s.f2.length cp] 24 (0, 0)) := by rw [hW1]; exact heap_alloc_new w _
  have HBX := Aside0.mk hbx
  have HB1 := Aside0.mk hB1
  have HR := Aside0.mk hr
  have HW1 := Aside0.mk hW1
  have x0 : W1.cell? ⟨w.heap.size, 0, none⟩ = some (.int .i64 s.f0) := (blk_cell hbx 0).trans rfl
  have x1 : W1.cell? ⟨w.heap.size, 1, none⟩ = some (.int .i64 s.f1) := (blk_cell hbx 1).trans rfl
  have x2 : W1.cell? ⟨w.heap.size, 2, none⟩ = some (.slice A s.f2.length cp) := (blk_cell hbx 2).trans rfl
  obtain ⟨k1, hk1⟩ := (state_ev s sv).rounds
  have HVF := Aside0.mk (show goodF s k sv lt = (stateS s sv && (decide (0 ≤ k) && (decide (k < tnS s) && (goodS sv lt s 0).getD k.toNat false))) from rfl)
  have HM := Aside0.mk (@state_may s sv)
  have HK1 := Aside0.mk hk1
  clear hbx hB1 hr hk1
  generalize goodF s k sv lt = R at *
  cases hst : stateS s sv with
  | false =>
    rw [hst] at HK1 HVF
    have HX := Aside0.mk (show R = false from by rw [HVF.out]; rfl)
    clear hst
    go_enter Try.func22, Try.ntmps22
    go_upto_region 1 with fail
    rw [← hW1]
    clear hW1
    go_wp2_with (go_at_call 37; refine (tableau_state.calls k1 s.f0 s.f1 A cp s.f2 sv false _ (Kd.C_below HR.out HB1.out) hc HK1.out).mono ?_; rintro e w1 ⟨rfl, hB⟩; have HB := Aside0.mk hB; clear hB)
    go_ret
    exact ⟨show Ending.returned (.bool false) = _ from by rw [HX.out], HB1.out.trans (HB.out.mono HB1.out.size)⟩
  | true =>
    have HZ := Aside0.mk (may_zero (HM.out hst))
    rw [hst] at HK1 HVF
    have HLN := Aside0.mk (len_good sv lt s 0)
    have hlz : (goodS sv lt s 0).length ≤ 8 := by rw [len_good]; exact HZ.out.2.2.1
    generalize hl : goodS sv lt s 0 = l at *
    have HLL := Aside0.mk hl
    have HX := Aside0.mk (show R = (decide (0 ≤ k) && (decide (k < tnS s) && l.getD k.toNat false)) from by rw [HVF.out]; rfl)
    clear hst hl
    go_enter Try.func22, Try.ntmps22
    go_upto_region 1 with fail
    rw [← hW1]
    clear hW1
    go_upto_region 4 with (first | (go_at_call 37; refine (tableau_state.calls k1 s.f0 s.f1 A cp s.f2 sv true _ (Kd.C_below HR.out HB1.out) hc HK1.out).mono ?_; rintro e w1 ⟨rfl, hB⟩; have HB := Aside0.mk (HB1.out.trans (hB.mono HB1.out.size)); have HBX1 := Aside0.mk ((hB.block _ (blk_lt HBX.out)).trans HBX.out); have y0 := (blk_cell HBX1.out 0).trans rfl; have y1 := (blk_cell HBX1.out 1).trans rfl; have y2 := (blk_cell HBX1.out 2).trans rfl; clear hB) | (go_at_call 38; refine (read_calls s sv lt A cp _ (Kd.C_below HR.out HB.out) hc HZ.out.2.2.2 (by have := HZ.out; omega)).mono ?_; rintro e w2 ⟨rb, v1, v2, rfl, hRd⟩; rw [HLL.out] at hRd; obtain ⟨A2, c2, hvg, hc2⟩ := own_form hRd.o2; subst hvg; have r3 := rdrB_3 hRd.blk; have HB2 := Aside0.mk (HB.out.trans (hRd.bl.mono HB.out.size)); have HRd := Aside0.mk hRd; clear hRd))
    by_cases h0 : 0 ≤ k
    · by_cases h1 : k < (l.length : Int)
      · obtain ⟨j, rfl⟩ := Int.eq_ofNat_of_zero_le h0
        obtain ⟨g1, q1, e1, _, _, p1, f1, _⟩ := own_put HRd.out.o2 (k := j) (by omega)
        injection e1 with e1 _ e3
        subst e1 e3
        have HX2 := Aside0.mk (show R = l.getD j false from by rw [HX.out, decide_eq_true h0, decide_eq_true (show (j : Int) < tnS s from by have := HLN.out; omega)]; rfl)
        generalize l.getD j false = b at *
        go_wp2
        go_ret
        exact ⟨by rw [HX2.out]; rfl, HB2.out⟩
      · have HX2 := Aside0.mk (show R = false from by rw [HX.out, decide_eq_false (show ¬ k < tnS s from by have := HLN.out; omega)]; simp)
        go_wp2
        go_ret
        exact ⟨by rw [HX2.out]; rfl, HB2.out⟩
    · have HX2 := Aside0.mk (show R = false from by rw [HX.out, decide_eq_false h0]; simp)
      go_wp2
      go_ret
      exact ⟨by rw [HX2.out]; rfl, HB2.out⟩
def tableau_Good.f (a0_0 : Int) (a0_1 : Int) (l0_2 : List S24) (a1 : Int) (a2 : Int) (a3 : Int) : Option Bool := some (goodF ⟨a0_0, a0_1, l0_2⟩ a1 a2 a3)
theorem tableau_Good.calls (a0_0 : Int) (a0_1 : Int) (A0_2 : Option Addr) (c0_2 : Nat) (l0_2 : List S24) (a1 : Int) (a2 : Int) (a3 : Int) (r : Bool) (w : World) (hr0_2 : Kd.C k24 w A0_2 l0_2.length l0_2) (hc0_2 : l0_2.length ≤ c0_2) (h : tableau_Good.f a0_0 a0_1 l0_2 a1 a2 a3 = some r) :
    Calls Try.prog 22 #[.agg #[.int .i64 a0_0, .int .i64 a0_1, .slice A0_2 l0_2.length c0_2], .int .i64 a1, .int .i64 a2, .int .u32 a3] w fun e w' => e = .returned (.bool r) ∧ Below w.heap.size w w' := by
  obtain rfl := Option.some.inj h
  exact Good_calls ⟨a0_0, a0_1, l0_2⟩ a1 a2 a3 A0_2 c0_2 w hr0_2 hc0_2
end Go.Proofs.Ytegaicoddnmemaa.X

namespace Go.Proofs.Ytegaicoddnmemaa.X
open Go.RowKit Go.Proofs.YtegaicoddnmemaaW.PrintWords Go.Proofs.YtegaicoddnmemaaW.PrintMore
open Go.Proofs.Ytegaicoddnmemaa.P Go.Proofs.Ytegaicoddnmemaa.Evx
set_option linter.unusedVariables false
set_option linter.unusedSimpArgs false
/-- A state with bit k. -/
def orBit (x : Int) (k : Nat) : Int := Go.bits .or .i64 x (wrap64 (2 ^ k))
/-- What a timed node's row speaks of. -/
def headT (t : S24) : S24 := if t.f0 = 6 then t.f2.getD 0 z24 else t
def runAt (row : List Bool) (n b k : Nat) (out : List Int) (i : Nat) : Int := if row.getD (nextS n b i) false = true then orBit (out.getD i 0) k else out.getD i 0
/-- One timed node's bits. -/
def runRow (row : List Bool) (n b k : Nat) (out : List Int) : List Int := (List.range n).map (runAt row n b k out)
def runL (st lp : List Int) : List S24 → Nat → List Int → List Int
  | [], _, out => out
  | t :: r, k, out => runL st lp r (k + 1) (runRow (rowF (headT t) st lp) (st.length + lp.length) st.length k out)
def runS (s : S24) (st lp : List Int) : List Int := if mayF s = 0 ∧ wordS st lp = true then runL st lp (timesS s) 0 (List.replicate (st.length + lp.length) 0) else []
def runOk (s : S24) (st lp : List Int) : Bool := decide (mayF s = 0) && wordS st lp
theorem len_runRow (row : List Bool) (n b k : Nat) (out : List Int) : (runRow row n b k out).length = n := by simp [runRow]
/-- Smaller. -/
structure SubF (t s : S24) : Prop where
  pn : nS t ≤ nS s
  ph : hS t ≤ hS s
  pt : tnS t ≤ tnS s
  ps : soundS s = true → soundS t = true
theorem SubF.refl (s : S24) : SubF s s := ⟨Nat.le_refl _, Nat.le_refl _, Nat.le_refl _, id⟩
theorem SubF.trans {a b c : S24} (h : SubF a b) (k : SubF b c) : SubF a c := ⟨Nat.le_trans h.pn k.pn, Nat.le_trans h.ph k.ph, Nat.le_trans h.pt k.pt, fun x => h.ps (k.ps x)⟩
theorem SubF.may {t s : S24} (h : SubF t s) (hm : mayF s = 0) : mayF t = 0 := by
  obtain ⟨h1, h2, h3, h4⟩ := may_zero hm
  rw [may_eq, if_pos (show nS t ≤ 60 ∧ hS t ≤ 12 ∧ tnS t ≤ 8 from ⟨Nat.le_trans h.pn h1, Nat.le_trans h.ph h2, Nat.le_trans h.pt h3⟩), if_pos (h.ps h4)]
theorem nL_mem : ∀ {l : List S24} {k : S24}, k ∈ l → nS k ≤ nL l ∧ hS k ≤ hL l ∧ tnS k ≤ tnL l
  | a :: r, k, h => by
    simp only [nL, hL, tnL]
    rcases List.mem_cons.1 h with e | e
    · subst e; omega
    · have := nL_mem e; omega
theorem SubF.kid {s k : S24} (h : k ∈ s.f2) : SubF k s := by
  obtain ⟨op, m, kids⟩ := s
  have := nL_mem (show k ∈ kids from h)
  refine ⟨?_, ?_, ?_, fun hs => sound_in (sound_kids_all hs) k h⟩
  · simp only [nS]; exact Nat.le_trans this.1 (by omega)
  · simp only [hS]; exact Nat.le_trans this.2.1 (by omega)
  · simp only [tnS]; exact Nat.le_trans this.2.2 (by omega)
mutual
theorem times_sub : ∀ (s t : S24), t ∈ timesS s → SubF t s
  | ⟨op, m, kids⟩, t, h => by
    simp only [timesS, List.mem_append] at h
    rcases h with h | h
    · split at h
      · rw [List.mem_singleton.1 h]; exact SubF.refl _
      · cases h
    · obtain ⟨k, hk, hs⟩ := times_subL kids t h
      exact hs.trans (SubF.kid hk)
theorem times_subL : ∀ (l : List S24) (t : S24), t ∈ timesL l → ∃ k ∈ l, SubF t k
  | [], t, h => by simp [timesL] at h
  | a :: r, t, h => by
    simp only [timesL, List.mem_append] at h
    rcases h with h | h
    · exact ⟨a, by simp, times_sub a t h⟩
    · obtain ⟨k, hk, hs⟩ := times_subL r t h
      exact ⟨k, by simp [hk], hs⟩
end
theorem head_may {t : S24} (h : mayF t = 0) : mayF (headT t) = 0 := by
  unfold headT
  split
  · rename_i h6
    have hs := (may_zero h).2.2.2
    have hp := sound_parts hs
    have h1 : kidsS 6 = 1 := by decide
    rw [h6, h1] at hp
    have hl : 0 < t.f2.length := by omega
    have : t.f2.getD 0 z24 = t.f2[0]'hl := by rw [List.getD_eq_getElem?_getD, List.getElem?_eq_getElem hl]; rfl
    rw [this]
    exact (SubF.kid (List.getElem_mem hl)).may h
  · exact h
theorem next6 {t : S24} (h : mayF t = 0) (h6 : t.f0 = 6) : 0 < t.f2.length := by
  have hp := sound_parts (may_zero h).2.2.2
  have h1 : kidsS 6 = 1 := by decide
  rw [h6, h1] at hp
  omega
theorem len_rowF {t : S24} {st lp : List Int} (h : mayF t = 0) (hw : wordS st lp = true) : (rowF t st lp).length = st.length + lp.length := by
  unfold rowF
  rw [if_pos ⟨h, hw⟩, len_row, List.length_append]
end Go.Proofs.Ytegaicoddnmemaa.X

namespace Go.Proofs.Ytegaicoddnmemaa.X
open Go.RowKit Go.Proofs.YtegaicoddnmemaaW.PrintWords Go.Proofs.YtegaicoddnmemaaW.PrintLast Go.Proofs.YtegaicoddnmemaaW.PrintMore
open Go.Proofs.Ytegaicoddnmemaa.P Go.Proofs.Ytegaicoddnmemaa.Evx
set_option linter.unusedSimpArgs false
set_option linter.unusedVariables false
def intsOf (l : List Int) : List Value := l.map (Value.int .i64)
theorem ints_get {l : List Int} {i : Nat} (h : i < l.length) : (intsOf l).toArray[i]? = some (.int .i64 (l.getD i 0)) := by simp [intsOf, h]
theorem ints_set (l : List Int) (i : Nat) (x : Int) : (intsOf l).toArray.setIfInBounds i (.int .i64 x) = (intsOf (l.set i x)).toArray := by simp [intsOf, List.map_set]
def IRow (w : World) (g : Nat) (l : List Int) : Prop := w.heap[g]? = some (.cells (intsOf l).toArray 3 (0, 0))
theorem irow_cell {w : World} {g : Nat} {l : List Int} (h : IRow w g l) {i : Nat} (hi : i < l.length) : w.cell? ⟨g, i, none⟩ = some (.int .i64 (l.getD i 0)) := by rw [blk_cell h, ints_get hi]
theorem irow_set {w : World} {g : Nat} {l : List Int} (h : IRow w g l) (i : Nat) (x : Int) : IRow (w.setCell ⟨g, i, none⟩ (.int .i64 x)) g (l.set i x) := (blk_set h i _).trans (by rw [ints_set])
theorem irow_R {w w' : World} {g n : Nat} {l : List Int} (h : IRow w' g l) (hl : l.length = n) (hg : w.heap.size ≤ g) (hn : n < 1000000000) : Kd.R (Kd.int .i64) 3 w' w.heap.size (fun _ => True) (.slice (some ⟨g, 0, none⟩) n n) l := by
  refine Kd.R_of_own ?_ (fun _ _ => trivial)
  rw [hl]
  refine ⟨by simp [encs, hl], .inr ⟨g, n, (intsOf l).toArray, rfl, hg, h, Nat.le_refl _, by simp [maxLen]; omega, by simp [intsOf, hl], ?_⟩⟩
  simp [intsOf, encs]
  rw [List.take_of_length_le (by simp [hl])]
theorem infoInt : (Try.prog.info? 3).map (fun i => (i.zero, i.size, i.bytes)) = some (some (.int .i64 0), 1, 8) := by kernel_rfl
theorem make_ints (n : Nat) (h : n < 1000000000) (W : World) : (Instr.makeSlice 31 (.int .i64 (n : Int)) (.int .i64 (n : Int))).run Try.prog W = .ok (.slice (some ⟨W.heap.size, 0, none⟩) n n) (W.alloc (.cells (intsOf (List.replicate n 0)).toArray 3)) := by
  have := print_make_of (P := Try.prog) 31 3 (.int .i64 0) 8 Try.underlying31 infoInt rfl (by decide) n (by omega) W
  rw [this]
  congr 3
  apply Array.ext
  · simp [madeCells, intsOf]
  · intro i h1 h2
    simp [madeCells, intsOf, Nat.mod_one]
/-- A row half done. -/
def half (row : List Bool) (n b k : Nat) (out : List Int) (i : Nat) : List Int := (runRow row n b k out).take i ++ out.drop i
theorem half_get {row : List Bool} {n b k : Nat} {out : List Int} {i : Nat} (hl : out.length = n) (hi : i < n) : (half row n b k out i).getD i 0 = out.getD i 0 := by
  unfold half
  rw [List.getD_eq_getElem?_getD, List.getElem?_append_right (by simp [len_runRow]; omega), List.length_take, len_runRow, Nat.min_eq_left (by omega), Nat.sub_self, List.getElem?_drop, Nat.add_zero, ← List.getD_eq_getElem?_getD]
theorem half_step {row : List Bool} {n b k : Nat} {out : List Int} {i : Nat} (hl : out.length = n) (hi : i < n) : (half row n b k out i).set i (runAt row n b k out i) = half row n b k out (i + 1) := by
  unfold half
  have h1 : ((runRow row n b k out).take i).length = i := by rw [List.length_take, len_runRow]; omega
  rw [List.set_append_right _ _ (by omega), h1, Nat.sub_self, List.drop_eq_getElem_cons (show i < out.length by omega), List.set_cons_zero, List.take_succ_eq_append_getElem (by rw [len_runRow]; exact hi), List.append_assoc]
  simp [runRow]
theorem half_same {row : List Bool} {n b k : Nat} {out : List Int} {i : Nat} (hl : out.length = n) (hi : i < n) (h : row.getD (nextS n b i) false = false) : half row n b k out i = half row n b k out (i + 1) := by
  rw [← half_step hl hi]
  have h2 := half_get (row := row) (b := b) (k := k) hl hi
  have h3 : runAt row n b k out i = (half row n b k out i).getD i 0 := by unfold runAt; rw [h, h2]; rfl
  rw [h3]
  have h4 : i < (half row n b k out i).length := by unfold half; simp [len_runRow]; omega
  rw [List.getD_eq_getElem?_getD, List.getElem?_eq_getElem h4]
  simp
theorem half_len {row : List Bool} {n b k : Nat} {out : List Int} {i : Nat} (hl : out.length = n) (hi : i ≤ n) : (half row n b k out i).length = n := by unfold half; simp [len_runRow]; omega
set_option maxHeartbeats 8000000 in
set_option maxRecDepth 100000 in
theorem Run_calls (s : S24) (st lp : List Int) (A : Option Addr) (cp : Nat) (A1 A2 : Option Addr) (c1 c2 : Nat) (w : World) (hr : Kd.C k24 w A s.f2.length s.f2) (hc : s.f2.length ≤ cp) (hr1 : Kd.C (Kd.int .u32) w A1 st.length st) (hc1 : st.length ≤ c1) (hr2 : Kd.C (Kd.int .u32) w A2 lp.length lp) (hc2 : lp.length ≤ c2) :
    Calls Try.prog 11 #[.agg #[.int .i64 s.f0, .int .i64 s.f1, .slice A s.f2.length cp], .agg #[.slice A1 st.length c1, .slice A2 lp.length c2]] w fun e w' => ∃ v0_ : Value, e = .returned (.tuple #[v0_, .bool (runOk s st lp)]) ∧ Kd.R (Kd.int .i64) 3 w' w.heap.size (fun _ => True) v0_ (runS s st lp) ∧ Below w.heap.size w w' := by
  have huF := Try.underlying24
  have huL := Try.underlying22
  have huW := Try.underlying27
  have hus := Try.underlying45
  have hui := Try.underlying31
  have huu := Try.underlying25
  obtain ⟨W2, hW2⟩ : ∃ W2, W2 = (w.alloc (.cells #[.int .i64 s.f0, .int .i64 s.f1, .slice A s.f2.length cp] 24)).alloc (.cells #[.slice A1 st.length c1, .slice A2 lp.length c2] 27) := ⟨_, rfl⟩
  have hB2 : Below w.heap.size w W2 := by rw [hW2]; exact below_alloc (below_alloc (Below.refl _ _) _) _
  have hb1 : W2.heap[w.heap.size]? = some (.cells #[.int .i64 s.f0, .int .i64 s.f1, .slice A s.f2.length cp] 24 (0, 0)) := by rw [hW2]; exact blk_alloc (heap_alloc_new w _) _
  have hb2 : W2.heap[w.heap.size + 1]? = some (.cells #[.slice A1 st.length c1, .slice A2 lp.length c2] 27 (0, 0)) := by
    rw [hW2]
    have := heap_alloc_new (w.alloc (.cells #[.int .i64 s.f0, .int .i64 s.f1, .slice A s.f2.length cp] 24)) (.cells #[.slice A1 st.length c1, .slice A2 lp.length c2] 27)
    simpa using this
  have hsz2 : w.heap.size + 2 ≤ W2.heap.size := by rw [hW2]; simp
  have HMAY := Aside0.mk (May_calls s A cp W2 (Kd.C_below hr hB2) hc)
  have x0 : W2.cell? ⟨w.heap.size, 0, none⟩ = some (.int .i64 s.f0) := (blk_cell hb1 0).trans rfl
  have x1 : W2.cell? ⟨w.heap.size, 1, none⟩ = some (.int .i64 s.f1) := (blk_cell hb1 1).trans rfl
  have x2 : W2.cell? ⟨w.heap.size, 2, none⟩ = some (.slice A s.f2.length cp) := (blk_cell hb1 2).trans rfl
  have HB2 := Aside0.mk hB2
  have HBX1 := Aside0.mk hb1
  have HBX2 := Aside0.mk hb2
  have HCF := Aside0.mk (Kd.C_below hr hB2)
  have HC1 := Aside0.mk (Kd.C_below hr1 hB2)
  have HC2 := Aside0.mk (Kd.C_below hr2 hB2)
  have HRF := Aside0.mk (show runS s st lp = if mayF s = 0 ∧ wordS st lp = true then runL st lp (timesS s) 0 (List.replicate (st.length + lp.length) 0) else [] from rfl)
  have HRO := Aside0.mk (show runOk s st lp = (decide (mayF s = 0) && wordS st lp) from rfl)
  have HM := Aside0.mk (@may_zero s)
  have HSUB := Aside0.mk (fun (hm : mayF s = 0) (t : S24) (ht : t ∈ timesS s) => (times_sub s t ht).may hm)
  have HTS := Aside0.mk (show TimesS s = if mayF s = 0 then timesS s else [] from rfl)
  obtain ⟨kt, hkt⟩ := (Times_ev s).rounds
  have HKT := Aside0.mk hkt
  clear hb1 hb2 hr hr1 hr2 hB2 hkt
  generalize mayF s = mv at *
  generalize hR : runS s st lp = R at *
  generalize runOk s st lp = Ok at *
  clear hR
  by_cases hm : mv = 0
  · have em : (mv != 0) = false := by rw [hm]; rfl
    cases hw : wordS st lp with
    | false =>
      have HX := Aside0.mk (show R = [] from by rw [HRF.out, hw, if_neg (by simp)])
      have HXO := Aside0.mk (show Ok = false from by rw [HRO.out, hw, Bool.and_false])
      have HWD := Aside0.mk ((mayWord_some st lp).trans (by rw [hw]))
      clear hw
      go_enter Try.func11, Try.ntmps11
      go_upto_region 1 with fail
      rw [← hW2]
      clear hW2
      go_wp2_with (first | (go_at_call 14; refine HMAY.out.mono ?_; rintro e w3 ⟨rfl, hB3⟩; have HB3 := Aside0.mk hB3; have HBX3 := Aside0.mk ((hB3.block _ (blk_lt HBX2.out)).trans HBX2.out); have y0 := (blk_cell HBX3.out 0).trans rfl; have y1 := (blk_cell HBX3.out 1).trans rfl; clear hB3) | (go_at_call 28; refine (formula_MayWord.calls A1 c1 st A2 c2 lp false _ (Kd.C_below HC1.out HB3.out) hc1 (Kd.C_below HC2.out HB3.out) hc2 HWD.out).mono ?_; rintro e w4 ⟨rfl, hB4⟩; have HB4 := Aside0.mk hB4; clear hB4))
      go_ret2
      exact ⟨_, by rw [HXO.out]; rfl, by rw [HX.out]; exact Kd.R_nil _ _ _ _ _, (HB2.out.trans (HB3.out.mono HB2.out.size)).trans (HB4.out.mono (Nat.le_trans HB2.out.size HB3.out.size))⟩
    | true =>
      have hwp : st.length ≤ 3000 ∧ 1 ≤ lp.length ∧ lp.length ≤ 27000 := of_decide_eq_true hw
      have HWT := Aside0.mk hw
      have HX := Aside0.mk (show R = runL st lp (timesS s) 0 (List.replicate (st.length + lp.length) 0) from by rw [HRF.out, hw, if_pos ⟨hm, rfl⟩])
      have HXO := Aside0.mk (show Ok = true from by rw [HRO.out, hw, decide_eq_true hm]; rfl)
      have HWD := Aside0.mk ((mayWord_some st lp).trans (by rw [hw]))
      have HSO := Aside0.mk (HM.out hm)
      have HSB := Aside0.mk (HSUB.out hm)
      have hT : TimesS s = timesS s := by rw [HTS.out, if_pos hm]
      rw [hT] at HKT
      have hTl : (timesS s).length ≤ 8 := by rw [len_times]; exact HSO.out.2.2.1
      have HTL := Aside0.mk hTl
      generalize timesS s = T at *
      obtain ⟨n, hn⟩ : ∃ n, n = st.length + lp.length := ⟨_, rfl⟩
      have HN := Aside0.mk hn
      have hmk := make_ints n (by omega)
      have hnb : n ≤ 30000 := by omega
      have hn0 : 0 < n := by omega
      have hns : st.length < n := by omega
      clear hw hT hTl hn
      go_enter Try.func11, Try.ntmps11
      go_upto_region 1 with fail
      rw [← hW2]
      clear hW2
      go_upto_region 3 with (first | (go_at_call 14; refine HMAY.out.mono ?_; rintro e w3 ⟨rfl, hB3⟩; have HB3 := Aside0.mk hB3; have HBX3 := Aside0.mk ((hB3.block _ (blk_lt HBX2.out)).trans HBX2.out); have HBY3 := Aside0.mk ((hB3.block _ (blk_lt HBX1.out)).trans HBX1.out); have y0 := (blk_cell HBX3.out 0).trans rfl; have y1 := (blk_cell HBX3.out 1).trans rfl; clear hB3) | (go_at_call 28; refine (formula_MayWord.calls A1 c1 st A2 c2 lp true _ (Kd.C_below HC1.out HB3.out) hc1 (Kd.C_below HC2.out HB3.out) hc2 HWD.out).mono ?_; rintro e w4 ⟨rfl, hB4⟩; have HB4 := Aside0.mk (HB3.out.trans (hB4.mono HB3.out.size)); have HBX4 := Aside0.mk ((hB4.block _ (blk_lt HBX3.out)).trans HBX3.out); have HBY4 := Aside0.mk ((hB4.block _ (blk_lt HBY3.out)).trans HBY3.out); clear hB4))
      have z0 : w4.cell? ⟨w.heap.size + 1, 0, none⟩ = some (.slice A1 st.length c1) := (blk_cell HBX4.out 0).trans rfl
      have z1 : w4.cell? ⟨w.heap.size + 1, 1, none⟩ = some (.slice A2 lp.length c2) := (blk_cell HBX4.out 1).trans rfl
      go_cut [6] (fun v6 wx => v6 = .int .i64 (n : Int) ∧ wx = w4)
      case first =>
        go_wp2
        go_meet
        exact ⟨by rw [HN.out]; rfl, rfl⟩
      case rest =>
        obtain ⟨rfl, hwc⟩ := hcut
        rw [hwc]
        clear hwc wc z0 z1
        go_upto_region 6 with fail
        obtain ⟨g, hg⟩ : ∃ g, g = w4.heap.size := ⟨_, rfl⟩
        obtain ⟨W5, hW5⟩ : ∃ W5, W5 = w4.alloc (.cells (intsOf (List.replicate n 0)).toArray 3) := ⟨_, rfl⟩
        have hB5 : Below w4.heap.size w4 W5 := by rw [hW5]; exact below_alloc (Below.refl _ _) _
        have hG5 : IRow W5 g (List.replicate n 0) := by rw [hW5, hg]; exact heap_alloc_new w4 _
        have hg2 : W2.heap.size ≤ g := by rw [hg]; exact HB4.out.size
        have hz5 : W5.heap.size = g + 1 := by rw [hW5, hg]; simp
        rw [← hW5, ← hg]
        have HB5 := Aside0.mk (HB4.out.trans (hB5.mono HB4.out.size))
        have HBX5 := Aside0.mk ((hB5.block _ (blk_lt HBX4.out)).trans HBX4.out)
        have HBY5 := Aside0.mk ((hB5.block _ (blk_lt HBY4.out)).trans HBY4.out)
        have HG5 := Aside0.mk hG5
        have HG2 := Aside0.mk hg2
        have HZ5 := Aside0.mk hz5
        have z0 : W5.cell? ⟨w.heap.size, 0, none⟩ = some (.int .i64 s.f0) := (blk_cell HBY5.out 0).trans rfl
        have z1 : W5.cell? ⟨w.heap.size, 1, none⟩ = some (.int .i64 s.f1) := (blk_cell HBY5.out 1).trans rfl
        have z2 : W5.cell? ⟨w.heap.size, 2, none⟩ = some (.slice A s.f2.length cp) := (blk_cell HBY5.out 2).trans rfl
        clear hW5 hg hB5 hG5 hg2 hz5 hmk
        go_wp2_with (go_at_call 25; refine (formula_Times.calls kt s.f0 s.f1 A cp s.f2 T _ (Kd.C_below HCF.out HB5.out) hc HKT.out).mono ?_; rintro e w6 ⟨v6, rfl, hN6, hB6⟩; obtain ⟨A6, c6, e6⟩ := Kd.N_slice hN6; subst e6; have HN6 := Aside0.mk (Kd.C_kept_ownV (base := 0) (S := fun k => k = g) (Kd.N_V hN6) (fun k hk e => by have := HZ5.out; omega)); have HB6 := Aside0.mk (HB5.out.trans (hB6.mono HB5.out.size)); have HG6 := Aside0.mk (show IRow w6 g (List.replicate n 0) from (hB6.block _ (blk_lt HG5.out)).trans HG5.out); have HBX6 := Aside0.mk ((hB6.block _ (blk_lt HBX5.out)).trans HBX5.out); clear hN6 hB6)
        go_loopg [34] T.length (fun kq v34 w' => ∃ (k : Nat) (out : List Int), k + kq = T.length ∧ v34 = .int .i64 k ∧ out.length = n ∧ Aside0 (runL st lp (T.drop k) k out = R) ∧ Aside0 (IRow w' g out) ∧ Aside0 (Below W2.heap.size W2 w') ∧ Aside0 (Kept w6 w' (fun k => k = g)))
        case atStart => exact ⟨0, List.replicate n 0, by omega, rfl, by simp, ⟨by rw [HX.out, HN.out]; rfl⟩, HG6, HB6, ⟨Kept.refl _ _⟩⟩
        case round =>
          obtain ⟨k, out, hk, rfl, hol, HRL, HGo, HBo, HKo⟩ := hrel
          have HK := Aside0.mk hk
          clear hk
          by_cases hlt : k < T.length
          · obtain ⟨ad, A3, c3, e0, hx0, hx1, hx2, hl3, hk3⟩ := kid_at (HN6.out wr HKo.out) (Below.refl _ _) k hlt hlt
            cases e0
            have HK3 := Aside0.mk hk3
            have HL3 := Aside0.mk hl3
            have HTM := Aside0.mk (HSB.out _ (List.getElem_mem hlt))
            have HRS := Aside0.mk (show runL st lp (T.drop (k + 1)) (k + 1) (runRow (rowF (headT (T[k]'hlt)) st lp) n st.length k out) = R from by rw [← HRL.out, List.drop_eq_getElem_cons hlt, runL, HN.out])
            generalize T[k]'hlt = t at *
            clear hk3 hl3
            have hk8 : k < 8 := by have := HTL.out; omega
            go_upto_if 41 with fail
            go_cut [] (fun wx => ∃ A4 c4, Aside0 (wx.heap[wr.heap.size]? = some (.cells #[.int .i64 (headT t).f0, .int .i64 (headT t).f1, .slice A4 (headT t).f2.length c4] 24 (0, 0))) ∧ Aside0 (Kd.C k24 wx A4 (headT t).f2.length (headT t).f2) ∧ Aside0 ((headT t).f2.length ≤ c4) ∧ Aside0 (Below wr.heap.size wr wx))
            case first =>
              by_cases h6 : t.f0 = 6
              · have h6b : (t.f0 == 6) = true := beq_iff_eq.2 h6
                have hl0 := next6 HTM.out h6
                obtain ⟨ad2, A5, c5, e0, hy0, hy1, hy2, hl5, hk5⟩ := kid_at HK3.out (Below.refl _ _) 0 hl0 hl0
                subst e0
                have e0 : ad2.add (0 * 3) = ad2 := by cases ad2; simp [Addr.add]
                rw [e0] at hy0 hy1 hy2
                have hn0 := World.new_ne wr _ hy0
                have hlt2 := World.block_lt_of_cell? _ _ hy0
                have hh : headT t = t.f2[0]'hl0 := by unfold headT; rw [if_pos h6, List.getD_eq_getElem?_getD, List.getElem?_eq_getElem hl0]; rfl
                have HH := Aside0.mk hh
                have HK5 := Aside0.mk hk5
                have HL5 := Aside0.mk hl5
                clear hk5 hl5 hh h6
                go_wp2
                go_meet
                exact ⟨A5, c5, ⟨by rw [HH.out]; exact heap_alloc_new wr _⟩, ⟨by rw [HH.out]; exact Kd.C_alloc HK5.out _⟩, ⟨by rw [HH.out]; exact HL5.out⟩, ⟨below_alloc (Below.refl _ _) _⟩⟩
              · have h6b : (t.f0 == 6) = false := beq_eq_false_iff_ne.2 h6
                have hh : headT t = t := by unfold headT; rw [if_neg h6]
                have HH := Aside0.mk hh
                clear hh
                go_wp2
                go_meet
                exact ⟨A3, c3, ⟨by rw [HH.out]; exact heap_alloc_new wr _⟩, ⟨by rw [HH.out]; exact Kd.C_alloc HK3.out _⟩, ⟨by rw [HH.out]; exact HL3.out⟩, ⟨below_alloc (Below.refl _ _) _⟩⟩
            case rest =>
              obtain ⟨A4, c4, HBX, HC4, HL4, HBW⟩ := hcut
              have hHM := head_may HTM.out
              generalize headT t = h at *
              have y0 : wc.cell? ⟨wr.heap.size, 0, none⟩ = some (.int .i64 h.f0) := (blk_cell HBX.out 0).trans rfl
              have y1 : wc.cell? ⟨wr.heap.size, 1, none⟩ = some (.int .i64 h.f1) := (blk_cell HBX.out 1).trans rfl
              have y2 : wc.cell? ⟨wr.heap.size, 2, none⟩ = some (.slice A4 h.f2.length c4) := (blk_cell HBX.out 2).trans rfl
              have HBc := Aside0.mk (HBo.out.trans (HBW.out.mono HBo.out.size))
              have HBXl := Aside0.mk ((HBc.out.block _ (blk_lt HBX2.out)).trans HBX2.out)
              have z0 : wc.cell? ⟨w.heap.size + 1, 0, none⟩ = some (.slice A1 st.length c1) := (blk_cell HBXl.out 0).trans rfl
              have z1 : wc.cell? ⟨w.heap.size + 1, 1, none⟩ = some (.slice A2 lp.length c2) := (blk_cell HBXl.out 1).trans rfl
              have HROW := Aside0.mk (Row_calls h st lp A4 c4 A1 A2 c1 c2 wc HC4.out HL4.out (Kd.C_below HC1.out HBc.out) hc1 (Kd.C_below HC2.out HBc.out) hc2)
              have hrl := len_rowF hHM HWT.out
              rw [← HN.out] at hrl
              have HRLN := Aside0.mk hrl
              generalize rowF h st lp = row at *
              have HGc := Aside0.mk (show IRow wc g out from (HBW.out.block _ (blk_lt HGo.out)).trans HGo.out)
              have HKc := Aside0.mk (HKo.out.below HBW.out)
              clear hHM hrl
              go_wp2_with (go_at_call 24; refine HROW.out.mono ?_; rintro e w8 ⟨v8, rfl, hR8, hB8⟩; obtain ⟨A8, c8, e8⟩ := Kd.R_slice hR8; subst e8; have HR8 := Aside0.mk (Kd.C_kept_own (S := fun k => k = g) (Kd.R_mono (Kd.R_bound hR8) (ok' := fun k => wc.heap.size ≤ k) (fun k hk => hk.2.1)) (fun k hk e => by have := blk_lt HGc.out; omega)); have HB8 := Aside0.mk (HBc.out.trans (hB8.mono HBc.out.size)); have HG8 := Aside0.mk (show IRow w8 g out from (hB8.block _ (blk_lt HGc.out)).trans HGc.out); have HK8 := Aside0.mk (HKc.out.below hB8); clear hR8 hB8; rw [HRLN.out])
              have hst2 : st.length ≤ 9223372036854775807 := by omega
              go_loopg [52] n (fun kq v52 w' => ∃ (i : Nat), i + kq = n ∧ v52 = .int .i64 i ∧ Aside0 (IRow w' g (half row n st.length k out i)) ∧ Aside0 (Below W2.heap.size W2 w') ∧ Aside0 (Kept w8 w' (fun k => k = g)))
              case atStart => exact ⟨0, by omega, rfl, ⟨by simpa [half] using HG8.out⟩, HB8, ⟨Kept.refl _ _⟩⟩
              case round =>
                obtain ⟨i, hi, rfl, HGi, HBi, HKi⟩ := hrel
                have HI := Aside0.mk hi
                clear hi
                by_cases hin : i < n
                · have hq : nextS n st.length i < n := nextS_lt hns
                  have hre := Kd.reads_of_C (d := false) (HR8.out wr HKi.out)
                  obtain ⟨ad8, e8, hcell⟩ := hre.2.2 (by rw [HRLN.out]; omega)
                  subst e8
                  have hx := hcell (nextS n st.length i) (by rw [HRLN.out]; exact hq)
                  have hbl := Aside0.mk ((HBi.out.block _ (blk_lt HBX2.out)).trans HBX2.out)
                  have l0 : wr.cell? ⟨w.heap.size + 1, 0, none⟩ = some (.slice A1 st.length c1) := (blk_cell hbl.out 0).trans rfl
                  have hlen : (half row n st.length k out i).length = n := half_len hol (by omega)
                  have hcx := irow_cell HGi.out (i := i) (by omega)
                  have hfx := blk_frozen HGi.out i
                  have HGET := Aside0.mk (half_get (row := row) (b := st.length) (k := k) hol hin)
                  rw [HGET.out] at hcx
                  have HSTEP := Aside0.mk (half_step (row := row) (b := st.length) (k := k) hol hin)
                  have HSAME := Aside0.mk (half_same (row := row) (b := st.length) (k := k) hol hin)
                  have HAT := Aside0.mk (show runAt row n st.length k out i = if row.getD (nextS n st.length i) false = true then orBit (out.getD i 0) k else out.getD i 0 from rfl)
                  have hnx : nextS n st.length i = if i + 1 < n then i + 1 else st.length := rfl
                  generalize row.getD (nextS n st.length i) false = x at *
                  generalize out.getD i 0 = o at *
                  clear hcell hre hlen
                  obtain ⟨q, hqq⟩ : ∃ q, q = nextS n st.length i := ⟨_, rfl⟩
                  rw [← hqq] at hx hq hnx
                  have HNX := Aside0.mk hnx
                  clear hnx hqq
                  go_upto_if 59 with fail
                  go_cut [13] (fun v13 wx => v13 = .int .i64 ((q : Nat) : Int) ∧ wx = wr)
                  case first =>
                    by_cases hie : i + 1 = n
                    · have HQ := Aside0.mk (show q = st.length from by rw [HNX.out, if_neg (by omega)])
                      have hib : (((i : Int) + 1) == (n : Int)) = true := beq_iff_eq.2 (by omega)
                      clear hie
                      go_wp2
                      go_meet
                      exact ⟨by first | (rw [HQ.out]; done) | (rw [HQ.out]; rfl), rfl⟩
                    · have HQ := Aside0.mk (show q = i + 1 from by rw [HNX.out, if_pos (by omega)])
                      have hib : (((i : Int) + 1) == (n : Int)) = false := beq_eq_false_iff_ne.2 (by omega)
                      clear hie
                      go_wp2
                      go_meet
                      exact ⟨by first | (rw [HQ.out]; done) | (rw [HQ.out]; rfl), rfl⟩
                  case rest =>
                    obtain ⟨rfl, hwc⟩ := hcut
                    rw [hwc]
                    clear hwc wc
                    cases x with
                    | false =>
                      have HSM := Aside0.mk (HSAME.out rfl)
                      go_wp2
                      go_roundg (n - (i + 1))
                      case measure => have := HI.out; omega
                      case rel => exact ⟨i + 1, by omega, by go_num, ⟨by rw [← HSM.out]; exact HGi.out⟩, HBi, HKi⟩
                    | true =>
                      go_wp2
                      go_region_law (fail)
                      all_goals (
                        go_wp2
                        go_roundg (n - (i + 1))
                        case measure => have := HI.out; omega
                        case rel => exact ⟨i + 1, by omega, by go_num, ⟨by rw [← HSTEP.out, HAT.out]; exact irow_set HGi.out i (orBit o k)⟩, ⟨below_drew1 (HBi.out.setCell HG2.out _)⟩, ⟨(HKi.out.setCell (.inl rfl) _).drew⟩⟩)
                · have hin2 : i = n := by have := HI.out; omega
                  have hhalf : half row n st.length k out i = runRow row n st.length k out := by unfold half; rw [hin2, List.take_of_length_le (by rw [len_runRow]; omega), List.drop_eq_nil_of_le (by omega), List.append_nil]
                  have HHALF := Aside0.mk hhalf
                  have HIN2 := Aside0.mk hin2
                  clear hhalf hin2
                  go_wp2
                  go_roundg (T.length - (k + 1))
                  case measure => have := HK.out; omega
                  case rel => exact ⟨k + 1, runRow row n st.length k out, by omega, by go_num, len_runRow _ _ _ _ _, HRS, ⟨by rw [← HHALF.out]; exact HGi.out⟩, HBi, ⟨HK8.out.then_ HKi.out (fun _ h => .inl h)⟩⟩
          · go_wp2
            go_ret2
            have hfin : out = R := by rw [← HRL.out, List.drop_eq_nil_of_le (by omega)]; rfl
            exact ⟨_, by rw [HXO.out]; rfl, by rw [← hfin]; exact irow_R HGo.out hol (Nat.le_trans HB2.out.size HG2.out) (by omega), HB2.out.trans (HBo.out.mono HB2.out.size)⟩
  · have em : (mv != 0) = true := by simpa using hm
    have HX := Aside0.mk (show R = [] from by rw [HRF.out, if_neg (fun h => hm h.1)])
    have HXO := Aside0.mk (show Ok = false from by rw [HRO.out, decide_eq_false hm]; rfl)
    go_enter Try.func11, Try.ntmps11
    go_upto_region 1 with fail
    rw [← hW2]
    clear hW2
    go_wp2_with (go_at_call 14; refine HMAY.out.mono ?_; rintro e w3 ⟨rfl, hB3⟩; have HB3 := Aside0.mk hB3; clear hB3)
    go_ret2
    exact ⟨_, by rw [HXO.out]; rfl, by rw [HX.out]; exact Kd.R_nil _ _ _ _ _, HB2.out.trans (HB3.out.mono HB2.out.size)⟩
def tableau_Run.f (a0_0 : Int) (a0_1 : Int) (l0_2 : List S24) (l1_0 : List Int) (l1_1 : List Int) : Option (List Int × Bool) := some (runS ⟨a0_0, a0_1, l0_2⟩ l1_0 l1_1, runOk ⟨a0_0, a0_1, l0_2⟩ l1_0 l1_1)
theorem tableau_Run.calls (a0_0 : Int) (a0_1 : Int) (A0_2 : Option Addr) (c0_2 : Nat) (l0_2 : List S24) (A1_0 : Option Addr) (c1_0 : Nat) (l1_0 : List Int) (A1_1 : Option Addr) (c1_1 : Nat) (l1_1 : List Int) (r1 : List Int) (r2 : Bool) (w : World) (hr0_2 : Kd.C k24 w A0_2 l0_2.length l0_2) (hc0_2 : l0_2.length ≤ c0_2) (hr1_0 : Kd.C (Kd.int .u32) w A1_0 l1_0.length l1_0) (hc1_0 : l1_0.length ≤ c1_0) (hr1_1 : Kd.C (Kd.int .u32) w A1_1 l1_1.length l1_1) (hc1_1 : l1_1.length ≤ c1_1) (h : tableau_Run.f a0_0 a0_1 l0_2 l1_0 l1_1 = some (r1, r2)) :
    Calls Try.prog 11 #[.agg #[.int .i64 a0_0, .int .i64 a0_1, .slice A0_2 l0_2.length c0_2], .agg #[.slice A1_0 l1_0.length c1_0, .slice A1_1 l1_1.length c1_1]] w fun e w' => ∃ v1_ : Value, e = .returned (.tuple #[v1_, .bool r2]) ∧ Kd.R (Kd.int .i64) 3 w' w.heap.size (fun _ => True) v1_ r1 ∧ Below w.heap.size w w' := by
  obtain ⟨rfl, rfl⟩ := Prod.mk.inj (Option.some.inj h)
  exact Run_calls ⟨a0_0, a0_1, l0_2⟩ l1_0 l1_1 A0_2 c0_2 A1_0 A1_1 c1_0 c1_1 w hr0_2 hc0_2 hr1_0 hc1_0 hr1_1 hc1_1
end Go.Proofs.Ytegaicoddnmemaa.X

namespace Go.Proofs.Ytegaicoddnmemaa.X
open Go.RowKit Go.Proofs.YtegaicoddnmemaaW.PrintWords Go.Proofs.YtegaicoddnmemaaW.PrintLast Go.Proofs.YtegaicoddnmemaaW.PrintMore
open Go.Proofs.Ytegaicoddnmemaa.P Go.Proofs.Ytegaicoddnmemaa.Evx
set_option linter.unusedSimpArgs false
set_option linter.unusedVariables false
def atomS (n : Int) : S24 := ⟨2, n, []⟩
def F0 : S24 := ⟨7, 0, [atomS 0, atomS 1]⟩
set_option maxHeartbeats 800000 in
theorem atom_calls (n : Int) (w : World) : Calls Try.prog 27 #[.int .i64 n] w fun e w' => e = .returned (.agg #[.int .i64 2, .int .i64 n, .slice none 0 0]) ∧ Below w.heap.size w w' := by
  have huF := Try.underlying24
  go_enter Try.func27, Try.ntmps27
  go_wp2
  exact bodyPost_ret (v := .agg #[.int .i64 2, .int .i64 n, .slice none 0 0]) (by simp [results, Try.results27, go_sem]) rfl ⟨rfl, below_alloc (Below.refl _ _) _⟩
theorem run_F0 : runS F0 [1] [2, 0] = [1, 0, 1] := by decide +kernel
theorem ok_F0 : runOk F0 [1] [2, 0] = true := by decide +kernel
theorem size_F0 : sizeS F0 = 2 := by decide +kernel
theorem val_F0 : valueF F0 0 2 = true := by decide +kernel
theorem val_F1 : valueF F0 0 1 = false := by decide +kernel
/-- Two formulas in a block. -/
theorem C_two {w : World} {g : Nat} {a b : S24} (ha : a.f2 = []) (hb : b.f2 = []) (h : w.heap[g]? = some (.cells #[.int .i64 a.f0, .int .i64 a.f1, .slice none 0 0, .int .i64 b.f0, .int .i64 b.f1, .slice none 0 0] 24 (0, 0))) : Kd.C k24 w (some ⟨g, 0, none⟩) 2 [a, b] := by
  have hK : ∀ x : S24, x.f2 = [] → k24.K w x [.int .i64 x.f0, .int .i64 x.f1, .slice none 0 0] := by
    intro x hx
    have := k24_mk w x (A2 := none) (c2 := 0) (by rw [hx]; simp) (by rw [hx]; exact Kd.C_nil _ _)
    rwa [hx] at this
  refine ⟨rfl, by omega, fun _ => ⟨_, rfl, fun j p hj => ?_⟩⟩
  have hs : k24.sz = 3 := rfl
  match j, hj with
  | 0, hj =>
    obtain rfl : a = p := by simpa using hj
    refine ⟨_, rfl, hK a ha, fun i u hu => ?_⟩
    rw [hs, add_at, blk_cell h]
    match i, hu with
    | 0, hu => exact hu
    | 1, hu => exact hu
    | 2, hu => exact hu
  | 1, hj =>
    obtain rfl : b = p := by simpa using hj
    refine ⟨_, rfl, hK b hb, fun i u hu => ?_⟩
    rw [hs, add_at, blk_cell h]
    match i, hu with
    | 0, hu => exact hu
    | 1, hu => exact hu
    | 2, hu => exact hu
theorem C_u32 {w : World} {g : Nat} {l : List Int} {t : TypeId} (h : w.heap[g]? = some (.cells (l.map (Value.int .u32)).toArray t (0, 0))) (hl : 0 < l.length) (hm : l.length < 1000) : Kd.C (Kd.int .u32) w (some ⟨g, 0, none⟩) l.length l := by
  refine Kd.C_of_reads (d := 0) ⟨rfl, by omega, fun _ => ⟨_, rfl, fun j hj => ?_⟩⟩
  rw [add_at, blk_cell h]
  simp [hj]
set_option maxHeartbeats 3200000 in
set_option maxRecDepth 100000 in
theorem awake_calls (w : World) : Calls Try.prog 10 #[] w fun e w' => e = .returned (.bool true) ∧ Below w.heap.size w w' := by
  have huF := Try.underlying24
  have huW := Try.underlying27
  have huL := Try.underlying22
  have huu := Try.underlying25
  have hui := Try.underlying31
  have HBA := Aside0.mk (Below.refl w.heap.size w)
  obtain ⟨k1, hk1⟩ := (Size_ev F0).rounds
  rw [size_F0] at hk1
  have HK1 := Aside0.mk hk1
  clear hk1
  go_enter Try.func10, Try.ntmps10
  go_upto_region 2 with (go_at_call 27; refine (atom_calls _ _).mono ?_; rintro e w1 ⟨rfl, hB⟩; have HBn := Aside0.mk (HBA.out.trans (hB.mono HBA.out.size)); clear HBA hB; have HBA := HBn; clear HBn)
  obtain ⟨W3, hW3⟩ : ∃ W3, W3 = (w1.alloc (.cells #[.int .i64 2, .int .i64 0, .slice none 0 0, .int .i64 2, .int .i64 1, .slice none 0 0] 24)).alloc (.cells #[.int .i64 7, .int .i64 0, .slice (some ⟨w1.heap.size, 0, none⟩) 2 2] 24) := ⟨_, rfl⟩
  have hB3 : Below w1.heap.size w1 W3 := by rw [hW3]; exact below_alloc (below_alloc (Below.refl _ _) _) _
  have hbk : W3.heap[w1.heap.size]? = some (.cells #[.int .i64 2, .int .i64 0, .slice none 0 0, .int .i64 2, .int .i64 1, .slice none 0 0] 24 (0, 0)) := by rw [hW3]; exact blk_alloc (heap_alloc_new w1 _) _
  have hbx : W3.heap[w1.heap.size + 1]? = some (.cells #[.int .i64 7, .int .i64 0, .slice (some ⟨w1.heap.size, 0, none⟩) 2 2] 24 (0, 0)) := by
    rw [hW3]
    have := heap_alloc_new (w1.alloc (.cells #[.int .i64 2, .int .i64 0, .slice none 0 0, .int .i64 2, .int .i64 1, .slice none 0 0] 24)) (.cells #[.int .i64 7, .int .i64 0, .slice (some ⟨w1.heap.size, 0, none⟩) 2 2] 24)
    simpa using this
  have hz3 : W3.heap.size = w1.heap.size + 2 := by rw [hW3]; simp
  have HKF := Aside0.mk (fun W (h : Below W3.heap.size W3 W) => Kd.C_below (C_two (w := W3) (a := atomS 0) (b := atomS 1) rfl rfl hbk) h)
  have HBX := Aside0.mk hbx
  have HB3 := Aside0.mk (HBA.out.trans (hB3.mono HBA.out.size))
  rw [← hW3]
  obtain ⟨W5, hW5⟩ : ∃ W5, W5 = (W3.alloc (.cells #[.int .u32 1] 36)).alloc (.cells #[.int .u32 2, .int .u32 0] 36) := ⟨_, rfl⟩
  have hB5 : Below W3.heap.size W3 W5 := by rw [hW5]; exact below_alloc (below_alloc (Below.refl _ _) _) _
  have h1 : W5.heap[W3.heap.size]? = some (.cells #[.int .u32 1] 36 (0, 0)) := by rw [hW5]; exact blk_alloc (heap_alloc_new W3 _) _
  have h2 : W5.heap[W3.heap.size + 1]? = some (.cells #[.int .u32 2, .int .u32 0] 36 (0, 0)) := by
    rw [hW5]
    have := heap_alloc_new (W3.alloc (.cells #[.int .u32 1] 36)) (.cells #[.int .u32 2, .int .u32 0] 36)
    simpa using this
  have HRUN := Aside0.mk (Run_calls F0 [1] [2, 0] (some ⟨w1.heap.size, 0, none⟩) 2 (some ⟨W3.heap.size, 0, none⟩) (some ⟨W3.heap.size + 1, 0, none⟩) 1 2 W5 (HKF.out W5 hB5) (Nat.le_refl _) (C_u32 (l := [1]) h1 (by decide) (by decide)) (Nat.le_refl _) (C_u32 (l := [2, 0]) h2 (by decide) (by decide)) (Nat.le_refl _))
  rw [ok_F0, run_F0] at HRUN
  have HW5 := Aside0.mk hW5
  have HB5 := Aside0.mk hB5
  have b0 : W3.cell? ⟨w1.heap.size + 1, 0, none⟩ = some (.int .i64 7) := (blk_cell HBX.out 0).trans rfl
  have b1 : W3.cell? ⟨w1.heap.size + 1, 1, none⟩ = some (.int .i64 0) := (blk_cell HBX.out 1).trans rfl
  have b2 : W3.cell? ⟨w1.heap.size + 1, 2, none⟩ = some (.slice (some ⟨w1.heap.size, 0, none⟩) 2 2) := (blk_cell HBX.out 2).trans rfl
  have HZ3 := Aside0.mk hz3
  have HV : ∀ (lt : Int) (b : Bool), valueF F0 0 lt = b → ∀ W, Below W3.heap.size W3 W → Calls Try.prog 17 #[.agg #[.int .i64 7, .int .i64 0, .slice (some ⟨w1.heap.size, 0, none⟩) 2 2], .int .i64 0, .int .u32 lt] W fun e w' => e = .returned (.bool b) ∧ Below W.heap.size W w' := fun lt b hb W hW => hb ▸ Value_calls F0 0 lt (some ⟨w1.heap.size, 0, none⟩) 2 W (HKF.out W hW) (Nat.le_refl _)
  have HV1 := Aside0.mk (HV 2 true val_F0)
  have HV2 := Aside0.mk (HV 1 false val_F1)
  clear HV
  clear hW3 hB3 hbk hbx hW5 hB5 h1 h2 hz3
  go_wp2_with (first | (go_at_call 11; rw [← HW5.out]; refine HRUN.out.mono ?_; rintro e w6 ⟨v6, rfl, hR6, hB6⟩; obtain ⟨g6, c6, e6, _⟩ := Kd.R_form hR6 (by decide); subst e6; have HC6 := Aside0.mk (Kd.R_reads' hR6).2.2; have HB6 := Aside0.mk (HB5.out.trans (hB6.mono HB5.out.size)); clear hR6 hB6; have HBX6 := Aside0.mk ((HB6.out.block _ (blk_lt HBX.out)).trans HBX.out); have q0 := (blk_cell HBX6.out 0).trans rfl; have q1 := (blk_cell HBX6.out 1).trans rfl; have q2 := (blk_cell HBX6.out 2).trans rfl) | (go_at_call 16; refine (tableau_Size.calls k1 7 0 (some ⟨w1.heap.size, 0, none⟩) 2 [atomS 0, atomS 1] 2 _ (HKF.out _ HB6.out) (Nat.le_refl _) HK1.out).mono ?_; rintro e w7 ⟨rfl, hB7⟩; have HB7 := Aside0.mk (HB6.out.trans (hB7.mono HB6.out.size)); have HC7 := Aside0.mk (Kd.C_below HC6.out hB7); clear hB7; have HBX7 := Aside0.mk ((HB7.out.block _ (blk_lt HBX.out)).trans HBX.out); have p0 := (blk_cell HBX7.out 0).trans rfl; have p1 := (blk_cell HBX7.out 1).trans rfl; have p2 := (blk_cell HBX7.out 2).trans rfl; have hre := (Kd.reads_of_C (d := 0) HC7.out).2.2 (by decide); obtain ⟨ad, ead, hcell⟩ := hre; cases ead; have f0 := hcell 0 (by decide); have f1 := hcell 1 (by decide); have f2 := hcell 2 (by decide); rw [add_at] at f0 f1 f2; simp only [Nat.zero_add] at f0 f1 f2; clear hcell) | (go_at_call 17; first | ((with_reducible refine (HV1.out _ HB7.out).mono ?_); rintro e w8 ⟨rfl, hB8⟩; have HB8 := Aside0.mk (HB7.out.trans (hB8.mono HB7.out.size)); clear hB8; have HBX8 := Aside0.mk ((HB8.out.block _ (blk_lt HBX.out)).trans HBX.out); have o0 := (blk_cell HBX8.out 0).trans rfl; have o1 := (blk_cell HBX8.out 1).trans rfl; have o2 := (blk_cell HBX8.out 2).trans rfl) | ((with_reducible refine (HV2.out _ HB8.out).mono ?_); rintro e w9 ⟨rfl, hB9⟩; have HB9 := Aside0.mk (HB3.out.trans ((HB8.out.trans (hB9.mono HB8.out.size)).mono HB3.out.size)); clear hB9)))
  go_ret
  exact ⟨rfl, HB9.out⟩
def parrylaw23_awake.f : Option Bool := some true
theorem parrylaw23_awake.calls (r : Bool) (w : World) (h : parrylaw23_awake.f = some r) : Calls Try.prog 10 #[] w fun e w' => e = .returned (.bool r) ∧ Below w.heap.size w w' := by
  obtain rfl := Option.some.inj h
  exact awake_calls w
end Go.Proofs.Ytegaicoddnmemaa.X

