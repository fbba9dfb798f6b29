/- A part of the claim SearchForms. -/
import Derived.Test.YtapejnikpmfddaaGreatQSearchFormsp
set_option linter.unusedVariables false
set_option linter.unusedSimpArgs false
set_option maxHeartbeats 8000000
set_option maxRecDepth 100000
namespace Go.Proofs.YtapejnikpmfddaaGreat.X
open Go.RowKit Go.Proofs.aI.bM Go.Proofs.aI.dG Go.Proofs.aI.dM
open Go.Proofs.YtapejnikpmfddaaGreat.P Go.Proofs.YtapejnikpmfddaaGreat.gY
structure R3 {ι : Type} [DecidableEq ι] (w0 w : World) (v : ι → Value) (l : ι → List Bool) : Prop where
  o : ∀ i, w.ownsRow w0.heap.size 4 1 (v i) (l i).length (encs Value.bool (l i))
  ne : ∀ i j, i ≠ j → (v i).ownBlock = none ∨ (v i).ownBlock ≠ (v j).ownBlock
  bl : Below w0.heap.size w0 w
section
variable {ι : Type} [DecidableEq ι] {w0 W0 w w1 : World} {rb g cap : Nat} {vs v v1 : ι → Value} {l l1 : ι → List Bool}
theorem R3.below (h : R3 w0 w v l) (hb : Below w.heap.size w w1) : R3 w0 w1 v l := ⟨fun i => yu (h.o i) (fun k hk => hb.block k (iD (h.o i) k hk)), h.ne, h.bl.trans (hb.mono h.bl.size)⟩
theorem R3.set (h : R3 w0 w v l) {p : Addr} (hne : ∀ i, some p.block ≠ (v i).ownBlock) (hp : w0.heap.size ≤ p.block) (u : Value) : R3 w0 (w.setCell p u) v l := ⟨fun i => NL (h.o i) (hne i) u, h.ne, h.bl.setCell hp u⟩
theorem Rows.r3 (h : Rows w0 W0 rb vs w v l) : R3 w0 w v l := ⟨h.o, h.ne, h.bl⟩
theorem R3.rows (h : R3 w0 w v l) {cs : Array Value} {t : TypeId} (hb : w.heap[rb]? = some (.cells cs t (0, 0))) (ht : 4 ≠ t) (hr : w0.heap.size ≤ rb) : Rows w0 w rb v w v l :=
  { o := h.o, ne := h.ne, kp := Kept.refl _ _, n := fun _ _ e => .inl e.symm, lt := fun i => iD (h.o i), rl := aT hb, bl := h.bl, wz := hr
    r := fun i e => by
      obtain ⟨cs2, hc⟩ := Et (h.o i) rb e.symm;exact Tu hc hb ht rfl }
theorem Rows.call (h : Rows w0 W0 rb vs w v l) (k : R3 w0 w1 v1 l1) (hk : Kept w w1 (fun k => ∃ i, some k = (v i).ownBlock)) (hn : ∀ i k, (v1 i).ownBlock = some k → some k = (v i).ownBlock ∨ w.heap.size ≤ k) : Rows w0 W0 rb vs w1 v1 l1 :=
  { h with
    o := k.o
    ne := k.ne
    bl := k.bl
    kp := h.kp.CJ hk (fun j e => by
      obtain ⟨i, e⟩ := e;rcases h.n i j e.symm with h1 | h1
      · exact .inl (.inl ⟨i, h1⟩)
      · exact .inr h1)
    n := fun i j e => by
      rcases hn i j e with h1 | h1
      · exact h.n i j h1.symm
      · right; have := h.kp.1; omega }
end
def Ec.T5 : Bool × List (List Nat × List Nat) := (true, [([], []), ([0], [0]), ([], []), ([2], [2]), ([1, 3], [1, 3]), ([], []), ([5], [5]), ([], []), ([6, 7, 4], [6, 7]), ([], []), ([9], [9]), ([], []), ([10, 11, 8], [10, 11]), ([0, 1, 2, 3, 4, 5, 6, 9, 10], []), ([13, 4, 12, 0, 1, 2, 3, 4, 5, 6, 9, 10], [4, 13]), ([0, 1, 2, 3, 4, 5, 6, 7, 8, 9, 10, 13, 14], []), ([15, 8, 14, 0, 1, 2, 3, 4, 5, 6, 7, 8, 9, 10, 13, 14], [8, 15]), ([0, 1, 2, 3, 4, 5, 6, 7, 8, 9, 10, 11, 12, 13, 14, 15, 16], []), ([17, 12, 16, 0, 1, 2, 3, 4, 5, 6, 7, 8, 9, 10, 11, 12, 13, 14, 15, 16], [12, 17])])
def Ec.B5 : List Nat := [0, 1, 0, 4, 15, 0, 32, 0, 255, 0, 512, 0, 4095, 1663, 16383, 32767, 65535, 131071, 262143]
theorem Ec.Ve : dh .any (opsOf Tryz.f71 5) = Ec.T5 := by kernel_rfl
theorem Ec.Vf : ik Ec.T5.2 Ec.B5 = true := by kernel_rfl
def RP (w0 : World) (s : ak) : Prop := ∀ (sv lt : Int) (lo ll lf : List Bool) (vo vl vf : Value) (A : Option Addr) (cp : Nat) (w : World), R3 w0 w (cK vo vl vf) (cK lo ll lf) → lo.length = ll.length → lo.length = lf.length → lo.length + az s ≤ 60 → Kd.C bK w0 A s.f2.length s.f2 → s.f2.length ≤ cp → cO s = true →
    Calls Tryz.prog 71 #[.agg #[.int .i64 s.f0, .int .i64 s.f1, .slice A s.f2.length cp], .int .i64 sv, .int .u32 lt, .int .i64 (lo.length : Int), .agg #[vo, vl, vf]] w fun e w' => ∃ v1 v2 v3, e = .returned (.tuple #[.int .i64 ((lo.length + az s : Nat) : Int), .agg #[v1, v2, v3]]) ∧ R3 w0 w' (cK v1 v2 v3) (cK (lo ++ nV sv lt s lo.length) (ll ++ rW sv lt s lo.length) (lf ++ rX sv lt s lo.length)) ∧ Kept w w' (fun k => ∃ i, some k = (cK vo vl vf i).ownBlock) ∧ (∀ i k, (cK v1 v2 v3 i).ownBlock = some k → some k = (cK vo vl vf i).ownBlock ∨ w.heap.size ≤ k)
theorem as9 (w0 : World) (s : ak) (ih : ∀ k ∈ s.f2, RP w0 k) : RP w0 s := by
  intro sv lt lo ll lf vo vl vf A cp w hR hl1 hl2 hbd hk hc hs;have jm := Tryz.underlying29;have uO := Tryz.underlying27;have hut := Tryz.underlying86;have jf := Tryz.underlying57;obtain ⟨A1, c1, hvs, hc1⟩ := xJ (hR.o 0);obtain ⟨A2, c2, Bu, hc2⟩ := xJ (hR.o 1);obtain ⟨A3, c3, hvh, hc3⟩ := xJ (hR.o 2);change vo = .slice A1 lo.length c1 at hvs;change vl = .slice A2 ll.length c2 at Bu;change vf = .slice A3 lf.length c3 at hvh;subst hvs Bu hvh;obtain ⟨W4, yn⟩ : ∃ W4, W4 = ((w.alloc (.cells #[.int .i64 s.f0, .int .i64 s.f1, .slice A s.f2.length cp] 29)).alloc (.cells #[.slice A1 lo.length c1, .slice A2 ll.length c2, .slice A3 lf.length c3] 86)).alloc (.cells #[.slice none 0 0, .slice none 0 0, .slice none 0 0] 86) := ⟨_, rfl⟩;have hB4 : Below w.heap.size w W4 := by rw [yn]; exact aW (aW (aW (Below.refl _ _) _) _) _
  obtain ⟨ob, oV⟩ : ∃ ob, ob = w.heap.size + 1 := ⟨_, rfl⟩;have zG : W4.heap[w.heap.size]? = some (.cells #[.int .i64 s.f0, .int .i64 s.f1, .slice A s.f2.length cp] 29 (0, 0)) := by rw [yn]; exact bf (bf (heap_alloc_new w _) _) _
  have hK4 : ny W4 ob (.slice A1 lo.length c1) (.slice A2 ll.length c2) (.slice A3 lf.length c3) := by
    rw [yn, oV];have := bf (heap_alloc_new (w.alloc (.cells #[.int .i64 s.f0, .int .i64 s.f1, .slice A s.f2.length cp] 29)) (.cells #[.slice A1 lo.length c1, .slice A2 ll.length c2, .slice A3 lf.length c3] 86)) (.cells #[.slice none 0 0, .slice none 0 0, .slice none 0 0] 86);simpa [ny] using this
  have hrs : W4.heap[w.heap.size + 1 + 1]? = some (.cells #[.slice none 0 0, .slice none 0 0, .slice none 0 0] 86 (0, 0)) := by
    rw [yn];have := heap_alloc_new ((w.alloc (.cells #[.int .i64 s.f0, .int .i64 s.f1, .slice A s.f2.length cp] 29)).alloc (.cells #[.slice A1 lo.length c1, .slice A2 ll.length c2, .slice A3 lf.length c3] 86)) (.cells #[.slice none 0 0, .slice none 0 0, .slice none 0 0] 86);simpa using this
  have RQ : W4.heap.size = w.heap.size + 3 := by rw [yn]; simp
  have hRW : Rows w0 W4 ob (cK (.slice A1 lo.length c1) (.slice A2 ll.length c2) (.slice A3 lf.length c3)) W4 (cK (.slice A1 lo.length c1) (.slice A2 ll.length c2) (.slice A3 lf.length c3)) (cK lo ll lf) := (hR.below hB4).rows hK4 ai (by have := hR.bl.size; omega);have xZ := Zd.mk (fun (w1 : World) (v1 : Fin 3 → Value) (l1 : Fin 3 → List Bool) (h : Rows w0 W4 ob (cK (.slice A1 lo.length c1) (.slice A2 ll.length c2) (.slice A3 lf.length c3)) w1 v1 l1) => (show w1.heap[w.heap.size]? = _ ∧ w1.heap[w.heap.size + 1 + 1]? = _ from ⟨JS zG h.kp (by
      rintro (⟨i, e⟩ | e)
      · exact Nat.lt_irrefl _ (iD (hR.o i) _ e.symm)
      · omega), JS hrs h.kp (by
      rintro (⟨i, e⟩ | e)
      · have := iD (hR.o i) _ e.symm; omega
      · omega)⟩))
  have HOL := Zd.mk (fun i => iD (hR.o i));have HRW := Zd.mk hRW;have HK4 := Zd.mk hK4;have bQ := Zd.mk hB4;have RU := Zd.mk oV;have HZ4 := Zd.mk RQ;have ahN := Zd.mk zG;have HK := Zd.mk hk;have HS := Zd.mk hs;have wy := Zd.mk ih;have vM := Zd.mk hl1;have HL2 := Zd.mk hl2;have jJ := Zd.mk hbd;have rF := Zd.mk (ER s);have HEO := Zd.mk (YT sv lt s lo.length);have HEB := Zd.mk (ahG sv lt s lo.length);have Xr := Zd.mk (ahH sv lt s lo.length);have Jf := Zd.mk (Rb s.f0);have hk2 := UJ hs;have as_ : lo.length ≤ 60 := by omega
  have hlen := Kd.pG HK.out;have Qo := Zd.mk (Ri s sv lt lo.length A cp W4 (Kd.aQ hk (hR.bl.trans (hB4.mono hR.bl.size))) hc hs hbd);obtain ⟨x, hx⟩ : ∃ x, x = dZ sv lt s lo.length := ⟨_, rfl⟩;rw [← hx] at Qo HEO;have x0 : W4.cell? ⟨w.heap.size, 0, none⟩ = some (.int .i64 s.f0) := (aj zG 0).trans rfl;have x1 : W4.cell? ⟨w.heap.size, 1, none⟩ = some (.int .i64 s.f1) := (aj zG 1).trans rfl;have x2 : W4.cell? ⟨w.heap.size, 2, none⟩ = some (.slice A s.f2.length cp) := (aj zG 2).trans rfl;clear hR hl1 hl2 hbd hk hs ih hB4 zG hK4 hrs RQ hRW hx;go_enter Tryz.func71, Tryz.ntmps71;go_upto_region 1 with fail
  rw [← yn, ← oV];clear yn oV
  go_upto_if 30 with (first | (go_at_call 49; refine Qo.out.mono ?_; rintro e w5 ⟨rfl, dJ⟩; have ata := Zd.mk (HRW.out.below dJ); have HK5 := Zd.mk (show ny w5 ob _ _ _ from (dJ.block _ (aT HK4.out)).trans HK4.out); have YX := Zd.mk ((dJ.block _ (aT ahN.out)).trans ahN.out); have y0 := (aj YX.out 0).trans rfl; clear dJ) | (go_at_call 50; refine (zF.calls _ (dB s.f0) _ Jf.out).mono ?_; rintro e w6 ⟨rfl, hd0⟩; obtain ⟨m, rfl⟩ := hd0.out))
  obtain ⟨K, hK⟩ : ∃ K, K = lo.length + tS s.f0 := ⟨_, rfl⟩;have qR := Zd.mk hK;have Yw : K ≤ 61 := by rw [hK]; unfold tS; split <;> omega
  have YY := ata.out.below (fB (Below.refl _ w5) m);have YZ : ny (w5.drewN m) ob _ _ _ := HK5.out;obtain ⟨W5, zk⟩ : ∃ W5, W5 = w5.drewN m := ⟨_, rfl⟩;rw [← zk] at YY YZ;rw [← zk];have MX := Zd.mk YY;have HK6 := Zd.mk YZ;clear zk YY YZ hK;go_cut [3] (fun v3 wx => ∃ v1 v2 v3', v3 = .int .i64 ((K : Nat) : Int) ∧ Zd (Rows w0 W4 ob (cK (.slice A1 lo.length c1) (.slice A2 ll.length c2) (.slice A3 lf.length c3)) wx (cK v1 v2 v3') (cK (lo ++ bX s.f0 x) (ll ++ bX s.f0 false) (lf ++ bX s.f0 false))) ∧ Zd (ny wx ob v1 v2 v3'))
  case first =>
    cases jK : dB s.f0 with
    | false =>
      have HQ := Zd.mk (show K = lo.length from by rw [qR.out]; unfold tS; rw [if_neg (by rw [jK]; simp)]; rfl);have HE := Zd.mk (show ∀ b, bX s.f0 b = [] from fun b => by unfold bX; rw [if_neg (by rw [jK]; simp)]);go_wp2;go_meet;exact ⟨_, _, _, by rw [HQ.out], ⟨by rw [HE.out, HE.out, List.append_nil, List.append_nil, List.append_nil]; exact MX.out⟩, HK6⟩
    | true =>
      have HQ := Zd.mk (show K = lo.length + 1 from by rw [qR.out]; unfold tS; rw [if_pos jK]);have HE := Zd.mk (show ∀ b, bX s.f0 b = [b] from fun b => by unfold bX; rw [if_pos jK]);have Il := Zd.mk jf;obtain ⟨iB, KC⟩ := adT;have om := Zd.mk KC;have GS := Zd.mk (show W4.heap.size ≤ W5.drew.heap.size from MX.out.kp.1);have T0 := Zd.mk MX.out.drew;have K0 := Zd.mk (show ny W5.drew ob _ _ _ from HK6.out);have oQ := Zd.mk (show w0.heap.size ≤ W4.heap.size from by have := MX.out.wz; have := MX.out.rl; omega);have atb := vM.out;have atc := HL2.out;have axa := jJ;replace jJ := Zd.mk (show ∀ i : Fin 3, ((cK lo ll lf i).length + 1 ≤ maxLen ∧ ((cK lo ll lf i).length + 1) * 1 ≤ 140737488355328) from by
        intro i;have h1 : (cK lo ll lf i).length ≤ 60 := by match i with | 0 => exact as_ | 1 => (show ll.length ≤ 60; omega) | 2 => (show lf.length ≤ 60; omega)
        unfold maxLen;omega)
      clear KC atb atc;go_upto_region 5 with fail
      refine iP (n := 19) (S := fun w' => True) (ds := []) amW aa rfl rfl trivial (fun hHeld => ?_);refine iR Ec.Ve Ec.Vf (fun ae bA => ?_);refine pz ae.out 0 (some 33) amX rfl rfl ?_;refine pz ae.out 2 (some 35) amY rfl rfl ?_;refine pz ae.out 5 (some 38) amZ rfl rfl ?_;refine pz ae.out 9 (some 42) am0 rfl rfl ?_;refine JX [1, 3, 4, 6, 7, 8, 10, 11, 12, 13, 14, 15, 16, 17, 18] (fun Bv b a w' => ∃ (dz : Nat) (dA : Nat) (iL : Nat) (v1 : Value) (v2 : Value) (v3 : Value) (iC : Value) (dD : Value) (bN : Value), a = ig Bv b [(1, 34, .slice A1 lo.length c1), (3, 36, iC), (4, 37, v1), (6, 39, .slice A2 ll.length c2), (7, 40, dD), (8, 41, v2), (10, 43, .slice A3 lf.length c3), (11, 44, bN), (12, 45, v3), (13, 46, .pointer (some ⟨ob, 0, none⟩)), (15, 47, .pointer (some ⟨ob, 1, none⟩)), (17, 48, .pointer (some ⟨ob, 2, none⟩))] ∧ (W4.heap.size ≤ w'.heap.size) ∧ (b 4 = false → Rows w0 W4 ob (cK (.slice A1 lo.length c1) (.slice A2 ll.length c2) (.slice A3 lf.length c3)) w' (cK (.slice A1 lo.length c1) (.slice A2 ll.length c2) (.slice A3 lf.length c3)) (cK lo ll lf)) ∧ (b 4 = true → b 8 = false → Rows w0 W4 ob (cK (.slice A1 lo.length c1) (.slice A2 ll.length c2) (.slice A3 lf.length c3)) w' (cK v1 (.slice A2 ll.length c2) (.slice A3 lf.length c3)) (cK (lo ++ [x]) ll lf)) ∧ (b 8 = true → b 12 = false → Rows w0 W4 ob (cK (.slice A1 lo.length c1) (.slice A2 ll.length c2) (.slice A3 lf.length c3)) w' (cK v1 v2 (.slice A3 lf.length c3)) (cK (lo ++ [x]) (ll ++ [false]) lf)) ∧ (b 12 = true → Rows w0 W4 ob (cK (.slice A1 lo.length c1) (.slice A2 ll.length c2) (.slice A3 lf.length c3)) w' (cK v1 v2 v3) (cK (lo ++ [x]) (ll ++ [false]) (lf ++ [false]))) ∧ (b 3 = true → b 4 = false → BX W4 w' dz x) ∧ (b 7 = true → b 8 = false → BX W4 w' dA false) ∧ (b 11 = true → b 12 = false → BX W4 w' iL false) ∧ (b 14 = false → ny w' ob (.slice A1 lo.length c1) (.slice A2 ll.length c2) (.slice A3 lf.length c3)) ∧ (b 14 = true → b 16 = false → ny w' ob v1 (.slice A2 ll.length c2) (.slice A3 lf.length c3)) ∧ (b 16 = true → b 18 = false → ny w' ob v1 v2 (.slice A3 lf.length c3)) ∧ (b 18 = true → ny w' ob v1 v2 v3) ∧ (b 3 = true → (iC : Value) = .slice (some ⟨dz, 0, none⟩) 1 1) ∧ (b 7 = true → (dD : Value) = .slice (some ⟨dA, 0, none⟩) 1 1) ∧ (b 11 = true → (bN : Value) = .slice (some ⟨iL, 0, none⟩) 1 1)) ae.out bA.out aa aa ?_ ?_ ?_
      · exact ⟨0, 0, 0, .bool false, .bool false, .bool false, .bool false, .bool false, .bool false, by simp only [ig, Bool.false_eq_true, if_false], GS.out, fun _ => T0.out, fun h_ => absurd h_ ai, fun h_ => absurd h_ ai, fun h_ => absurd h_ ai, fun h_ => absurd h_ ai, fun h_ => absurd h_ ai, fun h_ => absurd h_ ai, fun _ => K0.out, fun h_ => absurd h_ ai, fun h_ => absurd h_ ai, fun h_ => absurd h_ ai, fun h_ => absurd h_ ai, fun h_ => absurd h_ ai, fun h_ => absurd h_ ai⟩
      · skip
        clear GS K0 T0;refine dm ?_ ?_
        · rintro b a w' ⟨dz, dA, iL, v1, v2, v3, iC, dD, bN, ha, bZ, fF, gB, fD, mD, fH, fe, kT, dF, gJ, iq, rY, jr, fA, bY⟩ bq hon hoff
          refine ⟨_, rfl, fun K hK => ?_⟩;have e33 : a.tmps[33]? = some (.pointer (some ⟨ob, 0, none⟩)) := by rw [ha]; exact (kF rfl).trans rfl
          replace ha := Zd.mk ha;have GS := Zd.mk bZ;have T0 := Zd.mk (fF (hoff 4 aa));have K0 := Zd.mk (dF (hoff 14 aa));have hk := MW K0.out;refine dQ (w1 := w') (v := .slice A1 lo.length c1) bu rfl ?_ ?_
          · go_simp
            (try simp only [bE])
            try rfl
          refine hK.out _ _ ⟨dz, dA, iL, v1, v2, v3, iC, dD, bN, (by rw [ha.out]; exact dH 0 bq rfl rfl rfl), bZ, fF, fun ah _ => aA (hoff 4 aa) ah, fun ah _ => aA (hoff 8 aa) ah, fun ah => aA (hoff 12 aa) ah, fH, fe, kT, dF, fun ah _ => aA (hoff 14 aa) ah, fun ah _ => aA (hoff 16 aa) ah, fun ah => aA (hoff 18 aa) ah, jr, fA, bY⟩
        refine dm ?_ ?_
        · rintro b a w' ⟨dz, dA, iL, v1, v2, v3, iC, dD, bN, ha, bZ, fF, gB, fD, mD, fH, fe, kT, dF, gJ, iq, rY, jr, fA, bY⟩ bq hon hoff
          refine ⟨_, rfl, fun K hK => ?_⟩;have e35 : a.tmps[35]? = some (.bool x) := by rw [ha]; exact (kF rfl).trans rfl
          replace ha := Zd.mk ha;have GS := Zd.mk bZ;have T0 := Zd.mk (fF (hoff 4 aa));have K0 := Zd.mk (dF (hoff 14 aa));refine dQ (w1 := w'.alloc (.cells #[.bool x] 4)) (v := .slice (some ⟨w'.heap.size, 0, none⟩) 1 1) bu rfl ?_ ?_
          · go_simp
          refine hK.out _ _ ⟨w'.heap.size, dA, iL, v1, v2, v3, (.slice (some ⟨w'.heap.size, 0, none⟩) 1 1), dD, bN, (by rw [ha.out]; exact dH 1 bq rfl rfl rfl), Ku GS.out _, fun _ => T0.out.alloc _, fun ah _ => aA (hoff 4 aa) ah, fun ah _ => aA (hoff 8 aa) ah, fun ah => aA (hoff 12 aa) ah, fun _ _ => ⟨GS.out, heap_alloc_new w' _⟩, fun ah aD => ⟨(fe ah aD).1, bf (fe ah aD).2 _⟩, fun ah aD => ⟨(kT ah aD).1, bf (kT ah aD).2 _⟩, fun _ => bf K0.out _, fun ah _ => aA (hoff 14 aa) ah, fun ah _ => aA (hoff 16 aa) ah, fun ah => aA (hoff 18 aa) ah, fun _ => rfl, fA, bY⟩
        refine dm ?_ ?_
        · rintro b a w' ⟨dz, dA, iL, v1, v2, v3, iC, dD, bN, ha, bZ, fF, gB, fD, mD, fH, fe, kT, dF, gJ, iq, rY, jr, fA, bY⟩ bq hon hoff
          refine ⟨_, rfl, fun K hK => ?_⟩;have e34 : a.tmps[34]? = some (.slice A1 lo.length c1) := by rw [ha]; exact dL (e := (1, 34, .slice A1 lo.length c1)) 0 rfl rfl (hon 1 aa) rfl
          have e36 : a.tmps[36]? = some (iC) := by rw [ha]; exact dL (e := (3, 36, iC)) 1 rfl rfl (hon 3 aa) rfl
          rw [jr (hon 3 aa)] at e36;replace ha := Zd.mk ha;have GS := Zd.mk bZ;have T0 := Zd.mk (fF bq);have B1 := Zd.mk (fH (hon 3 aa) bq);have K0 := Zd.mk (dF (hoff 14 aa));refine step_append_lies _ rfl (.tmp 34) (.tmp 36) 57 bu w0.heap.size 4 iB (.bool false) 1 1 Il.out om.out.1 om.out.2.1 om.out.2.2.1 om.out.2.2.2 rfl ai (.slice A1 lo.length c1) _ _ (zS e34) (T0.out.o 0) ⟨dz, 0, none⟩ 1 1 [.bool x] (zS e36) rfl (World.news_of_block B1.out.2) (by intro u hu; rw [List.mem_singleton.1 hu]; rfl) ai (jJ.out 0).1 (jJ.out 0).2 (Nat.le_trans oQ.out GS.out) w'.heap.size rfl ?_;intro g cap w1 hown hgrow hat hlt;refine hK.out _ _ ⟨dz, dA, iL, (.slice (some ⟨g, 0, none⟩) (lo.length + 1) cap), v2, v3, iC, dD, bN, (by rw [ha.out]; exact dH 2 bq rfl rfl rfl), Nat.le_trans GS.out hgrow.size, fun ah => absurd ((oN b 4).symm.trans ah) ai, fun _ _ => as5 (T0.out.app 0 rfl x hown hgrow hat), fun ah _ => aA (hoff 8 aa) ah, fun ah => aA (hoff 12 aa) ah, fun _ aD => absurd ((oN b 4).symm.trans aD) ai, fun ah aD => T0.out.YW 0 rfl (fe ah aD) hgrow, fun ah aD => T0.out.YW 0 rfl (kT ah aD) hgrow, fun _ => T0.out.keepR 0 rfl K0.out hgrow, fun ah _ => aA (hoff 14 aa) ah, fun ah _ => aA (hoff 16 aa) ah, fun ah => aA (hoff 18 aa) ah, jr, fA, bY⟩
        refine dm ?_ ?_
        · rintro b a w' ⟨dz, dA, iL, v1, v2, v3, iC, dD, bN, ha, bZ, fF, gB, fD, mD, fH, fe, kT, dF, gJ, iq, rY, jr, fA, bY⟩ bq hon hoff
          refine ⟨_, rfl, fun K hK => ?_⟩;have e38 : a.tmps[38]? = some (.pointer (some ⟨ob, 1, none⟩)) := by rw [ha]; exact (kF rfl).trans rfl
          replace ha := Zd.mk ha;have GS := Zd.mk bZ;have K0 := Zd.mk (dF (hoff 14 aa));have hk := GA K0.out;refine dQ (w1 := w') (v := .slice A2 ll.length c2) bu rfl ?_ ?_
          · go_simp
            (try simp only [bE])
            try rfl
          refine hK.out _ _ ⟨dz, dA, iL, v1, v2, v3, iC, dD, bN, (by rw [ha.out]; exact dH 3 bq rfl rfl rfl), bZ, fF, gB, fun ah _ => aA (hoff 8 aa) ah, fun ah => aA (hoff 12 aa) ah, fH, fe, kT, dF, fun ah _ => aA (hoff 14 aa) ah, fun ah _ => aA (hoff 16 aa) ah, fun ah => aA (hoff 18 aa) ah, jr, fA, bY⟩
        refine dm ?_ ?_
        · rintro b a w' ⟨dz, dA, iL, v1, v2, v3, iC, dD, bN, ha, bZ, fF, gB, fD, mD, fH, fe, kT, dF, gJ, iq, rY, jr, fA, bY⟩ bq hon hoff
          refine ⟨_, rfl, fun K hK => ?_⟩;replace ha := Zd.mk ha;have GS := Zd.mk bZ;have K0 := Zd.mk (dF (hoff 14 aa));refine dQ (w1 := w'.alloc (.cells #[.bool false] 4)) (v := .slice (some ⟨w'.heap.size, 0, none⟩) 1 1) bu rfl ?_ ?_
          · go_simp
          refine hK.out _ _ ⟨dz, w'.heap.size, iL, v1, v2, v3, iC, (.slice (some ⟨w'.heap.size, 0, none⟩) 1 1), bN, (by rw [ha.out]; exact dH 4 bq rfl rfl rfl), Ku GS.out _, fun ah => (fF ah).alloc _, fun ah aD => (gB ah aD).alloc _, fun ah _ => aA (hoff 8 aa) ah, fun ah => aA (hoff 12 aa) ah, fun ah aD => ⟨(fH ah aD).1, bf (fH ah aD).2 _⟩, fun _ _ => ⟨GS.out, heap_alloc_new w' _⟩, fun ah aD => ⟨(kT ah aD).1, bf (kT ah aD).2 _⟩, fun _ => bf K0.out _, fun ah _ => aA (hoff 14 aa) ah, fun ah _ => aA (hoff 16 aa) ah, fun ah => aA (hoff 18 aa) ah, jr, fun _ => rfl, bY⟩
        refine dm ?_ ?_
        · rintro b a w' ⟨dz, dA, iL, v1, v2, v3, iC, dD, bN, ha, bZ, fF, gB, fD, mD, fH, fe, kT, dF, gJ, iq, rY, jr, fA, bY⟩ bq hon hoff
          refine ⟨_, rfl, fun K hK => ?_⟩;have e39 : a.tmps[39]? = some (.slice A2 ll.length c2) := by rw [ha]; exact dL (e := (6, 39, .slice A2 ll.length c2)) 3 rfl rfl (hon 6 aa) rfl
          have e40 : a.tmps[40]? = some (dD) := by rw [ha]; exact dL (e := (7, 40, dD)) 4 rfl rfl (hon 7 aa) rfl
          rw [fA (hon 7 aa)] at e40;replace ha := Zd.mk ha;have GS := Zd.mk bZ;have T1 := Zd.mk (gB (hon 4 aa) bq);have B2 := Zd.mk (fe (hon 7 aa) bq);have K0 := Zd.mk (dF (hoff 14 aa));refine step_append_lies _ rfl (.tmp 39) (.tmp 40) 57 bu w0.heap.size 4 iB (.bool false) 1 1 Il.out om.out.1 om.out.2.1 om.out.2.2.1 om.out.2.2.2 rfl ai (.slice A2 ll.length c2) _ _ (zS e39) (T1.out.o 1) ⟨dA, 0, none⟩ 1 1 [.bool false] (zS e40) rfl (World.news_of_block B2.out.2) (by intro u hu; rw [List.mem_singleton.1 hu]; rfl) ai (jJ.out 1).1 (jJ.out 1).2 (Nat.le_trans oQ.out GS.out) w'.heap.size rfl ?_;intro g cap w1 hown hgrow hat hlt;refine hK.out _ _ ⟨dz, dA, iL, v1, (.slice (some ⟨g, 0, none⟩) (ll.length + 1) cap), v3, iC, dD, bN, (by rw [ha.out]; exact dH 5 bq rfl rfl rfl), Nat.le_trans GS.out hgrow.size, fun ah => absurd ((hon 4 aa).symm.trans ah) ai, fun _ aD => absurd ((oN b 8).symm.trans aD) ai, fun _ _ => as6 (T1.out.app 1 rfl false hown hgrow hat), fun ah => aA (hoff 12 aa) ah, fun _ aD => absurd ((hon 4 aa).symm.trans aD) ai, fun _ aD => absurd ((oN b 8).symm.trans aD) ai, fun ah aD => T1.out.YW 1 rfl (kT ah aD) hgrow, fun _ => T1.out.keepR 1 rfl K0.out hgrow, fun ah _ => aA (hoff 14 aa) ah, fun ah _ => aA (hoff 16 aa) ah, fun ah => aA (hoff 18 aa) ah, jr, fA, bY⟩
        refine dm ?_ ?_
        · rintro b a w' ⟨dz, dA, iL, v1, v2, v3, iC, dD, bN, ha, bZ, fF, gB, fD, mD, fH, fe, kT, dF, gJ, iq, rY, jr, fA, bY⟩ bq hon hoff
          refine ⟨_, rfl, fun K hK => ?_⟩;have e42 : a.tmps[42]? = some (.pointer (some ⟨ob, 2, none⟩)) := by rw [ha]; exact (kF rfl).trans rfl
          replace ha := Zd.mk ha;have GS := Zd.mk bZ;have K0 := Zd.mk (dF (hoff 14 aa));have hk := Jp K0.out;refine dQ (w1 := w') (v := .slice A3 lf.length c3) bu rfl ?_ ?_
          · go_simp
            (try simp only [bE])
            try rfl
          refine hK.out _ _ ⟨dz, dA, iL, v1, v2, v3, iC, dD, bN, (by rw [ha.out]; exact dH 6 bq rfl rfl rfl), bZ, fF, gB, fD, fun ah => aA (hoff 12 aa) ah, fH, fe, kT, dF, fun ah _ => aA (hoff 14 aa) ah, fun ah _ => aA (hoff 16 aa) ah, fun ah => aA (hoff 18 aa) ah, jr, fA, bY⟩
        refine dm ?_ ?_
        · rintro b a w' ⟨dz, dA, iL, v1, v2, v3, iC, dD, bN, ha, bZ, fF, gB, fD, mD, fH, fe, kT, dF, gJ, iq, rY, jr, fA, bY⟩ bq hon hoff
          refine ⟨_, rfl, fun K hK => ?_⟩;replace ha := Zd.mk ha;have GS := Zd.mk bZ;have K0 := Zd.mk (dF (hoff 14 aa));refine dQ (w1 := w'.alloc (.cells #[.bool false] 4)) (v := .slice (some ⟨w'.heap.size, 0, none⟩) 1 1) bu rfl ?_ ?_
          · go_simp
          refine hK.out _ _ ⟨dz, dA, w'.heap.size, v1, v2, v3, iC, dD, (.slice (some ⟨w'.heap.size, 0, none⟩) 1 1), (by rw [ha.out]; exact dH 7 bq rfl rfl rfl), Ku GS.out _, fun ah => (fF ah).alloc _, fun ah aD => (gB ah aD).alloc _, fun ah aD => (fD ah aD).alloc _, fun ah => aA (hoff 12 aa) ah, fun ah aD => ⟨(fH ah aD).1, bf (fH ah aD).2 _⟩, fun ah aD => ⟨(fe ah aD).1, bf (fe ah aD).2 _⟩, fun _ _ => ⟨GS.out, heap_alloc_new w' _⟩, fun _ => bf K0.out _, fun ah _ => aA (hoff 14 aa) ah, fun ah _ => aA (hoff 16 aa) ah, fun ah => aA (hoff 18 aa) ah, jr, fA, fun _ => rfl⟩
        refine dm ?_ ?_
        · rintro b a w' ⟨dz, dA, iL, v1, v2, v3, iC, dD, bN, ha, bZ, fF, gB, fD, mD, fH, fe, kT, dF, gJ, iq, rY, jr, fA, bY⟩ bq hon hoff
          refine ⟨_, rfl, fun K hK => ?_⟩;have e43 : a.tmps[43]? = some (.slice A3 lf.length c3) := by rw [ha]; exact dL (e := (10, 43, .slice A3 lf.length c3)) 6 rfl rfl (hon 10 aa) rfl
          have e44 : a.tmps[44]? = some (bN) := by rw [ha]; exact dL (e := (11, 44, bN)) 7 rfl rfl (hon 11 aa) rfl
          rw [bY (hon 11 aa)] at e44;replace ha := Zd.mk ha;have GS := Zd.mk bZ;have T2 := Zd.mk (fD (hon 8 aa) bq);have B3 := Zd.mk (kT (hon 11 aa) bq);have K0 := Zd.mk (dF (hoff 14 aa));refine step_append_lies _ rfl (.tmp 43) (.tmp 44) 57 bu w0.heap.size 4 iB (.bool false) 1 1 Il.out om.out.1 om.out.2.1 om.out.2.2.1 om.out.2.2.2 rfl ai (.slice A3 lf.length c3) _ _ (zS e43) (T2.out.o 2) ⟨iL, 0, none⟩ 1 1 [.bool false] (zS e44) rfl (World.news_of_block B3.out.2) (by intro u hu; rw [List.mem_singleton.1 hu]; rfl) ai (jJ.out 2).1 (jJ.out 2).2 (Nat.le_trans oQ.out GS.out) w'.heap.size rfl ?_;intro g cap w1 hown hgrow hat hlt;refine hK.out _ _ ⟨dz, dA, iL, v1, v2, (.slice (some ⟨g, 0, none⟩) (lf.length + 1) cap), iC, dD, bN, (by rw [ha.out]; exact dH 8 bq rfl rfl rfl), Nat.le_trans GS.out hgrow.size, fun ah => absurd ((hon 4 aa).symm.trans ah) ai, fun _ aD => absurd ((hon 8 aa).symm.trans aD) ai, fun _ aD => absurd ((oN b 12).symm.trans aD) ai, fun _ => as7 (T2.out.app 2 rfl false hown hgrow hat), fun _ aD => absurd ((hon 4 aa).symm.trans aD) ai, fun _ aD => absurd ((hon 8 aa).symm.trans aD) ai, fun _ aD => absurd ((oN b 12).symm.trans aD) ai, fun _ => T2.out.keepR 2 rfl K0.out hgrow, fun ah _ => aA (hoff 14 aa) ah, fun ah _ => aA (hoff 16 aa) ah, fun ah => aA (hoff 18 aa) ah, jr, fA, bY⟩
        refine dm ?_ ?_
        · rintro b a w' ⟨dz, dA, iL, v1, v2, v3, iC, dD, bN, ha, bZ, fF, gB, fD, mD, fH, fe, kT, dF, gJ, iq, rY, jr, fA, bY⟩ bq hon hoff
          refine ⟨_, rfl, fun K hK => ?_⟩;have e9 : a.tmps[9]? = some (.pointer (some ⟨ob, 0, none⟩)) := by rw [ha]; exact (kF rfl).trans rfl
          replace ha := Zd.mk ha;have GS := Zd.mk bZ;have K0 := Zd.mk (dF (hoff 14 aa));refine dQ (w1 := w') (v := .pointer (some ⟨ob, 0, none⟩)) bu rfl ?_ ?_
          · go_simp
            (try simp only [bE])
            try rfl
          refine hK.out _ _ ⟨dz, dA, iL, v1, v2, v3, iC, dD, bN, (by rw [ha.out]; exact dH 9 bq rfl rfl rfl), bZ, fun ah => absurd ((hon 4 aa).symm.trans ah) ai, gB, fD, mD, fun _ aD => absurd ((hon 4 aa).symm.trans aD) ai, fe, kT, dF, fun ah _ => aA (hoff 14 aa) ah, fun ah _ => aA (hoff 16 aa) ah, fun ah => aA (hoff 18 aa) ah, jr, fA, bY⟩
        refine dm ?_ ?_
        · rintro b a w' ⟨dz, dA, iL, v1, v2, v3, iC, dD, bN, ha, bZ, fF, gB, fD, mD, fH, fe, kT, dF, gJ, iq, rY, jr, fA, bY⟩ bq hon hoff
          refine ⟨_, rfl, fun K hK => ?_⟩;have e46 : a.tmps[46]? = some (.pointer (some ⟨ob, 0, none⟩)) := by rw [ha]; exact dL (e := (13, 46, .pointer (some ⟨ob, 0, none⟩))) 9 rfl rfl (hon 13 aa) rfl
          have e37 : a.tmps[37]? = some (v1) := by rw [ha]; exact dL (e := (4, 37, v1)) 2 rfl rfl (hon 4 aa) rfl
          replace ha := Zd.mk ha;have GS := Zd.mk bZ;have T3 := Zd.mk (mD (hon 12 aa));have K0 := Zd.mk (dF bq);obtain ⟨A_, c_, e_, _⟩ := xJ (T3.out.o 0);change v1 = .slice A_ (lo ++ [x]).length c_ at e_;subst e_;have hc := MW K0.out;have hf := aN K0.out 0;refine iQ (w1 := w'.setCell ⟨ob, 0, none⟩ (.slice A_ (lo ++ [x]).length c_)) bu rfl ?_ ?_
          · go_simp
          refine hK.out _ _ ⟨dz, dA, iL, (.slice A_ (lo ++ [x]).length c_), v2, v3, iC, dD, bN, (by rw [ha.out]; exact Hl (v := undef) rfl), Kv GS.out _ _, fun ah => absurd ((hon 4 aa).symm.trans ah) ai, fun _ aD => absurd ((hon 8 aa).symm.trans aD) ai, fun _ aD => absurd ((hon 12 aa).symm.trans aD) ai, fun _ => T3.out.Bt _ _, fun _ aD => absurd ((hon 4 aa).symm.trans aD) ai, fun _ aD => absurd ((hon 8 aa).symm.trans aD) ai, fun _ aD => absurd ((hon 12 aa).symm.trans aD) ai, fun ah => absurd ((oN b 14).symm.trans ah) ai, fun _ _ => ahJ K0.out _, fun ah _ => aA (hoff 16 aa) ah, fun ah => aA (hoff 18 aa) ah, jr, fA, bY⟩
        refine dm ?_ ?_
        · rintro b a w' ⟨dz, dA, iL, v1, v2, v3, iC, dD, bN, ha, bZ, fF, gB, fD, mD, fH, fe, kT, dF, gJ, iq, rY, jr, fA, bY⟩ bq hon hoff
          refine ⟨_, rfl, fun K hK => ?_⟩;have e9 : a.tmps[9]? = some (.pointer (some ⟨ob, 0, none⟩)) := by rw [ha]; exact (kF rfl).trans rfl
          replace ha := Zd.mk ha;have GS := Zd.mk bZ;have T3 := Zd.mk (mD (hon 12 aa));have K1 := Zd.mk (gJ (hon 14 aa) (hoff 16 aa));refine dQ (w1 := w') (v := .pointer (some ⟨ob, 1, none⟩)) bu rfl ?_ ?_
          · go_simp
            (try simp only [bE])
            try rfl
          refine hK.out _ _ ⟨dz, dA, iL, v1, v2, v3, iC, dD, bN, (by rw [ha.out]; exact dH 10 bq rfl rfl rfl), bZ, fun ah => absurd ((hon 4 aa).symm.trans ah) ai, fun _ aD => absurd ((hon 8 aa).symm.trans aD) ai, fun _ aD => absurd ((hon 12 aa).symm.trans aD) ai, mD, fun _ aD => absurd ((hon 4 aa).symm.trans aD) ai, fun _ aD => absurd ((hon 8 aa).symm.trans aD) ai, fun _ aD => absurd ((hon 12 aa).symm.trans aD) ai, fun ah => absurd ((hon 14 aa).symm.trans ah) ai, gJ, fun ah _ => aA (hoff 16 aa) ah, fun ah => aA (hoff 18 aa) ah, jr, fA, bY⟩
        refine dm ?_ ?_
        · rintro b a w' ⟨dz, dA, iL, v1, v2, v3, iC, dD, bN, ha, bZ, fF, gB, fD, mD, fH, fe, kT, dF, gJ, iq, rY, jr, fA, bY⟩ bq hon hoff
          refine ⟨_, rfl, fun K hK => ?_⟩;have e47 : a.tmps[47]? = some (.pointer (some ⟨ob, 1, none⟩)) := by rw [ha]; exact dL (e := (15, 47, .pointer (some ⟨ob, 1, none⟩))) 10 rfl rfl (hon 15 aa) rfl
          have e41 : a.tmps[41]? = some (v2) := by rw [ha]; exact dL (e := (8, 41, v2)) 5 rfl rfl (hon 8 aa) rfl
          replace ha := Zd.mk ha;have GS := Zd.mk bZ;have T3 := Zd.mk (mD (hon 12 aa));have K1 := Zd.mk (gJ (hon 14 aa) bq);obtain ⟨A_, c_, e_, _⟩ := xJ (T3.out.o 1);change v2 = .slice A_ (ll ++ [false]).length c_ at e_;subst e_;have hc := GA K1.out;have hf := aN K1.out 1;refine iQ (w1 := w'.setCell ⟨ob, 1, none⟩ (.slice A_ (ll ++ [false]).length c_)) bu rfl ?_ ?_
          · go_simp
          refine hK.out _ _ ⟨dz, dA, iL, v1, (.slice A_ (ll ++ [false]).length c_), v3, iC, dD, bN, (by rw [ha.out]; exact Hl (v := undef) rfl), Kv GS.out _ _, fun ah => absurd ((hon 4 aa).symm.trans ah) ai, fun _ aD => absurd ((hon 8 aa).symm.trans aD) ai, fun _ aD => absurd ((hon 12 aa).symm.trans aD) ai, fun _ => T3.out.Bt _ _, fun _ aD => absurd ((hon 4 aa).symm.trans aD) ai, fun _ aD => absurd ((hon 8 aa).symm.trans aD) ai, fun _ aD => absurd ((hon 12 aa).symm.trans aD) ai, fun ah => absurd ((hon 14 aa).symm.trans ah) ai, fun _ aD => absurd ((oN b 16).symm.trans aD) ai, fun _ _ => ahK K1.out _, fun ah => aA (hoff 18 aa) ah, jr, fA, bY⟩
        refine dm ?_ ?_
        · rintro b a w' ⟨dz, dA, iL, v1, v2, v3, iC, dD, bN, ha, bZ, fF, gB, fD, mD, fH, fe, kT, dF, gJ, iq, rY, jr, fA, bY⟩ bq hon hoff
          refine ⟨_, rfl, fun K hK => ?_⟩;have e9 : a.tmps[9]? = some (.pointer (some ⟨ob, 0, none⟩)) := by rw [ha]; exact (kF rfl).trans rfl
          replace ha := Zd.mk ha;have GS := Zd.mk bZ;have T3 := Zd.mk (mD (hon 12 aa));have K2 := Zd.mk (iq (hon 16 aa) (hoff 18 aa));refine dQ (w1 := w') (v := .pointer (some ⟨ob, 2, none⟩)) bu rfl ?_ ?_
          · go_simp
            (try simp only [bE])
            try rfl
          refine hK.out _ _ ⟨dz, dA, iL, v1, v2, v3, iC, dD, bN, (by rw [ha.out]; exact dH 11 bq rfl rfl rfl), bZ, fun ah => absurd ((hon 4 aa).symm.trans ah) ai, fun _ aD => absurd ((hon 8 aa).symm.trans aD) ai, fun _ aD => absurd ((hon 12 aa).symm.trans aD) ai, mD, fun _ aD => absurd ((hon 4 aa).symm.trans aD) ai, fun _ aD => absurd ((hon 8 aa).symm.trans aD) ai, fun _ aD => absurd ((hon 12 aa).symm.trans aD) ai, fun ah => absurd ((hon 14 aa).symm.trans ah) ai, fun _ aD => absurd ((hon 16 aa).symm.trans aD) ai, iq, fun ah => aA (hoff 18 aa) ah, jr, fA, bY⟩
        refine dm ?_ ?_
        · rintro b a w' ⟨dz, dA, iL, v1, v2, v3, iC, dD, bN, ha, bZ, fF, gB, fD, mD, fH, fe, kT, dF, gJ, iq, rY, jr, fA, bY⟩ bq hon hoff
          refine ⟨_, rfl, fun K hK => ?_⟩;have e48 : a.tmps[48]? = some (.pointer (some ⟨ob, 2, none⟩)) := by rw [ha]; exact dL (e := (17, 48, .pointer (some ⟨ob, 2, none⟩))) 11 rfl rfl (hon 17 aa) rfl
          have e45 : a.tmps[45]? = some (v3) := by rw [ha]; exact dL (e := (12, 45, v3)) 8 rfl rfl (hon 12 aa) rfl
          replace ha := Zd.mk ha;have GS := Zd.mk bZ;have T3 := Zd.mk (mD (hon 12 aa));have K2 := Zd.mk (iq (hon 16 aa) bq);obtain ⟨A_, c_, e_, _⟩ := xJ (T3.out.o 2);change v3 = .slice A_ (lf ++ [false]).length c_ at e_;subst e_;have hc := Jp K2.out;have hf := aN K2.out 2;refine iQ (w1 := w'.setCell ⟨ob, 2, none⟩ (.slice A_ (lf ++ [false]).length c_)) bu rfl ?_ ?_
          · go_simp
          refine hK.out _ _ ⟨dz, dA, iL, v1, v2, (.slice A_ (lf ++ [false]).length c_), iC, dD, bN, (by rw [ha.out]; exact Hl (v := undef) rfl), Kv GS.out _ _, fun ah => absurd ((hon 4 aa).symm.trans ah) ai, fun _ aD => absurd ((hon 8 aa).symm.trans aD) ai, fun _ aD => absurd ((hon 12 aa).symm.trans aD) ai, fun _ => T3.out.Bt _ _, fun _ aD => absurd ((hon 4 aa).symm.trans aD) ai, fun _ aD => absurd ((hon 8 aa).symm.trans aD) ai, fun _ aD => absurd ((hon 12 aa).symm.trans aD) ai, fun ah => absurd ((hon 14 aa).symm.trans ah) ai, fun _ aD => absurd ((hon 16 aa).symm.trans aD) ai, fun _ aD => absurd ((oN b 18).symm.trans aD) ai, fun _ => ahL K2.out _, jr, fA, bY⟩
        exact JW
      · rintro b a w' hall ⟨dz, dA, iL, v1, v2, v3, iC, dD, bN, ha, bZ, fF, gB, fD, mD, fH, fe, kT, dF, gJ, iq, rY, jr, fA, bY⟩
        clear GS K0 T0;have zm := hall 1 aa;have xX := hall 3 aa;have qY := hall 4 aa;have oW := hall 6 aa;have sH := hall 7 aa;have qm := hall 8 aa;have yh := hall 10 aa;have uW := hall 11 aa;have yT := hall 12 aa;have Im := hall 13 aa;have KD := hall 14 aa;have KE := hall 15 aa;have KF := hall 16 aa;have KG := hall 17 aa;have Io := hall 18 aa;subst ha;obtain rfl := jr xX;obtain rfl := fA sH;obtain rfl := bY uW;simp only [ig, zm, xX, qY, oW, sH, qm, yh, uW, yT, Im, KD, KE, KF, KG, Io, if_true, Act.put, List.setIfInBounds_toArray, List.set_cons_zero, List.set_cons_succ];have GS := Zd.mk bZ;clear bZ;clear fF;clear gB;clear fD;have T3 := Zd.mk (mD yT);clear mD;clear fH;clear fe;clear kT;clear dF;clear gJ;clear iq;have K3 := Zd.mk (rY Io);clear rY;clear hall zm xX qY oW sH qm yh uW yT Im KD KE KF KG Io;go_wp2_with fail;go_meet;exact ⟨v1, v2, v3, by rw [HQ.out]; rfl, ⟨by rw [HE.out, HE.out]; exact T3.out⟩, ⟨K3.out⟩⟩
  case rest =>
    obtain ⟨u1, u2, u3, rfl, HRa, HKa⟩ := hcut;have ahO := (xZ.out wc _ _ HRa.out).1;have z2 : wc.cell? ⟨w.heap.size, 2, none⟩ = some (.slice A s.f2.length cp) := (aj ahO 2).trans rfl;have ahP : K + dI s.f2 ≤ 60 := by have := qR.out; have := rF.out; have := jJ.out; omega
    have atd := Zd.mk ahP;clear ahO x0 x1 x2 ahP;go_wp2;go_loopg [52, 3] s.f2.length (fun kq v52 v3 w' => ∃ (j q : Nat) (pre pO pL pF : List Bool) (u1 u2 u3 : Value), j + kq = s.f2.length ∧ v52 = .int .i64 j ∧ v3 = .int .i64 ((q : Nat) : Int) ∧ q ≤ 61 ∧ Zd (pre.length = j) ∧ Zd (pre ++ dO sv lt (s.f2.drop j) q = dO sv lt s.f2 K) ∧ Zd (q + dI (s.f2.drop j) = K + dI s.f2) ∧ Zd (K + pO.length = q ∧ pL.length = pO.length ∧ pF.length = pO.length) ∧ Zd (pO ++ rq sv lt (s.f2.drop j) q = rq sv lt s.f2 K) ∧ Zd (pL ++ uE sv lt (s.f2.drop j) q = uE sv lt s.f2 K) ∧ Zd (pF ++ uF sv lt (s.f2.drop j) q = uF sv lt s.f2 K) ∧ Zd (Rows w0 W4 ob (cK (.slice A1 lo.length c1) (.slice A2 ll.length c2) (.slice A3 lf.length c3)) w' (cK u1 u2 u3) (cK (lo ++ bX s.f0 x ++ pO) (ll ++ bX s.f0 (pre.getLastD false) ++ pL) (lf ++ bX s.f0 (pre.getD 0 false) ++ pF))) ∧ Zd (ny w' ob u1 u2 u3))
    case atStart => exact ⟨0, K, [], [], [], [], u1, u2, u3, by omega, rfl, rfl, Yw, ⟨rfl⟩, ⟨rfl⟩, ⟨rfl⟩, ⟨⟨rfl, rfl, rfl⟩⟩, ⟨rfl⟩, ⟨rfl⟩, ⟨rfl⟩, ⟨by rw [List.append_nil, List.append_nil, List.append_nil]; exact HRa.out⟩, HKa⟩
    case round =>
      obtain ⟨j, q, pre, pO, pL, pF, u1, u2, u3, hj, rfl, rfl, ar8, tO, Df, xL, y7, Jc, Md, Qs, yo, MZ⟩ := hrel;have HJ := Zd.mk hj;clear hj;have Y0 := Zd.mk (xZ.out wr _ _ yo.out);by_cases hlt : j < s.f2.length
      · obtain ⟨ad, A5, c5, e0, hx0, hx1, hx2, hl5, hk5⟩ := yG HK.out yo.out.bl j hlt hlt
        cases e0
        have ate := Zd.mk hk5;have atf := Zd.mk hl5;have HD := Zd.mk (List.drop_eq_getElem_cons hlt);have ME : q + az (s.f2[j]'hlt) ≤ 60 := by
          have h1 := xL.out;rw [HD.out] at h1;simp only [dI] at h1;have := atd.out;omega
        have ahQ := Zd.mk ME;have wH := Zd.mk (Pm HS.out j hlt);have atg := Zd.mk (fun W (h : Below wr.heap.size wr W) => Ri (s.f2[j]'hlt) sv lt q A5 c5 W (Kd.aQ (Kd.aQ hk5 yo.out.bl) h) hl5 wH.out ME);have ath := Zd.mk (wy.out (s.f2[j]'hlt) (List.getElem_mem hlt));have Dh := Zd.mk (show (pre ++ [dZ sv lt (s.f2[j]'hlt) q]) ++ dO sv lt (s.f2.drop (j + 1)) (q + az (s.f2[j]'hlt)) = dO sv lt s.f2 K from by rw [← Df.out, HD.out, dO, List.append_assoc]; rfl);have Rf := Zd.mk (show q + az (s.f2[j]'hlt) + dI (s.f2.drop (j + 1)) = K + dI s.f2 from by rw [← xL.out, HD.out, dI]; omega);have ati := Zd.mk (show (pO ++ nV sv lt (s.f2[j]'hlt) q) ++ rq sv lt (s.f2.drop (j + 1)) (q + az (s.f2[j]'hlt)) = rq sv lt s.f2 K from by rw [← Jc.out, HD.out, rq, List.append_assoc]);have atj := Zd.mk (show (pL ++ rW sv lt (s.f2[j]'hlt) q) ++ uE sv lt (s.f2.drop (j + 1)) (q + az (s.f2[j]'hlt)) = uE sv lt s.f2 K from by rw [← Md.out, HD.out, uE, List.append_assoc]);have atl := Zd.mk (show (pF ++ rX sv lt (s.f2[j]'hlt) q) ++ uF sv lt (s.f2.drop (j + 1)) (q + az (s.f2[j]'hlt)) = uF sv lt s.f2 K from by rw [← Qs.out, HD.out, uF, List.append_assoc]);have atm := Zd.mk (Eb sv lt (s.f2[j]'hlt) q);have atn := Zd.mk (MU sv lt (s.f2[j]'hlt) q);have ato := Zd.mk (MV sv lt (s.f2[j]'hlt) q);generalize s.f2[j]'hlt = kid at *;generalize hvv : dZ sv lt kid q = vv at *;clear hvv hk5 hl5 ME;obtain ⟨WK, wZ⟩ : ∃ WK, WK = wr.alloc (.cells #[.int .i64 kid.f0, .int .i64 kid.f1, .slice A5 kid.f2.length c5] 29) := ⟨_, rfl⟩;have xc : Below wr.heap.size wr WK := by rw [wZ]; exact aW (Below.refl _ _) _
        have hkb : WK.heap[wr.heap.size]? = some (.cells #[.int .i64 kid.f0, .int .i64 kid.f1, .slice A5 kid.f2.length c5] 29 (0, 0)) := by rw [wZ]; exact heap_alloc_new wr _
        have FL := Zd.mk wZ;have fK := Zd.mk xc;have HKB := Zd.mk hkb;have atp := Zd.mk (atg.out WK xc);clear wZ xc hkb
        go_upto_if 67 with (first | (go_at_call 49; rw [← FL.out]; refine atp.out.mono ?_; rintro e w5 ⟨rfl, dJ⟩; have cZ := Zd.mk (fK.out.trans (dJ.mono fK.out.size)); have atq := Zd.mk ((dJ.block _ (aT HKB.out)).trans HKB.out); have YX := Zd.mk ((cZ.out.block _ (aT Y0.out.1)).trans Y0.out.1); have y0 := (aj YX.out 0).trans rfl; clear dJ) | (go_at_call 50; refine (zF.calls _ (dB s.f0) _ Jf.out).mono ?_; rintro e w6 ⟨rfl, hd0⟩; obtain ⟨m2, rfl⟩ := hd0.out))
        obtain ⟨W6, RV⟩ : ∃ W6, W6 = w5.drewN m2 := ⟨_, rfl⟩;have fP : Below wr.heap.size wr W6 := by rw [RV]; exact fB cZ.out _
        have ahR : W6.heap[wr.heap.size]? = some (.cells #[.int .i64 kid.f0, .int .i64 kid.f1, .slice A5 kid.f2.length c5] 29 (0, 0)) := by rw [RV]; exact atq.out
        rw [← RV];have gP := Zd.mk fP;have Y1 := Zd.mk ahR;have IL := Zd.mk (yo.out.below fP);have Jq := Zd.mk (show ny W6 ob u1 u2 u3 from (fP.block _ (aT MZ.out)).trans MZ.out);clear RV fP ahR;go_cut [] (fun wx => Zd (Rows w0 W4 ob (cK (.slice A1 lo.length c1) (.slice A2 ll.length c2) (.slice A3 lf.length c3)) wx (cK u1 u2 u3) (cK (lo ++ bX s.f0 x ++ pO) (ll ++ bX s.f0 ((pre ++ [vv]).getLastD false) ++ pL) (lf ++ bX s.f0 ((pre ++ [vv]).getD 0 false) ++ pF))) ∧ Zd (ny wx ob u1 u2 u3) ∧ Zd (wx.heap[wr.heap.size]? = some (.cells #[.int .i64 kid.f0, .int .i64 kid.f1, .slice A5 kid.f2.length c5] 29 (0, 0))))
        case first =>
          cases jK : dB s.f0 with
          | false =>
            have HE := Zd.mk (show ∀ b, bX s.f0 b = [] from fun b => by unfold bX; rw [if_neg (by rw [jK]; simp)]);go_wp2;go_meet;exact ⟨⟨by have := IL.out; rw [HE.out, HE.out, HE.out] at this; rw [HE.out, HE.out, HE.out]; exact this⟩, Jq, Y1⟩
          | true =>
            have HE := Zd.mk (show ∀ b, bX s.f0 b = [b] from fun b => by unfold bX; rw [if_pos jK]);have oz := IL.out;rw [HE.out, HE.out, HE.out] at oz;have RX : lo.length < (ll ++ [pre.getLastD false] ++ pL).length := by have := vM.out; simp; omega
            have M0 : lo.length < (lf ++ [pre.getD 0 false] ++ pF).length := by have := HL2.out; simp; omega
            have RY : (ll ++ [pre.getLastD false] ++ pL).set lo.length vv = ll ++ [vv] ++ pL := by rw [vM.out]; exact set_mid _ _ _ _
            have Y2 : (lf ++ [pre.getD 0 false] ++ pF).set lo.length vv = lf ++ [vv] ++ pF := by rw [HL2.out]; exact set_mid _ _ _ _
            by_cases hj0 : j = 0
            · have hp0 : pre = [] := List.length_eq_zero_iff.1 (tO.out.trans hj0)
              have hjb : ((j : Int) == 0) = true := by rw [hj0]; rfl
              obtain ⟨g3, d3, e3, RZ, p3, q3, _, ahS⟩ := oz.put 2 M0;have l9 := as8 (ahS vv);change Rows _ _ _ _ _ _ (cK _ _ ((lf ++ [pre.getD 0 false] ++ pF).set lo.length vv)) at l9;rw [Y2] at l9;obtain ⟨g2, d2, e2, hn2, p2, q2, _, M3⟩ := l9.put 1 RX;have qX := ahM (M3 vv);change Rows _ _ _ _ _ _ (cK _ ((ll ++ [pre.getLastD false] ++ pL).set lo.length vv) _) at qX;rw [RY] at qX;change u3 = .slice _ (lf ++ [pre.getD 0 false] ++ pF).length d3 at e3;change u2 = .slice _ (ll ++ [pre.getLastD false] ++ pL).length d2 at e2;have hg2 : g2 < wr.heap.size := iD (yo.out.o 1) g2 (by show u2.ownBlock = _; rw [e2]; rfl);have hg3 : g3 < wr.heap.size := iD (yo.out.o 2) g3 (by show u3.ownBlock = _; rw [e3]; rfl);have BV := Zd.mk qX;have k1 := GA Jq.out;have k2 := Jp Jq.out;rw [e3] at k2;rw [e2] at k1;have hLF : (lf ++ [pre.getD 0 false] ++ pF).length = lf.length + 1 + pF.length := by rw [List.length_append, List.length_append, List.length_singleton]
              have Y3 : (ll ++ [pre.getLastD false] ++ pL).length = ll.length + 1 + pL.length := by rw [List.length_append, List.length_append, List.length_singleton]
              rw [hLF] at k2;rw [Y3] at k1;have b1 : lo.length < lf.length + 1 + pF.length := by omega
              have b2 : lo.length < ll.length + 1 + pL.length := by omega
              have n3 : ¬ ob = g3 := fun e => RZ e.symm;have n2 : ¬ ob = g2 := fun e => hn2 e.symm;have HP0 := Zd.mk hp0;change W6.cell? _ = _ at p3;change (W6.setCell _ _).cell? _ = _ at p2;generalize (lf ++ [pre.getD 0 false] ++ pF).getD lo.length false = o3 at *;generalize (ll ++ [pre.getLastD false] ++ pL).getD lo.length false = o2 at *;clear l9 qX ahS M3 oz hj0 RY Y2 RX M0 hp0;go_wp2;go_meet;refine ⟨⟨?_⟩, ⟨?_⟩, ⟨?_⟩⟩
              · rw [HE.out, HE.out, HE.out, HP0.out]
                have := BV.out;exact this
              · exact dK (p := ⟨g2, lo.length, none⟩) (dK (p := ⟨g3, lo.length, none⟩) Jq.out n3 _) n2 _
              · exact dK (p := ⟨g2, lo.length, none⟩) (dK (p := ⟨g3, lo.length, none⟩) Y1.out (by show wr.heap.size ≠ g3; omega) _) (by show wr.heap.size ≠ g2; omega) _
            · have hjb : ((j : Int) == 0) = false := beq_eq_false_iff_ne.2 ag
              have hj1 : j = 1 := by omega
              obtain ⟨pa, hpa⟩ : ∃ pa, pre = [pa] := List.length_eq_one_iff.1 (tO.out.trans hj1);obtain ⟨g2, d2, e2, hn2, p2, q2, _, M3⟩ := oz.put 1 RX;have qX := ahM (M3 vv);change Rows _ _ _ _ _ _ (cK _ ((ll ++ [pre.getLastD false] ++ pL).set lo.length vv) _) at qX;rw [RY] at qX;change u2 = .slice _ (ll ++ [pre.getLastD false] ++ pL).length d2 at e2;have hg2 : g2 < wr.heap.size := iD (yo.out.o 1) g2 (by show u2.ownBlock = _; rw [e2]; rfl);have BV := Zd.mk qX;have k1 := GA Jq.out;rw [e2] at k1;have Y3 : (ll ++ [pre.getLastD false] ++ pL).length = ll.length + 1 + pL.length := by rw [List.length_append, List.length_append, List.length_singleton]
              rw [Y3] at k1;have b2 : lo.length < ll.length + 1 + pL.length := by omega
              have n2 : ¬ ob = g2 := fun e => hn2 e.symm;have IY := Zd.mk hpa;change W6.cell? _ = _ at p2;generalize (ll ++ [pre.getLastD false] ++ pL).getD lo.length false = o2 at *;clear qX M3 oz hj0 hj1 RY Y2 RX M0 hpa;go_wp2;go_meet;refine ⟨⟨?_⟩, ⟨?_⟩, ⟨?_⟩⟩
              · rw [HE.out, HE.out, HE.out]
                have h8 := BV.out;rw [IY.out] at h8 ⊢;exact h8
              · exact dK (p := ⟨g2, lo.length, none⟩) Jq.out n2 _
              · exact dK (p := ⟨g2, lo.length, none⟩) Y1.out (by show wr.heap.size ≠ g2; omega) _
        case rest =>
          obtain ⟨Y4, R5, Y5⟩ := hcut;have hLO : (lo ++ bX s.f0 x ++ pO).length = q := by rw [List.length_append, List.length_append, tL]; have := y7.out; have := qR.out; omega
          have hLB : (ll ++ bX s.f0 ((pre ++ [vv]).getLastD false) ++ pL).length = q := by rw [List.length_append, List.length_append, tL]; have := y7.out; have := qR.out; have := vM.out; omega
          have ahT : (lf ++ bX s.f0 ((pre ++ [vv]).getD 0 false) ++ pF).length = q := by rw [List.length_append, List.length_append, tL]; have := y7.out; have := qR.out; have := HL2.out; omega
          have hcall := ath.out sv lt _ _ _ u1 u2 u3 A5 c5 wc Y4.out.r3 (hLO.trans hLB.symm) (hLO.trans ahT.symm) (by rw [hLO]; exact ahQ.out) ate.out atf.out wH.out;rw [hLO] at hcall;have Ag := Zd.mk hcall;have c0 := MW R5.out;have c1' := GA R5.out;have c2' := Jp R5.out;have b0 : wc.cell? ⟨wr.heap.size, 0, none⟩ = some (.int .i64 kid.f0) := (aj Y5.out 0).trans rfl;have b1 : wc.cell? ⟨wr.heap.size, 1, none⟩ = some (.int .i64 kid.f1) := (aj Y5.out 1).trans rfl;have b2 : wc.cell? ⟨wr.heap.size, 2, none⟩ = some (.slice A5 kid.f2.length c5) := (aj Y5.out 2).trans rfl;clear hcall hLO hLB ahT;go_wp2_with (go_at_call 71; refine Ag.out.mono ?_; rintro e w7 ⟨v1, v2, v3, rfl, l9, Y6, hn7⟩; have Dy := Zd.mk (Y4.out.call l9 Y6 hn7); have Ce := Zd.mk (show ny w7 ob u1 u2 u3 from JS R5.out Y6 (by rintro ⟨i, e⟩; exact Y4.out.RO i e)); have o0 := MW Ce.out; have o1 := GA Ce.out; have o2 := Jp Ce.out; have f0 := aN Ce.out 0; have f1 := aN Ce.out 1; have f2 := aN Ce.out 2; obtain ⟨A7, n7, c7, e7⟩ := wY (l9.o 0); obtain ⟨A8, n8, c8, e8⟩ := wY (l9.o 1); obtain ⟨A9, n9, c9, e9⟩ := wY (l9.o 2); change v1 = _ at e7; change v2 = _ at e8; change v3 = _ at e9; clear l9 Y6 hn7; subst e7 e8 e9);go_roundg (gk - 1)
          case measure => have := HJ.out; omega
          case rel =>
            refine ⟨j + 1, q + az kid, pre ++ [vv], pO ++ nV sv lt kid q, pL ++ rW sv lt kid q, pF ++ rX sv lt kid q, _, _, _, by have := HJ.out; omega, by go_num, by go_num, by have := ahQ.out; omega, ⟨by rw [List.length_append, tO.out]; rfl⟩, Dh, Rf, ⟨?_⟩, ati, atj, atl, ⟨?_⟩, ⟨ahL (ahK (ahJ Ce.out _) _) _⟩⟩
            · rw [List.length_append, List.length_append, List.length_append, atm.out, atn.out, ato.out]
              have := y7.out;omega
            · have h9 := ((Dy.out.Bt 0 (.slice A7 n7 c7)).Bt 1 (.slice A8 n8 c8)).Bt 2 (.slice A9 n9 c9)
              rw [List.append_assoc, List.append_assoc, List.append_assoc] at h9;rw [← List.append_assoc, ← List.append_assoc, ← List.append_assoc] at h9;simp only [List.append_assoc] at h9 ⊢;exact h9
      · have hdr : s.f2.drop j = [] := List.drop_eq_nil_of_le ag
        have hpv : pre = dO sv lt s.f2 K := by have := Df.out; rw [hdr, dO, List.append_nil] at this; exact this
        have hpo : pO = rq sv lt s.f2 K := by have := Jc.out; rw [hdr, rq, List.append_nil] at this; exact this
        have hpb : pL = uE sv lt s.f2 K := by have := Md.out; rw [hdr, uE, List.append_nil] at this; exact this
        have Lf : pF = uF sv lt s.f2 K := by have := Qs.out; rw [hdr, uF, List.append_nil] at this; exact this
        have hqq : q = lo.length + az s := by have := xL.out; rw [hdr] at this; simp only [dI] at this; have h3 := qR.out; have h4 := rF.out; omega
        have hfo : lo ++ bX s.f0 x ++ pO = lo ++ nV sv lt s lo.length := by rw [HEO.out, hpo, qR.out, List.append_assoc]
        have hfl : ll ++ bX s.f0 (pre.getLastD false) ++ pL = ll ++ rW sv lt s lo.length := by rw [HEB.out, hpb, ← qR.out, hpv, List.append_assoc]
        have hff : lf ++ bX s.f0 (pre.getD 0 false) ++ pF = lf ++ rX sv lt s lo.length := by rw [Xr.out, Lf, ← qR.out, hpv, List.append_assoc]
        have Jr := yo.out;rw [hfo, hfl, hff] at Jr;have HRf := Zd.mk Jr;have HQQ := Zd.mk hqq;obtain ⟨A7, n7, c7, e7⟩ := wY (Jr.o 0);obtain ⟨A8, n8, c8, e8⟩ := wY (Jr.o 1);obtain ⟨A9, n9, c9, e9⟩ := wY (Jr.o 2);change u1 = _ at e7;change u2 = _ at e8;change u3 = _ at e9;subst e7 e8 e9;have o0 := MW MZ.out;have o1 := GA MZ.out;have o2 := Jp MZ.out;have hrs : wr.heap[ob + 1]? = some (.cells #[.slice none 0 0, .slice none 0 0, .slice none 0 0] 86 (0, 0)) := by rw [RU.out]; exact Y0.out.2
        have Js := Zd.mk hrs;have r0 : wr.cell? ⟨ob + 1, 0, none⟩ = some (.slice none 0 0) := (aj hrs 0).trans rfl;have r1 : wr.cell? ⟨ob + 1, 1, none⟩ = some (.slice none 0 0) := (aj hrs 1).trans rfl;have r2 : wr.cell? ⟨ob + 1, 2, none⟩ = some (.slice none 0 0) := (aj hrs 2).trans rfl;have f0 := aN hrs 0;have f1 := aN hrs 1;have f2 := aN hrs 2;clear hdr hpv hpo hpb Lf hqq hfo hfl hff Jr hrs;go_upto_region 16 with fail
        go_region_law (fail)
        all_goals (
          go_wp2;refine bodyPost_ret (v := .tuple #[.int .i64 (q : Int), .agg #[.slice A7 n7 c7, .slice A8 n8 c8, .slice A9 n9 c9]]) (by simp [results, Tryz.results71, go_sem, r0, r1, r2]) rfl ?_
          have hne : ∀ i, some (ob + 1) ≠ (cK (Value.slice A7 n7 c7) (Value.slice A8 n8 c8) (Value.slice A9 n9 c9) i).ownBlock := fun i e => by
            have h1 := RU.out;have h2 := HZ4.out;rcases yo.out.n i (ob + 1) e.symm with h3 | h3
            · have := HOL.out i (ob + 1) h3.symm
              omega
            · omega
          have Y7 : w0.heap.size ≤ ob + 1 := by have := yo.out.wz; omega
          have Y8 : w.heap.size ≤ ob + 1 := by have := RU.out; omega
          have hk0 : Kept w wr (fun k => ∃ i, some k = (cK (Value.slice A1 lo.length c1) (Value.slice A2 ll.length c2) (Value.slice A3 lf.length c3) i).ownBlock) :=
            (Kept.of_below bQ.out _).CJ yo.out.kp (fun k e => by
              rcases e with e | e
              · exact .inl e
              · right; have := RU.out; omega)
          refine ⟨_, _, _, by rw [HQQ.out], ?_, ?_, ?_⟩
          · exact (((HRf.out.r3.set (p := ⟨ob + 1, 0, none⟩) hne Y7 _).set (p := ⟨ob + 1, 1, none⟩) hne Y7 _).set (p := ⟨ob + 1, 2, none⟩) hne Y7 _).below (bV (Below.refl _ _))
          · exact (((hk0.setCell (p := ⟨ob + 1, 0, none⟩) (.inr Y8) _).setCell (p := ⟨ob + 1, 1, none⟩) (.inr Y8) _).setCell (p := ⟨ob + 1, 2, none⟩) (.inr Y8) _).drew
          · intro i k e
            rcases yo.out.n i k e with h3 | h3
            · exact .inl h3
            · right; have := HZ4.out; omega)
mutual
theorem ahU (w0 : World) : ∀ s : ak, RP w0 s
  | ⟨op, m, kids⟩ => as9 w0 ⟨op, m, kids⟩ (ahV w0 kids)
theorem ahV (w0 : World) : ∀ (l : List ak) (k : ak), k ∈ l → RP w0 k
  | [], k, hk => by simp at hk
  | a :: r, k, hk => by
    rcases List.mem_cons.1 hk with h | h
    · rw [h]
      exact ahU w0 a
    · exact ahV w0 r k h
end
theorem atr (w : World) : R3 w w (cK (.slice none 0 0) (.slice none 0 0) (.slice none 0 0)) (cK [] [] []) :=
  ⟨fun i => by match i with | 0 => exact World.ownsRow_nil _ _ _ _ | 1 => exact World.ownsRow_nil _ _ _ _ | 2 => exact World.ownsRow_nil _ _ _ _,
   fun i j _ => .inl (by match i with | 0 => rfl | 1 => rfl | 2 => rfl), Below.refl _ _⟩
theorem ahW (s : ak) (sv lt : Int) (A : Option Addr) (cp : Nat) (w : World) (hr : Kd.C bK w A s.f2.length s.f2) (hc : s.f2.length ≤ cp) (hs : cO s = true) (ht : az s ≤ 60) :
    Calls Tryz.prog 48 #[.agg #[.int .i64 s.f0, .int .i64 s.f1, .slice A s.f2.length cp], .int .i64 sv, .int .u32 lt] w fun e w' => ∃ v1 v2 v3, e = .returned (.agg #[v1, v2, v3]) ∧ R3 w w' (cK v1 v2 v3) (cK (nV sv lt s 0) (rW sv lt s 0) (rX sv lt s 0)) := by
  have jm := Tryz.underlying29;have hut := Tryz.underlying86;obtain ⟨W3, hW3⟩ : ∃ W3, W3 = (w.alloc (.cells #[.int .i64 s.f0, .int .i64 s.f1, .slice A s.f2.length cp] 29)).alloc (.cells #[.slice none 0 0, .slice none 0 0, .slice none 0 0] 86) := ⟨_, rfl⟩;have hB3 : Below w.heap.size w W3 := by rw [hW3]; exact aW (aW (Below.refl _ _) _) _
  have zG : W3.heap[w.heap.size]? = some (.cells #[.int .i64 s.f0, .int .i64 s.f1, .slice A s.f2.length cp] 29 (0, 0)) := by rw [hW3]; exact bf (heap_alloc_new w _) _
  have hrs : W3.heap[w.heap.size + 1]? = some (.cells #[.slice none 0 0, .slice none 0 0, .slice none 0 0] 86 (0, 0)) := by
    rw [hW3];have := heap_alloc_new (w.alloc (.cells #[.int .i64 s.f0, .int .i64 s.f1, .slice A s.f2.length cp] 29)) (.cells #[.slice none 0 0, .slice none 0 0, .slice none 0 0] 86);simpa using this
  have HC := Zd.mk (ahU w s sv lt [] [] [] (.slice none 0 0) (.slice none 0 0) (.slice none 0 0) A cp W3 ((atr w).below hB3) rfl rfl (by simpa using ht) hr hc hs);have Js := Zd.mk hrs;have HZ3 := Zd.mk (show W3.heap.size = w.heap.size + 2 from by rw [hW3]; simp);have HB3 := Zd.mk hB3;have x0 : W3.cell? ⟨w.heap.size, 0, none⟩ = some (.int .i64 s.f0) := (aj zG 0).trans rfl;have x1 : W3.cell? ⟨w.heap.size, 1, none⟩ = some (.int .i64 s.f1) := (aj zG 1).trans rfl;have x2 : W3.cell? ⟨w.heap.size, 2, none⟩ = some (.slice A s.f2.length cp) := (aj zG 2).trans rfl;clear hr hc hs ht hB3 zG hrs;go_enter Tryz.func48, Tryz.ntmps48;go_upto_region 1 with fail
  rw [← hW3];clear hW3;go_wp2_with (go_at_call 71; refine HC.out.mono ?_; rintro e w2 ⟨v1, v2, v3, rfl, hR, hK, hN⟩; have HR := Zd.mk hR; have HR2 := Zd.mk (JS Js.out hK (by rintro ⟨i, e⟩; match i with | 0 => cases e | 1 => cases e | 2 => cases e)); have hrl := aT HR2.out; have hrn : ¬ w2.heap.size = w.heap.size + 1 := ag; have q0 := (aj HR2.out 0).trans rfl; have q1 := (aj HR2.out 1).trans rfl; have q2 := (aj HR2.out 2).trans rfl; have f0 := aN HR2.out 0; have f1 := aN HR2.out 1; have f2 := aN HR2.out 2; obtain ⟨A7, n7, c7, e7⟩ := wY (hR.o 0); obtain ⟨A8, n8, c8, e8⟩ := wY (hR.o 1); obtain ⟨A9, n9, c9, e9⟩ := wY (hR.o 2); change v1 = _ at e7; change v2 = _ at e8; change v3 = _ at e9; have ma := Zd.mk hN; clear hR hK hN; subst e7 e8 e9);refine bodyPost_ret (v := .agg #[.slice A7 n7 c7, .slice A8 n8 c8, .slice A9 n9 c9]) (by simp [results, Tryz.results48, go_sem, q0, q1, q2, hrl]) rfl ?_;refine ⟨_, _, _, rfl, ?_⟩;have hne : ∀ i, some (w.heap.size + 1) ≠ (cK (Value.slice A7 n7 c7) (Value.slice A8 n8 c8) (Value.slice A9 n9 c9) i).ownBlock := fun i e => by
    rcases ma.out i _ e.symm with h3 | h3
    · match i with | 0 => cases h3 | 1 => cases h3 | 2 => cases h3
    · have := HZ3.out; omega
  exact (((HR.out.set (p := ⟨w.heap.size + 1, 0, none⟩) hne (by simp) _).set (p := ⟨w.heap.size + 1, 1, none⟩) hne (by simp) _).set (p := ⟨w.heap.size + 1, 2, none⟩) hne (by simp) _).below (aW (Below.refl _ _) _)
end Go.Proofs.YtapejnikpmfddaaGreat.X
