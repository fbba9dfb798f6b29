/- A part of the claim SearchReal. -/
import Derived.Test.YtapejnikpmfddaaQSearchRealm
set_option linter.unusedVariables false
set_option linter.unusedSimpArgs false
set_option maxHeartbeats 12800000
set_option maxRecDepth 100000
namespace Go.Proofs.Ytapejnikpmfddaa.X
open Go.RowKit Go.Proofs.YtapejnikpmfddaaW.PrintWords Go.Proofs.YtapejnikpmfddaaW.PrintLast Go.Proofs.YtapejnikpmfddaaW.PrintMore
open Go.Proofs.Ytapejnikpmfddaa.P Go.Proofs.Ytapejnikpmfddaa.Evx
def snw.T10 : Bool × List (List Nat × List Nat) := (true, [([], []), ([], []), ([], []), ([], []), ([], []), ([4], [4]), ([5], [5]), ([3, 6], [3, 6]), ([7, 7], [7]), ([0, 1, 2, 8], [0, 1, 2, 8]), ([9], [9]), ([10, 0, 1, 2, 3, 4, 5, 6, 7, 8, 9, 10], [10])])
def snw.B10 : List Nat := [0, 0, 0, 0, 0, 16, 48, 120, 248, 511, 1023, 2047]
theorem snw.tab10 : rtab .any (opsOf Try.f25 10) = snw.T10 := by kernel_rfl
theorem snw.bits10 : waitsOk snw.T10.2 snw.B10 = true := by kernel_rfl
def snw.T16 : Bool × List (List Nat × List Nat) := (true, [([], []), ([], []), ([1], [1]), ([2], [2]), ([3], [3]), ([], []), ([], []), ([], []), ([7], [7]), ([5, 6, 8], [5, 6, 8]), ([9], [9]), ([4, 10, 8], [4, 10]), ([0, 0, 1, 2, 3, 4, 5, 6, 7, 8, 9, 10, 11], [0]), ([12, 0, 1, 2, 3, 4, 5, 6, 7, 8, 9, 10, 11], [12]), ([13, 11, 11, 0, 1, 2, 3, 4, 5, 6, 7, 8, 9, 10, 11], [11, 13])])
def snw.B16 : List Nat := [0, 0, 2, 6, 14, 0, 0, 0, 128, 480, 992, 2046, 4095, 8191, 16383]
theorem snw.tab16 : rtab .any (opsOf Try.f25 16) = snw.T16 := by kernel_rfl
theorem snw.bits16 : waitsOk snw.T16.2 snw.B16 = true := by kernel_rfl
def snw.T25 : Bool × List (List Nat × List Nat) := (true, [([], []), ([0], [0]), ([1], [1]), ([2], [2]), ([], []), ([], []), ([4, 5], [4, 5]), ([], []), ([6, 7], [6, 7]), ([], []), ([9], [9]), ([10], [10]), ([11], [11]), ([], []), ([], []), ([13, 14], [13, 14]), ([], []), ([15, 16], [15, 16]), ([12, 17], [12, 17]), ([18], [18]), ([], []), ([20], [20]), ([19, 21], [19, 21]), ([3, 8, 0, 1, 2, 3, 4, 5, 6, 7, 8, 9, 10, 11, 12, 13, 14, 15, 16, 17, 18, 19, 20, 21, 22], [3, 8]), ([23, 22, 22, 0, 1, 2, 3, 4, 5, 6, 7, 8, 9, 10, 11, 12, 13, 14, 15, 16, 17, 18, 19, 20, 21, 22], [22, 23])])
def snw.B25 : List Nat := [0, 1, 3, 7, 0, 0, 48, 0, 240, 0, 512, 1536, 3584, 0, 0, 24576, 0, 122880, 261632, 523776, 0, 1048576, 4193792, 8388607, 16777215]
theorem snw.tab25 : rtab .any (opsOf Try.f25 25) = snw.T25 := by kernel_rfl
theorem snw.bits25 : waitsOk snw.T25.2 snw.B25 = true := by kernel_rfl
theorem infoPt : (Try.prog.info? 81).map (fun i => (i.zero, i.size, i.bytes)) = some (some (.agg #[.int .i64 0, .int .i64 0, .slice none 0 0, .int .i64 0, .int .i64 0]), 5, 56) := by kernel_rfl
theorem infoRw : (Try.prog.info? 23).map (fun i => (i.zero, i.size, i.bytes)) = some (some (.slice none 0 0), 1, 24) := by kernel_rfl
theorem make_nils (n : Nat) (h : n < 1000000) (W : World) : (Instr.makeSlice 24 (.int .i64 (n : Int)) (.int .i64 (n : Int))).run Try.prog W = .ok (.slice (some ⟨W.heap.size, 0, none⟩) n n) (W.alloc (.cells ⟨List.replicate n (Value.slice none 0 0)⟩ 23)) := by
 have h1 := print_make_of (P := Try.prog) 24 23 (.slice none 0 0) 24 Try.underlying24 infoRw rfl (by decide) n (by omega) W
 have hmi : madeCells #[Value.slice none 0 0] n = ⟨List.replicate n (Value.slice none 0 0)⟩ := by
  apply Array.ext
  ·simp [madeCells]
  ·intro i h1 h2
   simp [madeCells, Nat.mod_one]
 rw [hmi] at h1
 exact h1
theorem rows_laid {W w : World} {g n : Nat} {ok : Nat → Prop} (h : Lay W w g ⟨List.replicate n (Value.slice none 0 0)⟩ 23) (hn : n < 1000000000) (hok : ok g) : Kd.S (Kd.slice 3 natK) 23 w W.heap.size ok (.slice (some ⟨g, 0, none⟩) n n) (List.replicate n []) := by
 have hown : w.ownsRow W.heap.size 23 1 (.slice (some ⟨g, 0, none⟩) n n) n (List.replicate n (Value.slice none 0 0)) := ⟨by simp, .inr ⟨g, n, _, rfl, h.1, h.2, Nat.le_refl _, by simp only [maxLen]; omega, by simp, by simp⟩⟩
 have hrep : Reps (Kd.bare (Kd.slice 3 natK) |>.M w W.heap.size (fun k => ok k ∧ some k ≠ (Value.slice (some ⟨g, 0, none⟩) n n).ownBlock)) 1 (List.replicate n []) (List.replicate n (Value.slice none 0 0)) := by
  refine ⟨by simp, fun j p hj => ?_⟩
  obtain ⟨hj1, hj2⟩ := List.getElem?_eq_some_iff.1 hj
  rw [List.length_replicate] at hj1
  rw [List.getElem_replicate] at hj2
  subst hj2
  rw [Nat.mul_one, List.drop_replicate, List.take_replicate, show min 1 (n - j) = 1 by omega]
  exact ⟨_, rfl, Kd.R_nil _ _ _ _ _⟩
 exact Kd.S_bare ⟨fun k hk => by simp [Value.ownBlock] at hk; rw [← hk]; exact hok, _, by rw [List.length_replicate]; exact hown, hrep⟩
theorem kidF_at {W : World} {ok : Nat → Prop} {A : Option Addr} {n : Nat} {xs : List S29} (h : Kd.F k29 W ok A n xs) {j : Nat} (hj : j < n) :
  ∃ ad Aq cq, A = some ad ∧ (xs.getD j z29).f2.length ≤ cq ∧ Kd.F k29 W ok Aq (xs.getD j z29).f2.length (xs.getD j z29).f2 ∧
   W.cell? (ad.add (j * 3)) = some (.int .i64 (xs.getD j z29).f0) ∧ W.cell? ⟨(ad.add (j * 3)).block, (ad.add (j * 3)).off + 1, none⟩ = some (.int .i64 (xs.getD j z29).f1) ∧
   W.cell? ⟨(ad.add (j * 3)).block, (ad.add (j * 3)).off + 2, none⟩ = some (.slice Aq (xs.getD j z29).f2.length cq) := by
 obtain ⟨ad, c, e, _, hK, hc0, _⟩ := Kd.F_get h z29 (j : Int) (by omega) (by omega)
 rw [Int.toNat_natCast] at hK hc0
 obtain ⟨Aq, cq, rfl, hl, hC⟩ := k29_openF hK
 refine ⟨ad, Aq, cq, e, hl, hC, ?_, ?_, ?_⟩
 ·have := hc0 0 _ rfl
  rwa [Nat.add_zero] at this
 ·have := hc0 1 _ rfl
  rwa [add_more _ _ _ (by omega)] at this
 ·have := hc0 2 _ rfl
  rwa [add_more _ _ _ (by omega)] at this
theorem rows_max {w : World} {A : Option Addr} {n : Nat} {xs : List (List Int)} (h : Kd.C (Kd.slice 3 (Kd.int .i64)) w A n xs) : ∀ x, x ∈ xs → x.length ≤ 9223372036854775807 := by
 intro x hx
 obtain ⟨j, hj, e⟩ := List.getElem_of_mem hx
 have hn : j < n := by rw [← h.1]; exact hj
 obtain ⟨ad, c, _, _, hK, _⟩ := Kd.C_get h [] (j : Int) (by omega) (by omega)
 rw [Int.toNat_natCast, List.getD_eq_getElem?_getD, List.getElem?_eq_getElem hj, e] at hK
 obtain ⟨A', c', _, _, hC⟩ := hK
 exact Kd.C_max hC
def newCells (ls ss : List Int) (nxs : List (List Int)) (s : S29) (sz : Nat) (A0 A1 A2 A5 : Option Addr) (c0 c1 c2 c5 ga nn : Nat) (v7 : Value) : Array Value :=
 #[.slice A0 ls.length c0, .slice A1 ss.length c1, .slice A2 nxs.length c2, .int .i64 s.f0, .int .i64 s.f1, .slice A5 s.f2.length c5, .int .i64 (sz : Int), v7, .slice (some ⟨ga, 0, none⟩) nn nn]
def NewOk (err : Int) (p : PD) (w' : World) (e : Ending) : Prop := if err = 0 then ∃ g, e = .returned (.tuple #[.pointer (some ⟨g, 0, none⟩), .int .i64 0]) ∧ IsProd w' g p else e = .returned (.tuple #[.pointer none, .int .i64 err])
theorem newProduct_walk (ls ss : List Int) (nxs : List (List Int)) (s : S29) (A0 A1 A2 A5 : Option Addr) (c0 c1 c2 c5 : Nat) (w : World)
  (h0 : Kd.C (Kd.int .u32) w A0 ls.length ls) (l0 : ls.length ≤ c0) (h1 : Kd.C (Kd.int .i64) w A1 ss.length ss) (l1 : ss.length ≤ c1) (h2 : Kd.C (Kd.slice 3 (Kd.int .i64)) w A2 nxs.length nxs) (l2 : nxs.length ≤ c2) (h5 : Kd.C k29 w A5 s.f2.length s.f2) (l5 : s.f2.length ≤ c5) :
  Calls Try.prog 25 #[.agg #[.slice A0 ls.length c0, .slice A1 ss.length c1, .slice A2 nxs.length c2], .agg #[.int .i64 s.f0, .int .i64 s.f1, .slice A5 s.f2.length c5]] w fun e w' => NewOk (newErr ls ss nxs s) (newPD ls ss nxs s) w' e ∧ Below w.heap.size w w' := by
 have huK := Try.underlying26
 have huF := Try.underlying29
 have huL := Try.underlying27
 have huP := Try.underlying79
 have hup := Try.underlying81
 have hupp := Try.underlying77
 have huu := Try.underlying22
 have hui := Try.underlying23
 have huii := Try.underlying24
 obtain ⟨W2, hW2⟩ : ∃ W2, W2 = (w.alloc (.cells #[.slice A0 ls.length c0, .slice A1 ss.length c1, .slice A2 nxs.length c2] 26)).alloc (.cells #[.int .i64 s.f0, .int .i64 s.f1, .slice A5 s.f2.length c5] 29) := ⟨_, rfl⟩
 have hB2 : Below w.heap.size w W2 := by rw [hW2]; exact below_alloc (below_alloc (Below.refl _ _) _) _
 have hbk : W2.heap[w.heap.size]? = some (.cells #[.slice A0 ls.length c0, .slice A1 ss.length c1, .slice A2 nxs.length c2] 26 (0, 0)) := by rw [hW2]; exact ba_ (heap_alloc_new w _) _
 have hbf : W2.heap[w.heap.size + 1]? = some (.cells #[.int .i64 s.f0, .int .i64 s.f1, .slice A5 s.f2.length c5] 29 (0, 0)) := by
  rw [hW2]
  have := heap_alloc_new (w.alloc (.cells #[.slice A0 ls.length c0, .slice A1 ss.length c1, .slice A2 nxs.length c2] 26)) (.cells #[.int .i64 s.f0, .int .i64 s.f1, .slice A5 s.f2.length c5] 29)
  simpa using this
 obtain ⟨gf, hgf⟩ : ∃ k, k = w.heap.size + 1 := ⟨_, rfl⟩
 obtain ⟨gk1, hgk⟩ : ∃ k, k = w.heap.size := ⟨_, rfl⟩
 rw [← hgk] at hbk
 rw [← hgf] at hbf
 obtain ⟨km, hkm⟩ := (smay_ev ls ss nxs (Kd.C_max h1) (Kd.C_max h2) (rows_max h2)).rounds
 have HM1 := Zd.mk (search_May.calls km A0 c0 ls A1 c1 ss A2 c2 nxs (mayG ls ss nxs) W2 (Kd.C_below h0 hB2) l0 (Kd.C_below h1 hB2) l1 (Kd.C_below h2 hB2) l2 hkm)
 have HM2 := Zd.mk (fun W (hb : Below W2.heap.size W2 W) => May_calls s A5 c5 W (Kd.C_below h5 (hB2.trans (hb.mono hB2.size))) l5)
 have zk0 : W2.cell? ⟨gk1, 0, none⟩ = some (.slice A0 ls.length c0) := (bq_ hbk 0).trans rfl
 have zk1 : W2.cell? ⟨gk1, 1, none⟩ = some (.slice A1 ss.length c1) := (bq_ hbk 1).trans rfl
 have zk2 : W2.cell? ⟨gk1, 2, none⟩ = some (.slice A2 nxs.length c2) := (bq_ hbk 2).trans rfl
 have HBK := Zd.mk hbk
 have HBF := Zd.mk hbf
 have HB2 := Zd.mk hB2
 have H0 := Zd.mk h0
 have H1 := Zd.mk h1
 have H2 := Zd.mk h2
 have H5 := Zd.mk h5
 have HERR := Zd.mk (show newErr ls ss nxs s = if mayG ls ss nxs = 0 then (if mayF s = 0 then (if 3000 < 2 ^ tnS s * ls.length then 7 else 0) else mayF s) else mayG ls ss nxs from rfl)
 have HGOK := Zd.mk (fun (h : mayG ls ss nxs = 0) => mayG_ok h)
 have HMZ := Zd.mk (fun (h : mayF s = 0) (hg : GraphOk ls ss nxs) => newPD_ok hg h)
 have HSUB := Zd.mk (fun (hm : mayF s = 0) (t : S29) (ht : t ∈ timesS s) => (times_sub s t ht).may hm)
 have HPB := Zd.mk (fun (hm : mayF s = 0) => parts_bound hm)
 have HZ := Zd.mk (fun (hm : mayF s = 0) => may_zero hm)
 obtain ⟨kt, hkt⟩ := (Times_ev s).rounds
 obtain ⟨kz, hkz⟩ := (Size_ev s).rounds
 have HKT := Zd.mk hkt
 have HKZ := Zd.mk hkz
 have HTS := Zd.mk (show TimesS s = if mayF s = 0 then timesS s else [] from rfl)
 have HSS := Zd.mk (show sizeS s = if mayF s = 0 then 2 ^ tnS s else 0 from rfl)
 clear h0 h1 h2 h5 hbk hbf hB2 hkm hkt hkz
 generalize mayG ls ss nxs = mg at *
 generalize hmf : mayF s = mf at *
 have HMF := Zd.mk hmf
 clear hmf
 by_cases e1 : mg = 0
 ·by_cases e2 : mf = 0
  ·have em1 : (mg != 0) = false := by rw [e1]; rfl
   have em2 : (mf != 0) = false := by rw [e2]; rfl
   obtain ⟨sz, hsz⟩ : ∃ n : Nat, n = 2 ^ tnS s := ⟨_, rfl⟩
   have hss : sizeS s = (sz : Int) := by rw [HSS.out, if_pos e2, hsz, Int.natCast_pow]; rfl
   rw [hss] at HKZ
   have h8 := (HZ.out (e2)).2.2.1
   have hsz1 : 1 ≤ sz := by rw [hsz]; exact Nat.one_le_two_pow
   have hsz2 : sz ≤ 256 := by rw [hsz]; exact Nat.pow_le_pow_right (n := 2) (by decide) h8
   have hlsn := (HGOK.out e1).n
   obtain ⟨nn, hnn⟩ : ∃ n : Nat, n = sz * ls.length := ⟨_, rfl⟩
   have hnb : nn ≤ 51200 := by rw [hnn]; exact Nat.mul_le_mul hsz2 hlsn
   have hmul : IntKind.i64.wrap ((sz : Int) * (ls.length : Int)) = (nn : Int) := by
    rw [← Int.natCast_mul, ← hnn]; exact (i64_w _).trans (w64n (by omega))
   have HNN := Zd.mk hnn
   have HSZ0 := Zd.mk hsz
   clear hss hnn hsz
   by_cases e3 : 3000 < nn
   ·have HE := Zd.mk (show newErr ls ss nxs s = 7 from by rw [HERR.out, if_pos e1, if_pos e2, ← HSZ0.out, ← HNN.out, if_pos e3])
    have e4 : (3000 : Int) < (nn : Int) := by omega
    go_enter Try.func25, Try.ntmps25
    go_upto_region 1 with fail
    rw [← hW2, ← hgf, ← hgk]
    clear hW2 hgf hgk
    go_wp2_with (first
     | (go_at_call 18; refine HM1.out.mono ?_; rintro e w3 ⟨rfl, hB3⟩; have HB3 := Zd.mk hB3; have HBF3 := Zd.mk ((hB3.block _ (blk_lt HBF.out)).trans HBF.out); have HBK3 := Zd.mk ((hB3.block _ (blk_lt HBK.out)).trans HBK.out); have y0 := (bq_ HBF3.out 0).trans rfl; have y1 := (bq_ HBF3.out 1).trans rfl; have y2 := (bq_ HBF3.out 2).trans rfl; clear hB3)
     | (go_at_call 9; refine (HM2.out _ HB3.out).mono ?_; rintro e w4 ⟨rfl, hB4⟩; have HB4 := Zd.mk (HB3.out.trans (hB4.mono HB3.out.size)); have HBF4 := Zd.mk ((hB4.block _ (blk_lt HBF3.out)).trans HBF3.out); have HBK4 := Zd.mk ((hB4.block _ (blk_lt HBK3.out)).trans HBK3.out); have x0 := (bq_ HBF4.out 0).trans rfl; have x1 := (bq_ HBF4.out 1).trans rfl; have x2 := (bq_ HBF4.out 2).trans rfl; clear hB4)
     | (go_at_call 42; refine (tableau_Size.calls kz s.f0 s.f1 A5 c5 s.f2 (sz : Int) _ (Kd.C_below H5.out (HB2.out.trans (HB4.out.mono HB2.out.size))) l5 HKZ.out).mono ?_; rintro e w5 ⟨rfl, hB5⟩; have HB5 := Zd.mk (HB4.out.trans (hB5.mono HB4.out.size)); have HBK5 := Zd.mk ((hB5.block _ (blk_lt HBK4.out)).trans HBK4.out); have t0 := (bq_ HBK5.out 0).trans rfl; clear hB5))
    go_ret2
    exact ⟨by rw [HE.out]; unfold NewOk; rw [if_neg (by decide)]; rfl, HB2.out.trans (HB5.out.mono HB2.out.size)⟩
   ·have HE := Zd.mk (show newErr ls ss nxs s = 0 from by rw [HERR.out, if_pos e1, if_pos e2, ← HSZ0.out, ← HNN.out, if_neg e3])
    have e4 : ¬ (3000 : Int) < (nn : Int) := by omega
    go_enter Try.func25, Try.ntmps25
    go_upto_region 1 with fail
    rw [← hW2, ← hgf, ← hgk]
    clear hW2 hgf hgk
    go_upto_region 10 with (first
     | (go_at_call 18; refine HM1.out.mono ?_; rintro e w3 ⟨rfl, hB3⟩; have HB3 := Zd.mk hB3; have HBF3 := Zd.mk ((hB3.block _ (blk_lt HBF.out)).trans HBF.out); have HBK3 := Zd.mk ((hB3.block _ (blk_lt HBK.out)).trans HBK.out); have y0 := (bq_ HBF3.out 0).trans rfl; have y1 := (bq_ HBF3.out 1).trans rfl; have y2 := (bq_ HBF3.out 2).trans rfl; clear hB3)
     | (go_at_call 9; refine (HM2.out _ HB3.out).mono ?_; rintro e w4 ⟨rfl, hB4⟩; have HB4 := Zd.mk (HB3.out.trans (hB4.mono HB3.out.size)); have HBF4 := Zd.mk ((hB4.block _ (blk_lt HBF3.out)).trans HBF3.out); have HBK4 := Zd.mk ((hB4.block _ (blk_lt HBK3.out)).trans HBK3.out); have x0 := (bq_ HBF4.out 0).trans rfl; have x1 := (bq_ HBF4.out 1).trans rfl; have x2 := (bq_ HBF4.out 2).trans rfl; clear hB4)
     | (go_at_call 42; refine (tableau_Size.calls kz s.f0 s.f1 A5 c5 s.f2 (sz : Int) _ (Kd.C_below H5.out (HB2.out.trans (HB4.out.mono HB2.out.size))) l5 HKZ.out).mono ?_; rintro e w5 ⟨rfl, hB5⟩; have HB5 := Zd.mk (HB4.out.trans (hB5.mono HB4.out.size)); have HBK5 := Zd.mk ((hB5.block _ (blk_lt HBK4.out)).trans HBK4.out); have HBF5 := Zd.mk ((hB5.block _ (blk_lt HBF4.out)).trans HBF4.out); have t0 := (bq_ HBK5.out 0).trans rfl; clear hB5))
    obtain ⟨W4, rfl⟩ : ∃ W : World, W = w5 := ⟨_, rfl⟩
    clear zk0 zk1 zk2 t0 y0 y1 y2 x0 x1 x2
    have zk0 : W4.cell? ⟨gk1, 0, none⟩ = some (.slice A0 ls.length c0) := (bq_ HBK5.out 0).trans rfl
    have zk1 : W4.cell? ⟨gk1, 1, none⟩ = some (.slice A1 ss.length c1) := (bq_ HBK5.out 1).trans rfl
    have zk2 : W4.cell? ⟨gk1, 2, none⟩ = some (.slice A2 nxs.length c2) := (bq_ HBK5.out 2).trans rfl
    have zf0 : W4.cell? ⟨gf, 0, none⟩ = some (.int .i64 s.f0) := (bq_ HBF5.out 0).trans rfl
    have zf1 : W4.cell? ⟨gf, 1, none⟩ = some (.int .i64 s.f1) := (bq_ HBF5.out 1).trans rfl
    have zf2 : W4.cell? ⟨gf, 2, none⟩ = some (.slice A5 s.f2.length c5) := (bq_ HBF5.out 2).trans rfl
    have HB24 := Zd.mk (HB2.out.trans (HB5.out.mono HB2.out.size))
    have hmk := make_nils nn (by omega)
    have BW := Zd.mk (below_drew1 (Below.refl W4.heap.size W4))
    clear HBK5 HBF5 HBK3 HBK4 HBF3 HBF4 HB3 HB4 HB5 HBK HBF HB2 HM1 HM2
    refine start_ (n := 12) (S := fun w' => True) (ds := []) Mk168_ (by kernel_rfl) rfl rfl trivial (fun hHeld => ?_)
    refine with_tabW snw.tab10 snw.bits10 (fun HT_ HW_ => ?_)
    refine inv_at [0, 1, 2, 3, 4, 5, 6, 7, 8, 9, 10, 11] (fun a0_ b a w' => ∃ (g8 : Nat) (g10 : Nat) (m8_ : Value) (m9_ : Value) (m10_ : Value) (m11_ : Value), a = putSel a0_ b [(0, 34, .agg #[.slice A0 ls.length c0, .slice A1 ss.length c1, .slice A2 nxs.length c2]), (1, 35, .agg #[.int .i64 s.f0, .int .i64 s.f1, .slice A5 s.f2.length c5]), (2, 36, .int .i64 (sz : Int)), (3, 37, .int .i64 (sz : Int)), (4, 38, .pointer (some ⟨gk1, 0, none⟩)), (5, 39, .slice A0 ls.length c0), (6, 40, .int .i64 (ls.length : Int)), (7, 41, .int .i64 (nn : Int)), (8, 42, m8_), (9, 43, m9_), (10, 44, m10_), (11, 9, m11_)] ∧ (Below W4.heap.size W4 w') ∧ (b 8 = true → Lay W4 w' g8 ⟨List.replicate nn (Value.slice none 0 0)⟩ 23) ∧ (b 10 = true → Lay W4 w' g10 #[.slice A0 ls.length c0, .slice A1 ss.length c1, .slice A2 nxs.length c2, .int .i64 s.f0, .int .i64 s.f1, .slice A5 s.f2.length c5, .int .i64 (sz : Int), .slice none 0 0, .slice (some ⟨g8, 0, none⟩) nn nn] 79) ∧ (b 8 = true → b 10 = true → g8 ≠ g10) ∧ (b 8 = true → (m8_ : Value) = .slice (some ⟨g8, 0, none⟩) nn nn) ∧ (b 9 = true → (m9_ : Value) = .agg #[.slice A0 ls.length c0, .slice A1 ss.length c1, .slice A2 nxs.length c2, .int .i64 s.f0, .int .i64 s.f1, .slice A5 s.f2.length c5, .int .i64 (sz : Int), .slice none 0 0, .slice (some ⟨g8, 0, none⟩) nn nn]) ∧ (b 10 = true → (m10_ : Value) = .pointer (some ⟨g10, 0, none⟩)) ∧ (b 11 = true → (m11_ : Value) = .pointer (some ⟨g10, 0, none⟩))) HT_.out HW_.out (by kernel_rfl) (by kernel_rfl) ?_ ?_ ?_
    ·exact ⟨0, 0, .bool false, .bool false, .bool false, .bool false, by simp only [putSel, Bool.false_eq_true, if_false], BW.out, fun h_ => absurd h_ (by decide), fun h_ => absurd h_ (by decide), fun h_ => absurd h_ (by decide), fun h_ => absurd h_ (by decide), fun h_ => absurd h_ (by decide), fun h_ => absurd h_ (by decide), fun h_ => absurd h_ (by decide)⟩
    ·skip
     clear BW
     refine steps_cons ?_ ?_
     ·rintro b a w' ⟨g8, g10, m8_, m9_, m10_, m11_, ha, Q_BW, Q_R8, Q_R10, Q_N8_10, Q_X8_, Q_X9_, Q_X10_, Q_X11_⟩ hb_ hon hoff
      refine ⟨_, rfl, fun K hK => ?_⟩
      have e2 : a.tmps[2]? = some (.pointer (some ⟨gk1, 0, none⟩)) := by rw [ha]; exact (putSel_off rfl).trans rfl
      replace ha := Zd.mk ha
      have BW := Zd.mk Q_BW
      have y0_ := pb_ BW.out zk0
      have y1_ := pb_ BW.out zk1
      have y2_ := pb_ BW.out zk2
      refine value_ (w1 := w') (v := .agg #[.slice A0 ls.length c0, .slice A1 ss.length c1, .slice A2 nxs.length c2]) (by rfl) rfl ?_ ?_
      ·go_simp
       (try simp only [i64_w])
       try rfl
      refine hK.out _ _ ⟨g8, g10, m8_, m9_, m10_, m11_, (by rw [ha.out]; exact putSel_upk 0 hb_ rfl rfl rfl), Q_BW, Q_R8, fun h0_ => no_ (hoff 10 (by kernel_rfl)) h0_, fun _ h1_ => no_ (hoff 10 (by kernel_rfl)) h1_, Q_X8_, fun h0_ => no_ (hoff 9 (by kernel_rfl)) h0_, fun h0_ => no_ (hoff 10 (by kernel_rfl)) h0_, fun h0_ => no_ (hoff 11 (by kernel_rfl)) h0_⟩
     refine steps_cons ?_ ?_
     ·rintro b a w' ⟨g8, g10, m8_, m9_, m10_, m11_, ha, Q_BW, Q_R8, Q_R10, Q_N8_10, Q_X8_, Q_X9_, Q_X10_, Q_X11_⟩ hb_ hon hoff
      refine ⟨_, rfl, fun K hK => ?_⟩
      have e3 : a.tmps[3]? = some (.pointer (some ⟨gf, 0, none⟩)) := by rw [ha]; exact (putSel_off rfl).trans rfl
      replace ha := Zd.mk ha
      have BW := Zd.mk Q_BW
      have y0_ := pb_ BW.out zf0
      have y1_ := pb_ BW.out zf1
      have y2_ := pb_ BW.out zf2
      refine value_ (w1 := w') (v := .agg #[.int .i64 s.f0, .int .i64 s.f1, .slice A5 s.f2.length c5]) (by rfl) rfl ?_ ?_
      ·go_simp
       (try simp only [i64_w])
       try rfl
      refine hK.out _ _ ⟨g8, g10, m8_, m9_, m10_, m11_, (by rw [ha.out]; exact putSel_upk 1 hb_ rfl rfl rfl), Q_BW, Q_R8, fun h0_ => no_ (hoff 10 (by kernel_rfl)) h0_, fun _ h1_ => no_ (hoff 10 (by kernel_rfl)) h1_, Q_X8_, fun h0_ => no_ (hoff 9 (by kernel_rfl)) h0_, fun h0_ => no_ (hoff 10 (by kernel_rfl)) h0_, fun h0_ => no_ (hoff 11 (by kernel_rfl)) h0_⟩
     refine steps_cons ?_ ?_
     ·rintro b a w' ⟨g8, g10, m8_, m9_, m10_, m11_, ha, Q_BW, Q_R8, Q_R10, Q_N8_10, Q_X8_, Q_X9_, Q_X10_, Q_X11_⟩ hb_ hon hoff
      refine ⟨_, rfl, fun K hK => ?_⟩
      have e8 : a.tmps[8]? = some (.int .i64 (sz : Int)) := by rw [ha]; exact (putSel_off rfl).trans rfl
      replace ha := Zd.mk ha
      have BW := Zd.mk Q_BW
      refine value_ (w1 := w') (v := .int .i64 (sz : Int)) (by rfl) rfl ?_ ?_
      ·go_simp
       (try simp only [i64_w])
       try rfl
      refine hK.out _ _ ⟨g8, g10, m8_, m9_, m10_, m11_, (by rw [ha.out]; exact putSel_upk 2 hb_ rfl rfl rfl), Q_BW, Q_R8, fun h0_ => no_ (hoff 10 (by kernel_rfl)) h0_, fun _ h1_ => no_ (hoff 10 (by kernel_rfl)) h1_, Q_X8_, fun h0_ => no_ (hoff 9 (by kernel_rfl)) h0_, fun h0_ => no_ (hoff 10 (by kernel_rfl)) h0_, fun h0_ => no_ (hoff 11 (by kernel_rfl)) h0_⟩
     refine steps_cons ?_ ?_
     ·rintro b a w' ⟨g8, g10, m8_, m9_, m10_, m11_, ha, Q_BW, Q_R8, Q_R10, Q_N8_10, Q_X8_, Q_X9_, Q_X10_, Q_X11_⟩ hb_ hon hoff
      refine ⟨_, rfl, fun K hK => ?_⟩
      have e8 : a.tmps[8]? = some (.int .i64 (sz : Int)) := by rw [ha]; exact (putSel_off rfl).trans rfl
      replace ha := Zd.mk ha
      have BW := Zd.mk Q_BW
      refine value_ (w1 := w') (v := .int .i64 (sz : Int)) (by rfl) rfl ?_ ?_
      ·go_simp
       (try simp only [i64_w])
       try rfl
      refine hK.out _ _ ⟨g8, g10, m8_, m9_, m10_, m11_, (by rw [ha.out]; exact putSel_upk 3 hb_ rfl rfl rfl), Q_BW, fun h0_ => no_ (hoff 8 (by kernel_rfl)) h0_, fun h0_ => no_ (hoff 10 (by kernel_rfl)) h0_, fun h0_ _ => no_ (hoff 8 (by kernel_rfl)) h0_, fun h0_ => no_ (hoff 8 (by kernel_rfl)) h0_, fun h0_ => no_ (hoff 9 (by kernel_rfl)) h0_, fun h0_ => no_ (hoff 10 (by kernel_rfl)) h0_, fun h0_ => no_ (hoff 11 (by kernel_rfl)) h0_⟩
     refine steps_cons ?_ ?_
     ·rintro b a w' ⟨g8, g10, m8_, m9_, m10_, m11_, ha, Q_BW, Q_R8, Q_R10, Q_N8_10, Q_X8_, Q_X9_, Q_X10_, Q_X11_⟩ hb_ hon hoff
      refine ⟨_, rfl, fun K hK => ?_⟩
      have e2 : a.tmps[2]? = some (.pointer (some ⟨gk1, 0, none⟩)) := by rw [ha]; exact (putSel_off rfl).trans rfl
      replace ha := Zd.mk ha
      have BW := Zd.mk Q_BW
      refine value_ (w1 := w') (v := .pointer (some ⟨gk1, 0, none⟩)) (by rfl) rfl ?_ ?_
      ·go_simp
       (try simp only [i64_w])
       try rfl
      refine hK.out _ _ ⟨g8, g10, m8_, m9_, m10_, m11_, (by rw [ha.out]; exact putSel_upk 4 hb_ rfl rfl rfl), Q_BW, fun h0_ => no_ (hoff 8 (by kernel_rfl)) h0_, fun h0_ => no_ (hoff 10 (by kernel_rfl)) h0_, fun h0_ _ => no_ (hoff 8 (by kernel_rfl)) h0_, fun h0_ => no_ (hoff 8 (by kernel_rfl)) h0_, fun h0_ => no_ (hoff 9 (by kernel_rfl)) h0_, fun h0_ => no_ (hoff 10 (by kernel_rfl)) h0_, fun h0_ => no_ (hoff 11 (by kernel_rfl)) h0_⟩
     refine steps_cons ?_ ?_
     ·rintro b a w' ⟨g8, g10, m8_, m9_, m10_, m11_, ha, Q_BW, Q_R8, Q_R10, Q_N8_10, Q_X8_, Q_X9_, Q_X10_, Q_X11_⟩ hb_ hon hoff
      refine ⟨_, rfl, fun K hK => ?_⟩
      have e38 : a.tmps[38]? = some (.pointer (some ⟨gk1, 0, none⟩)) := by rw [ha]; exact putSel_on (e := (4, 38, .pointer (some ⟨gk1, 0, none⟩))) 4 rfl rfl (hon 4 (by kernel_rfl)) rfl
      replace ha := Zd.mk ha
      have BW := Zd.mk Q_BW
      have y0_ := pb_ BW.out zk0
      refine value_ (w1 := w') (v := .slice A0 ls.length c0) (by rfl) rfl ?_ ?_
      ·go_simp
       (try simp only [i64_w])
       try rfl
      refine hK.out _ _ ⟨g8, g10, m8_, m9_, m10_, m11_, (by rw [ha.out]; exact putSel_upk 5 hb_ rfl rfl rfl), Q_BW, fun h0_ => no_ (hoff 8 (by kernel_rfl)) h0_, fun h0_ => no_ (hoff 10 (by kernel_rfl)) h0_, fun h0_ _ => no_ (hoff 8 (by kernel_rfl)) h0_, fun h0_ => no_ (hoff 8 (by kernel_rfl)) h0_, fun h0_ => no_ (hoff 9 (by kernel_rfl)) h0_, fun h0_ => no_ (hoff 10 (by kernel_rfl)) h0_, fun h0_ => no_ (hoff 11 (by kernel_rfl)) h0_⟩
     refine steps_cons ?_ ?_
     ·rintro b a w' ⟨g8, g10, m8_, m9_, m10_, m11_, ha, Q_BW, Q_R8, Q_R10, Q_N8_10, Q_X8_, Q_X9_, Q_X10_, Q_X11_⟩ hb_ hon hoff
      refine ⟨_, rfl, fun K hK => ?_⟩
      have e39 : a.tmps[39]? = some (.slice A0 ls.length c0) := by rw [ha]; exact putSel_on (e := (5, 39, .slice A0 ls.length c0)) 5 rfl rfl (hon 5 (by kernel_rfl)) rfl
      replace ha := Zd.mk ha
      have BW := Zd.mk Q_BW
      refine value_ (w1 := w') (v := .int .i64 (ls.length : Int)) (by rfl) rfl ?_ ?_
      ·go_simp
       (try simp only [i64_w])
       try rfl
      refine hK.out _ _ ⟨g8, g10, m8_, m9_, m10_, m11_, (by rw [ha.out]; exact putSel_upk 6 hb_ rfl rfl rfl), Q_BW, fun h0_ => no_ (hoff 8 (by kernel_rfl)) h0_, fun h0_ => no_ (hoff 10 (by kernel_rfl)) h0_, fun h0_ _ => no_ (hoff 8 (by kernel_rfl)) h0_, fun h0_ => no_ (hoff 8 (by kernel_rfl)) h0_, fun h0_ => no_ (hoff 9 (by kernel_rfl)) h0_, fun h0_ => no_ (hoff 10 (by kernel_rfl)) h0_, fun h0_ => no_ (hoff 11 (by kernel_rfl)) h0_⟩
     refine steps_cons ?_ ?_
     ·rintro b a w' ⟨g8, g10, m8_, m9_, m10_, m11_, ha, Q_BW, Q_R8, Q_R10, Q_N8_10, Q_X8_, Q_X9_, Q_X10_, Q_X11_⟩ hb_ hon hoff
      refine ⟨_, rfl, fun K hK => ?_⟩
      have e37 : a.tmps[37]? = some (.int .i64 (sz : Int)) := by rw [ha]; exact putSel_on (e := (3, 37, .int .i64 (sz : Int))) 3 rfl rfl (hon 3 (by kernel_rfl)) rfl
      have e40 : a.tmps[40]? = some (.int .i64 (ls.length : Int)) := by rw [ha]; exact putSel_on (e := (6, 40, .int .i64 (ls.length : Int))) 6 rfl rfl (hon 6 (by kernel_rfl)) rfl
      replace ha := Zd.mk ha
      have BW := Zd.mk Q_BW
      refine value_ (w1 := w') (v := .int .i64 (nn : Int)) (by rfl) rfl ?_ ?_
      ·go_simp
       (try simp only [i64_w])
       try rfl
      refine hK.out _ _ ⟨g8, g10, m8_, m9_, m10_, m11_, (by rw [ha.out]; exact putSel_upk 7 hb_ rfl rfl rfl), Q_BW, fun h0_ => no_ (hoff 8 (by kernel_rfl)) h0_, fun h0_ => no_ (hoff 10 (by kernel_rfl)) h0_, fun h0_ _ => no_ (hoff 8 (by kernel_rfl)) h0_, fun h0_ => no_ (hoff 8 (by kernel_rfl)) h0_, fun h0_ => no_ (hoff 9 (by kernel_rfl)) h0_, fun h0_ => no_ (hoff 10 (by kernel_rfl)) h0_, fun h0_ => no_ (hoff 11 (by kernel_rfl)) h0_⟩
     refine steps_cons ?_ ?_
     ·rintro b a w' ⟨g8, g10, m8_, m9_, m10_, m11_, ha, Q_BW, Q_R8, Q_R10, Q_N8_10, Q_X8_, Q_X9_, Q_X10_, Q_X11_⟩ hb_ hon hoff
      refine ⟨_, rfl, fun K hK => ?_⟩
      have e41 : a.tmps[41]? = some (.int .i64 (nn : Int)) := by rw [ha]; exact putSel_on (e := (7, 41, .int .i64 (nn : Int))) 7 rfl rfl (hon 7 (by kernel_rfl)) rfl
      replace ha := Zd.mk ha
      have BW := Zd.mk Q_BW
      refine value_ (w1 := w'.alloc (.cells ⟨List.replicate nn (Value.slice none 0 0)⟩ 23)) (v := .slice (some ⟨w'.heap.size, 0, none⟩) nn nn) (by rfl) rfl ?_ ?_
      ·(go_simp; try rfl)
      refine hK.out _ _ ⟨w'.heap.size, g10, (.slice (some ⟨w'.heap.size, 0, none⟩) nn nn), m9_, m10_, m11_, (by rw [ha.out]; exact putSel_upk 8 hb_ rfl rfl rfl), below_alloc BW.out _, fun _ => Lay.new BW.out _ _, fun h0_ => no_ (hoff 10 (by kernel_rfl)) h0_, fun _ h1_ => no_ (hoff 10 (by kernel_rfl)) h1_, fun _ => rfl, fun h0_ => no_ (hoff 9 (by kernel_rfl)) h0_, fun h0_ => no_ (hoff 10 (by kernel_rfl)) h0_, fun h0_ => no_ (hoff 11 (by kernel_rfl)) h0_⟩
     refine steps_cons ?_ ?_
     ·rintro b a w' ⟨g8, g10, m8_, m9_, m10_, m11_, ha, Q_BW, Q_R8, Q_R10, Q_N8_10, Q_X8_, Q_X9_, Q_X10_, Q_X11_⟩ hb_ hon hoff
      refine ⟨_, rfl, fun K hK => ?_⟩
      have e34 : a.tmps[34]? = some (.agg #[.slice A0 ls.length c0, .slice A1 ss.length c1, .slice A2 nxs.length c2]) := by rw [ha]; exact putSel_on (e := (0, 34, .agg #[.slice A0 ls.length c0, .slice A1 ss.length c1, .slice A2 nxs.length c2])) 0 rfl rfl (hon 0 (by kernel_rfl)) rfl
      have e35 : a.tmps[35]? = some (.agg #[.int .i64 s.f0, .int .i64 s.f1, .slice A5 s.f2.length c5]) := by rw [ha]; exact putSel_on (e := (1, 35, .agg #[.int .i64 s.f0, .int .i64 s.f1, .slice A5 s.f2.length c5])) 1 rfl rfl (hon 1 (by kernel_rfl)) rfl
      have e36 : a.tmps[36]? = some (.int .i64 (sz : Int)) := by rw [ha]; exact putSel_on (e := (2, 36, .int .i64 (sz : Int))) 2 rfl rfl (hon 2 (by kernel_rfl)) rfl
      have e42 : a.tmps[42]? = some (m8_) := by rw [ha]; exact putSel_on (e := (8, 42, m8_)) 8 rfl rfl (hon 8 (by kernel_rfl)) rfl
      rw [Q_X8_ (hon 8 (by kernel_rfl))] at e42
      replace ha := Zd.mk ha
      have BW := Zd.mk Q_BW
      have R8 := Zd.mk (Q_R8 (hon 8 (by kernel_rfl)))
      refine value_ (w1 := w') (v := .agg #[.slice A0 ls.length c0, .slice A1 ss.length c1, .slice A2 nxs.length c2, .int .i64 s.f0, .int .i64 s.f1, .slice A5 s.f2.length c5, .int .i64 (sz : Int), .slice none 0 0, .slice (some ⟨g8, 0, none⟩) nn nn]) (by rfl) rfl ?_ ?_
      ·go_simp
       (try simp only [i64_w])
       try rfl
      refine hK.out _ _ ⟨g8, g10, m8_, (.agg #[.slice A0 ls.length c0, .slice A1 ss.length c1, .slice A2 nxs.length c2, .int .i64 s.f0, .int .i64 s.f1, .slice A5 s.f2.length c5, .int .i64 (sz : Int), .slice none 0 0, .slice (some ⟨g8, 0, none⟩) nn nn]), m10_, m11_, (by rw [ha.out]; exact putSel_upk 9 hb_ rfl rfl rfl), Q_BW, Q_R8, fun h0_ => no_ (hoff 10 (by kernel_rfl)) h0_, fun _ h1_ => no_ (hoff 10 (by kernel_rfl)) h1_, Q_X8_, fun _ => rfl, fun h0_ => no_ (hoff 10 (by kernel_rfl)) h0_, fun h0_ => no_ (hoff 11 (by kernel_rfl)) h0_⟩
     refine steps_cons ?_ ?_
     ·rintro b a w' ⟨g8, g10, m8_, m9_, m10_, m11_, ha, Q_BW, Q_R8, Q_R10, Q_N8_10, Q_X8_, Q_X9_, Q_X10_, Q_X11_⟩ hb_ hon hoff
      refine ⟨_, rfl, fun K hK => ?_⟩
      have e43 : a.tmps[43]? = some (m9_) := by rw [ha]; exact putSel_on (e := (9, 43, m9_)) 9 rfl rfl (hon 9 (by kernel_rfl)) rfl
      rw [Q_X9_ (hon 9 (by kernel_rfl))] at e43
      replace ha := Zd.mk ha
      have BW := Zd.mk Q_BW
      have R8 := Zd.mk (Q_R8 (hon 8 (by kernel_rfl)))
      refine value_ (w1 := w'.alloc (.cells #[.slice A0 ls.length c0, .slice A1 ss.length c1, .slice A2 nxs.length c2, .int .i64 s.f0, .int .i64 s.f1, .slice A5 s.f2.length c5, .int .i64 (sz : Int), .slice none 0 0, .slice (some ⟨g8, 0, none⟩) nn nn] 79)) (v := .pointer (some ⟨w'.heap.size, 0, none⟩)) (by rfl) rfl ?_ ?_
      ·(go_simp; try rfl)
      refine hK.out _ _ ⟨g8, w'.heap.size, m8_, m9_, (.pointer (some ⟨w'.heap.size, 0, none⟩)), m11_, (by rw [ha.out]; exact putSel_upk 10 hb_ rfl rfl rfl), below_alloc BW.out _, fun _ => R8.out.alloc _, fun _ => Lay.new BW.out _ _, fun h_ _ => (Q_R8 h_).ne_new.symm, Q_X8_, Q_X9_, fun _ => rfl, fun h0_ => no_ (hoff 11 (by kernel_rfl)) h0_⟩
     refine steps_cons ?_ ?_
     ·rintro b a w' ⟨g8, g10, m8_, m9_, m10_, m11_, ha, Q_BW, Q_R8, Q_R10, Q_N8_10, Q_X8_, Q_X9_, Q_X10_, Q_X11_⟩ hb_ hon hoff
      refine ⟨_, rfl, fun K hK => ?_⟩
      have e44 : a.tmps[44]? = some (m10_) := by rw [ha]; exact putSel_on (e := (10, 44, m10_)) 10 rfl rfl (hon 10 (by kernel_rfl)) rfl
      rw [Q_X10_ (hon 10 (by kernel_rfl))] at e44
      replace ha := Zd.mk ha
      have BW := Zd.mk Q_BW
      have R8 := Zd.mk (Q_R8 (hon 8 (by kernel_rfl)))
      have R10 := Zd.mk (Q_R10 (hon 10 (by kernel_rfl)))
      have N8_10 := Zd.mk (Q_N8_10 (hon 8 (by kernel_rfl)) (hon 10 (by kernel_rfl)))
      refine value_ (w1 := w') (v := .pointer (some ⟨g10, 0, none⟩)) (by rfl) rfl ?_ ?_
      ·go_simp
       (try simp only [i64_w])
       try rfl
      refine hK.out _ _ ⟨g8, g10, m8_, m9_, m10_, (.pointer (some ⟨g10, 0, none⟩)), (by rw [ha.out]; exact putSel_upk 11 hb_ rfl rfl rfl), Q_BW, Q_R8, Q_R10, Q_N8_10, Q_X8_, Q_X9_, Q_X10_, fun _ => rfl⟩
     exact steps_nil
    ·rintro b a w' hall ⟨g8, g10, m8_, m9_, m10_, m11_, ha, Q_BW, Q_R8, Q_R10, Q_N8_10, Q_X8_, Q_X9_, Q_X10_, Q_X11_⟩
     clear BW
     have hb0_ := hall 0 (by kernel_rfl)
     have hb1_ := hall 1 (by kernel_rfl)
     have hb2_ := hall 2 (by kernel_rfl)
     have hb3_ := hall 3 (by kernel_rfl)
     have hb4_ := hall 4 (by kernel_rfl)
     have hb5_ := hall 5 (by kernel_rfl)
     have hb6_ := hall 6 (by kernel_rfl)
     have hb7_ := hall 7 (by kernel_rfl)
     have hb8_ := hall 8 (by kernel_rfl)
     have hb9_ := hall 9 (by kernel_rfl)
     have hb10_ := hall 10 (by kernel_rfl)
     have hb11_ := hall 11 (by kernel_rfl)
     subst ha
     obtain rfl := Q_X8_ hb8_
     obtain rfl := Q_X9_ hb9_
     obtain rfl := Q_X10_ hb10_
     obtain rfl := Q_X11_ hb11_
     simp only [putSel, hb0_, hb1_, hb2_, hb3_, hb4_, hb5_, hb6_, hb7_, hb8_, hb9_, hb10_, hb11_, if_true, Act.put, List.setIfInBounds_toArray, List.set_cons_zero, List.set_cons_succ]
     have BW := Zd.mk Q_BW
     clear Q_BW
     have R8 := Zd.mk (Q_R8 hb8_)
     clear Q_R8
     have R10 := Zd.mk (Q_R10 hb10_)
     clear Q_R10
     have N8_10 := Zd.mk (Q_N8_10 hb8_ hb10_)
     clear Q_N8_10
     clear hall hb0_ hb1_ hb2_ hb3_ hb4_ hb5_ hb6_ hb7_ hb8_ hb9_ hb10_ hb11_
     obtain ⟨W5, rfl⟩ : ∃ W : World, W = w' := ⟨_, rfl⟩
     obtain ⟨ga, rfl⟩ : ∃ k : Nat, k = g8 := ⟨_, rfl⟩
     obtain ⟨g, rfl⟩ : ∃ k : Nat, k = g10 := ⟨_, rfl⟩
     have HGA5 := Zd.mk (rows_laid (ok := fun k => k = ga) R8.out (by omega) rfl)
     have HBG5 : Zd (W5.heap[g]? = some (.cells (newCells ls ss nxs s sz A0 A1 A2 A5 c0 c1 c2 c5 ga nn (.slice none 0 0)) 79 (0, 0))) := ⟨R10.out.2⟩
     have HNE := Zd.mk N8_10.out
     have HG4 := Zd.mk R10.out.1
     have HA4 := Zd.mk R8.out.1
     have HG5 := Zd.mk (blk_lt R10.out.2)
     have HA5 := Zd.mk (blk_lt R8.out.2)
     have yf0 := pb_ BW.out zf0
     have yf1 := pb_ BW.out zf1
     have yf2 := pb_ BW.out zf2
     have HB5 := Zd.mk BW.out
     have ZK0 := Zd.mk zk0
     have HPD := Zd.mk (show newPD ls ss nxs s = ⟨ls, ss.map Int.toNat, nxs.map (fun l => l.map Int.toNat), s, sz, partsOf (timesS s) 0, stageL (partsOf (timesS s) 0) ls sz nn ls.length 0⟩ from by rw [HNN.out, HSZ0.out]; rfl)
     have HTM := Zd.mk (HSUB.out e2)
     have HPBT := Zd.mk (HPB.out e2)
     have HPDO := Zd.mk (HMZ.out e2 (HGOK.out e1))
     have HGO := Zd.mk (HGOK.out e1)
     have HTL := Zd.mk (len_times s)
     have HTL8 : Zd (tnS s ≤ 8) := ⟨h8⟩
     have hT : TimesS s = timesS s := by rw [HTS.out, if_pos e2]
     rw [hT] at HKT
     clear R8 R10 N8_10 zk0 zk1 zk2 zf0 zf1 zf2 hmk hmul BW hT HTS HERR HSUB HPB HMZ HZ HMF HSS HGOK h8
     generalize timesS s = T at *
     have HTN := Zd.mk (show T.length ≤ 8 from by rw [HTL.out]; exact HTL8.out)
     have hT8 := HTN.out
     go_wp2_with (go_at_call 43; refine (formula_Times.calls kt s.f0 s.f1 A5 c5 s.f2 T _ (Kd.C_below H5.out (HB24.out.trans (HB5.out.mono HB24.out.size))) l5 HKT.out).mono ?_; rintro e w6 ⟨v6, rfl, hN6, hB6⟩; obtain ⟨A6, c6, e6⟩ := Kd.N_slice hN6; subst e6; have HN6 := Zd.mk hN6; have HB6 := Zd.mk hB6; clear hN6 hB6)
     obtain ⟨W6, rfl⟩ : ∃ W : World, W = w6 := ⟨_, rfl⟩
     have HF6 := Zd.mk (Kd.F_bound (Kd.N_F HN6.out))
     have HW5 := Zd.mk HB6.out.size
     have HG6 := Zd.mk (Nat.lt_of_lt_of_le HG5.out HB6.out.size)
     go_loopg [48] T.length (fun kq v48 w' => ∃ (i : Nat) (v7 : Value), i + kq = T.length ∧ v48 = .int .i64 (i : Int) ∧ Zd (Below W4.heap.size W4 w') ∧ Zd (w'.heap[g]? = some (.cells (newCells ls ss nxs s sz A0 A1 A2 A5 c0 c1 c2 c5 ga nn v7) 79 (0, 0))) ∧ Zd (Kd.N k81 81 w' W4.heap.size (fun k => W5.heap.size ≤ k) v7 (partsOf (T.take i) 0)) ∧ Zd (∀ k, v7.ownBlock = some k → W6.heap.size ≤ k) ∧ Zd (Kept W6 w' (fun k => k = g)))
     case atStart => exact ⟨0, .slice none 0 0, by omega, rfl, ⟨HB5.out.trans (HB6.out.mono HB5.out.size)⟩, ⟨(HB6.out.block _ HG5.out).trans HBG5.out⟩, ⟨Kd.N_nil _ _ _ _ _⟩, ⟨fun k hk => by cases hk⟩, ⟨Kept.refl _ _⟩⟩
     case round =>
      obtain ⟨i, v7, hi, rfl, HBW0, HBK0, HN0, HV7, HKP0⟩ := hrel
      obtain ⟨WW, rfl⟩ : ∃ W : World, W = wr := ⟨_, rfl⟩
      have HI := Zd.mk hi
      clear hi
      by_cases hil : i < T.length
      ·have hFw := Kd.F_kept HF6.out HKP0.out (by rintro k ⟨h1, _⟩ e; have := HG5.out; omega)
       have hgt : T.getD i z29 = T[i]'hil := by rw [List.getD_eq_getElem?_getD, List.getElem?_eq_getElem hil]; rfl
       have HTK := Zd.mk (hgt ▸ partsOf_take hil)
       have HMT := Zd.mk (hgt ▸ HTM.out _ (List.getElem_mem hil))
       clear hgt
       have hpl : (partsOf (T.take i) 0).length ≤ 8 := by rw [len_partsOf, List.length_take]; have := HTN.out; omega
       have HPL := Zd.mk hpl
       obtain ⟨pl, hple⟩ : ∃ l, l = partsOf (T.take i) 0 := ⟨_, rfl⟩
       rw [← hple] at HN0 HPL HTK
       have hil2 : (i : Int) < (T.length : Int) := by omega
       clear hpl hple
       by_cases h6 : (T.getD i z29).f0 = 6
       ·have hkd : 0 < (T.getD i z29).f2.length := by
         have hp := (sound_parts (may_zero HMT.out).2.2.2).2.1
         rw [h6] at hp
         have h9 : kidsS 6 = 1 := by decide
         omega
        have hhd : headT (T.getD i z29) = (T.getD i z29).f2.getD 0 z29 := by unfold headT; rw [if_pos h6]
        have hmh : mayF ((T.getD i z29).f2.getD 0 z29) = 0 := hhd ▸ head_may HMT.out
        have HSEC := Zd.mk (show secOf (T.getD i z29) i = ⟨(T.getD i z29).f2.getD 0 z29, ((i + 1 : Nat) : Int), ((2 ^ tnS ((T.getD i z29).f2.getD 0 z29) : Nat) : Int)⟩ from by unfold secOf; rw [hhd, if_pos h6])
        obtain ⟨ad, A3, c3, e, hc3, hF3, d0, d1, d2⟩ := kidF_at hFw hil
        subst e
        obtain ⟨ad3, Ah, ch, e, hch, hFh, q0, q1, q2⟩ := kidF_at hF3 hkd
        subst e
        rw [Nat.zero_mul, show ad3.add 0 = ad3 from rfl] at q0 q1 q2
        clear hhd hFw hF3
        obtain ⟨kq, hkq⟩ := (Size_ev ((T.getD i z29).f2.getD 0 z29)).rounds
        have hsq : sizeS ((T.getD i z29).f2.getD 0 z29) = ((2 ^ tnS ((T.getD i z29).f2.getD 0 z29) : Nat) : Int) := by unfold sizeS; rw [if_pos hmh, Int.natCast_pow]; rfl
        rw [hsq] at hkq
        generalize ((2 ^ tnS ((T.getD i z29).f2.getD 0 z29) : Nat) : Int) = sq at *
        generalize (T.getD i z29).f2.getD 0 z29 = h at *
        generalize T.getD i z29 = tt at *
        have HKQ := Zd.mk hkq
        have HFh := Zd.mk hFh
        have h6b : (tt.f0 == 6) = true := by simpa using h6
        have hkd2 : (0 : Int) < (tt.f2.length : Int) := by omega
        have qa0 : ∀ o : Obj, (WW.alloc o).cell? ad3 = some (.int .i64 h.f0) := fun o => pb_ (below_alloc (Below.refl _ _) o) q0
        have qa1 : ∀ o : Obj, (WW.alloc o).cell? ⟨ad3.block, ad3.off + 1, none⟩ = some (.int .i64 h.f1) := fun o => pb_ (below_alloc (Below.refl _ _) o) q1
        have qa2 : ∀ o : Obj, (WW.alloc o).cell? ⟨ad3.block, ad3.off + 2, none⟩ = some (.slice Ah h.f2.length ch) := fun o => pb_ (below_alloc (Below.refl _ _) o) q2
        obtain ⟨i1, hi1⟩ : ∃ k : Nat, k = i + 1 := ⟨_, rfl⟩
        rw [← hi1] at HSEC
        clear hsq hkq hFh hmh
        go_upto_region 16 with fail
        try rw [show wrap64 ((i : Int) + 1) = (i1 : Int) from by rw [hi1]; exact w64 (by omega) (by omega)]
        try rw [show (i : Int) + 1 = (i1 : Int) from by rw [hi1]; rfl]
        clear d0 d1 d2 q0 q1 q2 qa0 qa1 qa2 hi1
        obtain ⟨gb, hgb⟩ : ∃ k, k = WW.heap.size := ⟨_, rfl⟩
        obtain ⟨WB, hWB⟩ : ∃ W : World, W = WW.alloc (.cells #[.int .i64 h.f0, .int .i64 h.f1, .slice Ah h.f2.length ch] 29) := ⟨_, rfl⟩
        have hBB : Below WW.heap.size WW WB := by rw [hWB]; exact below_alloc (Below.refl _ _) _
        have hbb : WB.heap[WW.heap.size]? = some (.cells #[.int .i64 h.f0, .int .i64 h.f1, .slice Ah h.f2.length ch] 29 (0, 0)) := by rw [hWB]; exact heap_alloc_new WW _
        rw [← hWB]
        rw [← hgb] at hbb ⊢
        have b0 : WB.cell? ⟨gb, 0, none⟩ = some (.int .i64 h.f0) := (bq_ hbb 0).trans rfl
        have b1 : WB.cell? ⟨gb, 1, none⟩ = some (.int .i64 h.f1) := (bq_ hbb 1).trans rfl
        have b2 : WB.cell? ⟨gb, 2, none⟩ = some (.slice Ah h.f2.length ch) := (bq_ hbb 2).trans rfl
        have HNB := Zd.mk (Kd.N_below HN0.out hBB)
        have HFB := Zd.mk (Kd.F_below HFh.out hBB)
        have HBK := Zd.mk ((hBB.block _ (blk_lt HBK0.out)).trans HBK0.out)
        have HBW := Zd.mk (HBW0.out.trans (hBB.mono HBW0.out.size))
        have HKP := Zd.mk (HKP0.out.below hBB)
        have HGL := HG6
        have HGB := Zd.mk (fun k (hk : v7.ownBlock = some k) => show k < gb from hgb ▸ Kd.N_lt HN0.out k hk)
        have HSZ := Zd.mk (fun W (hb : Below WB.heap.size WB W) => tableau_Size.calls kq h.f0 h.f1 Ah ch h.f2 sq W (Kd.F_now (Kd.F_below HFB.out hb)) hch HKQ.out)
        have k7 : WB.cell? ⟨g, 7, none⟩ = some v7 := (bq_ HBK.out 7).trans rfl
        clear hgb hWB hBB hbb HN0 HBK0 HBW0 HKP0 HFh
        refine start_ (n := 15) (S := fun w' => w'.cell? ⟨g, 7, none⟩ = some v7 ∧ w'.cell? ⟨gb, 0, none⟩ = some (.int .i64 h.f0) ∧ w'.cell? ⟨gb, 1, none⟩ = some (.int .i64 h.f1) ∧ w'.cell? ⟨gb, 2, none⟩ = some (.slice Ah h.f2.length ch)) (ds := [14]) Mk32_ (by kernel_rfl) rfl rfl ⟨k7, b0, b1, b2⟩ (fun hHeld => ?_)
        refine with_tabW snw.tab16 snw.bits16 (fun HT_ HW_ => ?_)
        refine pz HT_.out 0 (some 62) Mk33_ rfl rfl ?_
        refine pz HT_.out 1 (some 63) Mk34_ rfl rfl ?_
        refine pz HT_.out 2 (some 64) Mk35_ rfl rfl ?_
        refine pz HT_.out 3 (some 65) Mk169_ rfl rfl ?_
        refine pz HT_.out 6 (some 68) Mk170_ rfl rfl ?_
        refine tz HT_.out HW_.out 4 (some 66) Mk171_ rfl rfl hHeld ?_
        refine tz HT_.out HW_.out 5 (some 67) Mk172_ rfl rfl hHeld ?_
        refine tz HT_.out HW_.out 7 (some 69) Mk173_ rfl rfl hHeld ?_
        refine one_ (i := 8) (N := some 70) Mk174_ rfl rfl (one_of HT_.out (by kernel_rfl)) (by decide) (fun K hK => ?_)
        refine goes_ Try.func42 (by kernel_rfl) rfl #[.agg #[.int .i64 h.f0, .int .i64 h.f1, .slice Ah h.f2.length ch]] (by rfl) rfl rfl (by simp only [List.map_toArray, List.map_cons, List.map_nil]; rfl) ?_
        with_reducible refine (HSZ.out _ (show Below WB.heap.size WB WB.drew from below_drew1 (Below.refl _ _))).mono ?_
        rintro e_ w6 ⟨rfl, hB⟩
        have hB6 := (below_drew1 (Below.refl WB.heap.size WB)).trans hB
        have HN6 := Zd.mk (Kd.N_below HNB.out hB6)
        have HF6 := Zd.mk (Kd.F_below HFB.out hB6)
        have HBK6 := Zd.mk ((hB6.block _ (blk_lt HBK.out)).trans HBK.out)
        have HBW6 := Zd.mk (HBW.out.trans (hB6.mono HBW.out.size))
        have HKP6 := Zd.mk (HKP.out.below hB6)
        have hBA := below_alloc (Below.refl w6.heap.size w6) (.cells #[.int .i64 h.f0, .int .i64 h.f1, .slice Ah h.f2.length ch, .int .i64 (i1 : Int), .int .i64 sq] 81)
        have k7_ := pb_ hB6 k7
        have b0_ := pb_ hB6 b0
        have b1_ := pb_ hB6 b1
        have b2_ := pb_ hB6 b2
        have k7a_ := pb_ hBA k7_
        have b0a_ := pb_ hBA b0_
        have b1a_ := pb_ hBA b1_
        have b2a_ := pb_ hBA b2_
        clear hB hB6 hBA hHeld
        refine ⟨_, rfl, ?_⟩
        refine hK.out _ _ ⟨k7_, b0_, b1_, b2_⟩ (fun hHeld => ?_)
        clear hK K
        refine norm_ (a' := ?_) ?_ ?_
        rotate_left
        ·show Act.put _ (some 70) _ = _
         simp only [Act.put, List.setIfInBounds_toArray, List.set_cons_zero, List.set_cons_succ, i64_w, i32_w]
         rfl
        refine pz HT_.out 9 (some 71) Mk175_ rfl rfl ?_
        refine one_ (i := 10) (N := some 72) Mk43_ rfl rfl (one_of HT_.out (by kernel_rfl)) (by decide) (fun K hK => ?_)
        refine value_ (w1 := w6.alloc (.cells #[.int .i64 h.f0, .int .i64 h.f1, .slice Ah h.f2.length ch, .int .i64 (i1 : Int), .int .i64 sq] 81)) (v := .slice (some ⟨w6.heap.size, 0, none⟩) 1 1) (by rfl) rfl ?_ ?_
        ·(go_simp; try rfl)
        refine hK.out _ _ ⟨k7a_, b0a_, b1a_, b2a_⟩ (fun hHeld => ?_)
        clear hK K
        refine norm_ (a' := ?_) ?_ ?_
        rotate_left
        ·show Act.put _ (some 72) _ = _
         simp only [Act.put, List.setIfInBounds_toArray, List.set_cons_zero, List.set_cons_succ, i64_w, i32_w]
         rfl
        refine one_ (i := 11) (N := some 73) Mk44_ rfl rfl (one_of HT_.out (by kernel_rfl)) (by decide) (fun K hK => ?_)
        refine Kd.N_append_step k81 (w0 := W4) (W := w6) W4.heap.size (by rfl) (.tmp 66) (.tmp 72) 77 81 (.agg #[.int .i64 0, .int .i64 0, .slice none 0 0, .int .i64 0, .int .i64 0]) 56 rfl hupp infoPt rfl (by decide) (by decide) v7 pl ⟨h, (i1 : Int), sq⟩ [.int .i64 h.f0, .int .i64 h.f1, .slice Ah h.f2.length ch, .int .i64 (i1 : Int), .int .i64 sq] (fun k => W5.heap.size ≤ k) (fun k => W5.heap.size ≤ k ∧ k < W6.heap.size) rfl rfl (k81_mkF _ _ ⟨h, (i1 : Int), sq⟩ hch HF6.out) (fun k hk => ⟨hk.1, fun e => by have h2_ := hk.2; have := HV7.out k e.symm; omega⟩) (fun k hk => Nat.le_trans HW5.out (Nat.le_trans HKP6.out.1 hk)) HN6.out HBW6.out HBW6.out.size (by have := HPL.out; omega) ?_
        intro v7_ w7 ho hb hg hat
        obtain ⟨A7, c7, e7⟩ : ∃ A c, v7_ = .slice A (pl ++ [(⟨h, (i1 : Int), sq⟩ : S81)]).length c := Kd.N_slice ho
        obtain ⟨n7, e7n⟩ : ∃ n, n = (pl ++ [(⟨h, (i1 : Int), sq⟩ : S81)]).length := ⟨_, rfl⟩
        rw [← e7n] at e7
        subst e7
        have HN7 := Zd.mk ho
        have HB7 := Zd.mk hb
        have HG7 := Zd.mk hg
        have HT7 := Zd.mk hat
        have HE7 := Zd.mk e7n
        have k7b_ := hg.cell k7_ (fun e => by have h_ : W6.heap.size ≤ g := HV7.out g e.symm; have := HGL.out; omega)
        have b0b_ := hg.cell b0_ (fun e => absurd (HGB.out _ e.symm) (Nat.lt_irrefl _))
        have b1b_ := hg.cell b1_ (fun e => absurd (HGB.out _ e.symm) (Nat.lt_irrefl _))
        have b2b_ := hg.cell b2_ (fun e => absurd (HGB.out _ e.symm) (Nat.lt_irrefl _))
        have f7b_ := bz_ (bg_ HBK6.out hg (fun e => by have := HV7.out _ e.symm; have := HGL.out; omega)) 7
        clear ho hb hg hat hHeld e7n
        refine hK.out _ _ ⟨k7b_, b0b_, b1b_, b2b_⟩ (fun hHeld => ?_)
        clear hK K
        refine norm_ (a' := ?_) ?_ ?_
        rotate_left
        ·show Act.put _ (some 73) _ = _
         simp only [Act.put, List.setIfInBounds_toArray, List.set_cons_zero, List.set_cons_succ, i64_w, i32_w]
         rfl
        refine pz HT_.out 12 (some 74) Mk45_ rfl rfl ?_
        refine pz HT_.out 13 (some 75) Mk46_ rfl rfl ?_
        refine last_ (i := 14) (N := none) Mk47_ rfl rfl (one_of HT_.out (by kernel_rfl)) (by decide) (fun K hK => ?_)
        refine skip_ (w1 := w7.setCell ⟨g, 7, none⟩ (.slice A7 n7 c7)) (by rfl) rfl ?_ ?_
        ·(go_simp; try rfl)
        refine hK.out _ _ ?_
        clear hK K
        refine done_ (done_of HT_.out (by kernel_rfl)) ?_
        clear hHeld HT_ HW_
        obtain ⟨W8, hW8⟩ : ∃ W : World, W = w7.setCell ⟨g, 7, none⟩ (.slice A7 n7 c7) := ⟨_, rfl⟩
        rw [← hW8]
        have HW8 := Zd.mk hW8
        clear hW8 k7 b0 b1 b2
        go_wp2
        go_roundg (gk - 1)
        case measure => have := HI.out; omega
        case rel =>
         have hgne : ∀ k, v7.ownBlock = some k → k ≠ g := fun k hk e => by have := HV7.out k hk; have := HG6.out; omega
         have hbk := bg_ HBK6.out HG7.out (fun e => hgne _ e.symm rfl)
         refine ⟨i + 1, .slice A7 n7 c7, by have := HI.out; omega, by first | rfl | (congr 1; go_num; done), ⟨by rw [HW8.out]; exact HB7.out.setCell HG4.out _⟩, ⟨by rw [HW8.out, blk_set hbk 7 _]; rfl⟩, ⟨?_⟩, ⟨fun k hk => ?_⟩, ⟨?_⟩⟩
         ·rw [HTK.out, HSEC.out, HW8.out]
          exact Kd.N_far HN7.out (fun k hk e => by have := HG5.out; have e' : k = g := e; omega) _
         ·rcases HT7.out with e | ⟨b, e, hb⟩
          ·exact HV7.out k (e ▸ hk)
          ·rw [e] at hk
           cases hk
           exact Nat.le_trans HKP6.out.1 hb
         ·rw [HW8.out]
          exact (Kept.of_grown HG7.out HKP6.out (fun k hk => .inr (HV7.out k hk))).setCell (.inl rfl) _
       ·have hhd : headT (T.getD i z29) = T.getD i z29 := by unfold headT; rw [if_neg h6]
        have HSEC := Zd.mk (show secOf (T.getD i z29) i = ⟨T.getD i z29, (i : Int), ((2 ^ tnS (T.getD i z29) : Nat) : Int)⟩ from by unfold secOf; rw [hhd, if_neg h6]; rfl)
        obtain ⟨ad, Ah, ch, e, hch, hFh, b0, b1, b2⟩ := kidF_at hFw hil
        subst e
        clear hhd hFw
        obtain ⟨kq, hkq⟩ := (Size_ev (T.getD i z29)).rounds
        have hsq : sizeS (T.getD i z29) = ((2 ^ tnS (T.getD i z29) : Nat) : Int) := by unfold sizeS; rw [if_pos HMT.out, Int.natCast_pow]; rfl
        rw [hsq] at hkq
        generalize ((2 ^ tnS (T.getD i z29) : Nat) : Int) = sq at *
        generalize T.getD i z29 = h at *
        have HKQ := Zd.mk hkq
        have HFh := Zd.mk hFh
        clear hsq hkq hFh
        have h6b : (h.f0 == 6) = false := by simpa using h6
        obtain ⟨i1, rfl⟩ : ∃ k : Nat, k = i := ⟨_, rfl⟩
        go_upto_region 16 with fail
        clear b0 b1 b2
        obtain ⟨gb, hgb⟩ : ∃ k, k = WW.heap.size := ⟨_, rfl⟩
        obtain ⟨WB, hWB⟩ : ∃ W : World, W = WW.alloc (.cells #[.int .i64 h.f0, .int .i64 h.f1, .slice Ah h.f2.length ch] 29) := ⟨_, rfl⟩
        have hBB : Below WW.heap.size WW WB := by rw [hWB]; exact below_alloc (Below.refl _ _) _
        have hbb : WB.heap[WW.heap.size]? = some (.cells #[.int .i64 h.f0, .int .i64 h.f1, .slice Ah h.f2.length ch] 29 (0, 0)) := by rw [hWB]; exact heap_alloc_new WW _
        rw [← hWB]
        rw [← hgb] at hbb ⊢
        have b0 : WB.cell? ⟨gb, 0, none⟩ = some (.int .i64 h.f0) := (bq_ hbb 0).trans rfl
        have b1 : WB.cell? ⟨gb, 1, none⟩ = some (.int .i64 h.f1) := (bq_ hbb 1).trans rfl
        have b2 : WB.cell? ⟨gb, 2, none⟩ = some (.slice Ah h.f2.length ch) := (bq_ hbb 2).trans rfl
        have HNB := Zd.mk (Kd.N_below HN0.out hBB)
        have HFB := Zd.mk (Kd.F_below HFh.out hBB)
        have HBK := Zd.mk ((hBB.block _ (blk_lt HBK0.out)).trans HBK0.out)
        have HBW := Zd.mk (HBW0.out.trans (hBB.mono HBW0.out.size))
        have HKP := Zd.mk (HKP0.out.below hBB)
        have HGL := HG6
        have HGB := Zd.mk (fun k (hk : v7.ownBlock = some k) => show k < gb from hgb ▸ Kd.N_lt HN0.out k hk)
        have HSZ := Zd.mk (fun W (hb : Below WB.heap.size WB W) => tableau_Size.calls kq h.f0 h.f1 Ah ch h.f2 sq W (Kd.F_now (Kd.F_below HFB.out hb)) hch HKQ.out)
        have k7 : WB.cell? ⟨g, 7, none⟩ = some v7 := (bq_ HBK.out 7).trans rfl
        clear hgb hWB hBB hbb HN0 HBK0 HBW0 HKP0 HFh
        refine start_ (n := 15) (S := fun w' => w'.cell? ⟨g, 7, none⟩ = some v7 ∧ w'.cell? ⟨gb, 0, none⟩ = some (.int .i64 h.f0) ∧ w'.cell? ⟨gb, 1, none⟩ = some (.int .i64 h.f1) ∧ w'.cell? ⟨gb, 2, none⟩ = some (.slice Ah h.f2.length ch)) (ds := [14]) Mk32_ (by kernel_rfl) rfl rfl ⟨k7, b0, b1, b2⟩ (fun hHeld => ?_)
        refine with_tabW snw.tab16 snw.bits16 (fun HT_ HW_ => ?_)
        refine pz HT_.out 0 (some 62) Mk33_ rfl rfl ?_
        refine pz HT_.out 1 (some 63) Mk34_ rfl rfl ?_
        refine pz HT_.out 2 (some 64) Mk35_ rfl rfl ?_
        refine pz HT_.out 3 (some 65) Mk169_ rfl rfl ?_
        refine pz HT_.out 6 (some 68) Mk170_ rfl rfl ?_
        refine tz HT_.out HW_.out 4 (some 66) Mk171_ rfl rfl hHeld ?_
        refine tz HT_.out HW_.out 5 (some 67) Mk172_ rfl rfl hHeld ?_
        refine tz HT_.out HW_.out 7 (some 69) Mk173_ rfl rfl hHeld ?_
        refine one_ (i := 8) (N := some 70) Mk174_ rfl rfl (one_of HT_.out (by kernel_rfl)) (by decide) (fun K hK => ?_)
        refine goes_ Try.func42 (by kernel_rfl) rfl #[.agg #[.int .i64 h.f0, .int .i64 h.f1, .slice Ah h.f2.length ch]] (by rfl) rfl rfl (by simp only [List.map_toArray, List.map_cons, List.map_nil]; rfl) ?_
        with_reducible refine (HSZ.out _ (show Below WB.heap.size WB WB.drew from below_drew1 (Below.refl _ _))).mono ?_
        rintro e_ w6 ⟨rfl, hB⟩
        have hB6 := (below_drew1 (Below.refl WB.heap.size WB)).trans hB
        have HN6 := Zd.mk (Kd.N_below HNB.out hB6)
        have HF6 := Zd.mk (Kd.F_below HFB.out hB6)
        have HBK6 := Zd.mk ((hB6.block _ (blk_lt HBK.out)).trans HBK.out)
        have HBW6 := Zd.mk (HBW.out.trans (hB6.mono HBW.out.size))
        have HKP6 := Zd.mk (HKP.out.below hB6)
        have hBA := below_alloc (Below.refl w6.heap.size w6) (.cells #[.int .i64 h.f0, .int .i64 h.f1, .slice Ah h.f2.length ch, .int .i64 (i1 : Int), .int .i64 sq] 81)
        have k7_ := pb_ hB6 k7
        have b0_ := pb_ hB6 b0
        have b1_ := pb_ hB6 b1
        have b2_ := pb_ hB6 b2
        have k7a_ := pb_ hBA k7_
        have b0a_ := pb_ hBA b0_
        have b1a_ := pb_ hBA b1_
        have b2a_ := pb_ hBA b2_
        clear hB hB6 hBA hHeld
        refine ⟨_, rfl, ?_⟩
        refine hK.out _ _ ⟨k7_, b0_, b1_, b2_⟩ (fun hHeld => ?_)
        clear hK K
        refine norm_ (a' := ?_) ?_ ?_
        rotate_left
        ·show Act.put _ (some 70) _ = _
         simp only [Act.put, List.setIfInBounds_toArray, List.set_cons_zero, List.set_cons_succ, i64_w, i32_w]
         rfl
        refine pz HT_.out 9 (some 71) Mk175_ rfl rfl ?_
        refine one_ (i := 10) (N := some 72) Mk43_ rfl rfl (one_of HT_.out (by kernel_rfl)) (by decide) (fun K hK => ?_)
        refine value_ (w1 := w6.alloc (.cells #[.int .i64 h.f0, .int .i64 h.f1, .slice Ah h.f2.length ch, .int .i64 (i1 : Int), .int .i64 sq] 81)) (v := .slice (some ⟨w6.heap.size, 0, none⟩) 1 1) (by rfl) rfl ?_ ?_
        ·(go_simp; try rfl)
        refine hK.out _ _ ⟨k7a_, b0a_, b1a_, b2a_⟩ (fun hHeld => ?_)
        clear hK K
        refine norm_ (a' := ?_) ?_ ?_
        rotate_left
        ·show Act.put _ (some 72) _ = _
         simp only [Act.put, List.setIfInBounds_toArray, List.set_cons_zero, List.set_cons_succ, i64_w, i32_w]
         rfl
        refine one_ (i := 11) (N := some 73) Mk44_ rfl rfl (one_of HT_.out (by kernel_rfl)) (by decide) (fun K hK => ?_)
        refine Kd.N_append_step k81 (w0 := W4) (W := w6) W4.heap.size (by rfl) (.tmp 66) (.tmp 72) 77 81 (.agg #[.int .i64 0, .int .i64 0, .slice none 0 0, .int .i64 0, .int .i64 0]) 56 rfl hupp infoPt rfl (by decide) (by decide) v7 pl ⟨h, (i1 : Int), sq⟩ [.int .i64 h.f0, .int .i64 h.f1, .slice Ah h.f2.length ch, .int .i64 (i1 : Int), .int .i64 sq] (fun k => W5.heap.size ≤ k) (fun k => W5.heap.size ≤ k ∧ k < W6.heap.size) rfl rfl (k81_mkF _ _ ⟨h, (i1 : Int), sq⟩ hch HF6.out) (fun k hk => ⟨hk.1, fun e => by have h2_ := hk.2; have := HV7.out k e.symm; omega⟩) (fun k hk => Nat.le_trans HW5.out (Nat.le_trans HKP6.out.1 hk)) HN6.out HBW6.out HBW6.out.size (by have := HPL.out; omega) ?_
        intro v7_ w7 ho hb hg hat
        obtain ⟨A7, c7, e7⟩ : ∃ A c, v7_ = .slice A (pl ++ [(⟨h, (i1 : Int), sq⟩ : S81)]).length c := Kd.N_slice ho
        obtain ⟨n7, e7n⟩ : ∃ n, n = (pl ++ [(⟨h, (i1 : Int), sq⟩ : S81)]).length := ⟨_, rfl⟩
        rw [← e7n] at e7
        subst e7
        have HN7 := Zd.mk ho
        have HB7 := Zd.mk hb
        have HG7 := Zd.mk hg
        have HT7 := Zd.mk hat
        have HE7 := Zd.mk e7n
        have k7b_ := hg.cell k7_ (fun e => by have h_ : W6.heap.size ≤ g := HV7.out g e.symm; have := HGL.out; omega)
        have b0b_ := hg.cell b0_ (fun e => absurd (HGB.out _ e.symm) (Nat.lt_irrefl _))
        have b1b_ := hg.cell b1_ (fun e => absurd (HGB.out _ e.symm) (Nat.lt_irrefl _))
        have b2b_ := hg.cell b2_ (fun e => absurd (HGB.out _ e.symm) (Nat.lt_irrefl _))
        have f7b_ := bz_ (bg_ HBK6.out hg (fun e => by have := HV7.out _ e.symm; have := HGL.out; omega)) 7
        clear ho hb hg hat hHeld e7n
        refine hK.out _ _ ⟨k7b_, b0b_, b1b_, b2b_⟩ (fun hHeld => ?_)
        clear hK K
        refine norm_ (a' := ?_) ?_ ?_
        rotate_left
        ·show Act.put _ (some 73) _ = _
         simp only [Act.put, List.setIfInBounds_toArray, List.set_cons_zero, List.set_cons_succ, i64_w, i32_w]
         rfl
        refine pz HT_.out 12 (some 74) Mk45_ rfl rfl ?_
        refine pz HT_.out 13 (some 75) Mk46_ rfl rfl ?_
        refine last_ (i := 14) (N := none) Mk47_ rfl rfl (one_of HT_.out (by kernel_rfl)) (by decide) (fun K hK => ?_)
        refine skip_ (w1 := w7.setCell ⟨g, 7, none⟩ (.slice A7 n7 c7)) (by rfl) rfl ?_ ?_
        ·(go_simp; try rfl)
        refine hK.out _ _ ?_
        clear hK K
        refine done_ (done_of HT_.out (by kernel_rfl)) ?_
        clear hHeld HT_ HW_
        obtain ⟨W8, hW8⟩ : ∃ W : World, W = w7.setCell ⟨g, 7, none⟩ (.slice A7 n7 c7) := ⟨_, rfl⟩
        rw [← hW8]
        have HW8 := Zd.mk hW8
        clear hW8 k7 b0 b1 b2
        go_wp2
        go_roundg (gk - 1)
        case measure => have := HI.out; omega
        case rel =>
         have hgne : ∀ k, v7.ownBlock = some k → k ≠ g := fun k hk e => by have := HV7.out k hk; have := HG6.out; omega
         have hbk := bg_ HBK6.out HG7.out (fun e => hgne _ e.symm rfl)
         refine ⟨i1 + 1, .slice A7 n7 c7, by have := HI.out; omega, by first | rfl | (congr 1; go_num; done), ⟨by rw [HW8.out]; exact HB7.out.setCell HG4.out _⟩, ⟨by rw [HW8.out, blk_set hbk 7 _]; rfl⟩, ⟨?_⟩, ⟨fun k hk => ?_⟩, ⟨?_⟩⟩
         ·rw [HTK.out, HSEC.out, HW8.out]
          exact Kd.N_far HN7.out (fun k hk e => by have := HG5.out; have e' : k = g := e; omega) _
         ·rcases HT7.out with e | ⟨b, e, hb⟩
          ·exact HV7.out k (e ▸ hk)
          ·rw [e] at hk
           cases hk
           exact Nat.le_trans HKP6.out.1 hb
         ·rw [HW8.out]
          exact (Kept.of_grown HG7.out HKP6.out (fun k hk => .inr (HV7.out k hk))).setCell (.inl rfl) _
      ·have e : i = T.length := by have := HI.out; omega
       subst e
       obtain ⟨W7, rfl⟩ : ∃ W : World, W = WW := ⟨_, rfl⟩
       rw [List.take_length] at HN0
       obtain ⟨A7, c7, e7⟩ := Kd.N_slice HN0.out
       subst e7
       have HPC := Zd.mk (fun W (hk : Kept W7 W (fun k => k = ga)) => (Kd.N_reads' (Kd.N_kept HN0.out hk (fun k hk e => by have := HA5.out; have e' : k = ga := e; have hk' : W5.heap.size ≤ k := hk; omega))).2.2)
       have HC7 := Zd.mk (Kd.N_reads' HN0.out).2.1
       have HP2 := Zd.mk (show 2 ^ (partsOf T 0).length = sz from by rw [len_partsOf, HTL.out, HSZ0.out])
       have HP8 := Zd.mk (show (partsOf T 0).length ≤ 8 from by rw [len_partsOf]; exact HTN.out)
       have HW67 := Zd.mk HKP0.out.1
       have HSA : Zd (Kd.S (Kd.slice 3 natK) 23 W7 W4.heap.size (fun k => k = ga ∨ W7.heap.size ≤ k) (.slice (some ⟨ga, 0, none⟩) nn nn) (stageL (partsOf T 0) ls sz nn 0 0)) := ⟨by
        rw [stage_zero]
        exact Kd.S_mono (Kd.S_kept (Kd.S_below HGA5.out HB6.out) HKP0.out (fun k hk e => HNE.out (by rw [← hk, ← e]))) (fun k hk => .inl hk)⟩
       have zk0 := pb_ HBW0.out ZK0.out
       clear HN0 HTM HTL HN6 HF6 HGA5 HBG5 yf0 yf1 yf2 HV7 HKT HKZ HI
       generalize partsOf T 0 = P at *
       go_wp2
       go_loopg [80] ls.length (fun kq v80 w' => ∃ v : Nat, v + kq = ls.length ∧ v80 = .int .i64 (v : Int) ∧ Zd (Below W4.heap.size W4 w') ∧ Zd (w'.heap[g]? = some (.cells (newCells ls ss nxs s sz A0 A1 A2 A5 c0 c1 c2 c5 ga nn (.slice A7 P.length c7)) 79 (0, 0))) ∧ Zd (Kd.S (Kd.slice 3 natK) 23 w' W4.heap.size (fun k => k = ga ∨ W7.heap.size ≤ k) (.slice (some ⟨ga, 0, none⟩) nn nn) (stageL P ls sz nn v 0)) ∧ Zd (Kept W7 w' (fun k => k = ga)))
       case atStart => exact ⟨0, by omega, rfl, HBW0, HBK0, HSA, ⟨Kept.refl _ _⟩⟩
       case round =>
        obtain ⟨v, hv, rfl, HBW1, HBK1, HS1, HKP1⟩ := hrel
        obtain ⟨WV, rfl⟩ : ∃ W : World, W = wr := ⟨_, rfl⟩
        obtain ⟨k1, hk1⟩ : ∃ k, k = gk := ⟨_, rfl⟩
        rw [← hk1] at hv
        have HV := Zd.mk hv
        have HK1 := Zd.mk hk1
        clear hv hk1 zk0 HSA HBW0 HBK0
        by_cases hvl : v < ls.length
        ·obtain ⟨adl, e, zl⟩ := int_at H0.out hvl
         subst e
         have zl1 := pb_ (HB24.out.trans (HBW1.out.mono HB24.out.size)) zl
         obtain ⟨lt, hlt⟩ : ∃ x, x = ls.getD v 0 := ⟨_, rfl⟩
         rw [← hlt] at zl1
         have HLT := Zd.mk hlt
         have hvl2 : (v : Int) < (ls.length : Int) := by omega
         clear hlt zl
         go_wp2
         go_loopg [86] sz (fun kq v86 w' => ∃ t : Nat, t + kq = sz ∧ v86 = .int .i64 (t : Int) ∧ Zd (Below W4.heap.size W4 w') ∧ Zd (w'.heap[g]? = some (.cells (newCells ls ss nxs s sz (some adl) A1 A2 A5 c0 c1 c2 c5 ga nn (.slice A7 P.length c7)) 79 (0, 0))) ∧ Zd (Kd.S (Kd.slice 3 natK) 23 w' W4.heap.size (fun k => k = ga ∨ W7.heap.size ≤ k) (.slice (some ⟨ga, 0, none⟩) nn nn) (stageL P ls sz nn v t)) ∧ Zd (Kept W7 w' (fun k => k = ga)))
         case atStart => exact ⟨0, by omega, rfl, HBW1, HBK1, HS1, HKP1⟩
         case round =>
          obtain ⟨t, ht, rfl, HBW2, HBK2, HS2, HKP2⟩ := hrel
          obtain ⟨WT, rfl⟩ : ∃ W : World, W = wr := ⟨_, rfl⟩
          have HT := Zd.mk ht
          clear ht zl1 HBW1 HBK1 HS1 HKP1
          by_cases htl : t < sz
          ·have hq7 : WT.cell? ⟨g, 7, none⟩ = some (.slice A7 P.length c7) := (bq_ HBK2.out 7).trans rfl
           have HAH := Zd.mk (ahead_walk P g t lt A7 c7 WT hq7 (HPC.out WT HKP2.out) HP8.out (by omega) HPBT.out)
           obtain ⟨sN, hsN⟩ : ∃ n, n = aheadN t lt P := ⟨_, rfl⟩
           rw [← hsN] at HAH
           have hsl : sN < sz := by rw [hsN, ← HP2.out]; exact aheadN_lt t lt P
           have HSN := Zd.mk (show aheadN t (ls.getD v 0) P = sN from by rw [hsN, HLT.out])
           have hxn : v * sz + sN < nn := by
            have h1 : (v + 1) * sz ≤ ls.length * sz := Nat.mul_le_mul_right _ hvl
            have h2 : (v + 1) * sz = v * sz + sz := Nat.succ_mul ..
            rw [HNN.out, Nat.mul_comm sz]
            omega
           have ew1 := wmul (a := v) (b := sz) (Nat.lt_of_le_of_lt (Nat.le_add_right _ sN) (Nat.lt_trans hxn (by omega)))
           have ew3 : IntKind.i64.wrap (((v * sz : Nat) : Int) + (sN : Int)) = ((v * sz + sN : Nat) : Int) := (i64_w _).trans (wsmall2 (Nat.lt_trans hxn (by omega)))
           have HSET := Zd.mk (fun (h : v * sz + sN < nn) => stage_set (ps := P) (ls := ls) (N := nn) (v := v) (t := t) (by omega) HSN.out hsl h)
           have HGET := Zd.mk (stage_get (ps := P) (ls := ls) (sz := sz) (v := v) (t := t) hxn)
           have HLE := Zd.mk (fun x => stage_le (ps := P) (ls := ls) (sz := sz) (v := v) (t := t) (x := x) (Nat.le_of_lt htl))
           have HXD := Zd.mk (show v * sz + sN = v * sz + sN from rfl)
           clear hsN hq7
           generalize v * sz + sN = x at *
           generalize v * sz = m at *
           have ew2 : IntKind.i64.wrap ((v : Int) * (sz : Int)) = (m : Int) := (i64_w _).trans ew1
           have hx2 : (x : Int) < (nn : Int) := by omega
           clear ew1 HXD
           go_upto_region 25 with (go_at_call 44; refine HAH.out.mono ?_; rintro e w9 ⟨rfl, hB⟩; have HBA := Zd.mk hB; clear hB)
           obtain ⟨WB, rfl⟩ : ∃ W : World, W = w9 := ⟨_, rfl⟩
           have hBd : Below WT.heap.size WT WB.drew := HBA.out.trans ((below_drew1 (Below.refl WB.heap.size WB)).mono HBA.out.size)
           have HBC := Zd.mk (HBW2.out.trans (hBd.mono HBW2.out.size))
           have HBK3 := Zd.mk ((hBd.block _ (blk_lt HBK2.out)).trans HBK2.out)
           have HKP3 := Zd.mk (HKP2.out.below hBd)
           obtain ⟨oki, c, hcl, hM, hcc, hoki, hH⟩ := Kd.S_lend (Kd.S_below HS2.out hBd) [] (x : Int) (by omega) (by omega)
           rw [Int.toNat_natCast, HGET.out] at hM
           have HRL := Zd.mk (HLE.out x)
           obtain ⟨row, hrow⟩ : ∃ r, r = stageF P ls sz v t x := ⟨_, rfl⟩
           rw [← hrow] at hM HRL HSET
           obtain ⟨vu, e, hR⟩ := hM
           subst e
           obtain ⟨oki2, hw1, hw2, hw3, hw4⟩ : ∃ oki2 : Nat → Prop, Kd.H (Kd.slice 3 natK) 23 WB.drew W4.heap.size (fun k => k = ga ∨ W7.heap.size ≤ k) (.slice (some ⟨ga, 0, none⟩) nn nn) (stageL P ls sz nn v t) (x : Int) oki2 [vu] ∧ Kd.R natK 3 WB.drew W4.heap.size oki2 vu row ∧ (∀ k, vu.ownBlock = some k → oki2 k) ∧ (∀ k, WB.drew.heap.size ≤ k → oki2 k) :=
            ⟨_, Kd.H_widen hH, Kd.R_mono hR (fun k hk => .inl hk), fun k hk => .inl (hR.1 k hk), fun k hk => .inr ⟨.inr (Nat.le_trans HKP3.out.1 hk), hk⟩⟩
           have HH := Zd.mk hw1
           have HRU := Zd.mk hw2
           have HOKI := Zd.mk hw3
           have HFR := Zd.mk hw4
           have HOW := Zd.mk (fun k (hk : vu.ownBlock = some k) => (hoki k (hR.1 k hk)).1)
           have HOG := Zd.mk (fun k (hk : vu.ownBlock = some k) => (hoki k (hR.1 k hk)).2)
           have HG8N : Zd (some g ≠ vu.ownBlock) := by
            refine ⟨fun e => ?_⟩
            rcases HOW.out g e.symm with h1 | h1
            ·exact HNE.out h1.symm
            ·have := HG6.out
             have := HW67.out
             omega
           have k8 : WB.drew.cell? ⟨g, 8, none⟩ = some (.slice (some ⟨ga, 0, none⟩) nn nn) := (bq_ HBK3.out 8).trans rfl
           have ku : WB.drew.cell? ⟨ga, x, none⟩ = some vu := by
            have h_ := hcc 0 vu rfl
            rwa [Int.toNat_natCast, show (x * (Kd.slice 3 natK).sz + 0) = x from Nat.mul_one x] at h_
           clear hw1 hw2 hw3 hw4 hoki hH hR hcc hcl hrow hBd HS2 HBK2 HBW2 HKP2 HAH HBA
           refine start_ (n := 25) (S := fun w' => w'.cell? ⟨g, 8, none⟩ = some (.slice (some ⟨ga, 0, none⟩) nn nn) ∧ w'.cell? ⟨ga, x, none⟩ = some vu) (ds := [24]) Mk176_ (by kernel_rfl) rfl rfl ⟨k8, ku⟩ (fun hHeld => ?_)
           refine with_tabW snw.tab25 snw.bits25 (fun HT_ HW_ => ?_)
           generalize WB.drew = WC at *
           refine pz HT_.out 0 (some 93) Mk177_ rfl rfl ?_
           refine pz HT_.out 1 (some 94) Mk178_ rfl rfl ?_
           refine pz HT_.out 2 (some 95) Mk179_ rfl rfl ?_
           refine pz HT_.out 4 (some 97) Mk180_ rfl rfl ?_
           refine pz HT_.out 5 (some 98) Mk181_ rfl rfl ?_
           refine pz HT_.out 6 (some 99) Mk182_ rfl rfl ?_
           refine pz HT_.out 7 (some 100) Mk183_ rfl rfl ?_
           refine pz HT_.out 8 (some 101) Mk184_ rfl rfl ?_
           refine pz HT_.out 9 (some 102) Mk185_ rfl rfl ?_
           refine pz HT_.out 10 (some 103) Mk186_ rfl rfl ?_
           refine pz HT_.out 11 (some 104) Mk187_ rfl rfl ?_
           refine pz HT_.out 13 (some 106) Mk188_ rfl rfl ?_
           refine pz HT_.out 14 (some 107) Mk189_ rfl rfl ?_
           refine pz HT_.out 15 (some 108) Mk190_ rfl rfl ?_
           refine pz HT_.out 16 (some 109) Mk191_ rfl rfl ?_
           refine pz HT_.out 17 (some 110) Mk192_ rfl rfl ?_
           refine pz HT_.out 20 (some 113) Mk193_ rfl rfl ?_
           refine tz HT_.out HW_.out 3 (some 96) Mk194_ rfl rfl hHeld ?_
           refine tz HT_.out HW_.out 12 (some 105) Mk195_ rfl rfl hHeld ?_
           refine pz HT_.out 18 (some 111) Mk196_ rfl rfl ?_
           refine tz HT_.out HW_.out 19 (some 112) Mk197_ rfl rfl hHeld ?_
           refine one_ (i := 21) (N := some 114) Mk198_ rfl rfl (one_of HT_.out (by kernel_rfl)) (by decide) (fun K hK => ?_)
           have hBA := below_alloc (Below.refl WC.heap.size WC) (.cells #[.int .i64 (t : Int)] 3)
           have k8a_ := pb_ hBA k8
           have kua_ := pb_ hBA ku
           clear hBA
           refine value_ (w1 := WC.alloc (.cells #[.int .i64 (t : Int)] 3)) (v := .slice (some ⟨WC.heap.size, 0, none⟩) 1 1) (by rfl) rfl ?_ ?_
           ·(go_simp; try rfl)
           refine hK.out _ _ ⟨k8a_, kua_⟩ (fun hHeld => ?_)
           clear hK K
           refine norm_ (a' := ?_) ?_ ?_
           rotate_left
           ·show Act.put _ (some 114) _ = _
            simp only [Act.put, List.setIfInBounds_toArray, List.set_cons_zero, List.set_cons_succ, i64_w, i32_w]
            rfl
           refine one_ (i := 22) (N := some 115) Mk199_ rfl rfl (one_of HT_.out (by kernel_rfl)) (by decide) (fun K hK => ?_)
           refine Kd.R_append_step natK (w0 := W4) (W := WC) W4.heap.size (by rfl) (.tmp 112) (.tmp 114) 23 3 (.int .i64 0) 8 rfl hui infoI rfl (by decide) (by decide) vu row t [.int .i64 (t : Int)] oki2 (fun _ => False) rfl rfl rfl (fun _ hk => hk.elim) HFR.out HRU.out HBC.out HBC.out.size (by have := HRL.out; omega) ?_
           intro v9_ w9 ho hb hg hat
           obtain ⟨A9, n9, c9, e9⟩ : ∃ A n c, v9_ = .slice A n c := (by obtain ⟨A, c, e⟩ := Kd.R_slice ho; exact ⟨A, _, c, e⟩)
           subst e9
           have HR9 := Zd.mk ho
           have HB9 := Zd.mk hb
           have HG9 := Zd.mk hg
           have k8b_ := hg.cell k8 HG8N.out
           have HHX := Zd.mk (Kd.H_grown HH.out hg (fun k hk => HOKI.out k hk))
           obtain ⟨hq1_, hq2_⟩ := Kd.H_at HHX.out (by omega) (by omega)
           have kub_ : w9.cell? ⟨ga, x, none⟩ = some vu := by have h_ := hq1_ 0 vu rfl; rwa [Int.toNat_natCast, show (x * (Kd.slice 3 natK).sz + 0) = x from Nat.mul_one x] at h_
           have fub_ : w9.frozen? ⟨ga, x, none⟩ = false := by have h_ := hq2_ 0; rwa [Int.toNat_natCast, show (x * (Kd.slice 3 natK).sz + 0) = x from Nat.mul_one x] at h_
           clear ho hb hg hat hHeld hq1_ hq2_
           refine hK.out _ _ ⟨k8b_, kub_⟩ (fun hHeld => ?_)
           clear hK K
           refine norm_ (a' := ?_) ?_ ?_
           rotate_left
           ·show Act.put _ (some 115) _ = _
            simp only [Act.put, List.setIfInBounds_toArray, List.set_cons_zero, List.set_cons_succ, i64_w, i32_w]
            rfl
           refine pz HT_.out 23 (some 116) Mk200_ rfl rfl ?_
           refine last_ (i := 24) (N := none) Mk201_ rfl rfl (one_of HT_.out (by kernel_rfl)) (by decide) (fun K hK => ?_)
           refine skip_ (w1 := w9.setCell ⟨ga, x, none⟩ (.slice A9 n9 c9)) (by rfl) rfl ?_ ?_
           ·(go_simp; try rfl)
           refine hK.out _ _ ?_
           clear hK K
           refine done_ (done_of HT_.out (by kernel_rfl)) ?_
           clear hHeld HT_ HW_
           obtain ⟨W8, hW8⟩ : ∃ W : World, W = w9.setCell ⟨ga, x, none⟩ (.slice A9 n9 c9) := ⟨_, rfl⟩
           rw [← hW8]
           have HW8 := Zd.mk hW8
           clear hW8 k8 ku
           go_wp2
           go_roundg (gk - 1)
           case measure => have := HT.out; omega
           case rel =>
            refine ⟨t + 1, by have := HT.out; omega, by first | rfl | (congr 1; go_num; done), ⟨by rw [HW8.out]; exact HB9.out.setCell HA4.out _⟩, ⟨?_⟩, ⟨?_⟩, ⟨?_⟩⟩
            ·rw [HW8.out, Below.heap_setCell w9 ⟨ga, x, none⟩ _ g (fun e => HNE.out e.symm)]
             exact bg_ HBK3.out HG9.out HG8N.out
            ·have hS := (Kd.S_seg0 HHX.out (by omega) (by omega) (seg := [.slice A9 n9 c9]) (j := 0) (Nat.le_refl 1) (x' := row ++ [t]) (okp := oki2) ⟨_, rfl, HR9.out⟩ (fun k hk => hk)).1
             rw [Int.toNat_natCast, show (x * (Kd.slice 3 natK).sz + 0) = x from Nat.mul_one x, HSET.out hxn] at hS
             rw [HW8.out]
             exact hS
            ·rw [HW8.out]
             exact (Kept.of_grown HG9.out HKP3.out (fun k hk => HOW.out k hk)).setCell (.inl rfl) _
          ·have e : t = sz := by have := HT.out; omega
           subst e
           go_wp2
           go_roundg (k1 - 1)
           case measure => have := HV.out; have := HK1.out; omega
           case rel => exact ⟨v + 1, by have := HV.out; omega, by first | rfl | (congr 1; go_num; done), HBW2, HBK2, ⟨by rw [← stage_next]; exact HS2.out⟩, HKP2⟩
        ·have e : v = ls.length := by have := HV.out; omega
         subst e
         go_wp2
         go_ret2
         have hw := HB24.out.trans (HBW1.out.mono HB24.out.size)
         refine ⟨?_, hw⟩
         rw [HE.out]
         unfold NewOk
         rw [if_pos rfl]
         refine ⟨g, rfl, ?_⟩
         rw [HPD.out]
         have hrd := Kd.R_reads' (Kd.S_R HS1.out)
         refine ⟨A0, A1, A2, A5, A7, some ⟨ga, 0, none⟩, c0, c1, c2, c5, c7, nn, ⟨?_, l0, ?_, ?_, l5, HC7.out, ?_, Kd.C_below H0.out hw, ?_, ?_, Kd.C_below H5.out hw, HPC.out _ HKP1.out, ?_⟩⟩
         ·rw [HBK1.out]
          unfold newCells prodCells
          simp only [List.length_map, stage_len]
         ·rw [List.length_map]; exact l1
         ·rw [List.length_map]; exact l2
         ·rw [stage_len]; exact Nat.le_refl _
         ·have := natC_of_int (Kd.C_below H1.out hw) (fun x hx => (HGO.out.st x hx).1)
          rwa [List.length_map]
         ·have := rows_of_int (Kd.C_below H2.out hw) (fun l hl x hx => ((HGO.out.nx l hl).2.2 x hx).1)
          rwa [List.length_map]
         ·exact hrd.2.2
  ·have HE := Zd.mk (show newErr ls ss nxs s = mf from by rw [HERR.out, if_pos e1, if_neg e2])
   have em1 : (mg != 0) = false := by rw [e1]; rfl
   have em2 : (mf != 0) = true := by simpa using e2
   go_enter Try.func25, Try.ntmps25
   go_upto_region 1 with fail
   rw [← hW2, ← hgf, ← hgk]
   clear hW2 hgf hgk
   go_wp2_with (first
    | (go_at_call 18; refine HM1.out.mono ?_; rintro e w3 ⟨rfl, hB3⟩; have HB3 := Zd.mk hB3; have HBF3 := Zd.mk ((hB3.block _ (blk_lt HBF.out)).trans HBF.out); have y0 := (bq_ HBF3.out 0).trans rfl; have y1 := (bq_ HBF3.out 1).trans rfl; have y2 := (bq_ HBF3.out 2).trans rfl; clear hB3)
    | (go_at_call 9; refine (HM2.out _ HB3.out).mono ?_; rintro e w4 ⟨rfl, hB4⟩; have HB4 := Zd.mk (HB3.out.trans (hB4.mono HB3.out.size)); clear hB4))
   go_ret2
   exact ⟨by rw [HE.out]; unfold NewOk; rw [if_neg e2]; rfl, HB2.out.trans (HB4.out.mono HB2.out.size)⟩
 ·have HE := Zd.mk (show newErr ls ss nxs s = mg from by rw [HERR.out, if_neg e1])
  have em1 : (mg != 0) = true := by simpa using e1
  go_enter Try.func25, Try.ntmps25
  go_upto_region 1 with fail
  rw [← hW2, ← hgf, ← hgk]
  clear hW2 hgf hgk
  go_wp2_with (go_at_call 18; refine HM1.out.mono ?_; rintro e w3 ⟨rfl, hB3⟩; have HB3 := Zd.mk hB3; clear hB3)
  go_ret2
  exact ⟨by rw [HE.out]; unfold NewOk; rw [if_neg e1]; rfl, HB2.out.trans (HB3.out.mono HB2.out.size)⟩
end Go.Proofs.Ytapejnikpmfddaa.X
