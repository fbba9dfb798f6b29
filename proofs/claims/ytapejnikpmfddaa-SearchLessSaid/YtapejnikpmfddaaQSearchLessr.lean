/- A part of the claim SearchLess. -/
import Derived.Test.YtapejnikpmfddaaQSearchLessq
namespace Go.Proofs.Ytapejnikpmfddaa.X
open Go.RowKit Go.Proofs.YtapejnikpmfddaaW.PrintWords Go.Proofs.YtapejnikpmfddaaW.PrintLast Go.Proofs.YtapejnikpmfddaaW.PrintMore
open Go.Proofs.Ytapejnikpmfddaa.P Go.Proofs.Ytapejnikpmfddaa.Evx
set_option linter.unusedSimpArgs false
set_option linter.unusedVariables false
def slw.T7 : Bool × List (List Nat × List Nat) := (true, [([], []), ([0], [0]), ([], []), ([], []), ([], []), ([4], [4]), ([], []), ([5, 6], [5, 6]), ([7], [7]), ([], []), ([8, 9], [8, 9]), ([3, 10], [3, 10]), ([], []), ([12], [12]), ([], []), ([13, 14], [13, 14]), ([15], [15]), ([], []), ([17], [17]), ([16, 18], [16, 18]), ([11, 19, 11], [11, 19]), ([1, 2, 0, 1, 2, 3, 4, 5, 6, 7, 8, 9, 10, 11, 12, 13, 14, 15, 16, 17, 18, 19, 20], [1, 2]), ([21, 20, 20, 0, 1, 2, 3, 4, 5, 6, 7, 8, 9, 10, 11, 12, 13, 14, 15, 16, 17, 18, 19, 20], [20, 21])])
def slw.B7 : List Nat := [0, 1, 0, 0, 0, 16, 0, 112, 240, 0, 1008, 2040, 0, 4096, 0, 28672, 61440, 0, 131072, 520192, 1048568, 2097151, 4194303]
theorem slw.tab7 : rtab .any (opsOf Try.f5 7) = slw.T7 := by kernel_rfl
theorem slw.bits7 : waitsOk slw.T7.2 slw.B7 = true := by kernel_rfl
theorem findV_is {ls ss : List Int} {nxs : List (List Int)} {s : S29} (q : Option (List Nat × List Nat)) : (findV ls ss nxs s q).2.2 = q.isSome := by
  cases q with
  | none => rfl
  | some p => obtain ⟨a, b⟩ := p; rfl
theorem Find_ok {ls ss : List Int} {nxs : List (List Int)} {s : S29} (he : newErr ls ss nxs s = 0) {bs : Bool} (hb : (findG ls ss nxs s true).isSome = bs) (A0 A1 A2 A5 : Option Addr) (c0 c1 c2 c5 : Nat) (w : World)
    (h0 : Kd.C (Kd.int .u32) w A0 ls.length ls) (l0 : ls.length ≤ c0) (h1 : Kd.C (Kd.int .i64) w A1 ss.length ss) (l1 : ss.length ≤ c1) (h2 : Kd.C (Kd.slice 3 (Kd.int .i64)) w A2 nxs.length nxs) (l2 : nxs.length ≤ c2) (h5 : Kd.C k29 w A5 s.f2.length s.f2) (l5 : s.f2.length ≤ c5) :
    Calls Try.prog 11 #[.agg #[.slice A0 ls.length c0, .slice A1 ss.length c1, .slice A2 nxs.length c2], .agg #[.int .i64 s.f0, .int .i64 s.f1, .slice A5 s.f2.length c5]] w fun e w' => ∃ v1 v2, e = .returned (.tuple #[v1, v2, .bool bs, .int .i64 0]) ∧ Below w.heap.size w w' := by
  refine (Find_calls ls ss nxs s A0 A1 A2 A5 c0 c1 c2 c5 w h0 l0 h1 l1 h2 l2 h5 l5).mono ?_
  rintro e w' ⟨v1, v2, rfl, _, _, hB⟩
  rw [he, if_pos rfl, findV_is, hb]
  exact ⟨v1, v2, rfl, hB⟩
theorem All_ok {ls ss : List Int} {nxs : List (List Int)} {s : S29} (he : newErr ls ss nxs s = 0) {bs : Bool} (hb : (findG ls ss nxs s false).isNone = bs) (A0 A1 A2 A5 : Option Addr) (c0 c1 c2 c5 : Nat) (w : World)
    (h0 : Kd.C (Kd.int .u32) w A0 ls.length ls) (l0 : ls.length ≤ c0) (h1 : Kd.C (Kd.int .i64) w A1 ss.length ss) (l1 : ss.length ≤ c1) (h2 : Kd.C (Kd.slice 3 (Kd.int .i64)) w A2 nxs.length nxs) (l2 : nxs.length ≤ c2) (h5 : Kd.C k29 w A5 s.f2.length s.f2) (l5 : s.f2.length ≤ c5) :
    Calls Try.prog 12 #[.agg #[.slice A0 ls.length c0, .slice A1 ss.length c1, .slice A2 nxs.length c2], .agg #[.int .i64 s.f0, .int .i64 s.f1, .slice A5 s.f2.length c5]] w fun e w' => e = .returned (.tuple #[.bool bs, .int .i64 0]) ∧ Below w.heap.size w w' := by
  refine (All_calls ls ss nxs s A0 A1 A2 A5 c0 c1 c2 c5 w h0 l0 h1 l1 h2 l2 h5 l5).mono ?_
  rintro e w' ⟨rfl, hB⟩
  rw [he, if_pos rfl, hb]
  exact ⟨rfl, hB⟩
theorem err_zero {ls ss : List Int} {nxs : List (List Int)} {s : S29} (h1 : mayG ls ss nxs = 0) (h2 : mayF s = 0) (h3 : 2 ^ tnS s * ls.length ≤ 3000) : newErr ls ss nxs s = 0 := by
  unfold newErr
  rw [if_pos h1, if_pos h2, if_neg (by omega)]
theorem imp_bool {a b : Bool} (h : a = true → b = true) : (b || !a) = true := by
  cases a
  · cases b <;> rfl
  · rw [h rfl]; rfl
set_option maxHeartbeats 12800000 in
set_option maxRecDepth 100000 in
theorem searchLess_walk (ls ss : List Int) (nxs : List (List Int)) (s : S29) (a1 a2 : Int) (A0 A1 A2 A5 : Option Addr) (c0 c1 c2 c5 : Nat) (w : World) (b0 : ls.length < 4611686018427387904) (b1 : ss.length < 4611686018427387904) (b2 : nxs.length < 1000000000000000) (b3 : ∀ x, x ∈ nxs → x.length ≤ 9223372036854775807)
    (h0 : Kd.C (Kd.int .u32) w A0 ls.length ls) (l0 : ls.length ≤ c0) (h1 : Kd.C (Kd.int .i64) w A1 ss.length ss) (l1 : ss.length ≤ c1) (h2 : Kd.C (Kd.slice 3 (Kd.int .i64)) w A2 nxs.length nxs) (l2 : nxs.length ≤ c2) (h5 : Kd.C k29 w A5 s.f2.length s.f2) (l5 : s.f2.length ≤ c5) :
    Calls Try.prog 5 #[.agg #[.slice A0 ls.length c0, .slice A1 ss.length c1, .slice A2 nxs.length c2], .agg #[.int .i64 s.f0, .int .i64 s.f1, .slice A5 s.f2.length c5], .int .i64 a1, .int .i64 a2] w fun e w' => e = .returned (.bool true) ∧ Below w.heap.size w w' := by
  have huK := Try.underlying26
  have huF := Try.underlying29
  have huu := Try.underlying22
  have hui := Try.underlying23
  have huii := Try.underlying24
  obtain ⟨n, hn, hn3⟩ := heavy24_ev ls ss nxs s b0 b1 b2
  obtain ⟨kh, hkh⟩ := hn.rounds
  obtain ⟨km, hkm⟩ := (rmay_ev ls ss nxs (by omega) (by omega) b3).rounds
  obtain ⟨kf, hkf⟩ := (rMay_ev s).rounds
  obtain ⟨W2, hW2⟩ : ∃ W2, W2 = (w.alloc (.cells #[.slice A0 ls.length c0, .slice A1 ss.length c1, .slice A2 nxs.length c2] 26)).alloc (.cells #[.int .i64 s.f0, .int .i64 s.f1, .slice A5 s.f2.length c5] 29) := ⟨_, rfl⟩
  have hB2 : Below w.heap.size w W2 := by rw [hW2]; exact below_alloc (below_alloc (Below.refl _ _) _) _
  have hbk : W2.heap[w.heap.size]? = some (.cells #[.slice A0 ls.length c0, .slice A1 ss.length c1, .slice A2 nxs.length c2] 26 (0, 0)) := by rw [hW2]; exact ba_ (heap_alloc_new w _) _
  have hbf : W2.heap[w.heap.size + 1]? = some (.cells #[.int .i64 s.f0, .int .i64 s.f1, .slice A5 s.f2.length c5] 29 (0, 0)) := by
    rw [hW2]
    have := heap_alloc_new (w.alloc (.cells #[.slice A0 ls.length c0, .slice A1 ss.length c1, .slice A2 nxs.length c2] 26)) (.cells #[.int .i64 s.f0, .int .i64 s.f1, .slice A5 s.f2.length c5] 29)
    simpa using this
  obtain ⟨gk1, hgk⟩ : ∃ k, k = w.heap.size := ⟨_, rfl⟩
  obtain ⟨gf, hgf⟩ : ∃ k, k = gk1 + 1 := ⟨_, rfl⟩
  rw [← hgk] at hbk
  rw [← hgk, ← hgf] at hbf
  have k0 : W2.cell? ⟨gk1, 0, none⟩ = some (.slice A0 ls.length c0) := (bq_ hbk 0).trans rfl
  have k1 : W2.cell? ⟨gk1, 1, none⟩ = some (.slice A1 ss.length c1) := (bq_ hbk 1).trans rfl
  have k2 : W2.cell? ⟨gk1, 2, none⟩ = some (.slice A2 nxs.length c2) := (bq_ hbk 2).trans rfl
  have f0 : W2.cell? ⟨gf, 0, none⟩ = some (.int .i64 s.f0) := (bq_ hbf 0).trans rfl
  have f1 : W2.cell? ⟨gf, 1, none⟩ = some (.int .i64 s.f1) := (bq_ hbf 1).trans rfl
  have f2 : W2.cell? ⟨gf, 2, none⟩ = some (.slice A5 s.f2.length c5) := (bq_ hbf 2).trans rfl
  have HHV := Zd.mk (fun W (hb : Below W2.heap.size W2 W) => parrylaw24_Heavy.calls kh A0 c0 ls A1 c1 ss A2 c2 nxs s.f0 s.f1 A5 c5 s.f2 n W (Kd.C_below h0 (hB2.trans (hb.mono hB2.size))) l0 (Kd.C_below h1 (hB2.trans (hb.mono hB2.size))) l1 (Kd.C_below h2 (hB2.trans (hb.mono hB2.size))) l2 (Kd.C_below h5 (hB2.trans (hb.mono hB2.size))) l5 hkh)
  have HMG := Zd.mk (fun W (hb : Below W2.heap.size W2 W) => parryref22_MayGraph.calls km A0 c0 ls A1 c1 ss A2 c2 nxs (mayG ls ss nxs) W (Kd.C_below h0 (hB2.trans (hb.mono hB2.size))) l0 (Kd.C_below h1 (hB2.trans (hb.mono hB2.size))) l1 (Kd.C_below h2 (hB2.trans (hb.mono hB2.size))) l2 hkm)
  have HMF := Zd.mk (fun W (hb : Below W2.heap.size W2 W) => parryref22_May.calls kf s.f0 s.f1 A5 c5 s.f2 (mayF s) W (Kd.C_below h5 (hB2.trans (hb.mono hB2.size))) l5 hkf)
  have HBK := Zd.mk hbk
  have HBF := Zd.mk hbf
  have HB2 := Zd.mk hB2
  have H0 := Zd.mk h0
  have H1 := Zd.mk h1
  have H2 := Zd.mk h2
  have H5 := Zd.mk h5
  have HN3 := Zd.mk hn3
  have HGOK := Zd.mk (@mayG_ok ls ss nxs)
  obtain ⟨mg, hmg⟩ : ∃ m, m = mayG ls ss nxs := ⟨_, rfl⟩
  obtain ⟨mf, hmf⟩ : ∃ m, m = mayF s := ⟨_, rfl⟩
  rw [← hmg] at HMG
  rw [← hmf] at HMF
  have HMG0 := Zd.mk hmg
  have HMF0 := Zd.mk hmf
  have BX := Zd.mk b3
  clear h0 h1 h2 h5 hbk hbf hB2 hkh hkm hkf hn hn3 hmg hmf b3
  by_cases g1 : 0 < n
  · have t1 : decide (0 < n) = true := decide_eq_true g1
    go_enter Try.func5, Try.ntmps5
    go_upto_region 1 with fail
    rw [← hW2, ← hgk, ← hgf]
    clear hW2 hgk hgf
    go_wp2_with (first | (go_at_call 7; refine (HHV.out _ (Below.refl _ _)).mono ?_; rintro e w3 ⟨rfl, hB⟩; have HB3 := Zd.mk hB; have k0_3 := pb_ hB k0; have k1_3 := pb_ hB k1; have k2_3 := pb_ hB k2; have f0_3 := pb_ hB f0; have f1_3 := pb_ hB f1; have f2_3 := pb_ hB f2; clear hB) | (go_at_call 10; refine (awake_calls _).mono ?_; rintro e w9 ⟨rfl, hB⟩; have HB9 := Zd.mk (HB3.out.trans (hB.mono HB3.out.size)); clear hB))
    go_ret
    exact ⟨rfl, HB2.out.trans (HB9.out.mono HB2.out.size)⟩
  · have t1 : decide (0 < n) = false := decide_eq_false g1
    by_cases g2 : mg = 0
    · have t2 : (mg != 0) = false := by rw [g2]; rfl
      by_cases g3 : mf = 0
      · have t3 : (mf != 0) = false := by rw [g3]; rfl
        have hok := HGOK.out (HMG0.out.symm.trans g2)
        by_cases g4 : ls.length = 0
        · have t4 : ((ls.length : Int) == 0) = true := by rw [g4]; rfl
          clear g4 g3 g2 hok
          go_enter Try.func5, Try.ntmps5
          go_upto_region 1 with fail
          rw [← hW2, ← hgk, ← hgf]
          clear hW2 hgk hgf
          go_wp2_with (first | (go_at_call 7; refine (HHV.out _ (Below.refl _ _)).mono ?_; rintro e w3 ⟨rfl, hB⟩; have HB3 := Zd.mk hB; have k0_3 := pb_ hB k0; have k1_3 := pb_ hB k1; have k2_3 := pb_ hB k2; have f0_3 := pb_ hB f0; have f1_3 := pb_ hB f1; have f2_3 := pb_ hB f2; clear hB) | (go_at_call 8; refine (HMG.out _ HB3.out).mono ?_; rintro e w4 ⟨rfl, hB⟩; have HB4 := Zd.mk (HB3.out.trans (hB.mono HB3.out.size)); have k0_4 := pb_ hB k0_3; have f0_4 := pb_ hB f0_3; have f1_4 := pb_ hB f1_3; have f2_4 := pb_ hB f2_3; clear hB) | (go_at_call 17; refine (HMF.out _ HB4.out).mono ?_; rintro e w5 ⟨rfl, hB⟩; have HB5 := Zd.mk (HB4.out.trans (hB.mono HB4.out.size)); have k0_5 := pb_ hB k0_4; clear hB) | (go_at_call 10; refine (awake_calls _).mono ?_; rintro e w9 ⟨rfl, hB⟩; have HB9 := Zd.mk (HB5.out.trans (hB.mono HB5.out.size)); clear hB))
          go_ret
          exact ⟨rfl, HB2.out.trans (HB9.out.mono HB2.out.size)⟩
        · have t4 : ((ls.length : Int) == 0) = false := beq_eq_false_iff_ne.2 (by omega)
          have hnl := hok.n
          have hnn := hok.nn
          have hmG : mayG ls ss nxs = 0 := HMG0.out.symm.trans g2
          have hmF : mayF s = 0 := HMF0.out.symm.trans g3
          have hsz := HN3.out hok (by omega) hmF
          have hn1 : 1 ≤ (ls.length : Int) := by omega
          have hwn : IntKind.u64.wrap (ls.length : Int) = (ls.length : Int) := u64_id (by omega) (by omega)
          have hpr := pick_range a1 hn1
          have hpe := pick_eq a1 hn1 (by omega)
          rw [hwn] at hpe
          obtain ⟨vn, hvn⟩ : ∃ v : Nat, pick a1 (ls.length : Int) = (v : Int) := ⟨(pick a1 (ls.length : Int)).toNat, by omega⟩
          rw [hvn] at hpe hpr
          have HPE := Zd.mk hpe
          have hvl : vn < nxs.length := by omega
          have hmem : nxs.getD vn [] ∈ nxs := by
            rw [List.getD_eq_getElem?_getD, List.getElem?_eq_getElem hvl]
            exact List.getElem_mem hvl
          obtain ⟨row, hrow⟩ : ∃ r, r = nxs.getD vn [] := ⟨_, rfl⟩
          rw [← hrow] at hmem
          have hrok := hok.nx row hmem
          have hrl1 : 1 ≤ row.length := List.length_pos_iff.2 hrok.1
          have hrl2 := hrok.2.1
          have hr1 : 1 ≤ (row.length : Int) := by omega
          have hwr : IntKind.u64.wrap (row.length : Int) = (row.length : Int) := u64_id (by omega) (by omega)
          have hqr := pick_range a2 hr1
          have hqe := pick_eq a2 hr1 (by omega)
          rw [hwr] at hqe
          obtain ⟨an, han⟩ : ∃ v : Nat, pick a2 (row.length : Int) = (v : Int) := ⟨(pick a2 (row.length : Int)).toNat, by omega⟩
          rw [han] at hqe hqr
          have HQE := Zd.mk hqe
          have hal : an < row.length := by omega
          have HROW := Zd.mk hrow
          obtain ⟨adn, Ar, cr, eA, kr0, lr, hCr⟩ := row_at H2.out hvl
          subst eA
          rw [← hrow] at kr0 lr hCr
          have kr2 := pb_ HB2.out kr0
          -- what the plain law tells
          have hml := L.mayG_less hmG (v := vn) (i := an) hvl
          rw [← hrow] at hml
          obtain ⟨lt, hlt⟩ : ∃ l, l = row.take an := ⟨_, rfl⟩
          obtain ⟨a1n, ha1⟩ : ∃ k, k = an + 1 := ⟨_, rfl⟩
          obtain ⟨ld, hld⟩ : ∃ l, l = row.drop a1n := ⟨_, rfl⟩
          have her : lt ++ ld = row.eraseIdx an := by rw [hlt, hld, ha1]; exact (List.eraseIdx_eq_take_drop_succ row an).symm
          obtain ⟨nl, hnlD⟩ : ∃ l, l = nxs.set vn (lt ++ ld) := ⟨_, rfl⟩
          have hnlL : nl = L.lessN nxs vn an := by rw [hnlD, her, hrow]; rfl
          have hnlen : nl.length = nxs.length := by rw [hnlD, List.length_set]
          have hlget : nl.getD vn [] = lt ++ ld := by
            rw [hnlD, List.getD_eq_getElem?_getD, List.getElem?_set_self hvl]; rfl
          rw [← her] at hml
          have hml : mayG ls ss nl = if lt ++ ld = [] then 1 else 0 := by rw [hnlL]; exact hml
          have hsub : ∀ v, v < ls.length → ∀ y, y ∈ nl.getD v [] → y ∈ nxs.getD v [] := fun v _ y hy => by
            rw [hnlL] at hy
            exact L.less_sub v y hy
          have hsF : (ls.length : Int) ≤ 200 := by omega
          have hnx : nxs.length ≤ 200 := by omega
          have hyes : (findG ls ss nxs L.yesF true).isSome = decide (0 < ss.length) := L.always_found hok L.may_yes (fun σ W hT => L.yes_true hT 0)
          have hnot : (findG ls ss nxs L.notF false).isSome = decide (0 < ss.length) := L.always_found hok L.may_not (fun σ W hT => L.not_false_ hT)
          have hey : newErr ls ss nxs L.yesF = 0 := err_zero hmG L.may_yes (by rw [L.tn_yes]; omega)
          have hen : newErr ls ss nxs L.notF = 0 := err_zero hmG L.may_not (by rw [L.tn_not]; omega)
          have hes : newErr ls ss nxs s = 0 := err_zero hmG hmF (by omega)
          obtain ⟨bs, hbs⟩ : ∃ b, b = decide (0 < ss.length) := ⟨_, rfl⟩
          rw [← hbs] at hyes hnot
          have hnot' : (findG ls ss nxs L.notF false).isNone = !bs := by
            rw [← hnot]; cases findG ls ss nxs L.notF false <;> rfl
          have u1 : decide (0 < (ss.length : Int)) = bs := by rw [hbs]; exact decide_eq_decide.2 (by omega)
          have u3 : decide (0 < ss.length) = bs := hbs.symm
          have u2 : ((ss.length : Int) == 0) = !bs := by
            rw [hbs]
            by_cases e : ss.length = 0
            · rw [e]; rfl
            · rw [decide_eq_true (by omega : 0 < ss.length)]
              exact beq_eq_false_iff_ne.2 (by omega)
          have v1 : (bs != bs) = false := by cases bs <;> rfl
          have v2 : ((!bs) != (!bs)) = false := by cases bs <;> rfl
          have HF1 := Zd.mk (fun W (hb : Below w.heap.size w W) => show Calls Try.prog 11 #[.agg #[.slice A0 ls.length c0, .slice A1 ss.length c1, .slice (some adn) nxs.length c2], .agg #[.int .i64 1, .int .i64 0, .slice none 0 0]] W _ from Find_ok (s := L.yesF) hey hyes A0 A1 (some adn) none c0 c1 c2 0 W (Kd.C_below H0.out hb) l0 (Kd.C_below H1.out hb) l1 (Kd.C_below H2.out hb) l2 (Kd.C_nil _ _) (Nat.le_refl _))
          have HA1 := Zd.mk (fun W g (hb : Below w.heap.size w W) (hg : W.heap[g]? = some (.cells #[.int .i64 1, .int .i64 0, .slice none 0 0] 29 (0, 0))) => show Calls Try.prog 12 #[.agg #[.slice A0 ls.length c0, .slice A1 ss.length c1, .slice (some adn) nxs.length c2], .agg #[.int .i64 3, .int .i64 0, .slice (some ⟨g, 0, none⟩) 1 1]] W _ from All_ok (s := L.notF) hen hnot' A0 A1 (some adn) (some ⟨g, 0, none⟩) c0 c1 c2 1 W (Kd.C_below H0.out hb) l0 (Kd.C_below H1.out hb) l1 (Kd.C_below H2.out hb) l2 (C_oneF (a := L.yesF) rfl hg) (Nat.le_refl _))
          obtain ⟨ba, hba⟩ : ∃ b, (findG ls ss nxs s true).isSome = b := ⟨_, rfl⟩
          obtain ⟨bc, hbc⟩ : ∃ b, (findG ls ss nxs s false).isNone = b := ⟨_, rfl⟩
          have HF2 := Zd.mk (fun W (hb : Below w.heap.size w W) => Find_ok hes hba A0 A1 (some adn) A5 c0 c1 c2 c5 W (Kd.C_below H0.out hb) l0 (Kd.C_below H1.out hb) l1 (Kd.C_below H2.out hb) l2 (Kd.C_below H5.out hb) l5)
          have HA2 := Zd.mk (fun W (hb : Below w.heap.size w W) => All_ok hes hbc A0 A1 (some adn) A5 c0 c1 c2 c5 W (Kd.C_below H0.out hb) l0 (Kd.C_below H1.out hb) l1 (Kd.C_below H2.out hb) l2 (Kd.C_below H5.out hb) l5)
          -- the row parted
          obtain ⟨iI, hiI, _, hszI, _⟩ := info_parts infoI
          obtain ⟨hcutT, hAT, hCT⟩ := print_take_of (P := Try.prog) (Value.int .i64) 0 23 3 .i64 Try.underlying23 hiI hszI Ar cr row (an : Int) (by omega) (by omega) lr
          obtain ⟨A9, hcutD, hAD, hCD⟩ := print_drop_of (P := Try.prog) (Value.int .i64) 0 23 3 .i64 Try.underlying23 hiI hszI Ar cr row (a1n : Int) (by omega) (by omega) lr
          have HRT0 := Zd.mk (fun W (h : Below w.heap.size w W) => Kd.C_of_reads (h1 := fun _ => rfl) (hAT W (Kd.reads_of_C (Kd.C_below hCr h))))
          have HRD0 := Zd.mk (fun W (h : Below w.heap.size w W) => Kd.C_of_reads (h1 := fun _ => rfl) (hAD W (Kd.reads_of_C (Kd.C_below hCr h))))
          simp only [Int.toNat_natCast] at hcutT hcutD HRT0 HRD0
          rw [← hlt] at hcutT HRT0
          rw [← hld] at hcutD HRD0
          have HLT := Zd.mk (show lt.length ≤ 200 by rw [hlt, List.length_take]; omega)
          have HLD := Zd.mk (show ld.length ≤ 200 by rw [hld, List.length_drop]; omega)
          have hwa : IntKind.i64.wrap ((an : Int) + 1) = (a1n : Int) := by rw [ha1]; exact (i64_w _).trans (w64 (by omega) (by omega))
          generalize cr - a1n = c9 at *
          have hvn1 : (vn : Int) < (ls.length : Int) := by omega
          have hvn2 : (vn : Int) < (nxs.length : Int) := by omega
          have HOK := Zd.mk hok
          have HML := Zd.mk hml
          have HSUB := Zd.mk hsub
          have HNLD := Zd.mk hnlD
          have HNLEN := Zd.mk hnlen
          have HLGET := Zd.mk hlget
          have HMF1 := Zd.mk hmF
          have HMG1 := Zd.mk hmG
          have HSZ := Zd.mk hsz
          have HBA := Zd.mk hba
          have HBC := Zd.mk hbc
          have HRR := Zd.mk hr1
          clear hok hnn hmG hmF hsz hpr hpe hvn hmem hrow hrok hqr hqe han hAT hCT hAD hCD hiI hszI hCr hlt hld ha1 her hnlD hnlL hnlen hlget hml hsub hyes hnot hnot' hey hen hes hbs hba hbc kr0 HGOK HN3 HMG0 HMF0
          clear g2 g3
          go_enter Try.func5, Try.ntmps5
          go_upto_region 1 with fail
          rw [← hW2, ← hgk, ← hgf]
          have HGF := Zd.mk hgf
          clear hW2 hgk hgf
          go_upto_region 3 with (first | (go_at_call 7; refine (HHV.out _ (Below.refl _ _)).mono ?_; rintro e w3 ⟨rfl, hB⟩; have HB3 := Zd.mk hB; have k0_3 := pb_ hB k0; have k1_3 := pb_ hB k1; have k2_3 := pb_ hB k2; have f0_3 := pb_ hB f0; have f1_3 := pb_ hB f1; have f2_3 := pb_ hB f2; clear hB) | (go_at_call 8; refine (HMG.out _ HB3.out).mono ?_; rintro e w4 ⟨rfl, hB⟩; have HB4 := Zd.mk (HB3.out.trans (hB.mono HB3.out.size)); have k0_4 := pb_ hB k0_3; have f0_4 := pb_ hB f0_3; have f1_4 := pb_ hB f1_3; have f2_4 := pb_ hB f2_3; clear hB) | (go_at_call 17; refine (HMF.out _ HB4.out).mono ?_; rintro e w5 ⟨rfl, hB⟩; have HB5 := Zd.mk (HB4.out.trans (hB.mono HB4.out.size)); have k0_5 := pb_ hB k0_4; clear hB))
          clear k0_3 k1_3 k2_3 f0_3 f1_3 f2_3 k0_4 f0_4 f1_4 f2_4
          go_cut [2] (fun v2 wx => v2 = .int .i64 (vn : Int) ∧ wx = w5)
          case first =>
            go_wp2
            go_meet
            exact ⟨by first | (rw [HPE.out]; done) | (rw [HPE.out]; rfl), rfl⟩
          case rest =>
            obtain ⟨rfl, hwc⟩ := hcut
            rw [hwc]
            clear hwc wc HHV HMG HMF HPE HB3 HB4 k0_5
            have k0_5 := pb_ HB5.out k0
            have k1_5 := pb_ HB5.out k1
            have k2_5 := pb_ HB5.out k2
            go_upto_region 5 with fail
            obtain ⟨W6, hW6⟩ : ∃ W : World, W = w5.alloc (.cells #[.slice A0 ls.length c0, .slice A1 ss.length c1, .slice (some adn) nxs.length c2] 26) := ⟨_, rfl⟩
            have hB56 : Below w5.heap.size w5 W6 := by rw [hW6]; exact below_alloc (Below.refl _ _) _
            have hb9 : W6.heap[w5.heap.size]? = some (.cells #[.slice A0 ls.length c0, .slice A1 ss.length c1, .slice (some adn) nxs.length c2] 26 (0, 0)) := by rw [hW6]; exact heap_alloc_new w5 _
            obtain ⟨g9, hg9⟩ : ∃ k, k = w5.heap.size := ⟨_, rfl⟩
            rw [← hW6, ← hg9]
            rw [← hg9] at hb9
            have HB25 := Zd.mk (HB2.out.trans (HB5.out.mono HB2.out.size))
            have HB26 := Zd.mk (HB5.out.trans (hB56.mono HB5.out.size))
            have HB56 := Zd.mk hB56
            have H9G := Zd.mk (show W2.heap.size ≤ g9 by rw [hg9]; exact HB5.out.size)
            have HL9 := Zd.mk (blk_lt hb9)
            have HBL6 := Zd.mk hb9
            have HFN := Zd.mk (show Kd.F (Kd.slice 3 (Kd.int .i64)) w5 (fun k => k < g9) (some adn) nxs.length nxs from by rw [hg9]; exact Kd.C_F (Kd.heap_slice _ (Kd.heap_int _)) (Kd.C_below H2.out HB25.out))
            have k2_6 := pb_ HB26.out k2
            have l2_6 : W6.cell? ⟨g9, 2, none⟩ = some (.slice (some adn) nxs.length c2) := (bq_ hb9 2).trans rfl
            clear hW6 hg9 hB56 hb9 k0_5 k1_5 k2_5
            go_upto_region 6 with (first
              | ((with_reducible refine gate_dst (N := 59) rfl ?_); refine Kd.R_lit (Kd.slice 3 (Kd.int .i64)) (w0 := W6) _ 23 ?hg (N := 59) ?hd (xs := ([] : List (List Int))) (inner := []) (ok := fun k => W6.heap.size ≤ k) (okp := fun _ => False) ?hr ?hp (fun _ hk => hk.elim) (Nat.le_refl _) (Below.refl _ _) (Nat.le_refl _) (by simp) ?_; (case hd => rfl); (case hg => rfl); (case hr => first | (go_simp; done) | (go_simp; rfl)); (case hp => exact (Reps.none _ _)); intro v6_ w6_ ho hb hg_ hnew_; have HO6 := Zd.mk ho; have HB6 := Zd.mk hb; have k2_6a := pb_ hb k2_6; have l2_6a := pb_ hb l2_6; clear ho hb hg_ hnew_)
              | ((with_reducible refine gate_builtin (b := .append) (xs := #[.tmp 59, .tmp 61]) rfl ?_); at_builtin; refine Kd.N_append_rows (Kd.slice 3 (Kd.int .i64)) (w0 := W6) W6.heap.size rfl (.tmp 59) (.tmp 61) 24 23 (.slice none 0 0) 24 rfl huii infoRw rfl (by decide) (by decide) v6_ ([] : List (List Int)) nxs _ _ _ (fun k => k ≠ g9) (fun k => k < g9) rfl rfl ?aO ?aR (fun k hk => ⟨Nat.ne_of_lt hk, fun e => Nat.lt_irrefl _ (Nat.lt_of_lt_of_le (Nat.lt_trans hk HL9.out) (HO6.out.1 k e.symm))⟩) ?aF ?aB ?aS ?aL ?_; (case aO => exact Kd.N_mono (Kd.R_N HO6.out) (fun k hk e => Nat.lt_irrefl _ (Nat.lt_of_lt_of_le HL9.out (e ▸ hk)))); (case aR => exact Kd.F_below HFN.out (HB56.out.trans (HB6.out.mono HB56.out.size))); (case aF => exact (fun k hk e => Nat.lt_irrefl _ (Nat.lt_of_lt_of_le (Nat.lt_of_lt_of_le HL9.out HB6.out.size) (e ▸ hk)))); (case aB => exact HB6.out); (case aS => exact HB6.out.size); (case aL => simp only [List.length_nil]; omega); intro v7_ w7 ho hb hg hat; rw [List.nil_append] at ho; obtain ⟨gl, cl, e7, hgl1, hgl2, _⟩ := Kd.N_form ho (by omega); subst e7; have HN7 := Zd.mk ho; have HB7 := Zd.mk hb; have HGL1 := Zd.mk hgl1; have HGL2 := Zd.mk hgl2; have k2_7 := pb_ hb k2_6; have l2_7 := pb_ hb l2_6; have lf_7 := bz_ ((hb.block _ HL9.out).trans HBL6.out) 2; clear ho hb hg hat hgl1 hgl2))
            obtain ⟨W8, hW8⟩ : ∃ W : World, W = w7.setCell ⟨g9, 2, none⟩ (.slice (some ⟨gl, 0, none⟩) nxs.length cl) := ⟨_, rfl⟩
            rw [← hW8]
            have HB27 := Zd.mk (HB26.out.trans (HB7.out.mono HB26.out.size))
            have HB28 := Zd.mk (show Below W2.heap.size W2 W8 from by rw [hW8]; exact HB27.out.setCell H9G.out _)
            have HBL8 := Zd.mk (show W8.heap[g9]? = some (.cells #[.slice A0 ls.length c0, .slice A1 ss.length c1, .slice (some ⟨gl, 0, none⟩) nxs.length cl] 26 (0, 0)) from by rw [hW8, blk_set ((HB7.out.block _ HL9.out).trans HBL6.out) 2 _]; rfl)
            have HN8 := Zd.mk (show Kd.N (Kd.slice 3 (Kd.int .i64)) 23 W8 W6.heap.size (fun k => k ≠ g9) (.slice (some ⟨gl, 0, none⟩) nxs.length cl) nxs from by rw [hW8]; exact Kd.N_far HN7.out (fun k hk => hk) _)
            have HGLS := Zd.mk (show gl < W8.heap.size by rw [hW8]; simpa using HGL2.out)
            have HGL2W := Zd.mk (Nat.le_trans HB26.out.size HGL1.out)
            have HG9L := Zd.mk (show g9 ≠ gl from fun e => Nat.lt_irrefl _ (Nat.lt_of_lt_of_le HL9.out (e ▸ HGL1.out)))
            clear hW8 k2_6 l2_6 k2_6a l2_6a k2_7 l2_7 lf_7 HO6 HFN HN7
            have k2_8 := pb_ HB28.out k2
            have kr_8 := pb_ HB28.out kr2
            go_cut [3] (fun v3 wx => v3 = .int .i64 (an : Int) ∧ wx = W8)
            case first =>
              go_wp2
              go_meet
              exact ⟨by first | (rw [HQE.out]; done) | (rw [HQE.out]; rfl), rfl⟩
            case rest =>
              obtain ⟨rfl, hwc⟩ := hcut
              rw [hwc]
              clear hwc wc HQE k2_8 kr_8
              go_upto_region 7 with fail
              have hBD : Below W8.heap.size W8 W8.drew := below_drew1 (Below.refl _ _)
              have hBwD : Below w.heap.size w W8.drew := HB2.out.trans ((HB28.out.trans (hBD.mono HB28.out.size)).mono HB2.out.size)
              have HB2C := Zd.mk (HB28.out.trans (hBD.mono HB28.out.size))
              have HN := Zd.mk (Kd.N_drew HN8.out)
              have HBLC := Zd.mk ((hBD.block _ (blk_lt HBL8.out)).trans HBL8.out)
              have HGLC := Zd.mk (Nat.lt_of_lt_of_le HGLS.out hBD.size)
              have HRT := Zd.mk (fun W (h : Below W8.drew.heap.size W8.drew W) => HRT0.out W (hBwD.trans (h.mono hBwD.size)))
              have HRD := Zd.mk (fun W (h : Below W8.drew.heap.size W8.drew W) => HRD0.out W (hBwD.trans (h.mono hBwD.size)))
              have ql : W8.drew.cell? ⟨g9, 2, none⟩ = some (.slice (some ⟨gl, 0, none⟩) nxs.length cl) := (bq_ HBLC.out 2).trans rfl
              have q2 := pb_ HB2C.out k2
              have qr := pb_ HB2C.out kr2
              obtain ⟨cn, hcn, _, hccn, _⟩ := Kd.N_elem HN.out [] (vn : Int) (by omega) (by omega)
              obtain ⟨vl, hvl0⟩ : ∃ v, cn[0]? = some v := ⟨_, List.getElem?_eq_getElem (by rw [hcn]; exact Nat.one_pos)⟩
              have qg : W8.drew.cell? ⟨gl, vn, none⟩ = some vl := by
                have h_ := hccn 0 vl hvl0
                rwa [Int.toNat_natCast, show (vn * (Kd.slice 3 (Kd.int .i64)).sz + 0) = vn from Nat.mul_one vn] at h_
              clear hBD hBwD hcn hccn hvl0 HN8 HB28 HBL8 HRT0 HRD0
              refine start_ (n := 23) (S := fun w' => w'.cell? ⟨g9, 2, none⟩ = some (.slice (some ⟨gl, 0, none⟩) nxs.length cl) ∧ w'.cell? ⟨gk1, 2, none⟩ = some (.slice (some adn) nxs.length c2) ∧ w'.cell? (adn.add vn) = some (.slice Ar row.length cr) ∧ w'.cell? ⟨gl, vn, none⟩ = some vl) (ds := [22]) Mk264_ (by kernel_rfl) rfl rfl ⟨ql, q2, qr, qg⟩ (fun hHeld => ?_)
              refine with_tabW slw.tab7 slw.bits7 (fun HT_ HW_ => ?_)
              generalize W8.drew = WC at *
              refine pz HT_.out 0 (some 75) Mk265_ rfl rfl ?_
              refine pz HT_.out 2 (some 77) Mk266_ rfl rfl ?_
              refine pz HT_.out 4 (some 79) Mk267_ rfl rfl ?_
              refine pz HT_.out 6 (some 81) Mk268_ rfl rfl ?_
              refine pz HT_.out 9 (some 84) Mk269_ rfl rfl ?_
              refine pz HT_.out 12 (some 87) Mk270_ rfl rfl ?_
              refine pz HT_.out 14 (some 89) Mk271_ rfl rfl ?_
              refine pz HT_.out 17 (some 92) Mk272_ rfl rfl ?_
              refine pz HT_.out 18 (some 93) Mk273_ rfl rfl ?_
              refine tz HT_.out HW_.out 1 (some 76) Mk274_ rfl rfl hHeld ?_
              refine tz HT_.out HW_.out 5 (some 80) Mk275_ rfl rfl hHeld ?_
              refine pz HT_.out 7 (some 82) Mk276_ rfl rfl ?_
              refine tz HT_.out HW_.out 8 (some 83) Mk277_ rfl rfl hHeld ?_
              refine pz HT_.out 10 (some 85) Mk278_ rfl rfl ?_
              refine tz HT_.out HW_.out 13 (some 88) Mk279_ rfl rfl hHeld ?_
              refine pz HT_.out 15 (some 90) Mk280_ rfl rfl ?_
              refine tz HT_.out HW_.out 16 (some 91) Mk281_ rfl rfl hHeld ?_
              refine pz HT_.out 19 (some 94) Mk282_ rfl rfl ?_
              refine one_ (i := 3) (N := some 78) Mk283_ rfl rfl (one_of HT_.out (by kernel_rfl)) (by decide) (fun K hK => ?_)
              refine Kd.R_lit_step (Kd.int .i64) (w0 := WC) WC.heap.size 3 (by rfl) (N := 78) rfl (xs := ([] : List Int)) (inner := []) (ok := fun k => WC.heap.size ≤ k) (okp := fun _ => False) ?hr (Reps.none _ _) (fun _ hk => hk.elim) (Nat.le_refl _) (Below.refl _ _) (Nat.le_refl _) (by simp) ?_
              case hr => first | (go_simp; done) | (go_simp; rfl)
              intro v1_ w1_ ho hB hg hat
              have HO1 := Zd.mk ho
              have HB1 := Zd.mk hB
              have ql_ := pb_ hB ql
              have q2_ := pb_ hB q2
              have qr_ := pb_ hB qr
              have qg_ := pb_ hB qg
              clear ho hB hg hat hHeld
              refine hK.out _ _ ⟨ql_, q2_, qr_, qg_⟩ (fun hHeld => ?_)
              clear hK K
              refine norm_ (a' := ?_) ?_ ?_
              rotate_left
              · show Act.put _ (some 78) _ = _
                simp only [Act.put, List.setIfInBounds_toArray, List.set_cons_zero, List.set_cons_succ, i64_w, i32_w]
                rfl
              refine one_ (i := 11) (N := some 86) Mk284_ rfl rfl (one_of HT_.out (by kernel_rfl)) (by decide) (fun K hK => ?_)
              refine Kd.R_append_rows_step (Kd.int .i64) (w0 := WC) WC.heap.size (by rfl) (.tmp 78) (.tmp 85) 23 3 (.int .i64 0) 8 rfl hui infoI rfl (by decide) (by decide) v1_ ([] : List Int) lt Ar lt.length cr (fun k => WC.heap.size ≤ k) (fun _ => False) rfl rfl HO1.out (HRT.out _ HB1.out) (fun _ _ h => h) (fun _ h => h.elim) (fun k hk => Nat.le_trans HB1.out.size hk) HB1.out HB1.out.size (by have := HLT.out; simp only [List.length_nil]; omega) ?_
              intro v2_ w2_ ho hB hg hat
              rw [List.nil_append] at ho
              have HO2 := Zd.mk ho
              have HB2_ := Zd.mk hB
              have qla_ := pb_ hB ql
              have q2a_ := pb_ hB q2
              have qra_ := pb_ hB qr
              have qga_ := pb_ hB qg
              clear ho hB hg hat hHeld
              refine hK.out _ _ ⟨qla_, q2a_, qra_, qga_⟩ (fun hHeld => ?_)
              clear hK K
              refine norm_ (a' := ?_) ?_ ?_
              rotate_left
              · show Act.put _ (some 86) _ = _
                simp only [Act.put, List.setIfInBounds_toArray, List.set_cons_zero, List.set_cons_succ, i64_w, i32_w]
                rfl
              refine one_ (i := 20) (N := some 95) Mk285_ rfl rfl (one_of HT_.out (by kernel_rfl)) (by decide) (fun K hK => ?_)
              refine Kd.R_append_rows_step (Kd.int .i64) (w0 := WC) WC.heap.size (by rfl) (.tmp 86) (.tmp 94) 23 3 (.int .i64 0) 8 rfl hui infoI rfl (by decide) (by decide) v2_ lt ld A9 ld.length c9 (fun k => WC.heap.size ≤ k) (fun _ => False) rfl rfl HO2.out (HRD.out _ HB2_.out) (fun _ _ h => h) (fun _ h => h.elim) (fun k hk => Nat.le_trans HB2_.out.size hk) HB2_.out HB2_.out.size (by have := HLT.out; have := HLD.out; omega) ?_
              intro v3_ w3_ ho hB hg hat
              obtain ⟨A8, n8, c8, e8⟩ : ∃ A n c, v3_ = .slice A n c := (by obtain ⟨A, c, e⟩ := Kd.R_slice ho; exact ⟨A, _, c, e⟩)
              subst e8
              have HO3 := Zd.mk ho
              have HB3_ := Zd.mk hB
              have HN3 := Zd.mk (Kd.N_below HN.out hB)
              have qlb_ := pb_ hB ql
              have q2b_ := pb_ hB q2
              have qrb_ := pb_ hB qr
              have qgb_ := pb_ hB qg
              obtain ⟨cc_, _, _, _, hfz_⟩ := Kd.N_elem HN3.out [] (vn : Int) (by omega) (by omega)
              have fg_ : w3_.frozen? ⟨gl, vn, none⟩ = false := by have h_ := hfz_ 0; rwa [Int.toNat_natCast, show (vn * (Kd.slice 3 (Kd.int .i64)).sz + 0) = vn from Nat.mul_one vn] at h_
              clear ho hB hg hat hHeld hfz_
              refine hK.out _ _ ⟨qlb_, q2b_, qrb_, qgb_⟩ (fun hHeld => ?_)
              clear hK K
              refine norm_ (a' := ?_) ?_ ?_
              rotate_left
              · show Act.put _ (some 95) _ = _
                simp only [Act.put, List.setIfInBounds_toArray, List.set_cons_zero, List.set_cons_succ, i64_w, i32_w]
                rfl
              refine pz HT_.out 21 (some 96) Mk286_ rfl rfl ?_
              refine last_ (i := 22) (N := none) Mk287_ rfl rfl (one_of HT_.out (by kernel_rfl)) (by decide) (fun K hK => ?_)
              refine skip_ (w1 := w3_.setCell ⟨gl, vn, none⟩ (.slice A8 n8 c8)) (by rfl) rfl ?_ ?_
              · (go_simp; try rfl)
              refine hK.out _ _ ?_
              clear hK K
              refine done_ (done_of HT_.out (by kernel_rfl)) ?_
              clear hHeld HT_ HW_
              obtain ⟨W9, hW9⟩ : ∃ W : World, W = w3_.setCell ⟨gl, vn, none⟩ (.slice A8 n8 c8) := ⟨_, rfl⟩
              rw [← hW9]
              have hn8 := (Kd.R_reads' HO3.out).1
              have hNL : Kd.N (Kd.slice 3 (Kd.int .i64)) 23 W9 W6.heap.size (fun k => k ≠ g9) (.slice (some ⟨gl, 0, none⟩) nxs.length cl) nl := by
                obtain ⟨cn, hcn, _, hccn, _⟩ := Kd.N_elem HN3.out [] (vn : Int) (by omega) (by omega)
                have hM : Kd.FK (Kd.slice 3 (Kd.int .i64)) w3_ (fun k => WC.heap.size ≤ k) (lt ++ ld) (cn.take 0 ++ [.slice A8 n8 c8] ++ cn.drop (0 + [Value.slice A8 n8 c8].length)) := by
                  rw [List.drop_eq_nil_of_le (by rw [hcn]; exact Nat.le_refl 1), hn8]
                  have h_ := Kd.N_F (Kd.R_N HO3.out)
                  rw [hn8] at h_
                  exact Kd.FK_slice_mk (by have := (Kd.R_reads' HO3.out).2.1; omega) h_
                have h_ := (Kd.N_seg HN3.out (vn : Int) (by omega) (by omega) hcn hccn (seg := [.slice A8 n8 c8]) (j := 0) (Nat.le_refl 1) hM (fun k hk => ⟨fun e => Nat.lt_irrefl _ (Nat.lt_of_lt_of_le (Nat.lt_of_lt_of_le HL9.out (Nat.le_trans HGL1.out (Nat.le_of_lt HGLC.out))) (e ▸ hk)), fun e => Nat.lt_irrefl _ (Nat.lt_of_lt_of_le HGLC.out (e ▸ hk))⟩)).1
                rw [Int.toNat_natCast, show (vn * (Kd.slice 3 (Kd.int .i64)).sz + 0) = vn from Nat.mul_one vn, ← HNLD.out] at h_
                rw [hW9]
                exact h_
              have HCN := Zd.mk (Kd.N_reads' hNL).2.2
              have hlc := (Kd.N_reads' hNL).2.1
              have HB29 := Zd.mk (show Below W2.heap.size W2 W9 from by rw [hW9]; exact (HB2C.out.trans (HB3_.out.mono HB2C.out.size)).setCell HGL2W.out _)
              have HBL9 := Zd.mk (show W9.heap[g9]? = some (.cells #[.slice A0 ls.length c0, .slice A1 ss.length c1, .slice (some ⟨gl, 0, none⟩) nxs.length cl] 26 (0, 0)) from by rw [hW9, Below.heap_setCell w3_ ⟨gl, vn, none⟩ _ g9 HG9L.out]; exact (HB3_.out.block _ (blk_lt HBLC.out)).trans HBLC.out)
              obtain ⟨adl, A7, c7, eL, qv, _, _⟩ := row_at (Kd.C_below HCN.out (Below.refl _ _)) (j := vn) (by rw [HNLEN.out]; omega)
              cases eL
              obtain ⟨nv, hnv⟩ : ∃ n, n = (lt ++ ld).length := ⟨_, rfl⟩
              have qv9 : W9.cell? ⟨gl, vn, none⟩ = some (.slice A7 nv c7) := by
                rwa [HLGET.out, ← hnv, add_at, Nat.zero_add] at qv
              have HBw9 := Zd.mk (HB2.out.trans (HB29.out.mono HB2.out.size))
              have l0_9 : W9.cell? ⟨g9, 0, none⟩ = some (.slice A0 ls.length c0) := (bq_ HBL9.out 0).trans rfl
              have l1_9 : W9.cell? ⟨g9, 1, none⟩ = some (.slice A1 ss.length c1) := (bq_ HBL9.out 1).trans rfl
              have l2_9 : W9.cell? ⟨g9, 2, none⟩ = some (.slice (some ⟨gl, 0, none⟩) nxs.length cl) := (bq_ HBL9.out 2).trans rfl
              have QL := Zd.mk (And.intro l0_9 (And.intro l1_9 (And.intro l2_9 qv9)))
              have QK := Zd.mk (And.intro k0 (And.intro k1 k2))
              have QF := Zd.mk (And.intro f0 (And.intro f1 f2))
              have hlc2 : nl.length ≤ cl := by rw [HNLEN.out]; exact hlc
              obtain ⟨ke, hke⟩ := (smay_ev ls ss nl (by omega) (by rw [HNLEN.out]; omega) (fun x hx => by
                rw [HNLD.out] at hx
                rcases List.mem_or_eq_of_mem_set hx with h | h
                · exact BX.out x h
                · rw [h, List.length_append]; have := HLT.out; have := HLD.out; omega)).rounds
              have HME := Zd.mk (fun W (hb : Below W9.heap.size W9 W) => show Calls Try.prog 18 #[.agg #[.slice A0 ls.length c0, .slice A1 ss.length c1, .slice (some ⟨gl, 0, none⟩) nxs.length cl]] W (fun e w' => e = .returned (.int .i64 (mayG ls ss nl)) ∧ Below W.heap.size W w') from by
                have h_ := search_May.calls ke A0 c0 ls A1 c1 ss (some ⟨gl, 0, none⟩) cl nl (mayG ls ss nl) W (Kd.C_below H0.out (HBw9.out.trans (hb.mono HBw9.out.size))) l0 (Kd.C_below H1.out (HBw9.out.trans (hb.mono HBw9.out.size))) l1 (Kd.C_below HCN.out hb) hlc2 hke
                rw [HNLEN.out] at h_
                exact h_)
              have HNV := Zd.mk hnv
              clear k0 k1 k2 f0 f1 f2 kr2 l0_9 l1_9 l2_9 qv9 qv ql q2 qr qg ql_ q2_ qr_ qg_ qla_ q2a_ qra_ qga_ qlb_ q2b_ qrb_ qgb_ fg_ hke hnv hn8 hNL hlc hW9 HO1 HB1 HO2 HB2_ HO3 HB3_ HN3 HN HRT HRD HB2C HBLC hcutT hcutD hwa HNLD HB25 HB26 HB27 HB56
              go_upto_region 9 with fail
              obtain ⟨W10, hW10⟩ : ∃ W : World, W = W9.alloc (.cells #[.int .i64 1, .int .i64 0, .slice none 0 0] 29) := ⟨_, rfl⟩
              have hB10 : Below W9.heap.size W9 W10 := by rw [hW10]; exact below_alloc (Below.refl _ _) _
              have hb10 : W10.heap[W9.heap.size]? = some (.cells #[.int .i64 1, .int .i64 0, .slice none 0 0] 29 (0, 0)) := by rw [hW10]; exact heap_alloc_new W9 _
              obtain ⟨g10, hg10⟩ : ∃ k, k = W9.heap.size := ⟨_, rfl⟩
              rw [← hW10, ← hg10]
              rw [← hg10] at hb10
              have HB10 := Zd.mk hB10
              have HBL10 := Zd.mk hb10
              have HBx10 := Zd.mk (HB29.out.trans (hB10.mono HB29.out.size))
              have k0_10 := pb_ HBx10.out QK.out.1
              have k1_10 := pb_ HBx10.out QK.out.2.1
              have k2_10 := pb_ HBx10.out QK.out.2.2
              have y0_10 : W10.cell? ⟨g10, 0, none⟩ = some (.int .i64 1) := (bq_ hb10 0).trans rfl
              have y1_10 : W10.cell? ⟨g10, 1, none⟩ = some (.int .i64 0) := (bq_ hb10 1).trans rfl
              have y2_10 : W10.cell? ⟨g10, 2, none⟩ = some (.slice none 0 0) := (bq_ hb10 2).trans rfl
              clear hW10 hB10 hb10 hg10
              go_upto_region 10 with (go_at_call 11; refine (HF1.out _ (HBw9.out.trans (HB10.out.mono HBw9.out.size))).mono ?_; rintro e w11 ⟨p1_, p2_, rfl, hB⟩; have HB11 := Zd.mk (HB10.out.trans (hB.mono HB10.out.size)); have k0_11 := pb_ hB k0_10; have k1_11 := pb_ hB k1_10; have k2_11 := pb_ hB k2_10; have y0_11 := pb_ hB y0_10; have y1_11 := pb_ hB y1_10; have y2_11 := pb_ hB y2_10; clear hB)
              clear k0_10 k1_10 k2_10 y0_10 y1_10 y2_10
              go_upto_region 11 with (go_at_call 12; refine (HA1.out _ _ (below_alloc (HBw9.out.trans (HB11.out.mono HBw9.out.size)) _) (heap_alloc_new _ _)).mono ?_; rintro e w13 ⟨rfl, hB⟩; have HB13 := Zd.mk ((below_alloc HB11.out _).trans (hB.mono (below_alloc HB11.out _).size)); clear hB)
              clear k0_11 k1_11 k2_11 y0_11 y1_11 y2_11
              have HBx13 := Zd.mk (HB29.out.trans (HB13.out.mono HB29.out.size))
              have k1_13 := pb_ HBx13.out QK.out.2.1
              have l2_13 := pb_ HB13.out QL.out.2.2.1
              have qv_13 := pb_ HB13.out QL.out.2.2.2
              clear HF1 HA1 HB10 HB11 HBx10 HBL10
              by_cases hz : nv = 0
              · have t5 : ((nv : Int) == 0) = true := by rw [hz]; rfl
                have hm1 : mayG ls ss nl = 1 := by rw [HML.out, if_pos (List.length_eq_zero_iff.1 (HNV.out.symm.trans hz))]
                rw [hm1] at HME
                have l0_13 := pb_ HB13.out QL.out.1
                have l1_13 := pb_ HB13.out QL.out.2.1
                clear hz hm1
                go_wp2_with (first
                  | (go_at_call 18; refine (HME.out _ HB13.out).mono ?_; rintro e w14 ⟨rfl, hB⟩; have HB14 := Zd.mk (HB13.out.trans (hB.mono HB13.out.size)); clear hB)
                  | (go_at_call 10; refine (awake_calls _).mono ?_; rintro e w9 ⟨rfl, hB⟩; have HB9 := Zd.mk (HB14.out.trans (hB.mono HB14.out.size)); clear hB))
                go_ret
                exact ⟨rfl, HBw9.out.trans (HB9.out.mono HBw9.out.size)⟩
              · have t5 : ((nv : Int) == 0) = false := beq_eq_false_iff_ne.2 (by omega)
                have hm0 : mayG ls ss nl = 0 := by rw [HML.out, if_neg (fun e => hz (by rw [HNV.out, e]; rfl))]
                have hgo := mayG_ok hm0
                have hel : newErr ls ss nl s = 0 := err_zero hm0 HMF1.out (by have := HSZ.out; omega)
                obtain ⟨bb, hbb⟩ : ∃ b, (findG ls ss nl s true).isSome = b := ⟨_, rfl⟩
                obtain ⟨bd, hbd⟩ : ∃ b, (findG ls ss nl s false).isNone = b := ⟨_, rfl⟩
                have hab : (ba || !bb) = true := imp_bool (fun h => by
                  rw [← HBA.out]
                  exact L.less_found HOK.out hgo HMF1.out HSUB.out (by rw [hbb]; exact h))
                have hcd : (bd || !bc) = true := imp_bool (fun h => by
                  rw [← hbd]
                  cases e : findG ls ss nl s false with
                  | none => rfl
                  | some q =>
                    have h2_ := L.less_found HOK.out hgo HMF1.out HSUB.out (want := false) (by rw [e]; rfl)
                    have h3_ : (findG ls ss nxs s false).isNone = true := HBC.out.trans h
                    cases e3 : findG ls ss nxs s false with
                    | none => rw [e3] at h2_; cases h2_
                    | some q2 => rw [e3] at h3_; cases h3_)
                have HF3 := Zd.mk (fun W (hb : Below W9.heap.size W9 W) => show Calls Try.prog 11 #[.agg #[.slice A0 ls.length c0, .slice A1 ss.length c1, .slice (some ⟨gl, 0, none⟩) nxs.length cl], .agg #[.int .i64 s.f0, .int .i64 s.f1, .slice A5 s.f2.length c5]] W (fun e w' => ∃ v1 v2, e = .returned (.tuple #[v1, v2, .bool bb, .int .i64 0]) ∧ Below W.heap.size W w') from by
                  have h_ := Find_ok hel hbb A0 A1 (some ⟨gl, 0, none⟩) A5 c0 c1 cl c5 W (Kd.C_below H0.out (HBw9.out.trans (hb.mono HBw9.out.size))) l0 (Kd.C_below H1.out (HBw9.out.trans (hb.mono HBw9.out.size))) l1 (Kd.C_below HCN.out hb) hlc2 (Kd.C_below H5.out (HBw9.out.trans (hb.mono HBw9.out.size))) l5
                  rw [HNLEN.out] at h_
                  exact h_)
                have HA3 := Zd.mk (fun W (hb : Below W9.heap.size W9 W) => show Calls Try.prog 12 #[.agg #[.slice A0 ls.length c0, .slice A1 ss.length c1, .slice (some ⟨gl, 0, none⟩) nxs.length cl], .agg #[.int .i64 s.f0, .int .i64 s.f1, .slice A5 s.f2.length c5]] W (fun e w' => e = .returned (.tuple #[.bool bd, .int .i64 0]) ∧ Below W.heap.size W w') from by
                  have h_ := All_ok hel hbd A0 A1 (some ⟨gl, 0, none⟩) A5 c0 c1 cl c5 W (Kd.C_below H0.out (HBw9.out.trans (hb.mono HBw9.out.size))) l0 (Kd.C_below H1.out (HBw9.out.trans (hb.mono HBw9.out.size))) l1 (Kd.C_below HCN.out hb) hlc2 (Kd.C_below H5.out (HBw9.out.trans (hb.mono HBw9.out.size))) l5
                  rw [HNLEN.out] at h_
                  exact h_)
                have HAB := Zd.mk hab
                have HCD := Zd.mk hcd
                clear hz hm0 hgo hel hbb hbd hab hcd
                have k0_13 := pb_ HBx13.out QK.out.1
                have k2_13 := pb_ HBx13.out QK.out.2.2
                have f0_13 := pb_ HBx13.out QF.out.1
                have f1_13 := pb_ HBx13.out QF.out.2.1
                have f2_13 := pb_ HBx13.out QF.out.2.2
                go_upto_region 16 with (go_at_call 11; refine (HF2.out _ (HBw9.out.trans (HB13.out.mono HBw9.out.size))).mono ?_; rintro e w14 ⟨p3_, p4_, rfl, hB⟩; have HB14 := Zd.mk (HB13.out.trans (hB.mono HB13.out.size)); clear hB)
                have HBx14 := Zd.mk (HB29.out.trans (HB14.out.mono HB29.out.size))
                have f0_14 := pb_ HBx14.out QF.out.1
                have f1_14 := pb_ HBx14.out QF.out.2.1
                have f2_14 := pb_ HBx14.out QF.out.2.2
                have l0_14 := pb_ HB14.out QL.out.1
                have l1_14 := pb_ HB14.out QL.out.2.1
                have l2_14 := pb_ HB14.out QL.out.2.2.1
                clear k0_13 k1_13 k2_13 f0_13 f1_13 f2_13 l2_13 qv_13
                go_upto_region 17 with (go_at_call 11; refine (HF3.out _ HB14.out).mono ?_; rintro e w15 ⟨p5_, p6_, rfl, hB⟩; have HB15 := Zd.mk (HB14.out.trans (hB.mono HB14.out.size)); clear hB)
                have HBx15 := Zd.mk (HB29.out.trans (HB15.out.mono HB29.out.size))
                have f0_15 := pb_ HBx15.out QF.out.1
                have f1_15 := pb_ HBx15.out QF.out.2.1
                have f2_15 := pb_ HBx15.out QF.out.2.2
                have k0_15 := pb_ HBx15.out QK.out.1
                have k1_15 := pb_ HBx15.out QK.out.2.1
                have k2_15 := pb_ HBx15.out QK.out.2.2
                clear f0_14 f1_14 f2_14 l0_14 l1_14 l2_14
                go_upto_region 18 with (go_at_call 12; refine (HA2.out _ (HBw9.out.trans (HB15.out.mono HBw9.out.size))).mono ?_; rintro e w16 ⟨rfl, hB⟩; have HB16 := Zd.mk (HB15.out.trans (hB.mono HB15.out.size)); clear hB)
                have HBx16 := Zd.mk (HB29.out.trans (HB16.out.mono HB29.out.size))
                have f0_16 := pb_ HBx16.out QF.out.1
                have f1_16 := pb_ HBx16.out QF.out.2.1
                have f2_16 := pb_ HBx16.out QF.out.2.2
                have l0_16 := pb_ HB16.out QL.out.1
                have l1_16 := pb_ HB16.out QL.out.2.1
                have l2_16 := pb_ HB16.out QL.out.2.2.1
                clear f0_15 f1_15 f2_15 k0_15 k1_15 k2_15
                go_upto_region 19 with (go_at_call 12; refine (HA3.out _ HB16.out).mono ?_; rintro e w17 ⟨rfl, hB⟩; have HB17 := Zd.mk (HB16.out.trans (hB.mono HB16.out.size)); clear hB)
                clear f0_16 f1_16 f2_16 l0_16 l1_16 l2_16
                clear HF2 HF3 HA2 HA3 HME HBx14 HBx15 HBx16
                cases ba <;> cases bb <;> cases bc <;> cases bd <;> first
                  | exact absurd HAB.out (by decide)
                  | exact absurd HCD.out (by decide)
                  | (go_wp2_with (go_at_call 10; refine (awake_calls _).mono ?_; rintro e w9 ⟨rfl, hB⟩; have HB9 := Zd.mk (HB17.out.trans (hB.mono HB17.out.size)); clear hB)
                     go_ret
                     exact ⟨rfl, HBw9.out.trans (HB9.out.mono HBw9.out.size)⟩)
      · have t3 : (mf != 0) = true := by simpa using g3
        clear g2
        go_enter Try.func5, Try.ntmps5
        go_upto_region 1 with fail
        rw [← hW2, ← hgk, ← hgf]
        clear hW2 hgk hgf
        go_wp2_with (first | (go_at_call 7; refine (HHV.out _ (Below.refl _ _)).mono ?_; rintro e w3 ⟨rfl, hB⟩; have HB3 := Zd.mk hB; have k0_3 := pb_ hB k0; have k1_3 := pb_ hB k1; have k2_3 := pb_ hB k2; have f0_3 := pb_ hB f0; have f1_3 := pb_ hB f1; have f2_3 := pb_ hB f2; clear hB) | (go_at_call 8; refine (HMG.out _ HB3.out).mono ?_; rintro e w4 ⟨rfl, hB⟩; have HB4 := Zd.mk (HB3.out.trans (hB.mono HB3.out.size)); have k0_4 := pb_ hB k0_3; have f0_4 := pb_ hB f0_3; have f1_4 := pb_ hB f1_3; have f2_4 := pb_ hB f2_3; clear hB) | (go_at_call 17; refine (HMF.out _ HB4.out).mono ?_; rintro e w5 ⟨rfl, hB⟩; have HB5 := Zd.mk (HB4.out.trans (hB.mono HB4.out.size)); have k0_5 := pb_ hB k0_4; clear hB) | (go_at_call 10; refine (awake_calls _).mono ?_; rintro e w9 ⟨rfl, hB⟩; have HB9 := Zd.mk (HB5.out.trans (hB.mono HB5.out.size)); clear hB))
        go_ret
        exact ⟨rfl, HB2.out.trans (HB9.out.mono HB2.out.size)⟩
    · have t2 : (mg != 0) = true := by simpa using g2
      go_enter Try.func5, Try.ntmps5
      go_upto_region 1 with fail
      rw [← hW2, ← hgk, ← hgf]
      clear hW2 hgk hgf
      go_wp2_with (first | (go_at_call 7; refine (HHV.out _ (Below.refl _ _)).mono ?_; rintro e w3 ⟨rfl, hB⟩; have HB3 := Zd.mk hB; have k0_3 := pb_ hB k0; have k1_3 := pb_ hB k1; have k2_3 := pb_ hB k2; have f0_3 := pb_ hB f0; have f1_3 := pb_ hB f1; have f2_3 := pb_ hB f2; clear hB) | (go_at_call 8; refine (HMG.out _ HB3.out).mono ?_; rintro e w4 ⟨rfl, hB⟩; have HB4 := Zd.mk (HB3.out.trans (hB.mono HB3.out.size)); have k0_4 := pb_ hB k0_3; have f0_4 := pb_ hB f0_3; have f1_4 := pb_ hB f1_3; have f2_4 := pb_ hB f2_3; clear hB) | (go_at_call 10; refine (awake_calls _).mono ?_; rintro e w9 ⟨rfl, hB⟩; have HB9 := Zd.mk (HB4.out.trans (hB.mono HB4.out.size)); clear hB))
      go_ret
      exact ⟨rfl, HB2.out.trans (HB9.out.mono HB2.out.size)⟩
def parrylaw24_SearchLess.f (l0_0 : List Int) (l0_1 : List Int) (l0_2 : List (List Int)) (a1_0 : Int) (a1_1 : Int) (l1_2 : List S29) (a2 : Int) (a3 : Int) : Option Bool := if l0_0.length < 4611686018427387904 ∧ l0_1.length < 4611686018427387904 ∧ l0_2.length < 1000000000000000 ∧ ∀ x, x ∈ l0_2 → x.length ≤ 9223372036854775807 then some true else none
theorem parrylaw24_SearchLess.calls (A0_0 : Option Addr) (c0_0 : Nat) (l0_0 : List Int) (A0_1 : Option Addr) (c0_1 : Nat) (l0_1 : List Int) (A0_2 : Option Addr) (c0_2 : Nat) (l0_2 : List (List Int)) (a1_0 : Int) (a1_1 : Int) (A1_2 : Option Addr) (c1_2 : Nat) (l1_2 : List S29) (a2 : Int) (a3 : Int) (r : Bool) (w : World) (hr0_0 : Kd.C (Kd.int .u32) w A0_0 l0_0.length l0_0) (hc0_0 : l0_0.length ≤ c0_0) (hr0_1 : Kd.C (Kd.int .i64) w A0_1 l0_1.length l0_1) (hc0_1 : l0_1.length ≤ c0_1) (hr0_2 : Kd.C (Kd.slice 3 (Kd.int .i64)) w A0_2 l0_2.length l0_2) (hc0_2 : l0_2.length ≤ c0_2) (hr1_2 : Kd.C k29 w A1_2 l1_2.length l1_2) (hc1_2 : l1_2.length ≤ c1_2) (h : parrylaw24_SearchLess.f l0_0 l0_1 l0_2 a1_0 a1_1 l1_2 a2 a3 = some r) (hrt : r = true) :
    Calls Try.prog 5 #[.agg #[.slice A0_0 l0_0.length c0_0, .slice A0_1 l0_1.length c0_1, .slice A0_2 l0_2.length c0_2], .agg #[.int .i64 a1_0, .int .i64 a1_1, .slice A1_2 l1_2.length c1_2], .int .i64 a2, .int .i64 a3] w fun e w' => e = .returned (.bool r) ∧ Below w.heap.size w w' := by
  subst hrt
  unfold parrylaw24_SearchLess.f at h
  split at h
  · rename_i hb
    exact searchLess_walk l0_0 l0_1 l0_2 ⟨a1_0, a1_1, l1_2⟩ a2 a3 A0_0 A0_1 A0_2 A1_2 c0_0 c0_1 c0_2 c1_2 w hb.1 hb.2.1 hb.2.2.1 hb.2.2.2 hr0_0 hc0_0 hr0_1 hc0_1 hr0_2 hc0_2 hr1_2 hc1_2
  · cases h
end Go.Proofs.Ytapejnikpmfddaa.X
