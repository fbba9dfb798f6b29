/- A part of the claim TableauNots. -/
import Derived.ChangeArms
import Derived.SizedLaws
import Derived.WideShapes
import Derived.Test.YtegaicoddnmemaaQTableauNotsa
import Derived.Test.YtegaicoddnmemaaQTableauNotsb
import Derived.Test.YtegaicoddnmemaaQTableauNotsc
import Derived.Test.YtegaicoddnmemaaQTableauNotsd
namespace Go.Proofs.Ytegaicoddnmemaa.X
open Go.RowKit Go.Proofs.YtegaicoddnmemaaW.PrintWords Go.Proofs.YtegaicoddnmemaaW.PrintMore
open Go.Proofs.Ytegaicoddnmemaa.P Go.Proofs.Ytegaicoddnmemaa.Evx
set_option linter.unusedVariables false
set_option linter.unusedSimpArgs false
/-- What weigh tells is a number from 1 to 1000. -/
def WeiAt (s : S24) : Prop := ∀ (d r : Int), 0 ≤ d → d ≤ 41 → 0 ≤ r → r ≤ 500 → ∃ n : Int, Ev (fun k => parrylaw22_weigh.f k s.f0 s.f1 s.f2 d r) n ∧ 1 ≤ n ∧ n ≤ 1000
theorem weigh_l (kids : List S24) (d r : Int) (hd0 : 0 ≤ d) (hd : d ≤ 40) (hr0 : 1 ≤ r) (hr : r ≤ 500) (ih : ∀ k ∈ kids, WeiAt k) :
    ∀ (e j : Nat) (n : Int), j + e = kids.length → (j : Int) < n → n ≤ r → ∃ n' : Int, Ev (fun k => parrylaw22_weigh.l0 k d r n kids (kids.length : Int) j) n' ∧ 1 ≤ n' ∧ n' ≤ 1000
  | 0, j, n, hj, h1, h2 => ⟨n, ev_step (fun k => rfl) (ev_neg (by omega) (ev_some _)), by omega, by omega⟩
  | e + 1, j, n, hj, h1, h2 => by
    have hlt : j < kids.length := by omega
    obtain ⟨x, hx, x1, x2⟩ := ih _ (List.getElem_mem hlt) (d + 1) (r - n) (by omega) (by omega) (by omega) (by omega)
    by_cases hc : n + x > r
    · refine ⟨1000, ev_step (fun k => rfl) (ev_pos (by omega) (ev_pos (by omega) (ev_pos (by omega) ?_))), by omega, by omega⟩
      rw [rdT_nat kids j hlt, w64 (x := d + 1) (by omega) (by omega), w64 (x := r - n) (by omega) (by omega)]
      refine ev_bind hx ?_
      rw [w64 (by omega) (by omega)]
      exact ev_pos hc (ev_some _)
    · obtain ⟨n', hn', a1, a2⟩ := weigh_l kids d r hd0 hd hr0 hr ih e (j + 1) (n + x) (by omega) (by omega) (by omega)
      refine ⟨n', ev_step (fun k => rfl) (ev_pos (by omega) (ev_pos (by omega) (ev_pos (by omega) ?_))), a1, a2⟩
      rw [rdT_nat kids j hlt, w64 (x := d + 1) (by omega) (by omega), w64 (x := r - n) (by omega) (by omega)]
      refine ev_bind hx ?_
      rw [w64 (x := n + x) (by omega) (by omega), w64 (x := (j : Int) + 1) (by omega) (by omega)]
      refine ev_neg hc ?_
      exact_mod_cast hn'
mutual
theorem weigh_ev : ∀ s : S24, WeiAt s
  | ⟨op, m, kids⟩ => by
    intro d r h1 h2 h3 h4
    have ih := weigh_evL kids
    by_cases hd : d > 40
    · exact ⟨1000, ev_step (fun k => rfl) (ev_pos hd (ev_step (f := fun _ => some 1000) (fun k => rfl) (ev_some _))), by omega, by omega⟩
    · by_cases hr : r < 1
      · exact ⟨1000, ev_step (fun k => rfl) (ev_neg hd (ev_step (fun k => rfl) (ev_pos (decide_eq_true hr) (ev_some _)))), by omega, by omega⟩
      · obtain ⟨n', hn', a1, a2⟩ := weigh_l kids d r h1 (by omega) (by omega) h4 ih kids.length 0 1 (by omega) (by omega) (by omega)
        exact ⟨n', ev_step (fun k => rfl) (ev_neg hd (ev_step (fun k => rfl) (ev_neg (by rw [decide_eq_false hr]; simp) hn'))), a1, a2⟩
theorem weigh_evL : ∀ l : List S24, ∀ k ∈ l, WeiAt k
  | [], k, hk => by cases hk
  | a :: r, k, hk => by
    rcases List.mem_cons.1 hk with e | e
    · rw [e]; exact weigh_ev a
    · exact weigh_evL r k e
end
theorem heavy_ev (s : S24) : ∃ n : Int, Ev (fun k => parrylaw22_Heavy.f k s.f0 s.f1 s.f2) n ∧ 0 ≤ n ∧ n ≤ 1000 := by
  obtain ⟨n, hn, a1, a2⟩ := weigh_ev s 0 500 (by omega) (by omega) (by omega) (by omega)
  unfold parrylaw22_Heavy.f
  by_cases h : n > 300
  · exact ⟨n, ev_bind hn (ev_pos h (ev_some _)), by omega, by omega⟩
  · exact ⟨0, ev_bind hn (ev_neg h (ev_some _)), by omega, by omega⟩
end Go.Proofs.Ytegaicoddnmemaa.X

namespace Go.Proofs.Ytegaicoddnmemaa.X
open Go.RowKit Go.Proofs.YtegaicoddnmemaaW.PrintWords Go.Proofs.YtegaicoddnmemaaW.PrintLast Go.Proofs.YtegaicoddnmemaaW.PrintMore
open Go.Proofs.Ytegaicoddnmemaa.P Go.Proofs.Ytegaicoddnmemaa.Evx
set_option linter.unusedSimpArgs false
set_option linter.unusedVariables false
section
variable {w w1 : World} {ob : Nat} {a b c : Value}
end
/-- Rows of bools, grown out of vs since W0; beside them a block rb that may be written. -/
structure Rows {ι : Type} [DecidableEq ι] (w0 W0 : World) (rb : Nat) (vs : ι → Value) (w : World) (v : ι → Value) (l : ι → List Bool) : Prop where
  o : ∀ i, w.ownsRow w0.heap.size 4 1 (v i) (l i).length (encs Value.bool (l i))
  ne : ∀ i j, i ≠ j → (v i).ownBlock = none ∨ (v i).ownBlock ≠ (v j).ownBlock
  kp : Kept W0 w (fun k => (∃ i, some k = (vs i).ownBlock) ∨ k = rb)
  n : ∀ i k, (v i).ownBlock = some k → some k = (vs i).ownBlock ∨ W0.heap.size ≤ k
  lt : ∀ i k, (vs i).ownBlock = some k → k < W0.heap.size
  rl : rb < W0.heap.size
  r : ∀ i, some rb ≠ (vs i).ownBlock
  bl : Below w0.heap.size w0 w
  rb0 : w0.heap.size ≤ rb
section
variable {ι : Type} [DecidableEq ι] {w0 W0 w w1 : World} {rb g cap : Nat} {vs v : ι → Value} {l : ι → List Bool}
theorem Rows.rbv (h : Rows w0 W0 rb vs w v l) (i : ι) : some rb ≠ (v i).ownBlock := fun e => by
  rcases h.n i rb e.symm with h1 | h1
  · exact h.r i h1
  · have := h.rl; omega
theorem Rows.step (h : Rows w0 W0 rb vs w v l) (hk : Kept w w1 (fun k => k = rb)) (hb : Below w0.heap.size w0 w1) : Rows w0 W0 rb vs w1 v l :=
  { h with
    o := fun i => own_move (h.o i) (fun k hk1 => hk.2 k (own_lt (h.o i) k hk1) (fun e => h.rbv i (by rw [hk1, e])))
    kp := h.kp.then_ hk (fun k e => .inl (.inr e))
    bl := hb }
theorem Rows.alloc (h : Rows w0 W0 rb vs w v l) (o : Obj) : Rows w0 W0 rb vs (w.alloc o) v l := h.step ((Kept.refl w _).alloc o) (below_alloc h.bl _)
theorem Rows.drew (h : Rows w0 W0 rb vs w v l) : Rows w0 W0 rb vs w.drew v l := h.step ((Kept.refl w _).drew) (below_drew1 h.bl)
theorem Rows.below (h : Rows w0 W0 rb vs w v l) (hb : Below w.heap.size w w1) : Rows w0 W0 rb vs w1 v l := h.step (Kept.of_below hb _) (h.bl.trans (hb.mono h.bl.size))
theorem Rows.setR (h : Rows w0 W0 rb vs w v l) (j : Nat) (u : Value) : Rows w0 W0 rb vs (w.setCell ⟨rb, j, none⟩ u) v l :=
  h.step (Kept.setCell (p := ⟨rb, j, none⟩) (Kept.refl w (fun k => k = rb)) (.inl rfl) u) (h.bl.setCell h.rb0 u)
/-- A bool of row i written. -/
theorem Rows.put (h : Rows w0 W0 rb vs w v l) (i : ι) {k : Nat} (hk : k < (l i).length) :
    ∃ g c, v i = .slice (some ⟨g, 0, none⟩) (l i).length c ∧ g ≠ rb ∧ w.cell? ⟨g, k, none⟩ = some (.bool ((l i).getD k false)) ∧ w.frozen? ⟨g, k, none⟩ = false ∧ (some g = (vs i).ownBlock ∨ W0.heap.size ≤ g) ∧
      ∀ b, Rows w0 W0 rb vs (w.setCell ⟨g, k, none⟩ (.bool b)) v (fun j => if j = i then (l i).set k b else l j) := by
  obtain ⟨g, c, e, hb, hl, p, q, s⟩ := own_put (h.o i) hk
  have hob : (v i).ownBlock = some g := by rw [e]; rfl
  refine ⟨g, c, e, fun e2 => h.rbv i (by rw [hob, e2]), p, q, ?_, fun b => ?_⟩
  · rcases h.n i g hob with h1 | h1
    · exact .inl h1
    · exact .inr h1
  · refine { h with o := ?_, kp := ?_, bl := h.bl.setCell hb _ }
    · intro j
      by_cases hj : j = i
      · subst hj
        simp only [if_pos]
        exact s b
      · simp only [if_neg hj]
        refine own_setCell (p := ⟨g, k, none⟩) (h.o j) (fun e2 => ?_) _
        rcases h.ne i j (Ne.symm hj) with h1 | h1
        · rw [hob] at h1; cases h1
        · exact h1 (by rw [hob, e2])
    · refine h.kp.setCell (p := ⟨g, k, none⟩) ?_ _
      rcases h.n i g hob with h1 | h1
      · exact .inl (.inl ⟨i, h1⟩)
      · exact .inr h1
end
end Go.Proofs.Ytegaicoddnmemaa.X

namespace Go.Proofs.Ytegaicoddnmemaa.X
open Go.RowKit Go.Proofs.YtegaicoddnmemaaW.PrintWords Go.Proofs.YtegaicoddnmemaaW.PrintLast Go.Proofs.YtegaicoddnmemaaW.PrintMore
open Go.Proofs.Ytegaicoddnmemaa.P Go.Proofs.Ytegaicoddnmemaa.Evx
set_option linter.unusedSimpArgs false
set_option linter.unusedVariables false
/-- Rows of bools of one's own, each apart from the others. -/
structure R3 {ι : Type} [DecidableEq ι] (w0 w : World) (v : ι → Value) (l : ι → List Bool) : Prop where
  o : ∀ i, w.ownsRow w0.heap.size 4 1 (v i) (l i).length (encs Value.bool (l i))
  ne : ∀ i j, i ≠ j → (v i).ownBlock = none ∨ (v i).ownBlock ≠ (v j).ownBlock
  bl : Below w0.heap.size w0 w
section
variable {ι : Type} [DecidableEq ι] {w0 W0 w w1 : World} {rb g cap : Nat} {vs v v1 : ι → Value} {l l1 : ι → List Bool}
theorem R3.below (h : R3 w0 w v l) (hb : Below w.heap.size w w1) : R3 w0 w1 v l := ⟨fun i => own_move (h.o i) (fun k hk => hb.block k (own_lt (h.o i) k hk)), h.ne, h.bl.trans (hb.mono h.bl.size)⟩
theorem R3.set (h : R3 w0 w v l) {p : Addr} (hne : ∀ i, some p.block ≠ (v i).ownBlock) (hp : w0.heap.size ≤ p.block) (u : Value) : R3 w0 (w.setCell p u) v l := ⟨fun i => own_setCell (h.o i) (hne i) u, h.ne, h.bl.setCell hp u⟩
theorem Rows.r3 (h : Rows w0 W0 rb vs w v l) : R3 w0 w v l := ⟨h.o, h.ne, h.bl⟩
theorem R3.rows (h : R3 w0 w v l) {cs : Array Value} {t : TypeId} (hb : w.heap[rb]? = some (.cells cs t (0, 0))) (ht : 4 ≠ t) (hr : w0.heap.size ≤ rb) : Rows w0 w rb v w v l :=
  { o := h.o, ne := h.ne, kp := Kept.refl _ _, n := fun _ _ e => .inl e.symm, lt := fun i => own_lt (h.o i), rl := blk_lt hb, bl := h.bl, rb0 := hr
    r := fun i e => by
      obtain ⟨cs2, hc⟩ := own_typed (h.o i) rb e.symm
      exact blk_ne hc hb ht rfl }
/-- Behind a call that was given the rows. -/
theorem Rows.call (h : Rows w0 W0 rb vs w v l) (k : R3 w0 w1 v1 l1) (hk : Kept w w1 (fun k => ∃ i, some k = (v i).ownBlock)) (hn : ∀ i k, (v1 i).ownBlock = some k → some k = (v i).ownBlock ∨ w.heap.size ≤ k) : Rows w0 W0 rb vs w1 v1 l1 :=
  { h with
    o := k.o
    ne := k.ne
    bl := k.bl
    kp := h.kp.then_ hk (fun j e => by
      obtain ⟨i, e⟩ := e
      rcases h.n i j e.symm with h1 | h1
      · exact .inl (.inl ⟨i, h1⟩)
      · exact .inr h1)
    n := fun i j e => by
      rcases hn i j e with h1 | h1
      · exact h.n i j h1.symm
      · right; have := h.kp.1; omega }
end
def rtm.T5 : Bool × List (List Nat × List Nat) := (true, [([], []), ([0], [0]), ([], []), ([2], [2]), ([1, 3], [1, 3]), ([], []), ([5], [5]), ([], []), ([6, 7, 4], [6, 7]), ([], []), ([9], [9]), ([], []), ([10, 11, 8], [10, 11]), ([0, 1, 2, 3, 4, 5, 6, 9, 10], []), ([13, 4, 12, 0, 1, 2, 3, 4, 5, 6, 9, 10], [4, 13]), ([0, 1, 2, 3, 4, 5, 6, 7, 8, 9, 10, 13, 14], []), ([15, 8, 14, 0, 1, 2, 3, 4, 5, 6, 7, 8, 9, 10, 13, 14], [8, 15]), ([0, 1, 2, 3, 4, 5, 6, 7, 8, 9, 10, 11, 12, 13, 14, 15, 16], []), ([17, 12, 16, 0, 1, 2, 3, 4, 5, 6, 7, 8, 9, 10, 11, 12, 13, 14, 15, 16], [12, 17])])
def rtm.B5 : List Nat := [0, 1, 0, 4, 15, 0, 32, 0, 255, 0, 512, 0, 4095, 1663, 16383, 32767, 65535, 131071, 262143]
theorem rtm.tab5 : rtab .any (opsOf Try.f53 5) = rtm.T5 := by kernel_rfl
theorem rtm.bits5 : waitsOk rtm.T5.2 rtm.B5 = true := by kernel_rfl
end Go.Proofs.Ytegaicoddnmemaa.X

namespace Go.Proofs.Ytegaicoddnmemaa.X
end Go.Proofs.Ytegaicoddnmemaa.X

namespace Go.Proofs.Ytegaicoddnmemaa.X
end Go.Proofs.Ytegaicoddnmemaa.X

namespace Go.Proofs.Ytegaicoddnmemaa.X
end Go.Proofs.Ytegaicoddnmemaa.X

namespace Go.Proofs.Ytegaicoddnmemaa.X
open Go.RowKit Go.Proofs.YtegaicoddnmemaaW.PrintWords Go.Proofs.YtegaicoddnmemaaW.PrintMore
open Go.Proofs.Ytegaicoddnmemaa.P Go.Proofs.Ytegaicoddnmemaa.Evx
set_option linter.unusedVariables false
set_option linter.unusedSimpArgs false
theorem size_nat {s : S24} (h : mayF s = 0) : sizeS s = ((2 ^ tnS s : Nat) : Int) := by
  unfold sizeS
  rw [if_pos h, Int.natCast_pow]; rfl
theorem size_256 {s : S24} (h : mayF s = 0) : 1 ≤ 2 ^ tnS s ∧ 2 ^ tnS s ≤ 256 := by
  have h8 := (may_zero h).2.2.1
  refine ⟨Nat.one_le_two_pow, ?_⟩
  exact Nat.pow_le_pow_right (n := 2) (by decide) h8
end Go.Proofs.Ytegaicoddnmemaa.X

namespace Go.Proofs.Ytegaicoddnmemaa.X
open Go.RowKit Go.Proofs.YtegaicoddnmemaaW.PrintWords Go.Proofs.YtegaicoddnmemaaW.PrintLast Go.Proofs.YtegaicoddnmemaaW.PrintMore
open Go.Proofs.Ytegaicoddnmemaa.P Go.Proofs.Ytegaicoddnmemaa.Evx
set_option linter.unusedSimpArgs false
set_option linter.unusedVariables false
def atomS (n : Int) : S24 := ⟨2, n, []⟩
def F0 : S24 := ⟨7, 0, [atomS 0, atomS 1]⟩
set_option maxHeartbeats 800000 in
theorem atom_calls (n : Int) (w : World) : Calls Try.prog 27 #[.int .i64 n] w fun e w' => e = .returned (.agg #[.int .i64 2, .int .i64 n, .slice none 0 0]) ∧ Below w.heap.size w w' := by
  have huF := Try.underlying24
  go_enter Try.func27, Try.ntmps27
  go_wp2
  exact bodyPost_ret (v := .agg #[.int .i64 2, .int .i64 n, .slice none 0 0]) (by simp [results, Try.results27, go_sem]) rfl ⟨rfl, below_alloc (Below.refl _ _) _⟩
theorem run_F0 : runS F0 [1] [2, 0] = [1, 0, 1] := by decide +kernel
theorem ok_F0 : runOk F0 [1] [2, 0] = true := by decide +kernel
theorem size_F0 : sizeS F0 = 2 := by decide +kernel
theorem val_F0 : valueF F0 0 2 = true := by decide +kernel
theorem val_F1 : valueF F0 0 1 = false := by decide +kernel
/-- Two formulas in a block. -/
theorem C_two {w : World} {g : Nat} {a b : S24} (ha : a.f2 = []) (hb : b.f2 = []) (h : w.heap[g]? = some (.cells #[.int .i64 a.f0, .int .i64 a.f1, .slice none 0 0, .int .i64 b.f0, .int .i64 b.f1, .slice none 0 0] 24 (0, 0))) : Kd.C k24 w (some ⟨g, 0, none⟩) 2 [a, b] := by
  have hK : ∀ x : S24, x.f2 = [] → k24.K w x [.int .i64 x.f0, .int .i64 x.f1, .slice none 0 0] := by
    intro x hx
    have := k24_mk w x (A2 := none) (c2 := 0) (by rw [hx]; simp) (by rw [hx]; exact Kd.C_nil _ _)
    rwa [hx] at this
  refine ⟨rfl, by omega, fun _ => ⟨_, rfl, fun j p hj => ?_⟩⟩
  have hs : k24.sz = 3 := rfl
  match j, hj with
  | 0, hj =>
    obtain rfl : a = p := by simpa using hj
    refine ⟨_, rfl, hK a ha, fun i u hu => ?_⟩
    rw [hs, add_at, blk_cell h]
    match i, hu with
    | 0, hu => exact hu
    | 1, hu => exact hu
    | 2, hu => exact hu
  | 1, hj =>
    obtain rfl : b = p := by simpa using hj
    refine ⟨_, rfl, hK b hb, fun i u hu => ?_⟩
    rw [hs, add_at, blk_cell h]
    match i, hu with
    | 0, hu => exact hu
    | 1, hu => exact hu
    | 2, hu => exact hu
theorem C_u32 {w : World} {g : Nat} {l : List Int} {t : TypeId} (h : w.heap[g]? = some (.cells (l.map (Value.int .u32)).toArray t (0, 0))) (hl : 0 < l.length) (hm : l.length < 1000) : Kd.C (Kd.int .u32) w (some ⟨g, 0, none⟩) l.length l := by
  refine Kd.C_of_reads (d := 0) ⟨rfl, by omega, fun _ => ⟨_, rfl, fun j hj => ?_⟩⟩
  rw [add_at, blk_cell h]
  simp [hj]
set_option maxHeartbeats 3200000 in
set_option maxRecDepth 100000 in
theorem awake_calls (w : World) : Calls Try.prog 10 #[] w fun e w' => e = .returned (.bool true) ∧ Below w.heap.size w w' := by
  have huF := Try.underlying24
  have huW := Try.underlying27
  have huL := Try.underlying22
  have huu := Try.underlying25
  have hui := Try.underlying31
  have HBA := Aside0.mk (Below.refl w.heap.size w)
  obtain ⟨k1, hk1⟩ := (Size_ev F0).rounds
  rw [size_F0] at hk1
  have HK1 := Aside0.mk hk1
  clear hk1
  go_enter Try.func10, Try.ntmps10
  go_upto_region 2 with (go_at_call 27; refine (atom_calls _ _).mono ?_; rintro e w1 ⟨rfl, hB⟩; have HBn := Aside0.mk (HBA.out.trans (hB.mono HBA.out.size)); clear HBA hB; have HBA := HBn; clear HBn)
  obtain ⟨W3, hW3⟩ : ∃ W3, W3 = (w1.alloc (.cells #[.int .i64 2, .int .i64 0, .slice none 0 0, .int .i64 2, .int .i64 1, .slice none 0 0] 24)).alloc (.cells #[.int .i64 7, .int .i64 0, .slice (some ⟨w1.heap.size, 0, none⟩) 2 2] 24) := ⟨_, rfl⟩
  have hB3 : Below w1.heap.size w1 W3 := by rw [hW3]; exact below_alloc (below_alloc (Below.refl _ _) _) _
  have hbk : W3.heap[w1.heap.size]? = some (.cells #[.int .i64 2, .int .i64 0, .slice none 0 0, .int .i64 2, .int .i64 1, .slice none 0 0] 24 (0, 0)) := by rw [hW3]; exact blk_alloc (heap_alloc_new w1 _) _
  have hbx : W3.heap[w1.heap.size + 1]? = some (.cells #[.int .i64 7, .int .i64 0, .slice (some ⟨w1.heap.size, 0, none⟩) 2 2] 24 (0, 0)) := by
    rw [hW3]
    have := heap_alloc_new (w1.alloc (.cells #[.int .i64 2, .int .i64 0, .slice none 0 0, .int .i64 2, .int .i64 1, .slice none 0 0] 24)) (.cells #[.int .i64 7, .int .i64 0, .slice (some ⟨w1.heap.size, 0, none⟩) 2 2] 24)
    simpa using this
  have hz3 : W3.heap.size = w1.heap.size + 2 := by rw [hW3]; simp
  have HKF := Aside0.mk (fun W (h : Below W3.heap.size W3 W) => Kd.C_below (C_two (w := W3) (a := atomS 0) (b := atomS 1) rfl rfl hbk) h)
  have HBX := Aside0.mk hbx
  have HB3 := Aside0.mk (HBA.out.trans (hB3.mono HBA.out.size))
  rw [← hW3]
  obtain ⟨W5, hW5⟩ : ∃ W5, W5 = (W3.alloc (.cells #[.int .u32 1] 36)).alloc (.cells #[.int .u32 2, .int .u32 0] 36) := ⟨_, rfl⟩
  have hB5 : Below W3.heap.size W3 W5 := by rw [hW5]; exact below_alloc (below_alloc (Below.refl _ _) _) _
  have h1 : W5.heap[W3.heap.size]? = some (.cells #[.int .u32 1] 36 (0, 0)) := by rw [hW5]; exact blk_alloc (heap_alloc_new W3 _) _
  have h2 : W5.heap[W3.heap.size + 1]? = some (.cells #[.int .u32 2, .int .u32 0] 36 (0, 0)) := by
    rw [hW5]
    have := heap_alloc_new (W3.alloc (.cells #[.int .u32 1] 36)) (.cells #[.int .u32 2, .int .u32 0] 36)
    simpa using this
  have HRUN := Aside0.mk (Run_calls F0 [1] [2, 0] (some ⟨w1.heap.size, 0, none⟩) 2 (some ⟨W3.heap.size, 0, none⟩) (some ⟨W3.heap.size + 1, 0, none⟩) 1 2 W5 (HKF.out W5 hB5) (Nat.le_refl _) (C_u32 (l := [1]) h1 (by decide) (by decide)) (Nat.le_refl _) (C_u32 (l := [2, 0]) h2 (by decide) (by decide)) (Nat.le_refl _))
  rw [ok_F0, run_F0] at HRUN
  have HW5 := Aside0.mk hW5
  have HB5 := Aside0.mk hB5
  have b0 : W3.cell? ⟨w1.heap.size + 1, 0, none⟩ = some (.int .i64 7) := (blk_cell HBX.out 0).trans rfl
  have b1 : W3.cell? ⟨w1.heap.size + 1, 1, none⟩ = some (.int .i64 0) := (blk_cell HBX.out 1).trans rfl
  have b2 : W3.cell? ⟨w1.heap.size + 1, 2, none⟩ = some (.slice (some ⟨w1.heap.size, 0, none⟩) 2 2) := (blk_cell HBX.out 2).trans rfl
  have HZ3 := Aside0.mk hz3
  have HV : ∀ (lt : Int) (b : Bool), valueF F0 0 lt = b → ∀ W, Below W3.heap.size W3 W → Calls Try.prog 17 #[.agg #[.int .i64 7, .int .i64 0, .slice (some ⟨w1.heap.size, 0, none⟩) 2 2], .int .i64 0, .int .u32 lt] W fun e w' => e = .returned (.bool b) ∧ Below W.heap.size W w' := fun lt b hb W hW => hb ▸ Value_calls F0 0 lt (some ⟨w1.heap.size, 0, none⟩) 2 W (HKF.out W hW) (Nat.le_refl _)
  have HV1 := Aside0.mk (HV 2 true val_F0)
  have HV2 := Aside0.mk (HV 1 false val_F1)
  clear HV
  clear hW3 hB3 hbk hbx hW5 hB5 h1 h2 hz3
  go_wp2_with (first | (go_at_call 11; rw [← HW5.out]; refine HRUN.out.mono ?_; rintro e w6 ⟨v6, rfl, hR6, hB6⟩; obtain ⟨g6, c6, e6, _⟩ := Kd.R_form hR6 (by decide); subst e6; have HC6 := Aside0.mk (Kd.R_reads' hR6).2.2; have HB6 := Aside0.mk (HB5.out.trans (hB6.mono HB5.out.size)); clear hR6 hB6; have HBX6 := Aside0.mk ((HB6.out.block _ (blk_lt HBX.out)).trans HBX.out); have q0 := (blk_cell HBX6.out 0).trans rfl; have q1 := (blk_cell HBX6.out 1).trans rfl; have q2 := (blk_cell HBX6.out 2).trans rfl) | (go_at_call 16; refine (tableau_Size.calls k1 7 0 (some ⟨w1.heap.size, 0, none⟩) 2 [atomS 0, atomS 1] 2 _ (HKF.out _ HB6.out) (Nat.le_refl _) HK1.out).mono ?_; rintro e w7 ⟨rfl, hB7⟩; have HB7 := Aside0.mk (HB6.out.trans (hB7.mono HB6.out.size)); have HC7 := Aside0.mk (Kd.C_below HC6.out hB7); clear hB7; have HBX7 := Aside0.mk ((HB7.out.block _ (blk_lt HBX.out)).trans HBX.out); have p0 := (blk_cell HBX7.out 0).trans rfl; have p1 := (blk_cell HBX7.out 1).trans rfl; have p2 := (blk_cell HBX7.out 2).trans rfl; have hre := (Kd.reads_of_C (d := 0) HC7.out).2.2 (by decide); obtain ⟨ad, ead, hcell⟩ := hre; cases ead; have f0 := hcell 0 (by decide); have f1 := hcell 1 (by decide); have f2 := hcell 2 (by decide); rw [add_at] at f0 f1 f2; simp only [Nat.zero_add] at f0 f1 f2; clear hcell) | (go_at_call 17; first | ((with_reducible refine (HV1.out _ HB7.out).mono ?_); rintro e w8 ⟨rfl, hB8⟩; have HB8 := Aside0.mk (HB7.out.trans (hB8.mono HB7.out.size)); clear hB8; have HBX8 := Aside0.mk ((HB8.out.block _ (blk_lt HBX.out)).trans HBX.out); have o0 := (blk_cell HBX8.out 0).trans rfl; have o1 := (blk_cell HBX8.out 1).trans rfl; have o2 := (blk_cell HBX8.out 2).trans rfl) | ((with_reducible refine (HV2.out _ HB8.out).mono ?_); rintro e w9 ⟨rfl, hB9⟩; have HB9 := Aside0.mk (HB3.out.trans ((HB8.out.trans (hB9.mono HB8.out.size)).mono HB3.out.size)); clear hB9)))
  go_ret
  exact ⟨rfl, HB9.out⟩
def parrylaw23_awake.f : Option Bool := some true
theorem parrylaw23_awake.calls (r : Bool) (w : World) (h : parrylaw23_awake.f = some r) : Calls Try.prog 10 #[] w fun e w' => e = .returned (.bool r) ∧ Below w.heap.size w w' := by
  obtain rfl := Option.some.inj h
  exact awake_calls w
end Go.Proofs.Ytegaicoddnmemaa.X

namespace Go.Proofs.Ytegaicoddnmemaa.X
open Go.RowKit Go.Proofs.YtegaicoddnmemaaW.PrintWords Go.Proofs.YtegaicoddnmemaaW.PrintLast Go.Proofs.YtegaicoddnmemaaW.PrintMore
open Go.Proofs.Ytegaicoddnmemaa.P Go.Proofs.Ytegaicoddnmemaa.Evx
set_option linter.unusedSimpArgs false
set_option linter.unusedVariables false
/-- Not f. -/
def notS (s : S24) : S24 := ⟨3, 0, [s]⟩
theorem not_tn (s : S24) : tnS (notS s) = tnS s := by
  simp only [notS, tnS, tnL]
  have : tS 3 = 0 := by decide
  omega
theorem not_may {s : S24} (h : mayF (notS s) = 0) : mayF s = 0 := (SubF.kid (s := notS s) (k := s) (by simp [notS])).may h
theorem not_val (s : S24) (sv lt : Int) : valS sv lt (notS s) 0 = !valS sv lt s 0 := by
  simp only [notS, valS, valL]
  have : tS 3 = 0 := by decide
  rw [this]
  rfl
theorem not_size {s : S24} (h : mayF (notS s) = 0) : sizeS (notS s) = sizeS s := by
  rw [size_nat h, size_nat (not_may h), not_tn]
theorem C_one {w W : World} {s : S24} {A : Option Addr} {c : Nat} (hb : Below w.heap.size w W) (hc : s.f2.length ≤ c) (hk : Kd.C k24 w A s.f2.length s.f2) : Kd.C k24 (W.alloc (.cells #[.int .i64 s.f0, .int .i64 s.f1, .slice A s.f2.length c] 24)) (some ⟨W.heap.size, 0, none⟩) 1 [s] := by
  have h1 := (Reps.none (k24.K w) 3).snoc (k24_mk w s hc hk) rfl
  have h2 : TRowB w W (W.alloc (.cells #[.int .i64 s.f0, .int .i64 s.f1, .slice A s.f2.length c] 24)) (.slice (some ⟨W.heap.size, 0, none⟩) 1 1) [s] := OwnRow.lit W W.heap.size h1 (Nat.le_refl _) (by simp)
  obtain ⟨A', c', e, _, hC⟩ := trow_readB h2 (below_alloc hb _)
  injection e with e1 e2 e3
  rw [e1]
  exact hC
set_option maxHeartbeats 8000000 in
set_option maxRecDepth 100000 in
theorem nots_calls (s : S24) (A : Option Addr) (cp : Nat) (a1 a2 : Int) (w : World) (hr : Kd.C k24 w A s.f2.length s.f2) (hc : s.f2.length ≤ cp) :
    Calls Try.prog 4 #[.agg #[.int .i64 s.f0, .int .i64 s.f1, .slice A s.f2.length cp], .int .i64 a1, .int .u32 a2] w fun e w' => e = .returned (.bool true) ∧ Below w.heap.size w w' := by
  have huF := Try.underlying24
  have huL := Try.underlying22
  obtain ⟨W1, hW1⟩ : ∃ W1, W1 = w.alloc (.cells #[.int .i64 s.f0, .int .i64 s.f1, .slice A s.f2.length cp] 24) := ⟨_, rfl⟩
  have hB1 : Below w.heap.size w W1 := by rw [hW1]; exact below_alloc (Below.refl _ _) _
  have hb1 : W1.heap[w.heap.size]? = some (.cells #[.int .i64 s.f0, .int .i64 s.f1, .slice A s.f2.length cp] 24 (0, 0)) := by rw [hW1]; exact heap_alloc_new w _
  obtain ⟨W2, hW2⟩ : ∃ W2, W2 = W1.alloc (.cells #[.int .i64 s.f0, .int .i64 s.f1, .slice A s.f2.length cp] 24) := ⟨_, rfl⟩
  have hB2 : Below w.heap.size w W2 := by rw [hW2]; exact below_alloc hB1 _
  have hC2 : Kd.C k24 W2 (some ⟨W1.heap.size, 0, none⟩) 1 [s] := by rw [hW2]; exact C_one hB1 hc hr
  obtain ⟨W3, hW3⟩ : ∃ W3, W3 = W2.alloc (.cells #[.int .i64 3, .int .i64 0, .slice (some ⟨W1.heap.size, 0, none⟩) 1 1] 24) := ⟨_, rfl⟩
  have hB3 : Below w.heap.size w W3 := by rw [hW3]; exact below_alloc hB2 _
  have hC3 : Kd.C k24 W3 (some ⟨W1.heap.size, 0, none⟩) 1 [s] := by rw [hW3]; exact Kd.C_alloc hC2 _
  have hz2 : W2.heap.size = W1.heap.size + 1 := by rw [hW2]; simp
  have hb3 : W3.heap[W1.heap.size + 1]? = some (.cells #[.int .i64 3, .int .i64 0, .slice (some ⟨W1.heap.size, 0, none⟩) 1 1] 24 (0, 0)) := by rw [hW3, ← hz2]; exact heap_alloc_new W2 _
  have hb13 : W3.heap[w.heap.size]? = some (.cells #[.int .i64 s.f0, .int .i64 s.f1, .slice A s.f2.length cp] 24 (0, 0)) := by rw [hW3, hW2]; exact blk_alloc (blk_alloc hb1 _) _
  obtain ⟨k1, hk1⟩ := (rMay_ev (notS s)).rounds
  obtain ⟨hv, hhv, hv0, hv1⟩ := heavy_ev s
  obtain ⟨k2, hk2⟩ := hhv.rounds
  obtain ⟨k3, hk3⟩ := (Size_ev s).rounds
  obtain ⟨k4, hk4⟩ := (Size_ev (notS s)).rounds
  have HB3 := Aside0.mk hB3
  have HHV := Aside0.mk (fun W (h : Below w.heap.size w W) => parrylaw22_Heavy.calls k2 s.f0 s.f1 A cp s.f2 hv W (Kd.C_below hr h) hc hk2)
  have HM1 := Aside0.mk (fun W (h : Below W3.heap.size W3 W) => show Calls Try.prog 14 #[.agg #[.int .i64 3, .int .i64 0, .slice (some ⟨W1.heap.size, 0, none⟩) 1 1]] W _ from May_calls (notS s) (some ⟨W1.heap.size, 0, none⟩) 1 W (Kd.C_below hC3 h) (Nat.le_refl _))
  have HM2 := Aside0.mk (fun W (h : Below W3.heap.size W3 W) => show Calls Try.prog 15 #[.agg #[.int .i64 3, .int .i64 0, .slice (some ⟨W1.heap.size, 0, none⟩) 1 1]] W _ from parryref22_May.calls k1 3 0 (some ⟨W1.heap.size, 0, none⟩) 1 [s] (mayF (notS s)) W (Kd.C_below hC3 h) (Nat.le_refl _) hk1)
  have HZ1 := Aside0.mk (fun W (h : Below w.heap.size w W) => tableau_Size.calls k3 s.f0 s.f1 A cp s.f2 (sizeS s) W (Kd.C_below hr h) hc hk3)
  have HZ2 := Aside0.mk (fun W (h : Below W3.heap.size W3 W) => show Calls Try.prog 16 #[.agg #[.int .i64 3, .int .i64 0, .slice (some ⟨W1.heap.size, 0, none⟩) 1 1]] W _ from tableau_Size.calls k4 3 0 (some ⟨W1.heap.size, 0, none⟩) 1 [s] (sizeS (notS s)) W (Kd.C_below hC3 h) (Nat.le_refl _) hk4)
  have HV1 := Aside0.mk (fun sv W (h : Below w.heap.size w W) => Value_calls s sv a2 A cp W (Kd.C_below hr h) hc)
  have HV2 := Aside0.mk (fun sv W (h : Below W3.heap.size W3 W) => show Calls Try.prog 17 #[.agg #[.int .i64 3, .int .i64 0, .slice (some ⟨W1.heap.size, 0, none⟩) 1 1], .int .i64 sv, .int .u32 a2] W _ from Value_calls (notS s) sv a2 (some ⟨W1.heap.size, 0, none⟩) 1 W (Kd.C_below hC3 h) (Nat.le_refl _))
  have HBF := Aside0.mk hb13
  have HBG := Aside0.mk hb3
  have HG1 := Aside0.mk hW1
  have HG2 := Aside0.mk hW2
  have HG3 := Aside0.mk hW3
  have x0 : W1.cell? ⟨w.heap.size, 0, none⟩ = some (.int .i64 s.f0) := (blk_cell hb1 0).trans rfl
  have x1 : W1.cell? ⟨w.heap.size, 1, none⟩ = some (.int .i64 s.f1) := (blk_cell hb1 1).trans rfl
  have x2 : W1.cell? ⟨w.heap.size, 2, none⟩ = some (.slice A s.f2.length cp) := (blk_cell hb1 2).trans rfl
  have y0 : W3.cell? ⟨w.heap.size, 0, none⟩ = some (.int .i64 s.f0) := (blk_cell hb13 0).trans rfl
  have y1 : W3.cell? ⟨w.heap.size, 1, none⟩ = some (.int .i64 s.f1) := (blk_cell hb13 1).trans rfl
  have y2 : W3.cell? ⟨w.heap.size, 2, none⟩ = some (.slice A s.f2.length cp) := (blk_cell hb13 2).trans rfl
  have HMM := Aside0.mk (@not_may s)
  have HNS := Aside0.mk (@not_size s)
  have HNV := Aside0.mk (fun (sv : Int) => not_val s sv a2)
  clear hW1 hW2 hW3 hB1 hB2 hB3 hb1 hb3 hb13 hC2 hC3 hhv hk1 hk2 hk3 hk4 hr
  go_enter Try.func4, Try.ntmps4
  go_upto_region 1 with fail
  rw [← HG1.out]
  go_upto_region 2 with fail
  rw [← HG2.out, ← HG3.out]
  have z0 : W3.cell? ⟨W1.heap.size + 1, 0, none⟩ = some (.int .i64 3) := (blk_cell HBG.out 0).trans rfl
  have z1 : W3.cell? ⟨W1.heap.size + 1, 1, none⟩ = some (.int .i64 0) := (blk_cell HBG.out 1).trans rfl
  have z2 : W3.cell? ⟨W1.heap.size + 1, 2, none⟩ = some (.slice (some ⟨W1.heap.size, 0, none⟩) 1 1) := (blk_cell HBG.out 2).trans rfl
  have HB3a := Aside0.mk (Below.refl W3.heap.size W3)
  generalize hmg : mayF (notS s) = mg at *
  have HMG := Aside0.mk hmg
  clear hmg x0 x1 x2
  by_cases h0 : 0 < hv
  · go_wp2_with (first | (go_at_call 8; refine (HHV.out _ HB3.out).mono ?_; rintro e w4 ⟨rfl, hB4⟩; have HB4 := Aside0.mk (HB3a.out.trans (hB4.mono HB3a.out.size)); have HF4 := Aside0.mk ((hB4.block _ (blk_lt HBF.out)).trans HBF.out); have HG4 := Aside0.mk ((hB4.block _ (blk_lt HBG.out)).trans HBG.out); have z0_4 := (blk_cell HG4.out 0).trans rfl; have z1_4 := (blk_cell HG4.out 1).trans rfl; have z2_4 := (blk_cell HG4.out 2).trans rfl; clear hB4) | (go_at_call 10; refine (parrylaw23_awake.calls true _ rfl).mono ?_; rintro e w19 ⟨rfl, hB19⟩; have HB19 := Aside0.mk (HB4.out.trans (hB19.mono HB4.out.size)); clear hB19))
    go_ret
    exact ⟨rfl, HB3.out.trans (HB19.out.mono HB3.out.size)⟩
  · have hd0 : decide (0 < hv) = false := decide_eq_false h0
    by_cases hm : mg = 0
    · have hm0 : (mg != 0) = false := by rw [hm]; rfl
      have hmay := (HMG.out.trans hm)
      have hms := HMM.out hm
      have hsz := HNS.out hm
      have h2 := size_256 hms
      have hn := size_nat hms
      rw [hsz] at HZ2
      obtain ⟨n, hnn⟩ : ∃ n, n = sizeS s := ⟨_, rfl⟩
      have hn1 : 1 ≤ n := by rw [hnn, hn]; omega
      have hn2 : n ≤ 256 := by rw [hnn, hn]; omega
      have hpr := pick_range a1 hn1
      have hpe := pick_eq a1 hn1 (by omega)
      have HPE := Aside0.mk hpe
      have hst1 : stateS s (pick a1 n) = true := decide_eq_true (by rw [← hnn]; exact hpr)
      have hst2 : stateS (notS s) (pick a1 n) = true := decide_eq_true (by rw [hsz, ← hnn]; exact hpr)
      have hv1 : valueF (notS s) (pick a1 n) a2 = !valueF s (pick a1 n) a2 := by
        unfold valueF
        rw [if_pos hst1, if_pos hst2]
        exact HNV.out _
      rw [← hnn] at HZ1 HZ2
      have HV2 := HV2.out (pick a1 n)
      have HV1 := HV1.out (pick a1 n)
      rw [hv1] at HV2
      have HV2 := Aside0.mk HV2
      have HV1 := Aside0.mk HV1
      have hwn : IntKind.u64.wrap n = n := u64_id (by omega) (by omega)
      rw [hwn] at HPE
      generalize valueF s (pick a1 n) a2 = bv at *
      generalize pick a1 n = sv at *
      clear hm hmay hms hsz h2 hn hnn hpr hpe hst1 hst2 hv1 HMM HNS HNV
      go_upto_region 7 with (first | (go_at_call 8; refine (HHV.out _ HB3.out).mono ?_; rintro e w4 ⟨rfl, hB4⟩; have HB4 := Aside0.mk (HB3a.out.trans (hB4.mono HB3a.out.size)); have HF4 := Aside0.mk ((hB4.block _ (blk_lt HBF.out)).trans HBF.out); have HG4 := Aside0.mk ((hB4.block _ (blk_lt HBG.out)).trans HBG.out); have z0_4 := (blk_cell HG4.out 0).trans rfl; have z1_4 := (blk_cell HG4.out 1).trans rfl; have z2_4 := (blk_cell HG4.out 2).trans rfl; clear hB4) | (go_at_call 14; refine (HM1.out _ HB4.out).mono ?_; rintro e w5 ⟨rfl, hB5⟩; have HB5 := Aside0.mk (HB4.out.trans (hB5.mono HB4.out.size)); have HF5 := Aside0.mk ((hB5.block _ (blk_lt HF4.out)).trans HF4.out); have HG5 := Aside0.mk ((hB5.block _ (blk_lt HG4.out)).trans HG4.out); have z0_5 := (blk_cell HG5.out 0).trans rfl; have z1_5 := (blk_cell HG5.out 1).trans rfl; have z2_5 := (blk_cell HG5.out 2).trans rfl; clear hB5) | (go_at_call 15; refine (HM2.out _ HB5.out).mono ?_; rintro e w6 ⟨rfl, hB6⟩; have HB6 := Aside0.mk (HB5.out.trans (hB6.mono HB5.out.size)); have HF6 := Aside0.mk ((hB6.block _ (blk_lt HF5.out)).trans HF5.out); have HG6 := Aside0.mk ((hB6.block _ (blk_lt HG5.out)).trans HG5.out); have z0_6 := (blk_cell HG6.out 0).trans rfl; have z1_6 := (blk_cell HG6.out 1).trans rfl; have z2_6 := (blk_cell HG6.out 2).trans rfl; have x0_6 := (blk_cell HF6.out 0).trans rfl; have x1_6 := (blk_cell HF6.out 1).trans rfl; have x2_6 := (blk_cell HF6.out 2).trans rfl; clear hB6) | (go_at_call 16; with_reducible refine (HZ1.out _ (HB3.out.trans (HB6.out.mono HB3.out.size))).mono ?_; rintro e w7 ⟨rfl, hB7⟩; have HB7 := Aside0.mk (HB6.out.trans (hB7.mono HB6.out.size)); have HF7 := Aside0.mk ((hB7.block _ (blk_lt HF6.out)).trans HF6.out); have HG7 := Aside0.mk ((hB7.block _ (blk_lt HG6.out)).trans HG6.out); have z0_7 := (blk_cell HG7.out 0).trans rfl; have z1_7 := (blk_cell HG7.out 1).trans rfl; have z2_7 := (blk_cell HG7.out 2).trans rfl; have x0_7 := (blk_cell HF7.out 0).trans rfl; have x1_7 := (blk_cell HF7.out 1).trans rfl; have x2_7 := (blk_cell HF7.out 2).trans rfl; clear hB7) | (go_at_call 16; with_reducible refine (HZ2.out _ HB7.out).mono ?_; rintro e w8 ⟨rfl, hB8⟩; have HB8 := Aside0.mk (HB7.out.trans (hB8.mono HB7.out.size)); have HF8 := Aside0.mk ((hB8.block _ (blk_lt HF7.out)).trans HF7.out); have HG8 := Aside0.mk ((hB8.block _ (blk_lt HG7.out)).trans HG7.out); have z0_8 := (blk_cell HG8.out 0).trans rfl; have z1_8 := (blk_cell HG8.out 1).trans rfl; have z2_8 := (blk_cell HG8.out 2).trans rfl; have x0_8 := (blk_cell HF8.out 0).trans rfl; have x1_8 := (blk_cell HF8.out 1).trans rfl; have x2_8 := (blk_cell HF8.out 2).trans rfl; clear hB8))
      go_cut [1] (fun v1 wx => v1 = .int .i64 sv ∧ wx = w8)
      case first =>
        go_wp2
        go_meet
        exact ⟨by first | (rw [HPE.out]; done) | (rw [HPE.out]; rfl), rfl⟩
      case rest =>
        obtain ⟨rfl, hwc⟩ := hcut
        rw [hwc]
        clear hwc wc
        have HB9a := Aside0.mk (HB8.out.trans ((below_drew1 (Below.refl _ _)).mono HB8.out.size) : Below W3.heap.size W3 w8.drew)
        have HF9a := Aside0.mk (blk_drew HF8.out)
        have HG9a := Aside0.mk (blk_drew HG8.out)
        cases bv
        all_goals (
          go_wp2
          go_region_with (first | ((with_reducible refine (HV2.out _ HB9a.out).mono ?_); rintro e w9 ⟨rfl, hB9⟩; have HB9 := Aside0.mk (HB9a.out.trans (hB9.mono HB9a.out.size)); have HF9 := Aside0.mk ((hB9.block _ (blk_lt HF9a.out)).trans HF9a.out); have HG9 := Aside0.mk ((hB9.block _ (blk_lt HG9a.out)).trans HG9a.out); have x0_9 := (blk_cell HF9.out 0).trans rfl; have x1_9 := (blk_cell HF9.out 1).trans rfl; have x2_9 := (blk_cell HF9.out 2).trans rfl; clear hB9) | ((with_reducible refine (HV1.out _ (HB3.out.trans (HB9.out.mono HB3.out.size))).mono ?_); rintro e w10 ⟨rfl, hB10⟩; have HB10 := Aside0.mk (HB9.out.trans (hB10.mono HB9.out.size)); have HF10 := Aside0.mk ((hB10.block _ (blk_lt HF9.out)).trans HF9.out); have HG10 := Aside0.mk ((hB10.block _ (blk_lt HG9.out)).trans HG9.out); clear hB10) | (go_at_call 10; refine (parrylaw23_awake.calls true _ rfl).mono ?_; rintro e w19 ⟨rfl, hB19⟩; have HB19 := Aside0.mk (HB10.out.trans (hB19.mono HB10.out.size)); clear hB19))
          all_goals (
            go_wp2
            go_ret
            exact ⟨rfl, HB3.out.trans (HB19.out.mono HB3.out.size)⟩))
    · have hm0 : (mg != 0) = true := by simpa using hm
      go_wp2_with (first | (go_at_call 8; refine (HHV.out _ HB3.out).mono ?_; rintro e w4 ⟨rfl, hB4⟩; have HB4 := Aside0.mk (HB3a.out.trans (hB4.mono HB3a.out.size)); have HF4 := Aside0.mk ((hB4.block _ (blk_lt HBF.out)).trans HBF.out); have HG4 := Aside0.mk ((hB4.block _ (blk_lt HBG.out)).trans HBG.out); have z0_4 := (blk_cell HG4.out 0).trans rfl; have z1_4 := (blk_cell HG4.out 1).trans rfl; have z2_4 := (blk_cell HG4.out 2).trans rfl; clear hB4) | (go_at_call 14; refine (HM1.out _ HB4.out).mono ?_; rintro e w5 ⟨rfl, hB5⟩; have HB5 := Aside0.mk (HB4.out.trans (hB5.mono HB4.out.size)); have HF5 := Aside0.mk ((hB5.block _ (blk_lt HF4.out)).trans HF4.out); have HG5 := Aside0.mk ((hB5.block _ (blk_lt HG4.out)).trans HG4.out); have z0_5 := (blk_cell HG5.out 0).trans rfl; have z1_5 := (blk_cell HG5.out 1).trans rfl; have z2_5 := (blk_cell HG5.out 2).trans rfl; clear hB5) | (go_at_call 10; refine (parrylaw23_awake.calls true _ rfl).mono ?_; rintro e w19 ⟨rfl, hB19⟩; have HB19 := Aside0.mk (HB5.out.trans (hB19.mono HB5.out.size)); clear hB19))
      go_ret
      exact ⟨rfl, HB3.out.trans (HB19.out.mono HB3.out.size)⟩
def parrylaw23_TableauNots.f (a0_0 : Int) (a0_1 : Int) (l0_2 : List S24) (a1 : Int) (a2 : Int) : Option Bool := some true
theorem parrylaw23_TableauNots.calls (a0_0 : Int) (a0_1 : Int) (A0_2 : Option Addr) (c0_2 : Nat) (l0_2 : List S24) (a1 : Int) (a2 : Int) (r : Bool) (w : World) (hr0_2 : Kd.C k24 w A0_2 l0_2.length l0_2) (hc0_2 : l0_2.length ≤ c0_2) (h : parrylaw23_TableauNots.f a0_0 a0_1 l0_2 a1 a2 = some r) (hrt : r = true) :
    Calls Try.prog 4 #[.agg #[.int .i64 a0_0, .int .i64 a0_1, .slice A0_2 l0_2.length c0_2], .int .i64 a1, .int .u32 a2] w fun e w' => e = .returned (.bool r) ∧ Below w.heap.size w w' := by
  subst hrt
  exact nots_calls ⟨a0_0, a0_1, l0_2⟩ A0_2 c0_2 a1 a2 w hr0_2 hc0_2
end Go.Proofs.Ytegaicoddnmemaa.X

namespace Go.Proofs.Ytegaicoddnmemaa.Op
open Go.RowKit Go.Proofs.YtegaicoddnmemaaW.PrintWords
set_option linter.unusedVariables false
set_option linter.unusedSimpArgs false

def Opens (N : Nat) (P : Program) (T : TypeId) {α : Type} (d : Kd α) (G : α → Prop) : Prop :=
  ∀ (H : Type) (enc : TypeId × Value → H) (W : World) (base : Nat) (spare : Nat → Bool) (held : Bool) (fuel : Nat) (cs : List Value) (x : DataW H × List MemPlace),
    fuel ≤ N → DataW.trod enc P W base spare held fuel T cs = some x → (∀ n ∈ x.1.weights P T, n ≤ reachBytes) → ∃ y, d.K W y cs ∧ G y

theorem Opens.mono {N M : Nat} {P : Program} {T : TypeId} {α : Type} {d : Kd α} {G : α → Prop} (h : Opens N P T d G) (hm : M ≤ N) : Opens M P T d G :=
  fun H enc W base spare held fuel cs x hf => h H enc W base spare held fuel cs x (Nat.le_trans hf hm)

theorem opens_int {N : Nat} {P : Program} {T : TypeId} {k : IntKind} (ht : P.underlying T = some (.int k)) : Opens N P T (Kd.int k) (fun n => (Lit.int k n).wf = true) := by
  intro H enc W base spare held fuel cs x _ h _
  obtain ⟨n, rfl, _, hw⟩ := DataW.trod_int ht h
  exact ⟨n, rfl, hw⟩
theorem weightsAll_mem {H : Type} {P : Program} {e : TypeId} : ∀ {l : List (DataW H)} {i : Nat} {d : DataW H}, l[i]? = some d → ∀ n ∈ d.weights P e, n ∈ DataW.weightsAll P e l
  | [], i, d, h => by simp at h
  | a :: r, 0, d, h => fun n hn => by
    simp at h
    subst h
    simp only [DataW.weightsAll, List.mem_append]
    exact .inl hn
  | a :: r, i + 1, d, h => fun n hn => by
    simp only [DataW.weightsAll, List.mem_append]
    exact .inr (weightsAll_mem (by simpa using h) n hn)
theorem choose_list {α : Type} {p : Nat → α → Prop} : ∀ n, (∀ i, i < n → ∃ x, p i x) → ∃ l : List α, l.length = n ∧ ∀ i x, l[i]? = some x → p i x
  | 0, _ => ⟨[], rfl, fun i x h => by simp at h⟩
  | n + 1, h => by
    obtain ⟨l, hl, hp⟩ := choose_list n (fun i hi => h i (by omega))
    obtain ⟨x, hx⟩ := h n (by omega)
    refine ⟨l ++ [x], by simp [hl], fun i y hy => ?_⟩
    rcases Nat.lt_or_ge i l.length with hi | hi
    · rw [List.getElem?_append_left hi] at hy
      exact hp i y hy
    · rw [List.getElem?_append_right hi] at hy
      have hi0 : i - l.length = 0 := by
        rcases Nat.eq_zero_or_pos (i - l.length) with h0 | h0
        · exact h0
        · rw [List.getElem?_eq_none (by simp; omega)] at hy
          cases hy
      rw [hi0] at hy
      simp at hy
      subst hy
      rw [show i = n by omega]
      exact hx
theorem opens_slice {N : Nat} {P : Program} {T e : TypeId} {α : Type} {d : Kd α} {G : α → Prop} (ht : P.underlying T = some (.slice e)) (hsz : P.cellsOf e = d.sz) (hd : Opens N P e d G) :
    Opens (N + 1) P T (Kd.slice e d) (fun xs => (∀ x ∈ xs, G x) ∧ xs.length * P.bytesOf e ≤ reachBytes) := by
  intro H enc W base spare held fuel cs x hN h hw
  rcases DataW.trod_slice ht h with ⟨rfl, rfl⟩ | ⟨a, len, cap, elems, rest, n, rfl, rfl, rfl, hb, hl, hm, hlen, hel, _, _⟩
  · exact ⟨[], ⟨none, 0, rfl, by simp, ⟨rfl, by simp, fun h => absurd h (Nat.lt_irrefl 0)⟩⟩, fun x hx => by simp at hx, by simp⟩
  · have hw2 : ∀ m ∈ (DataW.slice (elems.map (·.1)) (rest.map (·.1)) : DataW H).weights P T, m ≤ reachBytes := hw
    simp only [DataW.weights, ht, List.mem_cons, List.mem_append] at hw2
    have one : ∀ i, i < len → ∃ y : α, G y ∧ ∃ c : List Value, c.length = d.sz ∧ d.K W y c ∧ ∀ j u, c[j]? = some u → W.cell? (a.add (i * d.sz + j)) = some u := by
      intro i hi
      have hi2 := hel i hi
      rw [List.getElem?_eq_getElem (by omega)] at hi2
      obtain ⟨c, h1, h2⟩ := Option.bind_eq_some_iff.1 hi2
      obtain ⟨y, hK, hG⟩ := hd H enc W base spare held n c _ (by omega) h2 (fun m hm2 => hw2 m (.inr (.inl (weightsAll_mem (i := i) (by simp [List.getElem?_eq_getElem (show i < elems.length by omega)]) m hm2))))
      obtain ⟨_, h3, h4⟩ := World.cells?_some h1
      refine ⟨y, hG, c, by rw [h3, hsz], hK, fun j u hu => ?_⟩
      have hj : j < c.length := (List.getElem?_eq_some_iff.1 hu).1
      have h5 := h4 j (by omega)
      rw [hu] at h5
      have e1 : (a.add (i * P.cellsOf e)).add j = a.add (i * d.sz + j) := by
        rw [hsz]
        unfold Addr.add
        by_cases hi0 : i * d.sz = 0 <;> by_cases hj0 : j = 0 <;> simp [hi0, hj0, Nat.add_assoc]
      rw [← e1]
      exact h5
    obtain ⟨l, hl2, hp⟩ := choose_list len one
    refine ⟨l, ⟨some a, cap, by rw [hl2], by omega, ⟨rfl, by unfold maxLen at hm; omega, fun _ => ⟨a, rfl, fun j p hj => (hp j p hj).2⟩⟩⟩, fun x hx => ?_, ?_⟩
    · obtain ⟨i, hi⟩ := List.getElem?_of_mem hx
      exact (hp i x hi).1
    · have h6 := hw2 _ (.inl rfl)
      simp only [List.length_map] at h6
      rw [hl2]
      exact Nat.le_trans (Nat.mul_le_mul_right _ (by omega)) h6

/-- Fields that lie side by side from cell o on, n cells in all. -/
def OpensF (N : Nat) (P : Program) (fs : List Field) (o n : Nat) {α : Type} (d : Kd α) (G : α → Prop) : Prop :=
  ∀ (H : Type) (enc : TypeId × Value → H) (W : World) (base : Nat) (spare : Nat → Bool) (held : Bool) (fuel : Nat) (cs : List Value) (xs : List (DataW H × List MemPlace)),
    fuel ≤ N → xs.length = fs.length → (∀ (i : Nat) (f : Field), fs[i]? = some f → DataW.trod enc P W base spare held fuel f.type ((cs.drop f.offset).take (P.cellsOf f.type)) = xs[i]?) →
    (∀ m ∈ DataW.weightsEach P (fs.map (·.type)) (xs.map (·.1)), m ≤ reachBytes) → ∃ y, d.K W y ((cs.drop o).take n) ∧ G y
theorem opensF_one {N : Nat} {P : Program} {f : Field} {o n : Nat} {α : Type} {d : Kd α} {G : α → Prop} (ho : f.offset = o) (hn : P.cellsOf f.type = n) (h : Opens N P f.type d G) : OpensF N P [f] o n d G := by
  intro H enc W base spare held fuel cs xs hN hl hx hw
  obtain ⟨x, rfl⟩ : ∃ x, xs = [x] := by
    match xs, hl with
    | [x], _ => exact ⟨x, rfl⟩
  have h1 := hx 0 f rfl
  rw [ho, hn] at h1
  exact h H enc W base spare held fuel _ x hN h1 (fun m hm => hw m (by simpa [DataW.weightsEach] using hm))
theorem opensF_cons {N : Nat} {P : Program} {f : Field} {fs : List Field} {o a n : Nat} {α β : Type} {d : Kd α} {d' : Kd β} {G : α → Prop} {G' : β → Prop} (ho : f.offset = o) (ha : P.cellsOf f.type = a) (h : Opens N P f.type d G) (hr : OpensF N P fs (o + a) n d' G') :
    OpensF N P (f :: fs) o (a + n) (Kd.pair d d') (fun y => G y.1 ∧ G' y.2) := by
  intro H enc W base spare held fuel cs xs hN hl hx hw
  match xs, hl with
  | x :: xs, hl =>
    have h1 := hx 0 f rfl
    rw [ho, ha] at h1
    simp only [List.map_cons, DataW.weightsEach, List.mem_append] at hw
    obtain ⟨y, hy, gy⟩ := h H enc W base spare held fuel _ x hN h1 (fun m hm => hw m (.inl hm))
    obtain ⟨z, hz, gz⟩ := hr H enc W base spare held fuel cs xs hN (by simpa using hl) (fun i g hg => by simpa using hx (i + 1) g (by simpa using hg)) (fun m hm => hw m (.inr hm))
    refine ⟨(y, z), ⟨_, _, ?_, hy, hz⟩, gy, gz⟩
    rw [List.take_add, List.drop_drop]
theorem opens_struct {N : Nat} {P : Program} {T : TypeId} {fs : List Field} {n : Nat} {α β : Type} {d : Kd α} {G : α → Prop} (ht : P.underlying T = some (.struct fs.toArray)) (hn : P.cellsOf T = n) (f : β → α) (g : α → β) (hg : ∀ y, f (g y) = y)
    (h : OpensF N P fs 0 n d G) : Opens (N + 1) P T (Kd.iso d f) (fun y => G (f y)) := by
  intro H enc W base spare held fuel cs x hN hx hw
  obtain ⟨xs, m, rfl, rfl, hl, hlx, hf⟩ := DataW.trod_struct ht hx
  obtain ⟨y, hy, gy⟩ := h H enc W base spare held m cs xs (by omega) (by simpa using hlx) (fun i f0 hi => hf i f0 (by simpa using hi)) (fun k hk => hw k (by
    simp only [DataW.weights, ht]
    exact hk))
  refine ⟨g y, ?_, ?_⟩
  · show d.K W (f (g y)) cs
    rw [hg]
    rw [← hn, ← hl, List.drop_zero, List.take_length] at hy
    exact hy
  · show G (f (g y))
    rw [hg]
    exact gy
theorem Opens.imp {N : Nat} {P : Program} {T : TypeId} {α : Type} {d : Kd α} {G G' : α → Prop} (h : Opens N P T d G) (hi : ∀ y, G y → G' y) : Opens N P T d G' := by
  intro H enc W base spare held fuel cs x hN hx hw
  obtain ⟨y, hy, gy⟩ := h H enc W base spare held fuel cs x hN hx hw
  exact ⟨y, hy, hi y gy⟩
theorem opens_upto {P : Program} {T : TypeId} {α : Type} {F : Kd α → Kd α} {sz : Nat} {E : List Nat} {G : α → Prop} (step : ∀ N (d : Kd α), d.sz = sz → Opens N P T d G → Opens (N + 1) P T (F d) G) (hs : ∀ n, (Kd.upto F sz E n).sz = sz) : ∀ N, Opens N P T (Kd.upto F sz E N) G
  | 0 => fun H enc W base spare held fuel cs x hN h _ => by
    obtain rfl : fuel = 0 := by omega
    simp [DataW.trod] at h
  | N + 1 => step N _ (hs N) (opens_upto step hs N)
theorem opens_fix {P : Program} {T : TypeId} {α : Type} {F : Kd α → Kd α} {sz : Nat} {E : List Nat} {G : α → Prop} {hs : ∀ n, (Kd.upto F sz E n).sz = sz} {hE : ∀ n q, q ∈ (Kd.upto F sz E n).E → q ∈ E} (step : ∀ N (d : Kd α), d.sz = sz → Opens N P T d G → Opens (N + 1) P T (F d) G) (N : Nat) : Opens N P T (Kd.fix F sz E hs hE) G := by
  intro H enc W base spare held fuel cs x hN hx hw
  obtain ⟨y, hy, gy⟩ := opens_upto step hs N H enc W base spare held fuel cs x hN hx hw
  exact ⟨y, ⟨N, hy⟩, gy⟩
theorem bytes_le {a b n r : Nat} (e : a = b) (h : n * a ≤ r) : n * b ≤ r := e ▸ h
/-- An argument. -/
theorem opened {P : Program} {T : TypeId} {α : Type} {d : Kd α} {G : α → Prop} (h : ∀ N, Opens N P T d G) {H : Type} {enc : TypeId × Value → H} {W : World} {base : Nat} {spare : Nat → Bool} {held : Bool} {v : Value} {x : DataW H} {p : List MemPlace} (ht : DataW.Trod enc P W base spare held T v x p)
    {ts : List TypeId} {ds : List (DataW H)} {j : Nat} (hz : (DataW.weightsEach P ts ds).all (· ≤ reachBytes) = true) (hj : ts[j]? = some T) (hd : ds[j]? = some x) : ∃ y, d.K W y v.cells.toList ∧ G y := by
  obtain ⟨fuel, hf⟩ := ht
  exact h fuel H enc W base spare held fuel _ _ (Nat.le_refl _) hf (fun n hn => by
    have := List.all_eq_true.1 hz n (DataW.weights_mem_each hj hd n hn)
    simpa using this)
end Go.Proofs.Ytegaicoddnmemaa.Op

namespace Go.Proofs.Ytegaicoddnmemaa.Ki
open Go.RowKit Go.Proofs.YtegaicoddnmemaaW.PrintWords Go.Proofs.Ytegaicoddnmemaa.Op Go.Proofs.Ytegaicoddnmemaa.P
set_option linter.unusedVariables false
inductive G24 : S24 → Prop
  | mk (s : S24) : (Lit.int .i64 s.f0).wf = true → (Lit.int .i64 s.f1).wf = true → (∀ x ∈ s.f2, G24 x) → s.f2.length * 40 ≤ reachBytes → G24 s
theorem op24 (N : Nat) : Opens N Try.prog 24 k24 G24 := by
  refine opens_fix (fun N d hz hd => ?_) N
  refine (opens_struct Try.underlying24 (n := 3) (by kernel_rfl) _ (fun y : Int × Int × (List (S24)) => (⟨y.1, y.2.1, y.2.2⟩ : S24)) (fun _ => rfl) (opensF_cons (a := 1) (n := 2) rfl (by kernel_rfl) (opens_int Try.underlying3) (opensF_cons (a := 1) (n := 1) rfl (by kernel_rfl) (opens_int Try.underlying3) (opensF_one (n := 1) rfl (by kernel_rfl) ((opens_slice Try.underlying22 (hz ▸ by kernel_rfl) hd).mono (Nat.le_succ N)))))).imp (fun s h => ?_)
  exact G24.mk s (h.1) (h.2.1) (h.2.2.1) (bytes_le (by kernel_rfl : Try.prog.bytesOf 24 = 40) h.2.2.2)
end Go.Proofs.Ytegaicoddnmemaa.Ki

namespace Go.Proofs.Ytegaicoddnmemaa.Pu
open Go.RowKit Go.Proofs.YtegaicoddnmemaaW.PrintWords Go.Proofs.YtegaicoddnmemaaW.PrintMore
open Go.Proofs.Ytegaicoddnmemaa.P Go.Proofs.Ytegaicoddnmemaa.X Go.Proofs.Ytegaicoddnmemaa.Ki
set_option linter.unusedVariables false
set_option linter.unusedSimpArgs false
theorem TableauNots_pure (s0 : S24) (g0 : G24 s0) (a1 : Int) (w1 : (Lit.int .i64 a1).wf = true) (a2 : Int) (w2 : (Lit.int .u32 a2).wf = true) : parrylaw23_TableauNots.f s0.f0 s0.f1 s0.f2 a1 a2 = some true := rfl
end Go.Proofs.Ytegaicoddnmemaa.Pu

