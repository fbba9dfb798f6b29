/- A part of the claim TableauOne. -/
import Derived.ChangeArms
import Derived.SizedLaws
import Derived.WideShapes
import Derived.Test.YtegaicoddnmemaaQTableauOnea
import Derived.Test.YtegaicoddnmemaaQTableauOneb
import Derived.Test.YtegaicoddnmemaaQTableauOnec
import Derived.Test.YtegaicoddnmemaaQTableauOned
namespace Go.Proofs.Ytegaicoddnmemaa.Op
open Go.RowKit Go.Proofs.YtegaicoddnmemaaW.PrintWords
set_option linter.unusedVariables false
set_option linter.unusedSimpArgs false

def Opens (N : Nat) (P : Program) (T : TypeId) {α : Type} (d : Kd α) (G : α → Prop) : Prop :=
  ∀ (H : Type) (enc : TypeId × Value → H) (W : World) (base : Nat) (spare : Nat → Bool) (held : Bool) (fuel : Nat) (cs : List Value) (x : DataW H × List MemPlace),
    fuel ≤ N → DataW.trod enc P W base spare held fuel T cs = some x → (∀ n ∈ x.1.weights P T, n ≤ reachBytes) → ∃ y, d.K W y cs ∧ G y

theorem Opens.mono {N M : Nat} {P : Program} {T : TypeId} {α : Type} {d : Kd α} {G : α → Prop} (h : Opens N P T d G) (hm : M ≤ N) : Opens M P T d G :=
  fun H enc W base spare held fuel cs x hf => h H enc W base spare held fuel cs x (Nat.le_trans hf hm)

theorem opens_int {N : Nat} {P : Program} {T : TypeId} {k : IntKind} (ht : P.underlying T = some (.int k)) : Opens N P T (Kd.int k) (fun n => (Lit.int k n).wf = true) := by
  intro H enc W base spare held fuel cs x _ h _
  obtain ⟨n, rfl, _, hw⟩ := DataW.trod_int ht h
  exact ⟨n, rfl, hw⟩
theorem weightsAll_mem {H : Type} {P : Program} {e : TypeId} : ∀ {l : List (DataW H)} {i : Nat} {d : DataW H}, l[i]? = some d → ∀ n ∈ d.weights P e, n ∈ DataW.weightsAll P e l
  | [], i, d, h => by simp at h
  | a :: r, 0, d, h => fun n hn => by
    simp at h
    subst h
    simp only [DataW.weightsAll, List.mem_append]
    exact .inl hn
  | a :: r, i + 1, d, h => fun n hn => by
    simp only [DataW.weightsAll, List.mem_append]
    exact .inr (weightsAll_mem (by simpa using h) n hn)
theorem choose_list {α : Type} {p : Nat → α → Prop} : ∀ n, (∀ i, i < n → ∃ x, p i x) → ∃ l : List α, l.length = n ∧ ∀ i x, l[i]? = some x → p i x
  | 0, _ => ⟨[], rfl, fun i x h => by simp at h⟩
  | n + 1, h => by
    obtain ⟨l, hl, hp⟩ := choose_list n (fun i hi => h i (by omega))
    obtain ⟨x, hx⟩ := h n (by omega)
    refine ⟨l ++ [x], by simp [hl], fun i y hy => ?_⟩
    rcases Nat.lt_or_ge i l.length with hi | hi
    · rw [List.getElem?_append_left hi] at hy
      exact hp i y hy
    · rw [List.getElem?_append_right hi] at hy
      have hi0 : i - l.length = 0 := by
        rcases Nat.eq_zero_or_pos (i - l.length) with h0 | h0
        · exact h0
        · rw [List.getElem?_eq_none (by simp; omega)] at hy
          cases hy
      rw [hi0] at hy
      simp at hy
      subst hy
      rw [show i = n by omega]
      exact hx
theorem opens_slice {N : Nat} {P : Program} {T e : TypeId} {α : Type} {d : Kd α} {G : α → Prop} (ht : P.underlying T = some (.slice e)) (hsz : P.cellsOf e = d.sz) (hd : Opens N P e d G) :
    Opens (N + 1) P T (Kd.slice e d) (fun xs => (∀ x ∈ xs, G x) ∧ xs.length * P.bytesOf e ≤ reachBytes) := by
  intro H enc W base spare held fuel cs x hN h hw
  rcases DataW.trod_slice ht h with ⟨rfl, rfl⟩ | ⟨a, len, cap, elems, rest, n, rfl, rfl, rfl, hb, hl, hm, hlen, hel, _, _⟩
  · exact ⟨[], ⟨none, 0, rfl, by simp, ⟨rfl, by simp, fun h => absurd h (Nat.lt_irrefl 0)⟩⟩, fun x hx => by simp at hx, by simp⟩
  · have hw2 : ∀ m ∈ (DataW.slice (elems.map (·.1)) (rest.map (·.1)) : DataW H).weights P T, m ≤ reachBytes := hw
    simp only [DataW.weights, ht, List.mem_cons, List.mem_append] at hw2
    have one : ∀ i, i < len → ∃ y : α, G y ∧ ∃ c : List Value, c.length = d.sz ∧ d.K W y c ∧ ∀ j u, c[j]? = some u → W.cell? (a.add (i * d.sz + j)) = some u := by
      intro i hi
      have hi2 := hel i hi
      rw [List.getElem?_eq_getElem (by omega)] at hi2
      obtain ⟨c, h1, h2⟩ := Option.bind_eq_some_iff.1 hi2
      obtain ⟨y, hK, hG⟩ := hd H enc W base spare held n c _ (by omega) h2 (fun m hm2 => hw2 m (.inr (.inl (weightsAll_mem (i := i) (by simp [List.getElem?_eq_getElem (show i < elems.length by omega)]) m hm2))))
      obtain ⟨_, h3, h4⟩ := World.cells?_some h1
      refine ⟨y, hG, c, by rw [h3, hsz], hK, fun j u hu => ?_⟩
      have hj : j < c.length := (List.getElem?_eq_some_iff.1 hu).1
      have h5 := h4 j (by omega)
      rw [hu] at h5
      have e1 : (a.add (i * P.cellsOf e)).add j = a.add (i * d.sz + j) := by
        rw [hsz]
        unfold Addr.add
        by_cases hi0 : i * d.sz = 0 <;> by_cases hj0 : j = 0 <;> simp [hi0, hj0, Nat.add_assoc]
      rw [← e1]
      exact h5
    obtain ⟨l, hl2, hp⟩ := choose_list len one
    refine ⟨l, ⟨some a, cap, by rw [hl2], by omega, ⟨rfl, by unfold maxLen at hm; omega, fun _ => ⟨a, rfl, fun j p hj => (hp j p hj).2⟩⟩⟩, fun x hx => ?_, ?_⟩
    · obtain ⟨i, hi⟩ := List.getElem?_of_mem hx
      exact (hp i x hi).1
    · have h6 := hw2 _ (.inl rfl)
      simp only [List.length_map] at h6
      rw [hl2]
      exact Nat.le_trans (Nat.mul_le_mul_right _ (by omega)) h6

/-- Fields that lie side by side from cell o on, n cells in all. -/
def OpensF (N : Nat) (P : Program) (fs : List Field) (o n : Nat) {α : Type} (d : Kd α) (G : α → Prop) : Prop :=
  ∀ (H : Type) (enc : TypeId × Value → H) (W : World) (base : Nat) (spare : Nat → Bool) (held : Bool) (fuel : Nat) (cs : List Value) (xs : List (DataW H × List MemPlace)),
    fuel ≤ N → xs.length = fs.length → (∀ (i : Nat) (f : Field), fs[i]? = some f → DataW.trod enc P W base spare held fuel f.type ((cs.drop f.offset).take (P.cellsOf f.type)) = xs[i]?) →
    (∀ m ∈ DataW.weightsEach P (fs.map (·.type)) (xs.map (·.1)), m ≤ reachBytes) → ∃ y, d.K W y ((cs.drop o).take n) ∧ G y
theorem opensF_one {N : Nat} {P : Program} {f : Field} {o n : Nat} {α : Type} {d : Kd α} {G : α → Prop} (ho : f.offset = o) (hn : P.cellsOf f.type = n) (h : Opens N P f.type d G) : OpensF N P [f] o n d G := by
  intro H enc W base spare held fuel cs xs hN hl hx hw
  obtain ⟨x, rfl⟩ : ∃ x, xs = [x] := by
    match xs, hl with
    | [x], _ => exact ⟨x, rfl⟩
  have h1 := hx 0 f rfl
  rw [ho, hn] at h1
  exact h H enc W base spare held fuel _ x hN h1 (fun m hm => hw m (by simpa [DataW.weightsEach] using hm))
theorem opensF_cons {N : Nat} {P : Program} {f : Field} {fs : List Field} {o a n : Nat} {α β : Type} {d : Kd α} {d' : Kd β} {G : α → Prop} {G' : β → Prop} (ho : f.offset = o) (ha : P.cellsOf f.type = a) (h : Opens N P f.type d G) (hr : OpensF N P fs (o + a) n d' G') :
    OpensF N P (f :: fs) o (a + n) (Kd.pair d d') (fun y => G y.1 ∧ G' y.2) := by
  intro H enc W base spare held fuel cs xs hN hl hx hw
  match xs, hl with
  | x :: xs, hl =>
    have h1 := hx 0 f rfl
    rw [ho, ha] at h1
    simp only [List.map_cons, DataW.weightsEach, List.mem_append] at hw
    obtain ⟨y, hy, gy⟩ := h H enc W base spare held fuel _ x hN h1 (fun m hm => hw m (.inl hm))
    obtain ⟨z, hz, gz⟩ := hr H enc W base spare held fuel cs xs hN (by simpa using hl) (fun i g hg => by simpa using hx (i + 1) g (by simpa using hg)) (fun m hm => hw m (.inr hm))
    refine ⟨(y, z), ⟨_, _, ?_, hy, hz⟩, gy, gz⟩
    rw [List.take_add, List.drop_drop]
theorem opens_struct {N : Nat} {P : Program} {T : TypeId} {fs : List Field} {n : Nat} {α β : Type} {d : Kd α} {G : α → Prop} (ht : P.underlying T = some (.struct fs.toArray)) (hn : P.cellsOf T = n) (f : β → α) (g : α → β) (hg : ∀ y, f (g y) = y)
    (h : OpensF N P fs 0 n d G) : Opens (N + 1) P T (Kd.iso d f) (fun y => G (f y)) := by
  intro H enc W base spare held fuel cs x hN hx hw
  obtain ⟨xs, m, rfl, rfl, hl, hlx, hf⟩ := DataW.trod_struct ht hx
  obtain ⟨y, hy, gy⟩ := h H enc W base spare held m cs xs (by omega) (by simpa using hlx) (fun i f0 hi => hf i f0 (by simpa using hi)) (fun k hk => hw k (by
    simp only [DataW.weights, ht]
    exact hk))
  refine ⟨g y, ?_, ?_⟩
  · show d.K W (f (g y)) cs
    rw [hg]
    rw [← hn, ← hl, List.drop_zero, List.take_length] at hy
    exact hy
  · show G (f (g y))
    rw [hg]
    exact gy
theorem Opens.imp {N : Nat} {P : Program} {T : TypeId} {α : Type} {d : Kd α} {G G' : α → Prop} (h : Opens N P T d G) (hi : ∀ y, G y → G' y) : Opens N P T d G' := by
  intro H enc W base spare held fuel cs x hN hx hw
  obtain ⟨y, hy, gy⟩ := h H enc W base spare held fuel cs x hN hx hw
  exact ⟨y, hy, hi y gy⟩
theorem opens_upto {P : Program} {T : TypeId} {α : Type} {F : Kd α → Kd α} {sz : Nat} {E : List Nat} {G : α → Prop} (step : ∀ N (d : Kd α), d.sz = sz → Opens N P T d G → Opens (N + 1) P T (F d) G) (hs : ∀ n, (Kd.upto F sz E n).sz = sz) : ∀ N, Opens N P T (Kd.upto F sz E N) G
  | 0 => fun H enc W base spare held fuel cs x hN h _ => by
    obtain rfl : fuel = 0 := by omega
    simp [DataW.trod] at h
  | N + 1 => step N _ (hs N) (opens_upto step hs N)
theorem opens_fix {P : Program} {T : TypeId} {α : Type} {F : Kd α → Kd α} {sz : Nat} {E : List Nat} {G : α → Prop} {hs : ∀ n, (Kd.upto F sz E n).sz = sz} {hE : ∀ n q, q ∈ (Kd.upto F sz E n).E → q ∈ E} (step : ∀ N (d : Kd α), d.sz = sz → Opens N P T d G → Opens (N + 1) P T (F d) G) (N : Nat) : Opens N P T (Kd.fix F sz E hs hE) G := by
  intro H enc W base spare held fuel cs x hN hx hw
  obtain ⟨y, hy, gy⟩ := opens_upto step hs N H enc W base spare held fuel cs x hN hx hw
  exact ⟨y, ⟨N, hy⟩, gy⟩
theorem bytes_le {a b n r : Nat} (e : a = b) (h : n * a ≤ r) : n * b ≤ r := e ▸ h
/-- An argument. -/
theorem opened {P : Program} {T : TypeId} {α : Type} {d : Kd α} {G : α → Prop} (h : ∀ N, Opens N P T d G) {H : Type} {enc : TypeId × Value → H} {W : World} {base : Nat} {spare : Nat → Bool} {held : Bool} {v : Value} {x : DataW H} {p : List MemPlace} (ht : DataW.Trod enc P W base spare held T v x p)
    {ts : List TypeId} {ds : List (DataW H)} {j : Nat} (hz : (DataW.weightsEach P ts ds).all (· ≤ reachBytes) = true) (hj : ts[j]? = some T) (hd : ds[j]? = some x) : ∃ y, d.K W y v.cells.toList ∧ G y := by
  obtain ⟨fuel, hf⟩ := ht
  exact h fuel H enc W base spare held fuel _ _ (Nat.le_refl _) hf (fun n hn => by
    have := List.all_eq_true.1 hz n (DataW.weights_mem_each hj hd n hn)
    simpa using this)
end Go.Proofs.Ytegaicoddnmemaa.Op

namespace Go.Proofs.Ytegaicoddnmemaa.Ki
open Go.RowKit Go.Proofs.YtegaicoddnmemaaW.PrintWords Go.Proofs.Ytegaicoddnmemaa.Op Go.Proofs.Ytegaicoddnmemaa.P
set_option linter.unusedVariables false
inductive G24 : S24 → Prop
  | mk (s : S24) : (Lit.int .i64 s.f0).wf = true → (Lit.int .i64 s.f1).wf = true → (∀ x ∈ s.f2, G24 x) → s.f2.length * 40 ≤ reachBytes → G24 s
theorem op24 (N : Nat) : Opens N Try.prog 24 k24 G24 := by
  refine opens_fix (fun N d hz hd => ?_) N
  refine (opens_struct Try.underlying24 (n := 3) (by kernel_rfl) _ (fun y : Int × Int × (List (S24)) => (⟨y.1, y.2.1, y.2.2⟩ : S24)) (fun _ => rfl) (opensF_cons (a := 1) (n := 2) rfl (by kernel_rfl) (opens_int Try.underlying3) (opensF_cons (a := 1) (n := 1) rfl (by kernel_rfl) (opens_int Try.underlying3) (opensF_one (n := 1) rfl (by kernel_rfl) ((opens_slice Try.underlying22 (hz ▸ by kernel_rfl) hd).mono (Nat.le_succ N)))))).imp (fun s h => ?_)
  exact G24.mk s (h.1) (h.2.1) (h.2.2.1) (bytes_le (by kernel_rfl : Try.prog.bytesOf 24 = 40) h.2.2.2)
end Go.Proofs.Ytegaicoddnmemaa.Ki

namespace Go.Proofs.Ytegaicoddnmemaa.X
open Go.RowKit Go.Proofs.YtegaicoddnmemaaW.PrintWords Go.Proofs.YtegaicoddnmemaaW.PrintMore
open Go.Proofs.Ytegaicoddnmemaa.P Go.Proofs.Ytegaicoddnmemaa.Evx
set_option linter.unusedVariables false
set_option linter.unusedSimpArgs false
/-- What weigh tells is a number from 1 to 1000. -/
def WeiAt (s : S24) : Prop := ∀ (d r : Int), 0 ≤ d → d ≤ 41 → 0 ≤ r → r ≤ 500 → ∃ n : Int, Ev (fun k => parrylaw22_weigh.f k s.f0 s.f1 s.f2 d r) n ∧ 1 ≤ n ∧ n ≤ 1000
theorem weigh_l (kids : List S24) (d r : Int) (hd0 : 0 ≤ d) (hd : d ≤ 40) (hr0 : 1 ≤ r) (hr : r ≤ 500) (ih : ∀ k ∈ kids, WeiAt k) :
    ∀ (e j : Nat) (n : Int), j + e = kids.length → (j : Int) < n → n ≤ r → ∃ n' : Int, Ev (fun k => parrylaw22_weigh.l0 k d r n kids (kids.length : Int) j) n' ∧ 1 ≤ n' ∧ n' ≤ 1000
  | 0, j, n, hj, h1, h2 => ⟨n, ev_step (fun k => rfl) (ev_neg (by omega) (ev_some _)), by omega, by omega⟩
  | e + 1, j, n, hj, h1, h2 => by
    have hlt : j < kids.length := by omega
    obtain ⟨x, hx, x1, x2⟩ := ih _ (List.getElem_mem hlt) (d + 1) (r - n) (by omega) (by omega) (by omega) (by omega)
    by_cases hc : n + x > r
    · refine ⟨1000, ev_step (fun k => rfl) (ev_pos (by omega) (ev_pos (by omega) (ev_pos (by omega) ?_))), by omega, by omega⟩
      rw [rdT_nat kids j hlt, w64 (x := d + 1) (by omega) (by omega), w64 (x := r - n) (by omega) (by omega)]
      refine ev_bind hx ?_
      rw [w64 (by omega) (by omega)]
      exact ev_pos hc (ev_some _)
    · obtain ⟨n', hn', a1, a2⟩ := weigh_l kids d r hd0 hd hr0 hr ih e (j + 1) (n + x) (by omega) (by omega) (by omega)
      refine ⟨n', ev_step (fun k => rfl) (ev_pos (by omega) (ev_pos (by omega) (ev_pos (by omega) ?_))), a1, a2⟩
      rw [rdT_nat kids j hlt, w64 (x := d + 1) (by omega) (by omega), w64 (x := r - n) (by omega) (by omega)]
      refine ev_bind hx ?_
      rw [w64 (x := n + x) (by omega) (by omega), w64 (x := (j : Int) + 1) (by omega) (by omega)]
      refine ev_neg hc ?_
      exact_mod_cast hn'
mutual
theorem weigh_ev : ∀ s : S24, WeiAt s
  | ⟨op, m, kids⟩ => by
    intro d r h1 h2 h3 h4
    have ih := weigh_evL kids
    by_cases hd : d > 40
    · exact ⟨1000, ev_step (fun k => rfl) (ev_pos hd (ev_step (f := fun _ => some 1000) (fun k => rfl) (ev_some _))), by omega, by omega⟩
    · by_cases hr : r < 1
      · exact ⟨1000, ev_step (fun k => rfl) (ev_neg hd (ev_step (fun k => rfl) (ev_pos (decide_eq_true hr) (ev_some _)))), by omega, by omega⟩
      · obtain ⟨n', hn', a1, a2⟩ := weigh_l kids d r h1 (by omega) (by omega) h4 ih kids.length 0 1 (by omega) (by omega) (by omega)
        exact ⟨n', ev_step (fun k => rfl) (ev_neg hd (ev_step (fun k => rfl) (ev_neg (by rw [decide_eq_false hr]; simp) hn'))), a1, a2⟩
theorem weigh_evL : ∀ l : List S24, ∀ k ∈ l, WeiAt k
  | [], k, hk => by cases hk
  | a :: r, k, hk => by
    rcases List.mem_cons.1 hk with e | e
    · rw [e]; exact weigh_ev a
    · exact weigh_evL r k e
end
theorem heavy_ev (s : S24) : ∃ n : Int, Ev (fun k => parrylaw22_Heavy.f k s.f0 s.f1 s.f2) n ∧ 0 ≤ n ∧ n ≤ 1000 := by
  obtain ⟨n, hn, a1, a2⟩ := weigh_ev s 0 500 (by omega) (by omega) (by omega) (by omega)
  unfold parrylaw22_Heavy.f
  by_cases h : n > 300
  · exact ⟨n, ev_bind hn (ev_pos h (ev_some _)), by omega, by omega⟩
  · exact ⟨0, ev_bind hn (ev_neg h (ev_some _)), by omega, by omega⟩
end Go.Proofs.Ytegaicoddnmemaa.X

namespace Go.Proofs.Ytegaicoddnmemaa.X
open Go.RowKit Go.Proofs.YtegaicoddnmemaaW.PrintWords Go.Proofs.YtegaicoddnmemaaW.PrintLast Go.Proofs.YtegaicoddnmemaaW.PrintMore
open Go.Proofs.Ytegaicoddnmemaa.P Go.Proofs.Ytegaicoddnmemaa.Evx
set_option linter.unusedSimpArgs false
set_option linter.unusedVariables false
section
variable {w w1 : World} {ob : Nat} {a b c : Value}
end
/-- Rows of bools, grown out of vs since W0; beside them a block rb that may be written. -/
structure Rows {ι : Type} [DecidableEq ι] (w0 W0 : World) (rb : Nat) (vs : ι → Value) (w : World) (v : ι → Value) (l : ι → List Bool) : Prop where
  o : ∀ i, w.ownsRow w0.heap.size 4 1 (v i) (l i).length (encs Value.bool (l i))
  ne : ∀ i j, i ≠ j → (v i).ownBlock = none ∨ (v i).ownBlock ≠ (v j).ownBlock
  kp : Kept W0 w (fun k => (∃ i, some k = (vs i).ownBlock) ∨ k = rb)
  n : ∀ i k, (v i).ownBlock = some k → some k = (vs i).ownBlock ∨ W0.heap.size ≤ k
  lt : ∀ i k, (vs i).ownBlock = some k → k < W0.heap.size
  rl : rb < W0.heap.size
  r : ∀ i, some rb ≠ (vs i).ownBlock
  bl : Below w0.heap.size w0 w
  rb0 : w0.heap.size ≤ rb
section
variable {ι : Type} [DecidableEq ι] {w0 W0 w w1 : World} {rb g cap : Nat} {vs v : ι → Value} {l : ι → List Bool}
theorem Rows.rbv (h : Rows w0 W0 rb vs w v l) (i : ι) : some rb ≠ (v i).ownBlock := fun e => by
  rcases h.n i rb e.symm with h1 | h1
  · exact h.r i h1
  · have := h.rl; omega
theorem Rows.step (h : Rows w0 W0 rb vs w v l) (hk : Kept w w1 (fun k => k = rb)) (hb : Below w0.heap.size w0 w1) : Rows w0 W0 rb vs w1 v l :=
  { h with
    o := fun i => own_move (h.o i) (fun k hk1 => hk.2 k (own_lt (h.o i) k hk1) (fun e => h.rbv i (by rw [hk1, e])))
    kp := h.kp.then_ hk (fun k e => .inl (.inr e))
    bl := hb }
theorem Rows.alloc (h : Rows w0 W0 rb vs w v l) (o : Obj) : Rows w0 W0 rb vs (w.alloc o) v l := h.step ((Kept.refl w _).alloc o) (below_alloc h.bl _)
theorem Rows.drew (h : Rows w0 W0 rb vs w v l) : Rows w0 W0 rb vs w.drew v l := h.step ((Kept.refl w _).drew) (below_drew1 h.bl)
theorem Rows.below (h : Rows w0 W0 rb vs w v l) (hb : Below w.heap.size w w1) : Rows w0 W0 rb vs w1 v l := h.step (Kept.of_below hb _) (h.bl.trans (hb.mono h.bl.size))
theorem Rows.setR (h : Rows w0 W0 rb vs w v l) (j : Nat) (u : Value) : Rows w0 W0 rb vs (w.setCell ⟨rb, j, none⟩ u) v l :=
  h.step (Kept.setCell (p := ⟨rb, j, none⟩) (Kept.refl w (fun k => k = rb)) (.inl rfl) u) (h.bl.setCell h.rb0 u)
/-- A bool of row i written. -/
theorem Rows.put (h : Rows w0 W0 rb vs w v l) (i : ι) {k : Nat} (hk : k < (l i).length) :
    ∃ g c, v i = .slice (some ⟨g, 0, none⟩) (l i).length c ∧ g ≠ rb ∧ w.cell? ⟨g, k, none⟩ = some (.bool ((l i).getD k false)) ∧ w.frozen? ⟨g, k, none⟩ = false ∧ (some g = (vs i).ownBlock ∨ W0.heap.size ≤ g) ∧
      ∀ b, Rows w0 W0 rb vs (w.setCell ⟨g, k, none⟩ (.bool b)) v (fun j => if j = i then (l i).set k b else l j) := by
  obtain ⟨g, c, e, hb, hl, p, q, s⟩ := own_put (h.o i) hk
  have hob : (v i).ownBlock = some g := by rw [e]; rfl
  refine ⟨g, c, e, fun e2 => h.rbv i (by rw [hob, e2]), p, q, ?_, fun b => ?_⟩
  · rcases h.n i g hob with h1 | h1
    · exact .inl h1
    · exact .inr h1
  · refine { h with o := ?_, kp := ?_, bl := h.bl.setCell hb _ }
    · intro j
      by_cases hj : j = i
      · subst hj
        simp only [if_pos]
        exact s b
      · simp only [if_neg hj]
        refine own_setCell (p := ⟨g, k, none⟩) (h.o j) (fun e2 => ?_) _
        rcases h.ne i j (Ne.symm hj) with h1 | h1
        · rw [hob] at h1; cases h1
        · exact h1 (by rw [hob, e2])
    · refine h.kp.setCell (p := ⟨g, k, none⟩) ?_ _
      rcases h.n i g hob with h1 | h1
      · exact .inl (.inl ⟨i, h1⟩)
      · exact .inr h1
end
end Go.Proofs.Ytegaicoddnmemaa.X

namespace Go.Proofs.Ytegaicoddnmemaa.X
open Go.RowKit Go.Proofs.YtegaicoddnmemaaW.PrintWords Go.Proofs.YtegaicoddnmemaaW.PrintLast Go.Proofs.YtegaicoddnmemaaW.PrintMore
open Go.Proofs.Ytegaicoddnmemaa.P Go.Proofs.Ytegaicoddnmemaa.Evx
set_option linter.unusedSimpArgs false
set_option linter.unusedVariables false
/-- Rows of bools of one's own, each apart from the others. -/
structure R3 {ι : Type} [DecidableEq ι] (w0 w : World) (v : ι → Value) (l : ι → List Bool) : Prop where
  o : ∀ i, w.ownsRow w0.heap.size 4 1 (v i) (l i).length (encs Value.bool (l i))
  ne : ∀ i j, i ≠ j → (v i).ownBlock = none ∨ (v i).ownBlock ≠ (v j).ownBlock
  bl : Below w0.heap.size w0 w
section
variable {ι : Type} [DecidableEq ι] {w0 W0 w w1 : World} {rb g cap : Nat} {vs v v1 : ι → Value} {l l1 : ι → List Bool}
theorem R3.below (h : R3 w0 w v l) (hb : Below w.heap.size w w1) : R3 w0 w1 v l := ⟨fun i => own_move (h.o i) (fun k hk => hb.block k (own_lt (h.o i) k hk)), h.ne, h.bl.trans (hb.mono h.bl.size)⟩
theorem R3.set (h : R3 w0 w v l) {p : Addr} (hne : ∀ i, some p.block ≠ (v i).ownBlock) (hp : w0.heap.size ≤ p.block) (u : Value) : R3 w0 (w.setCell p u) v l := ⟨fun i => own_setCell (h.o i) (hne i) u, h.ne, h.bl.setCell hp u⟩
theorem Rows.r3 (h : Rows w0 W0 rb vs w v l) : R3 w0 w v l := ⟨h.o, h.ne, h.bl⟩
theorem R3.rows (h : R3 w0 w v l) {cs : Array Value} {t : TypeId} (hb : w.heap[rb]? = some (.cells cs t (0, 0))) (ht : 4 ≠ t) (hr : w0.heap.size ≤ rb) : Rows w0 w rb v w v l :=
  { o := h.o, ne := h.ne, kp := Kept.refl _ _, n := fun _ _ e => .inl e.symm, lt := fun i => own_lt (h.o i), rl := blk_lt hb, bl := h.bl, rb0 := hr
    r := fun i e => by
      obtain ⟨cs2, hc⟩ := own_typed (h.o i) rb e.symm
      exact blk_ne hc hb ht rfl }
/-- Behind a call that was given the rows. -/
theorem Rows.call (h : Rows w0 W0 rb vs w v l) (k : R3 w0 w1 v1 l1) (hk : Kept w w1 (fun k => ∃ i, some k = (v i).ownBlock)) (hn : ∀ i k, (v1 i).ownBlock = some k → some k = (v i).ownBlock ∨ w.heap.size ≤ k) : Rows w0 W0 rb vs w1 v1 l1 :=
  { h with
    o := k.o
    ne := k.ne
    bl := k.bl
    kp := h.kp.then_ hk (fun j e => by
      obtain ⟨i, e⟩ := e
      rcases h.n i j e.symm with h1 | h1
      · exact .inl (.inl ⟨i, h1⟩)
      · exact .inr h1)
    n := fun i j e => by
      rcases hn i j e with h1 | h1
      · exact h.n i j h1.symm
      · right; have := h.kp.1; omega }
end
def rtm.T5 : Bool × List (List Nat × List Nat) := (true, [([], []), ([0], [0]), ([], []), ([2], [2]), ([1, 3], [1, 3]), ([], []), ([5], [5]), ([], []), ([6, 7, 4], [6, 7]), ([], []), ([9], [9]), ([], []), ([10, 11, 8], [10, 11]), ([0, 1, 2, 3, 4, 5, 6, 9, 10], []), ([13, 4, 12, 0, 1, 2, 3, 4, 5, 6, 9, 10], [4, 13]), ([0, 1, 2, 3, 4, 5, 6, 7, 8, 9, 10, 13, 14], []), ([15, 8, 14, 0, 1, 2, 3, 4, 5, 6, 7, 8, 9, 10, 13, 14], [8, 15]), ([0, 1, 2, 3, 4, 5, 6, 7, 8, 9, 10, 11, 12, 13, 14, 15, 16], []), ([17, 12, 16, 0, 1, 2, 3, 4, 5, 6, 7, 8, 9, 10, 11, 12, 13, 14, 15, 16], [12, 17])])
def rtm.B5 : List Nat := [0, 1, 0, 4, 15, 0, 32, 0, 255, 0, 512, 0, 4095, 1663, 16383, 32767, 65535, 131071, 262143]
theorem rtm.tab5 : rtab .any (opsOf Try.f53 5) = rtm.T5 := by kernel_rfl
theorem rtm.bits5 : waitsOk rtm.T5.2 rtm.B5 = true := by kernel_rfl
end Go.Proofs.Ytegaicoddnmemaa.X

namespace Go.Proofs.Ytegaicoddnmemaa.X
end Go.Proofs.Ytegaicoddnmemaa.X

namespace Go.Proofs.Ytegaicoddnmemaa.X
end Go.Proofs.Ytegaicoddnmemaa.X

namespace Go.Proofs.Ytegaicoddnmemaa.X
end Go.Proofs.Ytegaicoddnmemaa.X

namespace Go.Proofs.Ytegaicoddnmemaa.X
open Go.RowKit Go.Proofs.YtegaicoddnmemaaW.PrintWords Go.Proofs.YtegaicoddnmemaaW.PrintMore
open Go.Proofs.Ytegaicoddnmemaa.P Go.Proofs.Ytegaicoddnmemaa.Evx
set_option linter.unusedVariables false
set_option linter.unusedSimpArgs false
theorem wraps_i64 (n : Int) (h0 : 0 ≤ n) (h1 : n < 2 ^ 62) : IntKind.i64.wrap n = n := by rw [IntKind.wrap_i64]; omega
theorem div_cast (a k : Nat) : (a : Int) / 2 ^ k = ((a / 2 ^ k : Nat) : Int) := by
  rw [Int.natCast_ediv, Int.natCast_pow]; rfl
theorem bitK_nat (a k : Nat) (h : a < 2 ^ 62) : bitK (a : Int) k = decide (a / 2 ^ k % 2 = 1) := by
  unfold bitK
  rw [div_cast]
  have hlt : a / 2 ^ k < 2 ^ 62 := Nat.lt_of_le_of_lt (Nat.div_le_self _ _) h
  have := Go.bits_mask .i64 62 (by decide) wraps_i64 1 (by decide) ((a / 2 ^ k : Nat) : Int) (Int.natCast_nonneg _) (by exact_mod_cast hlt)
  have e1 : ((2 : Int) ^ 1 - 1) = 1 := by decide
  have e2 : ((2 : Int) ^ 1) = 2 := by decide
  rw [e1, e2] at this
  rw [this]
  generalize a / 2 ^ k = x at *
  by_cases hb : x % 2 = 1
  · rw [decide_eq_true hb]
    exact beq_iff_eq.2 (by omega)
  · rw [decide_eq_false hb]
    exact beq_eq_false_iff_ne.2 (by omega)
def numL : List Bool → Nat
  | [] => 0
  | b :: r => b.toNat + 2 * numL r
theorem numL_lt : ∀ l : List Bool, numL l < 2 ^ l.length
  | [] => by simp [numL]
  | b :: r => by
    have := numL_lt r
    have hb : b.toNat ≤ 1 := by cases b <;> decide
    simp only [numL, List.length_cons, Nat.pow_succ]
    omega
theorem moves_num : ∀ (L : List Bool) (k a : Nat), a < 2 ^ 62 → a / 2 ^ k < 2 ^ L.length → movesL (a : Int) L k = decide (a / 2 ^ k = numL L)
  | [], k, a, h1, h2 => by
    have : a / 2 ^ k = 0 := by simpa using h2
    exact (decide_eq_true this).symm
  | b :: r, k, a, h1, h2 => by
    have hc : numL (b :: r) = b.toNat + 2 * numL r := rfl
    show (b == bitK (a : Int) k && movesL (a : Int) r (k + 1)) = _
    have e1 : a / 2 ^ (k + 1) = a / 2 ^ k / 2 := by rw [Nat.pow_succ, Nat.div_div_eq_div_mul]
    simp only [List.length_cons, Nat.pow_succ] at h2
    rw [moves_num r (k + 1) a h1 (by rw [e1]; omega), bitK_nat a k h1, e1]
    generalize a / 2 ^ k = x at *
    generalize numL (b :: r) = y at *
    generalize numL r = z at *
    cases b
    · have hc : y = 2 * z := by rw [hc]; simp
      by_cases hx : x % 2 = 1
      · rw [decide_eq_true hx, decide_eq_false (show ¬ x = y by omega)]; rfl
      · rw [decide_eq_false hx]
        by_cases hy : x / 2 = z
        · rw [decide_eq_true hy, decide_eq_true (show x = y by omega)]; rfl
        · rw [decide_eq_false hy, decide_eq_false (show ¬ x = y by omega)]; rfl
    · have hc : y = 1 + 2 * z := by rw [hc]; simp
      by_cases hx : x % 2 = 1
      · rw [decide_eq_true hx]
        by_cases hy : x / 2 = z
        · rw [decide_eq_true hy, decide_eq_true (show x = y by omega)]; rfl
        · rw [decide_eq_false hy, decide_eq_false (show ¬ x = y by omega)]; rfl
      · rw [decide_eq_false hx, decide_eq_false (show ¬ x = y by omega)]; rfl
theorem size_nat {s : S24} (h : mayF s = 0) : sizeS s = ((2 ^ tnS s : Nat) : Int) := by
  unfold sizeS
  rw [if_pos h, Int.natCast_pow]; rfl
theorem size_256 {s : S24} (h : mayF s = 0) : 1 ≤ 2 ^ tnS s ∧ 2 ^ tnS s ≤ 256 := by
  have h8 := (may_zero h).2.2.1
  refine ⟨Nat.one_le_two_pow, ?_⟩
  exact Nat.pow_le_pow_right (n := 2) (by decide) h8
theorem size_zero {s : S24} (h : mayF s ≠ 0) : sizeS s = 0 := by unfold sizeS; rw [if_neg h]
/-- From a state and a letter one comes from just one state. -/
theorem moves_just {s : S24} (h : mayF s = 0) (a : Nat) (lt tv nx : Int) (ha : a < 2 ^ tnS s) (ht : stateS s tv = true) : movesF s (a : Int) lt tv nx = decide (a = numL (saidS tv nx s 0)) := by
  have h2 := size_256 h
  have hst : stateS s (a : Int) = true := decide_eq_true (by rw [size_nat h]; omega)
  unfold movesF
  rw [hst, ht, moves_num _ 0 a (by omega) (by rw [len_said, Nat.pow_zero, Nat.div_one]; exact ha), Nat.pow_zero, Nat.div_one]
  rfl
end Go.Proofs.Ytegaicoddnmemaa.X

namespace Go.Proofs.Ytegaicoddnmemaa.Pu
open Go.RowKit Go.Proofs.YtegaicoddnmemaaW.PrintWords Go.Proofs.YtegaicoddnmemaaW.PrintMore
open Go.Proofs.Ytegaicoddnmemaa.P Go.Proofs.Ytegaicoddnmemaa.Evx Go.Proofs.Ytegaicoddnmemaa.X Go.Proofs.Ytegaicoddnmemaa.Ki
set_option linter.unusedVariables false
set_option linter.unusedSimpArgs false
theorem awake_some : parrylaw23_awake.f = some true := rfl
theorem moves_f (s : S24) (a b c d : Int) : tableau_Moves.f s.f0 s.f1 s.f2 a b c d = some (movesF s a b c d) := by cases s; rfl
theorem one_l (s : S24) (lt tv nx : Int) (N : Nat) (hN : N = 2 ^ tnS s) (hm : mayF s = 0) (ht : stateS s tv = true) : ∀ (e j : Nat), j + e = N →
    Ev (fun k => parrylaw23_TableauOne.l0 k lt tv nx (N : Int) (if numL (saidS tv nx s 0) < j then 1 else 0) (N : Int) (j : Int) s.f0 s.f1 s.f2) true
  | 0, j, hj => by
    have h2 := size_256 hm
    have hl := numL_lt (saidS tv nx s 0)
    rw [len_said, ← hN] at hl
    refine ev_step (fun k => rfl) (ev_neg (by omega) (ev_pos (by rw [if_pos (by omega)]) ?_))
    have f1 : movesF s (-1) lt tv nx = false := by unfold movesF; rw [show stateS s (-1) = false from decide_eq_false (by omega)]; rfl
    have f2 : movesF s 0 lt (N : Int) nx = false := by
      unfold movesF
      rw [show stateS s (N : Int) = false from decide_eq_false (by rw [size_nat hm, ← hN]; omega)]
      simp
    refine ev_bindv (moves_f s (-1) lt tv nx) ?_
    rw [f1]
    refine ev_ff (ev_bindv (moves_f s 0 lt N nx) ?_)
    rw [f2]
    exact ev_ff (ev_bindv awake_some (ev_some _))
  | e + 1, j, hj => by
    have h2 := size_256 hm
    have ih := one_l s lt tv nx N hN hm ht e (j + 1) (by omega)
    refine ev_step (fun k => rfl) (ev_pos (by omega) ?_)
    refine ev_bindv (moves_f s j lt tv nx) ?_
    rw [moves_just hm j lt tv nx (by omega) ht]
    by_cases h : j = numL (saidS tv nx s 0)
    · rw [decide_eq_true h]
      refine ev_tt ?_
      rw [if_neg (by omega), w64 (x := (j : Int) + 1) (by omega) (by omega), w64 (x := (0 : Int) + 1) (by omega) (by omega)]
      rw [if_pos (by omega)] at ih
      exact_mod_cast ih
    · rw [decide_eq_false h]
      refine ev_ff ?_
      rw [w64 (x := (j : Int) + 1) (by omega) (by omega)]
      have hc : (if numL (saidS tv nx s 0) < j + 1 then (1 : Int) else 0) = if numL (saidS tv nx s 0) < j then 1 else 0 := by
        by_cases h3 : numL (saidS tv nx s 0) < j
        · rw [if_pos h3, if_pos (by omega)]
        · rw [if_neg h3, if_neg (by omega)]
      rw [hc] at ih
      exact_mod_cast ih
theorem TableauOne_pure (s0 : S24) (g0 : G24 s0) (a1 : Int) (w1 : (Lit.int .u32 a1).wf = true) (a2 : Int) (w2 : (Lit.int .i64 a2).wf = true) (a3 : Int) (w3 : (Lit.int .u32 a3).wf = true) : ∃ k, parrylaw23_TableauOne.f k s0.f0 s0.f1 s0.f2 a1 a2 a3 = some true := by
  refine Ev.rounds (?_ : Ev (fun k => parrylaw23_TableauOne.f k s0.f0 s0.f1 s0.f2 a1 a2 a3) true)
  unfold parrylaw23_TableauOne.f
  obtain ⟨n, hn, n0, n1⟩ := heavy_ev s0
  refine ev_bind hn (ev_ite (fun _ => ev_bindv awake_some (ev_some _)) (fun _ => ?_))
  refine ev_bind (Size_ev s0) ?_
  by_cases hm : mayF s0 = 0
  · have h2 := size_256 hm
    rw [size_nat hm]
    refine ev_neg (by omega) (ev_neg (by omega) (ev_neg (by rw [u64_id (by omega) (by omega)]; omega) ?_))
    rw [pick_eq a2 (by omega) (by omega)]
    have hp := pick_range a2 (n := ((2 ^ tnS s0 : Nat) : Int)) (by omega)
    have hst : stateS s0 (pick a2 ((2 ^ tnS s0 : Nat) : Int)) = true := decide_eq_true (by rw [size_nat hm]; exact hp)
    have := one_l s0 a1 (pick a2 ((2 ^ tnS s0 : Nat) : Int)) a3 (2 ^ tnS s0) rfl hm hst (2 ^ tnS s0) 0 (by omega)
    rw [if_neg (by omega)] at this
    exact_mod_cast this
  · rw [size_zero hm]
    refine ev_pos (by omega) (ev_pos rfl (ev_bind (rMay_ev s0) (ev_neg hm (ev_bindv awake_some (ev_some _)))))
end Go.Proofs.Ytegaicoddnmemaa.Pu

