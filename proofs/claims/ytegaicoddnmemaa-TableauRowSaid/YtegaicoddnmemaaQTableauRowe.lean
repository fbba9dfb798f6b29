/- A part of the claim TableauRow. -/
import Derived.ChangeArms
import Derived.SizedLaws
import Derived.WideShapes
import Derived.Test.YtegaicoddnmemaaQTableauRowa
import Derived.Test.YtegaicoddnmemaaQTableauRowb
import Derived.Test.YtegaicoddnmemaaQTableauRowc
import Derived.Test.YtegaicoddnmemaaQTableauRowd
namespace Go.Proofs.Ytegaicoddnmemaa.Op
open Go.RowKit Go.Proofs.YtegaicoddnmemaaW.PrintWords
set_option linter.unusedVariables false
set_option linter.unusedSimpArgs false

def Opens (N : Nat) (P : Program) (T : TypeId) {α : Type} (d : Kd α) (G : α → Prop) : Prop :=
  ∀ (H : Type) (enc : TypeId × Value → H) (W : World) (base : Nat) (spare : Nat → Bool) (held : Bool) (fuel : Nat) (cs : List Value) (x : DataW H × List MemPlace),
    fuel ≤ N → DataW.trod enc P W base spare held fuel T cs = some x → (∀ n ∈ x.1.weights P T, n ≤ reachBytes) → ∃ y, d.K W y cs ∧ G y

theorem Opens.mono {N M : Nat} {P : Program} {T : TypeId} {α : Type} {d : Kd α} {G : α → Prop} (h : Opens N P T d G) (hm : M ≤ N) : Opens M P T d G :=
  fun H enc W base spare held fuel cs x hf => h H enc W base spare held fuel cs x (Nat.le_trans hf hm)

theorem opens_int {N : Nat} {P : Program} {T : TypeId} {k : IntKind} (ht : P.underlying T = some (.int k)) : Opens N P T (Kd.int k) (fun n => (Lit.int k n).wf = true) := by
  intro H enc W base spare held fuel cs x _ h _
  obtain ⟨n, rfl, _, hw⟩ := DataW.trod_int ht h
  exact ⟨n, rfl, hw⟩
theorem weightsAll_mem {H : Type} {P : Program} {e : TypeId} : ∀ {l : List (DataW H)} {i : Nat} {d : DataW H}, l[i]? = some d → ∀ n ∈ d.weights P e, n ∈ DataW.weightsAll P e l
  | [], i, d, h => by simp at h
  | a :: r, 0, d, h => fun n hn => by
    simp at h
    subst h
    simp only [DataW.weightsAll, List.mem_append]
    exact .inl hn
  | a :: r, i + 1, d, h => fun n hn => by
    simp only [DataW.weightsAll, List.mem_append]
    exact .inr (weightsAll_mem (by simpa using h) n hn)
theorem choose_list {α : Type} {p : Nat → α → Prop} : ∀ n, (∀ i, i < n → ∃ x, p i x) → ∃ l : List α, l.length = n ∧ ∀ i x, l[i]? = some x → p i x
  | 0, _ => ⟨[], rfl, fun i x h => by simp at h⟩
  | n + 1, h => by
    obtain ⟨l, hl, hp⟩ := choose_list n (fun i hi => h i (by omega))
    obtain ⟨x, hx⟩ := h n (by omega)
    refine ⟨l ++ [x], by simp [hl], fun i y hy => ?_⟩
    rcases Nat.lt_or_ge i l.length with hi | hi
    · rw [List.getElem?_append_left hi] at hy
      exact hp i y hy
    · rw [List.getElem?_append_right hi] at hy
      have hi0 : i - l.length = 0 := by
        rcases Nat.eq_zero_or_pos (i - l.length) with h0 | h0
        · exact h0
        · rw [List.getElem?_eq_none (by simp; omega)] at hy
          cases hy
      rw [hi0] at hy
      simp at hy
      subst hy
      rw [show i = n by omega]
      exact hx
theorem opens_slice {N : Nat} {P : Program} {T e : TypeId} {α : Type} {d : Kd α} {G : α → Prop} (ht : P.underlying T = some (.slice e)) (hsz : P.cellsOf e = d.sz) (hd : Opens N P e d G) :
    Opens (N + 1) P T (Kd.slice e d) (fun xs => (∀ x ∈ xs, G x) ∧ xs.length * P.bytesOf e ≤ reachBytes) := by
  intro H enc W base spare held fuel cs x hN h hw
  rcases DataW.trod_slice ht h with ⟨rfl, rfl⟩ | ⟨a, len, cap, elems, rest, n, rfl, rfl, rfl, hb, hl, hm, hlen, hel, _, _⟩
  · exact ⟨[], ⟨none, 0, rfl, by simp, ⟨rfl, by simp, fun h => absurd h (Nat.lt_irrefl 0)⟩⟩, fun x hx => by simp at hx, by simp⟩
  · have hw2 : ∀ m ∈ (DataW.slice (elems.map (·.1)) (rest.map (·.1)) : DataW H).weights P T, m ≤ reachBytes := hw
    simp only [DataW.weights, ht, List.mem_cons, List.mem_append] at hw2
    have one : ∀ i, i < len → ∃ y : α, G y ∧ ∃ c : List Value, c.length = d.sz ∧ d.K W y c ∧ ∀ j u, c[j]? = some u → W.cell? (a.add (i * d.sz + j)) = some u := by
      intro i hi
      have hi2 := hel i hi
      rw [List.getElem?_eq_getElem (by omega)] at hi2
      obtain ⟨c, h1, h2⟩ := Option.bind_eq_some_iff.1 hi2
      obtain ⟨y, hK, hG⟩ := hd H enc W base spare held n c _ (by omega) h2 (fun m hm2 => hw2 m (.inr (.inl (weightsAll_mem (i := i) (by simp [List.getElem?_eq_getElem (show i < elems.length by omega)]) m hm2))))
      obtain ⟨_, h3, h4⟩ := World.cells?_some h1
      refine ⟨y, hG, c, by rw [h3, hsz], hK, fun j u hu => ?_⟩
      have hj : j < c.length := (List.getElem?_eq_some_iff.1 hu).1
      have h5 := h4 j (by omega)
      rw [hu] at h5
      have e1 : (a.add (i * P.cellsOf e)).add j = a.add (i * d.sz + j) := by
        rw [hsz]
        unfold Addr.add
        by_cases hi0 : i * d.sz = 0 <;> by_cases hj0 : j = 0 <;> simp [hi0, hj0, Nat.add_assoc]
      rw [← e1]
      exact h5
    obtain ⟨l, hl2, hp⟩ := choose_list len one
    refine ⟨l, ⟨some a, cap, by rw [hl2], by omega, ⟨rfl, by unfold maxLen at hm; omega, fun _ => ⟨a, rfl, fun j p hj => (hp j p hj).2⟩⟩⟩, fun x hx => ?_, ?_⟩
    · obtain ⟨i, hi⟩ := List.getElem?_of_mem hx
      exact (hp i x hi).1
    · have h6 := hw2 _ (.inl rfl)
      simp only [List.length_map] at h6
      rw [hl2]
      exact Nat.le_trans (Nat.mul_le_mul_right _ (by omega)) h6

/-- Fields that lie side by side from cell o on, n cells in all. -/
def OpensF (N : Nat) (P : Program) (fs : List Field) (o n : Nat) {α : Type} (d : Kd α) (G : α → Prop) : Prop :=
  ∀ (H : Type) (enc : TypeId × Value → H) (W : World) (base : Nat) (spare : Nat → Bool) (held : Bool) (fuel : Nat) (cs : List Value) (xs : List (DataW H × List MemPlace)),
    fuel ≤ N → xs.length = fs.length → (∀ (i : Nat) (f : Field), fs[i]? = some f → DataW.trod enc P W base spare held fuel f.type ((cs.drop f.offset).take (P.cellsOf f.type)) = xs[i]?) →
    (∀ m ∈ DataW.weightsEach P (fs.map (·.type)) (xs.map (·.1)), m ≤ reachBytes) → ∃ y, d.K W y ((cs.drop o).take n) ∧ G y
theorem opensF_one {N : Nat} {P : Program} {f : Field} {o n : Nat} {α : Type} {d : Kd α} {G : α → Prop} (ho : f.offset = o) (hn : P.cellsOf f.type = n) (h : Opens N P f.type d G) : OpensF N P [f] o n d G := by
  intro H enc W base spare held fuel cs xs hN hl hx hw
  obtain ⟨x, rfl⟩ : ∃ x, xs = [x] := by
    match xs, hl with
    | [x], _ => exact ⟨x, rfl⟩
  have h1 := hx 0 f rfl
  rw [ho, hn] at h1
  exact h H enc W base spare held fuel _ x hN h1 (fun m hm => hw m (by simpa [DataW.weightsEach] using hm))
theorem opensF_cons {N : Nat} {P : Program} {f : Field} {fs : List Field} {o a n : Nat} {α β : Type} {d : Kd α} {d' : Kd β} {G : α → Prop} {G' : β → Prop} (ho : f.offset = o) (ha : P.cellsOf f.type = a) (h : Opens N P f.type d G) (hr : OpensF N P fs (o + a) n d' G') :
    OpensF N P (f :: fs) o (a + n) (Kd.pair d d') (fun y => G y.1 ∧ G' y.2) := by
  intro H enc W base spare held fuel cs xs hN hl hx hw
  match xs, hl with
  | x :: xs, hl =>
    have h1 := hx 0 f rfl
    rw [ho, ha] at h1
    simp only [List.map_cons, DataW.weightsEach, List.mem_append] at hw
    obtain ⟨y, hy, gy⟩ := h H enc W base spare held fuel _ x hN h1 (fun m hm => hw m (.inl hm))
    obtain ⟨z, hz, gz⟩ := hr H enc W base spare held fuel cs xs hN (by simpa using hl) (fun i g hg => by simpa using hx (i + 1) g (by simpa using hg)) (fun m hm => hw m (.inr hm))
    refine ⟨(y, z), ⟨_, _, ?_, hy, hz⟩, gy, gz⟩
    rw [List.take_add, List.drop_drop]
theorem opens_struct {N : Nat} {P : Program} {T : TypeId} {fs : List Field} {n : Nat} {α β : Type} {d : Kd α} {G : α → Prop} (ht : P.underlying T = some (.struct fs.toArray)) (hn : P.cellsOf T = n) (f : β → α) (g : α → β) (hg : ∀ y, f (g y) = y)
    (h : OpensF N P fs 0 n d G) : Opens (N + 1) P T (Kd.iso d f) (fun y => G (f y)) := by
  intro H enc W base spare held fuel cs x hN hx hw
  obtain ⟨xs, m, rfl, rfl, hl, hlx, hf⟩ := DataW.trod_struct ht hx
  obtain ⟨y, hy, gy⟩ := h H enc W base spare held m cs xs (by omega) (by simpa using hlx) (fun i f0 hi => hf i f0 (by simpa using hi)) (fun k hk => hw k (by
    simp only [DataW.weights, ht]
    exact hk))
  refine ⟨g y, ?_, ?_⟩
  · show d.K W (f (g y)) cs
    rw [hg]
    rw [← hn, ← hl, List.drop_zero, List.take_length] at hy
    exact hy
  · show G (f (g y))
    rw [hg]
    exact gy
theorem Opens.imp {N : Nat} {P : Program} {T : TypeId} {α : Type} {d : Kd α} {G G' : α → Prop} (h : Opens N P T d G) (hi : ∀ y, G y → G' y) : Opens N P T d G' := by
  intro H enc W base spare held fuel cs x hN hx hw
  obtain ⟨y, hy, gy⟩ := h H enc W base spare held fuel cs x hN hx hw
  exact ⟨y, hy, hi y gy⟩
theorem opens_upto {P : Program} {T : TypeId} {α : Type} {F : Kd α → Kd α} {sz : Nat} {E : List Nat} {G : α → Prop} (step : ∀ N (d : Kd α), d.sz = sz → Opens N P T d G → Opens (N + 1) P T (F d) G) (hs : ∀ n, (Kd.upto F sz E n).sz = sz) : ∀ N, Opens N P T (Kd.upto F sz E N) G
  | 0 => fun H enc W base spare held fuel cs x hN h _ => by
    obtain rfl : fuel = 0 := by omega
    simp [DataW.trod] at h
  | N + 1 => step N _ (hs N) (opens_upto step hs N)
theorem opens_fix {P : Program} {T : TypeId} {α : Type} {F : Kd α → Kd α} {sz : Nat} {E : List Nat} {G : α → Prop} {hs : ∀ n, (Kd.upto F sz E n).sz = sz} {hE : ∀ n q, q ∈ (Kd.upto F sz E n).E → q ∈ E} (step : ∀ N (d : Kd α), d.sz = sz → Opens N P T d G → Opens (N + 1) P T (F d) G) (N : Nat) : Opens N P T (Kd.fix F sz E hs hE) G := by
  intro H enc W base spare held fuel cs x hN hx hw
  obtain ⟨y, hy, gy⟩ := opens_upto step hs N H enc W base spare held fuel cs x hN hx hw
  exact ⟨y, ⟨N, hy⟩, gy⟩
theorem bytes_le {a b n r : Nat} (e : a = b) (h : n * a ≤ r) : n * b ≤ r := e ▸ h
/-- An argument. -/
theorem opened {P : Program} {T : TypeId} {α : Type} {d : Kd α} {G : α → Prop} (h : ∀ N, Opens N P T d G) {H : Type} {enc : TypeId × Value → H} {W : World} {base : Nat} {spare : Nat → Bool} {held : Bool} {v : Value} {x : DataW H} {p : List MemPlace} (ht : DataW.Trod enc P W base spare held T v x p)
    {ts : List TypeId} {ds : List (DataW H)} {j : Nat} (hz : (DataW.weightsEach P ts ds).all (· ≤ reachBytes) = true) (hj : ts[j]? = some T) (hd : ds[j]? = some x) : ∃ y, d.K W y v.cells.toList ∧ G y := by
  obtain ⟨fuel, hf⟩ := ht
  exact h fuel H enc W base spare held fuel _ _ (Nat.le_refl _) hf (fun n hn => by
    have := List.all_eq_true.1 hz n (DataW.weights_mem_each hj hd n hn)
    simpa using this)
end Go.Proofs.Ytegaicoddnmemaa.Op

namespace Go.Proofs.Ytegaicoddnmemaa.Ki
open Go.RowKit Go.Proofs.YtegaicoddnmemaaW.PrintWords Go.Proofs.Ytegaicoddnmemaa.Op Go.Proofs.Ytegaicoddnmemaa.P
set_option linter.unusedVariables false
inductive G24 : S24 → Prop
  | mk (s : S24) : (Lit.int .i64 s.f0).wf = true → (Lit.int .i64 s.f1).wf = true → (∀ x ∈ s.f2, G24 x) → s.f2.length * 40 ≤ reachBytes → G24 s
theorem op24 (N : Nat) : Opens N Try.prog 24 k24 G24 := by
  refine opens_fix (fun N d hz hd => ?_) N
  refine (opens_struct Try.underlying24 (n := 3) (by kernel_rfl) _ (fun y : Int × Int × (List (S24)) => (⟨y.1, y.2.1, y.2.2⟩ : S24)) (fun _ => rfl) (opensF_cons (a := 1) (n := 2) rfl (by kernel_rfl) (opens_int Try.underlying3) (opensF_cons (a := 1) (n := 1) rfl (by kernel_rfl) (opens_int Try.underlying3) (opensF_one (n := 1) rfl (by kernel_rfl) ((opens_slice Try.underlying22 (hz ▸ by kernel_rfl) hd).mono (Nat.le_succ N)))))).imp (fun s h => ?_)
  exact G24.mk s (h.1) (h.2.1) (h.2.2.1) (bytes_le (by kernel_rfl : Try.prog.bytesOf 24 = 40) h.2.2.2)
def G25 (l : List (Int)) : Prop := (∀ x ∈ l, (Lit.int .u32 x).wf = true) ∧ l.length * 4 ≤ reachBytes
theorem op25 (N : Nat) : Opens N Try.prog 25 (Kd.slice 36 (Kd.int .u32)) G25 := ((opens_slice Try.underlying25 (by kernel_rfl) (opens_int Try.underlying36)).imp (fun l h => ⟨h.1, bytes_le (by kernel_rfl : Try.prog.bytesOf 36 = 4) h.2⟩)).mono (Nat.le_succ N)
def G27 (s : S27) : Prop := G25 s.f0 ∧ G25 s.f1
theorem op27 (N : Nat) : Opens N Try.prog 27 k27 G27 := by
  refine Opens.mono (N := N + 1) ?_ (Nat.le_succ N)
  unfold k27
  have h0 := opens_struct (N := N) Try.underlying27 (n := 2) (by kernel_rfl) (fun x : S27 => (x.f0, x.f1)) (fun y : (List (Int)) × (List (Int)) => (⟨y.1, y.2⟩ : S27)) (fun _ => rfl) (opensF_cons (a := 1) (n := 1) rfl (by kernel_rfl) (op25 _) (opensF_one (n := 1) rfl (by kernel_rfl) (op25 _)))
  exact Opens.imp h0 (fun s h => h)
end Go.Proofs.Ytegaicoddnmemaa.Ki

namespace Go.Proofs.Ytegaicoddnmemaa.X
open Go.RowKit Go.Proofs.YtegaicoddnmemaaW.PrintWords Go.Proofs.YtegaicoddnmemaaW.PrintMore
open Go.Proofs.Ytegaicoddnmemaa.P Go.Proofs.Ytegaicoddnmemaa.Evx
set_option linter.unusedVariables false
set_option linter.unusedSimpArgs false
/-- What weigh tells is a number from 1 to 1000. -/
def WeiAt (s : S24) : Prop := ∀ (d r : Int), 0 ≤ d → d ≤ 41 → 0 ≤ r → r ≤ 500 → ∃ n : Int, Ev (fun k => parrylaw22_weigh.f k s.f0 s.f1 s.f2 d r) n ∧ 1 ≤ n ∧ n ≤ 1000
theorem weigh_l (kids : List S24) (d r : Int) (hd0 : 0 ≤ d) (hd : d ≤ 40) (hr0 : 1 ≤ r) (hr : r ≤ 500) (ih : ∀ k ∈ kids, WeiAt k) :
    ∀ (e j : Nat) (n : Int), j + e = kids.length → (j : Int) < n → n ≤ r → ∃ n' : Int, Ev (fun k => parrylaw22_weigh.l0 k d r n kids (kids.length : Int) j) n' ∧ 1 ≤ n' ∧ n' ≤ 1000
  | 0, j, n, hj, h1, h2 => ⟨n, ev_step (fun k => rfl) (ev_neg (by omega) (ev_some _)), by omega, by omega⟩
  | e + 1, j, n, hj, h1, h2 => by
    have hlt : j < kids.length := by omega
    obtain ⟨x, hx, x1, x2⟩ := ih _ (List.getElem_mem hlt) (d + 1) (r - n) (by omega) (by omega) (by omega) (by omega)
    by_cases hc : n + x > r
    · refine ⟨1000, ev_step (fun k => rfl) (ev_pos (by omega) (ev_pos (by omega) (ev_pos (by omega) ?_))), by omega, by omega⟩
      rw [rdT_nat kids j hlt, w64 (x := d + 1) (by omega) (by omega), w64 (x := r - n) (by omega) (by omega)]
      refine ev_bind hx ?_
      rw [w64 (by omega) (by omega)]
      exact ev_pos hc (ev_some _)
    · obtain ⟨n', hn', a1, a2⟩ := weigh_l kids d r hd0 hd hr0 hr ih e (j + 1) (n + x) (by omega) (by omega) (by omega)
      refine ⟨n', ev_step (fun k => rfl) (ev_pos (by omega) (ev_pos (by omega) (ev_pos (by omega) ?_))), a1, a2⟩
      rw [rdT_nat kids j hlt, w64 (x := d + 1) (by omega) (by omega), w64 (x := r - n) (by omega) (by omega)]
      refine ev_bind hx ?_
      rw [w64 (x := n + x) (by omega) (by omega), w64 (x := (j : Int) + 1) (by omega) (by omega)]
      refine ev_neg hc ?_
      exact_mod_cast hn'
mutual
theorem weigh_ev : ∀ s : S24, WeiAt s
  | ⟨op, m, kids⟩ => by
    intro d r h1 h2 h3 h4
    have ih := weigh_evL kids
    by_cases hd : d > 40
    · exact ⟨1000, ev_step (fun k => rfl) (ev_pos hd (ev_step (f := fun _ => some 1000) (fun k => rfl) (ev_some _))), by omega, by omega⟩
    · by_cases hr : r < 1
      · exact ⟨1000, ev_step (fun k => rfl) (ev_neg hd (ev_step (fun k => rfl) (ev_pos (decide_eq_true hr) (ev_some _)))), by omega, by omega⟩
      · obtain ⟨n', hn', a1, a2⟩ := weigh_l kids d r h1 (by omega) (by omega) h4 ih kids.length 0 1 (by omega) (by omega) (by omega)
        exact ⟨n', ev_step (fun k => rfl) (ev_neg hd (ev_step (fun k => rfl) (ev_neg (by rw [decide_eq_false hr]; simp) hn'))), a1, a2⟩
theorem weigh_evL : ∀ l : List S24, ∀ k ∈ l, WeiAt k
  | [], k, hk => by cases hk
  | a :: r, k, hk => by
    rcases List.mem_cons.1 hk with e | e
    · rw [e]; exact weigh_ev a
    · exact weigh_evL r k e
end
theorem heavy_ev (s : S24) : ∃ n : Int, Ev (fun k => parrylaw22_Heavy.f k s.f0 s.f1 s.f2) n ∧ 0 ≤ n ∧ n ≤ 1000 := by
  obtain ⟨n, hn, a1, a2⟩ := weigh_ev s 0 500 (by omega) (by omega) (by omega) (by omega)
  unfold parrylaw22_Heavy.f
  by_cases h : n > 300
  · exact ⟨n, ev_bind hn (ev_pos h (ev_some _)), by omega, by omega⟩
  · exact ⟨0, ev_bind hn (ev_neg h (ev_some _)), by omega, by omega⟩
theorem long_some (st lp : List Int) : ∃ n : Int, parrylaw22_Long.f st lp = some n ∧ 0 ≤ n ∧ n ≤ 1 ∧ (n = 0 → st.length ≤ 60 ∧ lp.length ≤ 60) := by
  unfold parrylaw22_Long.f
  by_cases h1 : (st.length : Int) > 60
  · exact ⟨1, by rw [if_pos h1], by omega, by omega, by omega⟩
  · by_cases h2 : (lp.length : Int) > 60
    · exact ⟨1, by rw [if_neg h1, if_pos h2], by omega, by omega, by omega⟩
    · exact ⟨0, by rw [if_neg h1, if_neg h2], by omega, by omega, by omega⟩
end Go.Proofs.Ytegaicoddnmemaa.X

namespace Go.Proofs.Ytegaicoddnmemaa.X
open Go.RowKit Go.Proofs.YtegaicoddnmemaaW.PrintWords Go.Proofs.YtegaicoddnmemaaW.PrintLast Go.Proofs.YtegaicoddnmemaaW.PrintMore
open Go.Proofs.Ytegaicoddnmemaa.P Go.Proofs.Ytegaicoddnmemaa.Evx
set_option linter.unusedSimpArgs false
set_option linter.unusedVariables false
section
variable {w w1 : World} {ob : Nat} {a b c : Value}
end
/-- Rows of bools, grown out of vs since W0; beside them a block rb that may be written. -/
structure Rows {ι : Type} [DecidableEq ι] (w0 W0 : World) (rb : Nat) (vs : ι → Value) (w : World) (v : ι → Value) (l : ι → List Bool) : Prop where
  o : ∀ i, w.ownsRow w0.heap.size 4 1 (v i) (l i).length (encs Value.bool (l i))
  ne : ∀ i j, i ≠ j → (v i).ownBlock = none ∨ (v i).ownBlock ≠ (v j).ownBlock
  kp : Kept W0 w (fun k => (∃ i, some k = (vs i).ownBlock) ∨ k = rb)
  n : ∀ i k, (v i).ownBlock = some k → some k = (vs i).ownBlock ∨ W0.heap.size ≤ k
  lt : ∀ i k, (vs i).ownBlock = some k → k < W0.heap.size
  rl : rb < W0.heap.size
  r : ∀ i, some rb ≠ (vs i).ownBlock
  bl : Below w0.heap.size w0 w
  rb0 : w0.heap.size ≤ rb
section
variable {ι : Type} [DecidableEq ι] {w0 W0 w w1 : World} {rb g cap : Nat} {vs v : ι → Value} {l : ι → List Bool}
theorem Rows.rbv (h : Rows w0 W0 rb vs w v l) (i : ι) : some rb ≠ (v i).ownBlock := fun e => by
  rcases h.n i rb e.symm with h1 | h1
  · exact h.r i h1
  · have := h.rl; omega
theorem Rows.step (h : Rows w0 W0 rb vs w v l) (hk : Kept w w1 (fun k => k = rb)) (hb : Below w0.heap.size w0 w1) : Rows w0 W0 rb vs w1 v l :=
  { h with
    o := fun i => own_move (h.o i) (fun k hk1 => hk.2 k (own_lt (h.o i) k hk1) (fun e => h.rbv i (by rw [hk1, e])))
    kp := h.kp.then_ hk (fun k e => .inl (.inr e))
    bl := hb }
theorem Rows.alloc (h : Rows w0 W0 rb vs w v l) (o : Obj) : Rows w0 W0 rb vs (w.alloc o) v l := h.step ((Kept.refl w _).alloc o) (below_alloc h.bl _)
theorem Rows.drew (h : Rows w0 W0 rb vs w v l) : Rows w0 W0 rb vs w.drew v l := h.step ((Kept.refl w _).drew) (below_drew1 h.bl)
theorem Rows.below (h : Rows w0 W0 rb vs w v l) (hb : Below w.heap.size w w1) : Rows w0 W0 rb vs w1 v l := h.step (Kept.of_below hb _) (h.bl.trans (hb.mono h.bl.size))
theorem Rows.setR (h : Rows w0 W0 rb vs w v l) (j : Nat) (u : Value) : Rows w0 W0 rb vs (w.setCell ⟨rb, j, none⟩ u) v l :=
  h.step (Kept.setCell (p := ⟨rb, j, none⟩) (Kept.refl w (fun k => k = rb)) (.inl rfl) u) (h.bl.setCell h.rb0 u)
/-- A bool of row i written. -/
theorem Rows.put (h : Rows w0 W0 rb vs w v l) (i : ι) {k : Nat} (hk : k < (l i).length) :
    ∃ g c, v i = .slice (some ⟨g, 0, none⟩) (l i).length c ∧ g ≠ rb ∧ w.cell? ⟨g, k, none⟩ = some (.bool ((l i).getD k false)) ∧ w.frozen? ⟨g, k, none⟩ = false ∧ (some g = (vs i).ownBlock ∨ W0.heap.size ≤ g) ∧
      ∀ b, Rows w0 W0 rb vs (w.setCell ⟨g, k, none⟩ (.bool b)) v (fun j => if j = i then (l i).set k b else l j) := by
  obtain ⟨g, c, e, hb, hl, p, q, s⟩ := own_put (h.o i) hk
  have hob : (v i).ownBlock = some g := by rw [e]; rfl
  refine ⟨g, c, e, fun e2 => h.rbv i (by rw [hob, e2]), p, q, ?_, fun b => ?_⟩
  · rcases h.n i g hob with h1 | h1
    · exact .inl h1
    · exact .inr h1
  · refine { h with o := ?_, kp := ?_, bl := h.bl.setCell hb _ }
    · intro j
      by_cases hj : j = i
      · subst hj
        simp only [if_pos]
        exact s b
      · simp only [if_neg hj]
        refine own_setCell (p := ⟨g, k, none⟩) (h.o j) (fun e2 => ?_) _
        rcases h.ne i j (Ne.symm hj) with h1 | h1
        · rw [hob] at h1; cases h1
        · exact h1 (by rw [hob, e2])
    · refine h.kp.setCell (p := ⟨g, k, none⟩) ?_ _
      rcases h.n i g hob with h1 | h1
      · exact .inl (.inl ⟨i, h1⟩)
      · exact .inr h1
end
end Go.Proofs.Ytegaicoddnmemaa.X

namespace Go.Proofs.Ytegaicoddnmemaa.X
open Go.RowKit Go.Proofs.YtegaicoddnmemaaW.PrintWords Go.Proofs.YtegaicoddnmemaaW.PrintLast Go.Proofs.YtegaicoddnmemaaW.PrintMore
open Go.Proofs.Ytegaicoddnmemaa.P Go.Proofs.Ytegaicoddnmemaa.Evx
set_option linter.unusedSimpArgs false
set_option linter.unusedVariables false
/-- Rows of bools of one's own, each apart from the others. -/
structure R3 {ι : Type} [DecidableEq ι] (w0 w : World) (v : ι → Value) (l : ι → List Bool) : Prop where
  o : ∀ i, w.ownsRow w0.heap.size 4 1 (v i) (l i).length (encs Value.bool (l i))
  ne : ∀ i j, i ≠ j → (v i).ownBlock = none ∨ (v i).ownBlock ≠ (v j).ownBlock
  bl : Below w0.heap.size w0 w
section
variable {ι : Type} [DecidableEq ι] {w0 W0 w w1 : World} {rb g cap : Nat} {vs v v1 : ι → Value} {l l1 : ι → List Bool}
theorem R3.below (h : R3 w0 w v l) (hb : Below w.heap.size w w1) : R3 w0 w1 v l := ⟨fun i => own_move (h.o i) (fun k hk => hb.block k (own_lt (h.o i) k hk)), h.ne, h.bl.trans (hb.mono h.bl.size)⟩
theorem R3.set (h : R3 w0 w v l) {p : Addr} (hne : ∀ i, some p.block ≠ (v i).ownBlock) (hp : w0.heap.size ≤ p.block) (u : Value) : R3 w0 (w.setCell p u) v l := ⟨fun i => own_setCell (h.o i) (hne i) u, h.ne, h.bl.setCell hp u⟩
theorem Rows.r3 (h : Rows w0 W0 rb vs w v l) : R3 w0 w v l := ⟨h.o, h.ne, h.bl⟩
theorem R3.rows (h : R3 w0 w v l) {cs : Array Value} {t : TypeId} (hb : w.heap[rb]? = some (.cells cs t (0, 0))) (ht : 4 ≠ t) (hr : w0.heap.size ≤ rb) : Rows w0 w rb v w v l :=
  { o := h.o, ne := h.ne, kp := Kept.refl _ _, n := fun _ _ e => .inl e.symm, lt := fun i => own_lt (h.o i), rl := blk_lt hb, bl := h.bl, rb0 := hr
    r := fun i e => by
      obtain ⟨cs2, hc⟩ := own_typed (h.o i) rb e.symm
      exact blk_ne hc hb ht rfl }
/-- Behind a call that was given the rows. -/
theorem Rows.call (h : Rows w0 W0 rb vs w v l) (k : R3 w0 w1 v1 l1) (hk : Kept w w1 (fun k => ∃ i, some k = (v i).ownBlock)) (hn : ∀ i k, (v1 i).ownBlock = some k → some k = (v i).ownBlock ∨ w.heap.size ≤ k) : Rows w0 W0 rb vs w1 v1 l1 :=
  { h with
    o := k.o
    ne := k.ne
    bl := k.bl
    kp := h.kp.then_ hk (fun j e => by
      obtain ⟨i, e⟩ := e
      rcases h.n i j e.symm with h1 | h1
      · exact .inl (.inl ⟨i, h1⟩)
      · exact .inr h1)
    n := fun i j e => by
      rcases hn i j e with h1 | h1
      · exact h.n i j h1.symm
      · right; have := h.kp.1; omega }
end
def rtm.T5 : Bool × List (List Nat × List Nat) := (true, [([], []), ([0], [0]), ([], []), ([2], [2]), ([1, 3], [1, 3]), ([], []), ([5], [5]), ([], []), ([6, 7, 4], [6, 7]), ([], []), ([9], [9]), ([], []), ([10, 11, 8], [10, 11]), ([0, 1, 2, 3, 4, 5, 6, 9, 10], []), ([13, 4, 12, 0, 1, 2, 3, 4, 5, 6, 9, 10], [4, 13]), ([0, 1, 2, 3, 4, 5, 6, 7, 8, 9, 10, 13, 14], []), ([15, 8, 14, 0, 1, 2, 3, 4, 5, 6, 7, 8, 9, 10, 13, 14], [8, 15]), ([0, 1, 2, 3, 4, 5, 6, 7, 8, 9, 10, 11, 12, 13, 14, 15, 16], []), ([17, 12, 16, 0, 1, 2, 3, 4, 5, 6, 7, 8, 9, 10, 11, 12, 13, 14, 15, 16], [12, 17])])
def rtm.B5 : List Nat := [0, 1, 0, 4, 15, 0, 32, 0, 255, 0, 512, 0, 4095, 1663, 16383, 32767, 65535, 131071, 262143]
theorem rtm.tab5 : rtab .any (opsOf Try.f53 5) = rtm.T5 := by kernel_rfl
theorem rtm.bits5 : waitsOk rtm.T5.2 rtm.B5 = true := by kernel_rfl
end Go.Proofs.Ytegaicoddnmemaa.X

namespace Go.Proofs.Ytegaicoddnmemaa.X
end Go.Proofs.Ytegaicoddnmemaa.X

namespace Go.Proofs.Ytegaicoddnmemaa.X
end Go.Proofs.Ytegaicoddnmemaa.X

namespace Go.Proofs.Ytegaicoddnmemaa.X
end Go.Proofs.Ytegaicoddnmemaa.X

namespace Go.Proofs.Ytegaicoddnmemaa.X
open Go.RowKit Go.Proofs.YtegaicoddnmemaaW.PrintWords Go.Proofs.YtegaicoddnmemaaW.PrintMore
open Go.Proofs.Ytegaicoddnmemaa.P Go.Proofs.Ytegaicoddnmemaa.Evx
set_option linter.unusedVariables false
set_option linter.unusedSimpArgs false
theorem wraps_i64 (n : Int) (h0 : 0 ≤ n) (h1 : n < 2 ^ 62) : IntKind.i64.wrap n = n := by rw [IntKind.wrap_i64]; omega
theorem div_cast (a k : Nat) : (a : Int) / 2 ^ k = ((a / 2 ^ k : Nat) : Int) := by
  rw [Int.natCast_ediv, Int.natCast_pow]; rfl
theorem bitK_nat (a k : Nat) (h : a < 2 ^ 62) : bitK (a : Int) k = decide (a / 2 ^ k % 2 = 1) := by
  unfold bitK
  rw [div_cast]
  have hlt : a / 2 ^ k < 2 ^ 62 := Nat.lt_of_le_of_lt (Nat.div_le_self _ _) h
  have := Go.bits_mask .i64 62 (by decide) wraps_i64 1 (by decide) ((a / 2 ^ k : Nat) : Int) (Int.natCast_nonneg _) (by exact_mod_cast hlt)
  have e1 : ((2 : Int) ^ 1 - 1) = 1 := by decide
  have e2 : ((2 : Int) ^ 1) = 2 := by decide
  rw [e1, e2] at this
  rw [this]
  generalize a / 2 ^ k = x at *
  by_cases hb : x % 2 = 1
  · rw [decide_eq_true hb]
    exact beq_iff_eq.2 (by omega)
  · rw [decide_eq_false hb]
    exact beq_eq_false_iff_ne.2 (by omega)
def numL : List Bool → Nat
  | [] => 0
  | b :: r => b.toNat + 2 * numL r
theorem numL_lt : ∀ l : List Bool, numL l < 2 ^ l.length
  | [] => by simp [numL]
  | b :: r => by
    have := numL_lt r
    have hb : b.toNat ≤ 1 := by cases b <;> decide
    simp only [numL, List.length_cons, Nat.pow_succ]
    omega
theorem moves_num : ∀ (L : List Bool) (k a : Nat), a < 2 ^ 62 → a / 2 ^ k < 2 ^ L.length → movesL (a : Int) L k = decide (a / 2 ^ k = numL L)
  | [], k, a, h1, h2 => by
    have : a / 2 ^ k = 0 := by simpa using h2
    exact (decide_eq_true this).symm
  | b :: r, k, a, h1, h2 => by
    have hc : numL (b :: r) = b.toNat + 2 * numL r := rfl
    show (b == bitK (a : Int) k && movesL (a : Int) r (k + 1)) = _
    have e1 : a / 2 ^ (k + 1) = a / 2 ^ k / 2 := by rw [Nat.pow_succ, Nat.div_div_eq_div_mul]
    simp only [List.length_cons, Nat.pow_succ] at h2
    rw [moves_num r (k + 1) a h1 (by rw [e1]; omega), bitK_nat a k h1, e1]
    generalize a / 2 ^ k = x at *
    generalize numL (b :: r) = y at *
    generalize numL r = z at *
    cases b
    · have hc : y = 2 * z := by rw [hc]; simp
      by_cases hx : x % 2 = 1
      · rw [decide_eq_true hx, decide_eq_false (show ¬ x = y by omega)]; rfl
      · rw [decide_eq_false hx]
        by_cases hy : x / 2 = z
        · rw [decide_eq_true hy, decide_eq_true (show x = y by omega)]; rfl
        · rw [decide_eq_false hy, decide_eq_false (show ¬ x = y by omega)]; rfl
    · have hc : y = 1 + 2 * z := by rw [hc]; simp
      by_cases hx : x % 2 = 1
      · rw [decide_eq_true hx]
        by_cases hy : x / 2 = z
        · rw [decide_eq_true hy, decide_eq_true (show x = y by omega)]; rfl
        · rw [decide_eq_false hy, decide_eq_false (show ¬ x = y by omega)]; rfl
      · rw [decide_eq_false hx, decide_eq_false (show ¬ x = y by omega)]; rfl
theorem size_nat {s : S24} (h : mayF s = 0) : sizeS s = ((2 ^ tnS s : Nat) : Int) := by
  unfold sizeS
  rw [if_pos h, Int.natCast_pow]; rfl
theorem size_256 {s : S24} (h : mayF s = 0) : 1 ≤ 2 ^ tnS s ∧ 2 ^ tnS s ≤ 256 := by
  have h8 := (may_zero h).2.2.1
  refine ⟨Nat.one_le_two_pow, ?_⟩
  exact Nat.pow_le_pow_right (n := 2) (by decide) h8
end Go.Proofs.Ytegaicoddnmemaa.X

namespace Go.Proofs.Ytegaicoddnmemaa.X
open Go.RowKit Go.Proofs.YtegaicoddnmemaaW.PrintWords Go.Proofs.YtegaicoddnmemaaW.PrintMore
set_option linter.unusedVariables false
set_option linter.unusedSimpArgs false
/-- The value at place i, d places ahead of the end, where v stands behind the end. -/
def pvd (f : Nat → Bool → Bool) (v : Bool) : Nat → Nat → Bool
  | _, 0 => v
  | i, d + 1 => f i (pvd f v (i + 1) d)
theorem getD_set (l : List Bool) (i j : Nat) (x : Bool) (hi : i < l.length) : (l.set i x).getD j false = if j = i then x else l.getD j false := by
  rw [List.getD_eq_getElem?_getD, List.getElem?_set, List.getD_eq_getElem?_getD]
  by_cases h : i = j
  · subst h
    rw [if_pos rfl, if_pos rfl, if_pos hi]; rfl
  · rw [if_neg h, if_neg (fun e => h e.symm)]
theorem pass_spec (f : Nat → Bool → Bool) (n b : Nat) (v : Bool) : ∀ (j : Nat) (out : List Bool), j ≤ n → b < n → out.length = n → (∀ i, j ≤ i → i < n → out.getD i false = pvd f v i (n - i)) → (j = n → out.getD b false = v) → ∀ i, i < n → (passD f n b j out).getD i false = pvd f v i (n - i)
  | 0, out, _, _, _, h, _, i, hi => by rw [passD]; exact h i (Nat.zero_le _) hi
  | j + 1, out, hj, hb, hl, h, hv, i, hi => by
    rw [passD]
    have hx : f j (out.getD (nextS n b j) false) = pvd f v j (n - j) := by
      unfold nextS
      by_cases hlt : j + 1 < n
      · rw [if_pos hlt, h (j + 1) (Nat.le_refl _) hlt, show n - j = (n - (j + 1)) + 1 by omega]; rfl
      · rw [if_neg hlt, hv (by omega), show n - j = 1 by omega]; rfl
    refine pass_spec f n b v j _ (by omega) hb (by simp [hl]) (fun i' h1 h2 => ?_) (fun e => by omega) i hi
    rw [getD_set _ _ _ _ (by omega)]
    by_cases e : i' = j
    · subst e; rw [if_pos rfl]; exact hx
    · rw [if_neg e]; exact h i' (by omega) h2
theorem pass_get (f : Nat → Bool → Bool) (n b : Nat) (out : List Bool) (hb : b < n) (hl : out.length = n) (i : Nat) (hi : i < n) : (passD f n b n out).getD i false = pvd f (out.getD b false) i (n - i) :=
  pass_spec f n b _ n out (Nat.le_refl _) hb hl (fun i h1 h2 => by omega) (fun _ => rfl) i hi
theorem rep_getD (n : Nat) (x : Bool) (b : Nat) (hb : b < n) : (List.replicate n x).getD b false = x := by
  rw [List.getD_eq_getElem?_getD, List.getElem?_replicate, if_pos hb]; rfl
theorem settle_get (f : Nat → Bool → Bool) (n b : Nat) (first : Bool) (hb : b < n) (i : Nat) (hi : i < n) : (settleS f n b first).getD i false = pvd f (pvd f first b (n - b)) i (n - i) := by
  unfold settleS
  rw [pass_get f n b _ hb (by simp [len_pass]) i hi, pass_get f n b _ hb (by simp) b hb, rep_getD n first b hb]
def MonoB (f : Nat → Bool → Bool) : Prop := ∀ i, f i false = true → f i true = true
theorem pvd_mono {f : Nat → Bool → Bool} (h : MonoB f) : ∀ (d i : Nat), pvd f false i d = true → pvd f true i d = true
  | 0, i, h0 => by cases h0
  | d + 1, i, h0 => by
    simp only [pvd] at h0 ⊢
    cases h1 : pvd f false (i + 1) d with
    | true => rw [h1] at h0; rw [pvd_mono h d (i + 1) h1]; exact h0
    | false =>
      rw [h1] at h0
      cases pvd f true (i + 1) d with
      | true => exact h i h0
      | false => exact h0
theorem pvd_idem {f : Nat → Bool → Bool} (h : MonoB f) (d i : Nat) (v : Bool) : pvd f (pvd f v i d) i d = pvd f v i d := by
  have hm := pvd_mono h d i
  cases v <;> cases h1 : pvd f false i d <;> cases h2 : pvd f true i d <;> simp_all
theorem ext_getD {l m : List Bool} {n : Nat} (hl : l.length = n) (hm : m.length = n) (h : ∀ i, i < n → l.getD i false = m.getD i false) : l = m := by
  apply List.ext_getElem (by omega)
  intro i h1 h2
  have := h i (by omega)
  rwa [List.getD_eq_getElem?_getD, List.getD_eq_getElem?_getD, List.getElem?_eq_getElem h1, List.getElem?_eq_getElem h2] at this
/-- A fixed point. -/
theorem settle_fix {f : Nat → Bool → Bool} (h : MonoB f) (n b : Nat) (first : Bool) (hb : b < n) (i : Nat) (hi : i < n) : (settleS f n b first).getD i false = f i ((settleS f n b first).getD (nextS n b i) false) := by
  rw [settle_get f n b first hb i hi, settle_get f n b first hb _ (nextS_lt hb)]
  unfold nextS
  by_cases hlt : i + 1 < n
  · rw [if_pos hlt, show n - i = (n - (i + 1)) + 1 by omega]; rfl
  · rw [if_neg hlt, pvd_idem h, show n - i = 1 by omega]; rfl
/-- What does not look at the next place. -/
theorem settle_const (f : Nat → Bool) (n b : Nat) (first : Bool) (hb : b < n) : settleS (fun i _ => f i) n b first = (List.range n).map f := by
  refine ext_getD (len_settle _ _ _ _) (by simp) (fun i hi => ?_)
  rw [settle_get _ n b first hb i hi, show n - i = (n - (i + 1)) + 1 by omega]
  simp [pvd, hi]
theorem mono_const (f : Nat → Bool) : MonoB (fun i _ => f i) := fun _ h => h
theorem mono_until (p q : Nat → Bool) : MonoB (fun i nx => q i || p i && nx) := fun i h => by cases h1 : q i <;> cases h2 : p i <;> simp_all
theorem mono_release (p q : Nat → Bool) : MonoB (fun i nx => q i && (p i || nx)) := fun i h => by cases h1 : q i <;> cases h2 : p i <;> simp_all
end Go.Proofs.Ytegaicoddnmemaa.X

namespace Go.Proofs.Ytegaicoddnmemaa.X
open Go.RowKit Go.Proofs.YtegaicoddnmemaaW.PrintWords Go.Proofs.YtegaicoddnmemaaW.PrintMore
open Go.Proofs.Ytegaicoddnmemaa.P Go.Proofs.Ytegaicoddnmemaa.Evx
set_option linter.unusedVariables false
set_option linter.unusedSimpArgs false
/-- What a timed part speaks of, at the moment after. -/
def nxR (ls : List Int) (b i : Nat) (t : S24) : Bool := (rowS ls b (headT t)).getD (nextS ls.length b i) false
/-- What a timed part speaks of, now. -/
def nwR (ls : List Int) (b i : Nat) (t : S24) : Bool := (rowS ls b (headT t)).getD i false
/-- Is a timed part settled now. -/
def gdR (ls : List Int) (b i : Nat) (t : S24) : Bool := goodOp t.f0 ((rowS ls b t).getD i false) (((rowL ls b t.f2).getD 1 []).getD i false)
theorem movesL_app (sv : Int) : ∀ (L1 L2 : List Bool) (k : Nat), movesL sv (L1 ++ L2) k = (movesL sv L1 k && movesL sv L2 (k + L1.length))
  | [], L2, k => by simp [movesL]
  | x :: r, L2, k => by
    simp only [List.cons_append, movesL, List.length_cons]
    rw [movesL_app sv r L2 (k + 1), Bool.and_assoc, show k + 1 + r.length = k + (r.length + 1) by omega]
theorem getD_map (l : List (List Bool)) (i j : Nat) : (l.map (fun r => r.getD i false)).getD j false = (l.getD j []).getD i false := by
  rw [List.getD_eq_getElem?_getD, List.getElem?_map, List.getD_eq_getElem?_getD (l := l)]
  cases l[j]? <;> simp
theorem const_get (f : Nat → Bool) (n b : Nat) (first : Bool) (hb : b < n) (i : Nat) (hi : i < n) : (settleS (fun i _ => f i) n b first).getD i false = f i := by
  rw [settle_const f n b first hb, List.getD_eq_getElem?_getD, List.getElem?_map, List.getElem?_range hi]
  rfl
/-- A node's value out of its kids' rows and what comes next. -/
theorem row_step (ls : List Int) (b : Nat) (op m : Int) (x y : List Bool) (hb : b < ls.length) (i : Nat) (hi : i < ls.length) (hop : 0 ≤ kidsS op) :
    (rowOp ls b op m x y).getD i false = valOp op m (ls.getD i 0) (if op = 6 then x.getD (nextS ls.length b i) false else (rowOp ls b op m x y).getD (nextS ls.length b i) false) (x.getD i false) (y.getD i false) := by
  rcases op_cases hop with h | h | h | h | h | h | h | h <;> subst h
  · exact const_get (fun _ => true) _ _ false hb i hi
  · exact const_get (fun i => bitS (ls.getD i 0) m) _ _ false hb i hi
  · exact const_get (fun i => !(x.getD i false)) _ _ false hb i hi
  · exact const_get (fun i => x.getD i false && y.getD i false) _ _ false hb i hi
  · exact const_get (fun i => x.getD i false || y.getD i false) _ _ false hb i hi
  · exact const_get (fun i => x.getD (nextS ls.length b i) false) _ _ false hb i hi
  · exact settle_fix (mono_until (fun i => x.getD i false) (fun i => y.getD i false)) _ _ false hb i hi
  · exact settle_fix (mono_release (fun i => x.getD i false) (fun i => y.getD i false)) _ _ true hb i hi
theorem val_bit {op m lt : Int} {bit bit' x y : Bool} (h : timedS op = true → bit = bit') : valOp op m lt bit x y = valOp op m lt bit' x y := by
  cases ht : timedS op with
  | true => rw [h ht]
  | false =>
    have h6 : ¬ op = 6 := fun e => by rw [e] at ht; cases ht
    have h7 : ¬ op = 7 := fun e => by rw [e] at ht; cases ht
    have h8 : ¬ op = 8 := fun e => by rw [e] at ht; cases ht
    unfold valOp
    simp only [if_neg h6, if_neg h7, if_neg h8]
/-- The hypothesis on a node's bits, parted: its own, its kids'. -/
theorem moves_part {ls : List Int} {b i : Nat} {sv : Int} {s : S24} {k : Nat} (h : movesL sv ((timesS s).map (nxR ls b i)) k = true) : (timedS s.f0 = true → bitK sv k = nxR ls b i s) ∧ movesL sv ((timesL s.f2).map (nxR ls b i)) (k + tS s.f0) = true := by
  rw [times_eq, List.map_append, movesL_app, Bool.and_eq_true] at h
  have hl : ((ownF s).map (nxR ls b i)).length = tS s.f0 := by unfold ownF tS; split <;> rfl
  rw [hl] at h
  refine ⟨fun ht => ?_, h.2⟩
  have h1 := h.1
  unfold ownF at h1
  rw [if_pos ht] at h1
  simp only [List.map_cons, List.map_nil, movesL, Bool.and_true] at h1
  exact (beq_iff_eq.1 h1).symm
theorem head6 {s : S24} (h : s.f0 = 6) (ls : List Int) (b : Nat) (hl : 0 < s.f2.length) : rowS ls b (headT s) = (rowL ls b s.f2).getD 0 [] := by
  unfold headT
  rw [if_pos h, rowL_get ls b s.f2 0 hl, List.getD_eq_getElem?_getD, List.getElem?_eq_getElem hl]; rfl
theorem headN {s : S24} (h : ¬ s.f0 = 6) : headT s = s := by unfold headT; rw [if_neg h]
theorem kids6 {s : S24} (hs : soundS s = true) (h : s.f0 = 6) : 0 < s.f2.length := by
  have hp := (sound_parts hs).2.1
  rw [h] at hp
  have h9 : kidsS 6 = 1 := by decide
  omega
mutual
theorem val_row (ls : List Int) (b i : Nat) (hb : b < ls.length) (hi : i < ls.length) (sv : Int) : ∀ (s : S24) (k : Nat), soundS s = true → movesL sv ((timesS s).map (nxR ls b i)) k = true → valS sv (ls.getD i 0) s k = (rowS ls b s).getD i false
  | ⟨op, m, kids⟩, k, hs, hm => by
    have hp := moves_part hm
    have ih := val_rowL ls b i hb hi sv kids (k + tS op) (sound_kids_all hs) hp.2
    rw [val_eq, row_eq, row_step ls b op m _ _ hb i hi (sound_parts hs).1]
    simp only
    rw [ih, getD_map, getD_map]
    refine val_bit (fun ht => ?_)
    rw [hp.1 ht]
    unfold nxR
    by_cases h6 : op = 6
    · rw [head6 (s := ⟨op, m, kids⟩) h6 ls b (kids6 hs h6), if_pos h6]
    · rw [headN (s := ⟨op, m, kids⟩) h6, row_eq, if_neg h6]
theorem val_rowL (ls : List Int) (b i : Nat) (hb : b < ls.length) (hi : i < ls.length) (sv : Int) : ∀ (l : List S24) (k : Nat), soundL l = true → movesL sv ((timesL l).map (nxR ls b i)) k = true → valL sv (ls.getD i 0) l k = (rowL ls b l).map (fun r => r.getD i false)
  | [], k, _, _ => rfl
  | c :: r, k, hs, hm => by
    simp only [soundL, Bool.and_eq_true] at hs
    rw [timesL, List.map_append, movesL_app, Bool.and_eq_true, List.length_map, len_times] at hm
    simp only [valL, rowL, List.map_cons]
    rw [val_row ls b i hb hi sv c k hs.1 hm.1, val_rowL ls b i hb hi sv r _ hs.2 hm.2]
end
mutual
theorem said_row (ls : List Int) (b i : Nat) (hb : b < ls.length) (hi : i < ls.length) (sv : Int) : ∀ (s : S24) (k : Nat), soundS s = true → movesL sv ((timesS s).map (nxR ls b i)) k = true → saidS sv (ls.getD i 0) s k = (timesS s).map (nwR ls b i)
  | ⟨op, m, kids⟩, k, hs, hm => by
    have hp := moves_part hm
    have hv := val_row ls b i hb hi sv ⟨op, m, kids⟩ k hs hm
    have hk := val_rowL ls b i hb hi sv kids (k + tS op) (sound_kids_all hs) hp.2
    rw [times_eq, List.map_append, saidS, said_rowL ls b i hb hi sv kids _ (sound_kids_all hs) hp.2, hv, hk, getD_map]
    congr 1
    unfold ownE ownF
    by_cases ht : timedS op = true
    · rw [if_pos ht, if_pos (show timedS (S24.mk op m kids).f0 = true from ht)]
      simp only [List.map_cons, List.map_nil]
      congr 1
      unfold saidOp nwR
      by_cases h6 : op = 6
      · rw [head6 (s := ⟨op, m, kids⟩) h6 ls b (kids6 hs h6), if_pos h6]
      · rw [headN (s := ⟨op, m, kids⟩) h6, if_neg h6]
    · rw [if_neg ht, if_neg (show ¬ timedS (S24.mk op m kids).f0 = true from ht)]; rfl
theorem said_rowL (ls : List Int) (b i : Nat) (hb : b < ls.length) (hi : i < ls.length) (sv : Int) : ∀ (l : List S24) (k : Nat), soundL l = true → movesL sv ((timesL l).map (nxR ls b i)) k = true → saidL sv (ls.getD i 0) l k = (timesL l).map (nwR ls b i)
  | [], k, _, _ => rfl
  | c :: r, k, hs, hm => by
    simp only [soundL, Bool.and_eq_true] at hs
    rw [timesL, List.map_append, movesL_app, Bool.and_eq_true, List.length_map, len_times] at hm
    rw [timesL, List.map_append, saidL, said_row ls b i hb hi sv c k hs.1 hm.1, said_rowL ls b i hb hi sv r _ hs.2 hm.2]
end
mutual
theorem good_row (ls : List Int) (b i : Nat) (hb : b < ls.length) (hi : i < ls.length) (sv : Int) : ∀ (s : S24) (k : Nat), soundS s = true → movesL sv ((timesS s).map (nxR ls b i)) k = true → goodS sv (ls.getD i 0) s k = (timesS s).map (gdR ls b i)
  | ⟨op, m, kids⟩, k, hs, hm => by
    have hp := moves_part hm
    have hv := val_row ls b i hb hi sv ⟨op, m, kids⟩ k hs hm
    have hk := val_rowL ls b i hb hi sv kids (k + tS op) (sound_kids_all hs) hp.2
    rw [times_eq, List.map_append, goodS, good_rowL ls b i hb hi sv kids _ (sound_kids_all hs) hp.2, hv, hk, getD_map]
    congr 1
    unfold ownE ownF
    by_cases ht : timedS op = true
    · rw [if_pos ht, if_pos (show timedS (S24.mk op m kids).f0 = true from ht)]; rfl
    · rw [if_neg ht, if_neg (show ¬ timedS (S24.mk op m kids).f0 = true from ht)]; rfl
theorem good_rowL (ls : List Int) (b i : Nat) (hb : b < ls.length) (hi : i < ls.length) (sv : Int) : ∀ (l : List S24) (k : Nat), soundL l = true → movesL sv ((timesL l).map (nxR ls b i)) k = true → goodL sv (ls.getD i 0) l k = (timesL l).map (gdR ls b i)
  | [], k, _, _ => rfl
  | c :: r, k, hs, hm => by
    simp only [soundL, Bool.and_eq_true] at hs
    rw [timesL, List.map_append, movesL_app, Bool.and_eq_true, List.length_map, len_times] at hm
    rw [timesL, List.map_append, goodL, good_row ls b i hb hi sv c k hs.1 hm.1, good_rowL ls b i hb hi sv r _ hs.2 hm.2]
end
/-- Each timed part is settled somewhere on the loop. -/
theorem pvd_until (p q : Nat → Bool) : ∀ (d i : Nat), (∀ j, i ≤ j → j < i + d → q j = false) → pvd (fun i nx => q i || p i && nx) false i d = false
  | 0, i, _ => rfl
  | d + 1, i, h => by
    simp only [pvd]
    rw [pvd_until p q d (i + 1) (fun j h1 h2 => h j (by omega) (by omega)), h i (Nat.le_refl _) (by omega)]
    simp
theorem pvd_release (p q : Nat → Bool) : ∀ (d i : Nat), (∀ j, i ≤ j → j < i + d → q j = true) → pvd (fun i nx => q i && (p i || nx)) true i d = true
  | 0, i, _ => rfl
  | d + 1, i, h => by
    simp only [pvd]
    rw [pvd_release p q d (i + 1) (fun j h1 h2 => h j (by omega) (by omega)), h i (Nat.le_refl _) (by omega)]
    simp
theorem settled (ls : List Int) (b : Nat) (hb : b < ls.length) (t : S24) (ht : timedS t.f0 = true) : ∃ i, b ≤ i ∧ i < ls.length ∧ gdR ls b i t = true := by
  have h3 : t.f0 = 6 ∨ t.f0 = 7 ∨ t.f0 = 8 := by
    simp only [timedS, Bool.and_eq_true, decide_eq_true_eq] at ht
    omega
  rcases h3 with h | h | h
  · exact ⟨b, Nat.le_refl _, hb, by unfold gdR goodOp; rw [if_pos h]⟩
  · by_cases hq : ∃ j, b ≤ j ∧ j < ls.length ∧ ((rowL ls b t.f2).getD 1 []).getD j false = true
    · obtain ⟨j, j1, j2, j3⟩ := hq
      refine ⟨j, j1, j2, ?_⟩
      unfold gdR
      rw [h, j3]
      simp [goodOp]
    · have hall : ∀ j, b ≤ j → j < b + (ls.length - b) → ((rowL ls b t.f2).getD 1 []).getD j false = false := fun j h1 h2 => by
        cases hc : ((rowL ls b t.f2).getD 1 []).getD j false with
        | false => rfl
        | true => exact absurd ⟨j, h1, by omega, hc⟩ hq
      refine ⟨b, Nat.le_refl _, hb, ?_⟩
      have hr : (rowS ls b t).getD b false = false := by
        rw [row_eq, h]
        show (settleS (fun i nx => ((rowL ls b t.f2).getD 1 []).getD i false || ((rowL ls b t.f2).getD 0 []).getD i false && nx) ls.length b false).getD b false = false
        have hx := pvd_until (fun i => ((rowL ls b t.f2).getD 0 []).getD i false) (fun i => ((rowL ls b t.f2).getD 1 []).getD i false) (ls.length - b) b hall
        rw [settle_get _ _ _ _ hb b hb, hx, hx]
      unfold gdR
      rw [h, hr]
      simp [goodOp]
  · by_cases hq : ∃ j, b ≤ j ∧ j < ls.length ∧ ((rowL ls b t.f2).getD 1 []).getD j false = false
    · obtain ⟨j, j1, j2, j3⟩ := hq
      refine ⟨j, j1, j2, ?_⟩
      unfold gdR
      rw [h, j3]
      simp [goodOp]
    · have hall : ∀ j, b ≤ j → j < b + (ls.length - b) → ((rowL ls b t.f2).getD 1 []).getD j false = true := fun j h1 h2 => by
        cases hc : ((rowL ls b t.f2).getD 1 []).getD j false with
        | true => rfl
        | false => exact absurd ⟨j, h1, by omega, hc⟩ hq
      refine ⟨b, Nat.le_refl _, hb, ?_⟩
      have hr : (rowS ls b t).getD b false = true := by
        rw [row_eq, h]
        show (settleS (fun i nx => ((rowL ls b t.f2).getD 1 []).getD i false && (((rowL ls b t.f2).getD 0 []).getD i false || nx)) ls.length b true).getD b false = true
        have hx := pvd_release (fun i => ((rowL ls b t.f2).getD 0 []).getD i false) (fun i => ((rowL ls b t.f2).getD 1 []).getD i false) (ls.length - b) b hall
        rw [settle_get _ _ _ _ hb b hb, hx, hx]
      unfold gdR
      rw [h, hr]
      simp [goodOp]
/-- The run's numbers. -/
theorem orBit_add (o k : Nat) (h : o < 2 ^ k) (hk : k < 8) : orBit (o : Int) k = ((o + 2 ^ k : Nat) : Int) := by
  unfold orBit
  rw [pow_w k (by omega)]
  have hp : (2 : Nat) ^ k ≤ 2 ^ 8 := Nat.pow_le_pow_right (by decide) (by omega)
  have e1 : ((2 : Int) ^ k) = ((2 ^ k : Nat) : Int) := by rw [Int.natCast_pow]; rfl
  rw [e1, (Go.bits_nat .i64 62 (by decide) wraps_i64 o (2 ^ k) (by omega) (by omega)).2]
  have := Nat.two_pow_add_eq_or_of_lt h 1
  rw [Nat.mul_one] at this
  rw [Nat.or_comm, ← this, Nat.add_comm]
theorem runRow_get (row : List Bool) (n b k : Nat) (out : List Int) (i : Nat) (hi : i < n) : (runRow row n b k out).getD i 0 = runAt row n b k out i := by
  unfold runRow
  rw [List.getD_eq_getElem?_getD, List.getElem?_map, List.getElem?_range hi]
  rfl
theorem runL_num (st lp : List Int) (i : Nat) (hi : i < st.length + lp.length) : ∀ (T : List S24) (k o : Nat) (out : List Int), out.getD i 0 = (o : Int) → o < 2 ^ k → k + T.length ≤ 8 → (runL st lp T k out).getD i 0 = ((o + 2 ^ k * numL (T.map fun t => (rowF (headT t) st lp).getD (nextS (st.length + lp.length) st.length i) false) : Nat) : Int)
  | [], k, o, out, h1, h2, h3 => by simp only [runL, List.map_nil, numL, Nat.mul_zero, Nat.add_zero]; exact h1
  | t :: r, k, o, out, h1, h2, h3 => by
    simp only [List.length_cons] at h3
    simp only [runL, List.map_cons, numL]
    have hg := runRow_get (rowF (headT t) st lp) (st.length + lp.length) st.length k out i hi
    unfold runAt at hg
    rw [h1] at hg
    have h2' : 2 ^ (k + 1) = 2 * 2 ^ k := by rw [Nat.pow_succ, Nat.mul_comm]
    generalize (rowF (headT t) st lp).getD (nextS (st.length + lp.length) st.length i) false = x at *
    cases x with
    | false =>
      rw [if_neg (by simp)] at hg
      rw [runL_num st lp i hi r (k + 1) o _ hg (by omega) (by omega), h2']
      simp only [Bool.toNat_false, Nat.zero_add]
      rw [Nat.mul_comm 2 (2 ^ k), Nat.mul_assoc]
    | true =>
      rw [if_pos rfl, orBit_add o k h2 (by omega)] at hg
      rw [runL_num st lp i hi r (k + 1) (o + 2 ^ k) _ hg (by omega) (by omega), h2']
      simp only [Bool.toNat_true]
      rw [Nat.mul_comm 2 (2 ^ k), Nat.mul_assoc, Nat.mul_add, Nat.mul_one, Nat.add_assoc]
theorem runS_num {s : S24} {st lp : List Int} (hm : mayF s = 0) (hw : wordS st lp = true) (i : Nat) (hi : i < st.length + lp.length) : (runS s st lp).getD i 0 = (numL ((timesS s).map (nxR (st ++ lp) st.length i)) : Int) := by
  unfold runS
  rw [if_pos ⟨hm, hw⟩, runL_num st lp i hi (timesS s) 0 0 _ (by rw [List.getD_eq_getElem?_getD, List.getElem?_replicate, if_pos hi]; rfl) (by decide) (by rw [len_times, Nat.zero_add]; exact (may_zero hm).2.2.1)]
  rw [Nat.pow_zero, Nat.one_mul, Nat.zero_add]
  congr 2
  apply List.map_congr_left
  intro t ht
  unfold nxR rowF
  rw [if_pos ⟨head_may ((times_sub s t ht).may hm), hw⟩, List.length_append]
end Go.Proofs.Ytegaicoddnmemaa.X

namespace Go.Proofs.Ytegaicoddnmemaa.Pu
open Go.RowKit Go.Proofs.YtegaicoddnmemaaW.PrintWords Go.Proofs.YtegaicoddnmemaaW.PrintMore
open Go.Proofs.Ytegaicoddnmemaa.P Go.Proofs.Ytegaicoddnmemaa.Evx Go.Proofs.Ytegaicoddnmemaa.X Go.Proofs.Ytegaicoddnmemaa.Ki
set_option linter.unusedVariables false
set_option linter.unusedSimpArgs false
theorem awake_some : parrylaw23_awake.f = some true := rfl
theorem len_runL (st lp : List Int) : ∀ (T : List S24) (k : Nat) (out : List Int), out.length = st.length + lp.length → (runL st lp T k out).length = st.length + lp.length
  | [], k, out, h => by rw [runL]; exact h
  | t :: r, k, out, h => by rw [runL]; exact len_runL st lp r _ _ (len_runRow _ _ _ _ _)
/-- What the law's loops lean on. -/
structure RunOk (s : S24) (st lp : List Int) (R : List Int) (row : List Bool) : Prop where
  hm : mayF s = 0
  hw : wordS st lp = true
  hR : R = runS s st lp
  hrow : row = rowS (st ++ lp) st.length s
  h60 : st.length + lp.length ≤ 120
  h1 : 1 ≤ lp.length
theorem RunOk.lenR {s : S24} {st lp R : List Int} {row : List Bool} (h : RunOk s st lp R row) : R.length = st.length + lp.length := by
  rw [h.hR]; unfold runS; rw [if_pos ⟨h.hm, h.hw⟩, len_runL st lp _ _ _ (by simp)]
theorem RunOk.lenRow {s : S24} {st lp R : List Int} {row : List Bool} (h : RunOk s st lp R row) : row.length = st.length + lp.length := by
  rw [h.hrow, len_row, List.length_append]
theorem RunOk.num {s : S24} {st lp R : List Int} {row : List Bool} (h : RunOk s st lp R row) (i : Nat) (hi : i < st.length + lp.length) : R.getD i 0 = (numL ((timesS s).map (nxR (st ++ lp) st.length i)) : Int) := by
  rw [h.hR]; exact runS_num h.hm h.hw i hi
theorem RunOk.lt {s : S24} {st lp R : List Int} {row : List Bool} (h : RunOk s st lp R row) (i : Nat) : numL ((timesS s).map (nxR (st ++ lp) st.length i)) < 2 ^ tnS s := by
  have := numL_lt ((timesS s).map (nxR (st ++ lp) st.length i))
  rwa [List.length_map, len_times] at this
theorem RunOk.moves {s : S24} {st lp R : List Int} {row : List Bool} (h : RunOk s st lp R row) (i : Nat) (hi : i < st.length + lp.length) : movesL (R.getD i 0) ((timesS s).map (nxR (st ++ lp) st.length i)) 0 = true := by
  have h2 := size_256 h.hm
  have h3 := h.lt i
  rw [h.num i hi, moves_num _ 0 _ (by omega) (by rw [Nat.pow_zero, Nat.div_one, List.length_map, len_times]; exact h3), Nat.pow_zero, Nat.div_one, decide_eq_true rfl]
theorem RunOk.state {s : S24} {st lp R : List Int} {row : List Bool} (h : RunOk s st lp R row) (i : Nat) (hi : i < st.length + lp.length) : stateS s (R.getD i 0) = true := by
  have h3 := h.lt i
  rw [h.num i hi]
  exact decide_eq_true (by rw [size_nat h.hm]; omega)
theorem RunOk.sound {s : S24} {st lp R : List Int} {row : List Bool} (h : RunOk s st lp R row) : soundS s = true := (may_zero h.hm).2.2.2
theorem RunOk.b {s : S24} {st lp R : List Int} {row : List Bool} (h : RunOk s st lp R row) : st.length < (st ++ lp).length := by have := h.h1; rw [List.length_append]; omega
theorem RunOk.value {s : S24} {st lp R : List Int} {row : List Bool} (h : RunOk s st lp R row) (i : Nat) (hi : i < st.length + lp.length) : valueF s (R.getD i 0) ((st ++ lp).getD i 0) = row.getD i false := by
  unfold valueF
  rw [if_pos (h.state i hi), val_row (st ++ lp) st.length i h.b (by rw [List.length_append]; exact hi) _ s 0 h.sound (h.moves i hi), h.hrow]
theorem RunOk.step {s : S24} {st lp R : List Int} {row : List Bool} (h : RunOk s st lp R row) (i : Nat) (hi : i < st.length + lp.length) : movesF s (R.getD i 0) ((st ++ lp).getD i 0) (R.getD (nextS (st.length + lp.length) st.length i) 0) ((st ++ lp).getD (nextS (st.length + lp.length) st.length i) 0) = true := by
  have hq : nextS (st.length + lp.length) st.length i < st.length + lp.length := nextS_lt (by have := h.h1; omega)
  unfold movesF
  rw [h.state i hi, h.state _ hq, said_row (st ++ lp) st.length _ h.b (by rw [List.length_append]; exact hq) _ s 0 h.sound (h.moves _ hq)]
  have := h.moves i hi
  have he : (timesS s).map (nxR (st ++ lp) st.length i) = (timesS s).map (nwR (st ++ lp) st.length (nextS (st.length + lp.length) st.length i)) := by
    apply List.map_congr_left
    intro t _
    unfold nxR nwR
    rw [List.length_append]
  rw [he] at this
  rw [this]; rfl
theorem RunOk.good {s : S24} {st lp R : List Int} {row : List Bool} (h : RunOk s st lp R row) (i : Nat) (hi : i < st.length + lp.length) (t : Nat) (ht : t < tnS s) (hg : gdR (st ++ lp) st.length i ((timesS s)[t]'(by rw [len_times]; exact ht)) = true) : goodF s (t : Int) (R.getD i 0) ((st ++ lp).getD i 0) = true := by
  unfold goodF
  rw [h.state i hi, Go.Proofs.Ytegaicoddnmemaa.X.good_row (st ++ lp) st.length i h.b (by rw [List.length_append]; exact hi) _ s 0 h.sound (h.moves i hi), decide_eq_true (show (0 : Int) ≤ t by omega), decide_eq_true (show (t : Int) < tnS s by omega), Int.toNat_natCast, List.getD_eq_getElem?_getD, List.getElem?_map, List.getElem?_eq_getElem (by rw [len_times]; exact ht)]
  simp only [Option.map_some, Option.getD_some, Bool.true_and]
  exact hg
mutual
theorem times_timed : ∀ (s : S24), ∀ t ∈ timesS s, timedS t.f0 = true
  | ⟨op, m, kids⟩, t, h => by
    rw [times_eq] at h
    rcases List.mem_append.1 h with h | h
    · unfold ownF at h
      split at h
      · rename_i ht
        rw [List.mem_singleton.1 h]; exact ht
      · cases h
    · exact times_timedL kids t h
theorem times_timedL : ∀ (l : List S24), ∀ t ∈ timesL l, timedS t.f0 = true
  | [], t, h => by rw [timesL] at h; cases h
  | a :: r, t, h => by
    rw [timesL] at h
    rcases List.mem_append.1 h with h | h
    · exact times_timed a t h
    · exact times_timedL r t h
end
theorem value_f (s : S24) (a b : Int) : tableau_Value.f s.f0 s.f1 s.f2 a b = some (valueF s a b) := by cases s; rfl
theorem moves_f (s : S24) (a b c d : Int) : tableau_Moves.f s.f0 s.f1 s.f2 a b c d = some (movesF s a b c d) := by cases s; rfl
theorem good_f (s : S24) (a b c : Int) : tableau_Good.f s.f0 s.f1 s.f2 a b c = some (goodF s a b c) := by cases s; rfl
theorem rdb_nat (l : List Bool) (i : Nat) : rdOf false l (i : Int) = l.getD i false := by unfold rdOf; rw [Int.toNat_natCast]
/-- The loop over the moments of the loop: one of them settles the part. -/
theorem row_l2 {s : S24} {st lp R : List Int} {row : List Bool} (h : RunOk s st lp R row) (t : Nat) (tn : Int) (htn : tn = (tnS s : Int)) (ht : t < tnS s) (g : Nat) (hg1 : st.length ≤ g) (hg2 : g < st.length + lp.length) (hg : goodF s (t : Int) (R.getD g 0) ((st ++ lp).getD g 0) = true)
    (hk : Ev (fun k => parrylaw23_TableauRow.l1 k R ((st.length + lp.length : Nat) : Int) (st ++ lp) tn ((t : Int) + 1) s.f0 s.f1 s.f2 st lp) true) :
    ∀ (e j : Nat) (x : Bool), j + e = st.length + lp.length → st.length ≤ j → (g < j → x = true) → Ev (fun k => parrylaw23_TableauRow.l2 k R ((st.length + lp.length : Nat) : Int) (st ++ lp) t x (j : Int) tn t s.f0 s.f1 s.f2 st lp) true
  | 0, j, x, hj, h1, hx => by
    have ht8 := (may_zero h.hm).2.2.1
    rw [hx (by omega)]
    refine ev_step (fun k => rfl) (ev_neg (by omega) (ev_tt ?_))
    rw [w64 (x := (t : Int) + 1) (by omega) (by omega)]
    exact hk
  | e + 1, j, x, hj, h1, hx => by
    have h60 := h.h60
    refine ev_step (fun k => rfl) (ev_pos (by omega) (ev_bool (fun c => ?_) (fun c => ?_)))
    · rw [w64 (x := (j : Int) + 1) (by omega) (by omega)]
      exact_mod_cast row_l2 h t tn htn ht g hg1 hg2 hg hk e (j + 1) true (by omega) (by omega) (fun _ => rfl)
    · have hjg : ¬ g < j := fun hlt => by rw [hx hlt] at c; cases c
      refine ev_pos (by omega) (ev_pos (by rw [h.lenR]; omega) (ev_pos (by rw [List.length_append]; omega) ?_))
      rw [rd_nat, rd_nat, w64 (x := (j : Int) + 1) (by omega) (by omega)]
      refine ev_bindv (good_f s _ _ _) ?_
      exact_mod_cast row_l2 h t tn htn ht g hg1 hg2 hg hk e (j + 1) _ (by omega) (by omega) (fun hlt => by
        have e1 : g = j := by omega
        rw [← e1]; exact hg)
theorem row_l1 {s : S24} {st lp R : List Int} {row : List Bool} (h : RunOk s st lp R row) : ∀ (e t : Nat), t + e = tnS s → Ev (fun k => parrylaw23_TableauRow.l1 k R ((st.length + lp.length : Nat) : Int) (st ++ lp) (tnS s : Int) (t : Int) s.f0 s.f1 s.f2 st lp) true
  | 0, t, ht => ev_step (fun k => rfl) (ev_neg (by omega) (ev_bindv awake_some (ev_some _)))
  | e + 1, t, ht => by
    have hlt : t < (timesS s).length := by rw [len_times]; omega
    obtain ⟨g, g1, g2, g3⟩ := settled (st ++ lp) st.length h.b ((timesS s)[t]'hlt) (times_timed s _ (List.getElem_mem hlt))
    rw [List.length_append] at g2
    have hg := h.good g g2 t (by omega) g3
    refine ev_step (fun k => rfl) (ev_pos (by omega) ?_)
    have hk := row_l1 h e (t + 1) (by omega)
    exact row_l2 h t _ rfl (by omega) g g1 g2 hg (by exact_mod_cast hk) lp.length st.length false rfl (Nat.le_refl _) (fun hlt => by omega)
theorem row_l0 {s : S24} {st lp R : List Int} {row : List Bool} (h : RunOk s st lp R row) : ∀ (e i : Nat), i + e = st.length + lp.length → Ev (fun k => parrylaw23_TableauRow.l0 k R row ((st.length + lp.length : Nat) : Int) (st ++ lp) ((st.length + lp.length : Nat) : Int) (i : Int) s.f0 s.f1 s.f2 st lp) true
  | 0, i, hi => by
    refine ev_step (fun k => rfl) (ev_neg (by omega) (ev_bind (Times_ev s) ?_))
    have hT : TimesS s = timesS s := by unfold TimesS; rw [if_pos h.hm]
    rw [hT, len_times]
    exact row_l1 h (tnS s) 0 (by omega)
  | e + 1, i, hi => by
    have h60 := h.h60
    have hlR := h.lenR
    have hlr := h.lenRow
    have hla : (st ++ lp).length = st.length + lp.length := List.length_append
    have hv := h.value i (by omega)
    have hs := h.step i (by omega)
    have ih := row_l0 h e (i + 1) (by omega)
    have h1 := h.h1
    refine ev_step (fun k => rfl) (ev_pos (by omega) ?_)
    rw [w64 (x := (i : Int) + 1) (by omega) (by omega)]
    refine ev_ite (fun c => ?_) (fun c => ?_)
    · have hnx : nextS (st.length + lp.length) st.length i = st.length := by unfold nextS; rw [if_neg (by omega)]
      rw [hnx] at hs
      refine ev_pos (by omega) (ev_pos (by omega) (ev_pos (by omega) ?_))
      rw [rd_nat, rd_nat, rdb_nat]
      refine ev_bindv (value_f s _ _) (ev_pos (by omega) (ev_neg (by rw [hv]; simp) ?_))
      refine ev_pos (by omega) (ev_pos (by omega) (ev_pos (by omega) ?_))
      rw [rd_nat, rd_nat]
      refine ev_bindv (moves_f s _ _ _ _) ?_
      rw [hs]
      refine ev_tt ?_
      exact_mod_cast ih
    · have hnx : nextS (st.length + lp.length) st.length i = i + 1 := by unfold nextS; rw [if_pos (by omega)]
      rw [hnx] at hs
      refine ev_pos (by omega) (ev_pos (by omega) (ev_pos (by omega) ?_))
      rw [rd_nat, rd_nat, rdb_nat]
      refine ev_bindv (value_f s _ _) (ev_pos (by omega) (ev_neg (by rw [hv]; simp) ?_))
      refine ev_pos (by omega) (ev_pos (by omega) (ev_pos (by omega) ?_))
      have e1 : (i : Int) + 1 = ((i + 1 : Nat) : Int) := by omega
      rw [e1, rd_nat, rd_nat]
      refine ev_bindv (moves_f s _ _ _ _) ?_
      rw [hs]
      refine ev_tt ?_
      exact ih
theorem TableauRow_pure (s0 : S24) (g0 : G24 s0) (s1 : S27) (g1 : G27 s1) : ∃ k, parrylaw23_TableauRow.f k s0.f0 s0.f1 s0.f2 s1.f0 s1.f1 = some true := by
  refine Ev.rounds (?_ : Ev (fun k => parrylaw23_TableauRow.f k s0.f0 s0.f1 s0.f2 s1.f0 s1.f1) true)
  unfold parrylaw23_TableauRow.f
  obtain ⟨n, hn, n0, n1⟩ := heavy_ev s0
  obtain ⟨m, hm, m0, m1, m2⟩ := long_some s1.f0 s1.f1
  refine ev_bind hn (ev_bindv hm (ev_ite (fun _ => ev_bindv awake_some (ev_some _)) (fun hc => ?_)))
  have hl := m2 (by rw [w64 (by omega) (by omega)] at hc; omega)
  refine ev_bindv (may_some s0) (ev_ite (fun h0 => ?_) (fun _ => ev_bindv awake_some (ev_some _)))
  refine ev_ite (fun _ => ev_bindv awake_some (ev_some _)) (fun h1 => ?_)
  have hw : wordS s1.f0 s1.f1 = true := decide_eq_true (by omega)
  have hok : RunOk s0 s1.f0 s1.f1 (runS s0 s1.f0 s1.f1) (rowS (s1.f0 ++ s1.f1) s1.f0.length s0) := ⟨h0, hw, rfl, rfl, by omega, by omega⟩
  have hro : runOk s0 s1.f0 s1.f1 = true := by unfold runOk; rw [hw, decide_eq_true h0]; rfl
  refine ev_bindv (show tableau_Run.f s0.f0 s0.f1 s0.f2 s1.f0 s1.f1 = some (runS s0 s1.f0 s1.f1, runOk s0 s1.f0 s1.f1) from by cases s0; rfl) ?_
  refine ev_bindv (show formula_Row.f s0.f0 s0.f1 s0.f2 s1.f0 s1.f1 = some (rowS (s1.f0 ++ s1.f1) s1.f0.length s0) from by
    have : formula_Row.f s0.f0 s0.f1 s0.f2 s1.f0 s1.f1 = some (rowF s0 s1.f0 s1.f1) := by cases s0; rfl
    rw [this]; unfold rowF; rw [if_pos ⟨h0, hw⟩]) ?_
  simp only
  have hlR := hok.lenR
  have hlr := hok.lenRow
  have hla : (s1.f0 ++ s1.f1).length = s1.f0.length + s1.f1.length := List.length_append
  have e1 : wrap64 ((s1.f0.length : Int) + (s1.f1.length : Int)) = ((s1.f0.length + s1.f1.length : Nat) : Int) := by rw [w64 (by omega) (by omega)]; omega
  rw [hro]
  refine ev_tt ?_
  refine ev_pos (by rw [e1, hlR]) (ev_pos (by rw [e1, hlr]) ?_)
  refine ev_bindv rfl (ev_pos (by simp; omega) ?_)
  refine ev_bindv rfl (ev_pos (by simp; omega) ?_)
  rw [e1]
  simp only [List.nil_append]
  exact row_l0 hok (s1.f0.length + s1.f1.length) 0 (by omega)
end Go.Proofs.Ytegaicoddnmemaa.Pu

