/- A part of the claim TableauRuns. -/
import Derived.ChangeArms
import Derived.SizedLaws
import Derived.WideShapes
import Derived.Test.YtegaicoddnmemaaQTableauRunsa
import Derived.Test.YtegaicoddnmemaaQTableauRunsb
import Derived.Test.YtegaicoddnmemaaQTableauRunsc
import Derived.Test.YtegaicoddnmemaaQTableauRunsd
import Derived.Test.YtegaicoddnmemaaQTableauRunse
import Derived.Test.YtegaicoddnmemaaQTableauRunsf
import Derived.Test.YtegaicoddnmemaaQTableauRunsg
namespace Go.Proofs.Ytegaicoddnmemaa.Op
open Go.RowKit Go.Proofs.YtegaicoddnmemaaW.PrintWords
set_option linter.unusedVariables false
set_option linter.unusedSimpArgs false

def Opens (N : Nat) (P : Program) (T : TypeId) {α : Type} (d : Kd α) (G : α → Prop) : Prop :=
  ∀ (H : Type) (enc : TypeId × Value → H) (W : World) (base : Nat) (spare : Nat → Bool) (held : Bool) (fuel : Nat) (cs : List Value) (x : DataW H × List MemPlace),
    fuel ≤ N → DataW.trod enc P W base spare held fuel T cs = some x → (∀ n ∈ x.1.weights P T, n ≤ reachBytes) → ∃ y, d.K W y cs ∧ G y

theorem Opens.mono {N M : Nat} {P : Program} {T : TypeId} {α : Type} {d : Kd α} {G : α → Prop} (h : Opens N P T d G) (hm : M ≤ N) : Opens M P T d G :=
  fun H enc W base spare held fuel cs x hf => h H enc W base spare held fuel cs x (Nat.le_trans hf hm)

theorem opens_int {N : Nat} {P : Program} {T : TypeId} {k : IntKind} (ht : P.underlying T = some (.int k)) : Opens N P T (Kd.int k) (fun n => (Lit.int k n).wf = true) := by
  intro H enc W base spare held fuel cs x _ h _
  obtain ⟨n, rfl, _, hw⟩ := DataW.trod_int ht h
  exact ⟨n, rfl, hw⟩
theorem weightsAll_mem {H : Type} {P : Program} {e : TypeId} : ∀ {l : List (DataW H)} {i : Nat} {d : DataW H}, l[i]? = some d → ∀ n ∈ d.weights P e, n ∈ DataW.weightsAll P e l
  | [], i, d, h => by simp at h
  | a :: r, 0, d, h => fun n hn => by
    simp at h
    subst h
    simp only [DataW.weightsAll, List.mem_append]
    exact .inl hn
  | a :: r, i + 1, d, h => fun n hn => by
    simp only [DataW.weightsAll, List.mem_append]
    exact .inr (weightsAll_mem (by simpa using h) n hn)
theorem choose_list {α : Type} {p : Nat → α → Prop} : ∀ n, (∀ i, i < n → ∃ x, p i x) → ∃ l : List α, l.length = n ∧ ∀ i x, l[i]? = some x → p i x
  | 0, _ => ⟨[], rfl, fun i x h => by simp at h⟩
  | n + 1, h => by
    obtain ⟨l, hl, hp⟩ := choose_list n (fun i hi => h i (by omega))
    obtain ⟨x, hx⟩ := h n (by omega)
    refine ⟨l ++ [x], by simp [hl], fun i y hy => ?_⟩
    rcases Nat.lt_or_ge i l.length with hi | hi
    · rw [List.getElem?_append_left hi] at hy
      exact hp i y hy
    · rw [List.getElem?_append_right hi] at hy
      have hi0 : i - l.length = 0 := by
        rcases Nat.eq_zero_or_pos (i - l.length) with h0 | h0
        · exact h0
        · rw [List.getElem?_eq_none (by simp; omega)] at hy
          cases hy
      rw [hi0] at hy
      simp at hy
      subst hy
      rw [show i = n by omega]
      exact hx
theorem opens_slice {N : Nat} {P : Program} {T e : TypeId} {α : Type} {d : Kd α} {G : α → Prop} (ht : P.underlying T = some (.slice e)) (hsz : P.cellsOf e = d.sz) (hd : Opens N P e d G) :
    Opens (N + 1) P T (Kd.slice e d) (fun xs => (∀ x ∈ xs, G x) ∧ xs.length * P.bytesOf e ≤ reachBytes) := by
  intro H enc W base spare held fuel cs x hN h hw
  rcases DataW.trod_slice ht h with ⟨rfl, rfl⟩ | ⟨a, len, cap, elems, rest, n, rfl, rfl, rfl, hb, hl, hm, hlen, hel, _, _⟩
  · exact ⟨[], ⟨none, 0, rfl, by simp, ⟨rfl, by simp, fun h => absurd h (Nat.lt_irrefl 0)⟩⟩, fun x hx => by simp at hx, by simp⟩
  · have hw2 : ∀ m ∈ (DataW.slice (elems.map (·.1)) (rest.map (·.1)) : DataW H).weights P T, m ≤ reachBytes := hw
    simp only [DataW.weights, ht, List.mem_cons, List.mem_append] at hw2
    have one : ∀ i, i < len → ∃ y : α, G y ∧ ∃ c : List Value, c.length = d.sz ∧ d.K W y c ∧ ∀ j u, c[j]? = some u → W.cell? (a.add (i * d.sz + j)) = some u := by
      intro i hi
      have hi2 := hel i hi
      rw [List.getElem?_eq_getElem (by omega)] at hi2
      obtain ⟨c, h1, h2⟩ := Option.bind_eq_some_iff.1 hi2
      obtain ⟨y, hK, hG⟩ := hd H enc W base spare held n c _ (by omega) h2 (fun m hm2 => hw2 m (.inr (.inl (weightsAll_mem (i := i) (by simp [List.getElem?_eq_getElem (show i < elems.length by omega)]) m hm2))))
      obtain ⟨_, h3, h4⟩ := World.cells?_some h1
      refine ⟨y, hG, c, by rw [h3, hsz], hK, fun j u hu => ?_⟩
      have hj : j < c.length := (List.getElem?_eq_some_iff.1 hu).1
      have h5 := h4 j (by omega)
      rw [hu] at h5
      have e1 : (a.add (i * P.cellsOf e)).add j = a.add (i * d.sz + j) := by
        rw [hsz]
        unfold Addr.add
        by_cases hi0 : i * d.sz = 0 <;> by_cases hj0 : j = 0 <;> simp [hi0, hj0, Nat.add_assoc]
      rw [← e1]
      exact h5
    obtain ⟨l, hl2, hp⟩ := choose_list len one
    refine ⟨l, ⟨some a, cap, by rw [hl2], by omega, ⟨rfl, by unfold maxLen at hm; omega, fun _ => ⟨a, rfl, fun j p hj => (hp j p hj).2⟩⟩⟩, fun x hx => ?_, ?_⟩
    · obtain ⟨i, hi⟩ := List.getElem?_of_mem hx
      exact (hp i x hi).1
    · have h6 := hw2 _ (.inl rfl)
      simp only [List.length_map] at h6
      rw [hl2]
      exact Nat.le_trans (Nat.mul_le_mul_right _ (by omega)) h6

/-- Fields that lie side by side from cell o on, n cells in all. -/
def OpensF (N : Nat) (P : Program) (fs : List Field) (o n : Nat) {α : Type} (d : Kd α) (G : α → Prop) : Prop :=
  ∀ (H : Type) (enc : TypeId × Value → H) (W : World) (base : Nat) (spare : Nat → Bool) (held : Bool) (fuel : Nat) (cs : List Value) (xs : List (DataW H × List MemPlace)),
    fuel ≤ N → xs.length = fs.length → (∀ (i : Nat) (f : Field), fs[i]? = some f → DataW.trod enc P W base spare held fuel f.type ((cs.drop f.offset).take (P.cellsOf f.type)) = xs[i]?) →
    (∀ m ∈ DataW.weightsEach P (fs.map (·.type)) (xs.map (·.1)), m ≤ reachBytes) → ∃ y, d.K W y ((cs.drop o).take n) ∧ G y
theorem opensF_one {N : Nat} {P : Program} {f : Field} {o n : Nat} {α : Type} {d : Kd α} {G : α → Prop} (ho : f.offset = o) (hn : P.cellsOf f.type = n) (h : Opens N P f.type d G) : OpensF N P [f] o n d G := by
  intro H enc W base spare held fuel cs xs hN hl hx hw
  obtain ⟨x, rfl⟩ : ∃ x, xs = [x] := by
    match xs, hl with
    | [x], _ => exact ⟨x, rfl⟩
  have h1 := hx 0 f rfl
  rw [ho, hn] at h1
  exact h H enc W base spare held fuel _ x hN h1 (fun m hm => hw m (by simpa [DataW.weightsEach] using hm))
theorem opensF_cons {N : Nat} {P : Program} {f : Field} {fs : List Field} {o a n : Nat} {α β : Type} {d : Kd α} {d' : Kd β} {G : α → Prop} {G' : β → Prop} (ho : f.offset = o) (ha : P.cellsOf f.type = a) (h : Opens N P f.type d G) (hr : OpensF N P fs (o + a) n d' G') :
    OpensF N P (f :: fs) o (a + n) (Kd.pair d d') (fun y => G y.1 ∧ G' y.2) := by
  intro H enc W base spare held fuel cs xs hN hl hx hw
  match xs, hl with
  | x :: xs, hl =>
    have h1 := hx 0 f rfl
    rw [ho, ha] at h1
    simp only [List.map_cons, DataW.weightsEach, List.mem_append] at hw
    obtain ⟨y, hy, gy⟩ := h H enc W base spare held fuel _ x hN h1 (fun m hm => hw m (.inl hm))
    obtain ⟨z, hz, gz⟩ := hr H enc W base spare held fuel cs xs hN (by simpa using hl) (fun i g hg => by simpa using hx (i + 1) g (by simpa using hg)) (fun m hm => hw m (.inr hm))
    refine ⟨(y, z), ⟨_, _, ?_, hy, hz⟩, gy, gz⟩
    rw [List.take_add, List.drop_drop]
theorem opens_struct {N : Nat} {P : Program} {T : TypeId} {fs : List Field} {n : Nat} {α β : Type} {d : Kd α} {G : α → Prop} (ht : P.underlying T = some (.struct fs.toArray)) (hn : P.cellsOf T = n) (f : β → α) (g : α → β) (hg : ∀ y, f (g y) = y)
    (h : OpensF N P fs 0 n d G) : Opens (N + 1) P T (Kd.iso d f) (fun y => G (f y)) := by
  intro H enc W base spare held fuel cs x hN hx hw
  obtain ⟨xs, m, rfl, rfl, hl, hlx, hf⟩ := DataW.trod_struct ht hx
  obtain ⟨y, hy, gy⟩ := h H enc W base spare held m cs xs (by omega) (by simpa using hlx) (fun i f0 hi => hf i f0 (by simpa using hi)) (fun k hk => hw k (by
    simp only [DataW.weights, ht]
    exact hk))
  refine ⟨g y, ?_, ?_⟩
  · show d.K W (f (g y)) cs
    rw [hg]
    rw [← hn, ← hl, List.drop_zero, List.take_length] at hy
    exact hy
  · show G (f (g y))
    rw [hg]
    exact gy
theorem Opens.imp {N : Nat} {P : Program} {T : TypeId} {α : Type} {d : Kd α} {G G' : α → Prop} (h : Opens N P T d G) (hi : ∀ y, G y → G' y) : Opens N P T d G' := by
  intro H enc W base spare held fuel cs x hN hx hw
  obtain ⟨y, hy, gy⟩ := h H enc W base spare held fuel cs x hN hx hw
  exact ⟨y, hy, hi y gy⟩
theorem opens_upto {P : Program} {T : TypeId} {α : Type} {F : Kd α → Kd α} {sz : Nat} {E : List Nat} {G : α → Prop} (step : ∀ N (d : Kd α), d.sz = sz → Opens N P T d G → Opens (N + 1) P T (F d) G) (hs : ∀ n, (Kd.upto F sz E n).sz = sz) : ∀ N, Opens N P T (Kd.upto F sz E N) G
  | 0 => fun H enc W base spare held fuel cs x hN h _ => by
    obtain rfl : fuel = 0 := by omega
    simp [DataW.trod] at h
  | N + 1 => step N _ (hs N) (opens_upto step hs N)
theorem opens_fix {P : Program} {T : TypeId} {α : Type} {F : Kd α → Kd α} {sz : Nat} {E : List Nat} {G : α → Prop} {hs : ∀ n, (Kd.upto F sz E n).sz = sz} {hE : ∀ n q, q ∈ (Kd.upto F sz E n).E → q ∈ E} (step : ∀ N (d : Kd α), d.sz = sz → Opens N P T d G → Opens (N + 1) P T (F d) G) (N : Nat) : Opens N P T (Kd.fix F sz E hs hE) G := by
  intro H enc W base spare held fuel cs x hN hx hw
  obtain ⟨y, hy, gy⟩ := opens_upto step hs N H enc W base spare held fuel cs x hN hx hw
  exact ⟨y, ⟨N, hy⟩, gy⟩
theorem bytes_le {a b n r : Nat} (e : a = b) (h : n * a ≤ r) : n * b ≤ r := e ▸ h
/-- An argument. -/
theorem opened {P : Program} {T : TypeId} {α : Type} {d : Kd α} {G : α → Prop} (h : ∀ N, Opens N P T d G) {H : Type} {enc : TypeId × Value → H} {W : World} {base : Nat} {spare : Nat → Bool} {held : Bool} {v : Value} {x : DataW H} {p : List MemPlace} (ht : DataW.Trod enc P W base spare held T v x p)
    {ts : List TypeId} {ds : List (DataW H)} {j : Nat} (hz : (DataW.weightsEach P ts ds).all (· ≤ reachBytes) = true) (hj : ts[j]? = some T) (hd : ds[j]? = some x) : ∃ y, d.K W y v.cells.toList ∧ G y := by
  obtain ⟨fuel, hf⟩ := ht
  exact h fuel H enc W base spare held fuel _ _ (Nat.le_refl _) hf (fun n hn => by
    have := List.all_eq_true.1 hz n (DataW.weights_mem_each hj hd n hn)
    simpa using this)
end Go.Proofs.Ytegaicoddnmemaa.Op

namespace Go.Proofs.Ytegaicoddnmemaa.Ki
open Go.RowKit Go.Proofs.YtegaicoddnmemaaW.PrintWords Go.Proofs.Ytegaicoddnmemaa.Op Go.Proofs.Ytegaicoddnmemaa.P
set_option linter.unusedVariables false
inductive G24 : S24 → Prop
  | mk (s : S24) : (Lit.int .i64 s.f0).wf = true → (Lit.int .i64 s.f1).wf = true → (∀ x ∈ s.f2, G24 x) → s.f2.length * 40 ≤ reachBytes → G24 s
theorem op24 (N : Nat) : Opens N Try.prog 24 k24 G24 := by
  refine opens_fix (fun N d hz hd => ?_) N
  refine (opens_struct Try.underlying24 (n := 3) (by kernel_rfl) _ (fun y : Int × Int × (List (S24)) => (⟨y.1, y.2.1, y.2.2⟩ : S24)) (fun _ => rfl) (opensF_cons (a := 1) (n := 2) rfl (by kernel_rfl) (opens_int Try.underlying3) (opensF_cons (a := 1) (n := 1) rfl (by kernel_rfl) (opens_int Try.underlying3) (opensF_one (n := 1) rfl (by kernel_rfl) ((opens_slice Try.underlying22 (hz ▸ by kernel_rfl) hd).mono (Nat.le_succ N)))))).imp (fun s h => ?_)
  exact G24.mk s (h.1) (h.2.1) (h.2.2.1) (bytes_le (by kernel_rfl : Try.prog.bytesOf 24 = 40) h.2.2.2)
def G25 (l : List (Int)) : Prop := (∀ x ∈ l, (Lit.int .u32 x).wf = true) ∧ l.length * 4 ≤ reachBytes
theorem op25 (N : Nat) : Opens N Try.prog 25 (Kd.slice 36 (Kd.int .u32)) G25 := ((opens_slice Try.underlying25 (by kernel_rfl) (opens_int Try.underlying36)).imp (fun l h => ⟨h.1, bytes_le (by kernel_rfl : Try.prog.bytesOf 36 = 4) h.2⟩)).mono (Nat.le_succ N)
def G27 (s : S27) : Prop := G25 s.f0 ∧ G25 s.f1
theorem op27 (N : Nat) : Opens N Try.prog 27 k27 G27 := by
  refine Opens.mono (N := N + 1) ?_ (Nat.le_succ N)
  unfold k27
  have h0 := opens_struct (N := N) Try.underlying27 (n := 2) (by kernel_rfl) (fun x : S27 => (x.f0, x.f1)) (fun y : (List (Int)) × (List (Int)) => (⟨y.1, y.2⟩ : S27)) (fun _ => rfl) (opensF_cons (a := 1) (n := 1) rfl (by kernel_rfl) (op25 _) (opensF_one (n := 1) rfl (by kernel_rfl) (op25 _)))
  exact Opens.imp h0 (fun s h => h)
end Go.Proofs.Ytegaicoddnmemaa.Ki

namespace Go.Proofs.Ytegaicoddnmemaa.X
open Go.RowKit Go.Proofs.YtegaicoddnmemaaW.PrintWords Go.Proofs.YtegaicoddnmemaaW.PrintMore
open Go.Proofs.Ytegaicoddnmemaa.P Go.Proofs.Ytegaicoddnmemaa.Evx
set_option linter.unusedVariables false
set_option linter.unusedSimpArgs false
/-- What weigh tells is a number from 1 to 1000. -/
def WeiAt (s : S24) : Prop := ∀ (d r : Int), 0 ≤ d → d ≤ 41 → 0 ≤ r → r ≤ 500 → ∃ n : Int, Ev (fun k => parrylaw22_weigh.f k s.f0 s.f1 s.f2 d r) n ∧ 1 ≤ n ∧ n ≤ 1000
theorem weigh_l (kids : List S24) (d r : Int) (hd0 : 0 ≤ d) (hd : d ≤ 40) (hr0 : 1 ≤ r) (hr : r ≤ 500) (ih : ∀ k ∈ kids, WeiAt k) :
    ∀ (e j : Nat) (n : Int), j + e = kids.length → (j : Int) < n → n ≤ r → ∃ n' : Int, Ev (fun k => parrylaw22_weigh.l0 k d r n kids (kids.length : Int) j) n' ∧ 1 ≤ n' ∧ n' ≤ 1000
  | 0, j, n, hj, h1, h2 => ⟨n, ev_step (fun k => rfl) (ev_neg (by omega) (ev_some _)), by omega, by omega⟩
  | e + 1, j, n, hj, h1, h2 => by
    have hlt : j < kids.length := by omega
    obtain ⟨x, hx, x1, x2⟩ := ih _ (List.getElem_mem hlt) (d + 1) (r - n) (by omega) (by omega) (by omega) (by omega)
    by_cases hc : n + x > r
    · refine ⟨1000, ev_step (fun k => rfl) (ev_pos (by omega) (ev_pos (by omega) (ev_pos (by omega) ?_))), by omega, by omega⟩
      rw [rdT_nat kids j hlt, w64 (x := d + 1) (by omega) (by omega), w64 (x := r - n) (by omega) (by omega)]
      refine ev_bind hx ?_
      rw [w64 (by omega) (by omega)]
      exact ev_pos hc (ev_some _)
    · obtain ⟨n', hn', a1, a2⟩ := weigh_l kids d r hd0 hd hr0 hr ih e (j + 1) (n + x) (by omega) (by omega) (by omega)
      refine ⟨n', ev_step (fun k => rfl) (ev_pos (by omega) (ev_pos (by omega) (ev_pos (by omega) ?_))), a1, a2⟩
      rw [rdT_nat kids j hlt, w64 (x := d + 1) (by omega) (by omega), w64 (x := r - n) (by omega) (by omega)]
      refine ev_bind hx ?_
      rw [w64 (x := n + x) (by omega) (by omega), w64 (x := (j : Int) + 1) (by omega) (by omega)]
      refine ev_neg hc ?_
      exact_mod_cast hn'
mutual
theorem weigh_ev : ∀ s : S24, WeiAt s
  | ⟨op, m, kids⟩ => by
    intro d r h1 h2 h3 h4
    have ih := weigh_evL kids
    by_cases hd : d > 40
    · exact ⟨1000, ev_step (fun k => rfl) (ev_pos hd (ev_step (f := fun _ => some 1000) (fun k => rfl) (ev_some _))), by omega, by omega⟩
    · by_cases hr : r < 1
      · exact ⟨1000, ev_step (fun k => rfl) (ev_neg hd (ev_step (fun k => rfl) (ev_pos (decide_eq_true hr) (ev_some _)))), by omega, by omega⟩
      · obtain ⟨n', hn', a1, a2⟩ := weigh_l kids d r h1 (by omega) (by omega) h4 ih kids.length 0 1 (by omega) (by omega) (by omega)
        exact ⟨n', ev_step (fun k => rfl) (ev_neg hd (ev_step (fun k => rfl) (ev_neg (by rw [decide_eq_false hr]; simp) hn'))), a1, a2⟩
theorem weigh_evL : ∀ l : List S24, ∀ k ∈ l, WeiAt k
  | [], k, hk => by cases hk
  | a :: r, k, hk => by
    rcases List.mem_cons.1 hk with e | e
    · rw [e]; exact weigh_ev a
    · exact weigh_evL r k e
end
theorem heavy_ev (s : S24) : ∃ n : Int, Ev (fun k => parrylaw22_Heavy.f k s.f0 s.f1 s.f2) n ∧ 0 ≤ n ∧ n ≤ 1000 := by
  obtain ⟨n, hn, a1, a2⟩ := weigh_ev s 0 500 (by omega) (by omega) (by omega) (by omega)
  unfold parrylaw22_Heavy.f
  by_cases h : n > 300
  · exact ⟨n, ev_bind hn (ev_pos h (ev_some _)), by omega, by omega⟩
  · exact ⟨0, ev_bind hn (ev_neg h (ev_some _)), by omega, by omega⟩
theorem long_some (st lp : List Int) : ∃ n : Int, parrylaw22_Long.f st lp = some n ∧ 0 ≤ n ∧ n ≤ 1 ∧ (n = 0 → st.length ≤ 60 ∧ lp.length ≤ 60) := by
  unfold parrylaw22_Long.f
  by_cases h1 : (st.length : Int) > 60
  · exact ⟨1, by rw [if_pos h1], by omega, by omega, by omega⟩
  · by_cases h2 : (lp.length : Int) > 60
    · exact ⟨1, by rw [if_neg h1, if_pos h2], by omega, by omega, by omega⟩
    · exact ⟨0, by rw [if_neg h1, if_neg h2], by omega, by omega, by omega⟩
theorem sameInts_l (l : List Int) (hl : l.length < 1000000000) : ∀ (e j : Nat), j + e = l.length → Ev (fun k => parryref9_SameInts.l0 k l l (l.length : Int) j) true
  | 0, j, hj => ev_step (fun k => rfl) (ev_neg (by omega) (ev_some _))
  | e + 1, j, hj => by
    refine ev_step (fun k => rfl) (ev_pos (by omega) (ev_pos (by omega) (ev_pos (by omega) (ev_pos (by omega) (ev_pos rfl ?_)))))
    rw [w64 (by omega) (by omega)]
    exact_mod_cast sameInts_l l hl e (j + 1) (by omega)
theorem sameInts_ev (l : List Int) (hl : l.length < 1000000000) : Ev (fun k => parryref9_SameInts.f k l l) true := by
  unfold parryref9_SameInts.f
  exact ev_pos rfl (sameInts_l l hl l.length 0 (by omega))
end Go.Proofs.Ytegaicoddnmemaa.X

namespace Go.Proofs.Ytegaicoddnmemaa.Pu
open Go.RowKit Go.Proofs.YtegaicoddnmemaaW.PrintWords Go.Proofs.YtegaicoddnmemaaW.PrintMore
open Go.Proofs.Ytegaicoddnmemaa.P Go.Proofs.Ytegaicoddnmemaa.Evx Go.Proofs.Ytegaicoddnmemaa.X Go.Proofs.Ytegaicoddnmemaa.Ki
set_option linter.unusedVariables false
set_option linter.unusedSimpArgs false
theorem len_runL (st lp : List Int) : ∀ (T : List S24) (k : Nat) (out : List Int), out.length = st.length + lp.length → (runL st lp T k out).length = st.length + lp.length
  | [], k, out, h => by rw [runL]; exact h
  | t :: r, k, out, h => by rw [runL]; exact len_runL st lp r _ _ (len_runRow _ _ _ _ _)
theorem len_runS (s : S24) (st lp : List Int) : (runS s st lp).length < 1000000000 := by
  unfold runS
  split
  · rename_i h
    have hw : st.length ≤ 3000 ∧ 1 ≤ lp.length ∧ lp.length ≤ 27000 := of_decide_eq_true h.2
    rw [len_runL st lp _ _ _ (by simp)]
    omega
  · simp
theorem awake_some : parrylaw23_awake.f = some true := rfl
theorem TableauRuns_pure (s0 : S24) (g0 : G24 s0) (s1 : S27) (g1 : G27 s1) : ∃ k, parrylaw23_TableauRuns.f k s0.f0 s0.f1 s0.f2 s1.f0 s1.f1 = some true := by
  refine Ev.rounds (?_ : Ev (fun k => parrylaw23_TableauRuns.f k s0.f0 s0.f1 s0.f2 s1.f0 s1.f1) true)
  unfold parrylaw23_TableauRuns.f
  obtain ⟨n, hn, n0, n1⟩ := heavy_ev s0
  obtain ⟨m, hm, m0, m1, _⟩ := long_some s1.f0 s1.f1
  refine ev_bind hn (ev_bindv hm (ev_ite (fun _ => ev_bindv awake_some (ev_some _)) (fun _ => ?_)))
  refine ev_bindv (show tableau_Run.f s0.f0 s0.f1 s0.f2 s1.f0 s1.f1 = some (runS s0 s1.f0 s1.f1, runOk s0 s1.f0 s1.f1) from by cases s0; rfl) ?_
  refine ev_bindv (show parryref22_Run.f s0.f0 s0.f1 s0.f2 s1.f0 s1.f1 = some (runS s0 s1.f0 s1.f1, runOk s0 s1.f0 s1.f1) from by cases s0; rfl) ?_
  refine ev_pos (by simp) (ev_bind (sameInts_ev _ (len_runS _ _ _)) (ev_tt (ev_bindv awake_some (ev_some _))))
end Go.Proofs.Ytegaicoddnmemaa.Pu

