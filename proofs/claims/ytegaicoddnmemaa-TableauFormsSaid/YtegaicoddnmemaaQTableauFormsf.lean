/- A part of the claim TableauForms. -/
import Derived.ChangeArms
import Derived.SizedLaws
import Derived.WideShapes
import Derived.Test.YtegaicoddnmemaaQTableauFormsa
import Derived.Test.YtegaicoddnmemaaQTableauFormsb
import Derived.Test.YtegaicoddnmemaaQTableauFormsc
import Derived.Test.YtegaicoddnmemaaQTableauFormsd
import Derived.Test.YtegaicoddnmemaaQTableauFormse
namespace Go.Proofs.Ytegaicoddnmemaa.Op
open Go.RowKit Go.Proofs.YtegaicoddnmemaaW.PrintWords
set_option linter.unusedVariables false
set_option linter.unusedSimpArgs false

def Opens (N : Nat) (P : Program) (T : TypeId) {α : Type} (d : Kd α) (G : α → Prop) : Prop :=
  ∀ (H : Type) (enc : TypeId × Value → H) (W : World) (base : Nat) (spare : Nat → Bool) (held : Bool) (fuel : Nat) (cs : List Value) (x : DataW H × List MemPlace),
    fuel ≤ N → DataW.trod enc P W base spare held fuel T cs = some x → (∀ n ∈ x.1.weights P T, n ≤ reachBytes) → ∃ y, d.K W y cs ∧ G y

theorem Opens.mono {N M : Nat} {P : Program} {T : TypeId} {α : Type} {d : Kd α} {G : α → Prop} (h : Opens N P T d G) (hm : M ≤ N) : Opens M P T d G :=
  fun H enc W base spare held fuel cs x hf => h H enc W base spare held fuel cs x (Nat.le_trans hf hm)

theorem opens_int {N : Nat} {P : Program} {T : TypeId} {k : IntKind} (ht : P.underlying T = some (.int k)) : Opens N P T (Kd.int k) (fun n => (Lit.int k n).wf = true) := by
  intro H enc W base spare held fuel cs x _ h _
  obtain ⟨n, rfl, _, hw⟩ := DataW.trod_int ht h
  exact ⟨n, rfl, hw⟩
theorem weightsAll_mem {H : Type} {P : Program} {e : TypeId} : ∀ {l : List (DataW H)} {i : Nat} {d : DataW H}, l[i]? = some d → ∀ n ∈ d.weights P e, n ∈ DataW.weightsAll P e l
  | [], i, d, h => by simp at h
  | a :: r, 0, d, h => fun n hn => by
    simp at h
    subst h
    simp only [DataW.weightsAll, List.mem_append]
    exact .inl hn
  | a :: r, i + 1, d, h => fun n hn => by
    simp only [DataW.weightsAll, List.mem_append]
    exact .inr (weightsAll_mem (by simpa using h) n hn)
theorem choose_list {α : Type} {p : Nat → α → Prop} : ∀ n, (∀ i, i < n → ∃ x, p i x) → ∃ l : List α, l.length = n ∧ ∀ i x, l[i]? = some x → p i x
  | 0, _ => ⟨[], rfl, fun i x h => by simp at h⟩
  | n + 1, h => by
    obtain ⟨l, hl, hp⟩ := choose_list n (fun i hi => h i (by omega))
    obtain ⟨x, hx⟩ := h n (by omega)
    refine ⟨l ++ [x], by simp [hl], fun i y hy => ?_⟩
    rcases Nat.lt_or_ge i l.length with hi | hi
    · rw [List.getElem?_append_left hi] at hy
      exact hp i y hy
    · rw [List.getElem?_append_right hi] at hy
      have hi0 : i - l.length = 0 := by
        rcases Nat.eq_zero_or_pos (i - l.length) with h0 | h0
        · exact h0
        · rw [List.getElem?_eq_none (by simp; omega)] at hy
          cases hy
      rw [hi0] at hy
      simp at hy
      subst hy
      rw [show i = n by omega]
      exact hx
theorem opens_slice {N : Nat} {P : Program} {T e : TypeId} {α : Type} {d : Kd α} {G : α → Prop} (ht : P.underlying T = some (.slice e)) (hsz : P.cellsOf e = d.sz) (hd : Opens N P e d G) :
    Opens (N + 1) P T (Kd.slice e d) (fun xs => (∀ x ∈ xs, G x) ∧ xs.length * P.bytesOf e ≤ reachBytes) := by
  intro H enc W base spare held fuel cs x hN h hw
  rcases DataW.trod_slice ht h with ⟨rfl, rfl⟩ | ⟨a, len, cap, elems, rest, n, rfl, rfl, rfl, hb, hl, hm, hlen, hel, _, _⟩
  · exact ⟨[], ⟨none, 0, rfl, by simp, ⟨rfl, by simp, fun h => absurd h (Nat.lt_irrefl 0)⟩⟩, fun x hx => by simp at hx, by simp⟩
  · have hw2 : ∀ m ∈ (DataW.slice (elems.map (·.1)) (rest.map (·.1)) : DataW H).weights P T, m ≤ reachBytes := hw
    simp only [DataW.weights, ht, List.mem_cons, List.mem_append] at hw2
    have one : ∀ i, i < len → ∃ y : α, G y ∧ ∃ c : List Value, c.length = d.sz ∧ d.K W y c ∧ ∀ j u, c[j]? = some u → W.cell? (a.add (i * d.sz + j)) = some u := by
      intro i hi
      have hi2 := hel i hi
      rw [List.getElem?_eq_getElem (by omega)] at hi2
      obtain ⟨c, h1, h2⟩ := Option.bind_eq_some_iff.1 hi2
      obtain ⟨y, hK, hG⟩ := hd H enc W base spare held n c _ (by omega) h2 (fun m hm2 => hw2 m (.inr (.inl (weightsAll_mem (i := i) (by simp [List.getElem?_eq_getElem (show i < elems.length by omega)]) m hm2))))
      obtain ⟨_, h3, h4⟩ := World.cells?_some h1
      refine ⟨y, hG, c, by rw [h3, hsz], hK, fun j u hu => ?_⟩
      have hj : j < c.length := (List.getElem?_eq_some_iff.1 hu).1
      have h5 := h4 j (by omega)
      rw [hu] at h5
      have e1 : (a.add (i * P.cellsOf e)).add j = a.add (i * d.sz + j) := by
        rw [hsz]
        unfold Addr.add
        by_cases hi0 : i * d.sz = 0 <;> by_cases hj0 : j = 0 <;> simp [hi0, hj0, Nat.add_assoc]
      rw [← e1]
      exact h5
    obtain ⟨l, hl2, hp⟩ := choose_list len one
    refine ⟨l, ⟨some a, cap, by rw [hl2], by omega, ⟨rfl, by unfold maxLen at hm; omega, fun _ => ⟨a, rfl, fun j p hj => (hp j p hj).2⟩⟩⟩, fun x hx => ?_, ?_⟩
    · obtain ⟨i, hi⟩ := List.getElem?_of_mem hx
      exact (hp i x hi).1
    · have h6 := hw2 _ (.inl rfl)
      simp only [List.length_map] at h6
      rw [hl2]
      exact Nat.le_trans (Nat.mul_le_mul_right _ (by omega)) h6

/-- Fields that lie side by side from cell o on, n cells in all. -/
def OpensF (N : Nat) (P : Program) (fs : List Field) (o n : Nat) {α : Type} (d : Kd α) (G : α → Prop) : Prop :=
  ∀ (H : Type) (enc : TypeId × Value → H) (W : World) (base : Nat) (spare : Nat → Bool) (held : Bool) (fuel : Nat) (cs : List Value) (xs : List (DataW H × List MemPlace)),
    fuel ≤ N → xs.length = fs.length → (∀ (i : Nat) (f : Field), fs[i]? = some f → DataW.trod enc P W base spare held fuel f.type ((cs.drop f.offset).take (P.cellsOf f.type)) = xs[i]?) →
    (∀ m ∈ DataW.weightsEach P (fs.map (·.type)) (xs.map (·.1)), m ≤ reachBytes) → ∃ y, d.K W y ((cs.drop o).take n) ∧ G y
theorem opensF_one {N : Nat} {P : Program} {f : Field} {o n : Nat} {α : Type} {d : Kd α} {G : α → Prop} (ho : f.offset = o) (hn : P.cellsOf f.type = n) (h : Opens N P f.type d G) : OpensF N P [f] o n d G := by
  intro H enc W base spare held fuel cs xs hN hl hx hw
  obtain ⟨x, rfl⟩ : ∃ x, xs = [x] := by
    match xs, hl with
    | [x], _ => exact ⟨x, rfl⟩
  have h1 := hx 0 f rfl
  rw [ho, hn] at h1
  exact h H enc W base spare held fuel _ x hN h1 (fun m hm => hw m (by simpa [DataW.weightsEach] using hm))
theorem opensF_cons {N : Nat} {P : Program} {f : Field} {fs : List Field} {o a n : Nat} {α β : Type} {d : Kd α} {d' : Kd β} {G : α → Prop} {G' : β → Prop} (ho : f.offset = o) (ha : P.cellsOf f.type = a) (h : Opens N P f.type d G) (hr : OpensF N P fs (o + a) n d' G') :
    OpensF N P (f :: fs) o (a + n) (Kd.pair d d') (fun y => G y.1 ∧ G' y.2) := by
  intro H enc W base spare held fuel cs xs hN hl hx hw
  match xs, hl with
  | x :: xs, hl =>
    have h1 := hx 0 f rfl
    rw [ho, ha] at h1
    simp only [List.map_cons, DataW.weightsEach, List.mem_append] at hw
    obtain ⟨y, hy, gy⟩ := h H enc W base spare held fuel _ x hN h1 (fun m hm => hw m (.inl hm))
    obtain ⟨z, hz, gz⟩ := hr H enc W base spare held fuel cs xs hN (by simpa using hl) (fun i g hg => by simpa using hx (i + 1) g (by simpa using hg)) (fun m hm => hw m (.inr hm))
    refine ⟨(y, z), ⟨_, _, ?_, hy, hz⟩, gy, gz⟩
    rw [List.take_add, List.drop_drop]
theorem opens_struct {N : Nat} {P : Program} {T : TypeId} {fs : List Field} {n : Nat} {α β : Type} {d : Kd α} {G : α → Prop} (ht : P.underlying T = some (.struct fs.toArray)) (hn : P.cellsOf T = n) (f : β → α) (g : α → β) (hg : ∀ y, f (g y) = y)
    (h : OpensF N P fs 0 n d G) : Opens (N + 1) P T (Kd.iso d f) (fun y => G (f y)) := by
  intro H enc W base spare held fuel cs x hN hx hw
  obtain ⟨xs, m, rfl, rfl, hl, hlx, hf⟩ := DataW.trod_struct ht hx
  obtain ⟨y, hy, gy⟩ := h H enc W base spare held m cs xs (by omega) (by simpa using hlx) (fun i f0 hi => hf i f0 (by simpa using hi)) (fun k hk => hw k (by
    simp only [DataW.weights, ht]
    exact hk))
  refine ⟨g y, ?_, ?_⟩
  · show d.K W (f (g y)) cs
    rw [hg]
    rw [← hn, ← hl, List.drop_zero, List.take_length] at hy
    exact hy
  · show G (f (g y))
    rw [hg]
    exact gy
theorem Opens.imp {N : Nat} {P : Program} {T : TypeId} {α : Type} {d : Kd α} {G G' : α → Prop} (h : Opens N P T d G) (hi : ∀ y, G y → G' y) : Opens N P T d G' := by
  intro H enc W base spare held fuel cs x hN hx hw
  obtain ⟨y, hy, gy⟩ := h H enc W base spare held fuel cs x hN hx hw
  exact ⟨y, hy, hi y gy⟩
theorem opens_upto {P : Program} {T : TypeId} {α : Type} {F : Kd α → Kd α} {sz : Nat} {E : List Nat} {G : α → Prop} (step : ∀ N (d : Kd α), d.sz = sz → Opens N P T d G → Opens (N + 1) P T (F d) G) (hs : ∀ n, (Kd.upto F sz E n).sz = sz) : ∀ N, Opens N P T (Kd.upto F sz E N) G
  | 0 => fun H enc W base spare held fuel cs x hN h _ => by
    obtain rfl : fuel = 0 := by omega
    simp [DataW.trod] at h
  | N + 1 => step N _ (hs N) (opens_upto step hs N)
theorem opens_fix {P : Program} {T : TypeId} {α : Type} {F : Kd α → Kd α} {sz : Nat} {E : List Nat} {G : α → Prop} {hs : ∀ n, (Kd.upto F sz E n).sz = sz} {hE : ∀ n q, q ∈ (Kd.upto F sz E n).E → q ∈ E} (step : ∀ N (d : Kd α), d.sz = sz → Opens N P T d G → Opens (N + 1) P T (F d) G) (N : Nat) : Opens N P T (Kd.fix F sz E hs hE) G := by
  intro H enc W base spare held fuel cs x hN hx hw
  obtain ⟨y, hy, gy⟩ := opens_upto step hs N H enc W base spare held fuel cs x hN hx hw
  exact ⟨y, ⟨N, hy⟩, gy⟩
theorem bytes_le {a b n r : Nat} (e : a = b) (h : n * a ≤ r) : n * b ≤ r := e ▸ h
/-- An argument. -/
theorem opened {P : Program} {T : TypeId} {α : Type} {d : Kd α} {G : α → Prop} (h : ∀ N, Opens N P T d G) {H : Type} {enc : TypeId × Value → H} {W : World} {base : Nat} {spare : Nat → Bool} {held : Bool} {v : Value} {x : DataW H} {p : List MemPlace} (ht : DataW.Trod enc P W base spare held T v x p)
    {ts : List TypeId} {ds : List (DataW H)} {j : Nat} (hz : (DataW.weightsEach P ts ds).all (· ≤ reachBytes) = true) (hj : ts[j]? = some T) (hd : ds[j]? = some x) : ∃ y, d.K W y v.cells.toList ∧ G y := by
  obtain ⟨fuel, hf⟩ := ht
  exact h fuel H enc W base spare held fuel _ _ (Nat.le_refl _) hf (fun n hn => by
    have := List.all_eq_true.1 hz n (DataW.weights_mem_each hj hd n hn)
    simpa using this)
end Go.Proofs.Ytegaicoddnmemaa.Op

namespace Go.Proofs.Ytegaicoddnmemaa.Ki
open Go.RowKit Go.Proofs.YtegaicoddnmemaaW.PrintWords Go.Proofs.Ytegaicoddnmemaa.Op Go.Proofs.Ytegaicoddnmemaa.P
set_option linter.unusedVariables false
inductive G24 : S24 → Prop
  | mk (s : S24) : (Lit.int .i64 s.f0).wf = true → (Lit.int .i64 s.f1).wf = true → (∀ x ∈ s.f2, G24 x) → s.f2.length * 40 ≤ reachBytes → G24 s
theorem op24 (N : Nat) : Opens N Try.prog 24 k24 G24 := by
  refine opens_fix (fun N d hz hd => ?_) N
  refine (opens_struct Try.underlying24 (n := 3) (by kernel_rfl) _ (fun y : Int × Int × (List (S24)) => (⟨y.1, y.2.1, y.2.2⟩ : S24)) (fun _ => rfl) (opensF_cons (a := 1) (n := 2) rfl (by kernel_rfl) (opens_int Try.underlying3) (opensF_cons (a := 1) (n := 1) rfl (by kernel_rfl) (opens_int Try.underlying3) (opensF_one (n := 1) rfl (by kernel_rfl) ((opens_slice Try.underlying22 (hz ▸ by kernel_rfl) hd).mono (Nat.le_succ N)))))).imp (fun s h => ?_)
  exact G24.mk s (h.1) (h.2.1) (h.2.2.1) (bytes_le (by kernel_rfl : Try.prog.bytesOf 24 = 40) h.2.2.2)
end Go.Proofs.Ytegaicoddnmemaa.Ki

namespace Go.Proofs.Ytegaicoddnmemaa.X
open Go.RowKit Go.Proofs.YtegaicoddnmemaaW.PrintWords Go.Proofs.YtegaicoddnmemaaW.PrintMore
open Go.Proofs.Ytegaicoddnmemaa.P Go.Proofs.Ytegaicoddnmemaa.Evx
set_option linter.unusedVariables false
set_option linter.unusedSimpArgs false
/-- What weigh tells is a number from 1 to 1000. -/
def WeiAt (s : S24) : Prop := ∀ (d r : Int), 0 ≤ d → d ≤ 41 → 0 ≤ r → r ≤ 500 → ∃ n : Int, Ev (fun k => parrylaw22_weigh.f k s.f0 s.f1 s.f2 d r) n ∧ 1 ≤ n ∧ n ≤ 1000
theorem weigh_l (kids : List S24) (d r : Int) (hd0 : 0 ≤ d) (hd : d ≤ 40) (hr0 : 1 ≤ r) (hr : r ≤ 500) (ih : ∀ k ∈ kids, WeiAt k) :
    ∀ (e j : Nat) (n : Int), j + e = kids.length → (j : Int) < n → n ≤ r → ∃ n' : Int, Ev (fun k => parrylaw22_weigh.l0 k d r n kids (kids.length : Int) j) n' ∧ 1 ≤ n' ∧ n' ≤ 1000
  | 0, j, n, hj, h1, h2 => ⟨n, ev_step (fun k => rfl) (ev_neg (by omega) (ev_some _)), by omega, by omega⟩
  | e + 1, j, n, hj, h1, h2 => by
    have hlt : j < kids.length := by omega
    obtain ⟨x, hx, x1, x2⟩ := ih _ (List.getElem_mem hlt) (d + 1) (r - n) (by omega) (by omega) (by omega) (by omega)
    by_cases hc : n + x > r
    · refine ⟨1000, ev_step (fun k => rfl) (ev_pos (by omega) (ev_pos (by omega) (ev_pos (by omega) ?_))), by omega, by omega⟩
      rw [rdT_nat kids j hlt, w64 (x := d + 1) (by omega) (by omega), w64 (x := r - n) (by omega) (by omega)]
      refine ev_bind hx ?_
      rw [w64 (by omega) (by omega)]
      exact ev_pos hc (ev_some _)
    · obtain ⟨n', hn', a1, a2⟩ := weigh_l kids d r hd0 hd hr0 hr ih e (j + 1) (n + x) (by omega) (by omega) (by omega)
      refine ⟨n', ev_step (fun k => rfl) (ev_pos (by omega) (ev_pos (by omega) (ev_pos (by omega) ?_))), a1, a2⟩
      rw [rdT_nat kids j hlt, w64 (x := d + 1) (by omega) (by omega), w64 (x := r - n) (by omega) (by omega)]
      refine ev_bind hx ?_
      rw [w64 (x := n + x) (by omega) (by omega), w64 (x := (j : Int) + 1) (by omega) (by omega)]
      refine ev_neg hc ?_
      exact_mod_cast hn'
mutual
theorem weigh_ev : ∀ s : S24, WeiAt s
  | ⟨op, m, kids⟩ => by
    intro d r h1 h2 h3 h4
    have ih := weigh_evL kids
    by_cases hd : d > 40
    · exact ⟨1000, ev_step (fun k => rfl) (ev_pos hd (ev_step (f := fun _ => some 1000) (fun k => rfl) (ev_some _))), by omega, by omega⟩
    · by_cases hr : r < 1
      · exact ⟨1000, ev_step (fun k => rfl) (ev_neg hd (ev_step (fun k => rfl) (ev_pos (decide_eq_true hr) (ev_some _)))), by omega, by omega⟩
      · obtain ⟨n', hn', a1, a2⟩ := weigh_l kids d r h1 (by omega) (by omega) h4 ih kids.length 0 1 (by omega) (by omega) (by omega)
        exact ⟨n', ev_step (fun k => rfl) (ev_neg hd (ev_step (fun k => rfl) (ev_neg (by rw [decide_eq_false hr]; simp) hn'))), a1, a2⟩
theorem weigh_evL : ∀ l : List S24, ∀ k ∈ l, WeiAt k
  | [], k, hk => by cases hk
  | a :: r, k, hk => by
    rcases List.mem_cons.1 hk with e | e
    · rw [e]; exact weigh_ev a
    · exact weigh_evL r k e
end
theorem heavy_ev (s : S24) : ∃ n : Int, Ev (fun k => parrylaw22_Heavy.f k s.f0 s.f1 s.f2) n ∧ 0 ≤ n ∧ n ≤ 1000 := by
  obtain ⟨n, hn, a1, a2⟩ := weigh_ev s 0 500 (by omega) (by omega) (by omega) (by omega)
  unfold parrylaw22_Heavy.f
  by_cases h : n > 300
  · exact ⟨n, ev_bind hn (ev_pos h (ev_some _)), by omega, by omega⟩
  · exact ⟨0, ev_bind hn (ev_neg h (ev_some _)), by omega, by omega⟩
end Go.Proofs.Ytegaicoddnmemaa.X

namespace Go.Proofs.Ytegaicoddnmemaa.X
open Go.RowKit Go.Proofs.YtegaicoddnmemaaW.PrintWords Go.Proofs.YtegaicoddnmemaaW.PrintMore
open Go.Proofs.Ytegaicoddnmemaa.P Go.Proofs.Ytegaicoddnmemaa.Evx
set_option linter.unusedVariables false
set_option linter.unusedSimpArgs false
/-- Three rows as one. -/
def zip3 (f : S24 → Bool → Bool → Bool) : List S24 → List Bool → List Bool → List Bool
  | t :: T, o :: os, b :: bs => f t o b :: zip3 f T os bs
  | _, _, _ => []
theorem zip3_app (f : S24 → Bool → Bool → Bool) : ∀ (T1 : List S24) (o1 b1 : List Bool) (T2 : List S24) (o2 b2 : List Bool), T1.length = o1.length → T1.length = b1.length → zip3 f (T1 ++ T2) (o1 ++ o2) (b1 ++ b2) = zip3 f T1 o1 b1 ++ zip3 f T2 o2 b2
  | [], [], [], T2, o2, b2, _, _ => rfl
  | t :: T, o :: os, b :: bs, T2, o2, b2, h1, h2 => by
    simp only [List.cons_append, zip3]
    rw [zip3_app f T os bs T2 o2 b2 (by simpa using h1) (by simpa using h2)]
theorem zip3_get (f : S24 → Bool → Bool → Bool) : ∀ (T : List S24) (o b : List Bool) (k : Nat), T.length = o.length → T.length = b.length → k < T.length → (zip3 f T o b).getD k false = f (T.getD k z24) (o.getD k false) (b.getD k false)
  | t :: T, o :: os, b :: bs, 0, _, _, _ => rfl
  | t :: T, o :: os, b :: bs, k + 1, h1, h2, h3 => by
    have := zip3_get f T os bs k (by simpa using h1) (by simpa using h2) (by simpa using h3)
    simpa [zip3] using this
theorem movesL_zip (sv : Int) (O F : List Bool) : ∀ (T : List S24) (j : Nat), T.length + j = O.length → T.length + j = F.length → movesL sv (zip3 wantB T (O.drop j) (F.drop j)) j = rmL sv T O F j
  | [], j, h1, h2 => by
    rw [List.drop_eq_nil_of_le (by simp at h1; omega)]
    rfl
  | t :: T, j, h1, h2 => by
    simp only [List.length_cons] at h1 h2
    have hO := List.drop_eq_getElem_cons (show j < O.length by omega)
    have hF := List.drop_eq_getElem_cons (show j < F.length by omega)
    rw [hO, hF]
    simp only [zip3, movesL, rmL]
    rw [movesL_zip sv O F T (j + 1) (by omega) (by omega), List.getD_eq_getElem?_getD, List.getD_eq_getElem?_getD, List.getElem?_eq_getElem (show j < O.length by omega), List.getElem?_eq_getElem (show j < F.length by omega)]
    congr 1
    exact Bool.beq_comm
mutual
theorem said_zip (sv lt : Int) : ∀ (s : S24) (k : Nat), saidS sv lt s k = zip3 wantB (timesS s) (tmO sv lt s k) (tmF sv lt s k)
  | ⟨op, m, kids⟩, k => by
    rw [times_eq, tmO_eq, tmF_eq, saidS]
    unfold ownE ownF
    by_cases h : timedS op = true
    · simp only [if_pos h]
      rw [zip3_app _ _ _ _ _ _ _ rfl rfl, said_zipL sv lt kids]
      congr 1
    · simp only [if_neg h]
      rw [List.nil_append, List.nil_append, List.nil_append, List.nil_append, said_zipL sv lt kids]
theorem said_zipL (sv lt : Int) : ∀ (l : List S24) (k : Nat), saidL sv lt l k = zip3 wantB (timesL l) (tmOL sv lt l k) (tmFL sv lt l k)
  | [], _ => by simp only [saidL, timesL, tmOL, tmFL, zip3]
  | c :: r, k => by
    simp only [saidL, timesL, tmOL, tmFL]
    rw [zip3_app _ _ _ _ _ _ _ (by rw [len_times, len_tmO]) (by rw [len_times, len_tmF]), said_zip sv lt c, said_zipL sv lt r]
end
theorem moves_ref (s : S24) (sv lt tv nx : Int) : movesF s sv lt tv nx = rmovesF s sv lt tv nx := by
  unfold movesF rmovesF
  rw [said_zip]
  have := movesL_zip sv (tmO tv nx s 0) (tmF tv nx s 0) (timesS s) 0 (by rw [len_times, len_tmO]; rfl) (by rw [len_times, len_tmF]; rfl)
  rw [List.drop_zero, List.drop_zero] at this
  rw [this]
def goodB (t : S24) (o l : Bool) : Bool := rgoodOp t.f0 o l
mutual
theorem good_zip (sv lt : Int) : ∀ (s : S24) (k : Nat), soundS s = true → goodS sv lt s k = zip3 goodB (timesS s) (tmO sv lt s k) (tmB sv lt s k)
  | ⟨op, m, kids⟩, k, hs => by
    have hp := sound_parts hs
    have hk := sound_kids_all hs
    rw [times_eq, tmO_eq, tmB_eq, goodS]
    unfold ownE ownF
    by_cases h : timedS op = true
    · simp only [if_pos h]
      rw [zip3_app _ _ _ _ _ _ _ rfl rfl, good_zipL sv lt kids _ hk]
      congr 1
      simp only [zip3, goodB, rgoodOp, goodOp]
      have hl : op = 7 ∨ op = 8 → (valL sv lt kids (k + tS op)).getLastD false = (valL sv lt kids (k + tS op)).getD 1 false := by
        intro h78
        have h2 : kids.length = 2 := by
          have h9 : kidsS 7 = 2 := by decide
          have h10 : kidsS 8 = 2 := by decide
          have := hp.2.1
          simp only at this
          rcases h78 with e | e <;> (rw [e] at this; omega)
        have h3 := len_valL sv lt kids (k + tS op)
        rw [h2] at h3
        generalize valL sv lt kids (k + tS op) = l at h3
        match l, h3 with
        | [a, b], _ => rfl
      by_cases h6 : op = 6
      · subst h6; rfl
      by_cases h7 : op = 7
      · rw [hl (.inl h7)]; subst h7; rfl
      by_cases h8 : op = 8
      · rw [hl (.inr h8)]; subst h8; rfl
      · exfalso
        simp only [timedS, Bool.and_eq_true, decide_eq_true_eq] at h
        omega
    · simp only [if_neg h]
      rw [List.nil_append, List.nil_append, List.nil_append, List.nil_append, good_zipL sv lt kids _ hk]
theorem good_zipL (sv lt : Int) : ∀ (l : List S24) (k : Nat), soundL l = true → goodL sv lt l k = zip3 goodB (timesL l) (tmOL sv lt l k) (tmBL sv lt l k)
  | [], _, _ => by simp only [goodL, timesL, tmOL, tmBL, zip3]
  | c :: r, k, hs => by
    simp only [soundL, Bool.and_eq_true] at hs
    simp only [goodL, timesL, tmOL, tmBL]
    rw [zip3_app _ _ _ _ _ _ _ (by rw [len_times, len_tmO]) (by rw [len_times, len_tmB]), good_zip sv lt c _ hs.1, good_zipL sv lt r _ hs.2]
end
theorem good_ref (s : S24) (k sv lt : Int) : goodF s k sv lt = rgoodF s k sv lt := by
  unfold goodF rgoodF
  cases hst : stateS s sv with
  | false => simp
  | true =>
    have hm := state_may hst
    have hs := (may_zero hm).2.2.2
    have hT : TimesS s = timesS s := by unfold TimesS; rw [if_pos hm]
    rw [hT, len_times, good_zip sv lt s 0 hs]
    by_cases h0 : 0 ≤ k
    · by_cases h1 : k < tnS s
      · rw [zip3_get goodB _ _ _ _ (by rw [len_times, len_tmO]) (by rw [len_times, len_tmB]) (by rw [len_times]; omega)]
        simp [goodB]
      · simp [h1]
    · simp [h0]
theorem value_ref (s : S24) (sv lt : Int) : parryref22_Value.f s.f0 s.f1 s.f2 sv lt = some (valueF s sv lt) := by
  unfold parryref22_Value.f valueF
  have hsz : parryref22_Size.f s.f0 s.f1 s.f2 = some (sizeS s) := by cases s; rfl
  by_cases h0 : sv < 0
  · rw [if_pos h0, if_neg]
    intro h
    have := of_decide_eq_true h
    omega
  · rw [if_neg h0, hsz]
    simp only [Option.bind_some]
    by_cases h1 : sv ≥ sizeS s
    · rw [if_pos h1, if_neg]
      intro h
      have := of_decide_eq_true h
      omega
    · have hst : stateS s sv = true := decide_eq_true ⟨by omega, by omega⟩
      have hz := may_zero (state_may hst)
      rw [if_neg h1, if_pos hst]
      have hv : parryref22_value.f s.f0 s.f1 s.f2 sv lt 0 = some (valS sv lt s 0, ((0 + tnS s : Nat) : Int)) := by
        unfold parryref22_value.f
        rw [eta_f, if_pos ⟨hz.2.2.2, by omega, by have := hz.2.2.1; simp; omega⟩]
        rfl
      rw [hv]
      rfl
end Go.Proofs.Ytegaicoddnmemaa.X

namespace Go.Proofs.Ytegaicoddnmemaa.Pu
open Go.RowKit Go.Proofs.YtegaicoddnmemaaW.PrintWords Go.Proofs.YtegaicoddnmemaaW.PrintMore
open Go.Proofs.Ytegaicoddnmemaa.P Go.Proofs.Ytegaicoddnmemaa.Evx Go.Proofs.Ytegaicoddnmemaa.X Go.Proofs.Ytegaicoddnmemaa.Ki
set_option linter.unusedVariables false
set_option linter.unusedSimpArgs false
theorem awake_some : parrylaw23_awake.f = some true := rfl
theorem TableauForms_pure (s0 : S24) (g0 : G24 s0) (a1 : Int) (w1 : (Lit.int .i64 a1).wf = true) (a2 : Int) (w2 : (Lit.int .i64 a2).wf = true) (a3 : Int) (w3 : (Lit.int .u32 a3).wf = true) (a4 : Int) (w4 : (Lit.int .i64 a4).wf = true) (a5 : Int) (w5 : (Lit.int .u32 a5).wf = true) : ∃ k, parrylaw23_TableauForms.f k s0.f0 s0.f1 s0.f2 a1 a2 a3 a4 a5 = some true := by
  refine Ev.rounds (?_ : Ev (fun k => parrylaw23_TableauForms.f k s0.f0 s0.f1 s0.f2 a1 a2 a3 a4 a5) true)
  unfold parrylaw23_TableauForms.f
  obtain ⟨n, hn, n0, n1⟩ := heavy_ev s0
  refine ev_bind hn (ev_ite (fun _ => ev_bindv awake_some (ev_some _)) (fun _ => ?_))
  refine ev_bind (Size_ev s0) ?_
  refine ev_bindv (show parryref22_Size.f s0.f0 s0.f1 s0.f2 = some (sizeS s0) from by cases s0; rfl) (ev_pos rfl ?_)
  refine ev_bindv (show tableau_Value.f s0.f0 s0.f1 s0.f2 a2 a3 = some (valueF s0 a2 a3) from by cases s0; rfl) (ev_bindv (value_ref s0 a2 a3) (ev_pos (by simp) ?_))
  refine ev_bindv (show tableau_Moves.f s0.f0 s0.f1 s0.f2 a2 a3 a4 a5 = some (movesF s0 a2 a3 a4 a5) from by cases s0; rfl) ?_
  refine ev_bindv (show parryref22_Moves.f s0.f0 s0.f1 s0.f2 a2 a3 a4 a5 = some (rmovesF s0 a2 a3 a4 a5) from by cases s0; rfl) (ev_pos (by rw [moves_ref]; simp) ?_)
  refine ev_bindv (show tableau_Good.f s0.f0 s0.f1 s0.f2 a1 a2 a3 = some (goodF s0 a1 a2 a3) from by cases s0; rfl) ?_
  exact ev_bindv (show parryref22_Good.f s0.f0 s0.f1 s0.f2 a1 a2 a3 = some (rgoodF s0 a1 a2 a3) from by cases s0; rfl) (ev_pos (by rw [good_ref]; simp) (ev_bindv awake_some (ev_some _)))
end Go.Proofs.Ytegaicoddnmemaa.Pu

