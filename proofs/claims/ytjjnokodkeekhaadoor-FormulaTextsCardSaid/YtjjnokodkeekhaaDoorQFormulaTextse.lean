/- A part of the claim FormulaTexts. -/
import Derived.ChangeArms
import Derived.SizedLaws
import Derived.WideShapes
import Derived.Test.YtjjnokodkeekhaaDoorQFormulaTextsa
import Derived.Test.YtjjnokodkeekhaaDoorQFormulaTextsb
import Derived.Test.YtjjnokodkeekhaaDoorQFormulaTextsc
import Derived.Test.YtjjnokodkeekhaaDoorQFormulaTextsd
namespace Go.Proofs.YtjjnokodkeekhaaDoor.Op
open Go.RowKit Go.Proofs.YtjjnokodkeekhaaDoorW.PrintWords
set_option linter.unusedVariables false
set_option linter.unusedSimpArgs false

def Opens (N : Nat) (P : Program) (T : TypeId) {α : Type} (d : Kd α) (G : α → Prop) : Prop :=
  ∀ (H : Type) (enc : TypeId × Value → H) (W : World) (base : Nat) (spare : Nat → Bool) (held : Bool) (fuel : Nat) (cs : List Value) (x : DataW H × List MemPlace),
    fuel ≤ N → DataW.trod enc P W base spare held fuel T cs = some x → (∀ n ∈ x.1.weights P T, n ≤ reachBytes) → ∃ y, d.K W y cs ∧ G y

theorem Opens.mono {N M : Nat} {P : Program} {T : TypeId} {α : Type} {d : Kd α} {G : α → Prop} (h : Opens N P T d G) (hm : M ≤ N) : Opens M P T d G :=
  fun H enc W base spare held fuel cs x hf => h H enc W base spare held fuel cs x (Nat.le_trans hf hm)

theorem opens_int {N : Nat} {P : Program} {T : TypeId} {k : IntKind} (ht : P.underlying T = some (.int k)) : Opens N P T (Kd.int k) (fun n => (Lit.int k n).wf = true) := by
  intro H enc W base spare held fuel cs x _ h _
  obtain ⟨n, rfl, _, hw⟩ := DataW.trod_int ht h
  exact ⟨n, rfl, hw⟩
theorem weightsAll_mem {H : Type} {P : Program} {e : TypeId} : ∀ {l : List (DataW H)} {i : Nat} {d : DataW H}, l[i]? = some d → ∀ n ∈ d.weights P e, n ∈ DataW.weightsAll P e l
  | [], i, d, h => by simp at h
  | a :: r, 0, d, h => fun n hn => by
    simp at h
    subst h
    simp only [DataW.weightsAll, List.mem_append]
    exact .inl hn
  | a :: r, i + 1, d, h => fun n hn => by
    simp only [DataW.weightsAll, List.mem_append]
    exact .inr (weightsAll_mem (by simpa using h) n hn)
theorem choose_list {α : Type} {p : Nat → α → Prop} : ∀ n, (∀ i, i < n → ∃ x, p i x) → ∃ l : List α, l.length = n ∧ ∀ i x, l[i]? = some x → p i x
  | 0, _ => ⟨[], rfl, fun i x h => by simp at h⟩
  | n + 1, h => by
    obtain ⟨l, hl, hp⟩ := choose_list n (fun i hi => h i (by omega))
    obtain ⟨x, hx⟩ := h n (by omega)
    refine ⟨l ++ [x], by simp [hl], fun i y hy => ?_⟩
    rcases Nat.lt_or_ge i l.length with hi | hi
    · rw [List.getElem?_append_left hi] at hy
      exact hp i y hy
    · rw [List.getElem?_append_right hi] at hy
      have hi0 : i - l.length = 0 := by
        rcases Nat.eq_zero_or_pos (i - l.length) with h0 | h0
        · exact h0
        · rw [List.getElem?_eq_none (by simp; omega)] at hy
          cases hy
      rw [hi0] at hy
      simp at hy
      subst hy
      rw [show i = n by omega]
      exact hx
theorem opens_slice {N : Nat} {P : Program} {T e : TypeId} {α : Type} {d : Kd α} {G : α → Prop} (ht : P.underlying T = some (.slice e)) (hsz : P.cellsOf e = d.sz) (hd : Opens N P e d G) :
    Opens (N + 1) P T (Kd.slice e d) (fun xs => (∀ x ∈ xs, G x) ∧ xs.length * P.bytesOf e ≤ reachBytes) := by
  intro H enc W base spare held fuel cs x hN h hw
  rcases DataW.trod_slice ht h with ⟨rfl, rfl⟩ | ⟨a, len, cap, elems, rest, n, rfl, rfl, rfl, hb, hl, hm, hlen, hel, _, _⟩
  · exact ⟨[], ⟨none, 0, rfl, by simp, ⟨rfl, by simp, fun h => absurd h (Nat.lt_irrefl 0)⟩⟩, fun x hx => by simp at hx, by simp⟩
  · have hw2 : ∀ m ∈ (DataW.slice (elems.map (·.1)) (rest.map (·.1)) : DataW H).weights P T, m ≤ reachBytes := hw
    simp only [DataW.weights, ht, List.mem_cons, List.mem_append] at hw2
    have one : ∀ i, i < len → ∃ y : α, G y ∧ ∃ c : List Value, c.length = d.sz ∧ d.K W y c ∧ ∀ j u, c[j]? = some u → W.cell? (a.add (i * d.sz + j)) = some u := by
      intro i hi
      have hi2 := hel i hi
      rw [List.getElem?_eq_getElem (by omega)] at hi2
      obtain ⟨c, h1, h2⟩ := Option.bind_eq_some_iff.1 hi2
      obtain ⟨y, hK, hG⟩ := hd H enc W base spare held n c _ (by omega) h2 (fun m hm2 => hw2 m (.inr (.inl (weightsAll_mem (i := i) (by simp [List.getElem?_eq_getElem (show i < elems.length by omega)]) m hm2))))
      obtain ⟨_, h3, h4⟩ := World.cells?_some h1
      refine ⟨y, hG, c, by rw [h3, hsz], hK, fun j u hu => ?_⟩
      have hj : j < c.length := (List.getElem?_eq_some_iff.1 hu).1
      have h5 := h4 j (by omega)
      rw [hu] at h5
      have e1 : (a.add (i * P.cellsOf e)).add j = a.add (i * d.sz + j) := by
        rw [hsz]
        unfold Addr.add
        by_cases hi0 : i * d.sz = 0 <;> by_cases hj0 : j = 0 <;> simp [hi0, hj0, Nat.add_assoc]
      rw [← e1]
      exact h5
    obtain ⟨l, hl2, hp⟩ := choose_list len one
    refine ⟨l, ⟨some a, cap, by rw [hl2], by omega, ⟨rfl, by unfold maxLen at hm; omega, fun _ => ⟨a, rfl, fun j p hj => (hp j p hj).2⟩⟩⟩, fun x hx => ?_, ?_⟩
    · obtain ⟨i, hi⟩ := List.getElem?_of_mem hx
      exact (hp i x hi).1
    · have h6 := hw2 _ (.inl rfl)
      simp only [List.length_map] at h6
      rw [hl2]
      exact Nat.le_trans (Nat.mul_le_mul_right _ (by omega)) h6

/-- Fields that lie side by side from cell o on, n cells in all. -/
def OpensF (N : Nat) (P : Program) (fs : List Field) (o n : Nat) {α : Type} (d : Kd α) (G : α → Prop) : Prop :=
  ∀ (H : Type) (enc : TypeId × Value → H) (W : World) (base : Nat) (spare : Nat → Bool) (held : Bool) (fuel : Nat) (cs : List Value) (xs : List (DataW H × List MemPlace)),
    fuel ≤ N → xs.length = fs.length → (∀ (i : Nat) (f : Field), fs[i]? = some f → DataW.trod enc P W base spare held fuel f.type ((cs.drop f.offset).take (P.cellsOf f.type)) = xs[i]?) →
    (∀ m ∈ DataW.weightsEach P (fs.map (·.type)) (xs.map (·.1)), m ≤ reachBytes) → ∃ y, d.K W y ((cs.drop o).take n) ∧ G y
theorem opensF_one {N : Nat} {P : Program} {f : Field} {o n : Nat} {α : Type} {d : Kd α} {G : α → Prop} (ho : f.offset = o) (hn : P.cellsOf f.type = n) (h : Opens N P f.type d G) : OpensF N P [f] o n d G := by
  intro H enc W base spare held fuel cs xs hN hl hx hw
  obtain ⟨x, rfl⟩ : ∃ x, xs = [x] := by
    match xs, hl with
    | [x], _ => exact ⟨x, rfl⟩
  have h1 := hx 0 f rfl
  rw [ho, hn] at h1
  exact h H enc W base spare held fuel _ x hN h1 (fun m hm => hw m (by simpa [DataW.weightsEach] using hm))
theorem opensF_cons {N : Nat} {P : Program} {f : Field} {fs : List Field} {o a n : Nat} {α β : Type} {d : Kd α} {d' : Kd β} {G : α → Prop} {G' : β → Prop} (ho : f.offset = o) (ha : P.cellsOf f.type = a) (h : Opens N P f.type d G) (hr : OpensF N P fs (o + a) n d' G') :
    OpensF N P (f :: fs) o (a + n) (Kd.pair d d') (fun y => G y.1 ∧ G' y.2) := by
  intro H enc W base spare held fuel cs xs hN hl hx hw
  match xs, hl with
  | x :: xs, hl =>
    have h1 := hx 0 f rfl
    rw [ho, ha] at h1
    simp only [List.map_cons, DataW.weightsEach, List.mem_append] at hw
    obtain ⟨y, hy, gy⟩ := h H enc W base spare held fuel _ x hN h1 (fun m hm => hw m (.inl hm))
    obtain ⟨z, hz, gz⟩ := hr H enc W base spare held fuel cs xs hN (by simpa using hl) (fun i g hg => by simpa using hx (i + 1) g (by simpa using hg)) (fun m hm => hw m (.inr hm))
    refine ⟨(y, z), ⟨_, _, ?_, hy, hz⟩, gy, gz⟩
    rw [List.take_add, List.drop_drop]
theorem opens_struct {N : Nat} {P : Program} {T : TypeId} {fs : List Field} {n : Nat} {α β : Type} {d : Kd α} {G : α → Prop} (ht : P.underlying T = some (.struct fs.toArray)) (hn : P.cellsOf T = n) (f : β → α) (g : α → β) (hg : ∀ y, f (g y) = y)
    (h : OpensF N P fs 0 n d G) : Opens (N + 1) P T (Kd.iso d f) (fun y => G (f y)) := by
  intro H enc W base spare held fuel cs x hN hx hw
  obtain ⟨xs, m, rfl, rfl, hl, hlx, hf⟩ := DataW.trod_struct ht hx
  obtain ⟨y, hy, gy⟩ := h H enc W base spare held m cs xs (by omega) (by simpa using hlx) (fun i f0 hi => hf i f0 (by simpa using hi)) (fun k hk => hw k (by
    simp only [DataW.weights, ht]
    exact hk))
  refine ⟨g y, ?_, ?_⟩
  · show d.K W (f (g y)) cs
    rw [hg]
    rw [← hn, ← hl, List.drop_zero, List.take_length] at hy
    exact hy
  · show G (f (g y))
    rw [hg]
    exact gy
theorem Opens.imp {N : Nat} {P : Program} {T : TypeId} {α : Type} {d : Kd α} {G G' : α → Prop} (h : Opens N P T d G) (hi : ∀ y, G y → G' y) : Opens N P T d G' := by
  intro H enc W base spare held fuel cs x hN hx hw
  obtain ⟨y, hy, gy⟩ := h H enc W base spare held fuel cs x hN hx hw
  exact ⟨y, hy, hi y gy⟩
theorem opens_upto {P : Program} {T : TypeId} {α : Type} {F : Kd α → Kd α} {sz : Nat} {E : List Nat} {G : α → Prop} (step : ∀ N (d : Kd α), d.sz = sz → Opens N P T d G → Opens (N + 1) P T (F d) G) (hs : ∀ n, (Kd.upto F sz E n).sz = sz) : ∀ N, Opens N P T (Kd.upto F sz E N) G
  | 0 => fun H enc W base spare held fuel cs x hN h _ => by
    obtain rfl : fuel = 0 := by omega
    simp [DataW.trod] at h
  | N + 1 => step N _ (hs N) (opens_upto step hs N)
theorem opens_fix {P : Program} {T : TypeId} {α : Type} {F : Kd α → Kd α} {sz : Nat} {E : List Nat} {G : α → Prop} {hs : ∀ n, (Kd.upto F sz E n).sz = sz} {hE : ∀ n q, q ∈ (Kd.upto F sz E n).E → q ∈ E} (step : ∀ N (d : Kd α), d.sz = sz → Opens N P T d G → Opens (N + 1) P T (F d) G) (N : Nat) : Opens N P T (Kd.fix F sz E hs hE) G := by
  intro H enc W base spare held fuel cs x hN hx hw
  obtain ⟨y, hy, gy⟩ := opens_upto step hs N H enc W base spare held fuel cs x hN hx hw
  exact ⟨y, ⟨N, hy⟩, gy⟩
theorem bytes_le {a b n r : Nat} (e : a = b) (h : n * a ≤ r) : n * b ≤ r := e ▸ h
/-- An argument. -/
theorem opened {P : Program} {T : TypeId} {α : Type} {d : Kd α} {G : α → Prop} (h : ∀ N, Opens N P T d G) {H : Type} {enc : TypeId × Value → H} {W : World} {base : Nat} {spare : Nat → Bool} {held : Bool} {v : Value} {x : DataW H} {p : List MemPlace} (ht : DataW.Trod enc P W base spare held T v x p)
    {ts : List TypeId} {ds : List (DataW H)} {j : Nat} (hz : (DataW.weightsEach P ts ds).all (· ≤ reachBytes) = true) (hj : ts[j]? = some T) (hd : ds[j]? = some x) : ∃ y, d.K W y v.cells.toList ∧ G y := by
  obtain ⟨fuel, hf⟩ := ht
  exact h fuel H enc W base spare held fuel _ _ (Nat.le_refl _) hf (fun n hn => by
    have := List.all_eq_true.1 hz n (DataW.weights_mem_each hj hd n hn)
    simpa using this)
end Go.Proofs.YtjjnokodkeekhaaDoor.Op

namespace Go.Proofs.YtjjnokodkeekhaaDoor.Ki
open Go.RowKit Go.Proofs.YtjjnokodkeekhaaDoorW.PrintWords Go.Proofs.YtjjnokodkeekhaaDoor.Op Go.Proofs.YtjjnokodkeekhaaDoor.P
set_option linter.unusedVariables false
inductive G24 : S24 → Prop
  | mk (s : S24) : (Lit.int .i64 s.f0).wf = true → (Lit.int .i64 s.f1).wf = true → (∀ x ∈ s.f2, G24 x) → s.f2.length * 40 ≤ reachBytes → G24 s
theorem op24 (N : Nat) : Opens N Tryd.prog 24 k24 G24 := by
  refine opens_fix (fun N d hz hd => ?_) N
  refine (opens_struct Tryd.underlying24 (n := 3) (by kernel_rfl) _ (fun y : Int × Int × (List (S24)) => (⟨y.1, y.2.1, y.2.2⟩ : S24)) (fun _ => rfl) (opensF_cons (a := 1) (n := 2) rfl (by kernel_rfl) (opens_int Tryd.underlying3) (opensF_cons (a := 1) (n := 1) rfl (by kernel_rfl) (opens_int Tryd.underlying3) (opensF_one (n := 1) rfl (by kernel_rfl) ((opens_slice Tryd.underlying22 (hz ▸ by kernel_rfl) hd).mono (Nat.le_succ N)))))).imp (fun s h => ?_)
  exact G24.mk s (h.1) (h.2.1) (h.2.2.1) (bytes_le (by kernel_rfl : Tryd.prog.bytesOf 24 = 40) h.2.2.2)
end Go.Proofs.YtjjnokodkeekhaaDoor.Ki

namespace Go.Proofs.YtjjnokodkeekhaaDoor.X
open Go.RowKit Go.Proofs.YtjjnokodkeekhaaDoorW.PrintWords Go.Proofs.YtjjnokodkeekhaaDoorW.PrintMore
open Go.Proofs.YtjjnokodkeekhaaDoor.P Go.Proofs.YtjjnokodkeekhaaDoor.Evx
set_option linter.unusedVariables false
set_option linter.unusedSimpArgs false
theorem Timed_some (op : Int) : parryref22_Timed.f op = some (timedS op) := by
  unfold parryref22_Timed.f timedS
  repeat' split
  all_goals (congr 1; rw [Bool.eq_iff_iff]; simp; omega)
/-- What count tells: exact where the formula fits, more than the room where it does not. -/
def CntAt (s : S24) : Prop := ∀ (d r : Int), 1 ≤ d → d ≤ 13 → r ≤ 60 → 60 ≤ r + 60 * d → ∃ n t : Int, Ev (fun k => parryref22_count.f k s.f0 s.f1 s.f2 d r) (n, t) ∧ 1 ≤ n ∧ n ≤ 61 + 60 * (13 - d) ∧ 0 ≤ t ∧ t ≤ n ∧
  ((nS s : Int) ≤ r ∧ d + hS s ≤ 13 → n = nS s ∧ t = tnS s) ∧ (¬ ((nS s : Int) ≤ r ∧ d + hS s ≤ 13) → r < n)
theorem nS_pos (s : S24) : 1 ≤ nS s := by cases s; simp only [nS]; omega
theorem count_l (kids : List S24) (d r : Int) (hd1 : 1 ≤ d) (hd : d ≤ 12) (hr : r ≤ 60) (hr2 : 60 ≤ r + 60 * d) (ih : ∀ k ∈ kids, CntAt k) :
    ∀ (e j : Nat) (n t : Int), j + e = kids.length → (j : Int) < n → n ≤ 60 → 0 ≤ t → t ≤ n → ∃ n' t' : Int, Ev (fun k => parryref22_count.l0 k d r n t kids (kids.length : Int) j) (n', t') ∧ 1 ≤ n' ∧ n' ≤ 61 + 60 * (13 - d) ∧ 0 ≤ t' ∧ t' ≤ n' ∧
      (n + nL (kids.drop j) ≤ r ∧ d + 1 + hL (kids.drop j) ≤ 13 → n' = n + nL (kids.drop j) ∧ t' = t + tnL (kids.drop j)) ∧ (¬ (n + nL (kids.drop j) ≤ r ∧ d + 1 + hL (kids.drop j) ≤ 13) → r < n')
  | 0, j, n, t, hj, h1, h2, h3, h4 => by
    refine ⟨n, t, ev_step (fun k => rfl) (ev_neg (by omega) (ev_some _)), by omega, by omega, h3, h4, ?_, ?_⟩
    · rw [List.drop_eq_nil_of_le (by omega)]; simp [nL, tnL]
    · rw [List.drop_eq_nil_of_le (by omega)]; simp only [nL, hL]; omega
  | e + 1, j, n, t, hj, h1, h2, h3, h4 => by
    have hlt : j < kids.length := by omega
    obtain ⟨x, y, hx, x1, x2, y1, y2, q1, q2⟩ := ih _ (List.getElem_mem hlt) (d + 1) (r - n) (by omega) (by omega) (by omega) (by omega)
    have hdr := List.drop_eq_getElem_cons hlt
    rw [hdr]
    simp only [nL, tnL, hL]
    have hk1 : 1 ≤ nS (kids[j]'hlt) := by cases (kids[j]'hlt); simp only [nS]; omega
    by_cases hc : n + x > 60
    · refine ⟨n + x, t + y, ev_step (fun k => rfl) (ev_pos (by omega) (ev_pos (by omega) (ev_pos (by omega) ?_))), by omega, by omega, by omega, by omega, ?_, ?_⟩
      · rw [rdT_nat kids j hlt, w64 (by omega) (by omega), w64 (by omega) (by omega)]
        refine ev_bind hx ?_
        simp only
        rw [w64 (by omega) (by omega), w64 (by omega) (by omega)]
        exact ev_pos hc (ev_some _)
      · intro hq
        have := q1 (by omega)
        omega
      · intro _
        omega
    · obtain ⟨n', t', hn', a1, a2, a3, a4, b1, b2⟩ := count_l kids d r hd1 hd hr hr2 ih e (j + 1) (n + x) (t + y) (by omega) (by omega) (by omega) (by omega) (by omega)
      refine ⟨n', t', ev_step (fun k => rfl) (ev_pos (by omega) (ev_pos (by omega) (ev_pos (by omega) ?_))), a1, a2, a3, a4, ?_, ?_⟩
      · rw [rdT_nat kids j hlt, w64 (by omega) (by omega), w64 (by omega) (by omega)]
        refine ev_bind hx ?_
        simp only
        rw [w64 (by omega) (by omega), w64 (by omega) (by omega), w64 (by omega) (by omega)]
        refine ev_neg hc ?_
        exact_mod_cast hn'
      · intro hq
        have := q1 (by omega)
        have := b1 (by omega)
        omega
      · intro hq
        by_cases hq2 : (nS (kids[j]'hlt) : Int) ≤ r - n ∧ d + 1 + hS (kids[j]'hlt) ≤ 13
        · have := q1 hq2
          exact b2 (by omega)
        · have := q2 hq2
          exact b2 (by omega)
mutual
theorem count_ev : ∀ s : S24, CntAt s
  | ⟨op, m, kids⟩ => by
    intro d r h1 h2 h3 h4
    have ih := count_evL kids
    by_cases hd : d > 12
    · refine ⟨61, 0, ev_step (fun k => rfl) (ev_pos hd (ev_step (f := fun _ => some (61, 0)) (fun k => rfl) (ev_some _))), by omega, by omega, by omega, by omega, ?_, fun _ => by omega⟩
      intro hq
      simp only [hS] at hq
      omega
    · by_cases hr : r < 1
      · refine ⟨61, 0, ev_step (fun k => rfl) (ev_neg hd (ev_step (fun k => rfl) (ev_pos (decide_eq_true hr) (ev_some _)))), by omega, by omega, by omega, by omega, ?_, fun _ => by omega⟩
        intro hq
        have := nS_pos ⟨op, m, kids⟩
        omega
      · have hts : 0 ≤ (tS op : Int) ∧ (tS op : Int) ≤ 1 := by unfold tS; split <;> simp
        obtain ⟨n', t', hn', a1, a2, a3, a4, b1, b2⟩ := count_l kids d r h1 (by omega) h3 h4 ih kids.length 0 1 (tS op) (by omega) (by omega) (by omega) hts.1 hts.2
        refine ⟨n', t', ev_step (fun k => rfl) (ev_neg hd (ev_step (fun k => rfl) (ev_neg (by rw [decide_eq_false hr]; simp) ?_))), a1, a2, a3, a4, ?_, ?_⟩
        · refine ev_bindv (Timed_some op) (ev_bool (fun c => ?_) (fun c => ?_))
          · have e1 : (tS op : Int) = 1 := by unfold tS; rw [if_pos c]; rfl
            rw [e1] at hn'
            exact ev_step (fun k => rfl) hn'
          · have e1 : (tS op : Int) = 0 := by unfold tS; rw [if_neg (by rw [c]; simp)]; rfl
            rw [e1] at hn'
            exact ev_step (fun k => rfl) hn'
        · intro hq
          simp only [nS, hS, tnS] at hq ⊢
          have := b1 (by rw [List.drop_zero]; omega)
          rw [List.drop_zero] at this
          omega
        · intro hq
          simp only [nS, hS] at hq
          exact b2 (by rw [List.drop_zero]; omega)
theorem count_evL : ∀ l : List S24, ∀ k ∈ l, CntAt k
  | [], k, hk => by cases hk
  | a :: r, k, hk => by
    rcases List.mem_cons.1 hk with e | e
    · rw [e]; exact count_ev a
    · exact count_evL r k e
end
theorem rMay_ev (s : S24) : Ev (fun n => parryref22_May.f n s.f0 s.f1 s.f2) (mayF s) := by
  obtain ⟨n, t, hx, a1, a2, a3, a4, q1, q2⟩ := count_ev s 1 60 (by omega) (by omega) (by omega) (by omega)
  rw [may_eq]
  unfold parryref22_May.f
  refine ev_bind hx ?_
  have h0 : ∀ b : Bool, b = !decide (nS s ≤ 60 ∧ hS s ≤ 12 ∧ tnS s ≤ 8) → Ev (fun n => parryref22_May.j0 n b s.f0 s.f1 s.f2) (if nS s ≤ 60 ∧ hS s ≤ 12 ∧ tnS s ≤ 8 then (if soundS s = true then 0 else 1) else 7) := by
    intro b hb
    refine ev_step (fun k => rfl) (ev_bool (fun h => ?_) (fun h => ?_))
    · rw [h] at hb
      have hq : ¬ (nS s ≤ 60 ∧ hS s ≤ 12 ∧ tnS s ≤ 8) := of_decide_eq_false (bnot hb.symm)
      exact ev_eq (ev_some _) (by rw [if_neg hq])
    · rw [h] at hb
      have hq : nS s ≤ 60 ∧ hS s ≤ 12 ∧ tnS s ≤ 8 := by simpa using hb.symm
      rw [if_pos hq]
      have hso : parryref22_sound.f s.f0 s.f1 s.f2 = some (soundS s) := by cases s; rfl
      exact ev_bindv hso (ev_ite (fun c => by rw [if_pos c]; exact ev_some _) (fun c => by rw [if_neg c]; exact ev_some _))
  refine ev_ite (fun c => h0 _ ?_) (fun c => h0 _ ?_)
  · have hq : ¬ (nS s ≤ 60 ∧ hS s ≤ 12 ∧ tnS s ≤ 8) := fun h => by have := q1 (by omega); simp only at c; omega
    rw [decide_eq_false hq]; rfl
  · have hq : (nS s : Int) ≤ 60 ∧ 1 + (hS s : Int) ≤ 13 := by
      apply Classical.byContradiction
      intro h
      have := q2 h
      simp only at c
      omega
    have := q1 hq
    simp only
    by_cases ht : t > 8
    · rw [decide_eq_true ht, decide_eq_false (by omega)]; rfl
    · rw [decide_eq_false ht, decide_eq_true (by omega)]; rfl
end Go.Proofs.YtjjnokodkeekhaaDoor.X

namespace Go.Proofs.YtjjnokodkeekhaaDoor.X
open Go.RowKit Go.Proofs.YtjjnokodkeekhaaDoorW.PrintWords Go.Proofs.YtjjnokodkeekhaaDoorW.PrintMore
open Go.Proofs.YtjjnokodkeekhaaDoor.P Go.Proofs.YtjjnokodkeekhaaDoor.Evx
set_option linter.unusedVariables false
set_option linter.unusedSimpArgs false
/-- What weigh tells is a number from 1 to 1000. -/
def WeiAt (s : S24) : Prop := ∀ (d r : Int), 0 ≤ d → d ≤ 41 → 0 ≤ r → r ≤ 500 → ∃ n : Int, Ev (fun k => parrylaw22_weigh.f k s.f0 s.f1 s.f2 d r) n ∧ 1 ≤ n ∧ n ≤ 1000
theorem weigh_l (kids : List S24) (d r : Int) (hd0 : 0 ≤ d) (hd : d ≤ 40) (hr0 : 1 ≤ r) (hr : r ≤ 500) (ih : ∀ k ∈ kids, WeiAt k) :
    ∀ (e j : Nat) (n : Int), j + e = kids.length → (j : Int) < n → n ≤ r → ∃ n' : Int, Ev (fun k => parrylaw22_weigh.l0 k d r n kids (kids.length : Int) j) n' ∧ 1 ≤ n' ∧ n' ≤ 1000
  | 0, j, n, hj, h1, h2 => ⟨n, ev_step (fun k => rfl) (ev_neg (by omega) (ev_some _)), by omega, by omega⟩
  | e + 1, j, n, hj, h1, h2 => by
    have hlt : j < kids.length := by omega
    obtain ⟨x, hx, x1, x2⟩ := ih _ (List.getElem_mem hlt) (d + 1) (r - n) (by omega) (by omega) (by omega) (by omega)
    by_cases hc : n + x > r
    · refine ⟨1000, ev_step (fun k => rfl) (ev_pos (by omega) (ev_pos (by omega) (ev_pos (by omega) ?_))), by omega, by omega⟩
      rw [rdT_nat kids j hlt, w64 (x := d + 1) (by omega) (by omega), w64 (x := r - n) (by omega) (by omega)]
      refine ev_bind hx ?_
      rw [w64 (by omega) (by omega)]
      exact ev_pos hc (ev_some _)
    · obtain ⟨n', hn', a1, a2⟩ := weigh_l kids d r hd0 hd hr0 hr ih e (j + 1) (n + x) (by omega) (by omega) (by omega)
      refine ⟨n', ev_step (fun k => rfl) (ev_pos (by omega) (ev_pos (by omega) (ev_pos (by omega) ?_))), a1, a2⟩
      rw [rdT_nat kids j hlt, w64 (x := d + 1) (by omega) (by omega), w64 (x := r - n) (by omega) (by omega)]
      refine ev_bind hx ?_
      rw [w64 (x := n + x) (by omega) (by omega), w64 (x := (j : Int) + 1) (by omega) (by omega)]
      refine ev_neg hc ?_
      exact_mod_cast hn'
mutual
theorem weigh_ev : ∀ s : S24, WeiAt s
  | ⟨op, m, kids⟩ => by
    intro d r h1 h2 h3 h4
    have ih := weigh_evL kids
    by_cases hd : d > 40
    · exact ⟨1000, ev_step (fun k => rfl) (ev_pos hd (ev_step (f := fun _ => some 1000) (fun k => rfl) (ev_some _))), by omega, by omega⟩
    · by_cases hr : r < 1
      · exact ⟨1000, ev_step (fun k => rfl) (ev_neg hd (ev_step (fun k => rfl) (ev_pos (decide_eq_true hr) (ev_some _)))), by omega, by omega⟩
      · obtain ⟨n', hn', a1, a2⟩ := weigh_l kids d r h1 (by omega) (by omega) h4 ih kids.length 0 1 (by omega) (by omega) (by omega)
        exact ⟨n', ev_step (fun k => rfl) (ev_neg hd (ev_step (fun k => rfl) (ev_neg (by rw [decide_eq_false hr]; simp) hn'))), a1, a2⟩
theorem weigh_evL : ∀ l : List S24, ∀ k ∈ l, WeiAt k
  | [], k, hk => by cases hk
  | a :: r, k, hk => by
    rcases List.mem_cons.1 hk with e | e
    · rw [e]; exact weigh_ev a
    · exact weigh_evL r k e
end
theorem heavy_ev (s : S24) : ∃ n : Int, Ev (fun k => parrylaw22_Heavy.f k s.f0 s.f1 s.f2) n ∧ 0 ≤ n ∧ n ≤ 1000 := by
  obtain ⟨n, hn, a1, a2⟩ := weigh_ev s 0 500 (by omega) (by omega) (by omega) (by omega)
  unfold parrylaw22_Heavy.f
  by_cases h : n > 300
  · exact ⟨n, ev_bind hn (ev_pos h (ev_some _)), by omega, by omega⟩
  · exact ⟨0, ev_bind hn (ev_neg h (ev_some _)), by omega, by omega⟩
end Go.Proofs.YtjjnokodkeekhaaDoor.X

namespace Go.Proofs.YtjjnokodkeekhaaDoor.X
open Go.RowKit Go.Proofs.YtjjnokodkeekhaaDoorW.PrintWords Go.Proofs.YtjjnokodkeekhaaDoorW.PrintMore
open Go.Proofs.YtjjnokodkeekhaaDoor.P Go.Proofs.YtjjnokodkeekhaaDoor.Evx
set_option linter.unusedVariables false
set_option linter.unusedSimpArgs false
theorem awake_some : parrylaw22_awake.f = some true := rfl
def NotS (s : S24) : S24 := if s.f0 = 3 ∧ s.f2.length = 1 then s.f2.getD 0 z24 else ⟨3, 0, [s]⟩
theorem not_node {s : S24} (h : soundS s = true) : soundS ⟨3, 0, [s]⟩ = true := by
  show (decide (0 ≤ kidsS 3) && (decide (((1 : Nat) : Int) = kidsS 3) && (decide ((0 : Int) ≤ 0) && (decide ((0 : Int) ≤ mostS 3) && (soundS s && true))))) = true
  rw [h]
  decide
theorem notS_sound {s : S24} (h : soundS s = true) : soundS (NotS s) = true := by
  unfold NotS
  split
  · rename_i c
    have hl : 0 < s.f2.length := by omega
    have := sound_kid h 0 hl
    rwa [List.getD_eq_getElem?_getD, List.getElem?_eq_getElem hl]
  · exact not_node h
theorem not_ev {s : S24} (h : soundS s = true) : Ev (fun n => formula_Not.f n s.f0 s.f1 s.f2) ((NotS s).f0, (NotS s).f1, (NotS s).f2) := by
  have hj : ∀ b : Bool, b = decide (s.f0 = 3 ∧ s.f2.length = 1) → Ev (fun n => formula_Not.j0 n b s.f0 s.f1 s.f2) ((NotS s).f0, (NotS s).f1, (NotS s).f2) := by
    intro b hb
    refine ev_step (fun k => rfl) (ev_bool (fun c => ?_) (fun c => ?_))
    · rw [c] at hb
      have h1 := of_decide_eq_true hb.symm
      have hl : 0 < s.f2.length := by omega
      have e : NotS s = s.f2[0]'hl := by
        unfold NotS
        rw [if_pos h1, List.getD_eq_getElem?_getD, List.getElem?_eq_getElem hl]; rfl
      have er : rd_T24 s.f2 0 = s.f2[0]'hl := rdT_nat s.f2 0 hl
      refine ev_pos (by omega) ?_
      rw [er, e]
      exact ev_bind (copied_ev _ (sound_kid h 0 hl)) (ev_some _)
    · rw [c] at hb
      have h1 := of_decide_eq_false hb.symm
      have e : NotS s = ⟨3, 0, [s]⟩ := by unfold NotS; rw [if_neg h1]
      rw [e]
      exact ev_bind (copied_ev s h) (ev_eq (ev_some _) (by cases s; rfl))
  unfold formula_Not.f
  by_cases c : s.f0 = 3
  · refine ev_pos c (hj _ ?_)
    rw [Bool.eq_iff_iff]
    simp [c]
    omega
  · exact ev_neg c (hj _ (by simp [c]))
theorem not_not {s : S24} (h : s.f0 ≠ 3) : NotS (NotS s) = s := by
  have e : NotS s = ⟨3, 0, [s]⟩ := by unfold NotS; rw [if_neg (fun c => h c.1)]
  rw [e]
  rfl
theorem may_light {s : S24} (h : mayF s = 0) : lightS s = true := by
  have := may_zero h
  exact (light_iff s).2 ⟨this.1, this.2.1⟩
theorem Same_some {s t : S24} (h : mayF s = 0) (k : mayF t = 0) : formula_Same.f s.f0 s.f1 s.f2 t.f0 t.f1 t.f2 = some (sameS s t) := by
  have h1 : formula_light.f s.f0 s.f1 s.f2 = some true := by unfold formula_light.f; rw [← may_light h]; cases s; rfl
  have h2 : formula_light.f t.f0 t.f1 t.f2 = some true := by unfold formula_light.f; rw [← may_light k]; cases t; rfl
  unfold formula_Same.f
  rw [h1, h2]
  cases s; cases t; rfl
theorem text_eq {s t : S24} (h : mayF s = 0) (k : mayF t = 0) : ((TextS s).toList == (TextS t).toList) = sameS s t := by
  unfold TextS
  rw [if_pos h, if_pos k, Bool.eq_iff_iff, same_iff, beq_iff_eq, ByteArray.toList_eq, ByteArray.toList_eq]
  constructor
  · intro e
    exact text_same (may_zero h).2.2.2 (may_zero k).2.2.2 (by simpa [textB] using e)
  · intro e; rw [e]
end Go.Proofs.YtjjnokodkeekhaaDoor.X

namespace Go.Proofs.YtjjnokodkeekhaaDoor.Pu
open Go.RowKit Go.Proofs.YtjjnokodkeekhaaDoorW.PrintWords Go.Proofs.YtjjnokodkeekhaaDoorW.PrintMore
open Go.Proofs.YtjjnokodkeekhaaDoor.P Go.Proofs.YtjjnokodkeekhaaDoor.Evx Go.Proofs.YtjjnokodkeekhaaDoor.X Go.Proofs.YtjjnokodkeekhaaDoor.Ki
set_option linter.unusedVariables false
set_option linter.unusedSimpArgs false
theorem FormulaTexts_pure (s0 : S24) (g0 : G24 s0) (s1 : S24) (g1 : G24 s1) : ∃ k, parrylaw22_FormulaTexts.f k s0.f0 s0.f1 s0.f2 s1.f0 s1.f1 s1.f2 = some true := by
  refine Ev.rounds (?_ : Ev (fun k => parrylaw22_FormulaTexts.f k s0.f0 s0.f1 s0.f2 s1.f0 s1.f1 s1.f2) true)
  unfold parrylaw22_FormulaTexts.f
  obtain ⟨n, hn, n0, n1⟩ := heavy_ev s0
  obtain ⟨m, hm, m0, m1⟩ := heavy_ev s1
  refine ev_bind hn (ev_bind hm (ev_ite (fun _ => ev_bindv awake_some (ev_some _)) (fun _ => ?_)))
  refine ev_bind (rMay_ev s0) (ev_ite (fun h0 => ?_) (fun _ => ev_bindv awake_some (ev_some _)))
  refine ev_bind (rMay_ev s1) (ev_ite (fun h1 => ?_) (fun _ => ev_bindv awake_some (ev_some _)))
  have hs := (may_zero h0).2.2.2
  refine ev_bind (not_ev hs) ?_
  refine ev_bind (not_ev (notS_sound hs)) ?_
  refine ev_bindv (Text_some s0) (ev_bindv (Text_some s1) (ev_bindv (Same_some h0 h1) ?_))
  rw [text_eq h0 h1]
  refine ev_pos (beq_self_eq_true _) (ev_ite (fun _ => ev_bindv awake_some (ev_some _)) (fun h3 => ?_))
  rw [not_not h3]
  refine ev_bindv (Same_some h0 h0) ?_
  rw [same_refl s0]
  exact ev_tt (ev_bindv awake_some (ev_some _))
end Go.Proofs.YtjjnokodkeekhaaDoor.Pu

