/- A part of the claim DomForms. -/
import Derived.ChangeArms
import Derived.SizedLaws
import Derived.WideShapes
import Derived.Test.YtofmfnbiondplaaQDomFormsa
import Derived.Test.YtofmfnbiondplaaQDomFormsb
import Derived.Test.YtofmfnbiondplaaQDomFormsc
import Derived.Test.YtofmfnbiondplaaQDomFormsd
import Derived.Test.YtofmfnbiondplaaQDomFormse
import Derived.Test.YtofmfnbiondplaaQDomFormsf
namespace Go.Proofs.Ytofmfnbiondplaa.Op
open Go.RowKit Go.Proofs.YtofmfnbiondplaaW.PrintWords

def Opens (N : Nat) (P : Program) (T : TypeId) {α : Type} (d : Kd α) (G : α → Prop) : Prop :=
  ∀ (H : Type) (enc : TypeId × Value → H) (W : World) (base : Nat) (spare : Nat → Bool) (held : Bool) (fuel : Nat) (cs : List Value) (x : DataW H × List MemPlace),
    fuel ≤ N → DataW.trod enc P W base spare held fuel T cs = some x → (∀ n ∈ x.1.weights P T, n ≤ reachBytes) → ∃ y, d.K W y cs ∧ G y

theorem Opens.mono {N M : Nat} {P : Program} {T : TypeId} {α : Type} {d : Kd α} {G : α → Prop} (h : Opens N P T d G) (hm : M ≤ N) : Opens M P T d G :=
  fun H enc W base spare held fuel cs x hf => h H enc W base spare held fuel cs x (Nat.le_trans hf hm)

theorem opens_int {N : Nat} {P : Program} {T : TypeId} {k : IntKind} (ht : P.underlying T = some (.int k)) : Opens N P T (Kd.int k) (fun n => (Lit.int k n).wf = true) := by
  intro H enc W base spare held fuel cs x _ h _
  obtain ⟨n, rfl, _, hw⟩ := DataW.trod_int ht h
  exact ⟨n, rfl, hw⟩
theorem opens_bool {N : Nat} {P : Program} {T : TypeId} (ht : P.underlying T = some .bool) : Opens N P T Kd.bool (fun _ => True) := by
  intro H enc W base spare held fuel cs x _ h _
  obtain ⟨n, rfl, _⟩ := DataW.trod_bool ht h
  exact ⟨n, rfl, trivial⟩
theorem opens_string {N : Nat} {P : Program} {T : TypeId} (ht : P.underlying T = some .string) : Opens N P T Kd.string (fun s => s.size ≤ reachBytes) := by
  intro H enc W base spare held fuel cs x _ h hw
  obtain ⟨s, rfl, rfl, _⟩ := DataW.trod_string ht h
  refine ⟨s, rfl, hw _ ?_⟩
  simp [DataW.weights]
theorem weightsAll_mem {H : Type} {P : Program} {e : TypeId} : ∀ {l : List (DataW H)} {i : Nat} {d : DataW H}, l[i]? = some d → ∀ n ∈ d.weights P e, n ∈ DataW.weightsAll P e l
  | [], i, d, h => by simp at h
  | a :: r, 0, d, h => fun n hn => by
    simp at h
    subst h
    simp only [DataW.weightsAll, List.mem_append]
    exact .inl hn
  | a :: r, i + 1, d, h => fun n hn => by
    simp only [DataW.weightsAll, List.mem_append]
    exact .inr (weightsAll_mem (by simpa using h) n hn)
theorem choose_list {α : Type} {p : Nat → α → Prop} : ∀ n, (∀ i, i < n → ∃ x, p i x) → ∃ l : List α, l.length = n ∧ ∀ i x, l[i]? = some x → p i x
  | 0, _ => ⟨[], rfl, fun i x h => by simp at h⟩
  | n + 1, h => by
    obtain ⟨l, hl, hp⟩ := choose_list n (fun i hi => h i (by omega))
    obtain ⟨x, hx⟩ := h n (by omega)
    refine ⟨l ++ [x], by simp [hl], fun i y hy => ?_⟩
    rcases Nat.lt_or_ge i l.length with hi | hi
    · rw [List.getElem?_append_left hi] at hy
      exact hp i y hy
    · rw [List.getElem?_append_right hi] at hy
      have hi0 : i - l.length = 0 := by
        rcases Nat.eq_zero_or_pos (i - l.length) with h0 | h0
        · exact h0
        · rw [List.getElem?_eq_none (by simp; omega)] at hy
          cases hy
      rw [hi0] at hy
      simp at hy
      subst hy
      rw [show i = n by omega]
      exact hx
theorem opens_slice {N : Nat} {P : Program} {T e : TypeId} {α : Type} {d : Kd α} {G : α → Prop} (ht : P.underlying T = some (.slice e)) (hsz : P.cellsOf e = d.sz) (hd : Opens N P e d G) :
    Opens (N + 1) P T (Kd.slice e d) (fun xs => (∀ x ∈ xs, G x) ∧ xs.length * P.bytesOf e ≤ reachBytes) := by
  intro H enc W base spare held fuel cs x hN h hw
  rcases DataW.trod_slice ht h with ⟨rfl, rfl⟩ | ⟨a, len, cap, elems, rest, n, rfl, rfl, rfl, hb, hl, hm, hlen, hel, _, _⟩
  · exact ⟨[], ⟨none, 0, rfl, by simp, ⟨rfl, by simp, fun h => absurd h (Nat.lt_irrefl 0)⟩⟩, fun x hx => by simp at hx, by simp⟩
  · have hw2 : ∀ m ∈ (DataW.slice (elems.map (·.1)) (rest.map (·.1)) : DataW H).weights P T, m ≤ reachBytes := hw
    simp only [DataW.weights, ht, List.mem_cons, List.mem_append] at hw2
    have one : ∀ i, i < len → ∃ y : α, G y ∧ ∃ c : List Value, c.length = d.sz ∧ d.K W y c ∧ ∀ j u, c[j]? = some u → W.cell? (a.add (i * d.sz + j)) = some u := by
      intro i hi
      have hi2 := hel i hi
      rw [List.getElem?_eq_getElem (by omega)] at hi2
      obtain ⟨c, h1, h2⟩ := Option.bind_eq_some_iff.1 hi2
      obtain ⟨y, hK, hG⟩ := hd H enc W base spare held n c _ (by omega) h2 (fun m hm2 => hw2 m (.inr (.inl (weightsAll_mem (i := i) (by simp [List.getElem?_eq_getElem (show i < elems.length by omega)]) m hm2))))
      obtain ⟨_, h3, h4⟩ := World.cells?_some h1
      refine ⟨y, hG, c, by rw [h3, hsz], hK, fun j u hu => ?_⟩
      have hj : j < c.length := (List.getElem?_eq_some_iff.1 hu).1
      have h5 := h4 j (by omega)
      rw [hu] at h5
      have e1 : (a.add (i * P.cellsOf e)).add j = a.add (i * d.sz + j) := by
        rw [hsz]
        unfold Addr.add
        by_cases hi0 : i * d.sz = 0 <;> by_cases hj0 : j = 0 <;> simp [hi0, hj0, Nat.add_assoc]
      rw [← e1]
      exact h5
    obtain ⟨l, hl2, hp⟩ := choose_list len one
    refine ⟨l, ⟨some a, cap, by rw [hl2], by omega, ⟨rfl, by unfold maxLen at hm; omega, fun _ => ⟨a, rfl, fun j p hj => (hp j p hj).2⟩⟩⟩, fun x hx => ?_, ?_⟩
    · obtain ⟨i, hi⟩ := List.getElem?_of_mem hx
      exact (hp i x hi).1
    · have h6 := hw2 _ (.inl rfl)
      simp only [List.length_map] at h6
      rw [hl2]
      exact Nat.le_trans (Nat.mul_le_mul_right _ (by omega)) h6

/-- Fields that lie side by side from cell o on, n cells in all. -/
def OpensF (N : Nat) (P : Program) (fs : List Field) (o n : Nat) {α : Type} (d : Kd α) (G : α → Prop) : Prop :=
  ∀ (H : Type) (enc : TypeId × Value → H) (W : World) (base : Nat) (spare : Nat → Bool) (held : Bool) (fuel : Nat) (cs : List Value) (xs : List (DataW H × List MemPlace)),
    fuel ≤ N → xs.length = fs.length → (∀ (i : Nat) (f : Field), fs[i]? = some f → DataW.trod enc P W base spare held fuel f.type ((cs.drop f.offset).take (P.cellsOf f.type)) = xs[i]?) →
    (∀ m ∈ DataW.weightsEach P (fs.map (·.type)) (xs.map (·.1)), m ≤ reachBytes) → ∃ y, d.K W y ((cs.drop o).take n) ∧ G y
theorem opensF_one {N : Nat} {P : Program} {f : Field} {o n : Nat} {α : Type} {d : Kd α} {G : α → Prop} (ho : f.offset = o) (hn : P.cellsOf f.type = n) (h : Opens N P f.type d G) : OpensF N P [f] o n d G := by
  intro H enc W base spare held fuel cs xs hN hl hx hw
  obtain ⟨x, rfl⟩ : ∃ x, xs = [x] := by
    match xs, hl with
    | [x], _ => exact ⟨x, rfl⟩
  have h1 := hx 0 f rfl
  rw [ho, hn] at h1
  exact h H enc W base spare held fuel _ x hN h1 (fun m hm => hw m (by simpa [DataW.weightsEach] using hm))
theorem opensF_cons {N : Nat} {P : Program} {f : Field} {fs : List Field} {o a n : Nat} {α β : Type} {d : Kd α} {d' : Kd β} {G : α → Prop} {G' : β → Prop} (ho : f.offset = o) (ha : P.cellsOf f.type = a) (h : Opens N P f.type d G) (hr : OpensF N P fs (o + a) n d' G') :
    OpensF N P (f :: fs) o (a + n) (Kd.pair d d') (fun y => G y.1 ∧ G' y.2) := by
  intro H enc W base spare held fuel cs xs hN hl hx hw
  match xs, hl with
  | x :: xs, hl =>
    have h1 := hx 0 f rfl
    rw [ho, ha] at h1
    simp only [List.map_cons, DataW.weightsEach, List.mem_append] at hw
    obtain ⟨y, hy, gy⟩ := h H enc W base spare held fuel _ x hN h1 (fun m hm => hw m (.inl hm))
    obtain ⟨z, hz, gz⟩ := hr H enc W base spare held fuel cs xs hN (by simpa using hl) (fun i g hg => by simpa using hx (i + 1) g (by simpa using hg)) (fun m hm => hw m (.inr hm))
    refine ⟨(y, z), ⟨_, _, ?_, hy, hz⟩, gy, gz⟩
    rw [List.take_add, List.drop_drop]
theorem opens_struct {N : Nat} {P : Program} {T : TypeId} {fs : List Field} {n : Nat} {α β : Type} {d : Kd α} {G : α → Prop} (ht : P.underlying T = some (.struct fs.toArray)) (hn : P.cellsOf T = n) (f : β → α) (g : α → β) (hg : ∀ y, f (g y) = y)
    (h : OpensF N P fs 0 n d G) : Opens (N + 1) P T (Kd.iso d f) (fun y => G (f y)) := by
  intro H enc W base spare held fuel cs x hN hx hw
  obtain ⟨xs, m, rfl, rfl, hl, hlx, hf⟩ := DataW.trod_struct ht hx
  obtain ⟨y, hy, gy⟩ := h H enc W base spare held m cs xs (by omega) (by simpa using hlx) (fun i f0 hi => hf i f0 (by simpa using hi)) (fun k hk => hw k (by
    simp only [DataW.weights, ht]
    exact hk))
  refine ⟨g y, ?_, ?_⟩
  · show d.K W (f (g y)) cs
    rw [hg]
    rw [← hn, ← hl, List.drop_zero, List.take_length] at hy
    exact hy
  · show G (f (g y))
    rw [hg]
    exact gy
theorem Opens.imp {N : Nat} {P : Program} {T : TypeId} {α : Type} {d : Kd α} {G G' : α → Prop} (h : Opens N P T d G) (hi : ∀ y, G y → G' y) : Opens N P T d G' := by
  intro H enc W base spare held fuel cs x hN hx hw
  obtain ⟨y, hy, gy⟩ := h H enc W base spare held fuel cs x hN hx hw
  exact ⟨y, hy, hi y gy⟩
theorem bytes_le {a b n r : Nat} (e : a = b) (h : n * a ≤ r) : n * b ≤ r := e ▸ h
/-- An argument. -/
theorem opened {P : Program} {T : TypeId} {α : Type} {d : Kd α} {G : α → Prop} (h : ∀ N, Opens N P T d G) {H : Type} {enc : TypeId × Value → H} {W : World} {base : Nat} {spare : Nat → Bool} {held : Bool} {v : Value} {x : DataW H} {p : List MemPlace} (ht : DataW.Trod enc P W base spare held T v x p)
    {ts : List TypeId} {ds : List (DataW H)} {j : Nat} (hz : (DataW.weightsEach P ts ds).all (· ≤ reachBytes) = true) (hj : ts[j]? = some T) (hd : ds[j]? = some x) : ∃ y, d.K W y v.cells.toList ∧ G y := by
  obtain ⟨fuel, hf⟩ := ht
  exact h fuel H enc W base spare held fuel _ _ (Nat.le_refl _) hf (fun n hn => by
    have := List.all_eq_true.1 hz n (DataW.weights_mem_each hj hd n hn)
    simpa using this)
end Go.Proofs.Ytofmfnbiondplaa.Op

namespace Go.Proofs.Ytofmfnbiondplaa.Ki
open Go.RowKit Go.Proofs.YtofmfnbiondplaaW.PrintWords Go.Proofs.Ytofmfnbiondplaa.Op Go.Proofs.Ytofmfnbiondplaa.P
def G28 (s : S28) : Prop := s.f0.size ≤ reachBytes ∧ True ∧ (Lit.int .i64 s.f2).wf = true ∧ (Lit.int .i64 s.f3).wf = true ∧ (Lit.int .i64 s.f4).wf = true
theorem op28 (N : Nat) : Opens N Try.prog 28 k28 G28 := by
  refine Opens.mono (N := N + 1) ?_ (Nat.le_succ N)
  unfold k28
  have h0 := opens_struct (N := N) Try.underlying28 (n := 5) (by kernel_rfl) (fun x : S28 => (x.f0, x.f1, x.f2, x.f3, x.f4)) (fun y : ByteArray × Bool × Int × Int × Int => (⟨y.1, y.2.1, y.2.2.1, y.2.2.2.1, y.2.2.2.2⟩ : S28)) (fun _ => rfl) (opensF_cons (a := 1) (n := 4) rfl (by kernel_rfl) (opens_string Try.underlying9) (opensF_cons (a := 1) (n := 3) rfl (by kernel_rfl) (opens_bool Try.underlying4) (opensF_cons (a := 1) (n := 2) rfl (by kernel_rfl) (opens_int Try.underlying3) (opensF_cons (a := 1) (n := 1) rfl (by kernel_rfl) (opens_int Try.underlying3) (opensF_one (n := 1) rfl (by kernel_rfl) (opens_int Try.underlying3))))))
  exact Opens.imp h0 (fun s h => h)
def G22 (l : List (S28)) : Prop := (∀ x ∈ l, G28 x) ∧ l.length * 48 ≤ reachBytes
theorem op22 (N : Nat) : Opens N Try.prog 22 (Kd.slice 28 k28) G22 := ((opens_slice Try.underlying22 (by kernel_rfl) (op28 _)).imp (fun l h => ⟨h.1, bytes_le (by kernel_rfl : Try.prog.bytesOf 28 = 48) h.2⟩)).mono (Nat.le_succ N)
def G30 (l : List (Int)) : Prop := (∀ x ∈ l, (Lit.int .i64 x).wf = true) ∧ l.length * 8 ≤ reachBytes
theorem op30 (N : Nat) : Opens N Try.prog 30 (Kd.slice 3 (Kd.int .i64)) G30 := ((opens_slice Try.underlying30 (by kernel_rfl) (opens_int Try.underlying3)).imp (fun l h => ⟨h.1, bytes_le (by kernel_rfl : Try.prog.bytesOf 3 = 8) h.2⟩)).mono (Nat.le_succ N)
end Go.Proofs.Ytofmfnbiondplaa.Ki

namespace Go.Proofs.Ytofmfnbiondplaa.Evx
open Go.RowKit Go.Proofs.YtofmfnbiondplaaW.PrintWords
theorem w64 {x : Int} (h0 : -9223372036854775808 ≤ x) (h1 : x < 9223372036854775808) : wrap64 x = x := by unfold wrap64; omega
section
variable {α β : Type} {r : α}
theorem ev_pos {c : Prop} [Decidable c] {f g : Nat → Option α} (h : c) (k : Ev f r) : Ev (fun n => if c then f n else g n) r := Ev.congr (fun _ => if_pos h) k
theorem ev_neg {c : Prop} [Decidable c] {f g : Nat → Option α} (h : ¬ c) (k : Ev g r) : Ev (fun n => if c then f n else g n) r := Ev.congr (fun _ => if_neg h) k
theorem ev_bindv {g : Option β} {f : Nat → β → Option α} {a : β} (h : g = some a) (k : Ev (fun n => f n a) r) : Ev (fun n => g.bind (f n)) r := by subst h; exact k
theorem ev_bind {g : Nat → Option β} {f : Nat → β → Option α} {a : β} (h : Ev g a) (k : Ev (fun n => f n a) r) : Ev (fun n => (g n).bind (f n)) r := Ev.bind h k
theorem ev_some (r : α) : Ev (fun _ => some r) r := Ev.now r
theorem ev_tt {f g : Nat → Option α} (k : Ev f r) : Ev (fun n => if true = true then f n else g n) r := ev_pos rfl k
theorem ev_ff {f g : Nat → Option α} (k : Ev g r) : Ev (fun n => if false = true then f n else g n) r := ev_neg (by simp) k
/-- A test of a Bool either way. -/
theorem ev_bool {b : Bool} {f g : Nat → Option α} (h1 : b = true → Ev f r) (h2 : b = false → Ev g r) : Ev (fun n => if b = true then f n else g n) r := by
  cases b with
  | true => exact ev_tt (h1 rfl)
  | false => exact ev_ff (h2 rfl)
theorem ev_eq {f : Nat → Option α} {r' : α} (h : Ev f r') (e : r' = r) : Ev f r := e ▸ h
theorem ev_step {g f : Nat → Option α} (h : ∀ k, g (k + 1) = f k) (k : Ev f r) : Ev g r := Ev.step h k
end
theorem rd_nat (xs : List Int) (n : Nat) : rd xs (n : Int) = xs.getD n 0 := by unfold rd; rw [Int.toNat_natCast]
theorem rd_app (p : List Int) (x : Int) (r : List Int) : rd (p ++ x :: r) (p.length : Int) = x := by
  rw [rd_nat, List.getD_eq_getElem?_getD, List.getElem?_append_right (Nat.le_refl _), Nat.sub_self]; rfl
end Go.Proofs.Ytofmfnbiondplaa.Evx

namespace Go.Proofs.Ytofmfnbiondplaa.Dm
open Go.RowKit Go.Proofs.YtofmfnbiondplaaW.PrintWords Go.Proofs.YtofmfnbiondplaaW.PrintMore Go.Proofs.Ytofmfnbiondplaa.P Go.Proofs.Ytofmfnbiondplaa.X Go.Proofs.Ytofmfnbiondplaa.Evx

theorem rv_app (p : List S28) (x : S28) (r : List S28) : rd_T28 (p ++ x :: r) (p.length : Int) = x := by
  unfold rd_T28
  rw [Int.toNat_natCast, List.getD_eq_getElem?_getD, List.getElem?_append_right (Nat.le_refl _), Nat.sub_self]; rfl
def sizeS (v : S28) : Int := if v.f2 = 1 then 2 else if v.f2 = 2 ∧ -1000 ≤ v.f3 ∧ v.f3 ≤ v.f4 ∧ v.f4 ≤ 1000 then v.f4 - v.f3 + 1 else 0
theorem size_eq (v : S28) : dom_Size.f v.f0 v.f1 v.f2 v.f3 v.f4 = some (sizeS v) := by
  unfold dom_Size.f sizeS
  by_cases h1 : v.f2 = 1
  · simp [h1]
  · rw [if_neg h1, if_neg h1]
    by_cases h2 : v.f2 = 2
    · rw [if_pos h2]
      by_cases h3 : v.f3 ≥ -1000
      · rw [if_pos h3]
        by_cases h4 : v.f3 ≤ v.f4
        · rw [if_pos h4]
          by_cases h5 : v.f4 ≤ 1000
          · rw [if_pos h5, if_pos ⟨h2, h3, h4, h5⟩, w64 (x := v.f4 - v.f3) (by omega) (by omega), w64 (by omega) (by omega)]
          · rw [if_neg h5, if_neg (fun h => h5 h.2.2.2)]
        · rw [if_neg h4, if_neg (fun h => h4 h.2.2.1)]
      · rw [if_neg h3, if_neg (fun h => h3 h.2.1)]
    · rw [if_neg h2, if_neg (fun h => h2 h.1)]
theorem size_range (v : S28) : 0 ≤ sizeS v ∧ sizeS v ≤ 2001 := by unfold sizeS; split; omega; split <;> omega
def lowS (v : S28) : Int := if v.f2 = 1 then 0 else v.f3
theorem low_eq (v : S28) : dom_low.f v.f0 v.f1 v.f2 v.f3 v.f4 = some (lowS v) := by unfold dom_low.f lowS; split <;> rfl
def sortedS (v : S28) : Int := if v.f2 ≠ 1 ∧ v.f2 ≠ 2 then 4 else if (v.f2 = 1 ∧ (v.f3 ≠ 0 ∨ v.f4 ≠ 0)) ∨ (v.f2 = 2 ∧ sizeS v = 0) then 6 else 0
theorem sorted_ev (v : S28) : Ev (fun k => dom_sorted.f k v.f0 v.f1 v.f2 v.f3 v.f4) (sortedS v) := by
  unfold dom_sorted.f sortedS
  by_cases h1 : v.f2 = 1
  · have h2 : ¬ v.f2 = 2 := by omega
    rw [if_neg (fun h => h.1 h1)]
    refine ev_pos h1 (ev_step (fun k => rfl) (ev_pos h1 ?_))
    by_cases h3 : v.f3 = 0
    · refine ev_pos h3 (ev_step (fun k => rfl) ?_)
      by_cases h4 : v.f4 = 0
      · refine ev_neg (by simp [h4]) (ev_neg h2 (ev_eq (ev_some _) ?_))
        rw [if_neg]; simp [h3, h4, h2]
      · refine ev_pos (by simp [h4]) (ev_eq (ev_some _) ?_)
        rw [if_pos]; exact .inl ⟨h1, .inr h4⟩
    · refine ev_neg h3 (ev_step (fun k => rfl) (ev_eq (ev_some _) ?_))
      rw [if_pos]; exact .inl ⟨h1, .inl h3⟩
  · refine ev_neg h1 (ev_step (fun k => rfl) ?_)
    by_cases h2 : v.f2 = 2
    · rw [if_neg (fun h => h.2 h2)]
      refine ev_neg (by simp [h2]) (ev_neg h1 (ev_step (fun k => rfl) (ev_pos h2 (ev_bindv (size_eq v) ?_))))
      by_cases h3 : sizeS v = 0
      · refine ev_pos h3 (ev_eq (ev_some _) ?_)
        rw [if_pos]; exact .inr ⟨h2, h3⟩
      · refine ev_neg h3 (ev_eq (ev_some _) ?_)
        rw [if_neg]; simp [h1, h3]
    · rw [if_pos ⟨h1, h2⟩]
      exact ev_pos (by simp [h2]) (ev_some _)
/-- A variable that may be, but for its name. -/
def Fine (v : S28) : Prop := sortedS v = 0
theorem fine_cases {v : S28} (h : Fine v) : (v.f2 = 1 ∧ v.f3 = 0 ∧ v.f4 = 0 ∧ sizeS v = 2 ∧ lowS v = 0) ∨ (v.f2 = 2 ∧ -1000 ≤ v.f3 ∧ v.f3 ≤ v.f4 ∧ v.f4 ≤ 1000 ∧ sizeS v = v.f4 - v.f3 + 1 ∧ lowS v = v.f3) := by
  unfold Fine sortedS at h
  split at h
  · omega
  · rename_i h1
    split at h
    · omega
    · rename_i h2
      by_cases h3 : v.f2 = 1
      · refine .inl ⟨h3, ?_, ?_, by simp [sizeS, h3], by simp [lowS, h3]⟩
        · by_cases h4 : v.f3 = 0
          · exact h4
          · exact absurd (.inl ⟨h3, .inl h4⟩) h2
        · by_cases h4 : v.f4 = 0
          · exact h4
          · exact absurd (.inl ⟨h3, .inr h4⟩) h2
      · have h4 : v.f2 = 2 := by
          by_cases h5 : v.f2 = 2
          · exact h5
          · exact absurd ⟨h3, h5⟩ h1
        have h5 : sizeS v ≠ 0 := fun h6 => h2 (.inr ⟨h4, h6⟩)
        have h6 : -1000 ≤ v.f3 ∧ v.f3 ≤ v.f4 ∧ v.f4 ≤ 1000 := by
          by_cases h7 : -1000 ≤ v.f3 ∧ v.f3 ≤ v.f4 ∧ v.f4 ≤ 1000
          · exact h7
          · refine absurd ?_ h5
            unfold sizeS
            rw [if_neg h3, if_neg (fun h => h7 h.2)]
        refine .inr ⟨h4, h6.1, h6.2.1, h6.2.2, ?_, by simp [lowS, h3]⟩
        unfold sizeS
        rw [if_neg h3, if_pos ⟨h4, h6⟩]
theorem fine_pos {v : S28} (h : Fine v) : 1 ≤ sizeS v := by rcases fine_cases h with h | h <;> omega
theorem fine_low {v : S28} (h : Fine v) : -1000 ≤ lowS v ∧ lowS v ≤ 1000 ∧ lowS v = v.f3 ∧ lowS v + sizeS v ≤ 1001 := by rcases fine_cases h with h | h <;> omega

def totFrom : Int → List S28 → Int
  | n, [] => n
  | n, v :: r => if sortedS v = 0 then (if n * sizeS v > 512 then 0 else totFrom (n * sizeS v) r) else 0
def totalS (l : List S28) : Int := if l.length > 6 then 0 else totFrom 1 l
theorem total_loop (l : List S28) (hl : l.length < 4611686018427387904) : ∀ (r p : List S28) (n : Int), l = p ++ r → 0 ≤ n → n ≤ 512 → Ev (fun k => dom_Total.l0 k n l (l.length : Int) (p.length : Int)) (totFrom n r)
  | [], p, n, hp, h0, h1 => by
    have e : l.length = p.length := by rw [hp]; simp
    exact ev_step (fun k => rfl) (ev_neg (by omega) (ev_some _))
  | v :: r, p, n, hp, h0, h1 => by
    have e : l.length = p.length + (r.length + 1) := by rw [hp]; simp
    have er : rd_T28 l (p.length : Int) = v := by rw [hp]; exact rv_app p v r
    have hs := size_range v
    refine ev_step (fun k => rfl) (ev_pos (by omega) (ev_pos (by omega) (ev_pos (by omega) ?_)))
    rw [er]
    refine ev_bind (sorted_ev v) ?_
    simp only [totFrom]
    by_cases h2 : sortedS v = 0
    · rw [if_pos h2]
      refine ev_pos h2 (ev_bindv (size_eq v) ?_)
      have hb : 0 ≤ n * sizeS v := Int.mul_nonneg h0 hs.1
      have hc : n * sizeS v ≤ 512 * 2001 := Int.mul_le_mul h1 hs.2 hs.1 (by omega)
      rw [w64 (x := n * sizeS v) (by omega) (by omega)]
      by_cases h3 : n * sizeS v > 512
      · rw [if_pos h3]
        exact ev_pos h3 (ev_some _)
      · rw [if_neg h3, w64 (x := (p.length : Int) + 1) (by omega) (by omega)]
        have := total_loop l hl r (p ++ [v]) (n * sizeS v) (by simp [hp]) hb (by omega)
        rw [List.length_append, List.length_singleton] at this
        exact ev_neg h3 this
    · rw [if_neg h2]
      exact ev_neg h2 (ev_some _)
theorem total_ev (l : List S28) (hl : l.length < 4611686018427387904) : Ev (fun k => dom_Total.f k l) (totalS l) := by
  unfold dom_Total.f totalS
  by_cases h : l.length > 6
  · rw [if_pos h]
    exact ev_pos (by omega) (ev_some _)
  · rw [if_neg h]
    exact ev_neg (by omega) (total_loop l hl l [] 1 rfl (by omega) (by omega))
def prodS : List S28 → Int
  | [] => 1
  | v :: r => sizeS v * prodS r
theorem tot_fine : ∀ (l : List S28) (n : Int), 1 ≤ n → n ≤ 512 → totFrom n l ≠ 0 → (∀ v ∈ l, Fine v) ∧ totFrom n l = n * prodS l ∧ n * prodS l ≤ 512 ∧ 1 ≤ prodS l
  | [], n, h1, h5, _ => ⟨fun v hv => by simp at hv, by simp [totFrom, prodS], by simp [prodS]; exact h5, by simp [prodS]⟩
  | v :: r, n, h1, h5, h => by
    simp only [totFrom] at h ⊢
    by_cases h2 : sortedS v = 0
    · rw [if_pos h2] at h ⊢
      by_cases h3 : n * sizeS v > 512
      · rw [if_pos h3] at h
        exact absurd rfl h
      · rw [if_neg h3] at h ⊢
        have hp := fine_pos h2
        have hb : 1 ≤ n * sizeS v := by
          have := Int.mul_le_mul h1 hp (by omega) (by omega)
          omega
        obtain ⟨g1, g2, g3, g4⟩ := tot_fine r (n * sizeS v) hb (by omega) h
        refine ⟨fun x hx => ?_, ?_, ?_, ?_⟩
        · rcases List.mem_cons.1 hx with rfl | hx
          · exact h2
          · exact g1 x hx
        · rw [g2, prodS, Int.mul_assoc]
        · rw [prodS, ← Int.mul_assoc]; exact g3
        · rw [prodS]
          have := Int.mul_le_mul hp g4 (by omega) (by omega)
          omega
    · rw [if_neg h2] at h
      exact absurd rfl h

theorem find_eq (l : List S28) (a : ByteArray) (hl : l.length < 4611686018427387904) : dom_Find.f l a = some (findFrom a l 0) := by
  unfold dom_Find.f maxLen
  rw [if_pos (by omega)]
/-- The first place of a name that is there. -/
theorem find_app (a : ByteArray) : ∀ (p : List S28) (x : S28) (r : List S28) (i : Int), x.f0.toList = a.toList → (∀ y ∈ p, y.f0.toList ≠ a.toList) → findFrom a (p ++ x :: r) i = i + p.length
  | [], x, r, i, hx, _ => by simp [findFrom, hx]
  | y :: p, x, r, i, hx, hp => by
    simp only [List.cons_append, findFrom]
    rw [if_neg (hp y (by simp)), find_app a p x r (i + 1) hx (fun z hz => hp z (by simp [hz]))]
    simp; omega
theorem find_none (a : ByteArray) : ∀ (l : List S28) (i : Int), (∀ y ∈ l, y.f0.toList ≠ a.toList) → findFrom a l i = -1
  | [], _, _ => rfl
  | y :: p, i, hp => by
    simp only [findFrom]
    rw [if_neg (hp y (by simp)), find_none a p (i + 1) (fun z hz => hp z (by simp [hz]))]

def nmFrom (s : ByteArray) (i : Nat) : Nat → Bool
  | 0 => true
  | d + 1 => ((decide (97 ≤ bt s i) && decide (bt s i ≤ 122)) || (decide (0 < i) && ((decide (48 ≤ bt s i) && decide (bt s i ≤ 57)) || decide (bt s i = 95)))) && nmFrom s (i + 1) d
def inWords (s : ByteArray) : List ByteArray → Bool
  | [] => false
  | w :: r => decide (w.toList = s.toList) || inWords s r
def wordsL : List ByteArray := (dom_words.f).getD []
def nameS (s : ByteArray) : Bool := decide (1 ≤ s.size) && (decide (s.size ≤ 16) && (!inWords s wordsL && nmFrom s 0 s.size))
theorem index_loop (l : List ByteArray) (a : ByteArray) (hl : l.length < 4611686018427387904) : ∀ (r p : List ByteArray), l = p ++ r → ∃ x : Int, Ev (fun k => slices_Index_string_string.l0 k l a (l.length : Int) (p.length : Int)) x ∧ (0 ≤ x ↔ inWords a r = true)
  | [], p, hp => by
    have e : l.length = p.length := by rw [hp]; simp
    exact ⟨-1, ev_step (fun k => rfl) (ev_neg (by omega) (ev_some _)), by simp [inWords]⟩
  | v :: r, p, hp => by
    have e : l.length = p.length + (r.length + 1) := by rw [hp]; simp
    have er : rdOf ByteArray.empty l (p.length : Int) = v := by
      rw [hp]; unfold rdOf
      rw [Int.toNat_natCast, List.getD_eq_getElem?_getD, List.getElem?_append_right (Nat.le_refl _), Nat.sub_self]; rfl
    by_cases h : a.toList = v.toList
    · refine ⟨p.length, ev_step (fun k => rfl) (ev_pos (by omega) (ev_pos (by omega) (ev_pos (by omega) (ev_pos (by rw [er]; exact h) (ev_some _))))), ?_⟩
      simp [inWords, h]
    · obtain ⟨x, hx, h2⟩ := index_loop l a hl r (p ++ [v]) (by simp [hp])
      rw [List.length_append, List.length_singleton] at hx
      refine ⟨x, ev_step (fun k => rfl) (ev_pos (by omega) (ev_pos (by omega) (ev_pos (by omega) (ev_neg (by rw [er]; exact h) ?_)))), ?_⟩
      · rw [w64 (x := (p.length : Int) + 1) (by omega) (by omega)]
        exact hx
      · rw [h2]
        have : ¬ v.toList = a.toList := fun h3 => h h3.symm
        simp [inWords, this]
theorem contains_ev (l : List ByteArray) (a : ByteArray) (hl : l.length < 4611686018427387904) : Ev (fun k => slices_Contains_string_string.f k l a) (inWords a l) := by
  obtain ⟨x, hx, h2⟩ := index_loop l a hl l [] rfl
  unfold slices_Contains_string_string.f
  refine ev_bind (g := fun k => slices_Index_string_string.f k l a) hx (ev_eq (ev_some _) ?_)
  by_cases h : 0 ≤ x
  · rw [h2.1 h]; simp; exact h
  · have : inWords a l = false := by
      cases h3 : inWords a l with
      | true => exact absurd (h2.2 h3) h
      | false => rfl
    rw [this]; simp; omega
theorem name_loop (s : ByteArray) (hs : s.size < 4611686018427387904) : ∀ (d i : Nat), i + d = s.size → Ev (fun k => dom_name.l0 k s (s.size : Int) (i : Int)) (nmFrom s i d)
  | 0, i, h => ev_step (fun k => rfl) (ev_neg (by omega) (ev_some _))
  | d + 1, i, h => by
    have ih := name_loop s hs d (i + 1) (by omega)
    have e1 : wrap64 ((i : Int) + 1) = ((i + 1 : Nat) : Int) := by rw [w64 (by omega) (by omega)]; simp
    have go : ∀ (b : Bool), b = (decide (97 ≤ bt s i) && decide (bt s i ≤ 122)) → Ev (fun k => dom_name.j2 k s (i : Int) (bt s i) (s.size : Int) (i : Int) b) (nmFrom s i (d + 1)) := by
      intro b hb
      simp only [nmFrom]
      rw [← hb]
      refine ev_step (fun k => rfl) ?_
      refine ev_bool (fun hb1 => ?_) (fun hb0 => ?_)
      · rw [e1, hb1]
        exact ev_eq ih (by simp)
      · rw [hb0]
        by_cases h0 : (i : Int) > 0
        · have h0' : 0 < i := by omega
          refine ev_pos h0 ?_
          by_cases h3 : bt s i = 95
          · by_cases h1 : bt s i ≥ 48
            · refine ev_pos h1 (ev_neg (by omega) (ev_pos h3 ?_))
              rw [e1]
              exact ev_eq ih (by simp [h0', h3])
            · exact absurd h3 (by omega)
          · by_cases h1 : bt s i ≥ 48
            · by_cases h2 : bt s i ≤ 57
              · refine ev_pos h1 (ev_pos h2 ?_)
                rw [e1]
                exact ev_eq ih (by simp [h0', h1, h2])
              · refine ev_pos h1 (ev_neg h2 (ev_neg h3 (ev_eq (ev_some _) ?_)))
                rw [decide_eq_false (p := bt s i ≤ 57) (by omega), decide_eq_false (p := bt s i = 95) h3]
                simp
            · refine ev_neg h1 (ev_neg h3 (ev_eq (ev_some _) ?_))
              rw [decide_eq_false (p := 48 ≤ bt s i) (by omega), decide_eq_false (p := bt s i = 95) h3]
              simp
        · refine ev_neg h0 (ev_eq (ev_some _) ?_)
          rw [decide_eq_false (p := 0 < i) (by omega)]
          simp
    refine ev_step (fun k => rfl) (ev_pos (by omega) (ev_pos (by omega) (ev_pos (by omega) ?_)))
    by_cases h1 : bt s i ≥ 97
    · refine ev_pos h1 (go _ ?_)
      rw [decide_eq_true (p := 97 ≤ bt s i) h1]; rfl
    · refine ev_neg h1 (go _ ?_)
      rw [decide_eq_false (p := 97 ≤ bt s i) h1]; rfl
theorem words_eq : dom_words.f = some wordsL := rfl
theorem name_ev (s : ByteArray) (hs : s.size < 4611686018427387904) : Ev (fun k => dom_name.f k s) (nameS s) := by
  unfold dom_name.f nameS
  by_cases h1 : (s.size : Int) < 1
  · refine ev_pos h1 (ev_step (fun k => rfl) (ev_eq (ev_some _) ?_))
    rw [decide_eq_false (p := 1 ≤ s.size) (by omega)]; rfl
  · by_cases h2 : (s.size : Int) > 16
    · refine ev_neg h1 (ev_pos h2 (ev_step (fun k => rfl) (ev_eq (ev_some _) ?_)))
      rw [decide_eq_false (p := s.size ≤ 16) (by omega)]; simp
    · refine ev_neg h1 (ev_neg h2 (ev_bindv words_eq (ev_bind (contains_ev wordsL s (by show 18 < _; omega)) (ev_step (fun k => rfl) ?_))))
      rw [decide_eq_true (p := 1 ≤ s.size) (by omega), decide_eq_true (p := s.size ≤ 16) (by omega)]
      refine ev_bool (fun h3 => ev_eq (ev_some _) (by rw [h3]; rfl)) (fun h3 => ev_eq (name_loop s hs s.size 0 (by omega)) (by rw [h3]; rfl))
end Go.Proofs.Ytofmfnbiondplaa.Dm

namespace Go.Proofs.Ytofmfnbiondplaa.Dm
open Go.RowKit Go.Proofs.YtofmfnbiondplaaW.PrintWords Go.Proofs.YtofmfnbiondplaaW.PrintMore Go.Proofs.Ytofmfnbiondplaa.P Go.Proofs.Ytofmfnbiondplaa.X Go.Proofs.Ytofmfnbiondplaa.Evx

def mayFrom (l : List S28) : List S28 → Int → Int
  | [], _ => if totalS l = 0 then 7 else 0
  | v :: r, i => if nameS v.f0 = true ∧ ¬ findFrom v.f0 l 0 < i then (if sortedS v = 0 then mayFrom l r (i + 1) else sortedS v) else 3
def mayS (l : List S28) : Int := mayFrom l l 0
/-- Lists that are short enough to be walked. -/
structure Short (l : List S28) : Prop where
  len : l.length < 4611686018427387904
  nm : ∀ v ∈ l, v.f0.size < 4611686018427387904
theorem may_loop (l : List S28) (hs : Short l) : ∀ (r p : List S28), l = p ++ r → Ev (fun k => dom_May.l0 k l l (l.length : Int) (p.length : Int)) (mayFrom l r (p.length : Int))
  | [], p, hp => by
    have e : l.length = p.length := by rw [hp]; simp
    refine ev_step (fun k => rfl) (ev_neg (by omega) (ev_bind (total_ev l hs.len) ?_))
    simp only [mayFrom]
    by_cases h : totalS l = 0
    · exact ev_pos h (ev_eq (ev_some _) (if_pos h).symm)
    · exact ev_neg h (ev_eq (ev_some _) (if_neg h).symm)
  | v :: r, p, hp => by
    have e : l.length = p.length + (r.length + 1) := by rw [hp]; simp
    have hl := hs.len
    have er : rd_T28 l (p.length : Int) = v := by rw [hp]; exact rv_app p v r
    have hv := hs.nm v (by rw [hp]; simp)
    have ih := may_loop l hs r (p ++ [v]) (by simp [hp])
    rw [List.length_append, List.length_singleton] at ih
    have go : ∀ b : Bool, b = decide (¬ (nameS v.f0 = true ∧ ¬ findFrom v.f0 l 0 < (p.length : Int))) → Ev (fun k => dom_May.j1 k l l (l.length : Int) (p.length : Int) b v.f0 v.f1 v.f2 v.f3 v.f4) (mayFrom l (v :: r) (p.length : Int)) := by
      intro b hb
      simp only [mayFrom]
      refine ev_step (fun k => rfl) (ev_bool (fun h1 => ?_) (fun h1 => ?_))
      · rw [h1] at hb
        rw [if_neg (of_decide_eq_true hb.symm)]
        exact ev_some _
      · rw [h1] at hb
        rw [if_pos (Decidable.of_not_not (of_decide_eq_false hb.symm))]
        refine ev_bind (sorted_ev v) ?_
        by_cases h2 : sortedS v = 0
        · rw [if_pos h2, w64 (x := (p.length : Int) + 1) (by omega) (by omega)]
          exact ev_pos h2 ih
        · rw [if_neg h2]
          exact ev_neg h2 (ev_some _)
    refine ev_step (fun k => rfl) (ev_pos (by omega) (ev_pos (by omega) (ev_pos (by omega) ?_)))
    rw [er]
    refine ev_bind (name_ev v.f0 hv) (ev_bool (fun h1 => ev_bindv (find_eq l v.f0 hs.len) (go _ ?_)) (fun h1 => go _ ?_))
    · simp [h1]
    · simp [h1]
theorem may_ev (l : List S28) (hs : Short l) : Ev (fun k => dom_May.f k l) (mayS l) := may_loop l hs l [] rfl

/-- What a list of variables that may be is. -/
structure MayOk (l : List S28) : Prop where
  fine : ∀ v ∈ l, Fine v
  name : ∀ v ∈ l, nameS v.f0 = true
  tot : totalS l = prodS l
  lo : 1 ≤ prodS l
  hi : prodS l ≤ 512
  len : l.length ≤ 6
  apart : ∀ p v r, l = p ++ v :: r → ∀ y ∈ p, y.f0.toList ≠ v.f0.toList
theorem find_lt (a : ByteArray) : ∀ (p r : List S28) (i : Int), (∃ y ∈ p, y.f0.toList = a.toList) → i ≤ findFrom a (p ++ r) i ∧ findFrom a (p ++ r) i < i + p.length
  | [], r, i, ⟨y, hy, _⟩ => by simp at hy
  | x :: p, r, i, ⟨y, hy, he⟩ => by
    simp only [List.cons_append, findFrom]
    by_cases h : x.f0.toList = a.toList
    · rw [if_pos h]; simp; omega
    · rw [if_neg h]
      have := find_lt a p r (i + 1) (by
        rcases List.mem_cons.1 hy with rfl | hy
        · exact absurd he h
        · exact ⟨y, hy, he⟩)
      simp; omega
theorem may_walk (l : List S28) : ∀ (r p : List S28), l = p ++ r → mayFrom l r (p.length : Int) = 0 → (∀ v ∈ r, Fine v ∧ nameS v.f0 = true) ∧ totalS l ≠ 0 ∧ ∀ q v s, r = q ++ v :: s → ∀ y ∈ p ++ q, y.f0.toList ≠ v.f0.toList
  | [], p, hp, h => by
    simp only [mayFrom] at h
    refine ⟨fun v hv => by simp at hv, fun h0 => by rw [if_pos h0] at h; omega, fun q v s e => by simp at e⟩
  | v :: r, p, hp, h => by
    simp only [mayFrom] at h
    by_cases h1 : nameS v.f0 = true ∧ ¬ findFrom v.f0 l 0 < (p.length : Int)
    · rw [if_pos h1] at h
      by_cases h2 : sortedS v = 0
      · rw [if_pos h2] at h
        have ih := may_walk l r (p ++ [v]) (by simp [hp]) (by rw [List.length_append, List.length_singleton]; exact h)
        refine ⟨fun x hx => ?_, ih.2.1, fun q w s e y hy he => ?_⟩
        · rcases List.mem_cons.1 hx with rfl | hx
          · exact ⟨h2, h1.1⟩
          · exact ih.1 x hx
        · cases q with
          | nil =>
            simp at e
            rw [List.append_nil] at hy
            rw [← e.1] at he
            have := find_lt v.f0 p (v :: r) 0 ⟨y, hy, he⟩
            rw [← hp] at this
            exact h1.2 (by omega)
          | cons a q =>
            simp at e
            exact ih.2.2 q w s e.2 y (by rw [← e.1] at hy; simpa using hy) he
      · rw [if_neg h2] at h
        exact absurd h h2
    · rw [if_neg h1] at h
      omega
theorem may_ok {l : List S28} (h : mayS l = 0) : MayOk l := by
  obtain ⟨h1, h2, h3⟩ := may_walk l l [] rfl h
  have h4 : ¬ l.length > 6 := fun h4 => h2 (by unfold totalS; rw [if_pos h4])
  have h5 : totalS l = totFrom 1 l := by unfold totalS; rw [if_neg h4]
  obtain ⟨g1, g2, g3, g4⟩ := tot_fine l 1 (by omega) (by omega) (by rw [← h5]; exact h2)
  exact ⟨g1, fun v hv => (h1 v hv).2, by rw [h5, g2]; omega, g4, by omega, by omega, fun p v r e y hy => h3 p v r e y (by simpa using hy)⟩
def valsFrom : List S28 → Int → List Int
  | [], _ => []
  | v :: r, s => (lowS v + s % sizeS v) :: valsFrom r (s / sizeS v)
theorem vals_len : ∀ (l : List S28) (s : Int), (valsFrom l s).length = l.length
  | [], _ => rfl
  | v :: r, s => by simp [valsFrom, vals_len r]
theorem vals_loop (l : List S28) (hl : l.length ≤ 6) (hf : ∀ v ∈ l, Fine v) : ∀ (r p : List S28) (s : Int) (acc : List Int), l = p ++ r → 0 ≤ s → s ≤ 512 → acc.length = p.length → Ev (fun k => dom_Values.l0 k s acc l (l.length : Int) (p.length : Int)) (acc ++ valsFrom r s, true)
  | [], p, s, acc, hp, _, _, _ => by
    have e : l.length = p.length := by rw [hp]; simp
    exact ev_step (fun k => rfl) (ev_neg (by omega) (ev_eq (ev_some _) (by simp [valsFrom])))
  | v :: r, p, s, acc, hp, h0, h5, ha => by
    have e : l.length = p.length + (r.length + 1) := by rw [hp]; simp
    have er : rd_T28 l (p.length : Int) = v := by rw [hp]; exact rv_app p v r
    have hv := hf v (by rw [hp]; simp)
    have h1 := fine_pos hv
    have h2 := fine_low hv
    have h3 := size_range v
    have hm0 : 0 ≤ s % sizeS v := Int.emod_nonneg _ (by omega)
    have hm1 : s % sizeS v < sizeS v := Int.emod_lt_of_pos _ (by omega)
    have hd0 : 0 ≤ s / sizeS v := Int.ediv_nonneg h0 (by omega)
    have hd1 : s / sizeS v ≤ s := Int.ediv_le_self _ h0
    refine ev_step (fun k => rfl) (ev_pos (by omega) (ev_pos (by omega) (ev_pos (by omega) ?_)))
    rw [er]
    refine ev_bindv (size_eq v) (ev_bindv (low_eq v) (ev_neg (by omega) (ev_pos (by omega) ?_)))
    rw [Int.tdiv_eq_ediv_of_nonneg h0, Int.tmod_eq_emod_of_nonneg h0, w64 (x := s / sizeS v) (by omega) (by omega), w64 (x := lowS v + s % sizeS v) (by omega) (by omega), w64 (x := (p.length : Int) + 1) (by omega) (by omega)]
    have ih := vals_loop l hl hf r (p ++ [v]) (s / sizeS v) (acc ++ [lowS v + s % sizeS v]) (by simp [hp]) hd0 (by omega) (by simp [ha])
    rw [List.length_append, List.length_singleton] at ih
    exact ev_eq ih (by simp [valsFrom])
/-- Is it a state? -/
def isState (l : List S28) (s : Int) : Prop := mayS l = 0 ∧ 0 ≤ s ∧ s < prodS l
theorem values_yes {l : List S28} (hs : Short l) {s : Int} (h : isState l s) : Ev (fun k => dom_Values.f k l s) (valsFrom l s, true) := by
  obtain ⟨h1, h2, h3⟩ := h
  have ok := may_ok h1
  unfold dom_Values.f
  have h512 := ok.hi
  refine ev_bind (may_ev l hs) (ev_pos h1 (ev_neg (by omega) (ev_bind (total_ev l hs.len) (ev_step (fun k => rfl) (ev_neg ?_ (ev_eq (vals_loop l ok.len ok.fine l [] s [] rfl h2 (by omega) rfl) (by simp)))))))
  rw [ok.tot]; simp; omega
theorem values_no {l : List S28} (hs : Short l) {s : Int} (h : ¬ isState l s) : Ev (fun k => dom_Values.f k l s) ([], false) := by
  unfold dom_Values.f
  refine ev_bind (may_ev l hs) ?_
  by_cases h1 : mayS l = 0
  · refine ev_pos h1 ?_
    have ok := may_ok h1
    by_cases h2 : s < 0
    · exact ev_pos h2 (ev_step (fun k => rfl) (ev_some _))
    · refine ev_neg h2 (ev_bind (total_ev l hs.len) ?_)
      rw [ok.tot]
      have h3 : s ≥ prodS l := by
        by_cases h4 : s < prodS l
        · exact absurd ⟨h1, by omega, h4⟩ h
        · omega
      rw [decide_eq_true h3]
      exact ev_step (fun k => rfl) (ev_some _)
  · exact ev_neg h1 (ev_step (fun k => rfl) (ev_some _))

def inR : List S28 → List Int → Bool
  | [], [] => true
  | v :: r, x :: xs => decide (lowS v ≤ x) && (decide (x ≤ lowS v + sizeS v - 1) && inR r xs)
  | _, _ => false
def stS : List S28 → List Int → Int
  | v :: r, x :: xs => stS r xs * sizeS v + x - lowS v
  | _, _ => 0
theorem st_range : ∀ (l : List S28) (xs : List Int), (∀ v ∈ l, Fine v) → inR l xs = true → 0 ≤ stS l xs ∧ stS l xs < prodS l
  | [], [], _, _ => by simp [stS, prodS]
  | [], _ :: _, _, h => by simp [inR] at h
  | _ :: _, [], _, h => by simp [inR] at h
  | v :: r, x :: xs, hf, h => by
    simp only [inR, Bool.and_eq_true, decide_eq_true_eq] at h
    obtain ⟨g1, g2⟩ := st_range r xs (fun y hy => hf y (by simp [hy])) h.2.2
    have h1 := fine_pos (hf v (by simp))
    simp only [stS, prodS]
    have e1 : 0 ≤ stS r xs * sizeS v := Int.mul_nonneg g1 (by omega)
    have e2 : (stS r xs + 1) * sizeS v ≤ prodS r * sizeS v := Int.mul_le_mul_of_nonneg_right (by omega) (by omega)
    rw [Int.add_mul, Int.one_mul] at e2
    rw [Int.mul_comm (sizeS v) (prodS r)]
    omega
theorem inR_len : ∀ (l : List S28) (xs : List Int), inR l xs = true → xs.length = l.length
  | [], [], _ => rfl
  | [], _ :: _, h => by simp [inR] at h
  | _ :: _, [], h => by simp [inR] at h
  | v :: r, x :: xs, h => by
    simp only [inR, Bool.and_eq_true] at h
    simp [inR_len r xs h.2.2]
theorem inR_app : ∀ (p r : List S28) (q xs : List Int), p.length = q.length → inR (p ++ r) (q ++ xs) = (inR p q && inR r xs)
  | [], r, [], xs, _ => by simp [inR]
  | [], _, _ :: _, _, h => by simp at h
  | _ :: _, _, [], _, h => by simp at h
  | v :: p, r, x :: q, xs, h => by
    simp only [List.cons_append, inR]
    rw [inR_app p r q xs (by simpa using h)]
    simp [Bool.and_assoc]
theorem rd_app2 (q : List Int) (x : Int) (xs : List Int) (n : Nat) (h : q.length = n) : rd (q ++ x :: xs) (n : Int) = x := by subst h; exact rd_app q x xs
theorem snoc_of {α : Type} (p : List α) (n : Nat) (h : p.length = n + 1) : ∃ p' v, p = p' ++ [v] ∧ p'.length = n := by
  have hne : p ≠ [] := by intro e; rw [e] at h; simp at h
  exact ⟨p.dropLast, p.getLast hne, (List.dropLast_concat_getLast hne).symm, by rw [List.length_dropLast]; omega⟩
theorem prod_app : ∀ (p r : List S28), prodS (p ++ r) = prodS p * prodS r
  | [], r => by simp [prodS]
  | v :: p, r => by simp only [List.cons_append, prodS]; rw [prod_app p r, Int.mul_assoc]
theorem prod_pos : ∀ (l : List S28), (∀ v ∈ l, Fine v) → 1 ≤ prodS l
  | [], _ => by simp [prodS]
  | v :: r, h => by
    have h1 := fine_pos (h v (by simp))
    have h2 := prod_pos r (fun y hy => h y (by simp [hy]))
    simp only [prodS]
    have := Int.mul_le_mul h1 h2 (by omega) (by omega)
    omega
theorem state_loop (l : List S28) (vs : List Int) (ok : MayOk l) (hlen : vs.length = l.length) : ∀ (n : Nat) (p r : List S28) (q xs : List Int), l = p ++ r → vs = q ++ xs → p.length = n → q.length = n → inR r xs = true → Ev (fun k => dom_State.l0 k l vs (stS r xs) ((n : Int) - 1)) (if inR l vs = true then (stS l vs, true) else (0, false))
  | 0, p, r, q, xs, hp, hq, h1, h2, hr => by
    obtain rfl := List.length_eq_zero_iff.1 h1
    obtain rfl := List.length_eq_zero_iff.1 h2
    simp only [List.nil_append] at hp hq
    subst hp hq
    rw [if_pos hr]
    exact ev_step (fun k => rfl) (ev_neg (by omega) (ev_some _))
  | n + 1, p0, r, q0, xs, hp, hq, h10, h20, hr => by
    obtain ⟨p, v, rfl, h1⟩ := snoc_of p0 n h10
    obtain ⟨q, x, rfl, h2⟩ := snoc_of q0 n h20
    simp only [List.append_assoc, List.singleton_append] at hp hq
    have e : l.length = n + (r.length + 1) := by rw [hp]; simp [h1]
    have hl6 := ok.len
    have hn : ((n + 1 : Nat) : Int) - 1 = (n : Int) := by omega
    have er : rd_T28 l (n : Int) = v := by rw [hp, ← h1]; exact rv_app p v r
    have ex : rd vs (n : Int) = x := by rw [hq]; exact rd_app2 q x xs n h2
    have hv := ok.fine v (by rw [hp]; simp)
    have f1 := fine_pos hv
    have f2 := fine_low hv
    have f3 := size_range v
    have hrf : ∀ y ∈ r, Fine y := fun y hy => ok.fine y (by rw [hp]; simp [hy])
    have f4 := st_range r xs hrf hr
    have f5 : prodS r ≤ 512 := by
      have := ok.hi
      have hh : l = (p ++ [v]) ++ r := by rw [hp]; simp
      rw [hh, prod_app] at this
      have g1 := prod_pos (p ++ [v]) (fun y hy => ok.fine y (by rw [hh]; exact List.mem_append_left _ hy))
      have g2 := prod_pos r hrf
      have := Int.mul_le_mul_of_nonneg_right g1 (show 0 ≤ prodS r by omega)
      omega
    rw [hn]
    refine ev_step (fun k => rfl) (ev_pos (by omega) (ev_pos (by omega) (ev_pos (by omega) ?_)))
    rw [er, ex]
    refine ev_bindv (size_eq v) (ev_pos (by omega) (ev_bindv (low_eq v) ?_))
    have hin : inR l vs = (inR p q && (decide (lowS v ≤ x) && (decide (x ≤ lowS v + sizeS v - 1) && inR r xs))) := by
      rw [hp, hq, inR_app p (v :: r) q (x :: xs) (by omega)]
      rfl
    by_cases c1 : x < lowS v
    · rw [hin, decide_eq_false (p := lowS v ≤ x) (by omega)]
      exact ev_pos c1 (ev_eq (ev_some _) (by simp))
    · refine ev_neg c1 (ev_bindv (low_eq v) ?_)
      rw [w64 (x := lowS v + sizeS v) (by omega) (by omega), w64 (x := lowS v + sizeS v - 1) (by omega) (by omega)]
      by_cases c2 : x > lowS v + sizeS v - 1
      · rw [hin, decide_eq_false (p := x ≤ lowS v + sizeS v - 1) (by omega)]
        exact ev_pos c2 (ev_eq (ev_some _) (by simp))
      · refine ev_neg c2 (ev_bindv (low_eq v) ?_)
        have hb0 : 0 ≤ stS r xs * sizeS v := Int.mul_nonneg f4.1 (by omega)
        have hb1 : stS r xs * sizeS v ≤ 512 * 2001 := Int.mul_le_mul (by omega) f3.2 (by omega) (by omega)
        rw [w64 (x := stS r xs * sizeS v) (by omega) (by omega), w64 (x := stS r xs * sizeS v + x) (by omega) (by omega), w64 (x := stS r xs * sizeS v + x - lowS v) (by omega) (by omega), w64 (x := (n : Int) - 1) (by omega) (by omega)]
        have hr2 : inR (v :: r) (x :: xs) = true := by
          simp only [inR, hr]
          rw [decide_eq_true (p := lowS v ≤ x) (by omega), decide_eq_true (p := x ≤ lowS v + sizeS v - 1) (by omega)]
          rfl
        exact state_loop l vs ok hlen n p (v :: r) q (x :: xs) hp hq h1 h2 hr2
theorem state_ev {l : List S28} (hs : Short l) {vs : List Int} (hm : mayS l = 0) : Ev (fun k => dom_State.f k l vs) (if inR l vs = true then (stS l vs, true) else (0, false)) := by
  have ok := may_ok hm
  have h6 := ok.len
  unfold dom_State.f
  refine ev_bind (may_ev l hs) (ev_pos hm (ev_step (fun k => rfl) ?_))
  by_cases h : vs.length = l.length
  · refine ev_neg (by simp; omega) ?_
    rw [w64 (x := (l.length : Int) - 1) (by omega) (by omega)]
    have := state_loop l vs ok h l.length l [] vs [] (by simp) (by simp) rfl h rfl
    exact this
  · refine ev_pos (by simp; omega) (ev_eq (ev_some _) ?_)
    rw [if_neg (fun h2 => h (inR_len l vs h2))]
theorem state_no {l : List S28} (hs : Short l) {vs : List Int} (hm : mayS l ≠ 0) : Ev (fun k => dom_State.f k l vs) (0, false) := by
  unfold dom_State.f
  exact ev_bind (may_ev l hs) (ev_neg hm (ev_step (fun k => rfl) (ev_some _)))

theorem vals_in : ∀ (l : List S28) (s : Int), (∀ v ∈ l, Fine v) → inR l (valsFrom l s) = true
  | [], _, _ => rfl
  | v :: r, s, hf => by
    have h1 := fine_pos (hf v (by simp))
    have hm0 : 0 ≤ s % sizeS v := Int.emod_nonneg _ (by omega)
    have hm1 : s % sizeS v < sizeS v := Int.emod_lt_of_pos _ (by omega)
    simp only [valsFrom, inR]
    rw [decide_eq_true (p := lowS v ≤ lowS v + s % sizeS v) (by omega), decide_eq_true (p := lowS v + s % sizeS v ≤ lowS v + sizeS v - 1) (by omega), vals_in r _ (fun y hy => hf y (by simp [hy]))]
    rfl
theorem with_no {l : List S28} (hs : Short l) {s v x : Int} (h : ¬ isState l s ∨ v < 0 ∨ (l.length : Int) ≤ v) : Ev (fun k => dom_With.f k l s v x) (0, false) := by
  unfold dom_With.f
  by_cases h1 : isState l s
  · refine ev_bind (values_yes hs h1) (ev_pos rfl ?_)
    by_cases h2 : v < 0
    · exact ev_pos h2 (ev_some _)
    · refine ev_neg h2 (ev_pos ?_ (ev_some _))
      rcases h with h | h | h
      · exact absurd h1 h
      · exact absurd h h2
      · exact h
  · exact ev_bind (values_no hs h1) (ev_neg (by simp) (ev_some _))
theorem with_yes {l : List S28} (hs : Short l) {s v x : Int} (h : isState l s) (h0 : 0 ≤ v) (h1 : v < l.length) : Ev (fun k => dom_With.f k l s v x) (if inR l ((valsFrom l s).set v.toNat x) = true then (stS l ((valsFrom l s).set v.toNat x), true) else (0, false)) := by
  unfold dom_With.f
  refine ev_bind (values_yes hs h) (ev_pos rfl (ev_neg (by omega) (ev_neg (by omega) (ev_pos h0 (ev_pos (by simp only [vals_len]; exact h1) (ev_bind (state_ev hs h.1) (ev_eq (ev_some _) ?_)))))))
  split <;> rfl

def partS (env : Bool) : List S28 → List Int → List Int
  | v :: r, x :: xs => (if v.f1 = env then x else lowS v) :: partS env r xs
  | _, _ => []
theorem part_loop (l : List S28) (hs : Short l) (hm : mayS l = 0) (env : Bool) : ∀ (r p : List S28) (q xs : List Int) (out : Int), l = p ++ r → q.length = p.length → xs.length = r.length → (∀ k0 : Int, k0 = out → inR l (q ++ partS env r xs) = true → k0 = stS l (q ++ partS env r xs)) → inR l (q ++ partS env r xs) = true → Ev (fun k => dom_Part.l0 k l env (q ++ xs) l (l.length : Int) (p.length : Int)) out
  | [], p, q, xs, out, hp, hq, hx, ho, hin => by
    have e : l.length = p.length := by rw [hp]; simp
    obtain rfl := List.length_eq_zero_iff.1 hx
    have := ho out rfl hin
    simp only [partS, List.append_nil] at hin this ⊢
    refine ev_step (fun k => rfl) (ev_neg (by omega) (ev_bind (state_ev hs hm) (ev_eq (ev_some _) ?_)))
    rw [if_pos hin, this]
  | v :: r, p, q, [], out, hp, hq, hx, ho, hin => by simp at hx
  | v :: r, p, q, x :: xs, out, hp, hq, hx, ho, hin => by
    have e : l.length = p.length + (r.length + 1) := by rw [hp]; simp
    have h6 := (may_ok hm).len
    have er : rd_T28 l (p.length : Int) = v := by rw [hp]; exact rv_app p v r
    have hx' : xs.length = r.length := by simpa using hx
    refine ev_step (fun k => rfl) (ev_pos (by omega) (ev_pos (by omega) (ev_pos (by omega) ?_)))
    rw [er]
    by_cases c : v.f1 = env
    · refine ev_neg (by simp [c]) ?_
      rw [w64 (x := (p.length : Int) + 1) (by omega) (by omega)]
      have ih := part_loop l hs hm env r (p ++ [v]) (q ++ [x]) xs out (by simp [hp]) (by simp [hq]) hx' (by simpa [partS, c] using ho) (by simpa [partS, c] using hin)
      simpa using ih
    · refine ev_pos (by simp [c]) (ev_bindv (low_eq v) (ev_pos (by simp; omega) ?_))
      rw [w64 (x := (p.length : Int) + 1) (by omega) (by omega)]
      have ih := part_loop l hs hm env r (p ++ [v]) (q ++ [lowS v]) xs out (by simp [hp]) (by simp [hq]) hx' (by simpa [partS, c] using ho) (by simpa [partS, c] using hin)
      have e2 : (q ++ x :: xs).set ((p.length : Int)).toNat (lowS v) = q ++ [lowS v] ++ xs := by
        rw [Int.toNat_natCast, ← hq]
        simp
      rw [e2]
      simpa using ih
theorem part_in (env : Bool) : ∀ (l : List S28) (xs : List Int), (∀ v ∈ l, Fine v) → inR l xs = true → inR l (partS env l xs) = true
  | [], [], _, _ => rfl
  | [], _ :: _, _, h => by simp [inR] at h
  | _ :: _, [], _, h => by simp [inR] at h
  | v :: r, x :: xs, hf, h => by
    have h1 := fine_pos (hf v (by simp))
    simp only [inR, Bool.and_eq_true, decide_eq_true_eq] at h
    simp only [partS, inR, Bool.and_eq_true, decide_eq_true_eq]
    refine ⟨?_, ?_, part_in env r xs (fun y hy => hf y (by simp [hy])) h.2.2⟩ <;> split <;> omega
theorem part_yes {l : List S28} (hs : Short l) {s : Int} (h : isState l s) (env : Bool) : Ev (fun k => dom_Part.f k l s env) (stS l (partS env l (valsFrom l s))) := by
  have ok := may_ok h.1
  unfold dom_Part.f
  refine ev_bind (values_yes hs h) (ev_pos rfl ?_)
  have hin := part_in env l _ ok.fine (vals_in l s ok.fine)
  exact part_loop l hs h.1 env l [] [] (valsFrom l s) _ (by simp) rfl (vals_len l s) (fun k0 e _ => by simpa using e) (by simpa using hin)
theorem part_no {l : List S28} (hs : Short l) {s : Int} (h : ¬ isState l s) (env : Bool) : Ev (fun k => dom_Part.f k l s env) (-1) := by
  unfold dom_Part.f
  exact ev_bind (values_no hs h) (ev_neg (by simp) (ev_some _))

theorem heavy_loop (l : List S28) (hs : Short l) : ∀ (r p : List S28), l = p ++ r → p.length ≤ 10 → ∃ h : Int, Ev (fun k => parrylaw1_Heavy.l0 k l (l.length : Int) (p.length : Int)) h ∧ 0 ≤ h ∧ (h = 0 → l.length ≤ 10 ∧ ∀ v ∈ r, v.f0.size ≤ 100)
  | [], p, hp, h10 => by
    have e : l.length = p.length := by rw [hp]; simp
    exact ⟨0, ev_step (fun k => rfl) (ev_neg (by omega) (ev_some _)), by omega, fun _ => ⟨by omega, fun v hv => by simp at hv⟩⟩
  | v :: r, p, hp, h10 => by
    have e : l.length = p.length + (r.length + 1) := by rw [hp]; simp
    have er : rd_T28 l (p.length : Int) = v := by rw [hp]; exact rv_app p v r
    have hw : wrap64 ((p.length : Int) + 1) = (p.length : Int) + 1 := w64 (by omega) (by omega)
    by_cases c1 : (p.length : Int) ≥ 10
    · exact ⟨_, ev_step (fun k => rfl) (ev_pos (by omega) (ev_pos (by omega) (ev_pos (by omega) (ev_pos c1 (ev_some _))))), by rw [hw]; omega, fun h => by rw [hw] at h; omega⟩
    · by_cases c2 : (v.f0.size : Int) > 100
      · refine ⟨_, ev_step (fun k => rfl) (ev_pos (by omega) (ev_pos (by omega) (ev_pos (by omega) (ev_neg c1 (ev_pos (by rw [er]; exact c2) (ev_some _)))))), by rw [hw]; omega, fun h => by rw [hw] at h; omega⟩
      · obtain ⟨h, h1, h2, h3⟩ := heavy_loop l hs r (p ++ [v]) (by simp [hp]) (by simp; omega)
        rw [List.length_append, List.length_singleton] at h1
        refine ⟨h, ev_step (fun k => rfl) (ev_pos (by omega) (ev_pos (by omega) (ev_pos (by omega) (ev_neg c1 (ev_neg (by rw [er]; exact c2) ?_))))), h2, fun h0 => ⟨(h3 h0).1, fun y hy => ?_⟩⟩
        · rw [hw]; exact h1
        · rcases List.mem_cons.1 hy with rfl | hy
          · omega
          · exact (h3 h0).2 y hy
theorem heavy_ev (l : List S28) (hs : Short l) : ∃ h : Int, Ev (fun k => parrylaw1_Heavy.f k l) h ∧ 0 ≤ h ∧ (h = 0 → l.length ≤ 10 ∧ ∀ v ∈ l, v.f0.size ≤ 100) := heavy_loop l hs l [] rfl (by simp)
theorem awake_at : parrylaw1_awake.f 40 = some true := by decide +kernel
theorem awake_ev : Ev (fun k => parrylaw1_awake.f k) true := Ev.of (fun k => parrylaw1_awake.mono k) awake_at
theorem short_of {l : List S28} (h : Ki.G22 l) : Short l := by
  obtain ⟨h1, h2⟩ := h
  unfold reachBytes at h2
  refine ⟨by omega, fun v hv => ?_⟩
  have := (h1 v hv).1
  unfold reachBytes at this
  omega
end Go.Proofs.Ytofmfnbiondplaa.Dm

namespace Go.Proofs.Ytofmfnbiondplaa.Dm
open Go.RowKit Go.Proofs.YtofmfnbiondplaaW.PrintWords Go.Proofs.YtofmfnbiondplaaW.PrintMore Go.Proofs.Ytofmfnbiondplaa.P Go.Proofs.Ytofmfnbiondplaa.X Go.Proofs.Ytofmfnbiondplaa.Evx

theorem ok_nm (s : ByteArray) : ∀ (d i : Nat), 0 < i → okFrom s i d = nmFrom s i d
  | 0, i, _ => rfl
  | d + 1, i, h => by
    simp only [okFrom, nmFrom, okCh]
    rw [ok_nm s d (i + 1) (by omega), decide_eq_true h, show (bt s (i : Int) == 95) = decide (bt s (i : Int) = 95) from rfl]
    simp [Bool.or_assoc]
theorem word_in (s : ByteArray) : ∀ l : List ByteArray, (l.any fun w => s.toList == w.toList) = inWords s l
  | [] => rfl
  | w :: r => by
    simp only [List.any_cons, inWords, word_in s r]
    congr 1
    rw [Bool.eq_iff_iff]
    simp only [beq_iff_eq, decide_eq_true_eq]
    exact ⟨Eq.symm, Eq.symm⟩
theorem ref_name (s : ByteArray) : refName s = nameS s := by
  unfold refName nameS isWord
  rw [word_in]
  have hw : X.wordsL = Dm.wordsL := rfl
  rw [hw]
  by_cases h1 : 1 ≤ s.size
  · obtain ⟨d, hd⟩ : ∃ d, s.size = d + 1 := ⟨s.size - 1, by omega⟩
    rw [hd]
    have e1 : okFrom s 0 (d + 1) = (okCh (bt s 0) && okFrom s 1 d) := rfl
    have e2 : nmFrom s 0 (d + 1) = ((decide (97 ≤ bt s 0) && decide (bt s 0 ≤ 122)) && nmFrom s 1 d) := by
      simp [nmFrom]
    rw [e1, e2, ok_nm s d 1 (by omega)]
    by_cases h2 : 97 ≤ bt s 0
    · by_cases h3 : bt s 0 ≤ 122
      · have e3 : okCh (bt s 0) = true := by unfold okCh; simp [h2, h3]
        rw [e3, decide_eq_true h2, decide_eq_true h3]
        cases nmFrom s 1 d <;> cases inWords s Dm.wordsL <;> rfl
      · rw [decide_eq_false h3]; simp
    · rw [decide_eq_false h2]; simp
  · rw [decide_eq_false h1]; rfl

theorem rsize_eq (v : S28) : parryref1_Size.f v.f0 v.f1 v.f2 v.f3 v.f4 = some (sizeS v) := size_eq v
theorem fine_of {v : S28} (h1 : sizeS v ≠ 0) (h2 : v.f2 = 1 → v.f3 = 0 ∧ v.f4 = 0) : Fine v := by
  unfold Fine sortedS
  by_cases c1 : v.f2 = 1
  · rw [if_neg (fun h => h.1 c1), if_neg]
    rintro (⟨_, h⟩ | ⟨h, _⟩)
    · obtain ⟨g1, g2⟩ := h2 c1
      rcases h with h | h
      · exact h g1
      · exact h g2
    · omega
  · by_cases c2 : v.f2 = 2
    · rw [if_neg (fun h => h.2 c2), if_neg]
      rintro (⟨h, _⟩ | ⟨_, h⟩)
      · exact c1 h
      · exact h1 h
    · refine absurd ?_ h1
      unfold sizeS
      rw [if_neg c1, if_neg (fun h => c2 h.1)]

theorem rfind_loop (a : ByteArray) (l : List S28) (hl : l.length < 4611686018427387904) : ∀ (r p : List S28), l = p ++ r → Ev (fun k => parryref1_Find.l0 k a l (l.length : Int) (p.length : Int)) (findFrom a r (p.length : Int))
  | [], p, hp => by
    have e : l.length = p.length := by rw [hp]; simp
    exact ev_step (fun k => rfl) (ev_neg (by omega) (ev_some _))
  | v :: r, p, hp => by
    have e : l.length = p.length + (r.length + 1) := by rw [hp]; simp
    have er : rd_T28 l (p.length : Int) = v := by rw [hp]; exact rv_app p v r
    have ih := rfind_loop a l hl r (p ++ [v]) (by simp [hp])
    rw [List.length_append, List.length_singleton] at ih
    refine ev_step (fun k => rfl) (ev_pos (by omega) (ev_pos (by omega) (ev_pos (by omega) ?_)))
    rw [er]
    simp only [findFrom]
    by_cases h : v.f0.toList = a.toList
    · exact ev_pos h (ev_eq (ev_some _) (if_pos h).symm)
    · rw [if_neg h, w64 (x := (p.length : Int) + 1) (by omega) (by omega)]
      exact ev_neg h ih
theorem rfind_ev (a : ByteArray) (l : List S28) (hl : l.length < 4611686018427387904) : Ev (fun k => parryref1_Find.f k l a) (findFrom a l 0) := rfind_loop a l hl l [] rfl

def pmin : Int → List S28 → Int
  | n, [] => n
  | n, v :: r => pmin (if 513 < n * sizeS v then 513 else n * sizeS v) r
theorem prod_loop (l : List S28) (hl : l.length < 4611686018427387904) : ∀ (r p : List S28) (n : Int), l = p ++ r → 0 ≤ n → n ≤ 513 → Ev (fun k => parryref1_product.l0 k n l (l.length : Int) (p.length : Int)) (pmin n r)
  | [], p, n, hp, _, _ => by
    have e : l.length = p.length := by rw [hp]; simp
    exact ev_step (fun k => rfl) (ev_neg (by omega) (ev_some _))
  | v :: r, p, n, hp, h0, h1 => by
    have e : l.length = p.length + (r.length + 1) := by rw [hp]; simp
    have er : rd_T28 l (p.length : Int) = v := by rw [hp]; exact rv_app p v r
    have hs := size_range v
    have hb : 0 ≤ n * sizeS v := Int.mul_nonneg h0 hs.1
    have hc : n * sizeS v ≤ 513 * 2001 := Int.mul_le_mul h1 hs.2 hs.1 (by omega)
    refine ev_step (fun k => rfl) (ev_pos (by omega) (ev_pos (by omega) (ev_pos (by omega) ?_)))
    rw [er]
    refine ev_bindv (rsize_eq v) ?_
    have em : mn (n * sizeS v) 513 = (if 513 < n * sizeS v then 513 else n * sizeS v) := rfl
    rw [w64 (x := n * sizeS v) (by omega) (by omega), w64 (x := (p.length : Int) + 1) (by omega) (by omega), em]
    have ih := prod_loop l hl r (p ++ [v]) (if 513 < n * sizeS v then 513 else n * sizeS v) (by simp [hp]) (by split <;> omega) (by split <;> omega)
    rw [List.length_append, List.length_singleton] at ih
    exact ih
theorem prod_ev (l : List S28) (hl : l.length < 4611686018427387904) : Ev (fun k => parryref1_product.f k l) (pmin 1 l) := prod_loop l hl l [] 1 rfl (by omega) (by omega)
theorem pmin_fine : ∀ (l : List S28) (n : Int), (∀ v ∈ l, Fine v) → 1 ≤ n → n ≤ 513 → pmin n l = if n * prodS l > 512 then 513 else n * prodS l
  | [], n, _, h1, h2 => by simp only [pmin, prodS, Int.mul_one]; split <;> omega
  | v :: r, n, hf, h1, h2 => by
    have hp := fine_pos (hf v (by simp))
    have hq := prod_pos r (fun y hy => hf y (by simp [hy]))
    have hb : 1 ≤ n * sizeS v := by
      have := Int.mul_le_mul h1 hp (by omega) (by omega)
      omega
    have hpr : n * prodS (v :: r) = n * sizeS v * prodS r := by simp only [prodS, Int.mul_assoc]
    rw [hpr]
    simp only [pmin]
    rw [pmin_fine r _ (fun y hy => hf y (by simp [hy])) (by split <;> omega) (by split <;> omega)]
    by_cases c : 513 < n * sizeS v
    · rw [if_pos c]
      have g1 : 513 * 1 ≤ 513 * prodS r := Int.mul_le_mul_of_nonneg_left hq (by omega)
      have g2 : 513 * prodS r ≤ n * sizeS v * prodS r := Int.mul_le_mul_of_nonneg_right (by omega) (by omega)
      rw [if_pos (by omega), if_pos (by omega)]
    · rw [if_neg c]
theorem tot_val : ∀ (l : List S28) (n : Int), (∀ v ∈ l, Fine v) → 1 ≤ n → n ≤ 512 → totFrom n l = if n * prodS l > 512 then 0 else n * prodS l
  | [], n, _, h1, h2 => by simp only [totFrom, prodS, Int.mul_one]; rw [if_neg (by omega)]
  | v :: r, n, hf, h1, h2 => by
    have hv : sortedS v = 0 := hf v (by simp)
    have hp := fine_pos (hf v (by simp))
    have hq := prod_pos r (fun y hy => hf y (by simp [hy]))
    have hb : 1 ≤ n * sizeS v := by
      have := Int.mul_le_mul h1 hp (by omega) (by omega)
      omega
    have hpr : n * prodS (v :: r) = n * sizeS v * prodS r := by simp only [prodS, Int.mul_assoc]
    rw [hpr]
    simp only [totFrom]
    rw [if_pos hv]
    by_cases c : n * sizeS v > 512
    · have g2 : n * sizeS v * 1 ≤ n * sizeS v * prodS r := Int.mul_le_mul_of_nonneg_left hq (by omega)
      rw [if_pos c, if_pos (by omega)]
    · rw [if_neg c]
      exact tot_val r _ (fun y hy => hf y (by simp [hy])) hb (by omega)

theorem names_loop (nm : ByteArray) (l x0 x7 : List S28) (x8 x9 : Int) (f1 : Bool) (f2 f3 f4 : Int) (hl : l.length < 4611686018427387904) {out : Int} (hno : (∀ y ∈ l, y.f0.toList ≠ nm.toList) → Ev (fun k => parryref1_MayVars.j3 k x0 x7 x8 x9 nm f1 f2 f3 f4) out) (hyes : (∃ y ∈ l, y.f0.toList = nm.toList) → out = 3) : ∀ (r p : List S28), l = p ++ r → (∀ y ∈ p, y.f0.toList ≠ nm.toList) → Ev (fun k => parryref1_MayVars.l1 k x0 x7 x8 x9 l (l.length : Int) (p.length : Int) nm f1 f2 f3 f4) out
  | [], p, hp, hn => by
    have e : l.length = p.length := by rw [hp]; simp
    exact ev_step (fun k => rfl) (ev_neg (by omega) (hno (by rw [hp]; simpa using hn)))
  | v :: r, p, hp, hn => by
    have e : l.length = p.length + (r.length + 1) := by rw [hp]; simp
    have er : rd_T28 l (p.length : Int) = v := by rw [hp]; exact rv_app p v r
    refine ev_step (fun k => rfl) (ev_pos (by omega) (ev_pos (by omega) (ev_pos (by omega) ?_)))
    rw [er]
    by_cases h : v.f0.toList = nm.toList
    · exact ev_pos h (ev_eq (ev_some _) (hyes ⟨v, by rw [hp]; simp, h⟩).symm)
    · rw [w64 (x := (p.length : Int) + 1) (by omega) (by omega)]
      have ih := names_loop nm l x0 x7 x8 x9 f1 f2 f3 f4 hl hno hyes r (p ++ [v]) (by simp [hp]) (fun y hy => by
        rcases List.mem_append.1 hy with hy | hy
        · exact hn y hy
        · rw [List.mem_singleton.1 hy]; exact h)
      rw [List.length_append, List.length_singleton] at ih
      exact ev_neg h ih
theorem rname_eq (s : ByteArray) (hs : s.size < 4611686018427387904) : parryref1_Name.f s = some (nameS s) := by
  unfold parryref1_Name.f maxLen
  rw [if_pos (by omega), ref_name]
theorem rmay_loop (l : List S28) (hs : Short l) : ∀ (r p : List S28), l = p ++ r → (∀ v ∈ p, Fine v) → Ev (fun k => parryref1_MayVars.l0 k l l (l.length : Int) (p.length : Int)) (mayFrom l r (p.length : Int))
  | [], p, hp, hf => by
    have e : l.length = p.length := by rw [hp]; simp
    have hfl : ∀ v ∈ l, Fine v := by rw [hp]; simpa using hf
    refine ev_step (fun k => rfl) (ev_neg (by omega) ?_)
    simp only [mayFrom]
    by_cases h6 : (l.length : Int) > 6
    · refine ev_pos h6 (ev_eq (ev_some _) ?_)
      rw [if_pos]
      unfold totalS
      rw [if_pos (by omega)]
    · refine ev_neg h6 (ev_bind (prod_ev l hs.len) ?_)
      rw [pmin_fine l 1 hfl (by omega) (by omega)]
      have ht : totalS l = if 1 * prodS l > 512 then 0 else 1 * prodS l := by
        unfold totalS
        rw [if_neg (by omega)]
        exact tot_val l 1 hfl (by omega) (by omega)
      have hq := prod_pos l hfl
      by_cases c : 1 * prodS l > 512
      · rw [if_pos c] at ht ⊢
        refine ev_pos (by omega) (ev_eq (ev_some _) ?_)
        rw [if_pos ht]
      · rw [if_neg c] at ht ⊢
        refine ev_neg c (ev_eq (ev_some _) ?_)
        rw [if_neg (by omega)]
  | v :: r, p, hp, hf => by
    have e : l.length = p.length + (r.length + 1) := by rw [hp]; simp
    have hl := hs.len
    have er : rd_T28 l (p.length : Int) = v := by rw [hp]; exact rv_app p v r
    have hv := hs.nm v (by rw [hp]; simp)
    have hsz := size_range v
    have hfind : (∃ y ∈ p, y.f0.toList = v.f0.toList) ↔ findFrom v.f0 l 0 < (p.length : Int) := by
      constructor
      · intro h
        have := (find_lt v.f0 p (v :: r) 0 h).2
        rw [← hp] at this
        omega
      · intro h
        by_cases c : ∃ y ∈ p, y.f0.toList = v.f0.toList
        · exact c
        · have := find_app v.f0 p v r 0 rfl (fun y hy he => c ⟨y, hy, he⟩)
          rw [← hp] at this
          omega
    -- behind the names
    have tail : nameS v.f0 = true → ¬ findFrom v.f0 l 0 < (p.length : Int) → Ev (fun k => parryref1_MayVars.j3 k l l (l.length : Int) (p.length : Int) v.f0 v.f1 v.f2 v.f3 v.f4) (mayFrom l (v :: r) (p.length : Int)) := by
      intro h1 h2
      simp only [mayFrom]
      rw [if_pos ⟨h1, h2⟩]
      have next : Fine v → Ev (fun k => parryref1_MayVars.l0 k l l (l.length : Int) (wrap64 ((p.length : Int) + 1))) (if sortedS v = 0 then mayFrom l r ((p.length : Int) + 1) else sortedS v) := by
        intro hv0
        have hv1 : sortedS v = 0 := hv0
        rw [if_pos hv1, w64 (x := (p.length : Int) + 1) (by omega) (by omega)]
        have ih := rmay_loop l hs r (p ++ [v]) (by simp [hp]) (fun y hy => by
          rcases List.mem_append.1 hy with hy | hy
          · exact hf y hy
          · rw [List.mem_singleton.1 hy]; exact hv0)
        rw [List.length_append, List.length_singleton] at ih
        exact ih
      by_cases c1 : v.f2 = 1
      · refine ev_step (fun k => rfl) (ev_pos c1 (ev_step (fun k => rfl) (ev_pos c1 ?_)))
        have s2 : sizeS v = 2 := by unfold sizeS; rw [if_pos c1]
        by_cases c3 : v.f3 = 0
        · refine ev_pos c3 (ev_step (fun k => rfl) (ev_bool (fun h => ?_) (fun h => ?_)))
          · refine ev_eq (ev_some _) ?_
            have h4 : v.f4 ≠ 0 := by simpa using h
            have s6 : sortedS v = 6 := by unfold sortedS; rw [if_neg (fun h => h.1 c1), if_pos (.inl ⟨c1, .inr h4⟩)]
            rw [s6]; rfl
          · have h4 : v.f4 = 0 := by simpa using h
            exact ev_bindv (rsize_eq v) (ev_neg (by omega) (next (fine_of (by omega) (fun _ => ⟨c3, h4⟩))))
        · refine ev_neg c3 (ev_step (fun k => rfl) (ev_eq (ev_some _) ?_))
          have s6 : sortedS v = 6 := by unfold sortedS; rw [if_neg (fun h => h.1 c1), if_pos (.inl ⟨c1, .inl c3⟩)]
          rw [s6]; rfl
      · refine ev_step (fun k => rfl) (ev_neg c1 (ev_step (fun k => rfl) (ev_bool (fun h => ?_) (fun h => ?_))))
        · have h4 : v.f2 ≠ 2 := by simpa using h
          refine ev_eq (ev_some _) ?_
          have s4 : sortedS v = 4 := by unfold sortedS; rw [if_pos ⟨c1, h4⟩]
          rw [s4]; rfl
        · have h4 : v.f2 = 2 := by simpa using h
          refine ev_neg c1 (ev_step (fun k => rfl) (ev_bindv (rsize_eq v) ?_))
          by_cases c0 : sizeS v = 0
          · refine ev_pos c0 (ev_eq (ev_some _) ?_)
            have s6 : sortedS v = 6 := by unfold sortedS; rw [if_neg (fun h => h.2 h4), if_pos (.inr ⟨h4, c0⟩)]
            rw [s6]; rfl
          · exact ev_neg c0 (next (fine_of c0 (fun h => absurd h c1)))
    have bad : ¬ (nameS v.f0 = true ∧ ¬ findFrom v.f0 l 0 < (p.length : Int)) → mayFrom l (v :: r) (p.length : Int) = 3 := by
      intro h
      simp only [mayFrom]
      rw [if_neg h]
    have tk : l.take ((p.length : Int)).toNat = p := by rw [Int.toNat_natCast, hp]; simp
    have lp : (l.take ((p.length : Int)).toNat).length = p.length := by rw [tk]
    refine ev_step (fun k => rfl) (ev_pos (by omega) (ev_pos (by omega) (ev_pos (by omega) ?_)))
    rw [er]
    refine ev_bindv (rname_eq v.f0 hv) (ev_bool (fun h1 => ?_) (fun h1 => ?_))
    · by_cases c6 : (p.length : Int) < 6
      · refine ev_pos c6 (ev_pos (by omega) ?_)
        rw [tk]
        refine ev_bind (rfind_ev v.f0 p (by omega)) (ev_step (fun k => rfl) (ev_bool (fun h => ?_) (fun h => ?_)))
        · refine ev_eq (ev_some _) (bad (fun g => g.2 (hfind.1 ?_))).symm
          have h2 : findFrom v.f0 p 0 ≥ 0 := of_decide_eq_true h
          by_cases c : ∃ y ∈ p, y.f0.toList = v.f0.toList
          · exact c
          · have := find_none v.f0 p 0 (fun y hy he => c ⟨y, hy, he⟩)
            omega
        · refine ev_neg (by omega) (tail h1 (fun g => ?_))
          have h2 : ¬ findFrom v.f0 p 0 ≥ 0 := of_decide_eq_false h
          have := (find_lt v.f0 p [] 0 (hfind.2 g)).1
          rw [List.append_nil] at this
          omega
      · refine ev_neg c6 (ev_step (fun k => rfl) (ev_pos (by omega) (ev_pos (by omega) (ev_pos (by omega) ?_))))
        rw [tk]
        refine ev_bindv rfl ?_
        exact names_loop v.f0 p l l (l.length : Int) (p.length : Int) v.f1 v.f2 v.f3 v.f4 (by omega) (fun hno => tail h1 (fun g => by
          obtain ⟨y, hy, he⟩ := hfind.2 g
          exact hno y hy he)) (fun hyes => bad (fun g => g.2 (hfind.1 hyes))) p [] rfl (fun y hy => by simp at hy)
    · exact ev_step (fun k => rfl) (ev_eq (ev_some _) (bad (fun g => by rw [h1] at g; exact absurd g.1 (by simp))).symm)
theorem rmay_ev (l : List S28) (hs : Short l) : Ev (fun k => parryref1_MayVars.f k l) (mayS l) := rmay_loop l hs l [] rfl (fun v hv => by simp at hv)

theorem tot_bad (l : List S28) (h : ∃ v ∈ l, ¬ Fine v) : totalS l = 0 := by
  unfold totalS
  split
  · rfl
  · by_cases c : totFrom 1 l = 0
    · exact c
    · obtain ⟨v, hv, hn⟩ := h
      exact absurd ((tot_fine l 1 (by omega) (by omega) c).1 v hv) hn
theorem may_else (l : List S28) : ∀ (r : List S28) (i : Int), (∀ v ∈ r, v ∈ l) → mayFrom l r i ≠ 0 → mayFrom l r i ≠ 3 → totalS l = 0
  | [], i, _, h1, h2 => by
    simp only [mayFrom] at h1 h2
    by_cases c : totalS l = 0
    · exact c
    · rw [if_neg c] at h1
      exact absurd rfl h1
  | v :: r, i, hm, h1, h2 => by
    simp only [mayFrom] at h1 h2
    by_cases c : nameS v.f0 = true ∧ ¬ findFrom v.f0 l 0 < i
    · rw [if_pos c] at h1 h2
      by_cases c2 : sortedS v = 0
      · rw [if_pos c2] at h1 h2
        exact may_else l r (i + 1) (fun y hy => hm y (by simp [hy])) h1 h2
      · exact tot_bad l ⟨v, hm v (by simp), c2⟩
    · rw [if_neg c] at h2
      exact absurd rfl h2
theorem rtotal_loop (l : List S28) (hs : Short l) {out : Int} (hbad : (∃ v ∈ l, ¬ Fine v) → out = 0) (hgood : (∀ v ∈ l, Fine v) → out = pmin 1 l) : ∀ (r p : List S28), l = p ++ r → (∀ v ∈ p, Fine v) → Ev (fun k => parryref1_Total.l0 k l l (l.length : Int) (p.length : Int)) out
  | [], p, hp, hf => by
    have e : l.length = p.length := by rw [hp]; simp
    exact ev_step (fun k => rfl) (ev_neg (by omega) (ev_bind (prod_ev l hs.len) (ev_eq (ev_some _) (hgood (by rw [hp]; simpa using hf)).symm)))
  | v :: r, p, hp, hf => by
    have e : l.length = p.length + (r.length + 1) := by rw [hp]; simp
    have hl := hs.len
    have er : rd_T28 l (p.length : Int) = v := by rw [hp]; exact rv_app p v r
    have hb : ¬ Fine v → out = 0 := fun h => hbad ⟨v, by rw [hp]; simp, h⟩
    have next : Fine v → Ev (fun k => parryref1_Total.l0 k l l (l.length : Int) (wrap64 ((p.length : Int) + 1))) out := by
      intro hv0
      rw [w64 (x := (p.length : Int) + 1) (by omega) (by omega)]
      have ih := rtotal_loop l hs hbad hgood r (p ++ [v]) (by simp [hp]) (fun y hy => by
        rcases List.mem_append.1 hy with hy | hy
        · exact hf y hy
        · rw [List.mem_singleton.1 hy]; exact hv0)
      rw [List.length_append, List.length_singleton] at ih
      exact ih
    refine ev_step (fun k => rfl) (ev_pos (by omega) (ev_pos (by omega) (ev_pos (by omega) ?_)))
    rw [er]
    refine ev_bindv (rsize_eq v) ?_
    by_cases c0 : sizeS v = 0
    · refine ev_pos c0 (ev_eq (ev_some _) (hb (fun h => ?_)).symm)
      have := fine_pos h
      omega
    · refine ev_neg c0 ?_
      by_cases c1 : v.f2 = 1
      · refine ev_pos c1 ?_
        by_cases c3 : v.f3 = 0
        · refine ev_pos c3 ?_
          by_cases c4 : v.f4 = 0
          · exact ev_pos c4 (next (fine_of c0 (fun _ => ⟨c3, c4⟩)))
          · refine ev_neg c4 (ev_eq (ev_some _) (hb (fun h => ?_)).symm)
            rcases fine_cases h with h | h <;> omega
        · refine ev_neg c3 (ev_eq (ev_some _) (hb (fun h => ?_)).symm)
          rcases fine_cases h with h | h <;> omega
      · exact ev_neg c1 (next (fine_of c0 (fun h => absurd h c1)))
theorem rtotal_ev (l : List S28) (hs : Short l) : Ev (fun k => parryref1_Total.f k l) (totalS l) := by
  unfold parryref1_Total.f
  refine ev_bind (rmay_ev l hs) ?_
  have go : Ev (fun k => parryref1_Total.j0 k l false) (totalS l) := by
    refine ev_step (fun k => rfl) ?_
    by_cases h6 : (l.length : Int) > 6
    · refine ev_pos h6 (ev_step (fun k => rfl) (ev_eq (ev_some _) ?_))
      unfold totalS; rw [if_pos (by omega)]
    · refine ev_neg h6 (ev_bind (prod_ev l hs.len) (ev_step (fun k => rfl) (ev_bool (fun h => ?_) (fun h => ?_))))
      · refine ev_eq (ev_some _) ?_
        have h5 : pmin 1 l > 512 := of_decide_eq_true h
        by_cases c : totalS l = 0
        · exact c.symm
        · exfalso
          have c2 : totFrom 1 l ≠ 0 := by unfold totalS at c; rw [if_neg (by omega)] at c; exact c
          obtain ⟨g1, g2, g3, g4⟩ := tot_fine l 1 (by omega) (by omega) c2
          rw [pmin_fine l 1 g1 (by omega) (by omega), if_neg (by omega)] at h5
          omega
      · have h5 : ¬ pmin 1 l > 512 := of_decide_eq_false h
        refine rtotal_loop l hs (tot_bad l) (fun hf => ?_) l [] rfl (fun v hv => by simp at hv)
        unfold totalS
        rw [if_neg (by omega), tot_val l 1 hf (by omega) (by omega)]
        rw [pmin_fine l 1 hf (by omega) (by omega)] at h5 ⊢
        by_cases c : 1 * prodS l > 512
        · rw [if_pos c] at h5; omega
        · rw [if_neg c, if_neg c]
  by_cases c : mayS l = 0
  · exact ev_pos c go
  · refine ev_neg c ?_
    by_cases c3 : mayS l = 3
    · have : (mayS l != 3) = false := by simp [c3]
      rw [this]; exact go
    · have : (mayS l != 3) = true := by simp [c3]
      rw [this]
      exact ev_step (fun k => rfl) (ev_eq (ev_some _) (may_else l l 0 (fun v hv => hv) c c3).symm)

theorem rvals_loop (l : List S28) (hl : l.length ≤ 6) (hf : ∀ v ∈ l, Fine v) : ∀ (r p : List S28) (s : Int) (acc : List Int), l = p ++ r → 0 ≤ s → s ≤ 512 → acc.length = p.length → Ev (fun k => parryref1_Values.l0 k s acc l (l.length : Int) (p.length : Int)) (acc ++ valsFrom r s, true)
  | [], p, s, acc, hp, _, _, _ => by
    have e : l.length = p.length := by rw [hp]; simp
    exact ev_step (fun k => rfl) (ev_neg (by omega) (ev_eq (ev_some _) (by simp [valsFrom])))
  | v :: r, p, s, acc, hp, h0, h5, ha => by
    have e : l.length = p.length + (r.length + 1) := by rw [hp]; simp
    have er : rd_T28 l (p.length : Int) = v := by rw [hp]; exact rv_app p v r
    have hv := hf v (by rw [hp]; simp)
    have h1 := fine_pos hv
    have h2 := fine_low hv
    have h3 := size_range v
    have hm0 : 0 ≤ s % sizeS v := Int.emod_nonneg _ (by omega)
    have hm1 : s % sizeS v < sizeS v := Int.emod_lt_of_pos _ (by omega)
    have hd0 : 0 ≤ s / sizeS v := Int.ediv_nonneg h0 (by omega)
    have hd1 : s / sizeS v ≤ s := Int.ediv_le_self _ h0
    refine ev_step (fun k => rfl) (ev_pos (by omega) (ev_pos (by omega) (ev_pos (by omega) ?_)))
    rw [er]
    refine ev_bindv (rsize_eq v) (ev_neg (by omega) (ev_pos (by omega) ?_))
    rw [Int.tdiv_eq_ediv_of_nonneg h0, Int.tmod_eq_emod_of_nonneg h0, w64 (x := s / sizeS v) (by omega) (by omega), w64 (x := s % sizeS v + v.f3) (by omega) (by omega), w64 (x := (p.length : Int) + 1) (by omega) (by omega)]
    have ih := rvals_loop l hl hf r (p ++ [v]) (s / sizeS v) (acc ++ [s % sizeS v + v.f3]) (by simp [hp]) hd0 (by omega) (by simp [ha])
    rw [List.length_append, List.length_singleton] at ih
    refine ev_eq ih ?_
    simp only [valsFrom, List.append_assoc, List.singleton_append]
    rw [Int.add_comm (s % sizeS v) v.f3, h2.2.2.1]
theorem rvalues_yes {l : List S28} (hs : Short l) {s : Int} (h : isState l s) : Ev (fun k => parryref1_Values.f k l s) (valsFrom l s, true) := by
  obtain ⟨h1, h2, h3⟩ := h
  have ok := may_ok h1
  unfold parryref1_Values.f
  have h512 := ok.hi
  refine ev_bind (rmay_ev l hs) (ev_pos h1 (ev_neg (by omega) (ev_bind (rtotal_ev l hs) (ev_step (fun k => rfl) (ev_neg ?_ (ev_eq (rvals_loop l ok.len ok.fine l [] s [] rfl h2 (by omega) rfl) (by simp)))))))
  rw [ok.tot]; simp; omega
theorem rvalues_no {l : List S28} (hs : Short l) {s : Int} (h : ¬ isState l s) : Ev (fun k => parryref1_Values.f k l s) ([], false) := by
  unfold parryref1_Values.f
  refine ev_bind (rmay_ev l hs) ?_
  by_cases h1 : mayS l = 0
  · refine ev_pos h1 ?_
    have ok := may_ok h1
    by_cases h2 : s < 0
    · exact ev_pos h2 (ev_step (fun k => rfl) (ev_some _))
    · refine ev_neg h2 (ev_bind (rtotal_ev l hs) ?_)
      rw [ok.tot]
      have h3 : s ≥ prodS l := by
        by_cases h4 : s < prodS l
        · exact absurd ⟨h1, by omega, h4⟩ h
        · omega
      rw [decide_eq_true h3]
      exact ev_step (fun k => rfl) (ev_some _)
  · exact ev_neg h1 (ev_step (fun k => rfl) (ev_some _))
theorem rstate_loop (l : List S28) (vs : List Int) (ok : MayOk l) (hlen : vs.length = l.length) : ∀ (r p : List S28) (q xs : List Int) (acc : Int), l = p ++ r → vs = q ++ xs → q.length = p.length → inR p q = true → 0 ≤ acc → acc < prodS p → (inR r xs = true → stS l vs = acc + prodS p * stS r xs) → Ev (fun k => parryref1_State.l0 k vs acc (prodS p) l (l.length : Int) (p.length : Int)) (if inR l vs = true then (stS l vs, true) else (0, false))
  | [], p, q, xs, acc, hp, hq, h1, hr, h0, h5, ha => by
    have e : l.length = p.length := by rw [hp]; simp
    obtain rfl : xs = [] := List.length_eq_zero_iff.1 (by rw [hq, List.length_append] at hlen; omega)
    have hin : inR l vs = true := by rw [hp, hq]; simpa using hr
    rw [if_pos hin, ha rfl]
    exact ev_step (fun k => rfl) (ev_neg (by omega) (ev_eq (ev_some _) (by simp [stS])))
  | v :: r, p, q, [], acc, hp, hq, h1, hr, h0, h5, ha => by
    exfalso
    rw [hp, hq] at hlen
    simp at hlen
    omega
  | v :: r, p, q, x :: xs, acc, hp, hq, h1, hr, h0, h5, ha => by
    have e : l.length = p.length + (r.length + 1) := by rw [hp]; simp
    have h6 := ok.len
    have er : rd_T28 l (p.length : Int) = v := by rw [hp]; exact rv_app p v r
    have ex : rd vs (p.length : Int) = x := by rw [hq]; exact rd_app2 q x xs _ h1
    have hv := ok.fine v (by rw [hp]; simp)
    have f1 := fine_pos hv
    have f2 := fine_low hv
    have f3 := size_range v
    have g1 := prod_pos p (fun y hy => ok.fine y (by rw [hp]; exact List.mem_append_left _ hy))
    have g2 := prod_pos r (fun y hy => ok.fine y (by rw [hp]; simp [hy]))
    have g4 : prodS p * (sizeS v * prodS r) ≤ 512 := by
      have := ok.hi
      rw [hp, prod_app] at this
      exact this
    have g5 : prodS p * sizeS v ≤ 512 := by
      have hh : 0 ≤ prodS p * sizeS v := Int.mul_nonneg (by omega) (by omega)
      have := Int.mul_le_mul_of_nonneg_left g2 hh
      have ha2 : prodS p * sizeS v * prodS r = prodS p * (sizeS v * prodS r) := Int.mul_assoc _ _ _
      omega
    have g6 : prodS p ≤ 512 := by
      have := Int.mul_le_mul_of_nonneg_left f1 (show 0 ≤ prodS p by omega)
      omega
    have hin : inR l vs = (inR p q && (decide (lowS v ≤ x) && (decide (x ≤ lowS v + sizeS v - 1) && inR r xs))) := by
      rw [hp, hq, inR_app p (v :: r) q (x :: xs) h1.symm]
      rfl
    refine ev_step (fun k => rfl) (ev_pos (by omega) (ev_pos (by omega) (ev_pos (by omega) (ev_pos (by omega) ?_))))
    rw [er, ex]
    by_cases c1 : x < v.f3
    · rw [hin, decide_eq_false (p := lowS v ≤ x) (by omega)]
      exact ev_pos c1 (ev_eq (ev_some _) (by simp))
    · refine ev_neg c1 (ev_bindv (rsize_eq v) ?_)
      rw [w64 (x := v.f3 + sizeS v) (by omega) (by omega)]
      by_cases c2 : x ≥ v.f3 + sizeS v
      · rw [hin, decide_eq_false (p := x ≤ lowS v + sizeS v - 1) (by omega)]
        exact ev_pos c2 (ev_eq (ev_some _) (by simp))
      · refine ev_neg c2 (ev_bindv (rsize_eq v) ?_)
        have hb0 : 0 ≤ (x - v.f3) * prodS p := Int.mul_nonneg (by omega) (by omega)
        have hb1 : (x - v.f3) * prodS p ≤ (sizeS v - 1) * prodS p := Int.mul_le_mul_of_nonneg_right (by omega) (by omega)
        have hb2 : (sizeS v - 1) * prodS p = prodS p * sizeS v - prodS p := by rw [Int.sub_mul, Int.one_mul, Int.mul_comm]
        rw [w64 (x := x - v.f3) (by omega) (by omega), w64 (x := (x - v.f3) * prodS p) (by omega) (by omega), w64 (x := acc + (x - v.f3) * prodS p) (by omega) (by omega), w64 (x := prodS p * sizeS v) (by omega) (by omega), w64 (x := (p.length : Int) + 1) (by omega) (by omega)]
        have ih := rstate_loop l vs ok hlen r (p ++ [v]) (q ++ [x]) xs (acc + (x - v.f3) * prodS p) (by simp [hp]) (by simp [hq]) (by simp [h1]) (by
          rw [inR_app p [v] q [x] h1.symm, hr]
          simp only [inR]
          rw [decide_eq_true (p := lowS v ≤ x) (by omega), decide_eq_true (p := x ≤ lowS v + sizeS v - 1) (by omega)]; rfl) (by omega) (by rw [prod_app]; simp only [prodS, Int.mul_one]; omega) (fun c3 => by
            have hst := ha (by simp only [inR]; rw [decide_eq_true (p := lowS v ≤ x) (by omega), decide_eq_true (p := x ≤ lowS v + sizeS v - 1) (by omega), c3]; rfl)
            rw [hst, prod_app]
            simp only [stS, prodS, Int.mul_one]
            rw [f2.2.2.1, Int.mul_sub, Int.mul_add, Int.sub_mul, Int.mul_comm (prodS p) x, Int.mul_comm (prodS p) v.f3, Int.mul_comm (stS r xs) (sizeS v), ← Int.mul_assoc]
            omega)
        rw [List.length_append, List.length_singleton, prod_app] at ih
        simp only [prodS, Int.mul_one] at ih
        exact ev_eq ih rfl
theorem rstate_ev {l : List S28} (hs : Short l) {vs : List Int} (hm : mayS l = 0) : Ev (fun k => parryref1_State.f k l vs) (if inR l vs = true then (stS l vs, true) else (0, false)) := by
  have ok := may_ok hm
  unfold parryref1_State.f
  refine ev_bind (rmay_ev l hs) (ev_pos hm (ev_step (fun k => rfl) ?_))
  by_cases h : vs.length = l.length
  · refine ev_neg (by simp; omega) ?_
    exact rstate_loop l vs ok h l [] [] vs 0 rfl rfl rfl rfl (by omega) (by simp [prodS]) (fun _ => by simp [prodS])
  · refine ev_pos (by simp; omega) (ev_eq (ev_some _) ?_)
    rw [if_neg (fun h2 => h (inR_len l vs h2))]
theorem rstate_no {l : List S28} (hs : Short l) {vs : List Int} (hm : mayS l ≠ 0) : Ev (fun k => parryref1_State.f k l vs) (0, false) := by
  unfold parryref1_State.f
  exact ev_bind (rmay_ev l hs) (ev_neg hm (ev_step (fun k => rfl) (ev_some _)))
theorem rwith_no {l : List S28} (hs : Short l) {s v x : Int} (h : ¬ isState l s ∨ v < 0 ∨ (l.length : Int) ≤ v) : Ev (fun k => parryref1_With.f k l s v x) (0, false) := by
  unfold parryref1_With.f
  by_cases h1 : isState l s
  · refine ev_bind (rvalues_yes hs h1) (ev_pos rfl ?_)
    by_cases h2 : v < 0
    · exact ev_pos h2 (ev_some _)
    · refine ev_neg h2 (ev_pos ?_ (ev_some _))
      rcases h with h | h | h
      · exact absurd h1 h
      · exact absurd h h2
      · exact h
  · exact ev_bind (rvalues_no hs h1) (ev_neg (by simp) (ev_some _))
theorem rwith_yes {l : List S28} (hs : Short l) {s v x : Int} (h : isState l s) (h0 : 0 ≤ v) (h1 : v < l.length) : Ev (fun k => parryref1_With.f k l s v x) (if inR l ((valsFrom l s).set v.toNat x) = true then (stS l ((valsFrom l s).set v.toNat x), true) else (0, false)) := by
  unfold parryref1_With.f
  refine ev_bind (rvalues_yes hs h) (ev_pos rfl (ev_neg (by omega) (ev_neg (by omega) (ev_pos h0 (ev_pos (by simp only [vals_len]; exact h1) (ev_bind (rstate_ev hs h.1) (ev_eq (ev_some _) ?_)))))))
  split <;> rfl
theorem rpart_loop (l : List S28) (hs : Short l) (hm : mayS l = 0) (env : Bool) : ∀ (r p : List S28) (q xs : List Int) (out : Int), l = p ++ r → q.length = p.length → xs.length = r.length → (∀ k0 : Int, k0 = out → inR l (q ++ partS env r xs) = true → k0 = stS l (q ++ partS env r xs)) → inR l (q ++ partS env r xs) = true → Ev (fun k => parryref1_Part.l0 k l env (q ++ xs) l (l.length : Int) (p.length : Int)) out
  | [], p, q, xs, out, hp, hq, hx, ho, hin => by
    have e : l.length = p.length := by rw [hp]; simp
    obtain rfl := List.length_eq_zero_iff.1 hx
    have := ho out rfl hin
    simp only [partS, List.append_nil] at hin this ⊢
    refine ev_step (fun k => rfl) (ev_neg (by omega) (ev_bind (rstate_ev hs hm) (ev_eq (ev_some _) ?_)))
    rw [if_pos hin, this]
  | v :: r, p, q, [], out, hp, hq, hx, ho, hin => by simp at hx
  | v :: r, p, q, x :: xs, out, hp, hq, hx, ho, hin => by
    have e : l.length = p.length + (r.length + 1) := by rw [hp]; simp
    have h6 := (may_ok hm).len
    have er : rd_T28 l (p.length : Int) = v := by rw [hp]; exact rv_app p v r
    have hlow := (fine_low ((may_ok hm).fine v (by rw [hp]; simp))).2.2.1
    have hx' : xs.length = r.length := by simpa using hx
    refine ev_step (fun k => rfl) (ev_pos (by omega) (ev_pos (by omega) (ev_pos (by omega) ?_)))
    rw [er]
    by_cases c : v.f1 = env
    · refine ev_neg (by simp [c]) ?_
      rw [w64 (x := (p.length : Int) + 1) (by omega) (by omega)]
      have ih := rpart_loop l hs hm env r (p ++ [v]) (q ++ [x]) xs out (by simp [hp]) (by simp [hq]) hx' (by simpa [partS, c] using ho) (by simpa [partS, c] using hin)
      simpa using ih
    · refine ev_pos (by simp [c]) (ev_pos (by simp; omega) ?_)
      rw [w64 (x := (p.length : Int) + 1) (by omega) (by omega), ← hlow]
      have ih := rpart_loop l hs hm env r (p ++ [v]) (q ++ [lowS v]) xs out (by simp [hp]) (by simp [hq]) hx' (by simpa [partS, c] using ho) (by simpa [partS, c] using hin)
      have e2 : (q ++ x :: xs).set ((p.length : Int)).toNat (lowS v) = q ++ [lowS v] ++ xs := by
        rw [Int.toNat_natCast, ← hq]
        simp
      rw [e2]
      simpa using ih
theorem rpart_yes {l : List S28} (hs : Short l) {s : Int} (h : isState l s) (env : Bool) : Ev (fun k => parryref1_Part.f k l s env) (stS l (partS env l (valsFrom l s))) := by
  have ok := may_ok h.1
  unfold parryref1_Part.f
  refine ev_bind (rvalues_yes hs h) (ev_pos rfl ?_)
  have hin := part_in env l _ ok.fine (vals_in l s ok.fine)
  exact rpart_loop l hs h.1 env l [] [] (valsFrom l s) _ (by simp) rfl (vals_len l s) (fun k0 e _ => by simpa using e) (by simpa using hin)
theorem rpart_no {l : List S28} (hs : Short l) {s : Int} (h : ¬ isState l s) (env : Bool) : Ev (fun k => parryref1_Part.f k l s env) (-1) := by
  unfold parryref1_Part.f
  exact ev_bind (rvalues_no hs h) (ev_neg (by simp) (ev_some _))

theorem same_loop (a : List Int) (ha : a.length < 4611686018427387904) : ∀ (r p : List Int), a = p ++ r → Ev (fun k => parryref9_SameInts.l0 k a a (a.length : Int) (p.length : Int)) true
  | [], p, hp => by
    have e : a.length = p.length := by rw [hp]; simp
    exact ev_step (fun k => rfl) (ev_neg (by omega) (ev_some _))
  | v :: r, p, hp => by
    have e : a.length = p.length + (r.length + 1) := by rw [hp]; simp
    have ih := same_loop a ha r (p ++ [v]) (by simp [hp])
    rw [List.length_append, List.length_singleton] at ih
    refine ev_step (fun k => rfl) (ev_pos (by omega) (ev_pos (by omega) (ev_pos (by omega) (ev_pos (by omega) (ev_pos rfl ?_)))))
    rw [w64 (x := (p.length : Int) + 1) (by omega) (by omega)]
    exact ih
theorem same_ev (a : List Int) (ha : a.length < 4611686018427387904) : Ev (fun k => parryref9_SameInts.f k a a) true := by
  unfold parryref9_SameInts.f
  exact ev_pos rfl (same_loop a ha a [] rfl)
end Go.Proofs.Ytofmfnbiondplaa.Dm

namespace Go.Proofs.Ytofmfnbiondplaa.Pu
open Go.RowKit Go.Proofs.YtofmfnbiondplaaW.PrintWords Go.Proofs.Ytofmfnbiondplaa.P Go.Proofs.Ytofmfnbiondplaa.Evx Go.Proofs.Ytofmfnbiondplaa.Dm Go.Proofs.Ytofmfnbiondplaa.Ki
theorem forms_with {l : List S28} (hs : Short l) (s v x : Int) : ∃ w, Ev (fun k => dom_With.f k l s v x) w ∧ Ev (fun k => parryref1_With.f k l s v x) w := by
  by_cases h1 : isState l s
  · by_cases h2 : 0 ≤ v
    · by_cases h3 : v < l.length
      · exact ⟨_, with_yes hs h1 h2 h3, rwith_yes hs h1 h2 h3⟩
      · exact ⟨_, with_no hs (.inr (.inr (by omega))), rwith_no hs (.inr (.inr (by omega)))⟩
    · exact ⟨_, with_no hs (.inr (.inl (by omega))), rwith_no hs (.inr (.inl (by omega)))⟩
  · exact ⟨_, with_no hs (.inl h1), rwith_no hs (.inl h1)⟩
theorem forms_vals {l : List S28} (hs : Short l) (s : Int) : ∃ w : List Int × Bool, w.1.length ≤ l.length ∧ Ev (fun k => dom_Values.f k l s) w ∧ Ev (fun k => parryref1_Values.f k l s) w := by
  by_cases h1 : isState l s
  · exact ⟨_, by simp [vals_len], values_yes hs h1, rvalues_yes hs h1⟩
  · exact ⟨_, by simp, values_no hs h1, rvalues_no hs h1⟩
theorem forms_state {l : List S28} (hs : Short l) (vs : List Int) : ∃ w, Ev (fun k => dom_State.f k l vs) w ∧ Ev (fun k => parryref1_State.f k l vs) w := by
  by_cases h1 : mayS l = 0
  · exact ⟨_, state_ev hs h1, rstate_ev hs h1⟩
  · exact ⟨_, state_no hs h1, rstate_no hs h1⟩
theorem forms_part {l : List S28} (hs : Short l) (s : Int) (env : Bool) : ∃ w, Ev (fun k => dom_Part.f k l s env) w ∧ Ev (fun k => parryref1_Part.f k l s env) w := by
  by_cases h1 : isState l s
  · exact ⟨_, part_yes hs h1 env, rpart_yes hs h1 env⟩
  · exact ⟨_, part_no hs h1 env, rpart_no hs h1 env⟩
theorem ev_awakeF {f : Bool → Option Bool} (h : f true = some true) : Ev (fun k => (parrylaw1_awake.f k).bind f) true := ev_bind awake_ev (ev_eq (Ev.congr (fun _ => h) (ev_some true)) rfl)
theorem DomForms_pure (l0 : List (S28)) (g0 : G22 l0) (a1 : Int) (_w1 : (Lit.int .i64 a1).wf = true) (l2 : List (Int)) (_g2 : G30 l2) (a3 : Int) (_w3 : (Lit.int .i64 a3).wf = true) (a4 : Int) (_w4 : (Lit.int .i64 a4).wf = true) (a5 : Bool) (a6 : ByteArray) (_w6 : a6.size ≤ reachBytes) : ∃ k, parrylaw1_DomForms.f k l0 a1 l2 a3 a4 a5 a6 = some true := by
  apply Ev.rounds
  have hs := short_of g0
  have off : Ev (fun k => parrylaw1_DomForms.j0 k l0 a1 l2 a3 a4 a5 a6 true) true := ev_step (fun k => rfl) (ev_awakeF rfl)
  have h2 : Ev (fun k => parrylaw1_DomForms.j2 k l0 a1 a5 a6 false) true := by
    obtain ⟨w, g1, g2⟩ := forms_part hs a1 a5
    exact ev_step (fun k => rfl) (ev_bind g1 (ev_bind g2 (ev_pos rfl (ev_bindv (find_eq l0 a6 hs.len) (ev_bind (rfind_ev a6 l0 hs.len) (ev_pos rfl (ev_awakeF rfl)))))))
  have h1 : Ev (fun k => parrylaw1_DomForms.j1 k l0 a1 a5 a6 false) true := by
    refine ev_step (fun k => rfl) ?_
    by_cases c : (l0.length : Int) > 0
    · refine ev_pos c (ev_pos c (ev_bindv (size_eq _) (ev_bindv (rsize_eq _) ?_)))
      have e : (sizeS (rd_T28 l0 0) != sizeS (rd_T28 l0 0)) = false := by simp
      rw [e]
      exact h2
    · exact ev_neg c h2
  have on : Ev (fun k => parrylaw1_DomForms.j0 k l0 a1 l2 a3 a4 a5 a6 false) true := by
    obtain ⟨⟨v1, v2⟩, hv, gv1, gv2⟩ := forms_vals hs a1
    obtain ⟨⟨s1, s2⟩, gs1, gs2⟩ := forms_state hs l2
    obtain ⟨⟨t1, t2⟩, gt1, gt2⟩ := forms_with hs a1 a3 a4
    have e1 : (v2 != v2) = false := by simp
    have e2 : (s2 != s2) = false := by simp
    have e3 : (t2 != t2) = false := by simp
    have hl := hs.len
    refine ev_step (fun k => rfl) (ev_bind gv1 (ev_bind gv2 (ev_bind gs1 (ev_bind gs2 (ev_bind gt1 (ev_bind gt2 (ev_bind (may_ev l0 hs) (ev_bind (rmay_ev l0 hs) (ev_pos rfl (ev_bind (total_ev l0 hs.len) (ev_bind (rtotal_ev l0 hs) (ev_pos rfl (ev_bind (same_ev v1 (by simp only at hv; omega)) (ev_pos rfl ?_))))))))))))))
    simp only [e1, e2, e3]
    exact ev_neg (by simp) (ev_pos trivial (ev_neg (by simp) (ev_pos trivial h1)))
  unfold parrylaw1_DomForms.f
  obtain ⟨h, g1, g2, g3⟩ := heavy_ev l0 hs
  refine ev_bind g1 ?_
  by_cases hh : h > 0
  · exact ev_pos hh off
  · refine ev_neg hh ?_
    by_cases h20 : (l2.length : Int) > 20
    · exact ev_pos h20 off
    · refine ev_neg h20 ?_
      cases decide ((a6.size : Int) > 100) with
      | true => exact off
      | false => exact on
end Go.Proofs.Ytofmfnbiondplaa.Pu

