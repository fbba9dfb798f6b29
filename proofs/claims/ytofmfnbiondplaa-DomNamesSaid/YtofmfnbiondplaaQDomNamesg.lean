/- A part of the claim DomNames. -/
import Derived.ChangeArms
import Derived.SizedLaws
import Derived.WideShapes
import Derived.Test.YtofmfnbiondplaaQDomNamesa
import Derived.Test.YtofmfnbiondplaaQDomNamesb
import Derived.Test.YtofmfnbiondplaaQDomNamesc
import Derived.Test.YtofmfnbiondplaaQDomNamesd
import Derived.Test.YtofmfnbiondplaaQDomNamese
import Derived.Test.YtofmfnbiondplaaQDomNamesf
namespace Go.Proofs.Ytofmfnbiondplaa.Op
open Go.RowKit Go.Proofs.YtofmfnbiondplaaW.PrintWords

def Opens (N : Nat) (P : Program) (T : TypeId) {α : Type} (d : Kd α) (G : α → Prop) : Prop :=
  ∀ (H : Type) (enc : TypeId × Value → H) (W : World) (base : Nat) (spare : Nat → Bool) (held : Bool) (fuel : Nat) (cs : List Value) (x : DataW H × List MemPlace),
    fuel ≤ N → DataW.trod enc P W base spare held fuel T cs = some x → (∀ n ∈ x.1.weights P T, n ≤ reachBytes) → ∃ y, d.K W y cs ∧ G y

theorem Opens.mono {N M : Nat} {P : Program} {T : TypeId} {α : Type} {d : Kd α} {G : α → Prop} (h : Opens N P T d G) (hm : M ≤ N) : Opens M P T d G :=
  fun H enc W base spare held fuel cs x hf => h H enc W base spare held fuel cs x (Nat.le_trans hf hm)

theorem opens_int {N : Nat} {P : Program} {T : TypeId} {k : IntKind} (ht : P.underlying T = some (.int k)) : Opens N P T (Kd.int k) (fun n => (Lit.int k n).wf = true) := by
  intro H enc W base spare held fuel cs x _ h _
  obtain ⟨n, rfl, _, hw⟩ := DataW.trod_int ht h
  exact ⟨n, rfl, hw⟩
theorem opens_bool {N : Nat} {P : Program} {T : TypeId} (ht : P.underlying T = some .bool) : Opens N P T Kd.bool (fun _ => True) := by
  intro H enc W base spare held fuel cs x _ h _
  obtain ⟨n, rfl, _⟩ := DataW.trod_bool ht h
  exact ⟨n, rfl, trivial⟩
theorem opens_string {N : Nat} {P : Program} {T : TypeId} (ht : P.underlying T = some .string) : Opens N P T Kd.string (fun s => s.size ≤ reachBytes) := by
  intro H enc W base spare held fuel cs x _ h hw
  obtain ⟨s, rfl, rfl, _⟩ := DataW.trod_string ht h
  refine ⟨s, rfl, hw _ ?_⟩
  simp [DataW.weights]
theorem weightsAll_mem {H : Type} {P : Program} {e : TypeId} : ∀ {l : List (DataW H)} {i : Nat} {d : DataW H}, l[i]? = some d → ∀ n ∈ d.weights P e, n ∈ DataW.weightsAll P e l
  | [], i, d, h => by simp at h
  | a :: r, 0, d, h => fun n hn => by
    simp at h
    subst h
    simp only [DataW.weightsAll, List.mem_append]
    exact .inl hn
  | a :: r, i + 1, d, h => fun n hn => by
    simp only [DataW.weightsAll, List.mem_append]
    exact .inr (weightsAll_mem (by simpa using h) n hn)
theorem choose_list {α : Type} {p : Nat → α → Prop} : ∀ n, (∀ i, i < n → ∃ x, p i x) → ∃ l : List α, l.length = n ∧ ∀ i x, l[i]? = some x → p i x
  | 0, _ => ⟨[], rfl, fun i x h => by simp at h⟩
  | n + 1, h => by
    obtain ⟨l, hl, hp⟩ := choose_list n (fun i hi => h i (by omega))
    obtain ⟨x, hx⟩ := h n (by omega)
    refine ⟨l ++ [x], by simp [hl], fun i y hy => ?_⟩
    rcases Nat.lt_or_ge i l.length with hi | hi
    · rw [List.getElem?_append_left hi] at hy
      exact hp i y hy
    · rw [List.getElem?_append_right hi] at hy
      have hi0 : i - l.length = 0 := by
        rcases Nat.eq_zero_or_pos (i - l.length) with h0 | h0
        · exact h0
        · rw [List.getElem?_eq_none (by simp; omega)] at hy
          cases hy
      rw [hi0] at hy
      simp at hy
      subst hy
      rw [show i = n by omega]
      exact hx
theorem opens_slice {N : Nat} {P : Program} {T e : TypeId} {α : Type} {d : Kd α} {G : α → Prop} (ht : P.underlying T = some (.slice e)) (hsz : P.cellsOf e = d.sz) (hd : Opens N P e d G) :
    Opens (N + 1) P T (Kd.slice e d) (fun xs => (∀ x ∈ xs, G x) ∧ xs.length * P.bytesOf e ≤ reachBytes) := by
  intro H enc W base spare held fuel cs x hN h hw
  rcases DataW.trod_slice ht h with ⟨rfl, rfl⟩ | ⟨a, len, cap, elems, rest, n, rfl, rfl, rfl, hb, hl, hm, hlen, hel, _, _⟩
  · exact ⟨[], ⟨none, 0, rfl, by simp, ⟨rfl, by simp, fun h => absurd h (Nat.lt_irrefl 0)⟩⟩, fun x hx => by simp at hx, by simp⟩
  · have hw2 : ∀ m ∈ (DataW.slice (elems.map (·.1)) (rest.map (·.1)) : DataW H).weights P T, m ≤ reachBytes := hw
    simp only [DataW.weights, ht, List.mem_cons, List.mem_append] at hw2
    have one : ∀ i, i < len → ∃ y : α, G y ∧ ∃ c : List Value, c.length = d.sz ∧ d.K W y c ∧ ∀ j u, c[j]? = some u → W.cell? (a.add (i * d.sz + j)) = some u := by
      intro i hi
      have hi2 := hel i hi
      rw [List.getElem?_eq_getElem (by omega)] at hi2
      obtain ⟨c, h1, h2⟩ := Option.bind_eq_some_iff.1 hi2
      obtain ⟨y, hK, hG⟩ := hd H enc W base spare held n c _ (by omega) h2 (fun m hm2 => hw2 m (.inr (.inl (weightsAll_mem (i := i) (by simp [List.getElem?_eq_getElem (show i < elems.length by omega)]) m hm2))))
      obtain ⟨_, h3, h4⟩ := World.cells?_some h1
      refine ⟨y, hG, c, by rw [h3, hsz], hK, fun j u hu => ?_⟩
      have hj : j < c.length := (List.getElem?_eq_some_iff.1 hu).1
      have h5 := h4 j (by omega)
      rw [hu] at h5
      have e1 : (a.add (i * P.cellsOf e)).add j = a.add (i * d.sz + j) := by
        rw [hsz]
        unfold Addr.add
        by_cases hi0 : i * d.sz = 0 <;> by_cases hj0 : j = 0 <;> simp [hi0, hj0, Nat.add_assoc]
      rw [← e1]
      exact h5
    obtain ⟨l, hl2, hp⟩ := choose_list len one
    refine ⟨l, ⟨some a, cap, by rw [hl2], by omega, ⟨rfl, by unfold maxLen at hm; omega, fun _ => ⟨a, rfl, fun j p hj => (hp j p hj).2⟩⟩⟩, fun x hx => ?_, ?_⟩
    · obtain ⟨i, hi⟩ := List.getElem?_of_mem hx
      exact (hp i x hi).1
    · have h6 := hw2 _ (.inl rfl)
      simp only [List.length_map] at h6
      rw [hl2]
      exact Nat.le_trans (Nat.mul_le_mul_right _ (by omega)) h6

/-- Fields that lie side by side from cell o on, n cells in all. -/
def OpensF (N : Nat) (P : Program) (fs : List Field) (o n : Nat) {α : Type} (d : Kd α) (G : α → Prop) : Prop :=
  ∀ (H : Type) (enc : TypeId × Value → H) (W : World) (base : Nat) (spare : Nat → Bool) (held : Bool) (fuel : Nat) (cs : List Value) (xs : List (DataW H × List MemPlace)),
    fuel ≤ N → xs.length = fs.length → (∀ (i : Nat) (f : Field), fs[i]? = some f → DataW.trod enc P W base spare held fuel f.type ((cs.drop f.offset).take (P.cellsOf f.type)) = xs[i]?) →
    (∀ m ∈ DataW.weightsEach P (fs.map (·.type)) (xs.map (·.1)), m ≤ reachBytes) → ∃ y, d.K W y ((cs.drop o).take n) ∧ G y
theorem opensF_one {N : Nat} {P : Program} {f : Field} {o n : Nat} {α : Type} {d : Kd α} {G : α → Prop} (ho : f.offset = o) (hn : P.cellsOf f.type = n) (h : Opens N P f.type d G) : OpensF N P [f] o n d G := by
  intro H enc W base spare held fuel cs xs hN hl hx hw
  obtain ⟨x, rfl⟩ : ∃ x, xs = [x] := by
    match xs, hl with
    | [x], _ => exact ⟨x, rfl⟩
  have h1 := hx 0 f rfl
  rw [ho, hn] at h1
  exact h H enc W base spare held fuel _ x hN h1 (fun m hm => hw m (by simpa [DataW.weightsEach] using hm))
theorem opensF_cons {N : Nat} {P : Program} {f : Field} {fs : List Field} {o a n : Nat} {α β : Type} {d : Kd α} {d' : Kd β} {G : α → Prop} {G' : β → Prop} (ho : f.offset = o) (ha : P.cellsOf f.type = a) (h : Opens N P f.type d G) (hr : OpensF N P fs (o + a) n d' G') :
    OpensF N P (f :: fs) o (a + n) (Kd.pair d d') (fun y => G y.1 ∧ G' y.2) := by
  intro H enc W base spare held fuel cs xs hN hl hx hw
  match xs, hl with
  | x :: xs, hl =>
    have h1 := hx 0 f rfl
    rw [ho, ha] at h1
    simp only [List.map_cons, DataW.weightsEach, List.mem_append] at hw
    obtain ⟨y, hy, gy⟩ := h H enc W base spare held fuel _ x hN h1 (fun m hm => hw m (.inl hm))
    obtain ⟨z, hz, gz⟩ := hr H enc W base spare held fuel cs xs hN (by simpa using hl) (fun i g hg => by simpa using hx (i + 1) g (by simpa using hg)) (fun m hm => hw m (.inr hm))
    refine ⟨(y, z), ⟨_, _, ?_, hy, hz⟩, gy, gz⟩
    rw [List.take_add, List.drop_drop]
theorem opens_struct {N : Nat} {P : Program} {T : TypeId} {fs : List Field} {n : Nat} {α β : Type} {d : Kd α} {G : α → Prop} (ht : P.underlying T = some (.struct fs.toArray)) (hn : P.cellsOf T = n) (f : β → α) (g : α → β) (hg : ∀ y, f (g y) = y)
    (h : OpensF N P fs 0 n d G) : Opens (N + 1) P T (Kd.iso d f) (fun y => G (f y)) := by
  intro H enc W base spare held fuel cs x hN hx hw
  obtain ⟨xs, m, rfl, rfl, hl, hlx, hf⟩ := DataW.trod_struct ht hx
  obtain ⟨y, hy, gy⟩ := h H enc W base spare held m cs xs (by omega) (by simpa using hlx) (fun i f0 hi => hf i f0 (by simpa using hi)) (fun k hk => hw k (by
    simp only [DataW.weights, ht]
    exact hk))
  refine ⟨g y, ?_, ?_⟩
  · show d.K W (f (g y)) cs
    rw [hg]
    rw [← hn, ← hl, List.drop_zero, List.take_length] at hy
    exact hy
  · show G (f (g y))
    rw [hg]
    exact gy
theorem Opens.imp {N : Nat} {P : Program} {T : TypeId} {α : Type} {d : Kd α} {G G' : α → Prop} (h : Opens N P T d G) (hi : ∀ y, G y → G' y) : Opens N P T d G' := by
  intro H enc W base spare held fuel cs x hN hx hw
  obtain ⟨y, hy, gy⟩ := h H enc W base spare held fuel cs x hN hx hw
  exact ⟨y, hy, hi y gy⟩
theorem bytes_le {a b n r : Nat} (e : a = b) (h : n * a ≤ r) : n * b ≤ r := e ▸ h
/-- An argument. -/
theorem opened {P : Program} {T : TypeId} {α : Type} {d : Kd α} {G : α → Prop} (h : ∀ N, Opens N P T d G) {H : Type} {enc : TypeId × Value → H} {W : World} {base : Nat} {spare : Nat → Bool} {held : Bool} {v : Value} {x : DataW H} {p : List MemPlace} (ht : DataW.Trod enc P W base spare held T v x p)
    {ts : List TypeId} {ds : List (DataW H)} {j : Nat} (hz : (DataW.weightsEach P ts ds).all (· ≤ reachBytes) = true) (hj : ts[j]? = some T) (hd : ds[j]? = some x) : ∃ y, d.K W y v.cells.toList ∧ G y := by
  obtain ⟨fuel, hf⟩ := ht
  exact h fuel H enc W base spare held fuel _ _ (Nat.le_refl _) hf (fun n hn => by
    have := List.all_eq_true.1 hz n (DataW.weights_mem_each hj hd n hn)
    simpa using this)
end Go.Proofs.Ytofmfnbiondplaa.Op

namespace Go.Proofs.Ytofmfnbiondplaa.Ki
open Go.RowKit Go.Proofs.YtofmfnbiondplaaW.PrintWords Go.Proofs.Ytofmfnbiondplaa.Op Go.Proofs.Ytofmfnbiondplaa.P
def G28 (s : S28) : Prop := s.f0.size ≤ reachBytes ∧ True ∧ (Lit.int .i64 s.f2).wf = true ∧ (Lit.int .i64 s.f3).wf = true ∧ (Lit.int .i64 s.f4).wf = true
theorem op28 (N : Nat) : Opens N Try.prog 28 k28 G28 := by
  refine Opens.mono (N := N + 1) ?_ (Nat.le_succ N)
  unfold k28
  have h0 := opens_struct (N := N) Try.underlying28 (n := 5) (by kernel_rfl) (fun x : S28 => (x.f0, x.f1, x.f2, x.f3, x.f4)) (fun y : ByteArray × Bool × Int × Int × Int => (⟨y.1, y.2.1, y.2.2.1, y.2.2.2.1, y.2.2.2.2⟩ : S28)) (fun _ => rfl) (opensF_cons (a := 1) (n := 4) rfl (by kernel_rfl) (opens_string Try.underlying9) (opensF_cons (a := 1) (n := 3) rfl (by kernel_rfl) (opens_bool Try.underlying4) (opensF_cons (a := 1) (n := 2) rfl (by kernel_rfl) (opens_int Try.underlying3) (opensF_cons (a := 1) (n := 1) rfl (by kernel_rfl) (opens_int Try.underlying3) (opensF_one (n := 1) rfl (by kernel_rfl) (opens_int Try.underlying3))))))
  exact Opens.imp h0 (fun s h => h)
def G22 (l : List (S28)) : Prop := (∀ x ∈ l, G28 x) ∧ l.length * 48 ≤ reachBytes
theorem op22 (N : Nat) : Opens N Try.prog 22 (Kd.slice 28 k28) G22 := ((opens_slice Try.underlying22 (by kernel_rfl) (op28 _)).imp (fun l h => ⟨h.1, bytes_le (by kernel_rfl : Try.prog.bytesOf 28 = 48) h.2⟩)).mono (Nat.le_succ N)
end Go.Proofs.Ytofmfnbiondplaa.Ki

namespace Go.Proofs.Ytofmfnbiondplaa.Evx
open Go.RowKit Go.Proofs.YtofmfnbiondplaaW.PrintWords
theorem w64 {x : Int} (h0 : -9223372036854775808 ≤ x) (h1 : x < 9223372036854775808) : wrap64 x = x := by unfold wrap64; omega
section
variable {α β : Type} {r : α}
theorem ev_pos {c : Prop} [Decidable c] {f g : Nat → Option α} (h : c) (k : Ev f r) : Ev (fun n => if c then f n else g n) r := Ev.congr (fun _ => if_pos h) k
theorem ev_neg {c : Prop} [Decidable c] {f g : Nat → Option α} (h : ¬ c) (k : Ev g r) : Ev (fun n => if c then f n else g n) r := Ev.congr (fun _ => if_neg h) k
theorem ev_bindv {g : Option β} {f : Nat → β → Option α} {a : β} (h : g = some a) (k : Ev (fun n => f n a) r) : Ev (fun n => g.bind (f n)) r := by subst h; exact k
theorem ev_bind {g : Nat → Option β} {f : Nat → β → Option α} {a : β} (h : Ev g a) (k : Ev (fun n => f n a) r) : Ev (fun n => (g n).bind (f n)) r := Ev.bind h k
theorem ev_some (r : α) : Ev (fun _ => some r) r := Ev.now r
theorem ev_tt {f g : Nat → Option α} (k : Ev f r) : Ev (fun n => if true = true then f n else g n) r := ev_pos rfl k
theorem ev_ff {f g : Nat → Option α} (k : Ev g r) : Ev (fun n => if false = true then f n else g n) r := ev_neg (by simp) k
/-- A test of a Bool either way. -/
theorem ev_bool {b : Bool} {f g : Nat → Option α} (h1 : b = true → Ev f r) (h2 : b = false → Ev g r) : Ev (fun n => if b = true then f n else g n) r := by
  cases b with
  | true => exact ev_tt (h1 rfl)
  | false => exact ev_ff (h2 rfl)
theorem ev_eq {f : Nat → Option α} {r' : α} (h : Ev f r') (e : r' = r) : Ev f r := e ▸ h
theorem ev_step {g f : Nat → Option α} (h : ∀ k, g (k + 1) = f k) (k : Ev f r) : Ev g r := Ev.step h k
end
theorem u64_range (x : Int) : 0 ≤ IntKind.u64.wrap x ∧ IntKind.u64.wrap x < 18446744073709551616 := by
  simp [IntKind.wrap, IntKind.bits, IntKind.signed]
  omega
theorem u64_id {x : Int} (h : 0 ≤ x) (h2 : x < 18446744073709551616) : IntKind.u64.wrap x = x := by
  simp [IntKind.wrap, IntKind.bits, IntKind.signed]
  omega
/-- 'int(uint64(x) % uint64(n))' of a small n. -/
def pick (x n : Int) : Int := (IntKind.u64.wrap x) % n
theorem pick_range (x : Int) {n : Int} (h : 1 ≤ n) : 0 ≤ pick x n ∧ pick x n < n := ⟨Int.emod_nonneg _ (by omega), Int.emod_lt_of_pos _ (by omega)⟩
theorem pick_eq (x : Int) {n : Int} (h : 1 ≤ n) (h2 : n < 9223372036854775808) : wrap64 (Int.tmod (IntKind.u64.wrap x) (IntKind.u64.wrap n)) = pick x n := by
  have hr := pick_range x h
  rw [u64_id (x := n) (by omega) (by omega), Int.tmod_eq_emod_of_nonneg (u64_range x).1]
  exact w64 (by unfold pick at hr; omega) (by unfold pick at hr; omega)
end Go.Proofs.Ytofmfnbiondplaa.Evx

namespace Go.Proofs.Ytofmfnbiondplaa.Dm
open Go.RowKit Go.Proofs.YtofmfnbiondplaaW.PrintWords Go.Proofs.YtofmfnbiondplaaW.PrintMore Go.Proofs.Ytofmfnbiondplaa.P Go.Proofs.Ytofmfnbiondplaa.X Go.Proofs.Ytofmfnbiondplaa.Evx

theorem rv_app (p : List S28) (x : S28) (r : List S28) : rd_T28 (p ++ x :: r) (p.length : Int) = x := by
  unfold rd_T28
  rw [Int.toNat_natCast, List.getD_eq_getElem?_getD, List.getElem?_append_right (Nat.le_refl _), Nat.sub_self]; rfl
theorem rv_nat (l : List S28) (n : Nat) : rd_T28 l (n : Int) = l.getD n z28 := by unfold rd_T28; rw [Int.toNat_natCast]

def sizeS (v : S28) : Int := if v.f2 = 1 then 2 else if v.f2 = 2 ∧ -1000 ≤ v.f3 ∧ v.f3 ≤ v.f4 ∧ v.f4 ≤ 1000 then v.f4 - v.f3 + 1 else 0
theorem size_eq (v : S28) : dom_Size.f v.f0 v.f1 v.f2 v.f3 v.f4 = some (sizeS v) := by
  unfold dom_Size.f sizeS
  by_cases h1 : v.f2 = 1
  · simp [h1]
  · rw [if_neg h1, if_neg h1]
    by_cases h2 : v.f2 = 2
    · rw [if_pos h2]
      by_cases h3 : v.f3 ≥ -1000
      · rw [if_pos h3]
        by_cases h4 : v.f3 ≤ v.f4
        · rw [if_pos h4]
          by_cases h5 : v.f4 ≤ 1000
          · rw [if_pos h5, if_pos ⟨h2, h3, h4, h5⟩, w64 (x := v.f4 - v.f3) (by omega) (by omega), w64 (by omega) (by omega)]
          · rw [if_neg h5, if_neg (fun h => h5 h.2.2.2)]
        · rw [if_neg h4, if_neg (fun h => h4 h.2.2.1)]
      · rw [if_neg h3, if_neg (fun h => h3 h.2.1)]
    · rw [if_neg h2, if_neg (fun h => h2 h.1)]
theorem size_range (v : S28) : 0 ≤ sizeS v ∧ sizeS v ≤ 2001 := by unfold sizeS; split; omega; split <;> omega
def lowS (v : S28) : Int := if v.f2 = 1 then 0 else v.f3
def sortedS (v : S28) : Int := if v.f2 ≠ 1 ∧ v.f2 ≠ 2 then 4 else if (v.f2 = 1 ∧ (v.f3 ≠ 0 ∨ v.f4 ≠ 0)) ∨ (v.f2 = 2 ∧ sizeS v = 0) then 6 else 0
theorem sorted_ev (v : S28) : Ev (fun k => dom_sorted.f k v.f0 v.f1 v.f2 v.f3 v.f4) (sortedS v) := by
  unfold dom_sorted.f sortedS
  by_cases h1 : v.f2 = 1
  · have h2 : ¬ v.f2 = 2 := by omega
    rw [if_neg (fun h => h.1 h1)]
    refine ev_pos h1 (ev_step (fun k => rfl) (ev_pos h1 ?_))
    by_cases h3 : v.f3 = 0
    · refine ev_pos h3 (ev_step (fun k => rfl) ?_)
      by_cases h4 : v.f4 = 0
      · refine ev_neg (by simp [h4]) (ev_neg h2 (ev_eq (ev_some _) ?_))
        rw [if_neg]; simp [h3, h4, h2]
      · refine ev_pos (by simp [h4]) (ev_eq (ev_some _) ?_)
        rw [if_pos]; exact .inl ⟨h1, .inr h4⟩
    · refine ev_neg h3 (ev_step (fun k => rfl) (ev_eq (ev_some _) ?_))
      rw [if_pos]; exact .inl ⟨h1, .inl h3⟩
  · refine ev_neg h1 (ev_step (fun k => rfl) ?_)
    by_cases h2 : v.f2 = 2
    · rw [if_neg (fun h => h.2 h2)]
      refine ev_neg (by simp [h2]) (ev_neg h1 (ev_step (fun k => rfl) (ev_pos h2 (ev_bindv (size_eq v) ?_))))
      by_cases h3 : sizeS v = 0
      · refine ev_pos h3 (ev_eq (ev_some _) ?_)
        rw [if_pos]; exact .inr ⟨h2, h3⟩
      · refine ev_neg h3 (ev_eq (ev_some _) ?_)
        rw [if_neg]; simp [h1, h3]
    · rw [if_pos ⟨h1, h2⟩]
      exact ev_pos (by simp [h2]) (ev_some _)
/-- A variable that may be, but for its name. -/
def Fine (v : S28) : Prop := sortedS v = 0
theorem fine_cases {v : S28} (h : Fine v) : (v.f2 = 1 ∧ v.f3 = 0 ∧ v.f4 = 0 ∧ sizeS v = 2 ∧ lowS v = 0) ∨ (v.f2 = 2 ∧ -1000 ≤ v.f3 ∧ v.f3 ≤ v.f4 ∧ v.f4 ≤ 1000 ∧ sizeS v = v.f4 - v.f3 + 1 ∧ lowS v = v.f3) := by
  unfold Fine sortedS at h
  split at h
  · omega
  · rename_i h1
    split at h
    · omega
    · rename_i h2
      by_cases h3 : v.f2 = 1
      · refine .inl ⟨h3, ?_, ?_, by simp [sizeS, h3], by simp [lowS, h3]⟩
        · by_cases h4 : v.f3 = 0
          · exact h4
          · exact absurd (.inl ⟨h3, .inl h4⟩) h2
        · by_cases h4 : v.f4 = 0
          · exact h4
          · exact absurd (.inl ⟨h3, .inr h4⟩) h2
      · have h4 : v.f2 = 2 := by
          by_cases h5 : v.f2 = 2
          · exact h5
          · exact absurd ⟨h3, h5⟩ h1
        have h5 : sizeS v ≠ 0 := fun h6 => h2 (.inr ⟨h4, h6⟩)
        have h6 : -1000 ≤ v.f3 ∧ v.f3 ≤ v.f4 ∧ v.f4 ≤ 1000 := by
          by_cases h7 : -1000 ≤ v.f3 ∧ v.f3 ≤ v.f4 ∧ v.f4 ≤ 1000
          · exact h7
          · refine absurd ?_ h5
            unfold sizeS
            rw [if_neg h3, if_neg (fun h => h7 h.2)]
        refine .inr ⟨h4, h6.1, h6.2.1, h6.2.2, ?_, by simp [lowS, h3]⟩
        unfold sizeS
        rw [if_neg h3, if_pos ⟨h4, h6⟩]
theorem fine_pos {v : S28} (h : Fine v) : 1 ≤ sizeS v := by rcases fine_cases h with h | h <;> omega
def totFrom : Int → List S28 → Int
  | n, [] => n
  | n, v :: r => if sortedS v = 0 then (if n * sizeS v > 512 then 0 else totFrom (n * sizeS v) r) else 0
def totalS (l : List S28) : Int := if l.length > 6 then 0 else totFrom 1 l
theorem total_loop (l : List S28) (hl : l.length < 4611686018427387904) : ∀ (r p : List S28) (n : Int), l = p ++ r → 0 ≤ n → n ≤ 512 → Ev (fun k => dom_Total.l0 k n l (l.length : Int) (p.length : Int)) (totFrom n r)
  | [], p, n, hp, h0, h1 => by
    have e : l.length = p.length := by rw [hp]; simp
    exact ev_step (fun k => rfl) (ev_neg (by omega) (ev_some _))
  | v :: r, p, n, hp, h0, h1 => by
    have e : l.length = p.length + (r.length + 1) := by rw [hp]; simp
    have er : rd_T28 l (p.length : Int) = v := by rw [hp]; exact rv_app p v r
    have hs := size_range v
    refine ev_step (fun k => rfl) (ev_pos (by omega) (ev_pos (by omega) (ev_pos (by omega) ?_)))
    rw [er]
    refine ev_bind (sorted_ev v) ?_
    simp only [totFrom]
    by_cases h2 : sortedS v = 0
    · rw [if_pos h2]
      refine ev_pos h2 (ev_bindv (size_eq v) ?_)
      have hb : 0 ≤ n * sizeS v := Int.mul_nonneg h0 hs.1
      have hc : n * sizeS v ≤ 512 * 2001 := Int.mul_le_mul h1 hs.2 hs.1 (by omega)
      rw [w64 (x := n * sizeS v) (by omega) (by omega)]
      by_cases h3 : n * sizeS v > 512
      · rw [if_pos h3]
        exact ev_pos h3 (ev_some _)
      · rw [if_neg h3, w64 (x := (p.length : Int) + 1) (by omega) (by omega)]
        have := total_loop l hl r (p ++ [v]) (n * sizeS v) (by simp [hp]) hb (by omega)
        rw [List.length_append, List.length_singleton] at this
        exact ev_neg h3 this
    · rw [if_neg h2]
      exact ev_neg h2 (ev_some _)
theorem total_ev (l : List S28) (hl : l.length < 4611686018427387904) : Ev (fun k => dom_Total.f k l) (totalS l) := by
  unfold dom_Total.f totalS
  by_cases h : l.length > 6
  · rw [if_pos h]
    exact ev_pos (by omega) (ev_some _)
  · rw [if_neg h]
    exact ev_neg (by omega) (total_loop l hl l [] 1 rfl (by omega) (by omega))
def prodS : List S28 → Int
  | [] => 1
  | v :: r => sizeS v * prodS r
theorem tot_fine : ∀ (l : List S28) (n : Int), 1 ≤ n → n ≤ 512 → totFrom n l ≠ 0 → (∀ v ∈ l, Fine v) ∧ totFrom n l = n * prodS l ∧ n * prodS l ≤ 512 ∧ 1 ≤ prodS l
  | [], n, h1, h5, _ => ⟨fun v hv => by simp at hv, by simp [totFrom, prodS], by simp [prodS]; exact h5, by simp [prodS]⟩
  | v :: r, n, h1, h5, h => by
    simp only [totFrom] at h ⊢
    by_cases h2 : sortedS v = 0
    · rw [if_pos h2] at h ⊢
      by_cases h3 : n * sizeS v > 512
      · rw [if_pos h3] at h
        exact absurd rfl h
      · rw [if_neg h3] at h ⊢
        have hp := fine_pos h2
        have hb : 1 ≤ n * sizeS v := by
          have := Int.mul_le_mul h1 hp (by omega) (by omega)
          omega
        obtain ⟨g1, g2, g3, g4⟩ := tot_fine r (n * sizeS v) hb (by omega) h
        refine ⟨fun x hx => ?_, ?_, ?_, ?_⟩
        · rcases List.mem_cons.1 hx with rfl | hx
          · exact h2
          · exact g1 x hx
        · rw [g2, prodS, Int.mul_assoc]
        · rw [prodS, ← Int.mul_assoc]; exact g3
        · rw [prodS]
          have := Int.mul_le_mul hp g4 (by omega) (by omega)
          omega
    · rw [if_neg h2] at h
      exact absurd rfl h

theorem find_eq (l : List S28) (a : ByteArray) (hl : l.length < 4611686018427387904) : dom_Find.f l a = some (findFrom a l 0) := by
  unfold dom_Find.f maxLen
  rw [if_pos (by omega)]
/-- The first place of a name that is there. -/
theorem find_app (a : ByteArray) : ∀ (p : List S28) (x : S28) (r : List S28) (i : Int), x.f0.toList = a.toList → (∀ y ∈ p, y.f0.toList ≠ a.toList) → findFrom a (p ++ x :: r) i = i + p.length
  | [], x, r, i, hx, _ => by simp [findFrom, hx]
  | y :: p, x, r, i, hx, hp => by
    simp only [List.cons_append, findFrom]
    rw [if_neg (hp y (by simp)), find_app a p x r (i + 1) hx (fun z hz => hp z (by simp [hz]))]
    simp; omega
theorem find_none (a : ByteArray) : ∀ (l : List S28) (i : Int), (∀ y ∈ l, y.f0.toList ≠ a.toList) → findFrom a l i = -1
  | [], _, _ => rfl
  | y :: p, i, hp => by
    simp only [findFrom]
    rw [if_neg (hp y (by simp)), find_none a p (i + 1) (fun z hz => hp z (by simp [hz]))]

def nmFrom (s : ByteArray) (i : Nat) : Nat → Bool
  | 0 => true
  | d + 1 => ((decide (97 ≤ bt s i) && decide (bt s i ≤ 122)) || (decide (0 < i) && ((decide (48 ≤ bt s i) && decide (bt s i ≤ 57)) || decide (bt s i = 95)))) && nmFrom s (i + 1) d
def inWords (s : ByteArray) : List ByteArray → Bool
  | [] => false
  | w :: r => decide (w.toList = s.toList) || inWords s r
def wordsL : List ByteArray := (dom_words.f).getD []
def nameS (s : ByteArray) : Bool := decide (1 ≤ s.size) && (decide (s.size ≤ 16) && (!inWords s wordsL && nmFrom s 0 s.size))
theorem index_loop (l : List ByteArray) (a : ByteArray) (hl : l.length < 4611686018427387904) : ∀ (r p : List ByteArray), l = p ++ r → ∃ x : Int, Ev (fun k => slices_Index_string_string.l0 k l a (l.length : Int) (p.length : Int)) x ∧ (0 ≤ x ↔ inWords a r = true)
  | [], p, hp => by
    have e : l.length = p.length := by rw [hp]; simp
    exact ⟨-1, ev_step (fun k => rfl) (ev_neg (by omega) (ev_some _)), by simp [inWords]⟩
  | v :: r, p, hp => by
    have e : l.length = p.length + (r.length + 1) := by rw [hp]; simp
    have er : rdOf ByteArray.empty l (p.length : Int) = v := by
      rw [hp]; unfold rdOf
      rw [Int.toNat_natCast, List.getD_eq_getElem?_getD, List.getElem?_append_right (Nat.le_refl _), Nat.sub_self]; rfl
    by_cases h : a.toList = v.toList
    · refine ⟨p.length, ev_step (fun k => rfl) (ev_pos (by omega) (ev_pos (by omega) (ev_pos (by omega) (ev_pos (by rw [er]; exact h) (ev_some _))))), ?_⟩
      simp [inWords, h]
    · obtain ⟨x, hx, h2⟩ := index_loop l a hl r (p ++ [v]) (by simp [hp])
      rw [List.length_append, List.length_singleton] at hx
      refine ⟨x, ev_step (fun k => rfl) (ev_pos (by omega) (ev_pos (by omega) (ev_pos (by omega) (ev_neg (by rw [er]; exact h) ?_)))), ?_⟩
      · rw [w64 (x := (p.length : Int) + 1) (by omega) (by omega)]
        exact hx
      · rw [h2]
        have : ¬ v.toList = a.toList := fun h3 => h h3.symm
        simp [inWords, this]
theorem contains_ev (l : List ByteArray) (a : ByteArray) (hl : l.length < 4611686018427387904) : Ev (fun k => slices_Contains_string_string.f k l a) (inWords a l) := by
  obtain ⟨x, hx, h2⟩ := index_loop l a hl l [] rfl
  unfold slices_Contains_string_string.f
  refine ev_bind (g := fun k => slices_Index_string_string.f k l a) hx (ev_eq (ev_some _) ?_)
  by_cases h : 0 ≤ x
  · rw [h2.1 h]; simp; exact h
  · have : inWords a l = false := by
      cases h3 : inWords a l with
      | true => exact absurd (h2.2 h3) h
      | false => rfl
    rw [this]; simp; omega
theorem name_loop (s : ByteArray) (hs : s.size < 4611686018427387904) : ∀ (d i : Nat), i + d = s.size → Ev (fun k => dom_name.l0 k s (s.size : Int) (i : Int)) (nmFrom s i d)
  | 0, i, h => ev_step (fun k => rfl) (ev_neg (by omega) (ev_some _))
  | d + 1, i, h => by
    have ih := name_loop s hs d (i + 1) (by omega)
    have e1 : wrap64 ((i : Int) + 1) = ((i + 1 : Nat) : Int) := by rw [w64 (by omega) (by omega)]; simp
    have go : ∀ (b : Bool), b = (decide (97 ≤ bt s i) && decide (bt s i ≤ 122)) → Ev (fun k => dom_name.j2 k s (i : Int) (bt s i) (s.size : Int) (i : Int) b) (nmFrom s i (d + 1)) := by
      intro b hb
      simp only [nmFrom]
      rw [← hb]
      refine ev_step (fun k => rfl) ?_
      refine ev_bool (fun hb1 => ?_) (fun hb0 => ?_)
      · rw [e1, hb1]
        exact ev_eq ih (by simp)
      · rw [hb0]
        by_cases h0 : (i : Int) > 0
        · have h0' : 0 < i := by omega
          refine ev_pos h0 ?_
          by_cases h3 : bt s i = 95
          · by_cases h1 : bt s i ≥ 48
            · refine ev_pos h1 (ev_neg (by omega) (ev_pos h3 ?_))
              rw [e1]
              exact ev_eq ih (by simp [h0', h3])
            · exact absurd h3 (by omega)
          · by_cases h1 : bt s i ≥ 48
            · by_cases h2 : bt s i ≤ 57
              · refine ev_pos h1 (ev_pos h2 ?_)
                rw [e1]
                exact ev_eq ih (by simp [h0', h1, h2])
              · refine ev_pos h1 (ev_neg h2 (ev_neg h3 (ev_eq (ev_some _) ?_)))
                rw [decide_eq_false (p := bt s i ≤ 57) (by omega), decide_eq_false (p := bt s i = 95) h3]
                simp
            · refine ev_neg h1 (ev_neg h3 (ev_eq (ev_some _) ?_))
              rw [decide_eq_false (p := 48 ≤ bt s i) (by omega), decide_eq_false (p := bt s i = 95) h3]
              simp
        · refine ev_neg h0 (ev_eq (ev_some _) ?_)
          rw [decide_eq_false (p := 0 < i) (by omega)]
          simp
    refine ev_step (fun k => rfl) (ev_pos (by omega) (ev_pos (by omega) (ev_pos (by omega) ?_)))
    by_cases h1 : bt s i ≥ 97
    · refine ev_pos h1 (go _ ?_)
      rw [decide_eq_true (p := 97 ≤ bt s i) h1]; rfl
    · refine ev_neg h1 (go _ ?_)
      rw [decide_eq_false (p := 97 ≤ bt s i) h1]; rfl
theorem words_eq : dom_words.f = some wordsL := rfl
theorem name_ev (s : ByteArray) (hs : s.size < 4611686018427387904) : Ev (fun k => dom_name.f k s) (nameS s) := by
  unfold dom_name.f nameS
  by_cases h1 : (s.size : Int) < 1
  · refine ev_pos h1 (ev_step (fun k => rfl) (ev_eq (ev_some _) ?_))
    rw [decide_eq_false (p := 1 ≤ s.size) (by omega)]; rfl
  · by_cases h2 : (s.size : Int) > 16
    · refine ev_neg h1 (ev_pos h2 (ev_step (fun k => rfl) (ev_eq (ev_some _) ?_)))
      rw [decide_eq_false (p := s.size ≤ 16) (by omega)]; simp
    · refine ev_neg h1 (ev_neg h2 (ev_bindv words_eq (ev_bind (contains_ev wordsL s (by show 18 < _; omega)) (ev_step (fun k => rfl) ?_))))
      rw [decide_eq_true (p := 1 ≤ s.size) (by omega), decide_eq_true (p := s.size ≤ 16) (by omega)]
      refine ev_bool (fun h3 => ev_eq (ev_some _) (by rw [h3]; rfl)) (fun h3 => ev_eq (name_loop s hs s.size 0 (by omega)) (by rw [h3]; rfl))
end Go.Proofs.Ytofmfnbiondplaa.Dm

namespace Go.Proofs.Ytofmfnbiondplaa.Dm
open Go.RowKit Go.Proofs.YtofmfnbiondplaaW.PrintWords Go.Proofs.YtofmfnbiondplaaW.PrintMore Go.Proofs.Ytofmfnbiondplaa.P Go.Proofs.Ytofmfnbiondplaa.X Go.Proofs.Ytofmfnbiondplaa.Evx

def mayFrom (l : List S28) : List S28 → Int → Int
  | [], _ => if totalS l = 0 then 7 else 0
  | v :: r, i => if nameS v.f0 = true ∧ ¬ findFrom v.f0 l 0 < i then (if sortedS v = 0 then mayFrom l r (i + 1) else sortedS v) else 3
def mayS (l : List S28) : Int := mayFrom l l 0
/-- Lists that are short enough to be walked. -/
structure Short (l : List S28) : Prop where
  len : l.length < 4611686018427387904
  nm : ∀ v ∈ l, v.f0.size < 4611686018427387904
theorem may_loop (l : List S28) (hs : Short l) : ∀ (r p : List S28), l = p ++ r → Ev (fun k => dom_May.l0 k l l (l.length : Int) (p.length : Int)) (mayFrom l r (p.length : Int))
  | [], p, hp => by
    have e : l.length = p.length := by rw [hp]; simp
    refine ev_step (fun k => rfl) (ev_neg (by omega) (ev_bind (total_ev l hs.len) ?_))
    simp only [mayFrom]
    by_cases h : totalS l = 0
    · exact ev_pos h (ev_eq (ev_some _) (if_pos h).symm)
    · exact ev_neg h (ev_eq (ev_some _) (if_neg h).symm)
  | v :: r, p, hp => by
    have e : l.length = p.length + (r.length + 1) := by rw [hp]; simp
    have hl := hs.len
    have er : rd_T28 l (p.length : Int) = v := by rw [hp]; exact rv_app p v r
    have hv := hs.nm v (by rw [hp]; simp)
    have ih := may_loop l hs r (p ++ [v]) (by simp [hp])
    rw [List.length_append, List.length_singleton] at ih
    have go : ∀ b : Bool, b = decide (¬ (nameS v.f0 = true ∧ ¬ findFrom v.f0 l 0 < (p.length : Int))) → Ev (fun k => dom_May.j1 k l l (l.length : Int) (p.length : Int) b v.f0 v.f1 v.f2 v.f3 v.f4) (mayFrom l (v :: r) (p.length : Int)) := by
      intro b hb
      simp only [mayFrom]
      refine ev_step (fun k => rfl) (ev_bool (fun h1 => ?_) (fun h1 => ?_))
      · rw [h1] at hb
        rw [if_neg (of_decide_eq_true hb.symm)]
        exact ev_some _
      · rw [h1] at hb
        rw [if_pos (Decidable.of_not_not (of_decide_eq_false hb.symm))]
        refine ev_bind (sorted_ev v) ?_
        by_cases h2 : sortedS v = 0
        · rw [if_pos h2, w64 (x := (p.length : Int) + 1) (by omega) (by omega)]
          exact ev_pos h2 ih
        · rw [if_neg h2]
          exact ev_neg h2 (ev_some _)
    refine ev_step (fun k => rfl) (ev_pos (by omega) (ev_pos (by omega) (ev_pos (by omega) ?_)))
    rw [er]
    refine ev_bind (name_ev v.f0 hv) (ev_bool (fun h1 => ev_bindv (find_eq l v.f0 hs.len) (go _ ?_)) (fun h1 => go _ ?_))
    · simp [h1]
    · simp [h1]
theorem may_ev (l : List S28) (hs : Short l) : Ev (fun k => dom_May.f k l) (mayS l) := may_loop l hs l [] rfl

/-- What a list of variables that may be is. -/
structure MayOk (l : List S28) : Prop where
  fine : ∀ v ∈ l, Fine v
  name : ∀ v ∈ l, nameS v.f0 = true
  tot : totalS l = prodS l
  lo : 1 ≤ prodS l
  hi : prodS l ≤ 512
  len : l.length ≤ 6
  apart : ∀ p v r, l = p ++ v :: r → ∀ y ∈ p, y.f0.toList ≠ v.f0.toList
theorem find_lt (a : ByteArray) : ∀ (p r : List S28) (i : Int), (∃ y ∈ p, y.f0.toList = a.toList) → i ≤ findFrom a (p ++ r) i ∧ findFrom a (p ++ r) i < i + p.length
  | [], r, i, ⟨y, hy, _⟩ => by simp at hy
  | x :: p, r, i, ⟨y, hy, he⟩ => by
    simp only [List.cons_append, findFrom]
    by_cases h : x.f0.toList = a.toList
    · rw [if_pos h]; simp; omega
    · rw [if_neg h]
      have := find_lt a p r (i + 1) (by
        rcases List.mem_cons.1 hy with rfl | hy
        · exact absurd he h
        · exact ⟨y, hy, he⟩)
      simp; omega
theorem may_walk (l : List S28) : ∀ (r p : List S28), l = p ++ r → mayFrom l r (p.length : Int) = 0 → (∀ v ∈ r, Fine v ∧ nameS v.f0 = true) ∧ totalS l ≠ 0 ∧ ∀ q v s, r = q ++ v :: s → ∀ y ∈ p ++ q, y.f0.toList ≠ v.f0.toList
  | [], p, hp, h => by
    simp only [mayFrom] at h
    refine ⟨fun v hv => by simp at hv, fun h0 => by rw [if_pos h0] at h; omega, fun q v s e => by simp at e⟩
  | v :: r, p, hp, h => by
    simp only [mayFrom] at h
    by_cases h1 : nameS v.f0 = true ∧ ¬ findFrom v.f0 l 0 < (p.length : Int)
    · rw [if_pos h1] at h
      by_cases h2 : sortedS v = 0
      · rw [if_pos h2] at h
        have ih := may_walk l r (p ++ [v]) (by simp [hp]) (by rw [List.length_append, List.length_singleton]; exact h)
        refine ⟨fun x hx => ?_, ih.2.1, fun q w s e y hy he => ?_⟩
        · rcases List.mem_cons.1 hx with rfl | hx
          · exact ⟨h2, h1.1⟩
          · exact ih.1 x hx
        · cases q with
          | nil =>
            simp at e
            rw [List.append_nil] at hy
            rw [← e.1] at he
            have := find_lt v.f0 p (v :: r) 0 ⟨y, hy, he⟩
            rw [← hp] at this
            exact h1.2 (by omega)
          | cons a q =>
            simp at e
            exact ih.2.2 q w s e.2 y (by rw [← e.1] at hy; simpa using hy) he
      · rw [if_neg h2] at h
        exact absurd h h2
    · rw [if_neg h1] at h
      omega
theorem may_ok {l : List S28} (h : mayS l = 0) : MayOk l := by
  obtain ⟨h1, h2, h3⟩ := may_walk l l [] rfl h
  have h4 : ¬ l.length > 6 := fun h4 => h2 (by unfold totalS; rw [if_pos h4])
  have h5 : totalS l = totFrom 1 l := by unfold totalS; rw [if_neg h4]
  obtain ⟨g1, g2, g3, g4⟩ := tot_fine l 1 (by omega) (by omega) (by rw [← h5]; exact h2)
  exact ⟨g1, fun v hv => (h1 v hv).2, by rw [h5, g2]; omega, g4, by omega, by omega, fun p v r e y hy => h3 p v r e y (by simpa using hy)⟩
theorem MayOk.find {l : List S28} (h : MayOk l) {p r : List S28} {v : S28} (e : l = p ++ v :: r) : findFrom v.f0 l 0 = p.length := by
  rw [e, find_app v.f0 p v r 0 rfl (fun y hy => h.apart p v r e y hy)]
  omega

theorem heavy_loop (l : List S28) (hs : Short l) : ∀ (r p : List S28), l = p ++ r → p.length ≤ 10 → ∃ h : Int, Ev (fun k => parrylaw1_Heavy.l0 k l (l.length : Int) (p.length : Int)) h ∧ 0 ≤ h ∧ (h = 0 → l.length ≤ 10 ∧ ∀ v ∈ r, v.f0.size ≤ 100)
  | [], p, hp, h10 => by
    have e : l.length = p.length := by rw [hp]; simp
    exact ⟨0, ev_step (fun k => rfl) (ev_neg (by omega) (ev_some _)), by omega, fun _ => ⟨by omega, fun v hv => by simp at hv⟩⟩
  | v :: r, p, hp, h10 => by
    have e : l.length = p.length + (r.length + 1) := by rw [hp]; simp
    have er : rd_T28 l (p.length : Int) = v := by rw [hp]; exact rv_app p v r
    have hw : wrap64 ((p.length : Int) + 1) = (p.length : Int) + 1 := w64 (by omega) (by omega)
    by_cases c1 : (p.length : Int) ≥ 10
    · exact ⟨_, ev_step (fun k => rfl) (ev_pos (by omega) (ev_pos (by omega) (ev_pos (by omega) (ev_pos c1 (ev_some _))))), by rw [hw]; omega, fun h => by rw [hw] at h; omega⟩
    · by_cases c2 : (v.f0.size : Int) > 100
      · refine ⟨_, ev_step (fun k => rfl) (ev_pos (by omega) (ev_pos (by omega) (ev_pos (by omega) (ev_neg c1 (ev_pos (by rw [er]; exact c2) (ev_some _)))))), by rw [hw]; omega, fun h => by rw [hw] at h; omega⟩
      · obtain ⟨h, h1, h2, h3⟩ := heavy_loop l hs r (p ++ [v]) (by simp [hp]) (by simp; omega)
        rw [List.length_append, List.length_singleton] at h1
        refine ⟨h, ev_step (fun k => rfl) (ev_pos (by omega) (ev_pos (by omega) (ev_pos (by omega) (ev_neg c1 (ev_neg (by rw [er]; exact c2) ?_))))), h2, fun h0 => ⟨(h3 h0).1, fun y hy => ?_⟩⟩
        · rw [hw]; exact h1
        · rcases List.mem_cons.1 hy with rfl | hy
          · omega
          · exact (h3 h0).2 y hy
theorem heavy_ev (l : List S28) (hs : Short l) : ∃ h : Int, Ev (fun k => parrylaw1_Heavy.f k l) h ∧ 0 ≤ h ∧ (h = 0 → l.length ≤ 10 ∧ ∀ v ∈ l, v.f0.size ≤ 100) := heavy_loop l hs l [] rfl (by simp)
theorem awake_at : parrylaw1_awake.f 40 = some true := by decide +kernel
theorem awake_ev : Ev (fun k => parrylaw1_awake.f k) true := Ev.of (fun k => parrylaw1_awake.mono k) awake_at
theorem short_of {l : List S28} (h : Ki.G22 l) : Short l := by
  obtain ⟨h1, h2⟩ := h
  unfold reachBytes at h2
  refine ⟨by omega, fun v hv => ?_⟩
  have := (h1 v hv).1
  unfold reachBytes at this
  omega
end Go.Proofs.Ytofmfnbiondplaa.Dm

namespace Go.Proofs.Ytofmfnbiondplaa.Pu
open Go.RowKit Go.Proofs.YtofmfnbiondplaaW.PrintWords Go.Proofs.Ytofmfnbiondplaa.P Go.Proofs.Ytofmfnbiondplaa.Evx Go.Proofs.Ytofmfnbiondplaa.Dm Go.Proofs.Ytofmfnbiondplaa.Ki Go.Proofs.Ytofmfnbiondplaa.X
theorem ev_awakeN {f : Bool → Option Bool} (h : f true = some true) : Ev (fun k => (parrylaw1_awake.f k).bind f) true := ev_bind awake_ev (ev_eq (Ev.congr (fun _ => h) (ev_some true)) rfl)
theorem tot_le : ∀ (l : List S28) (n : Int), n ≤ 512 → totFrom n l ≤ 512
  | [], n, h => h
  | v :: r, n, h => by
    simp only [totFrom]
    split
    · split
      · omega
      · exact tot_le r _ (by omega)
    · omega
/-- With a variable twice. -/
theorem twice_may (l : List S28) (ok : MayOk l) (v : S28) (hv : v ∈ l) : mayS (l ++ [v]) = 3 := by
  have key : ∀ (r p : List S28), l = p ++ r → mayFrom (l ++ [v]) (r ++ [v]) (p.length : Int) = 3 := by
    intro r
    induction r with
    | nil =>
      intro p hp
      simp only [List.nil_append, mayFrom]
      have h1 := find_lt v.f0 l [v] 0 ⟨v, hv, rfl⟩
      have e : l.length = p.length := by rw [hp]; simp
      rw [if_neg (fun h => h.2 (by omega))]
    | cons x r ih =>
      intro p hp
      have hx : x ∈ l := by rw [hp]; simp
      simp only [List.cons_append, mayFrom]
      have hf : findFrom x.f0 (l ++ [v]) 0 = p.length := by
        have e : l ++ [v] = p ++ x :: (r ++ [v]) := by rw [hp]; simp
        rw [e, find_app x.f0 p x _ 0 rfl (fun y hy => ok.apart p x r hp y hy)]
        omega
      rw [if_pos ⟨ok.name x hx, by omega⟩, if_pos (show sortedS x = 0 from ok.fine x hx)]
      have := ih (p ++ [x]) (by simp [hp])
      rw [List.length_append, List.length_singleton] at this
      exact this
  exact key l [] rfl
theorem toList_len (s : ByteArray) : s.toList.length = s.size := by rw [ByteArray.toList_eq, Array.length_toList]; rfl
theorem name_short {s : ByteArray} (h : nameS s = true) : s.size ≤ 16 := by
  unfold nameS at h
  simp only [Bool.and_eq_true, decide_eq_true_eq] at h
  exact h.2.1
theorem names_loop (l : List S28) (a1 : Int) (ok : MayOk l) (hl : l.length < 4611686018427387904) {out : Bool} (hend : Ev (fun k => parrylaw1_DomNames.l0 k l a1 l (l.length : Int) (l.length : Int)) out) : ∀ (r p : List S28), l = p ++ r → Ev (fun k => parrylaw1_DomNames.l0 k l a1 l (l.length : Int) (p.length : Int)) out
  | [], p, hp => by
    have e : l.length = p.length := by rw [hp]; simp
    rw [← e]; exact hend
  | v :: r, p, hp => by
    have e : l.length = p.length + (r.length + 1) := by rw [hp]; simp
    have er : rd_T28 l (p.length : Int) = v := by rw [hp]; exact rv_app p v r
    have ih := names_loop l a1 ok hl hend r (p ++ [v]) (by simp [hp])
    rw [List.length_append, List.length_singleton] at ih
    refine ev_step (fun k => rfl) (ev_pos (by omega) (ev_pos (by omega) (ev_pos (by omega) ?_)))
    rw [er]
    refine ev_bindv (find_eq l v.f0 hl) (ev_pos (ok.find hp) ?_)
    rw [w64 (x := (p.length : Int) + 1) (by omega) (by omega)]
    exact ih
theorem DomNames_pure (l0 : List (S28)) (g0 : G22 l0) (a1 : Int) (_w1 : (Lit.int .i64 a1).wf = true) : ∃ k, parrylaw1_DomNames.f k l0 a1 = some true := by
  apply Ev.rounds
  have hs := short_of g0
  have hsl := hs.len
  have off : ∀ b : Bool, b = true → Ev (fun k => parrylaw1_DomNames.j0 k l0 a1 b) true := fun b hb => by
    subst hb
    exact ev_step (fun k => rfl) (ev_awakeN rfl)
  unfold parrylaw1_DomNames.f
  obtain ⟨h, h1, h2, h3⟩ := heavy_ev l0 hs
  refine ev_bind h1 ?_
  by_cases hh : h > 0
  · exact ev_pos hh (off _ rfl)
  · refine ev_neg hh ?_
    by_cases hz : (l0.length : Int) = 0
    · exact ev_pos hz (off _ rfl)
    · refine ev_neg hz (ev_bind (may_ev l0 hs) ?_)
      by_cases hm : mayS l0 = 0
      · have ok := may_ok hm
        have h6 := ok.len
        rw [hm]
        refine ev_step (fun k => rfl) (names_loop l0 a1 ok hs.len ?_ l0 [] rfl)
        have hlo : (1 : Int) ≤ (l0.length : Int) := by omega
        have hp := pick_range a1 hlo
        have hpe := pick_eq a1 hlo (by omega)
        refine ev_step (fun k => rfl) (ev_neg (by omega) (ev_bindv rfl (ev_pos (by simp; omega) (ev_bindv rfl (ev_neg (by rw [u64_id (by omega) (by omega)]; omega) ?_)))))
        rw [hpe]
        refine ev_pos hp.1 (ev_pos hp.2 (ev_bindv rfl (ev_pos (by simp; omega) (ev_bindv rfl ?_))))
        obtain ⟨j, hj⟩ := Int.eq_ofNat_of_zero_le hp.1
        have hjl : j < l0.length := by have := hp.2; omega
        generalize hv : rd_T28 l0 (pick a1 (l0.length : Int)) = v
        have hvm : v ∈ l0 := by
          rw [← hv, hj]
          have := rv_nat l0 j
          rw [List.getD_eq_getElem?_getD, List.getElem?_eq_getElem hjl] at this
          rw [this]
          exact List.getElem_mem hjl
        have e1 : (([] ++ l0) ++ [(⟨v.f0, v.f1, v.f2, v.f3, v.f4⟩ : S28)]) = l0 ++ [v] := by simp
        rw [e1]
        have hs2 : Short (l0 ++ [v]) := ⟨by simp; omega, fun x hx => by
          rcases List.mem_append.1 hx with hx | hx
          · exact hs.nm x hx
          · rw [List.mem_singleton.1 hx]; exact hs.nm v hvm⟩
        refine ev_bind (may_ev _ hs2) (ev_pos (twice_may l0 ok v hvm) (ev_bindv (find_eq l0 _ hs.len) (ev_pos ?_ (ev_bind (total_ev _ hs2.len) (ev_pos ?_ (ev_awakeN rfl))))))
        · refine find_none _ l0 0 (fun y hy he => ?_)
          have g1 := name_short (ok.name y hy)
          have g2 := congrArg List.length he
          rw [toList_len, toList_len] at g2
          rw [g2] at g1
          exact absurd g1 (by decide)
        · unfold totalS
          split
          · omega
          · exact tot_le _ 1 (by omega)
      · exact off _ (by simp [hm])
end Go.Proofs.Ytofmfnbiondplaa.Pu

