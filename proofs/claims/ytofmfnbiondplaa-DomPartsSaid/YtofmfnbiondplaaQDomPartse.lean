/- A part of the claim DomParts. -/
import Derived.ChangeArms
import Derived.SizedLaws
import Derived.WideShapes
import Derived.Test.YtofmfnbiondplaaQDomPartsa
import Derived.Test.YtofmfnbiondplaaQDomPartsb
import Derived.Test.YtofmfnbiondplaaQDomPartsc
import Derived.Test.YtofmfnbiondplaaQDomPartsd
namespace Go.Proofs.Ytofmfnbiondplaa.Op
open Go.RowKit Go.Proofs.YtofmfnbiondplaaW.PrintWords

def Opens (N : Nat) (P : Program) (T : TypeId) {α : Type} (d : Kd α) (G : α → Prop) : Prop :=
  ∀ (H : Type) (enc : TypeId × Value → H) (W : World) (base : Nat) (spare : Nat → Bool) (held : Bool) (fuel : Nat) (cs : List Value) (x : DataW H × List MemPlace),
    fuel ≤ N → DataW.trod enc P W base spare held fuel T cs = some x → (∀ n ∈ x.1.weights P T, n ≤ reachBytes) → ∃ y, d.K W y cs ∧ G y

theorem Opens.mono {N M : Nat} {P : Program} {T : TypeId} {α : Type} {d : Kd α} {G : α → Prop} (h : Opens N P T d G) (hm : M ≤ N) : Opens M P T d G :=
  fun H enc W base spare held fuel cs x hf => h H enc W base spare held fuel cs x (Nat.le_trans hf hm)

theorem opens_int {N : Nat} {P : Program} {T : TypeId} {k : IntKind} (ht : P.underlying T = some (.int k)) : Opens N P T (Kd.int k) (fun n => (Lit.int k n).wf = true) := by
  intro H enc W base spare held fuel cs x _ h _
  obtain ⟨n, rfl, _, hw⟩ := DataW.trod_int ht h
  exact ⟨n, rfl, hw⟩
theorem opens_bool {N : Nat} {P : Program} {T : TypeId} (ht : P.underlying T = some .bool) : Opens N P T Kd.bool (fun _ => True) := by
  intro H enc W base spare held fuel cs x _ h _
  obtain ⟨n, rfl, _⟩ := DataW.trod_bool ht h
  exact ⟨n, rfl, trivial⟩
theorem opens_string {N : Nat} {P : Program} {T : TypeId} (ht : P.underlying T = some .string) : Opens N P T Kd.string (fun s => s.size ≤ reachBytes) := by
  intro H enc W base spare held fuel cs x _ h hw
  obtain ⟨s, rfl, rfl, _⟩ := DataW.trod_string ht h
  refine ⟨s, rfl, hw _ ?_⟩
  simp [DataW.weights]
theorem weightsAll_mem {H : Type} {P : Program} {e : TypeId} : ∀ {l : List (DataW H)} {i : Nat} {d : DataW H}, l[i]? = some d → ∀ n ∈ d.weights P e, n ∈ DataW.weightsAll P e l
  | [], i, d, h => by simp at h
  | a :: r, 0, d, h => fun n hn => by
    simp at h
    subst h
    simp only [DataW.weightsAll, List.mem_append]
    exact .inl hn
  | a :: r, i + 1, d, h => fun n hn => by
    simp only [DataW.weightsAll, List.mem_append]
    exact .inr (weightsAll_mem (by simpa using h) n hn)
theorem choose_list {α : Type} {p : Nat → α → Prop} : ∀ n, (∀ i, i < n → ∃ x, p i x) → ∃ l : List α, l.length = n ∧ ∀ i x, l[i]? = some x → p i x
  | 0, _ => ⟨[], rfl, fun i x h => by simp at h⟩
  | n + 1, h => by
    obtain ⟨l, hl, hp⟩ := choose_list n (fun i hi => h i (by omega))
    obtain ⟨x, hx⟩ := h n (by omega)
    refine ⟨l ++ [x], by simp [hl], fun i y hy => ?_⟩
    rcases Nat.lt_or_ge i l.length with hi | hi
    · rw [List.getElem?_append_left hi] at hy
      exact hp i y hy
    · rw [List.getElem?_append_right hi] at hy
      have hi0 : i - l.length = 0 := by
        rcases Nat.eq_zero_or_pos (i - l.length) with h0 | h0
        · exact h0
        · rw [List.getElem?_eq_none (by simp; omega)] at hy
          cases hy
      rw [hi0] at hy
      simp at hy
      subst hy
      rw [show i = n by omega]
      exact hx
theorem opens_slice {N : Nat} {P : Program} {T e : TypeId} {α : Type} {d : Kd α} {G : α → Prop} (ht : P.underlying T = some (.slice e)) (hsz : P.cellsOf e = d.sz) (hd : Opens N P e d G) :
    Opens (N + 1) P T (Kd.slice e d) (fun xs => (∀ x ∈ xs, G x) ∧ xs.length * P.bytesOf e ≤ reachBytes) := by
  intro H enc W base spare held fuel cs x hN h hw
  rcases DataW.trod_slice ht h with ⟨rfl, rfl⟩ | ⟨a, len, cap, elems, rest, n, rfl, rfl, rfl, hb, hl, hm, hlen, hel, _, _⟩
  · exact ⟨[], ⟨none, 0, rfl, by simp, ⟨rfl, by simp, fun h => absurd h (Nat.lt_irrefl 0)⟩⟩, fun x hx => by simp at hx, by simp⟩
  · have hw2 : ∀ m ∈ (DataW.slice (elems.map (·.1)) (rest.map (·.1)) : DataW H).weights P T, m ≤ reachBytes := hw
    simp only [DataW.weights, ht, List.mem_cons, List.mem_append] at hw2
    have one : ∀ i, i < len → ∃ y : α, G y ∧ ∃ c : List Value, c.length = d.sz ∧ d.K W y c ∧ ∀ j u, c[j]? = some u → W.cell? (a.add (i * d.sz + j)) = some u := by
      intro i hi
      have hi2 := hel i hi
      rw [List.getElem?_eq_getElem (by omega)] at hi2
      obtain ⟨c, h1, h2⟩ := Option.bind_eq_some_iff.1 hi2
      obtain ⟨y, hK, hG⟩ := hd H enc W base spare held n c _ (by omega) h2 (fun m hm2 => hw2 m (.inr (.inl (weightsAll_mem (i := i) (by simp [List.getElem?_eq_getElem (show i < elems.length by omega)]) m hm2))))
      obtain ⟨_, h3, h4⟩ := World.cells?_some h1
      refine ⟨y, hG, c, by rw [h3, hsz], hK, fun j u hu => ?_⟩
      have hj : j < c.length := (List.getElem?_eq_some_iff.1 hu).1
      have h5 := h4 j (by omega)
      rw [hu] at h5
      have e1 : (a.add (i * P.cellsOf e)).add j = a.add (i * d.sz + j) := by
        rw [hsz]
        unfold Addr.add
        by_cases hi0 : i * d.sz = 0 <;> by_cases hj0 : j = 0 <;> simp [hi0, hj0, Nat.add_assoc]
      rw [← e1]
      exact h5
    obtain ⟨l, hl2, hp⟩ := choose_list len one
    refine ⟨l, ⟨some a, cap, by rw [hl2], by omega, ⟨rfl, by unfold maxLen at hm; omega, fun _ => ⟨a, rfl, fun j p hj => (hp j p hj).2⟩⟩⟩, fun x hx => ?_, ?_⟩
    · obtain ⟨i, hi⟩ := List.getElem?_of_mem hx
      exact (hp i x hi).1
    · have h6 := hw2 _ (.inl rfl)
      simp only [List.length_map] at h6
      rw [hl2]
      exact Nat.le_trans (Nat.mul_le_mul_right _ (by omega)) h6

/-- Fields that lie side by side from cell o on, n cells in all. -/
def OpensF (N : Nat) (P : Program) (fs : List Field) (o n : Nat) {α : Type} (d : Kd α) (G : α → Prop) : Prop :=
  ∀ (H : Type) (enc : TypeId × Value → H) (W : World) (base : Nat) (spare : Nat → Bool) (held : Bool) (fuel : Nat) (cs : List Value) (xs : List (DataW H × List MemPlace)),
    fuel ≤ N → xs.length = fs.length → (∀ (i : Nat) (f : Field), fs[i]? = some f → DataW.trod enc P W base spare held fuel f.type ((cs.drop f.offset).take (P.cellsOf f.type)) = xs[i]?) →
    (∀ m ∈ DataW.weightsEach P (fs.map (·.type)) (xs.map (·.1)), m ≤ reachBytes) → ∃ y, d.K W y ((cs.drop o).take n) ∧ G y
theorem opensF_one {N : Nat} {P : Program} {f : Field} {o n : Nat} {α : Type} {d : Kd α} {G : α → Prop} (ho : f.offset = o) (hn : P.cellsOf f.type = n) (h : Opens N P f.type d G) : OpensF N P [f] o n d G := by
  intro H enc W base spare held fuel cs xs hN hl hx hw
  obtain ⟨x, rfl⟩ : ∃ x, xs = [x] := by
    match xs, hl with
    | [x], _ => exact ⟨x, rfl⟩
  have h1 := hx 0 f rfl
  rw [ho, hn] at h1
  exact h H enc W base spare held fuel _ x hN h1 (fun m hm => hw m (by simpa [DataW.weightsEach] using hm))
theorem opensF_cons {N : Nat} {P : Program} {f : Field} {fs : List Field} {o a n : Nat} {α β : Type} {d : Kd α} {d' : Kd β} {G : α → Prop} {G' : β → Prop} (ho : f.offset = o) (ha : P.cellsOf f.type = a) (h : Opens N P f.type d G) (hr : OpensF N P fs (o + a) n d' G') :
    OpensF N P (f :: fs) o (a + n) (Kd.pair d d') (fun y => G y.1 ∧ G' y.2) := by
  intro H enc W base spare held fuel cs xs hN hl hx hw
  match xs, hl with
  | x :: xs, hl =>
    have h1 := hx 0 f rfl
    rw [ho, ha] at h1
    simp only [List.map_cons, DataW.weightsEach, List.mem_append] at hw
    obtain ⟨y, hy, gy⟩ := h H enc W base spare held fuel _ x hN h1 (fun m hm => hw m (.inl hm))
    obtain ⟨z, hz, gz⟩ := hr H enc W base spare held fuel cs xs hN (by simpa using hl) (fun i g hg => by simpa using hx (i + 1) g (by simpa using hg)) (fun m hm => hw m (.inr hm))
    refine ⟨(y, z), ⟨_, _, ?_, hy, hz⟩, gy, gz⟩
    rw [List.take_add, List.drop_drop]
theorem opens_struct {N : Nat} {P : Program} {T : TypeId} {fs : List Field} {n : Nat} {α β : Type} {d : Kd α} {G : α → Prop} (ht : P.underlying T = some (.struct fs.toArray)) (hn : P.cellsOf T = n) (f : β → α) (g : α → β) (hg : ∀ y, f (g y) = y)
    (h : OpensF N P fs 0 n d G) : Opens (N + 1) P T (Kd.iso d f) (fun y => G (f y)) := by
  intro H enc W base spare held fuel cs x hN hx hw
  obtain ⟨xs, m, rfl, rfl, hl, hlx, hf⟩ := DataW.trod_struct ht hx
  obtain ⟨y, hy, gy⟩ := h H enc W base spare held m cs xs (by omega) (by simpa using hlx) (fun i f0 hi => hf i f0 (by simpa using hi)) (fun k hk => hw k (by
    simp only [DataW.weights, ht]
    exact hk))
  refine ⟨g y, ?_, ?_⟩
  · show d.K W (f (g y)) cs
    rw [hg]
    rw [← hn, ← hl, List.drop_zero, List.take_length] at hy
    exact hy
  · show G (f (g y))
    rw [hg]
    exact gy
theorem Opens.imp {N : Nat} {P : Program} {T : TypeId} {α : Type} {d : Kd α} {G G' : α → Prop} (h : Opens N P T d G) (hi : ∀ y, G y → G' y) : Opens N P T d G' := by
  intro H enc W base spare held fuel cs x hN hx hw
  obtain ⟨y, hy, gy⟩ := h H enc W base spare held fuel cs x hN hx hw
  exact ⟨y, hy, hi y gy⟩
theorem bytes_le {a b n r : Nat} (e : a = b) (h : n * a ≤ r) : n * b ≤ r := e ▸ h
/-- An argument. -/
theorem opened {P : Program} {T : TypeId} {α : Type} {d : Kd α} {G : α → Prop} (h : ∀ N, Opens N P T d G) {H : Type} {enc : TypeId × Value → H} {W : World} {base : Nat} {spare : Nat → Bool} {held : Bool} {v : Value} {x : DataW H} {p : List MemPlace} (ht : DataW.Trod enc P W base spare held T v x p)
    {ts : List TypeId} {ds : List (DataW H)} {j : Nat} (hz : (DataW.weightsEach P ts ds).all (· ≤ reachBytes) = true) (hj : ts[j]? = some T) (hd : ds[j]? = some x) : ∃ y, d.K W y v.cells.toList ∧ G y := by
  obtain ⟨fuel, hf⟩ := ht
  exact h fuel H enc W base spare held fuel _ _ (Nat.le_refl _) hf (fun n hn => by
    have := List.all_eq_true.1 hz n (DataW.weights_mem_each hj hd n hn)
    simpa using this)
end Go.Proofs.Ytofmfnbiondplaa.Op

namespace Go.Proofs.Ytofmfnbiondplaa.Ki
open Go.RowKit Go.Proofs.YtofmfnbiondplaaW.PrintWords Go.Proofs.Ytofmfnbiondplaa.Op Go.Proofs.Ytofmfnbiondplaa.P
def G28 (s : S28) : Prop := s.f0.size ≤ reachBytes ∧ True ∧ (Lit.int .i64 s.f2).wf = true ∧ (Lit.int .i64 s.f3).wf = true ∧ (Lit.int .i64 s.f4).wf = true
theorem op28 (N : Nat) : Opens N Try.prog 28 k28 G28 := by
  refine Opens.mono (N := N + 1) ?_ (Nat.le_succ N)
  unfold k28
  have h0 := opens_struct (N := N) Try.underlying28 (n := 5) (by kernel_rfl) (fun x : S28 => (x.f0, x.f1, x.f2, x.f3, x.f4)) (fun y : ByteArray × Bool × Int × Int × Int => (⟨y.1, y.2.1, y.2.2.1, y.2.2.2.1, y.2.2.2.2⟩ : S28)) (fun _ => rfl) (opensF_cons (a := 1) (n := 4) rfl (by kernel_rfl) (opens_string Try.underlying9) (opensF_cons (a := 1) (n := 3) rfl (by kernel_rfl) (opens_bool Try.underlying4) (opensF_cons (a := 1) (n := 2) rfl (by kernel_rfl) (opens_int Try.underlying3) (opensF_cons (a := 1) (n := 1) rfl (by kernel_rfl) (opens_int Try.underlying3) (opensF_one (n := 1) rfl (by kernel_rfl) (opens_int Try.underlying3))))))
  exact Opens.imp h0 (fun s h => h)
def G22 (l : List (S28)) : Prop := (∀ x ∈ l, G28 x) ∧ l.length * 48 ≤ reachBytes
theorem op22 (N : Nat) : Opens N Try.prog 22 (Kd.slice 28 k28) G22 := ((opens_slice Try.underlying22 (by kernel_rfl) (op28 _)).imp (fun l h => ⟨h.1, bytes_le (by kernel_rfl : Try.prog.bytesOf 28 = 48) h.2⟩)).mono (Nat.le_succ N)
end Go.Proofs.Ytofmfnbiondplaa.Ki

namespace Go.Proofs.Ytofmfnbiondplaa.Evx
open Go.RowKit Go.Proofs.YtofmfnbiondplaaW.PrintWords
theorem w64 {x : Int} (h0 : -9223372036854775808 ≤ x) (h1 : x < 9223372036854775808) : wrap64 x = x := by unfold wrap64; omega
section
variable {α β : Type} {r : α}
theorem ev_pos {c : Prop} [Decidable c] {f g : Nat → Option α} (h : c) (k : Ev f r) : Ev (fun n => if c then f n else g n) r := Ev.congr (fun _ => if_pos h) k
theorem ev_neg {c : Prop} [Decidable c] {f g : Nat → Option α} (h : ¬ c) (k : Ev g r) : Ev (fun n => if c then f n else g n) r := Ev.congr (fun _ => if_neg h) k
theorem ev_bindv {g : Option β} {f : Nat → β → Option α} {a : β} (h : g = some a) (k : Ev (fun n => f n a) r) : Ev (fun n => g.bind (f n)) r := by subst h; exact k
theorem ev_bind {g : Nat → Option β} {f : Nat → β → Option α} {a : β} (h : Ev g a) (k : Ev (fun n => f n a) r) : Ev (fun n => (g n).bind (f n)) r := Ev.bind h k
theorem ev_some (r : α) : Ev (fun _ => some r) r := Ev.now r
theorem ev_tt {f g : Nat → Option α} (k : Ev f r) : Ev (fun n => if true = true then f n else g n) r := ev_pos rfl k
theorem ev_ff {f g : Nat → Option α} (k : Ev g r) : Ev (fun n => if false = true then f n else g n) r := ev_neg (by simp) k
/-- A test of a Bool either way. -/
theorem ev_bool {b : Bool} {f g : Nat → Option α} (h1 : b = true → Ev f r) (h2 : b = false → Ev g r) : Ev (fun n => if b = true then f n else g n) r := by
  cases b with
  | true => exact ev_tt (h1 rfl)
  | false => exact ev_ff (h2 rfl)
theorem ev_eq {f : Nat → Option α} {r' : α} (h : Ev f r') (e : r' = r) : Ev f r := e ▸ h
theorem ev_step {g f : Nat → Option α} (h : ∀ k, g (k + 1) = f k) (k : Ev f r) : Ev g r := Ev.step h k
end
theorem rd_nat (xs : List Int) (n : Nat) : rd xs (n : Int) = xs.getD n 0 := by unfold rd; rw [Int.toNat_natCast]
theorem rd_app (p : List Int) (x : Int) (r : List Int) : rd (p ++ x :: r) (p.length : Int) = x := by
  rw [rd_nat, List.getD_eq_getElem?_getD, List.getElem?_append_right (Nat.le_refl _), Nat.sub_self]; rfl
theorem u64_range (x : Int) : 0 ≤ IntKind.u64.wrap x ∧ IntKind.u64.wrap x < 18446744073709551616 := by
  simp [IntKind.wrap, IntKind.bits, IntKind.signed]
  omega
theorem u64_id {x : Int} (h : 0 ≤ x) (h2 : x < 18446744073709551616) : IntKind.u64.wrap x = x := by
  simp [IntKind.wrap, IntKind.bits, IntKind.signed]
  omega
/-- 'int(uint64(x) % uint64(n))' of a small n. -/
def pick (x n : Int) : Int := (IntKind.u64.wrap x) % n
theorem pick_range (x : Int) {n : Int} (h : 1 ≤ n) : 0 ≤ pick x n ∧ pick x n < n := ⟨Int.emod_nonneg _ (by omega), Int.emod_lt_of_pos _ (by omega)⟩
theorem pick_eq (x : Int) {n : Int} (h : 1 ≤ n) (h2 : n < 9223372036854775808) : wrap64 (Int.tmod (IntKind.u64.wrap x) (IntKind.u64.wrap n)) = pick x n := by
  have hr := pick_range x h
  rw [u64_id (x := n) (by omega) (by omega), Int.tmod_eq_emod_of_nonneg (u64_range x).1]
  exact w64 (by unfold pick at hr; omega) (by unfold pick at hr; omega)
end Go.Proofs.Ytofmfnbiondplaa.Evx

namespace Go.Proofs.Ytofmfnbiondplaa.Dm
open Go.RowKit Go.Proofs.YtofmfnbiondplaaW.PrintWords Go.Proofs.YtofmfnbiondplaaW.PrintMore Go.Proofs.Ytofmfnbiondplaa.P Go.Proofs.Ytofmfnbiondplaa.X Go.Proofs.Ytofmfnbiondplaa.Evx

theorem rv_app (p : List S28) (x : S28) (r : List S28) : rd_T28 (p ++ x :: r) (p.length : Int) = x := by
  unfold rd_T28
  rw [Int.toNat_natCast, List.getD_eq_getElem?_getD, List.getElem?_append_right (Nat.le_refl _), Nat.sub_self]; rfl
theorem rv_nat (l : List S28) (n : Nat) : rd_T28 l (n : Int) = l.getD n z28 := by unfold rd_T28; rw [Int.toNat_natCast]

def sizeS (v : S28) : Int := if v.f2 = 1 then 2 else if v.f2 = 2 ∧ -1000 ≤ v.f3 ∧ v.f3 ≤ v.f4 ∧ v.f4 ≤ 1000 then v.f4 - v.f3 + 1 else 0
theorem size_eq (v : S28) : dom_Size.f v.f0 v.f1 v.f2 v.f3 v.f4 = some (sizeS v) := by
  unfold dom_Size.f sizeS
  by_cases h1 : v.f2 = 1
  · simp [h1]
  · rw [if_neg h1, if_neg h1]
    by_cases h2 : v.f2 = 2
    · rw [if_pos h2]
      by_cases h3 : v.f3 ≥ -1000
      · rw [if_pos h3]
        by_cases h4 : v.f3 ≤ v.f4
        · rw [if_pos h4]
          by_cases h5 : v.f4 ≤ 1000
          · rw [if_pos h5, if_pos ⟨h2, h3, h4, h5⟩, w64 (x := v.f4 - v.f3) (by omega) (by omega), w64 (by omega) (by omega)]
          · rw [if_neg h5, if_neg (fun h => h5 h.2.2.2)]
        · rw [if_neg h4, if_neg (fun h => h4 h.2.2.1)]
      · rw [if_neg h3, if_neg (fun h => h3 h.2.1)]
    · rw [if_neg h2, if_neg (fun h => h2 h.1)]
theorem size_range (v : S28) : 0 ≤ sizeS v ∧ sizeS v ≤ 2001 := by unfold sizeS; split; omega; split <;> omega
def lowS (v : S28) : Int := if v.f2 = 1 then 0 else v.f3
theorem low_eq (v : S28) : dom_low.f v.f0 v.f1 v.f2 v.f3 v.f4 = some (lowS v) := by unfold dom_low.f lowS; split <;> rfl
def sortedS (v : S28) : Int := if v.f2 ≠ 1 ∧ v.f2 ≠ 2 then 4 else if (v.f2 = 1 ∧ (v.f3 ≠ 0 ∨ v.f4 ≠ 0)) ∨ (v.f2 = 2 ∧ sizeS v = 0) then 6 else 0
theorem sorted_ev (v : S28) : Ev (fun k => dom_sorted.f k v.f0 v.f1 v.f2 v.f3 v.f4) (sortedS v) := by
  unfold dom_sorted.f sortedS
  by_cases h1 : v.f2 = 1
  · have h2 : ¬ v.f2 = 2 := by omega
    rw [if_neg (fun h => h.1 h1)]
    refine ev_pos h1 (ev_step (fun k => rfl) (ev_pos h1 ?_))
    by_cases h3 : v.f3 = 0
    · refine ev_pos h3 (ev_step (fun k => rfl) ?_)
      by_cases h4 : v.f4 = 0
      · refine ev_neg (by simp [h4]) (ev_neg h2 (ev_eq (ev_some _) ?_))
        rw [if_neg]; simp [h3, h4, h2]
      · refine ev_pos (by simp [h4]) (ev_eq (ev_some _) ?_)
        rw [if_pos]; exact .inl ⟨h1, .inr h4⟩
    · refine ev_neg h3 (ev_step (fun k => rfl) (ev_eq (ev_some _) ?_))
      rw [if_pos]; exact .inl ⟨h1, .inl h3⟩
  · refine ev_neg h1 (ev_step (fun k => rfl) ?_)
    by_cases h2 : v.f2 = 2
    · rw [if_neg (fun h => h.2 h2)]
      refine ev_neg (by simp [h2]) (ev_neg h1 (ev_step (fun k => rfl) (ev_pos h2 (ev_bindv (size_eq v) ?_))))
      by_cases h3 : sizeS v = 0
      · refine ev_pos h3 (ev_eq (ev_some _) ?_)
        rw [if_pos]; exact .inr ⟨h2, h3⟩
      · refine ev_neg h3 (ev_eq (ev_some _) ?_)
        rw [if_neg]; simp [h1, h3]
    · rw [if_pos ⟨h1, h2⟩]
      exact ev_pos (by simp [h2]) (ev_some _)
/-- A variable that may be, but for its name. -/
def Fine (v : S28) : Prop := sortedS v = 0
theorem fine_cases {v : S28} (h : Fine v) : (v.f2 = 1 ∧ v.f3 = 0 ∧ v.f4 = 0 ∧ sizeS v = 2 ∧ lowS v = 0) ∨ (v.f2 = 2 ∧ -1000 ≤ v.f3 ∧ v.f3 ≤ v.f4 ∧ v.f4 ≤ 1000 ∧ sizeS v = v.f4 - v.f3 + 1 ∧ lowS v = v.f3) := by
  unfold Fine sortedS at h
  split at h
  · omega
  · rename_i h1
    split at h
    · omega
    · rename_i h2
      by_cases h3 : v.f2 = 1
      · refine .inl ⟨h3, ?_, ?_, by simp [sizeS, h3], by simp [lowS, h3]⟩
        · by_cases h4 : v.f3 = 0
          · exact h4
          · exact absurd (.inl ⟨h3, .inl h4⟩) h2
        · by_cases h4 : v.f4 = 0
          · exact h4
          · exact absurd (.inl ⟨h3, .inr h4⟩) h2
      · have h4 : v.f2 = 2 := by
          by_cases h5 : v.f2 = 2
          · exact h5
          · exact absurd ⟨h3, h5⟩ h1
        have h5 : sizeS v ≠ 0 := fun h6 => h2 (.inr ⟨h4, h6⟩)
        have h6 : -1000 ≤ v.f3 ∧ v.f3 ≤ v.f4 ∧ v.f4 ≤ 1000 := by
          by_cases h7 : -1000 ≤ v.f3 ∧ v.f3 ≤ v.f4 ∧ v.f4 ≤ 1000
          · exact h7
          · refine absurd ?_ h5
            unfold sizeS
            rw [if_neg h3, if_neg (fun h => h7 h.2)]
        refine .inr ⟨h4, h6.1, h6.2.1, h6.2.2, ?_, by simp [lowS, h3]⟩
        unfold sizeS
        rw [if_neg h3, if_pos ⟨h4, h6⟩]
theorem fine_pos {v : S28} (h : Fine v) : 1 ≤ sizeS v := by rcases fine_cases h with h | h <;> omega
theorem fine_low {v : S28} (h : Fine v) : -1000 ≤ lowS v ∧ lowS v ≤ 1000 ∧ lowS v = v.f3 ∧ lowS v + sizeS v ≤ 1001 := by rcases fine_cases h with h | h <;> omega

def totFrom : Int → List S28 → Int
  | n, [] => n
  | n, v :: r => if sortedS v = 0 then (if n * sizeS v > 512 then 0 else totFrom (n * sizeS v) r) else 0
def totalS (l : List S28) : Int := if l.length > 6 then 0 else totFrom 1 l
theorem total_loop (l : List S28) (hl : l.length < 4611686018427387904) : ∀ (r p : List S28) (n : Int), l = p ++ r → 0 ≤ n → n ≤ 512 → Ev (fun k => dom_Total.l0 k n l (l.length : Int) (p.length : Int)) (totFrom n r)
  | [], p, n, hp, h0, h1 => by
    have e : l.length = p.length := by rw [hp]; simp
    exact ev_step (fun k => rfl) (ev_neg (by omega) (ev_some _))
  | v :: r, p, n, hp, h0, h1 => by
    have e : l.length = p.length + (r.length + 1) := by rw [hp]; simp
    have er : rd_T28 l (p.length : Int) = v := by rw [hp]; exact rv_app p v r
    have hs := size_range v
    refine ev_step (fun k => rfl) (ev_pos (by omega) (ev_pos (by omega) (ev_pos (by omega) ?_)))
    rw [er]
    refine ev_bind (sorted_ev v) ?_
    simp only [totFrom]
    by_cases h2 : sortedS v = 0
    · rw [if_pos h2]
      refine ev_pos h2 (ev_bindv (size_eq v) ?_)
      have hb : 0 ≤ n * sizeS v := Int.mul_nonneg h0 hs.1
      have hc : n * sizeS v ≤ 512 * 2001 := Int.mul_le_mul h1 hs.2 hs.1 (by omega)
      rw [w64 (x := n * sizeS v) (by omega) (by omega)]
      by_cases h3 : n * sizeS v > 512
      · rw [if_pos h3]
        exact ev_pos h3 (ev_some _)
      · rw [if_neg h3, w64 (x := (p.length : Int) + 1) (by omega) (by omega)]
        have := total_loop l hl r (p ++ [v]) (n * sizeS v) (by simp [hp]) hb (by omega)
        rw [List.length_append, List.length_singleton] at this
        exact ev_neg h3 this
    · rw [if_neg h2]
      exact ev_neg h2 (ev_some _)
theorem total_ev (l : List S28) (hl : l.length < 4611686018427387904) : Ev (fun k => dom_Total.f k l) (totalS l) := by
  unfold dom_Total.f totalS
  by_cases h : l.length > 6
  · rw [if_pos h]
    exact ev_pos (by omega) (ev_some _)
  · rw [if_neg h]
    exact ev_neg (by omega) (total_loop l hl l [] 1 rfl (by omega) (by omega))
def prodS : List S28 → Int
  | [] => 1
  | v :: r => sizeS v * prodS r
theorem tot_fine : ∀ (l : List S28) (n : Int), 1 ≤ n → n ≤ 512 → totFrom n l ≠ 0 → (∀ v ∈ l, Fine v) ∧ totFrom n l = n * prodS l ∧ n * prodS l ≤ 512 ∧ 1 ≤ prodS l
  | [], n, h1, h5, _ => ⟨fun v hv => by simp at hv, by simp [totFrom, prodS], by simp [prodS]; exact h5, by simp [prodS]⟩
  | v :: r, n, h1, h5, h => by
    simp only [totFrom] at h ⊢
    by_cases h2 : sortedS v = 0
    · rw [if_pos h2] at h ⊢
      by_cases h3 : n * sizeS v > 512
      · rw [if_pos h3] at h
        exact absurd rfl h
      · rw [if_neg h3] at h ⊢
        have hp := fine_pos h2
        have hb : 1 ≤ n * sizeS v := by
          have := Int.mul_le_mul h1 hp (by omega) (by omega)
          omega
        obtain ⟨g1, g2, g3, g4⟩ := tot_fine r (n * sizeS v) hb (by omega) h
        refine ⟨fun x hx => ?_, ?_, ?_, ?_⟩
        · rcases List.mem_cons.1 hx with rfl | hx
          · exact h2
          · exact g1 x hx
        · rw [g2, prodS, Int.mul_assoc]
        · rw [prodS, ← Int.mul_assoc]; exact g3
        · rw [prodS]
          have := Int.mul_le_mul hp g4 (by omega) (by omega)
          omega
    · rw [if_neg h2] at h
      exact absurd rfl h

theorem find_eq (l : List S28) (a : ByteArray) (hl : l.length < 4611686018427387904) : dom_Find.f l a = some (findFrom a l 0) := by
  unfold dom_Find.f maxLen
  rw [if_pos (by omega)]
def nmFrom (s : ByteArray) (i : Nat) : Nat → Bool
  | 0 => true
  | d + 1 => ((decide (97 ≤ bt s i) && decide (bt s i ≤ 122)) || (decide (0 < i) && ((decide (48 ≤ bt s i) && decide (bt s i ≤ 57)) || decide (bt s i = 95)))) && nmFrom s (i + 1) d
def inWords (s : ByteArray) : List ByteArray → Bool
  | [] => false
  | w :: r => decide (w.toList = s.toList) || inWords s r
def wordsL : List ByteArray := (dom_words.f).getD []
def nameS (s : ByteArray) : Bool := decide (1 ≤ s.size) && (decide (s.size ≤ 16) && (!inWords s wordsL && nmFrom s 0 s.size))
theorem index_loop (l : List ByteArray) (a : ByteArray) (hl : l.length < 4611686018427387904) : ∀ (r p : List ByteArray), l = p ++ r → ∃ x : Int, Ev (fun k => slices_Index_string_string.l0 k l a (l.length : Int) (p.length : Int)) x ∧ (0 ≤ x ↔ inWords a r = true)
  | [], p, hp => by
    have e : l.length = p.length := by rw [hp]; simp
    exact ⟨-1, ev_step (fun k => rfl) (ev_neg (by omega) (ev_some _)), by simp [inWords]⟩
  | v :: r, p, hp => by
    have e : l.length = p.length + (r.length + 1) := by rw [hp]; simp
    have er : rdOf ByteArray.empty l (p.length : Int) = v := by
      rw [hp]; unfold rdOf
      rw [Int.toNat_natCast, List.getD_eq_getElem?_getD, List.getElem?_append_right (Nat.le_refl _), Nat.sub_self]; rfl
    by_cases h : a.toList = v.toList
    · refine ⟨p.length, ev_step (fun k => rfl) (ev_pos (by omega) (ev_pos (by omega) (ev_pos (by omega) (ev_pos (by rw [er]; exact h) (ev_some _))))), ?_⟩
      simp [inWords, h]
    · obtain ⟨x, hx, h2⟩ := index_loop l a hl r (p ++ [v]) (by simp [hp])
      rw [List.length_append, List.length_singleton] at hx
      refine ⟨x, ev_step (fun k => rfl) (ev_pos (by omega) (ev_pos (by omega) (ev_pos (by omega) (ev_neg (by rw [er]; exact h) ?_)))), ?_⟩
      · rw [w64 (x := (p.length : Int) + 1) (by omega) (by omega)]
        exact hx
      · rw [h2]
        have : ¬ v.toList = a.toList := fun h3 => h h3.symm
        simp [inWords, this]
theorem contains_ev (l : List ByteArray) (a : ByteArray) (hl : l.length < 4611686018427387904) : Ev (fun k => slices_Contains_string_string.f k l a) (inWords a l) := by
  obtain ⟨x, hx, h2⟩ := index_loop l a hl l [] rfl
  unfold slices_Contains_string_string.f
  refine ev_bind (g := fun k => slices_Index_string_string.f k l a) hx (ev_eq (ev_some _) ?_)
  by_cases h : 0 ≤ x
  · rw [h2.1 h]; simp; exact h
  · have : inWords a l = false := by
      cases h3 : inWords a l with
      | true => exact absurd (h2.2 h3) h
      | false => rfl
    rw [this]; simp; omega
theorem name_loop (s : ByteArray) (hs : s.size < 4611686018427387904) : ∀ (d i : Nat), i + d = s.size → Ev (fun k => dom_name.l0 k s (s.size : Int) (i : Int)) (nmFrom s i d)
  | 0, i, h => ev_step (fun k => rfl) (ev_neg (by omega) (ev_some _))
  | d + 1, i, h => by
    have ih := name_loop s hs d (i + 1) (by omega)
    have e1 : wrap64 ((i : Int) + 1) = ((i + 1 : Nat) : Int) := by rw [w64 (by omega) (by omega)]; simp
    have go : ∀ (b : Bool), b = (decide (97 ≤ bt s i) && decide (bt s i ≤ 122)) → Ev (fun k => dom_name.j2 k s (i : Int) (bt s i) (s.size : Int) (i : Int) b) (nmFrom s i (d + 1)) := by
      intro b hb
      simp only [nmFrom]
      rw [← hb]
      refine ev_step (fun k => rfl) ?_
      refine ev_bool (fun hb1 => ?_) (fun hb0 => ?_)
      · rw [e1, hb1]
        exact ev_eq ih (by simp)
      · rw [hb0]
        by_cases h0 : (i : Int) > 0
        · have h0' : 0 < i := by omega
          refine ev_pos h0 ?_
          by_cases h3 : bt s i = 95
          · by_cases h1 : bt s i ≥ 48
            · refine ev_pos h1 (ev_neg (by omega) (ev_pos h3 ?_))
              rw [e1]
              exact ev_eq ih (by simp [h0', h3])
            · exact absurd h3 (by omega)
          · by_cases h1 : bt s i ≥ 48
            · by_cases h2 : bt s i ≤ 57
              · refine ev_pos h1 (ev_pos h2 ?_)
                rw [e1]
                exact ev_eq ih (by simp [h0', h1, h2])
              · refine ev_pos h1 (ev_neg h2 (ev_neg h3 (ev_eq (ev_some _) ?_)))
                rw [decide_eq_false (p := bt s i ≤ 57) (by omega), decide_eq_false (p := bt s i = 95) h3]
                simp
            · refine ev_neg h1 (ev_neg h3 (ev_eq (ev_some _) ?_))
              rw [decide_eq_false (p := 48 ≤ bt s i) (by omega), decide_eq_false (p := bt s i = 95) h3]
              simp
        · refine ev_neg h0 (ev_eq (ev_some _) ?_)
          rw [decide_eq_false (p := 0 < i) (by omega)]
          simp
    refine ev_step (fun k => rfl) (ev_pos (by omega) (ev_pos (by omega) (ev_pos (by omega) ?_)))
    by_cases h1 : bt s i ≥ 97
    · refine ev_pos h1 (go _ ?_)
      rw [decide_eq_true (p := 97 ≤ bt s i) h1]; rfl
    · refine ev_neg h1 (go _ ?_)
      rw [decide_eq_false (p := 97 ≤ bt s i) h1]; rfl
theorem words_eq : dom_words.f = some wordsL := rfl
theorem name_ev (s : ByteArray) (hs : s.size < 4611686018427387904) : Ev (fun k => dom_name.f k s) (nameS s) := by
  unfold dom_name.f nameS
  by_cases h1 : (s.size : Int) < 1
  · refine ev_pos h1 (ev_step (fun k => rfl) (ev_eq (ev_some _) ?_))
    rw [decide_eq_false (p := 1 ≤ s.size) (by omega)]; rfl
  · by_cases h2 : (s.size : Int) > 16
    · refine ev_neg h1 (ev_pos h2 (ev_step (fun k => rfl) (ev_eq (ev_some _) ?_)))
      rw [decide_eq_false (p := s.size ≤ 16) (by omega)]; simp
    · refine ev_neg h1 (ev_neg h2 (ev_bindv words_eq (ev_bind (contains_ev wordsL s (by show 18 < _; omega)) (ev_step (fun k => rfl) ?_))))
      rw [decide_eq_true (p := 1 ≤ s.size) (by omega), decide_eq_true (p := s.size ≤ 16) (by omega)]
      refine ev_bool (fun h3 => ev_eq (ev_some _) (by rw [h3]; rfl)) (fun h3 => ev_eq (name_loop s hs s.size 0 (by omega)) (by rw [h3]; rfl))
end Go.Proofs.Ytofmfnbiondplaa.Dm

namespace Go.Proofs.Ytofmfnbiondplaa.Dm
open Go.RowKit Go.Proofs.YtofmfnbiondplaaW.PrintWords Go.Proofs.YtofmfnbiondplaaW.PrintMore Go.Proofs.Ytofmfnbiondplaa.P Go.Proofs.Ytofmfnbiondplaa.X Go.Proofs.Ytofmfnbiondplaa.Evx

def mayFrom (l : List S28) : List S28 → Int → Int
  | [], _ => if totalS l = 0 then 7 else 0
  | v :: r, i => if nameS v.f0 = true ∧ ¬ findFrom v.f0 l 0 < i then (if sortedS v = 0 then mayFrom l r (i + 1) else sortedS v) else 3
def mayS (l : List S28) : Int := mayFrom l l 0
/-- Lists that are short enough to be walked. -/
structure Short (l : List S28) : Prop where
  len : l.length < 4611686018427387904
  nm : ∀ v ∈ l, v.f0.size < 4611686018427387904
theorem may_loop (l : List S28) (hs : Short l) : ∀ (r p : List S28), l = p ++ r → Ev (fun k => dom_May.l0 k l l (l.length : Int) (p.length : Int)) (mayFrom l r (p.length : Int))
  | [], p, hp => by
    have e : l.length = p.length := by rw [hp]; simp
    refine ev_step (fun k => rfl) (ev_neg (by omega) (ev_bind (total_ev l hs.len) ?_))
    simp only [mayFrom]
    by_cases h : totalS l = 0
    · exact ev_pos h (ev_eq (ev_some _) (if_pos h).symm)
    · exact ev_neg h (ev_eq (ev_some _) (if_neg h).symm)
  | v :: r, p, hp => by
    have e : l.length = p.length + (r.length + 1) := by rw [hp]; simp
    have hl := hs.len
    have er : rd_T28 l (p.length : Int) = v := by rw [hp]; exact rv_app p v r
    have hv := hs.nm v (by rw [hp]; simp)
    have ih := may_loop l hs r (p ++ [v]) (by simp [hp])
    rw [List.length_append, List.length_singleton] at ih
    have go : ∀ b : Bool, b = decide (¬ (nameS v.f0 = true ∧ ¬ findFrom v.f0 l 0 < (p.length : Int))) → Ev (fun k => dom_May.j1 k l l (l.length : Int) (p.length : Int) b v.f0 v.f1 v.f2 v.f3 v.f4) (mayFrom l (v :: r) (p.length : Int)) := by
      intro b hb
      simp only [mayFrom]
      refine ev_step (fun k => rfl) (ev_bool (fun h1 => ?_) (fun h1 => ?_))
      · rw [h1] at hb
        rw [if_neg (of_decide_eq_true hb.symm)]
        exact ev_some _
      · rw [h1] at hb
        rw [if_pos (Decidable.of_not_not (of_decide_eq_false hb.symm))]
        refine ev_bind (sorted_ev v) ?_
        by_cases h2 : sortedS v = 0
        · rw [if_pos h2, w64 (x := (p.length : Int) + 1) (by omega) (by omega)]
          exact ev_pos h2 ih
        · rw [if_neg h2]
          exact ev_neg h2 (ev_some _)
    refine ev_step (fun k => rfl) (ev_pos (by omega) (ev_pos (by omega) (ev_pos (by omega) ?_)))
    rw [er]
    refine ev_bind (name_ev v.f0 hv) (ev_bool (fun h1 => ev_bindv (find_eq l v.f0 hs.len) (go _ ?_)) (fun h1 => go _ ?_))
    · simp [h1]
    · simp [h1]
theorem may_ev (l : List S28) (hs : Short l) : Ev (fun k => dom_May.f k l) (mayS l) := may_loop l hs l [] rfl

/-- What a list of variables that may be is. -/
structure MayOk (l : List S28) : Prop where
  fine : ∀ v ∈ l, Fine v
  name : ∀ v ∈ l, nameS v.f0 = true
  tot : totalS l = prodS l
  lo : 1 ≤ prodS l
  hi : prodS l ≤ 512
  len : l.length ≤ 6
  apart : ∀ p v r, l = p ++ v :: r → ∀ y ∈ p, y.f0.toList ≠ v.f0.toList
theorem find_lt (a : ByteArray) : ∀ (p r : List S28) (i : Int), (∃ y ∈ p, y.f0.toList = a.toList) → i ≤ findFrom a (p ++ r) i ∧ findFrom a (p ++ r) i < i + p.length
  | [], r, i, ⟨y, hy, _⟩ => by simp at hy
  | x :: p, r, i, ⟨y, hy, he⟩ => by
    simp only [List.cons_append, findFrom]
    by_cases h : x.f0.toList = a.toList
    · rw [if_pos h]; simp; omega
    · rw [if_neg h]
      have := find_lt a p r (i + 1) (by
        rcases List.mem_cons.1 hy with rfl | hy
        · exact absurd he h
        · exact ⟨y, hy, he⟩)
      simp; omega
theorem may_walk (l : List S28) : ∀ (r p : List S28), l = p ++ r → mayFrom l r (p.length : Int) = 0 → (∀ v ∈ r, Fine v ∧ nameS v.f0 = true) ∧ totalS l ≠ 0 ∧ ∀ q v s, r = q ++ v :: s → ∀ y ∈ p ++ q, y.f0.toList ≠ v.f0.toList
  | [], p, hp, h => by
    simp only [mayFrom] at h
    refine ⟨fun v hv => by simp at hv, fun h0 => by rw [if_pos h0] at h; omega, fun q v s e => by simp at e⟩
  | v :: r, p, hp, h => by
    simp only [mayFrom] at h
    by_cases h1 : nameS v.f0 = true ∧ ¬ findFrom v.f0 l 0 < (p.length : Int)
    · rw [if_pos h1] at h
      by_cases h2 : sortedS v = 0
      · rw [if_pos h2] at h
        have ih := may_walk l r (p ++ [v]) (by simp [hp]) (by rw [List.length_append, List.length_singleton]; exact h)
        refine ⟨fun x hx => ?_, ih.2.1, fun q w s e y hy he => ?_⟩
        · rcases List.mem_cons.1 hx with rfl | hx
          · exact ⟨h2, h1.1⟩
          · exact ih.1 x hx
        · cases q with
          | nil =>
            simp at e
            rw [List.append_nil] at hy
            rw [← e.1] at he
            have := find_lt v.f0 p (v :: r) 0 ⟨y, hy, he⟩
            rw [← hp] at this
            exact h1.2 (by omega)
          | cons a q =>
            simp at e
            exact ih.2.2 q w s e.2 y (by rw [← e.1] at hy; simpa using hy) he
      · rw [if_neg h2] at h
        exact absurd h h2
    · rw [if_neg h1] at h
      omega
theorem may_ok {l : List S28} (h : mayS l = 0) : MayOk l := by
  obtain ⟨h1, h2, h3⟩ := may_walk l l [] rfl h
  have h4 : ¬ l.length > 6 := fun h4 => h2 (by unfold totalS; rw [if_pos h4])
  have h5 : totalS l = totFrom 1 l := by unfold totalS; rw [if_neg h4]
  obtain ⟨g1, g2, g3, g4⟩ := tot_fine l 1 (by omega) (by omega) (by rw [← h5]; exact h2)
  exact ⟨g1, fun v hv => (h1 v hv).2, by rw [h5, g2]; omega, g4, by omega, by omega, fun p v r e y hy => h3 p v r e y (by simpa using hy)⟩
def valsFrom : List S28 → Int → List Int
  | [], _ => []
  | v :: r, s => (lowS v + s % sizeS v) :: valsFrom r (s / sizeS v)
theorem vals_len : ∀ (l : List S28) (s : Int), (valsFrom l s).length = l.length
  | [], _ => rfl
  | v :: r, s => by simp [valsFrom, vals_len r]
theorem vals_loop (l : List S28) (hl : l.length ≤ 6) (hf : ∀ v ∈ l, Fine v) : ∀ (r p : List S28) (s : Int) (acc : List Int), l = p ++ r → 0 ≤ s → s ≤ 512 → acc.length = p.length → Ev (fun k => dom_Values.l0 k s acc l (l.length : Int) (p.length : Int)) (acc ++ valsFrom r s, true)
  | [], p, s, acc, hp, _, _, _ => by
    have e : l.length = p.length := by rw [hp]; simp
    exact ev_step (fun k => rfl) (ev_neg (by omega) (ev_eq (ev_some _) (by simp [valsFrom])))
  | v :: r, p, s, acc, hp, h0, h5, ha => by
    have e : l.length = p.length + (r.length + 1) := by rw [hp]; simp
    have er : rd_T28 l (p.length : Int) = v := by rw [hp]; exact rv_app p v r
    have hv := hf v (by rw [hp]; simp)
    have h1 := fine_pos hv
    have h2 := fine_low hv
    have h3 := size_range v
    have hm0 : 0 ≤ s % sizeS v := Int.emod_nonneg _ (by omega)
    have hm1 : s % sizeS v < sizeS v := Int.emod_lt_of_pos _ (by omega)
    have hd0 : 0 ≤ s / sizeS v := Int.ediv_nonneg h0 (by omega)
    have hd1 : s / sizeS v ≤ s := Int.ediv_le_self _ h0
    refine ev_step (fun k => rfl) (ev_pos (by omega) (ev_pos (by omega) (ev_pos (by omega) ?_)))
    rw [er]
    refine ev_bindv (size_eq v) (ev_bindv (low_eq v) (ev_neg (by omega) (ev_pos (by omega) ?_)))
    rw [Int.tdiv_eq_ediv_of_nonneg h0, Int.tmod_eq_emod_of_nonneg h0, w64 (x := s / sizeS v) (by omega) (by omega), w64 (x := lowS v + s % sizeS v) (by omega) (by omega), w64 (x := (p.length : Int) + 1) (by omega) (by omega)]
    have ih := vals_loop l hl hf r (p ++ [v]) (s / sizeS v) (acc ++ [lowS v + s % sizeS v]) (by simp [hp]) hd0 (by omega) (by simp [ha])
    rw [List.length_append, List.length_singleton] at ih
    exact ev_eq ih (by simp [valsFrom])
/-- Is it a state? -/
def isState (l : List S28) (s : Int) : Prop := mayS l = 0 ∧ 0 ≤ s ∧ s < prodS l
theorem values_yes {l : List S28} (hs : Short l) {s : Int} (h : isState l s) : Ev (fun k => dom_Values.f k l s) (valsFrom l s, true) := by
  obtain ⟨h1, h2, h3⟩ := h
  have ok := may_ok h1
  unfold dom_Values.f
  have h512 := ok.hi
  refine ev_bind (may_ev l hs) (ev_pos h1 (ev_neg (by omega) (ev_bind (total_ev l hs.len) (ev_step (fun k => rfl) (ev_neg ?_ (ev_eq (vals_loop l ok.len ok.fine l [] s [] rfl h2 (by omega) rfl) (by simp)))))))
  rw [ok.tot]; simp; omega
theorem values_no {l : List S28} (hs : Short l) {s : Int} (h : ¬ isState l s) : Ev (fun k => dom_Values.f k l s) ([], false) := by
  unfold dom_Values.f
  refine ev_bind (may_ev l hs) ?_
  by_cases h1 : mayS l = 0
  · refine ev_pos h1 ?_
    have ok := may_ok h1
    by_cases h2 : s < 0
    · exact ev_pos h2 (ev_step (fun k => rfl) (ev_some _))
    · refine ev_neg h2 (ev_bind (total_ev l hs.len) ?_)
      rw [ok.tot]
      have h3 : s ≥ prodS l := by
        by_cases h4 : s < prodS l
        · exact absurd ⟨h1, by omega, h4⟩ h
        · omega
      rw [decide_eq_true h3]
      exact ev_step (fun k => rfl) (ev_some _)
  · exact ev_neg h1 (ev_step (fun k => rfl) (ev_some _))

def inR : List S28 → List Int → Bool
  | [], [] => true
  | v :: r, x :: xs => decide (lowS v ≤ x) && (decide (x ≤ lowS v + sizeS v - 1) && inR r xs)
  | _, _ => false
def stS : List S28 → List Int → Int
  | v :: r, x :: xs => stS r xs * sizeS v + x - lowS v
  | _, _ => 0
theorem st_range : ∀ (l : List S28) (xs : List Int), (∀ v ∈ l, Fine v) → inR l xs = true → 0 ≤ stS l xs ∧ stS l xs < prodS l
  | [], [], _, _ => by simp [stS, prodS]
  | [], _ :: _, _, h => by simp [inR] at h
  | _ :: _, [], _, h => by simp [inR] at h
  | v :: r, x :: xs, hf, h => by
    simp only [inR, Bool.and_eq_true, decide_eq_true_eq] at h
    obtain ⟨g1, g2⟩ := st_range r xs (fun y hy => hf y (by simp [hy])) h.2.2
    have h1 := fine_pos (hf v (by simp))
    simp only [stS, prodS]
    have e1 : 0 ≤ stS r xs * sizeS v := Int.mul_nonneg g1 (by omega)
    have e2 : (stS r xs + 1) * sizeS v ≤ prodS r * sizeS v := Int.mul_le_mul_of_nonneg_right (by omega) (by omega)
    rw [Int.add_mul, Int.one_mul] at e2
    rw [Int.mul_comm (sizeS v) (prodS r)]
    omega
theorem inR_len : ∀ (l : List S28) (xs : List Int), inR l xs = true → xs.length = l.length
  | [], [], _ => rfl
  | [], _ :: _, h => by simp [inR] at h
  | _ :: _, [], h => by simp [inR] at h
  | v :: r, x :: xs, h => by
    simp only [inR, Bool.and_eq_true] at h
    simp [inR_len r xs h.2.2]
theorem inR_app : ∀ (p r : List S28) (q xs : List Int), p.length = q.length → inR (p ++ r) (q ++ xs) = (inR p q && inR r xs)
  | [], r, [], xs, _ => by simp [inR]
  | [], _, _ :: _, _, h => by simp at h
  | _ :: _, _, [], _, h => by simp at h
  | v :: p, r, x :: q, xs, h => by
    simp only [List.cons_append, inR]
    rw [inR_app p r q xs (by simpa using h)]
    simp [Bool.and_assoc]
theorem rd_app2 (q : List Int) (x : Int) (xs : List Int) (n : Nat) (h : q.length = n) : rd (q ++ x :: xs) (n : Int) = x := by subst h; exact rd_app q x xs
theorem snoc_of {α : Type} (p : List α) (n : Nat) (h : p.length = n + 1) : ∃ p' v, p = p' ++ [v] ∧ p'.length = n := by
  have hne : p ≠ [] := by intro e; rw [e] at h; simp at h
  exact ⟨p.dropLast, p.getLast hne, (List.dropLast_concat_getLast hne).symm, by rw [List.length_dropLast]; omega⟩
theorem prod_app : ∀ (p r : List S28), prodS (p ++ r) = prodS p * prodS r
  | [], r => by simp [prodS]
  | v :: p, r => by simp only [List.cons_append, prodS]; rw [prod_app p r, Int.mul_assoc]
theorem prod_pos : ∀ (l : List S28), (∀ v ∈ l, Fine v) → 1 ≤ prodS l
  | [], _ => by simp [prodS]
  | v :: r, h => by
    have h1 := fine_pos (h v (by simp))
    have h2 := prod_pos r (fun y hy => h y (by simp [hy]))
    simp only [prodS]
    have := Int.mul_le_mul h1 h2 (by omega) (by omega)
    omega
theorem state_loop (l : List S28) (vs : List Int) (ok : MayOk l) (hlen : vs.length = l.length) : ∀ (n : Nat) (p r : List S28) (q xs : List Int), l = p ++ r → vs = q ++ xs → p.length = n → q.length = n → inR r xs = true → Ev (fun k => dom_State.l0 k l vs (stS r xs) ((n : Int) - 1)) (if inR l vs = true then (stS l vs, true) else (0, false))
  | 0, p, r, q, xs, hp, hq, h1, h2, hr => by
    obtain rfl := List.length_eq_zero_iff.1 h1
    obtain rfl := List.length_eq_zero_iff.1 h2
    simp only [List.nil_append] at hp hq
    subst hp hq
    rw [if_pos hr]
    exact ev_step (fun k => rfl) (ev_neg (by omega) (ev_some _))
  | n + 1, p0, r, q0, xs, hp, hq, h10, h20, hr => by
    obtain ⟨p, v, rfl, h1⟩ := snoc_of p0 n h10
    obtain ⟨q, x, rfl, h2⟩ := snoc_of q0 n h20
    simp only [List.append_assoc, List.singleton_append] at hp hq
    have e : l.length = n + (r.length + 1) := by rw [hp]; simp [h1]
    have hl6 := ok.len
    have hn : ((n + 1 : Nat) : Int) - 1 = (n : Int) := by omega
    have er : rd_T28 l (n : Int) = v := by rw [hp, ← h1]; exact rv_app p v r
    have ex : rd vs (n : Int) = x := by rw [hq]; exact rd_app2 q x xs n h2
    have hv := ok.fine v (by rw [hp]; simp)
    have f1 := fine_pos hv
    have f2 := fine_low hv
    have f3 := size_range v
    have hrf : ∀ y ∈ r, Fine y := fun y hy => ok.fine y (by rw [hp]; simp [hy])
    have f4 := st_range r xs hrf hr
    have f5 : prodS r ≤ 512 := by
      have := ok.hi
      have hh : l = (p ++ [v]) ++ r := by rw [hp]; simp
      rw [hh, prod_app] at this
      have g1 := prod_pos (p ++ [v]) (fun y hy => ok.fine y (by rw [hh]; exact List.mem_append_left _ hy))
      have g2 := prod_pos r hrf
      have := Int.mul_le_mul_of_nonneg_right g1 (show 0 ≤ prodS r by omega)
      omega
    rw [hn]
    refine ev_step (fun k => rfl) (ev_pos (by omega) (ev_pos (by omega) (ev_pos (by omega) ?_)))
    rw [er, ex]
    refine ev_bindv (size_eq v) (ev_pos (by omega) (ev_bindv (low_eq v) ?_))
    have hin : inR l vs = (inR p q && (decide (lowS v ≤ x) && (decide (x ≤ lowS v + sizeS v - 1) && inR r xs))) := by
      rw [hp, hq, inR_app p (v :: r) q (x :: xs) (by omega)]
      rfl
    by_cases c1 : x < lowS v
    · rw [hin, decide_eq_false (p := lowS v ≤ x) (by omega)]
      exact ev_pos c1 (ev_eq (ev_some _) (by simp))
    · refine ev_neg c1 (ev_bindv (low_eq v) ?_)
      rw [w64 (x := lowS v + sizeS v) (by omega) (by omega), w64 (x := lowS v + sizeS v - 1) (by omega) (by omega)]
      by_cases c2 : x > lowS v + sizeS v - 1
      · rw [hin, decide_eq_false (p := x ≤ lowS v + sizeS v - 1) (by omega)]
        exact ev_pos c2 (ev_eq (ev_some _) (by simp))
      · refine ev_neg c2 (ev_bindv (low_eq v) ?_)
        have hb0 : 0 ≤ stS r xs * sizeS v := Int.mul_nonneg f4.1 (by omega)
        have hb1 : stS r xs * sizeS v ≤ 512 * 2001 := Int.mul_le_mul (by omega) f3.2 (by omega) (by omega)
        rw [w64 (x := stS r xs * sizeS v) (by omega) (by omega), w64 (x := stS r xs * sizeS v + x) (by omega) (by omega), w64 (x := stS r xs * sizeS v + x - lowS v) (by omega) (by omega), w64 (x := (n : Int) - 1) (by omega) (by omega)]
        have hr2 : inR (v :: r) (x :: xs) = true := by
          simp only [inR, hr]
          rw [decide_eq_true (p := lowS v ≤ x) (by omega), decide_eq_true (p := x ≤ lowS v + sizeS v - 1) (by omega)]
          rfl
        exact state_loop l vs ok hlen n p (v :: r) q (x :: xs) hp hq h1 h2 hr2
theorem state_ev {l : List S28} (hs : Short l) {vs : List Int} (hm : mayS l = 0) : Ev (fun k => dom_State.f k l vs) (if inR l vs = true then (stS l vs, true) else (0, false)) := by
  have ok := may_ok hm
  have h6 := ok.len
  unfold dom_State.f
  refine ev_bind (may_ev l hs) (ev_pos hm (ev_step (fun k => rfl) ?_))
  by_cases h : vs.length = l.length
  · refine ev_neg (by simp; omega) ?_
    rw [w64 (x := (l.length : Int) - 1) (by omega) (by omega)]
    have := state_loop l vs ok h l.length l [] vs [] (by simp) (by simp) rfl h rfl
    exact this
  · refine ev_pos (by simp; omega) (ev_eq (ev_some _) ?_)
    rw [if_neg (fun h2 => h (inR_len l vs h2))]
theorem vals_in : ∀ (l : List S28) (s : Int), (∀ v ∈ l, Fine v) → inR l (valsFrom l s) = true
  | [], _, _ => rfl
  | v :: r, s, hf => by
    have h1 := fine_pos (hf v (by simp))
    have hm0 : 0 ≤ s % sizeS v := Int.emod_nonneg _ (by omega)
    have hm1 : s % sizeS v < sizeS v := Int.emod_lt_of_pos _ (by omega)
    simp only [valsFrom, inR]
    rw [decide_eq_true (p := lowS v ≤ lowS v + s % sizeS v) (by omega), decide_eq_true (p := lowS v + s % sizeS v ≤ lowS v + sizeS v - 1) (by omega), vals_in r _ (fun y hy => hf y (by simp [hy]))]
    rfl
theorem vals_st : ∀ (l : List S28) (xs : List Int), (∀ v ∈ l, Fine v) → inR l xs = true → valsFrom l (stS l xs) = xs
  | [], [], _, _ => rfl
  | [], _ :: _, _, h => by simp [inR] at h
  | _ :: _, [], _, h => by simp [inR] at h
  | v :: r, x :: xs, hf, h => by
    simp only [inR, Bool.and_eq_true, decide_eq_true_eq] at h
    have h1 := fine_pos (hf v (by simp))
    have ih := vals_st r xs (fun y hy => hf y (by simp [hy])) h.2.2
    simp only [stS, valsFrom]
    have e1 : stS r xs * sizeS v + x - lowS v = (x - lowS v) + stS r xs * sizeS v := by omega
    have e2 : (x - lowS v + stS r xs * sizeS v) % sizeS v = x - lowS v := by
      rw [Int.add_mul_emod_self_right, Int.emod_eq_of_lt (by omega) (by omega)]
    have e3 : (x - lowS v + stS r xs * sizeS v) / sizeS v = stS r xs := by
      rw [Int.add_mul_ediv_right _ _ (by omega), Int.ediv_eq_zero_of_lt (by omega) (by omega)]
      omega
    rw [e1, e2, e3, ih]
    congr 1
    omega

theorem with_no {l : List S28} (hs : Short l) {s v x : Int} (h : ¬ isState l s ∨ v < 0 ∨ (l.length : Int) ≤ v) : Ev (fun k => dom_With.f k l s v x) (0, false) := by
  unfold dom_With.f
  by_cases h1 : isState l s
  · refine ev_bind (values_yes hs h1) (ev_pos rfl ?_)
    by_cases h2 : v < 0
    · exact ev_pos h2 (ev_some _)
    · refine ev_neg h2 (ev_pos ?_ (ev_some _))
      rcases h with h | h | h
      · exact absurd h1 h
      · exact absurd h h2
      · exact h
  · exact ev_bind (values_no hs h1) (ev_neg (by simp) (ev_some _))
theorem with_yes {l : List S28} (hs : Short l) {s v x : Int} (h : isState l s) (h0 : 0 ≤ v) (h1 : v < l.length) : Ev (fun k => dom_With.f k l s v x) (if inR l ((valsFrom l s).set v.toNat x) = true then (stS l ((valsFrom l s).set v.toNat x), true) else (0, false)) := by
  unfold dom_With.f
  refine ev_bind (values_yes hs h) (ev_pos rfl (ev_neg (by omega) (ev_neg (by omega) (ev_pos h0 (ev_pos (by simp only [vals_len]; exact h1) (ev_bind (state_ev hs h.1) (ev_eq (ev_some _) ?_)))))))
  split <;> rfl

def partS (env : Bool) : List S28 → List Int → List Int
  | v :: r, x :: xs => (if v.f1 = env then x else lowS v) :: partS env r xs
  | _, _ => []
theorem part_len (env : Bool) : ∀ (l : List S28) (xs : List Int), xs.length = l.length → (partS env l xs).length = l.length
  | [], _, _ => by simp [partS]
  | v :: r, [], h => by simp at h
  | v :: r, x :: xs, h => by simp [partS, part_len env r xs (by simpa using h)]
theorem part_loop (l : List S28) (hs : Short l) (hm : mayS l = 0) (env : Bool) : ∀ (r p : List S28) (q xs : List Int) (out : Int), l = p ++ r → q.length = p.length → xs.length = r.length → (∀ k0 : Int, k0 = out → inR l (q ++ partS env r xs) = true → k0 = stS l (q ++ partS env r xs)) → inR l (q ++ partS env r xs) = true → Ev (fun k => dom_Part.l0 k l env (q ++ xs) l (l.length : Int) (p.length : Int)) out
  | [], p, q, xs, out, hp, hq, hx, ho, hin => by
    have e : l.length = p.length := by rw [hp]; simp
    obtain rfl := List.length_eq_zero_iff.1 hx
    have := ho out rfl hin
    simp only [partS, List.append_nil] at hin this ⊢
    refine ev_step (fun k => rfl) (ev_neg (by omega) (ev_bind (state_ev hs hm) (ev_eq (ev_some _) ?_)))
    rw [if_pos hin, this]
  | v :: r, p, q, [], out, hp, hq, hx, ho, hin => by simp at hx
  | v :: r, p, q, x :: xs, out, hp, hq, hx, ho, hin => by
    have e : l.length = p.length + (r.length + 1) := by rw [hp]; simp
    have h6 := (may_ok hm).len
    have er : rd_T28 l (p.length : Int) = v := by rw [hp]; exact rv_app p v r
    have hx' : xs.length = r.length := by simpa using hx
    refine ev_step (fun k => rfl) (ev_pos (by omega) (ev_pos (by omega) (ev_pos (by omega) ?_)))
    rw [er]
    by_cases c : v.f1 = env
    · refine ev_neg (by simp [c]) ?_
      rw [w64 (x := (p.length : Int) + 1) (by omega) (by omega)]
      have ih := part_loop l hs hm env r (p ++ [v]) (q ++ [x]) xs out (by simp [hp]) (by simp [hq]) hx' (by simpa [partS, c] using ho) (by simpa [partS, c] using hin)
      simpa using ih
    · refine ev_pos (by simp [c]) (ev_bindv (low_eq v) (ev_pos (by simp; omega) ?_))
      rw [w64 (x := (p.length : Int) + 1) (by omega) (by omega)]
      have ih := part_loop l hs hm env r (p ++ [v]) (q ++ [lowS v]) xs out (by simp [hp]) (by simp [hq]) hx' (by simpa [partS, c] using ho) (by simpa [partS, c] using hin)
      have e2 : (q ++ x :: xs).set ((p.length : Int)).toNat (lowS v) = q ++ [lowS v] ++ xs := by
        rw [Int.toNat_natCast, ← hq]
        simp
      rw [e2]
      simpa using ih
theorem part_in (env : Bool) : ∀ (l : List S28) (xs : List Int), (∀ v ∈ l, Fine v) → inR l xs = true → inR l (partS env l xs) = true
  | [], [], _, _ => rfl
  | [], _ :: _, _, h => by simp [inR] at h
  | _ :: _, [], _, h => by simp [inR] at h
  | v :: r, x :: xs, hf, h => by
    have h1 := fine_pos (hf v (by simp))
    simp only [inR, Bool.and_eq_true, decide_eq_true_eq] at h
    simp only [partS, inR, Bool.and_eq_true, decide_eq_true_eq]
    refine ⟨?_, ?_, part_in env r xs (fun y hy => hf y (by simp [hy])) h.2.2⟩ <;> split <;> omega
theorem part_yes {l : List S28} (hs : Short l) {s : Int} (h : isState l s) (env : Bool) : Ev (fun k => dom_Part.f k l s env) (stS l (partS env l (valsFrom l s))) := by
  have ok := may_ok h.1
  unfold dom_Part.f
  refine ev_bind (values_yes hs h) (ev_pos rfl ?_)
  have hin := part_in env l _ ok.fine (vals_in l s ok.fine)
  exact part_loop l hs h.1 env l [] [] (valsFrom l s) _ (by simp) rfl (vals_len l s) (fun k0 e _ => by simpa using e) (by simpa using hin)
theorem heavy_loop (l : List S28) (hs : Short l) : ∀ (r p : List S28), l = p ++ r → p.length ≤ 10 → ∃ h : Int, Ev (fun k => parrylaw1_Heavy.l0 k l (l.length : Int) (p.length : Int)) h ∧ 0 ≤ h ∧ (h = 0 → l.length ≤ 10 ∧ ∀ v ∈ r, v.f0.size ≤ 100)
  | [], p, hp, h10 => by
    have e : l.length = p.length := by rw [hp]; simp
    exact ⟨0, ev_step (fun k => rfl) (ev_neg (by omega) (ev_some _)), by omega, fun _ => ⟨by omega, fun v hv => by simp at hv⟩⟩
  | v :: r, p, hp, h10 => by
    have e : l.length = p.length + (r.length + 1) := by rw [hp]; simp
    have er : rd_T28 l (p.length : Int) = v := by rw [hp]; exact rv_app p v r
    have hw : wrap64 ((p.length : Int) + 1) = (p.length : Int) + 1 := w64 (by omega) (by omega)
    by_cases c1 : (p.length : Int) ≥ 10
    · exact ⟨_, ev_step (fun k => rfl) (ev_pos (by omega) (ev_pos (by omega) (ev_pos (by omega) (ev_pos c1 (ev_some _))))), by rw [hw]; omega, fun h => by rw [hw] at h; omega⟩
    · by_cases c2 : (v.f0.size : Int) > 100
      · refine ⟨_, ev_step (fun k => rfl) (ev_pos (by omega) (ev_pos (by omega) (ev_pos (by omega) (ev_neg c1 (ev_pos (by rw [er]; exact c2) (ev_some _)))))), by rw [hw]; omega, fun h => by rw [hw] at h; omega⟩
      · obtain ⟨h, h1, h2, h3⟩ := heavy_loop l hs r (p ++ [v]) (by simp [hp]) (by simp; omega)
        rw [List.length_append, List.length_singleton] at h1
        refine ⟨h, ev_step (fun k => rfl) (ev_pos (by omega) (ev_pos (by omega) (ev_pos (by omega) (ev_neg c1 (ev_neg (by rw [er]; exact c2) ?_))))), h2, fun h0 => ⟨(h3 h0).1, fun y hy => ?_⟩⟩
        · rw [hw]; exact h1
        · rcases List.mem_cons.1 hy with rfl | hy
          · omega
          · exact (h3 h0).2 y hy
theorem heavy_ev (l : List S28) (hs : Short l) : ∃ h : Int, Ev (fun k => parrylaw1_Heavy.f k l) h ∧ 0 ≤ h ∧ (h = 0 → l.length ≤ 10 ∧ ∀ v ∈ l, v.f0.size ≤ 100) := heavy_loop l hs l [] rfl (by simp)
theorem awake_at : parrylaw1_awake.f 40 = some true := by decide +kernel
theorem awake_ev : Ev (fun k => parrylaw1_awake.f k) true := Ev.of (fun k => parrylaw1_awake.mono k) awake_at
theorem short_of {l : List S28} (h : Ki.G22 l) : Short l := by
  obtain ⟨h1, h2⟩ := h
  unfold reachBytes at h2
  refine ⟨by omega, fun v hv => ?_⟩
  have := (h1 v hv).1
  unfold reachBytes at this
  omega
end Go.Proofs.Ytofmfnbiondplaa.Dm

namespace Go.Proofs.Ytofmfnbiondplaa.Pu
open Go.RowKit Go.Proofs.YtofmfnbiondplaaW.PrintWords Go.Proofs.Ytofmfnbiondplaa.P Go.Proofs.Ytofmfnbiondplaa.Evx Go.Proofs.Ytofmfnbiondplaa.Dm Go.Proofs.Ytofmfnbiondplaa.Ki
theorem ev_awakeP {f : Bool → Option Bool} (h : f true = some true) : Ev (fun k => (parrylaw1_awake.f k).bind f) true := ev_bind awake_ev (ev_eq (Ev.congr (fun _ => h) (ev_some true)) rfl)
theorem part_get (env : Bool) : ∀ (l : List S28) (xs : List Int) (i : Nat), xs.length = l.length → i < l.length → (partS env l xs).getD i 0 = if (l.getD i z28).f1 = env then xs.getD i 0 else lowS (l.getD i z28)
  | [], _, _, _, h => by simp at h
  | v :: r, [], _, h, _ => by simp at h
  | v :: r, x :: xs, 0, h, _ => by simp [partS]
  | v :: r, x :: xs, i + 1, h, hi => by
    have := part_get env r xs i (by simpa using h) (by simpa using hi)
    simpa [partS] using this
theorem part_idem (env : Bool) : ∀ (l : List S28) (xs : List Int), partS env l (partS env l xs) = partS env l xs
  | [], _ => by simp [partS]
  | v :: r, [] => by simp [partS]
  | v :: r, x :: xs => by
    simp only [partS, part_idem env r xs]
    by_cases h : v.f1 = env <;> simp [h]
theorem part_cross : ∀ (l : List S28) (xs : List Int), xs.length = l.length → partS false l (partS true l xs) = partS true l (partS false l xs)
  | [], _, _ => by simp [partS]
  | v :: r, [], h => by simp at h
  | v :: r, x :: xs, h => by
    simp only [partS, part_cross r xs (by simpa using h)]
    cases v.f1 <;> simp
set_option maxHeartbeats 4000000 in
theorem parts_loop (l : List S28) (s v x : Int) (a b c : List Int) (hl : l.length ≤ 6) (hf : ∀ y ∈ l, Fine y) (ha : a.length = l.length) (hb : b.length = l.length) (hc : c.length = l.length)
    (gb : ∀ i, i < l.length → b.getD i 0 = if (l.getD i z28).f1 = true then a.getD i 0 else lowS (l.getD i z28)) (gc : ∀ i, i < l.length → c.getD i 0 = if (l.getD i z28).f1 = false then a.getD i 0 else lowS (l.getD i z28))
    (hend : Ev (fun k => parrylaw1_DomParts.l0 k l s v x a b c l (l.length : Int) (l.length : Int)) true) :
    ∀ (m i : Nat), i + m = l.length → Ev (fun k => parrylaw1_DomParts.l0 k l s v x a b c l (l.length : Int) (i : Int)) true
  | 0, i, h => by
    have : i = l.length := by omega
    rw [this]
    exact hend
  | m + 1, i, h => by
    have k1 : (i : Int) < (l.length : Int) := by omega
    have k2 : (0 : Int) ≤ (i : Int) := by omega
    have k3 : (i : Int) < (b.length : Int) := by omega
    have k4 : (i : Int) < (a.length : Int) := by omega
    have k5 : (i : Int) < (c.length : Int) := by omega
    have ki : i < l.length := by omega
    have ih := parts_loop l s v x a b c hl hf ha hb hc gb gc hend m (i + 1) (by omega)
    have ei : wrap64 ((i : Int) + 1) = ((i + 1 : Nat) : Int) := by rw [w64 (by omega) (by omega)]; omega
    have hlow : lowS (l.getD i z28) = (l.getD i z28).f3 := (fine_low (hf _ (by rw [List.getD_eq_getElem?_getD, List.getElem?_eq_getElem ki]; exact List.getElem_mem _))).2.2.1
    have g1 := gb i ki
    have g2 := gc i ki
    rw [hlow] at g1 g2
    have e0 : rd_T28 l (i : Int) = l.getD i z28 := rv_nat l i
    have e1 : rd a (i : Int) = a.getD i 0 := rd_nat a i
    have e2 : rd b (i : Int) = b.getD i 0 := rd_nat b i
    have e3 : rd c (i : Int) = c.getD i 0 := rd_nat c i
    rw [← e0, ← e1] at g1 g2
    rw [← e2] at g1
    rw [← e3] at g2
    rw [← ei] at ih
    clear ha hb hc gb gc hend h hl hf hlow
    refine ev_step (fun k => rfl) ?_
    refine ev_pos k1 ?_
    refine ev_pos k2 ?_
    refine ev_pos k1 ?_
    refine ev_bool (fun hf1 => ?_) (fun hf1 => ?_)
    · rw [hf1] at g1 g2
      exact ev_pos k3 (ev_pos k4 (ev_pos (by simpa using g1) (ev_pos k5 (ev_pos (by simpa using g2) ih))))
    · rw [hf1] at g1 g2
      exact ev_pos k5 (ev_pos k4 (ev_pos (by simpa using g2) (ev_pos k3 (ev_pos (by simpa using g1) ih))))
theorem parts_loop2 (v x : Int) (a : List Int) (j : Nat) (hv : v = (j : Int)) (hl : a.length ≤ 6) : ∀ (m i : Nat), i + m = a.length → Ev (fun k => parrylaw1_DomParts.l1 k v x a (a.set j x) (a.length : Int) (i : Int)) true
  | 0, i, h => ev_step (fun k => rfl) (ev_neg (by omega) (ev_awakeP rfl))
  | m + 1, i, h => by
    have ih := parts_loop2 v x a j hv hl m (i + 1) (by omega)
    have ei : wrap64 ((i : Int) + 1) = ((i + 1 : Nat) : Int) := by rw [w64 (by omega) (by omega)]; omega
    have hs : (a.set j x).length = a.length := by simp
    refine ev_step (fun k => rfl) (ev_pos (by omega) ?_)
    rw [rd_nat, rd_nat, ei]
    by_cases c : i = j
    · subst c
      refine ev_pos (by omega) (ev_pos (by omega) (ev_pos (by omega) (ev_pos ?_ ih)))
      rw [List.getD_eq_getElem?_getD, List.getElem?_set_self (by omega)]
      rfl
    · refine ev_neg (by omega) (ev_pos (by omega) (ev_pos (by omega) (ev_pos (by omega) (ev_pos ?_ ih))))
      rw [List.getD_eq_getElem?_getD, List.getD_eq_getElem?_getD, List.getElem?_set_ne (by omega)]
theorem inR_set : ∀ (l : List S28) (xs : List Int) (j : Nat) (x : Int), inR l xs = true → j < l.length → (inR l (xs.set j x) = true ↔ lowS (l.getD j z28) ≤ x ∧ x < lowS (l.getD j z28) + sizeS (l.getD j z28))
  | [], _, _, _, _, h => by simp at h
  | v :: r, [], _, _, h, _ => by simp [inR] at h
  | v :: r, y :: ys, 0, x, h, _ => by
    simp only [inR, Bool.and_eq_true, decide_eq_true_eq] at h
    simp only [List.set_cons_zero, inR, Bool.and_eq_true, decide_eq_true_eq, List.getD_cons_zero]
    constructor
    · intro g; omega
    · intro g; exact ⟨g.1, by omega, h.2.2⟩
  | v :: r, y :: ys, j + 1, x, h, hj => by
    simp only [inR, Bool.and_eq_true, decide_eq_true_eq] at h
    have ih := inR_set r ys j x h.2.2 (by simpa using hj)
    simp only [List.set_cons_succ, inR, Bool.and_eq_true, decide_eq_true_eq, List.getD_cons_succ]
    rw [ih]
    constructor
    · intro g; exact g.2.2
    · intro g; exact ⟨h.1, h.2.1, g⟩
set_option maxHeartbeats 4000000 in
theorem parts_end (l : List S28) (hs : Short l) (ok : MayOk l) (hm : mayS l = 0) (s v x : Int) (hst : isState l s) (a b c : List Int) (ha : a = valsFrom l s) : Ev (fun k => parrylaw1_DomParts.l0 k l s v x a b c l (l.length : Int) (l.length : Int)) true := by
  have h6 := ok.len
  have hal : a.length = l.length := by rw [ha]; exact vals_len _ _
  refine ev_step (fun k => rfl) (ev_neg (by omega) ?_)
  by_cases c0 : v < 0
  · exact ev_bind (with_no hs (.inr (.inl c0))) (ev_neg (by simp) (ev_pos rfl (ev_pos c0 (ev_awakeP rfl))))
  by_cases c1 : (l.length : Int) ≤ v
  · exact ev_bind (with_no hs (.inr (.inr c1))) (ev_neg (by simp) (ev_pos rfl (ev_neg c0 (ev_pos c1 (ev_awakeP rfl)))))
  obtain ⟨j, rfl⟩ := Int.eq_ofNat_of_zero_le (show 0 ≤ v by omega)
  have hj : j < l.length := by omega
  have hin : inR l a = true := by rw [ha]; exact vals_in l s ok.fine
  have hset := inR_set l a j x hin hj
  have hfy : Fine (l.getD j z28) := ok.fine _ (by rw [List.getD_eq_getElem?_getD, List.getElem?_eq_getElem hj]; exact List.getElem_mem _)
  have hlow := fine_low hfy
  have hsz := size_range (l.getD j z28)
  have e0 : rd_T28 l (j : Int) = l.getD j z28 := rv_nat l j
  have hw := with_yes hs (v := (j : Int)) (x := x) hst (by omega) (by omega)
  rw [Int.toNat_natCast, ← ha] at hw
  by_cases hi : inR l (a.set j x) = true
  · rw [if_pos hi] at hw
    have hr := st_range l (a.set j x) ok.fine hi
    refine ev_bind hw (ev_pos rfl (ev_bind (values_yes hs ⟨hm, hr.1, hr.2⟩) (ev_pos rfl ?_)))
    rw [vals_st l _ ok.fine hi]
    have e1 : (((a.set j x).length : Nat) : Int) = (a.length : Int) := by simp
    refine ev_pos (by rw [e1, hal]) (ev_neg (by omega) (ev_neg (by omega) ?_))
    rw [e1]
    exact parts_loop2 j x a j rfl (by omega) a.length 0 (by omega)
  · have hni : ¬ (lowS (l.getD j z28) ≤ x ∧ x < lowS (l.getD j z28) + sizeS (l.getD j z28)) := fun g => hi (hset.2 g)
    rw [if_neg hi] at hw
    refine ev_bind hw (ev_neg (by simp) (ev_pos rfl (ev_neg (by omega) (ev_neg (by omega) (ev_pos (by omega) (ev_pos (by omega) ?_))))))
    rw [e0]
    rw [hlow.2.2.1] at hni hlow
    by_cases c3 : x < (l.getD j z28).f3
    · exact ev_pos c3 (ev_awakeP rfl)
    · refine ev_neg c3 (ev_bindv (size_eq _) (ev_pos ?_ (ev_awakeP rfl)))
      rw [w64 (by omega) (by omega)]
      omega
set_option maxHeartbeats 4000000 in
theorem DomParts_pure (l0 : List (S28)) (g0 : G22 l0) (a1 : Int) (_w1 : (Lit.int .i64 a1).wf = true) (a2 : Int) (_w2 : (Lit.int .i64 a2).wf = true) (a3 : Int) (_w3 : (Lit.int .i64 a3).wf = true) : ∃ k, parrylaw1_DomParts.f k l0 a1 a2 a3 = some true := by
  apply Ev.rounds
  have hs := short_of g0
  unfold parrylaw1_DomParts.f
  obtain ⟨h, h1, h2, h3⟩ := heavy_ev l0 hs
  refine ev_bind h1 ?_
  by_cases hh : h > 0
  · exact ev_pos hh (ev_awakeP rfl)
  refine ev_neg hh (ev_bind (may_ev l0 hs) ?_)
  by_cases hm : mayS l0 = 0
  · have ok := may_ok hm
    have h6 := ok.len
    have ht := ok.tot
    have hlo := ok.lo
    have hhi := ok.hi
    refine ev_pos hm (ev_bind (total_ev l0 hs.len) ?_)
    rw [ht]
    have hp := pick_range a1 hlo
    have hpe := pick_eq a1 hlo (by omega)
    have hst : isState l0 (pick a1 (prodS l0)) := ⟨hm, hp.1, hp.2⟩
    refine ev_neg (by omega) (ev_bind (total_ev l0 hs.len) ?_)
    rw [ht]
    refine ev_neg (by rw [u64_id (by omega) (by omega)]; omega) ?_
    rw [hpe]
    generalize pick a1 (prodS l0) = st at *
    obtain ⟨a, ha⟩ : ∃ a, a = valsFrom l0 st := ⟨_, rfl⟩
    have hal : a.length = l0.length := by rw [ha]; exact vals_len _ _
    have hin : inR l0 a = true := by rw [ha]; exact vals_in l0 st ok.fine
    have ib := part_in true l0 a ok.fine hin
    have ic := part_in false l0 a ok.fine hin
    have rb := st_range l0 _ ok.fine ib
    have rc := st_range l0 _ ok.fine ic
    have sb : isState l0 (stS l0 (partS true l0 a)) := ⟨hm, rb.1, rb.2⟩
    have sc : isState l0 (stS l0 (partS false l0 a)) := ⟨hm, rc.1, rc.2⟩
    have vb := values_yes hs sb
    have vc := values_yes hs sc
    rw [vals_st l0 _ ok.fine ib] at vb
    rw [vals_st l0 _ ok.fine ic] at vc
    have va := values_yes hs hst
    have pe := part_yes hs hst true
    have pp := part_yes hs hst false
    have q1 := part_yes hs sb true
    have q2 := part_yes hs sb false
    have q3 := part_yes hs sc true
    rw [vals_st l0 _ ok.fine ib] at q1 q2
    rw [vals_st l0 _ ok.fine ic] at q3
    rw [part_idem] at q1
    rw [part_cross l0 a hal] at q2
    rw [← ha] at va pe pp
    have lb := part_len true l0 a hal
    have lc := part_len false l0 a hal
    have gb := fun i hi => part_get true l0 a i hal hi
    have gc := fun i hi => part_get false l0 a i hal hi
    have hend := parts_end l0 hs ok hm st a2 a3 hst a (partS true l0 a) (partS false l0 a) ha
    have hlp := parts_loop l0 st a2 a3 a _ _ h6 ok.fine hal lb lc gb gc hend l0.length 0 (by omega)
    exact ev_bind va (ev_bind pe (ev_bind pp (ev_bind vb (ev_bind vc (ev_pos rfl (ev_pos rfl (ev_pos rfl (ev_pos (by show ((a.length : Nat) : Int) = _; omega) (ev_pos (by show (((partS true l0 a).length : Nat) : Int) = _; omega) (ev_pos (by show (((partS false l0 a).length : Nat) : Int) = _; omega) (ev_bind q1 (ev_pos rfl (ev_bind q2 (ev_bind q3 (ev_pos rfl hlp)))))))))))))))
  · exact ev_neg hm (ev_awakeP rfl)
end Go.Proofs.Ytofmfnbiondplaa.Pu

