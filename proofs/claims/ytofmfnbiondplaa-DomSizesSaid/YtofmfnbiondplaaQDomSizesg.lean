/- A part of the claim DomSizes. -/
import Derived.ChangeArms
import Derived.SizedLaws
import Derived.WideShapes
import Derived.Test.YtofmfnbiondplaaQDomSizesa
import Derived.Test.YtofmfnbiondplaaQDomSizesb
import Derived.Test.YtofmfnbiondplaaQDomSizesc
import Derived.Test.YtofmfnbiondplaaQDomSizesd
import Derived.Test.YtofmfnbiondplaaQDomSizese
import Derived.Test.YtofmfnbiondplaaQDomSizesf
namespace Go.Proofs.Ytofmfnbiondplaa.Op
open Go.RowKit Go.Proofs.YtofmfnbiondplaaW.PrintWords

def Opens (N : Nat) (P : Program) (T : TypeId) {α : Type} (d : Kd α) (G : α → Prop) : Prop :=
  ∀ (H : Type) (enc : TypeId × Value → H) (W : World) (base : Nat) (spare : Nat → Bool) (held : Bool) (fuel : Nat) (cs : List Value) (x : DataW H × List MemPlace),
    fuel ≤ N → DataW.trod enc P W base spare held fuel T cs = some x → (∀ n ∈ x.1.weights P T, n ≤ reachBytes) → ∃ y, d.K W y cs ∧ G y

theorem Opens.mono {N M : Nat} {P : Program} {T : TypeId} {α : Type} {d : Kd α} {G : α → Prop} (h : Opens N P T d G) (hm : M ≤ N) : Opens M P T d G :=
  fun H enc W base spare held fuel cs x hf => h H enc W base spare held fuel cs x (Nat.le_trans hf hm)

end Go.Proofs.Ytofmfnbiondplaa.Op

namespace Go.Proofs.Ytofmfnbiondplaa.Ki
end Go.Proofs.Ytofmfnbiondplaa.Ki

namespace Go.Proofs.Ytofmfnbiondplaa.Evx
open Go.RowKit Go.Proofs.YtofmfnbiondplaaW.PrintWords
theorem w64 {x : Int} (h0 : -9223372036854775808 ≤ x) (h1 : x < 9223372036854775808) : wrap64 x = x := by unfold wrap64; omega
section
variable {α β : Type} {r : α}
theorem ev_pos {c : Prop} [Decidable c] {f g : Nat → Option α} (h : c) (k : Ev f r) : Ev (fun n => if c then f n else g n) r := Ev.congr (fun _ => if_pos h) k
theorem ev_neg {c : Prop} [Decidable c] {f g : Nat → Option α} (h : ¬ c) (k : Ev g r) : Ev (fun n => if c then f n else g n) r := Ev.congr (fun _ => if_neg h) k
theorem ev_bindv {g : Option β} {f : Nat → β → Option α} {a : β} (h : g = some a) (k : Ev (fun n => f n a) r) : Ev (fun n => g.bind (f n)) r := by subst h; exact k
theorem ev_bind {g : Nat → Option β} {f : Nat → β → Option α} {a : β} (h : Ev g a) (k : Ev (fun n => f n a) r) : Ev (fun n => (g n).bind (f n)) r := Ev.bind h k
theorem ev_some (r : α) : Ev (fun _ => some r) r := Ev.now r
theorem ev_tt {f g : Nat → Option α} (k : Ev f r) : Ev (fun n => if true = true then f n else g n) r := ev_pos rfl k
theorem ev_ff {f g : Nat → Option α} (k : Ev g r) : Ev (fun n => if false = true then f n else g n) r := ev_neg (by simp) k
/-- A test of a Bool either way. -/
theorem ev_bool {b : Bool} {f g : Nat → Option α} (h1 : b = true → Ev f r) (h2 : b = false → Ev g r) : Ev (fun n => if b = true then f n else g n) r := by
  cases b with
  | true => exact ev_tt (h1 rfl)
  | false => exact ev_ff (h2 rfl)
theorem ev_eq {f : Nat → Option α} {r' : α} (h : Ev f r') (e : r' = r) : Ev f r := e ▸ h
theorem ev_step {g f : Nat → Option α} (h : ∀ k, g (k + 1) = f k) (k : Ev f r) : Ev g r := Ev.step h k
end
theorem i64_range {x : Int} (h : (Lit.int .i64 x).wf = true) : -9223372036854775808 ≤ x ∧ x < 9223372036854775808 := by
  simp [Lit.wf, IntKind.min, IntKind.max, IntKind.bits, IntKind.signed] at h
  omega
end Go.Proofs.Ytofmfnbiondplaa.Evx

namespace Go.Proofs.Ytofmfnbiondplaa.Dm
open Go.RowKit Go.Proofs.YtofmfnbiondplaaW.PrintWords Go.Proofs.YtofmfnbiondplaaW.PrintMore Go.Proofs.Ytofmfnbiondplaa.P Go.Proofs.Ytofmfnbiondplaa.X Go.Proofs.Ytofmfnbiondplaa.Evx

theorem rv_app (p : List S28) (x : S28) (r : List S28) : rd_T28 (p ++ x :: r) (p.length : Int) = x := by
  unfold rd_T28
  rw [Int.toNat_natCast, List.getD_eq_getElem?_getD, List.getElem?_append_right (Nat.le_refl _), Nat.sub_self]; rfl
def sizeS (v : S28) : Int := if v.f2 = 1 then 2 else if v.f2 = 2 ∧ -1000 ≤ v.f3 ∧ v.f3 ≤ v.f4 ∧ v.f4 ≤ 1000 then v.f4 - v.f3 + 1 else 0
theorem size_eq (v : S28) : dom_Size.f v.f0 v.f1 v.f2 v.f3 v.f4 = some (sizeS v) := by
  unfold dom_Size.f sizeS
  by_cases h1 : v.f2 = 1
  · simp [h1]
  · rw [if_neg h1, if_neg h1]
    by_cases h2 : v.f2 = 2
    · rw [if_pos h2]
      by_cases h3 : v.f3 ≥ -1000
      · rw [if_pos h3]
        by_cases h4 : v.f3 ≤ v.f4
        · rw [if_pos h4]
          by_cases h5 : v.f4 ≤ 1000
          · rw [if_pos h5, if_pos ⟨h2, h3, h4, h5⟩, w64 (x := v.f4 - v.f3) (by omega) (by omega), w64 (by omega) (by omega)]
          · rw [if_neg h5, if_neg (fun h => h5 h.2.2.2)]
        · rw [if_neg h4, if_neg (fun h => h4 h.2.2.1)]
      · rw [if_neg h3, if_neg (fun h => h3 h.2.1)]
    · rw [if_neg h2, if_neg (fun h => h2 h.1)]
theorem size_range (v : S28) : 0 ≤ sizeS v ∧ sizeS v ≤ 2001 := by unfold sizeS; split; omega; split <;> omega
def lowS (v : S28) : Int := if v.f2 = 1 then 0 else v.f3
theorem low_eq (v : S28) : dom_low.f v.f0 v.f1 v.f2 v.f3 v.f4 = some (lowS v) := by unfold dom_low.f lowS; split <;> rfl
def sortedS (v : S28) : Int := if v.f2 ≠ 1 ∧ v.f2 ≠ 2 then 4 else if (v.f2 = 1 ∧ (v.f3 ≠ 0 ∨ v.f4 ≠ 0)) ∨ (v.f2 = 2 ∧ sizeS v = 0) then 6 else 0
theorem sorted_ev (v : S28) : Ev (fun k => dom_sorted.f k v.f0 v.f1 v.f2 v.f3 v.f4) (sortedS v) := by
  unfold dom_sorted.f sortedS
  by_cases h1 : v.f2 = 1
  · have h2 : ¬ v.f2 = 2 := by omega
    rw [if_neg (fun h => h.1 h1)]
    refine ev_pos h1 (ev_step (fun k => rfl) (ev_pos h1 ?_))
    by_cases h3 : v.f3 = 0
    · refine ev_pos h3 (ev_step (fun k => rfl) ?_)
      by_cases h4 : v.f4 = 0
      · refine ev_neg (by simp [h4]) (ev_neg h2 (ev_eq (ev_some _) ?_))
        rw [if_neg]; simp [h3, h4, h2]
      · refine ev_pos (by simp [h4]) (ev_eq (ev_some _) ?_)
        rw [if_pos]; exact .inl ⟨h1, .inr h4⟩
    · refine ev_neg h3 (ev_step (fun k => rfl) (ev_eq (ev_some _) ?_))
      rw [if_pos]; exact .inl ⟨h1, .inl h3⟩
  · refine ev_neg h1 (ev_step (fun k => rfl) ?_)
    by_cases h2 : v.f2 = 2
    · rw [if_neg (fun h => h.2 h2)]
      refine ev_neg (by simp [h2]) (ev_neg h1 (ev_step (fun k => rfl) (ev_pos h2 (ev_bindv (size_eq v) ?_))))
      by_cases h3 : sizeS v = 0
      · refine ev_pos h3 (ev_eq (ev_some _) ?_)
        rw [if_pos]; exact .inr ⟨h2, h3⟩
      · refine ev_neg h3 (ev_eq (ev_some _) ?_)
        rw [if_neg]; simp [h1, h3]
    · rw [if_pos ⟨h1, h2⟩]
      exact ev_pos (by simp [h2]) (ev_some _)
/-- A variable that may be, but for its name. -/
def Fine (v : S28) : Prop := sortedS v = 0
theorem fine_cases {v : S28} (h : Fine v) : (v.f2 = 1 ∧ v.f3 = 0 ∧ v.f4 = 0 ∧ sizeS v = 2 ∧ lowS v = 0) ∨ (v.f2 = 2 ∧ -1000 ≤ v.f3 ∧ v.f3 ≤ v.f4 ∧ v.f4 ≤ 1000 ∧ sizeS v = v.f4 - v.f3 + 1 ∧ lowS v = v.f3) := by
  unfold Fine sortedS at h
  split at h
  · omega
  · rename_i h1
    split at h
    · omega
    · rename_i h2
      by_cases h3 : v.f2 = 1
      · refine .inl ⟨h3, ?_, ?_, by simp [sizeS, h3], by simp [lowS, h3]⟩
        · by_cases h4 : v.f3 = 0
          · exact h4
          · exact absurd (.inl ⟨h3, .inl h4⟩) h2
        · by_cases h4 : v.f4 = 0
          · exact h4
          · exact absurd (.inl ⟨h3, .inr h4⟩) h2
      · have h4 : v.f2 = 2 := by
          by_cases h5 : v.f2 = 2
          · exact h5
          · exact absurd ⟨h3, h5⟩ h1
        have h5 : sizeS v ≠ 0 := fun h6 => h2 (.inr ⟨h4, h6⟩)
        have h6 : -1000 ≤ v.f3 ∧ v.f3 ≤ v.f4 ∧ v.f4 ≤ 1000 := by
          by_cases h7 : -1000 ≤ v.f3 ∧ v.f3 ≤ v.f4 ∧ v.f4 ≤ 1000
          · exact h7
          · refine absurd ?_ h5
            unfold sizeS
            rw [if_neg h3, if_neg (fun h => h7 h.2)]
        refine .inr ⟨h4, h6.1, h6.2.1, h6.2.2, ?_, by simp [lowS, h3]⟩
        unfold sizeS
        rw [if_neg h3, if_pos ⟨h4, h6⟩]
theorem fine_pos {v : S28} (h : Fine v) : 1 ≤ sizeS v := by rcases fine_cases h with h | h <;> omega
theorem fine_low {v : S28} (h : Fine v) : -1000 ≤ lowS v ∧ lowS v ≤ 1000 ∧ lowS v = v.f3 ∧ lowS v + sizeS v ≤ 1001 := by rcases fine_cases h with h | h <;> omega

def totFrom : Int → List S28 → Int
  | n, [] => n
  | n, v :: r => if sortedS v = 0 then (if n * sizeS v > 512 then 0 else totFrom (n * sizeS v) r) else 0
def totalS (l : List S28) : Int := if l.length > 6 then 0 else totFrom 1 l
theorem total_loop (l : List S28) (hl : l.length < 4611686018427387904) : ∀ (r p : List S28) (n : Int), l = p ++ r → 0 ≤ n → n ≤ 512 → Ev (fun k => dom_Total.l0 k n l (l.length : Int) (p.length : Int)) (totFrom n r)
  | [], p, n, hp, h0, h1 => by
    have e : l.length = p.length := by rw [hp]; simp
    exact ev_step (fun k => rfl) (ev_neg (by omega) (ev_some _))
  | v :: r, p, n, hp, h0, h1 => by
    have e : l.length = p.length + (r.length + 1) := by rw [hp]; simp
    have er : rd_T28 l (p.length : Int) = v := by rw [hp]; exact rv_app p v r
    have hs := size_range v
    refine ev_step (fun k => rfl) (ev_pos (by omega) (ev_pos (by omega) (ev_pos (by omega) ?_)))
    rw [er]
    refine ev_bind (sorted_ev v) ?_
    simp only [totFrom]
    by_cases h2 : sortedS v = 0
    · rw [if_pos h2]
      refine ev_pos h2 (ev_bindv (size_eq v) ?_)
      have hb : 0 ≤ n * sizeS v := Int.mul_nonneg h0 hs.1
      have hc : n * sizeS v ≤ 512 * 2001 := Int.mul_le_mul h1 hs.2 hs.1 (by omega)
      rw [w64 (x := n * sizeS v) (by omega) (by omega)]
      by_cases h3 : n * sizeS v > 512
      · rw [if_pos h3]
        exact ev_pos h3 (ev_some _)
      · rw [if_neg h3, w64 (x := (p.length : Int) + 1) (by omega) (by omega)]
        have := total_loop l hl r (p ++ [v]) (n * sizeS v) (by simp [hp]) hb (by omega)
        rw [List.length_append, List.length_singleton] at this
        exact ev_neg h3 this
    · rw [if_neg h2]
      exact ev_neg h2 (ev_some _)
theorem total_ev (l : List S28) (hl : l.length < 4611686018427387904) : Ev (fun k => dom_Total.f k l) (totalS l) := by
  unfold dom_Total.f totalS
  by_cases h : l.length > 6
  · rw [if_pos h]
    exact ev_pos (by omega) (ev_some _)
  · rw [if_neg h]
    exact ev_neg (by omega) (total_loop l hl l [] 1 rfl (by omega) (by omega))
def prodS : List S28 → Int
  | [] => 1
  | v :: r => sizeS v * prodS r
theorem tot_fine : ∀ (l : List S28) (n : Int), 1 ≤ n → n ≤ 512 → totFrom n l ≠ 0 → (∀ v ∈ l, Fine v) ∧ totFrom n l = n * prodS l ∧ n * prodS l ≤ 512 ∧ 1 ≤ prodS l
  | [], n, h1, h5, _ => ⟨fun v hv => by simp at hv, by simp [totFrom, prodS], by simp [prodS]; exact h5, by simp [prodS]⟩
  | v :: r, n, h1, h5, h => by
    simp only [totFrom] at h ⊢
    by_cases h2 : sortedS v = 0
    · rw [if_pos h2] at h ⊢
      by_cases h3 : n * sizeS v > 512
      · rw [if_pos h3] at h
        exact absurd rfl h
      · rw [if_neg h3] at h ⊢
        have hp := fine_pos h2
        have hb : 1 ≤ n * sizeS v := by
          have := Int.mul_le_mul h1 hp (by omega) (by omega)
          omega
        obtain ⟨g1, g2, g3, g4⟩ := tot_fine r (n * sizeS v) hb (by omega) h
        refine ⟨fun x hx => ?_, ?_, ?_, ?_⟩
        · rcases List.mem_cons.1 hx with rfl | hx
          · exact h2
          · exact g1 x hx
        · rw [g2, prodS, Int.mul_assoc]
        · rw [prodS, ← Int.mul_assoc]; exact g3
        · rw [prodS]
          have := Int.mul_le_mul hp g4 (by omega) (by omega)
          omega
    · rw [if_neg h2] at h
      exact absurd rfl h

theorem find_eq (l : List S28) (a : ByteArray) (hl : l.length < 4611686018427387904) : dom_Find.f l a = some (findFrom a l 0) := by
  unfold dom_Find.f maxLen
  rw [if_pos (by omega)]
def nmFrom (s : ByteArray) (i : Nat) : Nat → Bool
  | 0 => true
  | d + 1 => ((decide (97 ≤ bt s i) && decide (bt s i ≤ 122)) || (decide (0 < i) && ((decide (48 ≤ bt s i) && decide (bt s i ≤ 57)) || decide (bt s i = 95)))) && nmFrom s (i + 1) d
def inWords (s : ByteArray) : List ByteArray → Bool
  | [] => false
  | w :: r => decide (w.toList = s.toList) || inWords s r
def wordsL : List ByteArray := (dom_words.f).getD []
def nameS (s : ByteArray) : Bool := decide (1 ≤ s.size) && (decide (s.size ≤ 16) && (!inWords s wordsL && nmFrom s 0 s.size))
theorem index_loop (l : List ByteArray) (a : ByteArray) (hl : l.length < 4611686018427387904) : ∀ (r p : List ByteArray), l = p ++ r → ∃ x : Int, Ev (fun k => slices_Index_string_string.l0 k l a (l.length : Int) (p.length : Int)) x ∧ (0 ≤ x ↔ inWords a r = true)
  | [], p, hp => by
    have e : l.length = p.length := by rw [hp]; simp
    exact ⟨-1, ev_step (fun k => rfl) (ev_neg (by omega) (ev_some _)), by simp [inWords]⟩
  | v :: r, p, hp => by
    have e : l.length = p.length + (r.length + 1) := by rw [hp]; simp
    have er : rdOf ByteArray.empty l (p.length : Int) = v := by
      rw [hp]; unfold rdOf
      rw [Int.toNat_natCast, List.getD_eq_getElem?_getD, List.getElem?_append_right (Nat.le_refl _), Nat.sub_self]; rfl
    by_cases h : a.toList = v.toList
    · refine ⟨p.length, ev_step (fun k => rfl) (ev_pos (by omega) (ev_pos (by omega) (ev_pos (by omega) (ev_pos (by rw [er]; exact h) (ev_some _))))), ?_⟩
      simp [inWords, h]
    · obtain ⟨x, hx, h2⟩ := index_loop l a hl r (p ++ [v]) (by simp [hp])
      rw [List.length_append, List.length_singleton] at hx
      refine ⟨x, ev_step (fun k => rfl) (ev_pos (by omega) (ev_pos (by omega) (ev_pos (by omega) (ev_neg (by rw [er]; exact h) ?_)))), ?_⟩
      · rw [w64 (x := (p.length : Int) + 1) (by omega) (by omega)]
        exact hx
      · rw [h2]
        have : ¬ v.toList = a.toList := fun h3 => h h3.symm
        simp [inWords, this]
theorem contains_ev (l : List ByteArray) (a : ByteArray) (hl : l.length < 4611686018427387904) : Ev (fun k => slices_Contains_string_string.f k l a) (inWords a l) := by
  obtain ⟨x, hx, h2⟩ := index_loop l a hl l [] rfl
  unfold slices_Contains_string_string.f
  refine ev_bind (g := fun k => slices_Index_string_string.f k l a) hx (ev_eq (ev_some _) ?_)
  by_cases h : 0 ≤ x
  · rw [h2.1 h]; simp; exact h
  · have : inWords a l = false := by
      cases h3 : inWords a l with
      | true => exact absurd (h2.2 h3) h
      | false => rfl
    rw [this]; simp; omega
theorem name_loop (s : ByteArray) (hs : s.size < 4611686018427387904) : ∀ (d i : Nat), i + d = s.size → Ev (fun k => dom_name.l0 k s (s.size : Int) (i : Int)) (nmFrom s i d)
  | 0, i, h => ev_step (fun k => rfl) (ev_neg (by omega) (ev_some _))
  | d + 1, i, h => by
    have ih := name_loop s hs d (i + 1) (by omega)
    have e1 : wrap64 ((i : Int) + 1) = ((i + 1 : Nat) : Int) := by rw [w64 (by omega) (by omega)]; simp
    have go : ∀ (b : Bool), b = (decide (97 ≤ bt s i) && decide (bt s i ≤ 122)) → Ev (fun k => dom_name.j2 k s (i : Int) (bt s i) (s.size : Int) (i : Int) b) (nmFrom s i (d + 1)) := by
      intro b hb
      simp only [nmFrom]
      rw [← hb]
      refine ev_step (fun k => rfl) ?_
      refine ev_bool (fun hb1 => ?_) (fun hb0 => ?_)
      · rw [e1, hb1]
        exact ev_eq ih (by simp)
      · rw [hb0]
        by_cases h0 : (i : Int) > 0
        · have h0' : 0 < i := by omega
          refine ev_pos h0 ?_
          by_cases h3 : bt s i = 95
          · by_cases h1 : bt s i ≥ 48
            · refine ev_pos h1 (ev_neg (by omega) (ev_pos h3 ?_))
              rw [e1]
              exact ev_eq ih (by simp [h0', h3])
            · exact absurd h3 (by omega)
          · by_cases h1 : bt s i ≥ 48
            · by_cases h2 : bt s i ≤ 57
              · refine ev_pos h1 (ev_pos h2 ?_)
                rw [e1]
                exact ev_eq ih (by simp [h0', h1, h2])
              · refine ev_pos h1 (ev_neg h2 (ev_neg h3 (ev_eq (ev_some _) ?_)))
                rw [decide_eq_false (p := bt s i ≤ 57) (by omega), decide_eq_false (p := bt s i = 95) h3]
                simp
            · refine ev_neg h1 (ev_neg h3 (ev_eq (ev_some _) ?_))
              rw [decide_eq_false (p := 48 ≤ bt s i) (by omega), decide_eq_false (p := bt s i = 95) h3]
              simp
        · refine ev_neg h0 (ev_eq (ev_some _) ?_)
          rw [decide_eq_false (p := 0 < i) (by omega)]
          simp
    refine ev_step (fun k => rfl) (ev_pos (by omega) (ev_pos (by omega) (ev_pos (by omega) ?_)))
    by_cases h1 : bt s i ≥ 97
    · refine ev_pos h1 (go _ ?_)
      rw [decide_eq_true (p := 97 ≤ bt s i) h1]; rfl
    · refine ev_neg h1 (go _ ?_)
      rw [decide_eq_false (p := 97 ≤ bt s i) h1]; rfl
theorem words_eq : dom_words.f = some wordsL := rfl
theorem name_ev (s : ByteArray) (hs : s.size < 4611686018427387904) : Ev (fun k => dom_name.f k s) (nameS s) := by
  unfold dom_name.f nameS
  by_cases h1 : (s.size : Int) < 1
  · refine ev_pos h1 (ev_step (fun k => rfl) (ev_eq (ev_some _) ?_))
    rw [decide_eq_false (p := 1 ≤ s.size) (by omega)]; rfl
  · by_cases h2 : (s.size : Int) > 16
    · refine ev_neg h1 (ev_pos h2 (ev_step (fun k => rfl) (ev_eq (ev_some _) ?_)))
      rw [decide_eq_false (p := s.size ≤ 16) (by omega)]; simp
    · refine ev_neg h1 (ev_neg h2 (ev_bindv words_eq (ev_bind (contains_ev wordsL s (by show 18 < _; omega)) (ev_step (fun k => rfl) ?_))))
      rw [decide_eq_true (p := 1 ≤ s.size) (by omega), decide_eq_true (p := s.size ≤ 16) (by omega)]
      refine ev_bool (fun h3 => ev_eq (ev_some _) (by rw [h3]; rfl)) (fun h3 => ev_eq (name_loop s hs s.size 0 (by omega)) (by rw [h3]; rfl))
end Go.Proofs.Ytofmfnbiondplaa.Dm

namespace Go.Proofs.Ytofmfnbiondplaa.Dm
open Go.RowKit Go.Proofs.YtofmfnbiondplaaW.PrintWords Go.Proofs.YtofmfnbiondplaaW.PrintMore Go.Proofs.Ytofmfnbiondplaa.P Go.Proofs.Ytofmfnbiondplaa.X Go.Proofs.Ytofmfnbiondplaa.Evx

def mayFrom (l : List S28) : List S28 → Int → Int
  | [], _ => if totalS l = 0 then 7 else 0
  | v :: r, i => if nameS v.f0 = true ∧ ¬ findFrom v.f0 l 0 < i then (if sortedS v = 0 then mayFrom l r (i + 1) else sortedS v) else 3
def mayS (l : List S28) : Int := mayFrom l l 0
/-- Lists that are short enough to be walked. -/
structure Short (l : List S28) : Prop where
  len : l.length < 4611686018427387904
  nm : ∀ v ∈ l, v.f0.size < 4611686018427387904
theorem may_loop (l : List S28) (hs : Short l) : ∀ (r p : List S28), l = p ++ r → Ev (fun k => dom_May.l0 k l l (l.length : Int) (p.length : Int)) (mayFrom l r (p.length : Int))
  | [], p, hp => by
    have e : l.length = p.length := by rw [hp]; simp
    refine ev_step (fun k => rfl) (ev_neg (by omega) (ev_bind (total_ev l hs.len) ?_))
    simp only [mayFrom]
    by_cases h : totalS l = 0
    · exact ev_pos h (ev_eq (ev_some _) (if_pos h).symm)
    · exact ev_neg h (ev_eq (ev_some _) (if_neg h).symm)
  | v :: r, p, hp => by
    have e : l.length = p.length + (r.length + 1) := by rw [hp]; simp
    have hl := hs.len
    have er : rd_T28 l (p.length : Int) = v := by rw [hp]; exact rv_app p v r
    have hv := hs.nm v (by rw [hp]; simp)
    have ih := may_loop l hs r (p ++ [v]) (by simp [hp])
    rw [List.length_append, List.length_singleton] at ih
    have go : ∀ b : Bool, b = decide (¬ (nameS v.f0 = true ∧ ¬ findFrom v.f0 l 0 < (p.length : Int))) → Ev (fun k => dom_May.j1 k l l (l.length : Int) (p.length : Int) b v.f0 v.f1 v.f2 v.f3 v.f4) (mayFrom l (v :: r) (p.length : Int)) := by
      intro b hb
      simp only [mayFrom]
      refine ev_step (fun k => rfl) (ev_bool (fun h1 => ?_) (fun h1 => ?_))
      · rw [h1] at hb
        rw [if_neg (of_decide_eq_true hb.symm)]
        exact ev_some _
      · rw [h1] at hb
        rw [if_pos (Decidable.of_not_not (of_decide_eq_false hb.symm))]
        refine ev_bind (sorted_ev v) ?_
        by_cases h2 : sortedS v = 0
        · rw [if_pos h2, w64 (x := (p.length : Int) + 1) (by omega) (by omega)]
          exact ev_pos h2 ih
        · rw [if_neg h2]
          exact ev_neg h2 (ev_some _)
    refine ev_step (fun k => rfl) (ev_pos (by omega) (ev_pos (by omega) (ev_pos (by omega) ?_)))
    rw [er]
    refine ev_bind (name_ev v.f0 hv) (ev_bool (fun h1 => ev_bindv (find_eq l v.f0 hs.len) (go _ ?_)) (fun h1 => go _ ?_))
    · simp [h1]
    · simp [h1]
theorem may_ev (l : List S28) (hs : Short l) : Ev (fun k => dom_May.f k l) (mayS l) := may_loop l hs l [] rfl

/-- What a list of variables that may be is. -/
structure MayOk (l : List S28) : Prop where
  fine : ∀ v ∈ l, Fine v
  name : ∀ v ∈ l, nameS v.f0 = true
  tot : totalS l = prodS l
  lo : 1 ≤ prodS l
  hi : prodS l ≤ 512
  len : l.length ≤ 6
  apart : ∀ p v r, l = p ++ v :: r → ∀ y ∈ p, y.f0.toList ≠ v.f0.toList
theorem find_lt (a : ByteArray) : ∀ (p r : List S28) (i : Int), (∃ y ∈ p, y.f0.toList = a.toList) → i ≤ findFrom a (p ++ r) i ∧ findFrom a (p ++ r) i < i + p.length
  | [], r, i, ⟨y, hy, _⟩ => by simp at hy
  | x :: p, r, i, ⟨y, hy, he⟩ => by
    simp only [List.cons_append, findFrom]
    by_cases h : x.f0.toList = a.toList
    · rw [if_pos h]; simp; omega
    · rw [if_neg h]
      have := find_lt a p r (i + 1) (by
        rcases List.mem_cons.1 hy with rfl | hy
        · exact absurd he h
        · exact ⟨y, hy, he⟩)
      simp; omega
theorem may_walk (l : List S28) : ∀ (r p : List S28), l = p ++ r → mayFrom l r (p.length : Int) = 0 → (∀ v ∈ r, Fine v ∧ nameS v.f0 = true) ∧ totalS l ≠ 0 ∧ ∀ q v s, r = q ++ v :: s → ∀ y ∈ p ++ q, y.f0.toList ≠ v.f0.toList
  | [], p, hp, h => by
    simp only [mayFrom] at h
    refine ⟨fun v hv => by simp at hv, fun h0 => by rw [if_pos h0] at h; omega, fun q v s e => by simp at e⟩
  | v :: r, p, hp, h => by
    simp only [mayFrom] at h
    by_cases h1 : nameS v.f0 = true ∧ ¬ findFrom v.f0 l 0 < (p.length : Int)
    · rw [if_pos h1] at h
      by_cases h2 : sortedS v = 0
      · rw [if_pos h2] at h
        have ih := may_walk l r (p ++ [v]) (by simp [hp]) (by rw [List.length_append, List.length_singleton]; exact h)
        refine ⟨fun x hx => ?_, ih.2.1, fun q w s e y hy he => ?_⟩
        · rcases List.mem_cons.1 hx with rfl | hx
          · exact ⟨h2, h1.1⟩
          · exact ih.1 x hx
        · cases q with
          | nil =>
            simp at e
            rw [List.append_nil] at hy
            rw [← e.1] at he
            have := find_lt v.f0 p (v :: r) 0 ⟨y, hy, he⟩
            rw [← hp] at this
            exact h1.2 (by omega)
          | cons a q =>
            simp at e
            exact ih.2.2 q w s e.2 y (by rw [← e.1] at hy; simpa using hy) he
      · rw [if_neg h2] at h
        exact absurd h h2
    · rw [if_neg h1] at h
      omega
theorem may_ok {l : List S28} (h : mayS l = 0) : MayOk l := by
  obtain ⟨h1, h2, h3⟩ := may_walk l l [] rfl h
  have h4 : ¬ l.length > 6 := fun h4 => h2 (by unfold totalS; rw [if_pos h4])
  have h5 : totalS l = totFrom 1 l := by unfold totalS; rw [if_neg h4]
  obtain ⟨g1, g2, g3, g4⟩ := tot_fine l 1 (by omega) (by omega) (by rw [← h5]; exact h2)
  exact ⟨g1, fun v hv => (h1 v hv).2, by rw [h5, g2]; omega, g4, by omega, by omega, fun p v r e y hy => h3 p v r e y (by simpa using hy)⟩
def valsFrom : List S28 → Int → List Int
  | [], _ => []
  | v :: r, s => (lowS v + s % sizeS v) :: valsFrom r (s / sizeS v)
theorem vals_loop (l : List S28) (hl : l.length ≤ 6) (hf : ∀ v ∈ l, Fine v) : ∀ (r p : List S28) (s : Int) (acc : List Int), l = p ++ r → 0 ≤ s → s ≤ 512 → acc.length = p.length → Ev (fun k => dom_Values.l0 k s acc l (l.length : Int) (p.length : Int)) (acc ++ valsFrom r s, true)
  | [], p, s, acc, hp, _, _, _ => by
    have e : l.length = p.length := by rw [hp]; simp
    exact ev_step (fun k => rfl) (ev_neg (by omega) (ev_eq (ev_some _) (by simp [valsFrom])))
  | v :: r, p, s, acc, hp, h0, h5, ha => by
    have e : l.length = p.length + (r.length + 1) := by rw [hp]; simp
    have er : rd_T28 l (p.length : Int) = v := by rw [hp]; exact rv_app p v r
    have hv := hf v (by rw [hp]; simp)
    have h1 := fine_pos hv
    have h2 := fine_low hv
    have h3 := size_range v
    have hm0 : 0 ≤ s % sizeS v := Int.emod_nonneg _ (by omega)
    have hm1 : s % sizeS v < sizeS v := Int.emod_lt_of_pos _ (by omega)
    have hd0 : 0 ≤ s / sizeS v := Int.ediv_nonneg h0 (by omega)
    have hd1 : s / sizeS v ≤ s := Int.ediv_le_self _ h0
    refine ev_step (fun k => rfl) (ev_pos (by omega) (ev_pos (by omega) (ev_pos (by omega) ?_)))
    rw [er]
    refine ev_bindv (size_eq v) (ev_bindv (low_eq v) (ev_neg (by omega) (ev_pos (by omega) ?_)))
    rw [Int.tdiv_eq_ediv_of_nonneg h0, Int.tmod_eq_emod_of_nonneg h0, w64 (x := s / sizeS v) (by omega) (by omega), w64 (x := lowS v + s % sizeS v) (by omega) (by omega), w64 (x := (p.length : Int) + 1) (by omega) (by omega)]
    have ih := vals_loop l hl hf r (p ++ [v]) (s / sizeS v) (acc ++ [lowS v + s % sizeS v]) (by simp [hp]) hd0 (by omega) (by simp [ha])
    rw [List.length_append, List.length_singleton] at ih
    exact ev_eq ih (by simp [valsFrom])
/-- Is it a state? -/
def isState (l : List S28) (s : Int) : Prop := mayS l = 0 ∧ 0 ≤ s ∧ s < prodS l
theorem values_yes {l : List S28} (hs : Short l) {s : Int} (h : isState l s) : Ev (fun k => dom_Values.f k l s) (valsFrom l s, true) := by
  obtain ⟨h1, h2, h3⟩ := h
  have ok := may_ok h1
  unfold dom_Values.f
  have h512 := ok.hi
  refine ev_bind (may_ev l hs) (ev_pos h1 (ev_neg (by omega) (ev_bind (total_ev l hs.len) (ev_step (fun k => rfl) (ev_neg ?_ (ev_eq (vals_loop l ok.len ok.fine l [] s [] rfl h2 (by omega) rfl) (by simp)))))))
  rw [ok.tot]; simp; omega
theorem awake_at : parrylaw1_awake.f 40 = some true := by decide +kernel
theorem awake_ev : Ev (fun k => parrylaw1_awake.f k) true := Ev.of (fun k => parrylaw1_awake.mono k) awake_at
end Go.Proofs.Ytofmfnbiondplaa.Dm

namespace Go.Proofs.Ytofmfnbiondplaa.Pu
open Go.RowKit Go.Proofs.YtofmfnbiondplaaW.PrintWords Go.Proofs.Ytofmfnbiondplaa.P Go.Proofs.Ytofmfnbiondplaa.Evx Go.Proofs.Ytofmfnbiondplaa.Dm Go.Proofs.Ytofmfnbiondplaa.Ki Go.Proofs.Ytofmfnbiondplaa.X
theorem ev_awakeS {f : Bool → Option Bool} (h : f true = some true) : Ev (fun k => (parrylaw1_awake.f k).bind f) true := ev_bind awake_ev (ev_eq (Ev.congr (fun _ => h) (ev_some true)) rfl)
def nmV : ByteArray := ⟨#[118]⟩
theorem nmV_ok : nameS nmV = true := by decide +kernel
theorem one_may (v : S28) (hn : v.f0 = nmV) : mayS [v] = if sortedS v = 0 then (if totalS [v] = 0 then 7 else 0) else sortedS v := by
  unfold mayS
  simp only [mayFrom, findFrom]
  rw [if_pos ⟨by rw [hn]; exact nmV_ok, by simp⟩]
theorem DomSizes_pure (a0 : Int) (w0 : (Lit.int .i64 a0).wf = true) (a1 : Int) (w1 : (Lit.int .i64 a1).wf = true) (a2 : Bool) : ∃ k, parrylaw1_DomSizes.f k a0 a1 a2 = some true := by
  apply Ev.rounds
  have hr0 := i64_range w0
  have hr1 := i64_range w1
  unfold parrylaw1_DomSizes.f
  refine ev_bindv rfl ?_
  generalize hv : (⟨(⟨#[118]⟩ : ByteArray), a2, 2, a0, a1⟩ : S28) = v
  have n0 : v.f0 = nmV := by rw [← hv]; rfl
  have n2 : v.f2 = 2 := by rw [← hv]
  have n3 : v.f3 = a0 := by rw [← hv]
  have n4 : v.f4 = a1 := by rw [← hv]
  have hs : Short [v] := ⟨by simp, fun x hx => by rw [List.mem_singleton.1 hx, n0]; show 1 < _; omega⟩
  have hm := one_may v n0
  have hsz : sizeS v = if -1000 ≤ a0 ∧ a0 ≤ a1 ∧ a1 ≤ 1000 then a1 - a0 + 1 else 0 := by
    unfold sizeS
    rw [if_neg (by omega), n3, n4]
    by_cases c : -1000 ≤ a0 ∧ a0 ≤ a1 ∧ a1 ≤ 1000
    · rw [if_pos ⟨n2, c⟩, if_pos c]
    · rw [if_neg (fun h => c h.2), if_neg c]
  have hso : sortedS v = if sizeS v = 0 then 6 else 0 := by
    unfold sortedS
    rw [if_neg (by omega)]
    by_cases c : sizeS v = 0
    · rw [if_pos (.inr ⟨n2, c⟩), if_pos c]
    · rw [if_neg (by rintro (⟨h, _⟩ | ⟨_, h⟩); omega; exact c h), if_neg c]
  have rv0 : rd_T28 [v] 0 = v := rfl
  have htot : totalS [v] = if sortedS v = 0 then (if sizeS v > 512 then 0 else sizeS v) else 0 := by
    unfold totalS
    simp only [totFrom, Int.one_mul]
    rw [if_neg (by simp)]
  have bad : ¬ (-1000 ≤ a0 ∧ a0 ≤ a1 ∧ a1 ≤ 1000) → Ev (fun k => parrylaw1_DomSizes.j0 k a0 a1 [v] false) true := by
    intro c
    rw [if_neg c] at hsz
    rw [if_pos hsz] at hso
    rw [if_neg (by omega), hso] at hm
    rw [if_neg (by omega)] at htot
    refine ev_step (fun k => rfl) (ev_bind (may_ev [v] hs) (ev_pos hm (ev_pos (by simp) ?_)))
    rw [rv0]
    exact ev_bindv (size_eq v) (ev_pos hsz (ev_bind (total_ev [v] hs.len) (ev_pos htot (ev_awakeS rfl))))
  have good : (-1000 ≤ a0 ∧ a0 ≤ a1 ∧ a1 ≤ 1000) → ∀ b : Bool, b = true → Ev (fun k => parrylaw1_DomSizes.j0 k a0 a1 [v] b) true := by
    intro c b hb
    rw [if_pos c] at hsz
    rw [if_neg (by omega)] at hso
    rw [if_pos hso] at hm htot
    have hf : Fine v := hso
    have wn : wrap64 (wrap64 (a1 - a0) + 1) = a1 - a0 + 1 := by rw [w64 (x := a1 - a0) (by omega) (by omega), w64 (by omega) (by omega)]
    refine ev_step (fun k => rfl) (ev_bool (fun _ => ?_) (fun h => by rw [hb] at h; cases h))
    rw [wn]
    by_cases c5 : a1 - a0 + 1 > 512
    · rw [if_pos (by omega)] at htot
      rw [if_pos htot] at hm
      refine ev_pos c5 (ev_bind (may_ev [v] hs) (ev_pos hm (ev_pos (by simp) ?_)))
      rw [rv0]
      exact ev_bindv (size_eq v) (ev_pos hsz (ev_awakeS rfl))
    · rw [if_neg (by omega)] at htot
      rw [if_neg (by omega)] at hm
      have hp : prodS [v] = a1 - a0 + 1 := by simp only [prodS]; omega
      have hlow : lowS v = a0 := by unfold lowS; rw [if_neg (by omega), n3]
      have s0 : isState [v] 0 := ⟨hm, by omega, by omega⟩
      have s1 : isState [v] (a1 - a0 + 1 - 1) := ⟨hm, by omega, by omega⟩
      have v0 : valsFrom [v] 0 = [a0] := by simp [valsFrom, hlow]
      have v1 : valsFrom [v] (a1 - a0 + 1 - 1) = [a1] := by
        simp only [valsFrom, hlow, hsz]
        rw [Int.emod_eq_of_lt (by omega) (by omega)]
        congr 1
        omega
      refine ev_neg c5 (ev_bind (values_yes hs s0) ?_)
      rw [w64 (x := a1 - a0 + 1 - 1) (by omega) (by omega)]
      refine ev_bind (values_yes hs s1) (ev_bind (may_ev [v] hs) (ev_pos hm (ev_bind (total_ev [v] hs.len) (ev_pos (by omega) (ev_pos rfl (ev_pos rfl ?_))))))
      rw [v0, v1]
      exact ev_pos (by simp) (ev_pos (by simp) (ev_pos (by simp) (ev_pos rfl (ev_pos (by simp) (ev_pos rfl (ev_awakeS rfl))))))
  by_cases c1 : a0 ≥ -1000
  · refine ev_pos c1 ?_
    by_cases c2 : a0 ≤ a1
    · refine ev_pos c2 ?_
      by_cases c3 : a1 ≤ 1000
      · exact good ⟨c1, c2, c3⟩ _ (decide_eq_true c3)
      · rw [decide_eq_false c3]
        exact bad (fun h => c3 h.2.2)
    · exact ev_neg c2 (bad (fun h => c2 h.2.1))
  · exact ev_neg c1 (bad (fun h => c1 h.1))
end Go.Proofs.Ytofmfnbiondplaa.Pu

