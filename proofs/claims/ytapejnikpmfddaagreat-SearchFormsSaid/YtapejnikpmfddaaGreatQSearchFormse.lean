/- A part of the claim SearchForms. -/
import Derived.Test.YtapejnikpmfddaaGreatQSearchFormsd
set_option linter.unusedVariables false
set_option linter.unusedSimpArgs false
namespace Go.Proofs.YtapejnikpmfddaaGreat.X
open Go.RowKit Go.Proofs.aI.bM Go.Proofs.aI.dM
open Go.Proofs.YtapejnikpmfddaaGreat.P Go.Proofs.YtapejnikpmfddaaGreat.gY
def jX (t : ak) : ak := if t.f0 = 6 then t.f2.getD 0 z29 else t
structure sG (t s : ak) : Prop where
 pn : nS t ≤ nS s
 ph : hS t ≤ hS s
 pt : az t ≤ az s
 ps : cO s = true → cO t = true
theorem sG.refl (s : ak) : sG s s := ⟨Nat.le_refl _, Nat.le_refl _, Nat.le_refl _, id⟩
theorem sG.trans {a b c : ak} (h : sG a b) (k : sG b c) : sG a c := ⟨Nat.le_trans h.pn k.pn, Nat.le_trans h.ph k.ph, Nat.le_trans h.pt k.pt, fun x => h.ps (k.ps x)⟩
theorem sG.may {t s : ak} (h : sG t s) (hm : bW s = 0) : bW t = 0 := by
 obtain ⟨h1, h2, h3, h4⟩ := kZ hm;rw [UH, if_pos (show nS t ≤ 60 ∧ hS t ≤ 12 ∧ az t ≤ 8 from ⟨Nat.le_trans h.pn h1, Nat.le_trans h.ph h2, Nat.le_trans h.pt h3⟩), if_pos (h.ps h4)]
theorem adM : ∀ {l : List ak} {k : ak}, k ∈ l → nS k ≤ nL l ∧ hS k ≤ hL l ∧ az k ≤ dI l
 | a :: r, k, h => by
  simp only [nL, hL, dI];rcases List.mem_cons.1 h with e | e
  ·subst e; omega
  ·have := adM e; omega
theorem sG.kid {s k : ak} (h : k ∈ s.f2) : sG k s := by
 obtain ⟨op, m, kids⟩ := s;have := adM (show k ∈ kids from h);refine ⟨?_, ?_, ?_, fun hs => adE (Af hs) k h⟩
 ·simp only [nS]; exact Nat.le_trans this.1 ag
 ·simp only [hS]; exact Nat.le_trans this.2.1 ag
 ·simp only [az]; exact Nat.le_trans this.2.2 ag
mutual
theorem Kt : ∀ (s t : ak), t ∈ bU s → sG t s
 | ⟨op, m, kids⟩, t, h => by
  simp only [bU, List.mem_append] at h;rcases h with h | h
  ·split at h
   ·rw [List.mem_singleton.1 h]; exact sG.refl _
   ·cases h
  ·obtain ⟨k, hk, hs⟩ := adN kids t h;exact hs.trans (sG.kid hk)
theorem adN : ∀ (l : List ak) (t : ak), t ∈ fO l → ∃ k ∈ l, sG t k
 | [], t, h => by simp [fO] at h
 | a :: r, t, h => by
  simp only [fO, List.mem_append] at h;rcases h with h | h
  ·exact ⟨a, by simp, Kt a t h⟩
  ·obtain ⟨k, hk, hs⟩ := adN r t h;exact ⟨k, by simp [hk], hs⟩
end
theorem U1 {t : ak} (h : bW t = 0) : bW (jX t) = 0 := by
 unfold jX;split
 ·rename_i h6
  have hs := (kZ h).2.2.2;have hp := C8 hs;have h1 : fC 6 = 1 := by decide
  rw [h6, h1] at hp;have hl : 0 < t.f2.length := by omega
  have : t.f2.getD 0 z29 = t.f2[0]'hl := by rw [List.getD_eq_getElem?_getD, List.getElem?_eq_getElem hl]; rfl
  rw [this];exact (sG.kid (List.getElem_mem hl)).may h
 ·exact h
end Go.Proofs.YtapejnikpmfddaaGreat.X
