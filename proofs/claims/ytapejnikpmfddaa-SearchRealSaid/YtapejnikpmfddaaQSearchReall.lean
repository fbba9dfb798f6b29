/- A part of the claim SearchReal. -/
import Derived.Test.YtapejnikpmfddaaQSearchRealk
set_option linter.unusedVariables false
set_option linter.unusedSimpArgs false
namespace Go.Proofs.Ytapejnikpmfddaa.X
open Go.RowKit Go.Proofs.YtapejnikpmfddaaW.PrintWords Go.Proofs.YtapejnikpmfddaaW.PrintMore
open Go.Proofs.Ytapejnikpmfddaa.P Go.Proofs.Ytapejnikpmfddaa.Evx
def headT (t : S29) : S29 := if t.f0 = 6 then t.f2.getD 0 z29 else t
structure SubF (t s : S29) : Prop where
 pn : nS t ≤ nS s
 ph : hS t ≤ hS s
 pt : tnS t ≤ tnS s
 ps : soundS s = true → soundS t = true
theorem SubF.refl (s : S29) : SubF s s := ⟨Nat.le_refl _, Nat.le_refl _, Nat.le_refl _, id⟩
theorem SubF.trans {a b c : S29} (h : SubF a b) (k : SubF b c) : SubF a c := ⟨Nat.le_trans h.pn k.pn, Nat.le_trans h.ph k.ph, Nat.le_trans h.pt k.pt, fun x => h.ps (k.ps x)⟩
theorem SubF.may {t s : S29} (h : SubF t s) (hm : mayF s = 0) : mayF t = 0 := by
 obtain ⟨h1, h2, h3, h4⟩ := may_zero hm
 rw [may_eq, if_pos (show nS t ≤ 60 ∧ hS t ≤ 12 ∧ tnS t ≤ 8 from ⟨Nat.le_trans h.pn h1, Nat.le_trans h.ph h2, Nat.le_trans h.pt h3⟩), if_pos (h.ps h4)]
theorem nL_mem : ∀ {l : List S29} {k : S29}, k ∈ l → nS k ≤ nL l ∧ hS k ≤ hL l ∧ tnS k ≤ tnL l
 | a :: r, k, h => by
  simp only [nL, hL, tnL]
  rcases List.mem_cons.1 h with e | e
  ·subst e; omega
  ·have := nL_mem e; omega
theorem SubF.kid {s k : S29} (h : k ∈ s.f2) : SubF k s := by
 obtain ⟨op, m, kids⟩ := s
 have := nL_mem (show k ∈ kids from h)
 refine ⟨?_, ?_, ?_, fun hs => sound_in (sound_kids_all hs) k h⟩
 ·simp only [nS]; exact Nat.le_trans this.1 (by omega)
 ·simp only [hS]; exact Nat.le_trans this.2.1 (by omega)
 ·simp only [tnS]; exact Nat.le_trans this.2.2 (by omega)
mutual
theorem times_sub : ∀ (s t : S29), t ∈ timesS s → SubF t s
 | ⟨op, m, kids⟩, t, h => by
  simp only [timesS, List.mem_append] at h
  rcases h with h | h
  ·split at h
   ·rw [List.mem_singleton.1 h]; exact SubF.refl _
   ·cases h
  ·obtain ⟨k, hk, hs⟩ := times_subL kids t h
   exact hs.trans (SubF.kid hk)
theorem times_subL : ∀ (l : List S29) (t : S29), t ∈ timesL l → ∃ k ∈ l, SubF t k
 | [], t, h => by simp [timesL] at h
 | a :: r, t, h => by
  simp only [timesL, List.mem_append] at h
  rcases h with h | h
  ·exact ⟨a, by simp, times_sub a t h⟩
  ·obtain ⟨k, hk, hs⟩ := times_subL r t h
   exact ⟨k, by simp [hk], hs⟩
end
theorem head_may {t : S29} (h : mayF t = 0) : mayF (headT t) = 0 := by
 unfold headT
 split
 ·rename_i h6
  have hs := (may_zero h).2.2.2
  have hp := sound_parts hs
  have h1 : kidsS 6 = 1 := by decide
  rw [h6, h1] at hp
  have hl : 0 < t.f2.length := by omega
  have : t.f2.getD 0 z29 = t.f2[0]'hl := by rw [List.getD_eq_getElem?_getD, List.getElem?_eq_getElem hl]; rfl
  rw [this]
  exact (SubF.kid (List.getElem_mem hl)).may h
 ·exact h
end Go.Proofs.Ytapejnikpmfddaa.X
