/- A part of the claim SearchReal. -/
import Derived.Test.YtapejnikpmfddaaQSearchRealq
set_option linter.unusedVariables false
set_option linter.unusedSimpArgs false
namespace Go.Proofs.Ytapejnikpmfddaa.X
open Go.RowKit Go.Proofs.YtapejnikpmfddaaW.PrintWords Go.Proofs.YtapejnikpmfddaaW.PrintLast Go.Proofs.YtapejnikpmfddaaW.PrintMore
open Go.Proofs.Ytapejnikpmfddaa.P Go.Proofs.Ytapejnikpmfddaa.Evx
theorem word_trueC (A0_0 : Option Addr) (c0_0 : Nat) (l0_0 : List Int) (A0_1 : Option Addr) (c0_1 : Nat) (l0_1 : List Int) (A0_2 : Option Addr) (c0_2 : Nat) (l0_2 : List (List Int)) (A1 : Option Addr) (c1 : Nat) (l1 : List Int) (A2 : Option Addr) (c2 : Nat) (l2 : List Int) (r1 : List Int) (r2 : List Int) (w : World) (hr0_0 : Kd.C (Kd.int .u32) w A0_0 l0_0.length l0_0) (hc0_0 : l0_0.length ≤ c0_0) (hr0_1 : Kd.C (Kd.int .i64) w A0_1 l0_1.length l0_1) (hc0_1 : l0_1.length ≤ c0_1) (hr0_2 : Kd.C (Kd.slice 3 (Kd.int .i64)) w A0_2 l0_2.length l0_2) (hc0_2 : l0_2.length ≤ c0_2) (hr1 : Kd.C (Kd.int .i64) w A1 l1.length l1) (hc1 : l1.length ≤ c1) (hr2 : Kd.C (Kd.int .i64) w A2 l2.length l2) (hc2 : l2.length ≤ c2) (h : search_Word.f l0_0 l0_1 l0_2 l1 l2 = some (r1, r2, true)) :
  Calls Try.prog 13 #[.agg #[.slice A0_0 l0_0.length c0_0, .slice A0_1 l0_1.length c0_1, .slice A0_2 l0_2.length c0_2], .slice A1 l1.length c1, .slice A2 l2.length c2] w fun e w' => ∃ v1_ v2_ : Value, e = .returned (.tuple #[.agg #[v1_, v2_], .bool true]) ∧ Kd.R (Kd.int .u32) 48 w' w.heap.size (fun _ => True) v1_ r1 ∧ Kd.R (Kd.int .u32) 48 w' w.heap.size (fun _ => True) v2_ r2 ∧ Below w.heap.size w w' := by
 unfold search_Word.f at h
 by_cases hl : l1.length + l2.length < 1000000000
 ·rw [if_pos hl] at h
  have h' := Option.some.inj h
  injection h' with h1 h'
  injection h' with h2 h3
  rw [h3] at h1 h2
  have H := Word_true l0_0 l0_1 l0_2 l1 l2 A0_0 A0_1 A0_2 A1 A2 c0_0 c0_1 c0_2 c1 c2 w hr0_0 hc0_0 hr0_1 hc0_1 hr0_2 hc0_2 hr1 hc1 hr2 hc2 hl h3
  rw [← h1, ← h2]
  exact H
 ·rw [if_neg hl] at h; cases h
end Go.Proofs.Ytapejnikpmfddaa.X
