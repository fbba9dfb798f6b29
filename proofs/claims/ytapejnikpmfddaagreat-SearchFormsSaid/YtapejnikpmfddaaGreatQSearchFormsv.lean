/- A part of the claim SearchForms. -/
import Derived.Test.YtapejnikpmfddaaGreatQSearchFormsu
set_option linter.unusedVariables false
set_option linter.unusedSimpArgs false
namespace Go.Proofs.YtapejnikpmfddaaGreat.X
open Go.RowKit Go.Proofs.aI.bM Go.Proofs.aI.dG Go.Proofs.aI.dM
open Go.Proofs.YtapejnikpmfddaaGreat.P Go.Proofs.YtapejnikpmfddaaGreat.gY
theorem auK (eD : Option Addr) (eF : Nat) (aV : List Int) (dX : Option Addr) (dY : Nat) (bF : List Int) (aM : Option Addr) (aC : Nat) (af : List (List Int)) (A1 : Option Addr) (c1 : Nat) (l1 : List Int) (A2 : Option Addr) (c2 : Nat) (l2 : List Int) (r1 : List Int) (r2 : List Int) (w : World) (qK : Kd.C (Kd.int .u32) w eD aV.length aV) (qL : aV.length ≤ eF) (qM : Kd.C (Kd.int .i64) w dX bF.length bF) (qN : bF.length ≤ dY) (dn : Kd.C (Kd.slice 3 (Kd.int .i64)) w aM af.length af) (dw : af.length ≤ aC) (hr1 : Kd.C (Kd.int .i64) w A1 l1.length l1) (hc1 : l1.length ≤ c1) (hr2 : Kd.C (Kd.int .i64) w A2 l2.length l2) (hc2 : l2.length ≤ c2) (h : ZU.f aV bF af l1 l2 = some (r1, r2, true)) :
  Calls Tryz.prog 17 #[.agg #[.slice eD aV.length eF, .slice dX bF.length dY, .slice aM af.length aC], .slice A1 l1.length c1, .slice A2 l2.length c2] w fun e w' => ∃ Mv Dj : Value, e = .returned (.tuple #[.agg #[Mv, Dj], .bool true]) ∧ Kd.R (Kd.int .u32) 44 w' w.heap.size (fun _ => True) Mv r1 ∧ Kd.R (Kd.int .u32) 44 w' w.heap.size (fun _ => True) Dj r2 ∧ Below w.heap.size w w' := by
 unfold ZU.f at h;by_cases hl : l1.length + l2.length < 1000000000
 ·rw [if_pos hl] at h;have h' := Option.some.inj h;injection h' with h1 h'
  injection h' with h2 h3
  rw [h3] at h1 h2;have H := auB aV bF af l1 l2 eD dX aM A1 A2 eF dY aC c1 c2 w qK qL qM qN dn dw hr1 hc1 hr2 hc2 hl h3;rw [← h1, ← h2];exact H
 ·rw [if_neg hl] at h; cases h
end Go.Proofs.YtapejnikpmfddaaGreat.X
