/- The law SearchForms holds of the given program: for every input that can be read the call returns true and leaves what came in as it was. No further condition. -/
import Derived.Test.YtapejnikpmfddaaGreatRows
import Derived.ProofKit
import Derived.OpenShut
import Derived.ShutString
import Derived.ChangeOld
import Derived.Test.YtapejnikpmfddaaGreatQSearchFormsx
set_option linter.unusedVariables false
set_option linter.unusedSimpArgs false
set_option maxRecDepth 100000
namespace Go.Proofs.YtapejnikpmfddaaGreat.searchForms
open Go.ChangeShapes Go.WideShapes Go.ChangeAt Go.RowKit Go.Proofs.aI.bM Go.Proofs.YtapejnikpmfddaaGreat.Op Go.Proofs.YtapejnikpmfddaaGreat.Ki Go.Proofs.YtapejnikpmfddaaGreat.P
open Go.ChangeMaps (open_string shut_string)
theorem own : ownKnob Tryz.prog.godebug = none := by kernel_rfl
theorem laidOut : laidOutB Tryz.prog = true := by kernel_rfl
theorem lifted (os : Os) (started : os.Started) (H : Type) (enc : TypeId × Value → H) :
  ReturnsInHanded {} Tryz.checked os 3 .any (Rows.searchFormsSpec.pre6 enc Tryz.prog Tryz.f3 Rows.searchFormsRow.domain false) (Rows.searchFormsSpec.post enc Tryz.prog Tryz.f3 false true false false) := by
 refine returnsInHanded_of_change_sized (C := Tryz.checked) own started aa Tryz.func3
  (ChangeSpec.witness6 (enc := enc) (C := Tryz.checked) false ⟨#[], #[.agg #[.slice none 0 0, .slice none 0 0, .slice none 0 0], .agg #[.int .i64 0, .int .i64 0, .slice none 0 0]], []⟩ 8 aa aa aa aa) ?_
 intro W base args ds gs before hval0 hW _ hsz0 _;have hsz : (DataW.weightsEach Tryz.prog (Tryz.f3.params.toList ++ Rows.searchFormsSpec.plain.varTypes Tryz.prog) (ds ++ gs)).all (· ≤ reachBytes) = true := hsz0;have hval : ∀ (j : Nat) t v, Tryz.f3.params[j]? = some t → args[j]? = some v → Value.okWide Tryz.prog W .any base t v := hval0;have hW' := hW;obtain ⟨p, q, hA0, hV, rfl, hfz, hnd⟩ := hW;have hA : DataW.TrodAll enc Tryz.prog W 0 (fun _ => true) true Tryz.f3.params.toList args.toList ds p := hA0;rw [Tryz.params3] at hA hval hsz;obtain ⟨v0, vs0, d0, ds0, p0, q0, hargs, rfl, rfl, h0, r0⟩ := trodAll_cons hA;obtain ⟨v1, vs1, d1, ds1, p1, q1, rfl, rfl, rfl, h1, r1⟩ := trodAll_cons r0;obtain ⟨rfl, rfl, rfl⟩ := trodAll_nil r1;obtain rfl : args = #[v0, v1] := by cases args; simp_all
 obtain ⟨rfl, rfl⟩ := trodVars_none hV;have k0 := h0;have lt0 : ∀ x ∈ p0, x.block < W.heap.size := by obtain ⟨m, hm⟩ := k0; exact DataW.trod_lt m _ _ _ hm
 obtain ⟨cs0, rfl, _⟩ := okWide_struct Tryz.underlying26 (hval 0 26 v0 rfl rfl);obtain ⟨s0, e0, g0⟩ := opened au1 h0 hsz (j := 0) rfl rfl;obtain ⟨eD, eF, dX, dY, aM, aC, ec0, qL, qK, qN, qM, dw, dn⟩ := anL e0;obtain rfl : cs0 = #[.slice eD s0.f0.length eF, .slice dX s0.f1.length dY, .slice aM s0.f2.length aC] := by cases cs0; simpa [Value.cells] using ec0
 have k1 := h1;have PH : ∀ x ∈ p1, x.block < W.heap.size := by obtain ⟨m, hm⟩ := k1; exact DataW.trod_lt m _ _ _ hm
 obtain ⟨cs1, rfl, _⟩ := okWide_struct Tryz.underlying29 (hval 1 29 v1 rfl rfl);obtain ⟨s1, e1, g1⟩ := opened au2 h1 hsz (j := 1) rfl rfl;obtain ⟨wS, wT, ec1, Gd, Gc⟩ := J7 e1;obtain rfl : cs1 = #[.int .i64 s1.f0, .int .i64 s1.f1, .slice wS s1.f2.length wT] := by cases cs1; simpa [Value.cells] using ec1
 have hk := Pu.au3 s0 g0 s1 g1;clear hA0 hval0 hsz0 hsz;refine (X.NJ.calls _ _ s0.f0 _ _ s0.f1 _ _ s0.f2 s1.f0 s1.f1 _ _ s1.f2 true W qK qL qM qN dn dw Gc Gd hk rfl).mono fun e W' ⟨he, au4⟩ => ?_;have j6 : Below W.heap.size W W' := au4;subst he;exact ⟨_, rfl, _, _, _, [], _, [], hW', trodAll_mk1 (shut_bool Tryz.underlying4 _), (trodAll_cons_mk (Below.trod laidOut aa (of_decide_eq_true aa) k0 j6 lt0) (trodAll_cons_mk (Below.trod laidOut aa (of_decide_eq_true aa) k1 j6 PH) trodAll_mk0)), rfl, j6.frame _, fun h => by cases h⟩
theorem over : Rows.searchFormsRow.holds Tryz.pinned (OpenSpec.ofChange Rows.searchFormsSpec) :=
 OpenClaim.holds_of_wide 3 Tryz.f3 rfl rfl rfl rfl rfl rfl rfl ⟨rfl, rfl, rfl, rfl, rfl⟩ rfl rfl rfl rfl rfl aa Tryz.func3 aa
  (of_decide_eq_true aa) (by unfold Func.isWrapper; first | (rw [if_pos (by decide +kernel)]; kernel_rfl) | (rw [if_neg (by decide +kernel)]; exact ⟨rfl, rfl⟩))
  (fun os started H enc _ => lifted os started H enc)
theorem proved : Rows.SearchFormsSaid := over
end Go.Proofs.YtapejnikpmfddaaGreat.searchForms
namespace Go.Proofs.YtapejnikpmfddaaGreat
theorem searchForms_holds : Rows.SearchFormsSaid := searchForms.proved
#print axioms searchForms_holds
end Go.Proofs.YtapejnikpmfddaaGreat
