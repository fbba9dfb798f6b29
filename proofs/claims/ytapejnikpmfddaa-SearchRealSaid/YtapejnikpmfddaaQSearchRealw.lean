/- The law SearchReal holds of the given program: for every input that can be read the call returns true and leaves what came in as it was. No further condition. -/
import Derived.Test.YtapejnikpmfddaaRows
import Derived.ProofKit
import Derived.OpenShut
import Derived.ShutString
import Derived.ChangeOld
import Derived.Test.YtapejnikpmfddaaQSearchRealv
set_option linter.unusedVariables false
set_option linter.unusedSimpArgs false
set_option maxRecDepth 100000
namespace Go.Proofs.Ytapejnikpmfddaa.searchReal
open Go.ChangeShapes Go.WideShapes Go.ChangeAt Go.RowKit Go.Proofs.YtapejnikpmfddaaW.PrintWords Go.Proofs.Ytapejnikpmfddaa.Op Go.Proofs.Ytapejnikpmfddaa.Ki Go.Proofs.Ytapejnikpmfddaa.P
open Go.ChangeMaps (open_string shut_string)
theorem own : ownKnob Try.prog.godebug = none := by kernel_rfl
theorem laidOut : laidOutB Try.prog = true := by kernel_rfl
theorem lifted (os : Os) (started : os.Started) (H : Type) (enc : TypeId × Value → H) :
  ReturnsInHanded {} Try.checked os 3 .any (Rows.searchRealSpec.pre6 enc Try.prog Try.f3 Rows.searchRealRow.domain false) (Rows.searchRealSpec.post enc Try.prog Try.f3 false true false false) := by
 refine returnsInHanded_of_change_sized (C := Try.checked) own started (by kernel_rfl) Try.func3
  (ChangeSpec.witness6 (enc := enc) (C := Try.checked) false ⟨#[], #[.agg #[.slice none 0 0, .slice none 0 0, .slice none 0 0], .agg #[.int .i64 0, .int .i64 0, .slice none 0 0], .slice none 0 0], []⟩ 8 (by kernel_rfl) (by kernel_rfl) (by kernel_rfl) (by kernel_rfl)) ?_
 intro W base args ds gs before hval0 hW _ hsz0 _
 have hsz : (DataW.weightsEach Try.prog (Try.f3.params.toList ++ Rows.searchRealSpec.plain.varTypes Try.prog) (ds ++ gs)).all (· ≤ reachBytes) = true := hsz0
 have hval : ∀ (j : Nat) t v, Try.f3.params[j]? = some t → args[j]? = some v → Value.okWide Try.prog W .any base t v := hval0
 have hW' := hW
 obtain ⟨p, q, hA0, hV, rfl, hfz, hnd⟩ := hW
 have hA : DataW.TrodAll enc Try.prog W 0 (fun _ => true) true Try.f3.params.toList args.toList ds p := hA0
 rw [Try.params3] at hA hval hsz
 obtain ⟨v0, vs0, d0, ds0, p0, q0, hargs, rfl, rfl, h0, r0⟩ := trodAll_cons hA
 obtain ⟨v1, vs1, d1, ds1, p1, q1, rfl, rfl, rfl, h1, r1⟩ := trodAll_cons r0
 obtain ⟨v2, vs2, d2, ds2, p2, q2, rfl, rfl, rfl, h2, r2⟩ := trodAll_cons r1
 obtain ⟨rfl, rfl, rfl⟩ := trodAll_nil r2
 obtain rfl : args = #[v0, v1, v2] := by cases args; simp_all
 obtain ⟨rfl, rfl⟩ := trodVars_none hV
 have k0 := h0
 have lt0 : ∀ x ∈ p0, x.block < W.heap.size := by obtain ⟨m, hm⟩ := k0; exact DataW.trod_lt m _ _ _ hm
 obtain ⟨cs0, rfl, _⟩ := okWide_struct Try.underlying26 (hval 0 26 v0 rfl rfl)
 obtain ⟨s0, e0, g0⟩ := opened op26 h0 hsz (j := 0) rfl rfl
 obtain ⟨A0_0, c0_0, A0_1, c0_1, A0_2, c0_2, ec0, hc0_0, hr0_0, hc0_1, hr0_1, hc0_2, hr0_2⟩ := k26_open e0
 obtain rfl : cs0 = #[.slice A0_0 s0.f0.length c0_0, .slice A0_1 s0.f1.length c0_1, .slice A0_2 s0.f2.length c0_2] := by cases cs0; simpa [Value.cells] using ec0
 have k1 := h1
 have lt1 : ∀ x ∈ p1, x.block < W.heap.size := by obtain ⟨m, hm⟩ := k1; exact DataW.trod_lt m _ _ _ hm
 obtain ⟨cs1, rfl, _⟩ := okWide_struct Try.underlying29 (hval 1 29 v1 rfl rfl)
 obtain ⟨s1, e1, g1⟩ := opened op29 h1 hsz (j := 1) rfl rfl
 obtain ⟨A1_2, c1_2, ec1, hc1_2, hr1_2⟩ := k29_open e1
 obtain rfl : cs1 = #[.int .i64 s1.f0, .int .i64 s1.f1, .slice A1_2 s1.f2.length c1_2] := by cases cs1; simpa [Value.cells] using ec1
 have k2 := h2
 have lt2 : ∀ x ∈ p2, x.block < W.heap.size := by obtain ⟨m, hm⟩ := k2; exact DataW.trod_lt m _ _ _ hm
 obtain ⟨A2, len2, cap2, rfl⟩ := okWide_slice Try.underlying23 (hval 2 23 v2 rfl rfl)
 obtain ⟨l2, ⟨B2, c2, e2, hc2, hr2⟩, g2⟩ := opened op23 h2 hsz (j := 2) rfl rfl
 obtain ⟨rfl, rfl, rfl⟩ : A2 = B2 ∧ len2 = l2.length ∧ cap2 = c2 := by simpa [Value.cells] using e2
 have hk := Pu.SearchReal_pure s0 g0 s1 g1 l2 g2
 clear hA0 hval0 hsz0 hsz
 refine (X.parrylaw24_SearchReal.calls _ _ s0.f0 _ _ s0.f1 _ _ s0.f2 s1.f0 s1.f1 _ _ s1.f2 _ _ l2 true W hr0_0 hc0_0 hr0_1 hc0_1 hr0_2 hc0_2 hr1_2 hc1_2 hr2 hc2 hk rfl).mono fun e W' ⟨he, bel0⟩ => ?_
 have bel : Below W.heap.size W W' := bel0
 subst he
 exact ⟨_, rfl, _, _, _, [], _, [], hW', trodAll_mk1 (shut_bool Try.underlying4 _), (trodAll_cons_mk (Below.trod laidOut (by kernel_rfl) (of_decide_eq_true (by kernel_rfl)) k0 bel lt0) (trodAll_cons_mk (Below.trod laidOut (by kernel_rfl) (of_decide_eq_true (by kernel_rfl)) k1 bel lt1) (trodAll_cons_mk (Below.trod laidOut (by kernel_rfl) (of_decide_eq_true (by kernel_rfl)) k2 bel lt2) trodAll_mk0))), rfl, bel.frame _, fun h => by cases h⟩
theorem over : Rows.searchRealRow.holds Try.pinned (OpenSpec.ofChange Rows.searchRealSpec) :=
 OpenClaim.holds_of_wide 3 Try.f3 rfl rfl rfl rfl rfl rfl rfl ⟨rfl, rfl, rfl, rfl, rfl⟩ rfl rfl rfl rfl rfl (by kernel_rfl) Try.func3 (by kernel_rfl)
  (of_decide_eq_true (by kernel_rfl)) (by unfold Func.isWrapper; first | (rw [if_pos (by decide +kernel)]; kernel_rfl) | (rw [if_neg (by decide +kernel)]; exact ⟨rfl, rfl⟩))
  (fun os started H enc _ => lifted os started H enc)
theorem proved : Rows.SearchRealSaid := over
end Go.Proofs.Ytapejnikpmfddaa.searchReal
namespace Go.Proofs.Ytapejnikpmfddaa
theorem searchReal_holds : Rows.SearchRealSaid := searchReal.proved
#print axioms searchReal_holds
end Go.Proofs.Ytapejnikpmfddaa
