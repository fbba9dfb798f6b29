/- The law TableauRuns holds of the given program: for every input that can be read the call returns true and leaves what came in as it was. No further condition. -/
import Derived.Test.YtegaicoddnmemaaRows
import Derived.WalkKit
import Derived.ProofKit
import Derived.OpenShut
import Derived.ShutString
import Derived.ChangeOld
import Derived.Below
import Derived.SizedLaws
import Derived.Test.YtegaicoddnmemaaQTableauRunsa
import Derived.Test.YtegaicoddnmemaaQTableauRunsb
import Derived.Test.YtegaicoddnmemaaQTableauRunsc
import Derived.Test.YtegaicoddnmemaaQTableauRunsd
import Derived.Test.YtegaicoddnmemaaQTableauRunse
import Derived.Test.YtegaicoddnmemaaQTableauRunsf
import Derived.Test.YtegaicoddnmemaaQTableauRunsg
import Derived.Test.YtegaicoddnmemaaQTableauRunsh
namespace Go.Proofs.Ytegaicoddnmemaa.tableauRuns
open Go.ChangeShapes Go.WideShapes Go.ChangeAt Go.RowKit Go.Proofs.YtegaicoddnmemaaW.PrintWords Go.Proofs.Ytegaicoddnmemaa.Op Go.Proofs.Ytegaicoddnmemaa.Ki Go.Proofs.Ytegaicoddnmemaa.P
open Go.ChangeMaps (open_string shut_string)
theorem own : ownKnob Try.prog.godebug = none := by kernel_rfl
theorem laidOut : laidOutB Try.prog = true := by kernel_rfl
set_option maxRecDepth 100000 in
theorem lifted (os : Os) (started : os.Started) (H : Type) (enc : TypeId × Value → H) :
    ReturnsInHanded {} Try.checked os 3 .any (Rows.tableauRunsSpec.pre6 enc Try.prog Try.f3 Rows.tableauRunsRow.domain false) (Rows.tableauRunsSpec.post enc Try.prog Try.f3 false true false false) := by
  refine returnsInHanded_of_change_sized (C := Try.checked) own started (by kernel_rfl) Try.func3
    (ChangeSpec.witness6 (enc := enc) (C := Try.checked) false ⟨#[], #[.agg #[.int .i64 0, .int .i64 0, .slice none 0 0], .agg #[.slice none 0 0, .slice none 0 0]], []⟩ 8 (by kernel_rfl) (by kernel_rfl) (by kernel_rfl) (by kernel_rfl)) ?_
  intro W base args ds gs before hval0 hW _ hsz0 _
  have hsz : (DataW.weightsEach Try.prog (Try.f3.params.toList ++ Rows.tableauRunsSpec.plain.varTypes Try.prog) (ds ++ gs)).all (· ≤ reachBytes) = true := hsz0
  have hval : ∀ (j : Nat) t v, Try.f3.params[j]? = some t → args[j]? = some v → Value.okWide Try.prog W .any base t v := hval0
  have hW' := hW
  obtain ⟨p, q, hA0, hV, rfl, hfz, hnd⟩ := hW
  have hA : DataW.TrodAll enc Try.prog W 0 (fun _ => true) true Try.f3.params.toList args.toList ds p := hA0
  rw [Try.params3] at hA hval hsz
  obtain ⟨v0, vs0, d0, ds0, p0, q0, hargs, rfl, rfl, h0, r0⟩ := trodAll_cons hA
  obtain ⟨v1, vs1, d1, ds1, p1, q1, rfl, rfl, rfl, h1, r1⟩ := trodAll_cons r0
  obtain ⟨rfl, rfl, rfl⟩ := trodAll_nil r1
  obtain rfl : args = #[v0, v1] := by cases args; simp_all
  obtain ⟨rfl, rfl⟩ := trodVars_none hV
  have k0 := h0
  have lt0 : ∀ x ∈ p0, x.block < W.heap.size := by obtain ⟨m, hm⟩ := k0; exact DataW.trod_lt m _ _ _ hm
  obtain ⟨cs0, rfl, _⟩ := okWide_struct Try.underlying24 (hval 0 24 v0 rfl rfl)
  obtain ⟨s0, e0, g0⟩ := opened op24 h0 hsz (j := 0) rfl rfl
  obtain ⟨A0_2, c0_2, ec0, hc0_2, hr0_2⟩ := k24_open e0
  obtain rfl : cs0 = #[.int .i64 s0.f0, .int .i64 s0.f1, .slice A0_2 s0.f2.length c0_2] := by cases cs0; simpa [Value.cells] using ec0
  have k1 := h1
  have lt1 : ∀ x ∈ p1, x.block < W.heap.size := by obtain ⟨m, hm⟩ := k1; exact DataW.trod_lt m _ _ _ hm
  obtain ⟨cs1, rfl, _⟩ := okWide_struct Try.underlying27 (hval 1 27 v1 rfl rfl)
  obtain ⟨s1, e1, g1⟩ := opened op27 h1 hsz (j := 1) rfl rfl
  obtain ⟨A1_0, c1_0, A1_1, c1_1, ec1, hc1_0, hr1_0, hc1_1, hr1_1⟩ := k27_open e1
  obtain rfl : cs1 = #[.slice A1_0 s1.f0.length c1_0, .slice A1_1 s1.f1.length c1_1] := by cases cs1; simpa [Value.cells] using ec1
  obtain ⟨k, hk⟩ := Pu.TableauRuns_pure s0 g0 s1 g1
  clear hA0 hval0 hsz0 hsz
  refine (P.parrylaw23_TableauRuns.calls k s0.f0 s0.f1 _ _ s0.f2 _ _ s1.f0 _ _ s1.f1 true W hr0_2 hc0_2 hr1_0 hc1_0 hr1_1 hc1_1 hk rfl).mono fun e W' ⟨he, bel0⟩ => ?_
  have bel : Below W.heap.size W W' := bel0
  subst he
  exact ⟨_, rfl, _, _, _, [], _, [], hW', trodAll_mk1 (shut_bool Try.underlying4 _), (trodAll_cons_mk (Below.trod laidOut (by kernel_rfl) (of_decide_eq_true (by kernel_rfl)) k0 bel lt0) (trodAll_cons_mk (Below.trod laidOut (by kernel_rfl) (of_decide_eq_true (by kernel_rfl)) k1 bel lt1) trodAll_mk0)), rfl, bel.frame _, fun h => by cases h⟩
theorem over : Rows.tableauRunsRow.holds Try.pinned (OpenSpec.ofChange Rows.tableauRunsSpec) :=
  OpenClaim.holds_of_wide 3 Try.f3 rfl rfl rfl rfl rfl rfl rfl ⟨rfl, rfl, rfl, rfl, rfl⟩ rfl rfl rfl rfl rfl (by kernel_rfl) Try.func3 (by kernel_rfl)
    (of_decide_eq_true (by kernel_rfl)) (by unfold Func.isWrapper; first | (rw [if_pos (by decide +kernel)]; kernel_rfl) | (rw [if_neg (by decide +kernel)]; exact ⟨rfl, rfl⟩))
    (fun os started H enc _ => lifted os started H enc)
theorem proved : Rows.TableauRunsSaid := over
end Go.Proofs.Ytegaicoddnmemaa.tableauRuns
namespace Go.Proofs.Ytegaicoddnmemaa
theorem tableauRuns_holds : Rows.TableauRunsSaid := tableauRuns.proved
#print axioms tableauRuns_holds
end Go.Proofs.Ytegaicoddnmemaa

