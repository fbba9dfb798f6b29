/- The law FormulaLogic holds of the given program: for every input that can be read the call returns true and leaves what came in as it was. No further condition. -/
import Derived.Test.YtjjnokodkeekhaaDoorTie
import Derived.Test.YtjjnokodkeekhaaDoorCards
import Derived.LaidMore
import Derived.Stop.Joined
import Derived.SevenTiedAt
import Derived.Test.YtjjnokodkeekhaaDoorRows
import Derived.WalkKit
import Derived.ProofKit
import Derived.OpenShut
import Derived.ShutString
import Derived.ChangeOld
import Derived.Below
import Derived.SizedLaws
import Derived.Test.YtjjnokodkeekhaaDoorQFormulaLogica
import Derived.Test.YtjjnokodkeekhaaDoorQFormulaLogicb
import Derived.Test.YtjjnokodkeekhaaDoorQFormulaLogicc
import Derived.Test.YtjjnokodkeekhaaDoorQFormulaLogicd
namespace Go.Proofs.YtjjnokodkeekhaaDoor.formulaLogic
open Go.ChangeShapes Go.WideShapes Go.ChangeAt Go.RowKit Go.Proofs.YtjjnokodkeekhaaDoorW.PrintWords Go.Proofs.YtjjnokodkeekhaaDoor.Op Go.Proofs.YtjjnokodkeekhaaDoor.Ki Go.Proofs.YtjjnokodkeekhaaDoor.P
open Go.ChangeMaps (open_string shut_string)
theorem own : ownKnob Tryd.prog.godebug = none := by kernel_rfl
theorem laidOut : laidOutB Tryd.prog = true := by kernel_rfl
def laidL : List (String × DataW Unit) := Rows.formulaLogicRow.laid
set_option maxRecDepth 100000 in
theorem door_met (os : Os) (args : Array Value) : laidMetH Tryd.prog laidL ((World.doorLaid Tryd.prog 24 os).forCall (fun _ _ => 0) ⟨#[], args, []⟩).memory :=
  laidMetH_of_parts3 (fuel := 8) (laidMet_of_run' 8 (by kernel_rfl) (by kernel_rfl)) (by kernel_rfl) (by kernel_rfl)
set_option maxRecDepth 100000 in
theorem lifted (os : Os) (started : os.Started) (H : Type) (enc : TypeId × Value → H) :
    ReturnsInHanded {} Tryd.checked os 5 .any (fun w args => (Rows.formulaLogicSpec.pre enc Tryd.prog Tryd.f5 [] false w args ∧ laidMetH Tryd.prog laidL w) ∧ sizedMet enc Tryd.prog Tryd.f5 (OpenSpec.ofChange Rows.formulaLogicSpec) false w args)
      (Rows.formulaLogicSpec.post enc Tryd.prog Tryd.f5 false true false false) := by
  refine returnsInHanded_of_change_and (C := Tryd.checked) (X := fun w _ => laidMetH Tryd.prog laidL w) (fun _ _ _ hh h => h.of_heap hh) own started (by kernel_rfl) Tryd.func5
    (ChangeSpec.witness_shaped (enc := enc) (C := Tryd.checked) (os := os) (X := fun w _ => laidMetH Tryd.prog laidL w) false (World.doorLaid Tryd.prog 24 os) #[.agg #[.int .i64 0, .int .i64 0, .slice none 0 0], .agg #[.int .i64 0, .int .i64 0, .slice none 0 0], .agg #[.slice none 0 0, .slice none 0 0]] 8 rfl (World.shaped_of_RefB (by kernel_rfl) (by kernel_rfl)) (by kernel_rfl) (by kernel_rfl) (by kernel_rfl) (door_met os _)) ?_
  intro W base args ds gs before hval0 hW _ hsz0 _ _
  have hsz : (DataW.weightsEach Tryd.prog (Tryd.f5.params.toList ++ Rows.formulaLogicSpec.plain.varTypes Tryd.prog) (ds ++ gs)).all (· ≤ reachBytes) = true := hsz0
  have hval : ∀ (j : Nat) t v, Tryd.f5.params[j]? = some t → args[j]? = some v → Value.okWide Tryd.prog W .any base t v := hval0
  have hW' := hW
  obtain ⟨p, q, hA0, hV, rfl, hfz, hnd⟩ := hW
  have hA : DataW.TrodAll enc Tryd.prog W 0 (fun _ => true) true Tryd.f5.params.toList args.toList ds p := hA0
  rw [Tryd.params5] at hA hval hsz
  obtain ⟨v0, vs0, d0, ds0, p0, q0, hargs, rfl, rfl, h0, r0⟩ := trodAll_cons hA
  obtain ⟨v1, vs1, d1, ds1, p1, q1, rfl, rfl, rfl, h1, r1⟩ := trodAll_cons r0
  obtain ⟨v2, vs2, d2, ds2, p2, q2, rfl, rfl, rfl, h2, r2⟩ := trodAll_cons r1
  obtain ⟨rfl, rfl, rfl⟩ := trodAll_nil r2
  obtain rfl : args = #[v0, v1, v2] := by cases args; simp_all
  obtain ⟨rfl, rfl⟩ := trodVars_none hV
  have k0 := h0
  have lt0 : ∀ x ∈ p0, x.block < W.heap.size := by obtain ⟨m, hm⟩ := k0; exact DataW.trod_lt m _ _ _ hm
  obtain ⟨cs0, rfl, _⟩ := okWide_struct Tryd.underlying24 (hval 0 24 v0 rfl rfl)
  obtain ⟨s0, e0, g0⟩ := opened op24 h0 hsz (j := 0) rfl rfl
  obtain ⟨A0_2, c0_2, ec0, hc0_2, hr0_2⟩ := k24_open e0
  obtain rfl : cs0 = #[.int .i64 s0.f0, .int .i64 s0.f1, .slice A0_2 s0.f2.length c0_2] := by cases cs0; simpa [Value.cells] using ec0
  have k1 := h1
  have lt1 : ∀ x ∈ p1, x.block < W.heap.size := by obtain ⟨m, hm⟩ := k1; exact DataW.trod_lt m _ _ _ hm
  obtain ⟨cs1, rfl, _⟩ := okWide_struct Tryd.underlying24 (hval 1 24 v1 rfl rfl)
  obtain ⟨s1, e1, g1⟩ := opened op24 h1 hsz (j := 1) rfl rfl
  obtain ⟨A1_2, c1_2, ec1, hc1_2, hr1_2⟩ := k24_open e1
  obtain rfl : cs1 = #[.int .i64 s1.f0, .int .i64 s1.f1, .slice A1_2 s1.f2.length c1_2] := by cases cs1; simpa [Value.cells] using ec1
  have k2 := h2
  have lt2 : ∀ x ∈ p2, x.block < W.heap.size := by obtain ⟨m, hm⟩ := k2; exact DataW.trod_lt m _ _ _ hm
  obtain ⟨cs2, rfl, _⟩ := okWide_struct Tryd.underlying27 (hval 2 27 v2 rfl rfl)
  obtain ⟨s2, e2, g2⟩ := opened op27 h2 hsz (j := 2) rfl rfl
  obtain ⟨A2_0, c2_0, A2_1, c2_1, ec2, hc2_0, hr2_0, hc2_1, hr2_1⟩ := k27_open e2
  obtain rfl : cs2 = #[.slice A2_0 s2.f0.length c2_0, .slice A2_1 s2.f1.length c2_1] := by cases cs2; simpa [Value.cells] using ec2
  have hk := Pu.FormulaLogic_pure s0 g0 s1 g1 s2 g2
  clear hA0 hval0 hsz0 hsz
  refine (X.parrylaw22_FormulaLogic.calls s0.f0 s0.f1 _ _ s0.f2 s1.f0 s1.f1 _ _ s1.f2 _ _ s2.f0 _ _ s2.f1 true W hr0_2 hc0_2 hr1_2 hc1_2 hr2_0 hc2_0 hr2_1 hc2_1 hk rfl).mono fun e W' ⟨he, bel0⟩ => ?_
  have bel : Below W.heap.size W W' := bel0
  subst he
  exact ⟨_, rfl, _, _, _, [], _, [], hW', trodAll_mk1 (shut_bool Tryd.underlying4 _), (trodAll_cons_mk (Below.trod laidOut (by kernel_rfl) (of_decide_eq_true (by kernel_rfl)) k0 bel lt0) (trodAll_cons_mk (Below.trod laidOut (by kernel_rfl) (of_decide_eq_true (by kernel_rfl)) k1 bel lt1) (trodAll_cons_mk (Below.trod laidOut (by kernel_rfl) (of_decide_eq_true (by kernel_rfl)) k2 bel lt2) trodAll_mk0))), rfl, bel.frame _, fun h => by cases h⟩
theorem over : Rows.formulaLogicRow.holds Tryd.pinned (OpenSpec.ofChange Rows.formulaLogicSpec) :=
  OpenClaim.holds_of_wide 5 Tryd.f5 rfl rfl rfl rfl rfl rfl rfl ⟨rfl, rfl, rfl, rfl, rfl⟩ rfl rfl rfl rfl rfl (by kernel_rfl) Tryd.func5 (by kernel_rfl)
    (of_decide_eq_true (by kernel_rfl)) (by unfold Func.isWrapper; first | (rw [if_pos (by decide +kernel)]; kernel_rfl) | (rw [if_neg (by decide +kernel)]; exact ⟨rfl, rfl⟩))
    (fun os started H enc _ => lifted os started H enc)
theorem card : Rows.FormulaLogicCardSaid :=
  Claim7.holds_tied_plain_at .later [] [.data, .data, .data] true Rows.formulaLogicCard.stood.harness false
    over (fun _ h => by cases h) (by kernel_rfl) (fun _ h => by cases h) formulaLogic_row_tie rfl ⟨rfl, rfl⟩ (by kernel_rfl) rfl
    (fun f fn hf hfn => by
      obtain rfl : f = 5 := Option.some.inj ((show Tryd.prog.funcNamed "parry/parrylaw22.FormulaLogic" = some 5 by kernel_rfl).symm.trans hf) |>.symm
      obtain rfl : fn = Tryd.f5 := (Option.some.inj (Tryd.func5.symm.trans hfn)).symm
      exact ⟨by kernel_rfl, fun j t ht => by
        rw [Tryd.params5] at ht
        have hm : t ∈ [24, 24, 27] := by simpa using Array.mem_of_getElem? ht
        have hall : ([24, 24, 27].all fun u => !Tryd.prog.wantsStandIn u) = true := by kernel_rfl
        exact (show Tryd.prog.wantsStandIn t = false by simpa using List.all_eq_true.1 hall t hm)⟩)
    (by kernel_rfl)
theorem proved : Rows.FormulaLogicCardSaid := card
end Go.Proofs.YtjjnokodkeekhaaDoor.formulaLogic
namespace Go.Proofs.YtjjnokodkeekhaaDoor
theorem formulaLogic_holds : Rows.FormulaLogicCardSaid := formulaLogic.proved
#print axioms formulaLogic_holds
end Go.Proofs.YtjjnokodkeekhaaDoor

