/-
  NARROWER THAN 'FOR EVERY INPUT', by the rows' own cells (each row's printed sentence says how): TableauRuns: loops · TableauNots: loops · TableauOne: loops · TableauForms: loops · TableauRow: loops.
  DERIVED. THE GIVEN ROWS OF THIS SEAT. 5 by the template 'for every input the law returns true; each argument reads behind the call as it read before'; 0 by the template 'total and deterministic' (their statements: YtegaicoddnmemaaTotals.lean).
  GIVEN WITH THE SEED: the statements are not yours to turn. If you find one false, say at which input.
  Laid BY PROGRAM, IN A SANDBOX (cutbox-rows.mjs): the forced cells as the released guide's own fill.sh prints them over the translation fec467b5faccf9c9… (all of the seat's roots in one cut). By AI agents, Wed Nov 11 2026. No macro, syntax, notation, axiom, sorry.
-/
import Derived.Test.YtegaicoddnmemaaChecked
import GoSem.Claim
import GoSem.ClaimJoined
import GoSem.ClaimMapViews
import Derived.JoinedTies
import Derived.KernelRfl
namespace Go.Proofs.Ytegaicoddnmemaa
/- THE CELL 'sum', in the pinned program and in every row, IS THE sha256 OF THE DUMP (.gsa) THAT YtegaicoddnmemaaProg.lean LOADS. Nothing in Lean hashes anything: it is a label: what it is worth is what the hold of that sum in a sandbox is worth. -/
noncomputable def Try.pinned : Pinned := { name := "ytegaicoddnmemaa", sum := "fec467b5faccf9c9df9cedfea263bc8e863a1c3560a285f52c26f47f4e5d784e", checked := Try.checked }
namespace Rows
def none {H : Type} : Left H := { results := [], args := [] }

/-- 'parrylaw23.TableauRuns': WHATEVER THE INPUT: true; the input reads as it did. -/
def tableauRunsSpec : ChangeSpec := { name := "tableauRuns", fn := fun _ => fun
  | [d1, d2] => { results := [.lit (.bool true)], args := [d1, d2] }
  | _ => none }
def tableauRunsRow : OpenClaim := { program := "ytegaicoddnmemaa", sum := "fec467b5faccf9c9df9cedfea263bc8e863a1c3560a285f52c26f47f4e5d784e", func := "parry/parrylaw23.TableauRuns", spec := "tableauRuns", unfollowed := true, recurses := true, loops := true, apart := false }
def TableauRunsSaid : Prop := tableauRunsRow.holds Try.pinned (OpenSpec.ofChange tableauRunsSpec)

/-- ITS FALSE NEIGHBOUR: 'it returns false'. Refute it at one input. -/
def tableauRunsWrong : ChangeSpec := { name := "tableauRuns", fn := fun _ => fun
  | [d1, d2] => { results := [.lit (.bool false)], args := [d1, d2] }
  | _ => none }
def TableauRunsWrongFalsely : Prop := tableauRunsRow.holds Try.pinned (OpenSpec.ofChange tableauRunsWrong)

/-- 'parrylaw23.TableauNots': WHATEVER THE INPUT: true; the input reads as it did. -/
def tableauNotsSpec : ChangeSpec := { name := "tableauNots", fn := fun _ => fun
  | [d1, d2, d3] => { results := [.lit (.bool true)], args := [d1, d2, d3] }
  | _ => none }
def tableauNotsRow : OpenClaim := { program := "ytegaicoddnmemaa", sum := "fec467b5faccf9c9df9cedfea263bc8e863a1c3560a285f52c26f47f4e5d784e", func := "parry/parrylaw23.TableauNots", spec := "tableauNots", unfollowed := true, recurses := true, loops := true, apart := false }
def TableauNotsSaid : Prop := tableauNotsRow.holds Try.pinned (OpenSpec.ofChange tableauNotsSpec)

/-- ITS FALSE NEIGHBOUR: 'it returns false'. Refute it at one input. -/
def tableauNotsWrong : ChangeSpec := { name := "tableauNots", fn := fun _ => fun
  | [d1, d2, d3] => { results := [.lit (.bool false)], args := [d1, d2, d3] }
  | _ => none }
def TableauNotsWrongFalsely : Prop := tableauNotsRow.holds Try.pinned (OpenSpec.ofChange tableauNotsWrong)

/-- 'parrylaw23.TableauOne': WHATEVER THE INPUT: true; the input reads as it did. -/
def tableauOneSpec : ChangeSpec := { name := "tableauOne", fn := fun _ => fun
  | [d1, d2, d3, d4] => { results := [.lit (.bool true)], args := [d1, d2, d3, d4] }
  | _ => none }
def tableauOneRow : OpenClaim := { program := "ytegaicoddnmemaa", sum := "fec467b5faccf9c9df9cedfea263bc8e863a1c3560a285f52c26f47f4e5d784e", func := "parry/parrylaw23.TableauOne", spec := "tableauOne", unfollowed := true, recurses := true, loops := true, apart := false }
def TableauOneSaid : Prop := tableauOneRow.holds Try.pinned (OpenSpec.ofChange tableauOneSpec)

/-- ITS FALSE NEIGHBOUR: 'it returns false'. Refute it at one input. -/
def tableauOneWrong : ChangeSpec := { name := "tableauOne", fn := fun _ => fun
  | [d1, d2, d3, d4] => { results := [.lit (.bool false)], args := [d1, d2, d3, d4] }
  | _ => none }
def TableauOneWrongFalsely : Prop := tableauOneRow.holds Try.pinned (OpenSpec.ofChange tableauOneWrong)

/-- 'parrylaw23.TableauForms': WHATEVER THE INPUT: true; the input reads as it did. -/
def tableauFormsSpec : ChangeSpec := { name := "tableauForms", fn := fun _ => fun
  | [d1, d2, d3, d4, d5, d6] => { results := [.lit (.bool true)], args := [d1, d2, d3, d4, d5, d6] }
  | _ => none }
def tableauFormsRow : OpenClaim := { program := "ytegaicoddnmemaa", sum := "fec467b5faccf9c9df9cedfea263bc8e863a1c3560a285f52c26f47f4e5d784e", func := "parry/parrylaw23.TableauForms", spec := "tableauForms", unfollowed := true, recurses := true, loops := true, apart := false }
def TableauFormsSaid : Prop := tableauFormsRow.holds Try.pinned (OpenSpec.ofChange tableauFormsSpec)

/-- ITS FALSE NEIGHBOUR: 'it returns false'. Refute it at one input. -/
def tableauFormsWrong : ChangeSpec := { name := "tableauForms", fn := fun _ => fun
  | [d1, d2, d3, d4, d5, d6] => { results := [.lit (.bool false)], args := [d1, d2, d3, d4, d5, d6] }
  | _ => none }
def TableauFormsWrongFalsely : Prop := tableauFormsRow.holds Try.pinned (OpenSpec.ofChange tableauFormsWrong)

/-- 'parrylaw23.TableauRow': WHATEVER THE INPUT: true; the input reads as it did. -/
def tableauRowSpec : ChangeSpec := { name := "tableauRow", fn := fun _ => fun
  | [d1, d2] => { results := [.lit (.bool true)], args := [d1, d2] }
  | _ => none }
def tableauRowRow : OpenClaim := { program := "ytegaicoddnmemaa", sum := "fec467b5faccf9c9df9cedfea263bc8e863a1c3560a285f52c26f47f4e5d784e", func := "parry/parrylaw23.TableauRow", spec := "tableauRow", unfollowed := true, recurses := true, loops := true, apart := false }
def TableauRowSaid : Prop := tableauRowRow.holds Try.pinned (OpenSpec.ofChange tableauRowSpec)

/-- ITS FALSE NEIGHBOUR: 'it returns false'. Refute it at one input. -/
def tableauRowWrong : ChangeSpec := { name := "tableauRow", fn := fun _ => fun
  | [d1, d2] => { results := [.lit (.bool false)], args := [d1, d2] }
  | _ => none }
def TableauRowWrongFalsely : Prop := tableauRowRow.holds Try.pinned (OpenSpec.ofChange tableauRowWrong)

/- THE SECOND FORM. 'bulk': how many values and letters a reading holds, each counted each time it is reached (what is shared counts as often as it is met; a slice's spare places count too). A statement '..UptoSaid' is the law's where the arguments, and the package variables that the reading takes, are together of bulk at most 1048576: NARROWER than '..Said'. Prove '..Said' where nothing that the law and all that it calls make is longer than what came in: it says more and counts as full. Else prove '..UptoSaid'. A law counts once. -/
mutual
def uptoBulk {H : Type} : DataW H → Nat
  | .lit (.string bytes) => bytes.length + 1
  | .lit _ => 1
  | .nil => 1
  | .ptr d => uptoBulk d + 1
  | .slice elems spare => uptoBulkAll elems + uptoBulkAll spare + 1
  | .agg parts => uptoBulkAll parts + 1
  | .iface _ d => uptoBulk d + 1
  | .map entries => uptoBulkEntries entries + 1
  | .held _ => 1
def uptoBulkAll {H : Type} : List (DataW H) → Nat
  | [] => 0
  | d :: r => uptoBulk d + uptoBulkAll r
def uptoBulkEntries {H : Type} : List (Lit × DataW H) → Nat
  | [] => 0
  | x :: r => uptoBulkEntry x + uptoBulkEntries r
def uptoBulkEntry {H : Type} : Lit × DataW H → Nat
  | (.string bytes, d) => bytes.length + uptoBulk d + 1
  | (_, d) => uptoBulk d + 1
 end
def uptoSmall : (H : Type) → List (DataW H) → Bool := fun _ ds => decide (uptoBulkAll ds ≤ 1048576)
def OpenSpec.upto (s : _root_.Go.ChangeSpec) : _root_.Go.OpenSpec := { _root_.Go.OpenSpec.ofChange s with cond := some uptoSmall }

/-- 'parrylaw23.TableauRuns', WHERE WHAT IT READS IS OF BULK AT MOST 1048576: true; the input reads as it did. -/
def tableauRunsUptoRow : OpenClaim := { program := "ytegaicoddnmemaa", sum := "fec467b5faccf9c9df9cedfea263bc8e863a1c3560a285f52c26f47f4e5d784e", func := "parry/parrylaw23.TableauRuns", spec := "tableauRuns", unfollowed := true, recurses := true, loops := true, apart := false, narrowed := true }
def TableauRunsUptoSaid : Prop := tableauRunsUptoRow.holds Try.pinned (OpenSpec.upto tableauRunsSpec)

/-- 'parrylaw23.TableauNots', WHERE WHAT IT READS IS OF BULK AT MOST 1048576: true; the input reads as it did. -/
def tableauNotsUptoRow : OpenClaim := { program := "ytegaicoddnmemaa", sum := "fec467b5faccf9c9df9cedfea263bc8e863a1c3560a285f52c26f47f4e5d784e", func := "parry/parrylaw23.TableauNots", spec := "tableauNots", unfollowed := true, recurses := true, loops := true, apart := false, narrowed := true }
def TableauNotsUptoSaid : Prop := tableauNotsUptoRow.holds Try.pinned (OpenSpec.upto tableauNotsSpec)

/-- 'parrylaw23.TableauOne', WHERE WHAT IT READS IS OF BULK AT MOST 1048576: true; the input reads as it did. -/
def tableauOneUptoRow : OpenClaim := { program := "ytegaicoddnmemaa", sum := "fec467b5faccf9c9df9cedfea263bc8e863a1c3560a285f52c26f47f4e5d784e", func := "parry/parrylaw23.TableauOne", spec := "tableauOne", unfollowed := true, recurses := true, loops := true, apart := false, narrowed := true }
def TableauOneUptoSaid : Prop := tableauOneUptoRow.holds Try.pinned (OpenSpec.upto tableauOneSpec)

/-- 'parrylaw23.TableauForms', WHERE WHAT IT READS IS OF BULK AT MOST 1048576: true; the input reads as it did. -/
def tableauFormsUptoRow : OpenClaim := { program := "ytegaicoddnmemaa", sum := "fec467b5faccf9c9df9cedfea263bc8e863a1c3560a285f52c26f47f4e5d784e", func := "parry/parrylaw23.TableauForms", spec := "tableauForms", unfollowed := true, recurses := true, loops := true, apart := false, narrowed := true }
def TableauFormsUptoSaid : Prop := tableauFormsUptoRow.holds Try.pinned (OpenSpec.upto tableauFormsSpec)

/-- 'parrylaw23.TableauRow', WHERE WHAT IT READS IS OF BULK AT MOST 1048576: true; the input reads as it did. -/
def tableauRowUptoRow : OpenClaim := { program := "ytegaicoddnmemaa", sum := "fec467b5faccf9c9df9cedfea263bc8e863a1c3560a285f52c26f47f4e5d784e", func := "parry/parrylaw23.TableauRow", spec := "tableauRow", unfollowed := true, recurses := true, loops := true, apart := false, narrowed := true }
def TableauRowUptoSaid : Prop := tableauRowUptoRow.holds Try.pinned (OpenSpec.upto tableauRowSpec)

end Rows
end Go.Proofs.Ytegaicoddnmemaa
