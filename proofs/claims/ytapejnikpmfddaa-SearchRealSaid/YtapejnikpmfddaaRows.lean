/-
  NARROWER THAN 'FOR EVERY INPUT', by the rows' own cells (each row's printed sentence says how): SearchReal: loops · SearchLess: loops · SearchOne: loops.
  DERIVED. THE GIVEN ROWS OF THIS SEAT. 4 by the template 'for every input the law returns true; each argument reads behind the call as it read before'; 0 by the template 'total and deterministic' (their statements: YtapejnikpmfddaaTotals.lean).
  GIVEN WITH THE SEED: the statements are not yours to turn. If you find one false, say at which input.
  Laid BY PROGRAM, IN A SANDBOX (cutbox-rows.mjs): the forced cells as the released guide's own fill.sh prints them over the translation 69930fc7278d327a… (all of the seat's roots in one cut). By AI agents, Wed Nov 11 2026. No macro, syntax, notation, axiom, sorry.
-/
import Derived.Test.YtapejnikpmfddaaChecked
import GoSem.Claim
import GoSem.ClaimJoined
import GoSem.ClaimMapViews
import Derived.JoinedTies
import Derived.KernelRfl
namespace Go.Proofs.Ytapejnikpmfddaa
/- THE CELL 'sum', in the pinned program and in every row, IS THE sha256 OF THE DUMP (.gsa) THAT YtapejnikpmfddaaProg.lean LOADS. Nothing in Lean hashes anything: it is a label: what it is worth is what the hold of that sum in a sandbox is worth. -/
noncomputable def Try.pinned : Pinned := { name := "ytapejnikpmfddaa", sum := "69930fc7278d327a78d11b8adfcfac1535cb14cb945c562c720eb062f472e355", checked := Try.checked }
namespace Rows
def none {H : Type} : Left H := { results := [], args := [] }

/-- 'parrylaw24.SearchReal': WHATEVER THE INPUT: true; the input reads as it did. -/
def searchRealSpec : ChangeSpec := { name := "searchReal", fn := fun _ => fun
  | [d1, d2, d3] => { results := [.lit (.bool true)], args := [d1, d2, d3] }
  | _ => none }
def searchRealRow : OpenClaim := { program := "ytapejnikpmfddaa", sum := "69930fc7278d327a78d11b8adfcfac1535cb14cb945c562c720eb062f472e355", func := "parry/parrylaw24.SearchReal", spec := "searchReal", unfollowed := true, recurses := true, loops := true, apart := false }
def SearchRealSaid : Prop := searchRealRow.holds Try.pinned (OpenSpec.ofChange searchRealSpec)

/-- ITS FALSE NEIGHBOUR: 'it returns false'. Refute it at one input. -/
def searchRealWrong : ChangeSpec := { name := "searchReal", fn := fun _ => fun
  | [d1, d2, d3] => { results := [.lit (.bool false)], args := [d1, d2, d3] }
  | _ => none }
def SearchRealWrongFalsely : Prop := searchRealRow.holds Try.pinned (OpenSpec.ofChange searchRealWrong)

/-- 'parrylaw24.SearchWords': WHATEVER THE INPUT: true; the input reads as it did. -/
def searchWordsSpec : ChangeSpec := { name := "searchWords", fn := fun _ => fun
  | [d1, d2, d3] => { results := [.lit (.bool true)], args := [d1, d2, d3] }
  | _ => none }
def searchWordsRow : OpenClaim := { program := "ytapejnikpmfddaa", sum := "69930fc7278d327a78d11b8adfcfac1535cb14cb945c562c720eb062f472e355", func := "parry/parrylaw24.SearchWords", spec := "searchWords", unfollowed := true, recurses := true, apart := false }
def SearchWordsSaid : Prop := searchWordsRow.holds Try.pinned (OpenSpec.ofChange searchWordsSpec)

/-- ITS FALSE NEIGHBOUR: 'it returns false'. Refute it at one input. -/
def searchWordsWrong : ChangeSpec := { name := "searchWords", fn := fun _ => fun
  | [d1, d2, d3] => { results := [.lit (.bool false)], args := [d1, d2, d3] }
  | _ => none }
def SearchWordsWrongFalsely : Prop := searchWordsRow.holds Try.pinned (OpenSpec.ofChange searchWordsWrong)

/-- 'parrylaw24.SearchLess': WHATEVER THE INPUT: true; the input reads as it did. -/
def searchLessSpec : ChangeSpec := { name := "searchLess", fn := fun _ => fun
  | [d1, d2, d3, d4] => { results := [.lit (.bool true)], args := [d1, d2, d3, d4] }
  | _ => none }
def searchLessRow : OpenClaim := { program := "ytapejnikpmfddaa", sum := "69930fc7278d327a78d11b8adfcfac1535cb14cb945c562c720eb062f472e355", func := "parry/parrylaw24.SearchLess", spec := "searchLess", unfollowed := true, recurses := true, loops := true, apart := false }
def SearchLessSaid : Prop := searchLessRow.holds Try.pinned (OpenSpec.ofChange searchLessSpec)

/-- ITS FALSE NEIGHBOUR: 'it returns false'. Refute it at one input. -/
def searchLessWrong : ChangeSpec := { name := "searchLess", fn := fun _ => fun
  | [d1, d2, d3, d4] => { results := [.lit (.bool false)], args := [d1, d2, d3, d4] }
  | _ => none }
def SearchLessWrongFalsely : Prop := searchLessRow.holds Try.pinned (OpenSpec.ofChange searchLessWrong)

/-- 'parrylaw24.SearchOne': WHATEVER THE INPUT: true; the input reads as it did. -/
def searchOneSpec : ChangeSpec := { name := "searchOne", fn := fun _ => fun
  | [d1, d2, d3] => { results := [.lit (.bool true)], args := [d1, d2, d3] }
  | _ => none }
def searchOneRow : OpenClaim := { program := "ytapejnikpmfddaa", sum := "69930fc7278d327a78d11b8adfcfac1535cb14cb945c562c720eb062f472e355", func := "parry/parrylaw24.SearchOne", spec := "searchOne", unfollowed := true, recurses := true, loops := true, apart := false }
def SearchOneSaid : Prop := searchOneRow.holds Try.pinned (OpenSpec.ofChange searchOneSpec)

/-- ITS FALSE NEIGHBOUR: 'it returns false'. Refute it at one input. -/
def searchOneWrong : ChangeSpec := { name := "searchOne", fn := fun _ => fun
  | [d1, d2, d3] => { results := [.lit (.bool false)], args := [d1, d2, d3] }
  | _ => none }
def SearchOneWrongFalsely : Prop := searchOneRow.holds Try.pinned (OpenSpec.ofChange searchOneWrong)

/- THE SECOND FORM. 'bulk': how many values and letters a reading holds, each counted each time it is reached (what is shared counts as often as it is met; a slice's spare places count too). A statement '..UptoSaid' is the law's where the arguments, and the package variables that the reading takes, are together of bulk at most 1048576: NARROWER than '..Said'. Prove '..Said' where nothing that the law and all that it calls make is longer than what came in: it says more and counts as full. Else prove '..UptoSaid'. A law counts once. -/
mutual
def uptoBulk {H : Type} : DataW H → Nat
  | .lit (.string bytes) => bytes.length + 1
  | .lit _ => 1
  | .nil => 1
  | .ptr d => uptoBulk d + 1
  | .slice elems spare => uptoBulkAll elems + uptoBulkAll spare + 1
  | .agg parts => uptoBulkAll parts + 1
  | .iface _ d => uptoBulk d + 1
  | .map entries => uptoBulkEntries entries + 1
  | .held _ => 1
def uptoBulkAll {H : Type} : List (DataW H) → Nat
  | [] => 0
  | d :: r => uptoBulk d + uptoBulkAll r
def uptoBulkEntries {H : Type} : List (Lit × DataW H) → Nat
  | [] => 0
  | x :: r => uptoBulkEntry x + uptoBulkEntries r
def uptoBulkEntry {H : Type} : Lit × DataW H → Nat
  | (.string bytes, d) => bytes.length + uptoBulk d + 1
  | (_, d) => uptoBulk d + 1
 end
def uptoSmall : (H : Type) → List (DataW H) → Bool := fun _ ds => decide (uptoBulkAll ds ≤ 1048576)
def OpenSpec.upto (s : _root_.Go.ChangeSpec) : _root_.Go.OpenSpec := { _root_.Go.OpenSpec.ofChange s with cond := some uptoSmall }

/-- 'parrylaw24.SearchReal', WHERE WHAT IT READS IS OF BULK AT MOST 1048576: true; the input reads as it did. -/
def searchRealUptoRow : OpenClaim := { program := "ytapejnikpmfddaa", sum := "69930fc7278d327a78d11b8adfcfac1535cb14cb945c562c720eb062f472e355", func := "parry/parrylaw24.SearchReal", spec := "searchReal", unfollowed := true, recurses := true, loops := true, apart := false, narrowed := true }
def SearchRealUptoSaid : Prop := searchRealUptoRow.holds Try.pinned (OpenSpec.upto searchRealSpec)

/-- 'parrylaw24.SearchWords', WHERE WHAT IT READS IS OF BULK AT MOST 1048576: true; the input reads as it did. -/
def searchWordsUptoRow : OpenClaim := { program := "ytapejnikpmfddaa", sum := "69930fc7278d327a78d11b8adfcfac1535cb14cb945c562c720eb062f472e355", func := "parry/parrylaw24.SearchWords", spec := "searchWords", unfollowed := true, recurses := true, apart := false, narrowed := true }
def SearchWordsUptoSaid : Prop := searchWordsUptoRow.holds Try.pinned (OpenSpec.upto searchWordsSpec)

/-- 'parrylaw24.SearchLess', WHERE WHAT IT READS IS OF BULK AT MOST 1048576: true; the input reads as it did. -/
def searchLessUptoRow : OpenClaim := { program := "ytapejnikpmfddaa", sum := "69930fc7278d327a78d11b8adfcfac1535cb14cb945c562c720eb062f472e355", func := "parry/parrylaw24.SearchLess", spec := "searchLess", unfollowed := true, recurses := true, loops := true, apart := false, narrowed := true }
def SearchLessUptoSaid : Prop := searchLessUptoRow.holds Try.pinned (OpenSpec.upto searchLessSpec)

/-- 'parrylaw24.SearchOne', WHERE WHAT IT READS IS OF BULK AT MOST 1048576: true; the input reads as it did. -/
def searchOneUptoRow : OpenClaim := { program := "ytapejnikpmfddaa", sum := "69930fc7278d327a78d11b8adfcfac1535cb14cb945c562c720eb062f472e355", func := "parry/parrylaw24.SearchOne", spec := "searchOne", unfollowed := true, recurses := true, loops := true, apart := false, narrowed := true }
def SearchOneUptoSaid : Prop := searchOneUptoRow.holds Try.pinned (OpenSpec.upto searchOneSpec)

end Rows
end Go.Proofs.Ytapejnikpmfddaa
