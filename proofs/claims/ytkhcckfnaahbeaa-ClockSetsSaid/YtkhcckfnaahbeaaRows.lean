/-
  No cell of these rows narrows 'for every input' (looked for: loops, veiled, ifaces, maps, wideKeys, modest, calm, conditions, laid).
  DERIVED. THE GIVEN ROWS OF THIS SEAT. 6 by the template 'for every input the law returns true; each argument reads behind the call as it read before'; 0 by the template 'total and deterministic' (their statements: YtkhcckfnaahbeaaTotals.lean).
  GIVEN WITH THE SEED: the statements are not yours to turn. If you find one false, say at which input.
  Laid BY PROGRAM, IN A SANDBOX (cutbox-rows.mjs): the forced cells as the released guide's own fill.sh prints them over the translation 0c29c2c92b60c3c8… (all of the seat's roots in one cut). By AI agents, Wed Nov 11 2026. No macro, syntax, notation, axiom, sorry.
-/
import Derived.Test.YtkhcckfnaahbeaaChecked
import GoSem.Claim
import GoSem.ClaimJoined
import GoSem.ClaimMapViews
import Derived.JoinedTies
import Derived.KernelRfl
namespace Go.Proofs.Ytkhcckfnaahbeaa
/- THE CELL 'sum', in the pinned program and in every row, IS THE sha256 OF THE DUMP (.gsa) THAT YtkhcckfnaahbeaaProg.lean LOADS. Nothing in Lean hashes anything: it is a label: what it is worth is what the hold of that sum in a sandbox is worth. -/
noncomputable def Try.pinned : Pinned := { name := "ytkhcckfnaahbeaa", sum := "0c29c2c92b60c3c8ab8e38c6711c2ec1734e2431d7a0e19fa227d48295d547ff", checked := Try.checked }
namespace Rows
def none {H : Type} : Left H := { results := [], args := [] }

/-- 'lychgatelaw12.ClockApart': WHATEVER THE INPUT: true; the input reads as it did. -/
def clockApartSpec : ChangeSpec := { name := "clockApart", fn := fun _ => fun
  | [d1, d2] => { results := [.lit (.bool true)], args := [d1, d2] }
  | _ => none }
def clockApartRow : OpenClaim := { program := "ytkhcckfnaahbeaa", sum := "0c29c2c92b60c3c8ab8e38c6711c2ec1734e2431d7a0e19fa227d48295d547ff", func := "lychgate/lychgatelaw12.ClockApart", spec := "clockApart", recurses := true, apart := false }
def ClockApartSaid : Prop := clockApartRow.holds Try.pinned (OpenSpec.ofChange clockApartSpec)

/-- ITS FALSE NEIGHBOUR: 'it returns false'. Refute it at one input. -/
def clockApartWrong : ChangeSpec := { name := "clockApart", fn := fun _ => fun
  | [d1, d2] => { results := [.lit (.bool false)], args := [d1, d2] }
  | _ => none }
def ClockApartWrongFalsely : Prop := clockApartRow.holds Try.pinned (OpenSpec.ofChange clockApartWrong)

/-- 'lychgatelaw12.ClockNext': WHATEVER THE INPUT: true; the input reads as it did. -/
def clockNextSpec : ChangeSpec := { name := "clockNext", fn := fun _ => fun
  | [d1, d2, d3] => { results := [.lit (.bool true)], args := [d1, d2, d3] }
  | _ => none }
def clockNextRow : OpenClaim := { program := "ytkhcckfnaahbeaa", sum := "0c29c2c92b60c3c8ab8e38c6711c2ec1734e2431d7a0e19fa227d48295d547ff", func := "lychgate/lychgatelaw12.ClockNext", spec := "clockNext", recurses := true, apart := false }
def ClockNextSaid : Prop := clockNextRow.holds Try.pinned (OpenSpec.ofChange clockNextSpec)

/-- ITS FALSE NEIGHBOUR: 'it returns false'. Refute it at one input. -/
def clockNextWrong : ChangeSpec := { name := "clockNext", fn := fun _ => fun
  | [d1, d2, d3] => { results := [.lit (.bool false)], args := [d1, d2, d3] }
  | _ => none }
def ClockNextWrongFalsely : Prop := clockNextRow.holds Try.pinned (OpenSpec.ofChange clockNextWrong)

/-- 'lychgatelaw12.ClockSets': WHATEVER THE INPUT: true; the input reads as it did. -/
def clockSetsSpec : ChangeSpec := { name := "clockSets", fn := fun _ => fun
  | [d1, d2] => { results := [.lit (.bool true)], args := [d1, d2] }
  | _ => none }
def clockSetsRow : OpenClaim := { program := "ytkhcckfnaahbeaa", sum := "0c29c2c92b60c3c8ab8e38c6711c2ec1734e2431d7a0e19fa227d48295d547ff", func := "lychgate/lychgatelaw12.ClockSets", spec := "clockSets", recurses := true, apart := false }
def ClockSetsSaid : Prop := clockSetsRow.holds Try.pinned (OpenSpec.ofChange clockSetsSpec)

/-- ITS FALSE NEIGHBOUR: 'it returns false'. Refute it at one input. -/
def clockSetsWrong : ChangeSpec := { name := "clockSets", fn := fun _ => fun
  | [d1, d2] => { results := [.lit (.bool false)], args := [d1, d2] }
  | _ => none }
def ClockSetsWrongFalsely : Prop := clockSetsRow.holds Try.pinned (OpenSpec.ofChange clockSetsWrong)

/-- 'lychgatelaw12.ClockErrors': WHATEVER THE INPUT: true; the input reads as it did. -/
def clockErrorsSpec : ChangeSpec := { name := "clockErrors", fn := fun _ => fun
  | [d1, d2, d3] => { results := [.lit (.bool true)], args := [d1, d2, d3] }
  | _ => none }
def clockErrorsRow : OpenClaim := { program := "ytkhcckfnaahbeaa", sum := "0c29c2c92b60c3c8ab8e38c6711c2ec1734e2431d7a0e19fa227d48295d547ff", func := "lychgate/lychgatelaw12.ClockErrors", spec := "clockErrors", recurses := true, apart := false }
def ClockErrorsSaid : Prop := clockErrorsRow.holds Try.pinned (OpenSpec.ofChange clockErrorsSpec)

/-- ITS FALSE NEIGHBOUR: 'it returns false'. Refute it at one input. -/
def clockErrorsWrong : ChangeSpec := { name := "clockErrors", fn := fun _ => fun
  | [d1, d2, d3] => { results := [.lit (.bool false)], args := [d1, d2, d3] }
  | _ => none }
def ClockErrorsWrongFalsely : Prop := clockErrorsRow.holds Try.pinned (OpenSpec.ofChange clockErrorsWrong)

/-- 'lychgatelaw12.ClockPlays': WHATEVER THE INPUT: true; the input reads as it did. -/
def clockPlaysSpec : ChangeSpec := { name := "clockPlays", fn := fun _ => fun
  | [d1, d2] => { results := [.lit (.bool true)], args := [d1, d2] }
  | _ => none }
def clockPlaysRow : OpenClaim := { program := "ytkhcckfnaahbeaa", sum := "0c29c2c92b60c3c8ab8e38c6711c2ec1734e2431d7a0e19fa227d48295d547ff", func := "lychgate/lychgatelaw12.ClockPlays", spec := "clockPlays", recurses := true, apart := false }
def ClockPlaysSaid : Prop := clockPlaysRow.holds Try.pinned (OpenSpec.ofChange clockPlaysSpec)

/-- ITS FALSE NEIGHBOUR: 'it returns false'. Refute it at one input. -/
def clockPlaysWrong : ChangeSpec := { name := "clockPlays", fn := fun _ => fun
  | [d1, d2] => { results := [.lit (.bool false)], args := [d1, d2] }
  | _ => none }
def ClockPlaysWrongFalsely : Prop := clockPlaysRow.holds Try.pinned (OpenSpec.ofChange clockPlaysWrong)

/-- 'lychgatelaw12.ClockTold': WHATEVER THE INPUT: true; the input reads as it did. -/
def clockToldSpec : ChangeSpec := { name := "clockTold", fn := fun _ => fun
  | [d1, d2] => { results := [.lit (.bool true)], args := [d1, d2] }
  | _ => none }
def clockToldRow : OpenClaim := { program := "ytkhcckfnaahbeaa", sum := "0c29c2c92b60c3c8ab8e38c6711c2ec1734e2431d7a0e19fa227d48295d547ff", func := "lychgate/lychgatelaw12.ClockTold", spec := "clockTold", recurses := true, apart := false }
def ClockToldSaid : Prop := clockToldRow.holds Try.pinned (OpenSpec.ofChange clockToldSpec)

/-- ITS FALSE NEIGHBOUR: 'it returns false'. Refute it at one input. -/
def clockToldWrong : ChangeSpec := { name := "clockTold", fn := fun _ => fun
  | [d1, d2] => { results := [.lit (.bool false)], args := [d1, d2] }
  | _ => none }
def ClockToldWrongFalsely : Prop := clockToldRow.holds Try.pinned (OpenSpec.ofChange clockToldWrong)

/- THE SECOND FORM. 'bulk': how many values and letters a reading holds, each counted each time it is reached (what is shared counts as often as it is met; a slice's spare places count too). A statement '..UptoSaid' is the law's where the arguments, and the package variables that the reading takes, are together of bulk at most 1048576: NARROWER than '..Said'. Prove '..Said' where nothing that the law and all that it calls make is longer than what came in: it says more and counts as full. Else prove '..UptoSaid'. A law counts once. -/
mutual
def uptoBulk {H : Type} : DataW H → Nat
  | .lit (.string bytes) => bytes.length + 1
  | .lit _ => 1
  | .nil => 1
  | .ptr d => uptoBulk d + 1
  | .slice elems spare => uptoBulkAll elems + uptoBulkAll spare + 1
  | .agg parts => uptoBulkAll parts + 1
  | .iface _ d => uptoBulk d + 1
  | .map entries => uptoBulkEntries entries + 1
  | .held _ => 1
def uptoBulkAll {H : Type} : List (DataW H) → Nat
  | [] => 0
  | d :: r => uptoBulk d + uptoBulkAll r
def uptoBulkEntries {H : Type} : List (Lit × DataW H) → Nat
  | [] => 0
  | x :: r => uptoBulkEntry x + uptoBulkEntries r
def uptoBulkEntry {H : Type} : Lit × DataW H → Nat
  | (.string bytes, d) => bytes.length + uptoBulk d + 1
  | (_, d) => uptoBulk d + 1
 end
def uptoSmall : (H : Type) → List (DataW H) → Bool := fun _ ds => decide (uptoBulkAll ds ≤ 1048576)
def OpenSpec.upto (s : _root_.Go.ChangeSpec) : _root_.Go.OpenSpec := { _root_.Go.OpenSpec.ofChange s with cond := some uptoSmall }

/-- 'lychgatelaw12.ClockApart', WHERE WHAT IT READS IS OF BULK AT MOST 1048576: true; the input reads as it did. -/
def clockApartUptoRow : OpenClaim := { program := "ytkhcckfnaahbeaa", sum := "0c29c2c92b60c3c8ab8e38c6711c2ec1734e2431d7a0e19fa227d48295d547ff", func := "lychgate/lychgatelaw12.ClockApart", spec := "clockApart", recurses := true, apart := false, narrowed := true }
def ClockApartUptoSaid : Prop := clockApartUptoRow.holds Try.pinned (OpenSpec.upto clockApartSpec)

/-- 'lychgatelaw12.ClockNext', WHERE WHAT IT READS IS OF BULK AT MOST 1048576: true; the input reads as it did. -/
def clockNextUptoRow : OpenClaim := { program := "ytkhcckfnaahbeaa", sum := "0c29c2c92b60c3c8ab8e38c6711c2ec1734e2431d7a0e19fa227d48295d547ff", func := "lychgate/lychgatelaw12.ClockNext", spec := "clockNext", recurses := true, apart := false, narrowed := true }
def ClockNextUptoSaid : Prop := clockNextUptoRow.holds Try.pinned (OpenSpec.upto clockNextSpec)

/-- 'lychgatelaw12.ClockSets', WHERE WHAT IT READS IS OF BULK AT MOST 1048576: true; the input reads as it did. -/
def clockSetsUptoRow : OpenClaim := { program := "ytkhcckfnaahbeaa", sum := "0c29c2c92b60c3c8ab8e38c6711c2ec1734e2431d7a0e19fa227d48295d547ff", func := "lychgate/lychgatelaw12.ClockSets", spec := "clockSets", recurses := true, apart := false, narrowed := true }
def ClockSetsUptoSaid : Prop := clockSetsUptoRow.holds Try.pinned (OpenSpec.upto clockSetsSpec)

/-- 'lychgatelaw12.ClockErrors', WHERE WHAT IT READS IS OF BULK AT MOST 1048576: true; the input reads as it did. -/
def clockErrorsUptoRow : OpenClaim := { program := "ytkhcckfnaahbeaa", sum := "0c29c2c92b60c3c8ab8e38c6711c2ec1734e2431d7a0e19fa227d48295d547ff", func := "lychgate/lychgatelaw12.ClockErrors", spec := "clockErrors", recurses := true, apart := false, narrowed := true }
def ClockErrorsUptoSaid : Prop := clockErrorsUptoRow.holds Try.pinned (OpenSpec.upto clockErrorsSpec)

/-- 'lychgatelaw12.ClockPlays', WHERE WHAT IT READS IS OF BULK AT MOST 1048576: true; the input reads as it did. -/
def clockPlaysUptoRow : OpenClaim := { program := "ytkhcckfnaahbeaa", sum := "0c29c2c92b60c3c8ab8e38c6711c2ec1734e2431d7a0e19fa227d48295d547ff", func := "lychgate/lychgatelaw12.ClockPlays", spec := "clockPlays", recurses := true, apart := false, narrowed := true }
def ClockPlaysUptoSaid : Prop := clockPlaysUptoRow.holds Try.pinned (OpenSpec.upto clockPlaysSpec)

/-- 'lychgatelaw12.ClockTold', WHERE WHAT IT READS IS OF BULK AT MOST 1048576: true; the input reads as it did. -/
def clockToldUptoRow : OpenClaim := { program := "ytkhcckfnaahbeaa", sum := "0c29c2c92b60c3c8ab8e38c6711c2ec1734e2431d7a0e19fa227d48295d547ff", func := "lychgate/lychgatelaw12.ClockTold", spec := "clockTold", recurses := true, apart := false, narrowed := true }
def ClockToldUptoSaid : Prop := clockToldUptoRow.holds Try.pinned (OpenSpec.upto clockToldSpec)

end Rows
end Go.Proofs.Ytkhcckfnaahbeaa
