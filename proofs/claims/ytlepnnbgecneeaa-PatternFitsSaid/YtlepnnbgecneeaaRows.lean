/-
  No cell of these rows narrows 'for every input' (looked for: loops, veiled, ifaces, maps, wideKeys, modest, calm, conditions, laid).
  DERIVED. THE GIVEN ROWS OF THIS SEAT. 6 by the template 'for every input the law returns true; each argument reads behind the call as it read before'; 0 by the template 'total and deterministic' (their statements: YtlepnnbgecneeaaTotals.lean).
  GIVEN WITH THE SEED: the statements are not yours to turn. If you find one false, say at which input.
  Laid BY PROGRAM, IN A SANDBOX (cutbox-rows.mjs): the forced cells as the released guide's own fill.sh prints them over the translation 37eea85f1066852a… (all of the seat's roots in one cut). By AI agents, Wed Nov 11 2026. No macro, syntax, notation, axiom, sorry.
-/
import Derived.Test.YtlepnnbgecneeaaChecked
import GoSem.Claim
import GoSem.ClaimJoined
import GoSem.ClaimMapViews
import Derived.JoinedTies
import Derived.KernelRfl
namespace Go.Proofs.Ytlepnnbgecneeaa
/- THE CELL 'sum', in the pinned program and in every row, IS THE sha256 OF THE DUMP (.gsa) THAT YtlepnnbgecneeaaProg.lean LOADS. Nothing in Lean hashes anything: it is a label: what it is worth is what the hold of that sum in a sandbox is worth. -/
noncomputable def Try.pinned : Pinned := { name := "ytlepnnbgecneeaa", sum := "37eea85f1066852a6b31e5403d2dc2b7892592750bc9114a28c9492af0629b95", checked := Try.checked }
namespace Rows
def none {H : Type} : Left H := { results := [], args := [] }

/-- 'lychgatelaw05.PatternLeast': WHATEVER THE INPUT: true; the input reads as it did. -/
def patternLeastSpec : ChangeSpec := { name := "patternLeast", fn := fun _ => fun
  | [d1, d2] => { results := [.lit (.bool true)], args := [d1, d2] }
  | _ => none }
def patternLeastRow : OpenClaim := { program := "ytlepnnbgecneeaa", sum := "37eea85f1066852a6b31e5403d2dc2b7892592750bc9114a28c9492af0629b95", func := "lychgate/lychgatelaw05.PatternLeast", spec := "patternLeast", inPlace := ["internal/bytealg.IndexByteString", "internal/abi.NoEscape"], unfollowed := true, recurses := true, apart := false }
def PatternLeastSaid : Prop := patternLeastRow.holds Try.pinned (OpenSpec.ofChange patternLeastSpec)

/-- ITS FALSE NEIGHBOUR: 'it returns false'. Refute it at one input. -/
def patternLeastWrong : ChangeSpec := { name := "patternLeast", fn := fun _ => fun
  | [d1, d2] => { results := [.lit (.bool false)], args := [d1, d2] }
  | _ => none }
def PatternLeastWrongFalsely : Prop := patternLeastRow.holds Try.pinned (OpenSpec.ofChange patternLeastWrong)

/-- 'lychgatelaw05.PatternJoins': WHATEVER THE INPUT: true; the input reads as it did. -/
def patternJoinsSpec : ChangeSpec := { name := "patternJoins", fn := fun _ => fun
  | [d1, d2, d3] => { results := [.lit (.bool true)], args := [d1, d2, d3] }
  | _ => none }
def patternJoinsRow : OpenClaim := { program := "ytlepnnbgecneeaa", sum := "37eea85f1066852a6b31e5403d2dc2b7892592750bc9114a28c9492af0629b95", func := "lychgate/lychgatelaw05.PatternJoins", spec := "patternJoins", inPlace := ["internal/bytealg.IndexByteString", "internal/abi.NoEscape"], unfollowed := true, recurses := true, apart := false }
def PatternJoinsSaid : Prop := patternJoinsRow.holds Try.pinned (OpenSpec.ofChange patternJoinsSpec)

/-- ITS FALSE NEIGHBOUR: 'it returns false'. Refute it at one input. -/
def patternJoinsWrong : ChangeSpec := { name := "patternJoins", fn := fun _ => fun
  | [d1, d2, d3] => { results := [.lit (.bool false)], args := [d1, d2, d3] }
  | _ => none }
def PatternJoinsWrongFalsely : Prop := patternJoinsRow.holds Try.pinned (OpenSpec.ofChange patternJoinsWrong)

/-- 'lychgatelaw05.PatternFits': WHATEVER THE INPUT: true; the input reads as it did. -/
def patternFitsSpec : ChangeSpec := { name := "patternFits", fn := fun _ => fun
  | [d1, d2] => { results := [.lit (.bool true)], args := [d1, d2] }
  | _ => none }
def patternFitsRow : OpenClaim := { program := "ytlepnnbgecneeaa", sum := "37eea85f1066852a6b31e5403d2dc2b7892592750bc9114a28c9492af0629b95", func := "lychgate/lychgatelaw05.PatternFits", spec := "patternFits", inPlace := ["internal/bytealg.IndexByteString", "internal/abi.NoEscape"], unfollowed := true, recurses := true, apart := false }
def PatternFitsSaid : Prop := patternFitsRow.holds Try.pinned (OpenSpec.ofChange patternFitsSpec)

/-- ITS FALSE NEIGHBOUR: 'it returns false'. Refute it at one input. -/
def patternFitsWrong : ChangeSpec := { name := "patternFits", fn := fun _ => fun
  | [d1, d2] => { results := [.lit (.bool false)], args := [d1, d2] }
  | _ => none }
def PatternFitsWrongFalsely : Prop := patternFitsRow.holds Try.pinned (OpenSpec.ofChange patternFitsWrong)

/-- 'lychgatelaw05.PatternNil': WHATEVER THE INPUT: true; the input reads as it did. -/
def patternNilSpec : ChangeSpec := { name := "patternNil", fn := fun _ => fun
  | [d1, d2] => { results := [.lit (.bool true)], args := [d1, d2] }
  | _ => none }
def patternNilRow : OpenClaim := { program := "ytlepnnbgecneeaa", sum := "37eea85f1066852a6b31e5403d2dc2b7892592750bc9114a28c9492af0629b95", func := "lychgate/lychgatelaw05.PatternNil", spec := "patternNil", inPlace := ["internal/bytealg.IndexByteString", "internal/abi.NoEscape"], unfollowed := true, recurses := true, apart := false }
def PatternNilSaid : Prop := patternNilRow.holds Try.pinned (OpenSpec.ofChange patternNilSpec)

/-- ITS FALSE NEIGHBOUR: 'it returns false'. Refute it at one input. -/
def patternNilWrong : ChangeSpec := { name := "patternNil", fn := fun _ => fun
  | [d1, d2] => { results := [.lit (.bool false)], args := [d1, d2] }
  | _ => none }
def PatternNilWrongFalsely : Prop := patternNilRow.holds Try.pinned (OpenSpec.ofChange patternNilWrong)

/-- 'lychgatelaw05.PatternQuote': WHATEVER THE INPUT: true; the input reads as it did. -/
def patternQuoteSpec : ChangeSpec := { name := "patternQuote", fn := fun _ => fun
  | [d1, d2] => { results := [.lit (.bool true)], args := [d1, d2] }
  | _ => none }
def patternQuoteRow : OpenClaim := { program := "ytlepnnbgecneeaa", sum := "37eea85f1066852a6b31e5403d2dc2b7892592750bc9114a28c9492af0629b95", func := "lychgate/lychgatelaw05.PatternQuote", spec := "patternQuote", inPlace := ["internal/bytealg.IndexByteString", "internal/abi.NoEscape"], unfollowed := true, recurses := true, apart := false }
def PatternQuoteSaid : Prop := patternQuoteRow.holds Try.pinned (OpenSpec.ofChange patternQuoteSpec)

/-- ITS FALSE NEIGHBOUR: 'it returns false'. Refute it at one input. -/
def patternQuoteWrong : ChangeSpec := { name := "patternQuote", fn := fun _ => fun
  | [d1, d2] => { results := [.lit (.bool false)], args := [d1, d2] }
  | _ => none }
def PatternQuoteWrongFalsely : Prop := patternQuoteRow.holds Try.pinned (OpenSpec.ofChange patternQuoteWrong)

/-- 'lychgatelaw05.PatternTimes': WHATEVER THE INPUT: true; the input reads as it did. -/
def patternTimesSpec : ChangeSpec := { name := "patternTimes", fn := fun _ => fun
  | [d1, d2, d3] => { results := [.lit (.bool true)], args := [d1, d2, d3] }
  | _ => none }
def patternTimesRow : OpenClaim := { program := "ytlepnnbgecneeaa", sum := "37eea85f1066852a6b31e5403d2dc2b7892592750bc9114a28c9492af0629b95", func := "lychgate/lychgatelaw05.PatternTimes", spec := "patternTimes", inPlace := ["internal/bytealg.IndexByteString", "internal/abi.NoEscape"], unfollowed := true, recurses := true, apart := false }
def PatternTimesSaid : Prop := patternTimesRow.holds Try.pinned (OpenSpec.ofChange patternTimesSpec)

/-- ITS FALSE NEIGHBOUR: 'it returns false'. Refute it at one input. -/
def patternTimesWrong : ChangeSpec := { name := "patternTimes", fn := fun _ => fun
  | [d1, d2, d3] => { results := [.lit (.bool false)], args := [d1, d2, d3] }
  | _ => none }
def PatternTimesWrongFalsely : Prop := patternTimesRow.holds Try.pinned (OpenSpec.ofChange patternTimesWrong)

/- THE SECOND FORM. 'bulk': how many values and letters a reading holds, each counted each time it is reached (what is shared counts as often as it is met; a slice's spare places count too). A statement '..UptoSaid' is the law's where the arguments, and the package variables that the reading takes, are together of bulk at most 1048576: NARROWER than '..Said'. Prove '..Said' where nothing that the law and all that it calls make is longer than what came in: it says more and counts as full. Else prove '..UptoSaid'. A law counts once. -/
mutual
def uptoBulk {H : Type} : DataW H → Nat
  | .lit (.string bytes) => bytes.length + 1
  | .lit _ => 1
  | .nil => 1
  | .ptr d => uptoBulk d + 1
  | .slice elems spare => uptoBulkAll elems + uptoBulkAll spare + 1
  | .agg parts => uptoBulkAll parts + 1
  | .iface _ d => uptoBulk d + 1
  | .map entries => uptoBulkEntries entries + 1
  | .held _ => 1
def uptoBulkAll {H : Type} : List (DataW H) → Nat
  | [] => 0
  | d :: r => uptoBulk d + uptoBulkAll r
def uptoBulkEntries {H : Type} : List (Lit × DataW H) → Nat
  | [] => 0
  | x :: r => uptoBulkEntry x + uptoBulkEntries r
def uptoBulkEntry {H : Type} : Lit × DataW H → Nat
  | (.string bytes, d) => bytes.length + uptoBulk d + 1
  | (_, d) => uptoBulk d + 1
 end
def uptoSmall : (H : Type) → List (DataW H) → Bool := fun _ ds => decide (uptoBulkAll ds ≤ 1048576)
def OpenSpec.upto (s : _root_.Go.ChangeSpec) : _root_.Go.OpenSpec := { _root_.Go.OpenSpec.ofChange s with cond := some uptoSmall }

/-- 'lychgatelaw05.PatternLeast', WHERE WHAT IT READS IS OF BULK AT MOST 1048576: true; the input reads as it did. -/
def patternLeastUptoRow : OpenClaim := { program := "ytlepnnbgecneeaa", sum := "37eea85f1066852a6b31e5403d2dc2b7892592750bc9114a28c9492af0629b95", func := "lychgate/lychgatelaw05.PatternLeast", spec := "patternLeast", inPlace := ["internal/bytealg.IndexByteString", "internal/abi.NoEscape"], unfollowed := true, recurses := true, apart := false, narrowed := true }
def PatternLeastUptoSaid : Prop := patternLeastUptoRow.holds Try.pinned (OpenSpec.upto patternLeastSpec)

/-- 'lychgatelaw05.PatternJoins', WHERE WHAT IT READS IS OF BULK AT MOST 1048576: true; the input reads as it did. -/
def patternJoinsUptoRow : OpenClaim := { program := "ytlepnnbgecneeaa", sum := "37eea85f1066852a6b31e5403d2dc2b7892592750bc9114a28c9492af0629b95", func := "lychgate/lychgatelaw05.PatternJoins", spec := "patternJoins", inPlace := ["internal/bytealg.IndexByteString", "internal/abi.NoEscape"], unfollowed := true, recurses := true, apart := false, narrowed := true }
def PatternJoinsUptoSaid : Prop := patternJoinsUptoRow.holds Try.pinned (OpenSpec.upto patternJoinsSpec)

/-- 'lychgatelaw05.PatternFits', WHERE WHAT IT READS IS OF BULK AT MOST 1048576: true; the input reads as it did. -/
def patternFitsUptoRow : OpenClaim := { program := "ytlepnnbgecneeaa", sum := "37eea85f1066852a6b31e5403d2dc2b7892592750bc9114a28c9492af0629b95", func := "lychgate/lychgatelaw05.PatternFits", spec := "patternFits", inPlace := ["internal/bytealg.IndexByteString", "internal/abi.NoEscape"], unfollowed := true, recurses := true, apart := false, narrowed := true }
def PatternFitsUptoSaid : Prop := patternFitsUptoRow.holds Try.pinned (OpenSpec.upto patternFitsSpec)

/-- 'lychgatelaw05.PatternNil', WHERE WHAT IT READS IS OF BULK AT MOST 1048576: true; the input reads as it did. -/
def patternNilUptoRow : OpenClaim := { program := "ytlepnnbgecneeaa", sum := "37eea85f1066852a6b31e5403d2dc2b7892592750bc9114a28c9492af0629b95", func := "lychgate/lychgatelaw05.PatternNil", spec := "patternNil", inPlace := ["internal/bytealg.IndexByteString", "internal/abi.NoEscape"], unfollowed := true, recurses := true, apart := false, narrowed := true }
def PatternNilUptoSaid : Prop := patternNilUptoRow.holds Try.pinned (OpenSpec.upto patternNilSpec)

/-- 'lychgatelaw05.PatternQuote', WHERE WHAT IT READS IS OF BULK AT MOST 1048576: true; the input reads as it did. -/
def patternQuoteUptoRow : OpenClaim := { program := "ytlepnnbgecneeaa", sum := "37eea85f1066852a6b31e5403d2dc2b7892592750bc9114a28c9492af0629b95", func := "lychgate/lychgatelaw05.PatternQuote", spec := "patternQuote", inPlace := ["internal/bytealg.IndexByteString", "internal/abi.NoEscape"], unfollowed := true, recurses := true, apart := false, narrowed := true }
def PatternQuoteUptoSaid : Prop := patternQuoteUptoRow.holds Try.pinned (OpenSpec.upto patternQuoteSpec)

/-- 'lychgatelaw05.PatternTimes', WHERE WHAT IT READS IS OF BULK AT MOST 1048576: true; the input reads as it did. -/
def patternTimesUptoRow : OpenClaim := { program := "ytlepnnbgecneeaa", sum := "37eea85f1066852a6b31e5403d2dc2b7892592750bc9114a28c9492af0629b95", func := "lychgate/lychgatelaw05.PatternTimes", spec := "patternTimes", inPlace := ["internal/bytealg.IndexByteString", "internal/abi.NoEscape"], unfollowed := true, recurses := true, apart := false, narrowed := true }
def PatternTimesUptoSaid : Prop := patternTimesUptoRow.holds Try.pinned (OpenSpec.upto patternTimesSpec)

end Rows
end Go.Proofs.Ytlepnnbgecneeaa
