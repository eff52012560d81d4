/-
  No cell of these rows narrows 'for every input' (looked for: loops, veiled, ifaces, maps, wideKeys, modest, calm, conditions, laid).
  DERIVED. THE GIVEN ROWS OF THIS SEAT. 7 by the template 'for every input the law returns true; each argument reads behind the call as it read before'; 0 by the template 'total and deterministic' (their statements: YtcfococinllcmaaGreatTotals.lean).
  GIVEN WITH THE SEED: the statements are not yours to turn. If you find one false, say at which input.
  Laid BY PROGRAM, IN A SANDBOX (cutbox-rows.mjs): the forced cells as the released guide's own fill.sh prints them over the translation d176490d4d48f3a9… (all of the seat's roots in one cut). By AI agents, Wed Nov 11 2026. No macro, syntax, notation, axiom, sorry.
-/
import Derived.Test.YtcfococinllcmaaGreatChecked
import GoSem.Claim
import GoSem.ClaimJoined
import GoSem.ClaimMapViews
import Derived.JoinedTies
import Derived.KernelRfl
namespace Go.Proofs.YtcfococinllcmaaGreat
/- THE CELL 'sum', in the pinned program and in every row, IS THE sha256 OF THE DUMP (.gsa) THAT YtcfococinllcmaaGreatProg.lean LOADS. Nothing in Lean hashes anything: it is a label: what it is worth is what the hold of that sum in a sandbox is worth. -/
noncomputable def Tryz.pinned : Pinned := { name := "ytcfococinllcmaagreat", sum := "d176490d4d48f3a99019bd1bc63ba07b2b09cc3022258fa94f3ad79ce1583e8d", checked := Tryz.checked }
namespace Rows
def none {H : Type} : Left H := { results := [], args := [] }

/-- 'lychgatelaw22.BucketTells': WHATEVER THE INPUT: true; the input reads as it did. -/
def bucketTellsSpec : ChangeSpec := { name := "bucketTells", fn := fun _ => fun
  | [d1, d2, d3] => { results := [.lit (.bool true)], args := [d1, d2, d3] }
  | _ => none }
def bucketTellsRow : OpenClaim := { program := "ytcfococinllcmaagreat", sum := "d176490d4d48f3a99019bd1bc63ba07b2b09cc3022258fa94f3ad79ce1583e8d", func := "lychgate/lychgatelaw22.BucketTells", spec := "bucketTells", inPlace := ["internal/bytealg.IndexByteString"], unfollowed := true, recurses := true, apart := false }
def BucketTellsSaid : Prop := bucketTellsRow.holds Tryz.pinned (OpenSpec.ofChange bucketTellsSpec)

/-- ITS FALSE NEIGHBOUR: 'it returns false'. Refute it at one input. -/
def bucketTellsWrong : ChangeSpec := { name := "bucketTells", fn := fun _ => fun
  | [d1, d2, d3] => { results := [.lit (.bool false)], args := [d1, d2, d3] }
  | _ => none }
def BucketTellsWrongFalsely : Prop := bucketTellsRow.holds Tryz.pinned (OpenSpec.ofChange bucketTellsWrong)

/-- 'lychgatelaw10.SilenceLow': WHATEVER THE INPUT: true; the input reads as it did. -/
def silenceLowSpec : ChangeSpec := { name := "silenceLow", fn := fun _ => fun
  | [d1, d2, d3] => { results := [.lit (.bool true)], args := [d1, d2, d3] }
  | _ => none }
def silenceLowRow : OpenClaim := { program := "ytcfococinllcmaagreat", sum := "d176490d4d48f3a99019bd1bc63ba07b2b09cc3022258fa94f3ad79ce1583e8d", func := "lychgate/lychgatelaw10.SilenceLow", spec := "silenceLow", inPlace := ["internal/bytealg.IndexByteString"], unfollowed := true, recurses := true, apart := false }
def SilenceLowSaid : Prop := silenceLowRow.holds Tryz.pinned (OpenSpec.ofChange silenceLowSpec)

/-- ITS FALSE NEIGHBOUR: 'it returns false'. Refute it at one input. -/
def silenceLowWrong : ChangeSpec := { name := "silenceLow", fn := fun _ => fun
  | [d1, d2, d3] => { results := [.lit (.bool false)], args := [d1, d2, d3] }
  | _ => none }
def SilenceLowWrongFalsely : Prop := silenceLowRow.holds Tryz.pinned (OpenSpec.ofChange silenceLowWrong)

/-- 'lychgatelaw10.SilenceTimes': WHATEVER THE INPUT: true; the input reads as it did. -/
def silenceTimesSpec : ChangeSpec := { name := "silenceTimes", fn := fun _ => fun
  | [d1, d2, d3] => { results := [.lit (.bool true)], args := [d1, d2, d3] }
  | _ => none }
def silenceTimesRow : OpenClaim := { program := "ytcfococinllcmaagreat", sum := "d176490d4d48f3a99019bd1bc63ba07b2b09cc3022258fa94f3ad79ce1583e8d", func := "lychgate/lychgatelaw10.SilenceTimes", spec := "silenceTimes", inPlace := ["internal/bytealg.IndexByteString"], unfollowed := true, recurses := true, apart := false }
def SilenceTimesSaid : Prop := silenceTimesRow.holds Tryz.pinned (OpenSpec.ofChange silenceTimesSpec)

/-- ITS FALSE NEIGHBOUR: 'it returns false'. Refute it at one input. -/
def silenceTimesWrong : ChangeSpec := { name := "silenceTimes", fn := fun _ => fun
  | [d1, d2, d3] => { results := [.lit (.bool false)], args := [d1, d2, d3] }
  | _ => none }
def SilenceTimesWrongFalsely : Prop := silenceTimesRow.holds Tryz.pinned (OpenSpec.ofChange silenceTimesWrong)

/-- 'lychgatelaw10.SilencePlays': WHATEVER THE INPUT: true; the input reads as it did. -/
def silencePlaysSpec : ChangeSpec := { name := "silencePlays", fn := fun _ => fun
  | [d1, d2, d3] => { results := [.lit (.bool true)], args := [d1, d2, d3] }
  | _ => none }
def silencePlaysRow : OpenClaim := { program := "ytcfococinllcmaagreat", sum := "d176490d4d48f3a99019bd1bc63ba07b2b09cc3022258fa94f3ad79ce1583e8d", func := "lychgate/lychgatelaw10.SilencePlays", spec := "silencePlays", inPlace := ["internal/bytealg.IndexByteString"], unfollowed := true, recurses := true, apart := false }
def SilencePlaysSaid : Prop := silencePlaysRow.holds Tryz.pinned (OpenSpec.ofChange silencePlaysSpec)

/-- ITS FALSE NEIGHBOUR: 'it returns false'. Refute it at one input. -/
def silencePlaysWrong : ChangeSpec := { name := "silencePlays", fn := fun _ => fun
  | [d1, d2, d3] => { results := [.lit (.bool false)], args := [d1, d2, d3] }
  | _ => none }
def SilencePlaysWrongFalsely : Prop := silencePlaysRow.holds Tryz.pinned (OpenSpec.ofChange silencePlaysWrong)

/-- 'lychgatelaw10.SilenceNil': WHATEVER THE INPUT: true; the input reads as it did. -/
def silenceNilSpec : ChangeSpec := { name := "silenceNil", fn := fun _ => fun
  | [d1, d2] => { results := [.lit (.bool true)], args := [d1, d2] }
  | _ => none }
def silenceNilRow : OpenClaim := { program := "ytcfococinllcmaagreat", sum := "d176490d4d48f3a99019bd1bc63ba07b2b09cc3022258fa94f3ad79ce1583e8d", func := "lychgate/lychgatelaw10.SilenceNil", spec := "silenceNil", inPlace := ["internal/bytealg.IndexByteString"], unfollowed := true, recurses := true, apart := false }
def SilenceNilSaid : Prop := silenceNilRow.holds Tryz.pinned (OpenSpec.ofChange silenceNilSpec)

/-- ITS FALSE NEIGHBOUR: 'it returns false'. Refute it at one input. -/
def silenceNilWrong : ChangeSpec := { name := "silenceNil", fn := fun _ => fun
  | [d1, d2] => { results := [.lit (.bool false)], args := [d1, d2] }
  | _ => none }
def SilenceNilWrongFalsely : Prop := silenceNilRow.holds Tryz.pinned (OpenSpec.ofChange silenceNilWrong)

/-- 'lychgatelaw10.SilenceNumbers': WHATEVER THE INPUT: true; the input reads as it did. -/
def silenceNumbersSpec : ChangeSpec := { name := "silenceNumbers", fn := fun _ => fun
  | [d] => { results := [.lit (.bool true)], args := [d] }
  | _ => none }
def silenceNumbersRow : OpenClaim := { program := "ytcfococinllcmaagreat", sum := "d176490d4d48f3a99019bd1bc63ba07b2b09cc3022258fa94f3ad79ce1583e8d", func := "lychgate/lychgatelaw10.SilenceNumbers", spec := "silenceNumbers", inPlace := ["internal/bytealg.IndexByteString"], unfollowed := true, recurses := true, apart := false }
def SilenceNumbersSaid : Prop := silenceNumbersRow.holds Tryz.pinned (OpenSpec.ofChange silenceNumbersSpec)

/-- ITS FALSE NEIGHBOUR: 'it returns false'. Refute it at one input. -/
def silenceNumbersWrong : ChangeSpec := { name := "silenceNumbers", fn := fun _ => fun
  | [d] => { results := [.lit (.bool false)], args := [d] }
  | _ => none }
def SilenceNumbersWrongFalsely : Prop := silenceNumbersRow.holds Tryz.pinned (OpenSpec.ofChange silenceNumbersWrong)

/-- 'lychgatelaw10.SilenceForget': WHATEVER THE INPUT: true; the input reads as it did. -/
def silenceForgetSpec : ChangeSpec := { name := "silenceForget", fn := fun _ => fun
  | [d1, d2, d3] => { results := [.lit (.bool true)], args := [d1, d2, d3] }
  | _ => none }
def silenceForgetRow : OpenClaim := { program := "ytcfococinllcmaagreat", sum := "d176490d4d48f3a99019bd1bc63ba07b2b09cc3022258fa94f3ad79ce1583e8d", func := "lychgate/lychgatelaw10.SilenceForget", spec := "silenceForget", inPlace := ["internal/bytealg.IndexByteString"], unfollowed := true, recurses := true, apart := false }
def SilenceForgetSaid : Prop := silenceForgetRow.holds Tryz.pinned (OpenSpec.ofChange silenceForgetSpec)

/-- ITS FALSE NEIGHBOUR: 'it returns false'. Refute it at one input. -/
def silenceForgetWrong : ChangeSpec := { name := "silenceForget", fn := fun _ => fun
  | [d1, d2, d3] => { results := [.lit (.bool false)], args := [d1, d2, d3] }
  | _ => none }
def SilenceForgetWrongFalsely : Prop := silenceForgetRow.holds Tryz.pinned (OpenSpec.ofChange silenceForgetWrong)

/- THE SECOND FORM. 'bulk': how many values and letters a reading holds, each counted each time it is reached (what is shared counts as often as it is met; a slice's spare places count too). A statement '..UptoSaid' is the law's where the arguments, and the package variables that the reading takes, are together of bulk at most 1048576: NARROWER than '..Said'. Prove '..Said' where nothing that the law and all that it calls make is longer than what came in: it says more and counts as full. Else prove '..UptoSaid'. A law counts once. -/
mutual
def uptoBulk {H : Type} : DataW H → Nat
  | .lit (.string bytes) => bytes.length + 1
  | .lit _ => 1
  | .nil => 1
  | .ptr d => uptoBulk d + 1
  | .slice elems spare => uptoBulkAll elems + uptoBulkAll spare + 1
  | .agg parts => uptoBulkAll parts + 1
  | .iface _ d => uptoBulk d + 1
  | .map entries => uptoBulkEntries entries + 1
  | .held _ => 1
def uptoBulkAll {H : Type} : List (DataW H) → Nat
  | [] => 0
  | d :: r => uptoBulk d + uptoBulkAll r
def uptoBulkEntries {H : Type} : List (Lit × DataW H) → Nat
  | [] => 0
  | x :: r => uptoBulkEntry x + uptoBulkEntries r
def uptoBulkEntry {H : Type} : Lit × DataW H → Nat
  | (.string bytes, d) => bytes.length + uptoBulk d + 1
  | (_, d) => uptoBulk d + 1
 end
def uptoSmall : (H : Type) → List (DataW H) → Bool := fun _ ds => decide (uptoBulkAll ds ≤ 1048576)
def OpenSpec.upto (s : _root_.Go.ChangeSpec) : _root_.Go.OpenSpec := { _root_.Go.OpenSpec.ofChange s with cond := some uptoSmall }

/-- 'lychgatelaw22.BucketTells', WHERE WHAT IT READS IS OF BULK AT MOST 1048576: true; the input reads as it did. -/
def bucketTellsUptoRow : OpenClaim := { program := "ytcfococinllcmaagreat", sum := "d176490d4d48f3a99019bd1bc63ba07b2b09cc3022258fa94f3ad79ce1583e8d", func := "lychgate/lychgatelaw22.BucketTells", spec := "bucketTells", inPlace := ["internal/bytealg.IndexByteString"], unfollowed := true, recurses := true, apart := false, narrowed := true }
def BucketTellsUptoSaid : Prop := bucketTellsUptoRow.holds Tryz.pinned (OpenSpec.upto bucketTellsSpec)

/-- 'lychgatelaw10.SilenceLow', WHERE WHAT IT READS IS OF BULK AT MOST 1048576: true; the input reads as it did. -/
def silenceLowUptoRow : OpenClaim := { program := "ytcfococinllcmaagreat", sum := "d176490d4d48f3a99019bd1bc63ba07b2b09cc3022258fa94f3ad79ce1583e8d", func := "lychgate/lychgatelaw10.SilenceLow", spec := "silenceLow", inPlace := ["internal/bytealg.IndexByteString"], unfollowed := true, recurses := true, apart := false, narrowed := true }
def SilenceLowUptoSaid : Prop := silenceLowUptoRow.holds Tryz.pinned (OpenSpec.upto silenceLowSpec)

/-- 'lychgatelaw10.SilenceTimes', WHERE WHAT IT READS IS OF BULK AT MOST 1048576: true; the input reads as it did. -/
def silenceTimesUptoRow : OpenClaim := { program := "ytcfococinllcmaagreat", sum := "d176490d4d48f3a99019bd1bc63ba07b2b09cc3022258fa94f3ad79ce1583e8d", func := "lychgate/lychgatelaw10.SilenceTimes", spec := "silenceTimes", inPlace := ["internal/bytealg.IndexByteString"], unfollowed := true, recurses := true, apart := false, narrowed := true }
def SilenceTimesUptoSaid : Prop := silenceTimesUptoRow.holds Tryz.pinned (OpenSpec.upto silenceTimesSpec)

/-- 'lychgatelaw10.SilencePlays', WHERE WHAT IT READS IS OF BULK AT MOST 1048576: true; the input reads as it did. -/
def silencePlaysUptoRow : OpenClaim := { program := "ytcfococinllcmaagreat", sum := "d176490d4d48f3a99019bd1bc63ba07b2b09cc3022258fa94f3ad79ce1583e8d", func := "lychgate/lychgatelaw10.SilencePlays", spec := "silencePlays", inPlace := ["internal/bytealg.IndexByteString"], unfollowed := true, recurses := true, apart := false, narrowed := true }
def SilencePlaysUptoSaid : Prop := silencePlaysUptoRow.holds Tryz.pinned (OpenSpec.upto silencePlaysSpec)

/-- 'lychgatelaw10.SilenceNil', WHERE WHAT IT READS IS OF BULK AT MOST 1048576: true; the input reads as it did. -/
def silenceNilUptoRow : OpenClaim := { program := "ytcfococinllcmaagreat", sum := "d176490d4d48f3a99019bd1bc63ba07b2b09cc3022258fa94f3ad79ce1583e8d", func := "lychgate/lychgatelaw10.SilenceNil", spec := "silenceNil", inPlace := ["internal/bytealg.IndexByteString"], unfollowed := true, recurses := true, apart := false, narrowed := true }
def SilenceNilUptoSaid : Prop := silenceNilUptoRow.holds Tryz.pinned (OpenSpec.upto silenceNilSpec)

/-- 'lychgatelaw10.SilenceNumbers', WHERE WHAT IT READS IS OF BULK AT MOST 1048576: true; the input reads as it did. -/
def silenceNumbersUptoRow : OpenClaim := { program := "ytcfococinllcmaagreat", sum := "d176490d4d48f3a99019bd1bc63ba07b2b09cc3022258fa94f3ad79ce1583e8d", func := "lychgate/lychgatelaw10.SilenceNumbers", spec := "silenceNumbers", inPlace := ["internal/bytealg.IndexByteString"], unfollowed := true, recurses := true, apart := false, narrowed := true }
def SilenceNumbersUptoSaid : Prop := silenceNumbersUptoRow.holds Tryz.pinned (OpenSpec.upto silenceNumbersSpec)

/-- 'lychgatelaw10.SilenceForget', WHERE WHAT IT READS IS OF BULK AT MOST 1048576: true; the input reads as it did. -/
def silenceForgetUptoRow : OpenClaim := { program := "ytcfococinllcmaagreat", sum := "d176490d4d48f3a99019bd1bc63ba07b2b09cc3022258fa94f3ad79ce1583e8d", func := "lychgate/lychgatelaw10.SilenceForget", spec := "silenceForget", inPlace := ["internal/bytealg.IndexByteString"], unfollowed := true, recurses := true, apart := false, narrowed := true }
def SilenceForgetUptoSaid : Prop := silenceForgetUptoRow.holds Tryz.pinned (OpenSpec.upto silenceForgetSpec)

end Rows
end Go.Proofs.YtcfococinllcmaaGreat
