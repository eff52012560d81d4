/-
  No cell of these rows narrows 'for every input' (looked for: loops, veiled, ifaces, maps, wideKeys, modest, calm, conditions, laid).
  DERIVED. THE GIVEN ROWS OF THIS SEAT. 6 by the template 'for every input the law returns true; each argument reads behind the call as it read before'; 0 by the template 'total and deterministic' (their statements: YtebgcicpokpelaaTotals.lean).
  GIVEN WITH THE SEED: the statements are not yours to turn. If you find one false, say at which input.
  Laid BY PROGRAM, IN A SANDBOX (cutbox-rows.mjs): the forced cells as the released guide's own fill.sh prints them over the translation f018a41fb6832fbd… (all of the seat's roots in one cut). By AI agents, Wed Nov 11 2026. No macro, syntax, notation, axiom, sorry.
-/
import Derived.Test.YtebgcicpokpelaaChecked
import GoSem.Claim
import GoSem.ClaimJoined
import GoSem.ClaimMapViews
import Derived.JoinedTies
import Derived.KernelRfl
namespace Go.Proofs.Ytebgcicpokpelaa
/- THE CELL 'sum', in the pinned program and in every row, IS THE sha256 OF THE DUMP (.gsa) THAT YtebgcicpokpelaaProg.lean LOADS. Nothing in Lean hashes anything: it is a label: what it is worth is what the hold of that sum in a sandbox is worth. -/
noncomputable def Try.pinned : Pinned := { name := "ytebgcicpokpelaa", sum := "f018a41fb6832fbd2902fd0c84a2ccc7d0a83ddfc7f192f1c0da80f19d8bd6ee", checked := Try.checked }
namespace Rows
def none {H : Type} : Left H := { results := [], args := [] }

/-- 'lychgatelaw22.BucketLow': WHATEVER THE INPUT: true; the input reads as it did. -/
def bucketLowSpec : ChangeSpec := { name := "bucketLow", fn := fun _ => fun
  | [d1, d2, d3] => { results := [.lit (.bool true)], args := [d1, d2, d3] }
  | _ => none }
def bucketLowRow : OpenClaim := { program := "ytebgcicpokpelaa", sum := "f018a41fb6832fbd2902fd0c84a2ccc7d0a83ddfc7f192f1c0da80f19d8bd6ee", func := "lychgate/lychgatelaw22.BucketLow", spec := "bucketLow", inPlace := ["internal/bytealg.IndexByteString"], unfollowed := true, recurses := true, apart := false }
def BucketLowSaid : Prop := bucketLowRow.holds Try.pinned (OpenSpec.ofChange bucketLowSpec)

/-- ITS FALSE NEIGHBOUR: 'it returns false'. Refute it at one input. -/
def bucketLowWrong : ChangeSpec := { name := "bucketLow", fn := fun _ => fun
  | [d1, d2, d3] => { results := [.lit (.bool false)], args := [d1, d2, d3] }
  | _ => none }
def BucketLowWrongFalsely : Prop := bucketLowRow.holds Try.pinned (OpenSpec.ofChange bucketLowWrong)

/-- 'lychgatelaw22.BucketOrder': WHATEVER THE INPUT: true; the input reads as it did. -/
def bucketOrderSpec : ChangeSpec := { name := "bucketOrder", fn := fun _ => fun
  | [d1, d2, d3] => { results := [.lit (.bool true)], args := [d1, d2, d3] }
  | _ => none }
def bucketOrderRow : OpenClaim := { program := "ytebgcicpokpelaa", sum := "f018a41fb6832fbd2902fd0c84a2ccc7d0a83ddfc7f192f1c0da80f19d8bd6ee", func := "lychgate/lychgatelaw22.BucketOrder", spec := "bucketOrder", inPlace := ["internal/bytealg.IndexByteString"], unfollowed := true, recurses := true, apart := false }
def BucketOrderSaid : Prop := bucketOrderRow.holds Try.pinned (OpenSpec.ofChange bucketOrderSpec)

/-- ITS FALSE NEIGHBOUR: 'it returns false'. Refute it at one input. -/
def bucketOrderWrong : ChangeSpec := { name := "bucketOrder", fn := fun _ => fun
  | [d1, d2, d3] => { results := [.lit (.bool false)], args := [d1, d2, d3] }
  | _ => none }
def BucketOrderWrongFalsely : Prop := bucketOrderRow.holds Try.pinned (OpenSpec.ofChange bucketOrderWrong)

/-- 'lychgatelaw22.BucketOf': WHATEVER THE INPUT: true; the input reads as it did. -/
def bucketOfSpec : ChangeSpec := { name := "bucketOf", fn := fun _ => fun
  | [d1, d2, d3] => { results := [.lit (.bool true)], args := [d1, d2, d3] }
  | _ => none }
def bucketOfRow : OpenClaim := { program := "ytebgcicpokpelaa", sum := "f018a41fb6832fbd2902fd0c84a2ccc7d0a83ddfc7f192f1c0da80f19d8bd6ee", func := "lychgate/lychgatelaw22.BucketOf", spec := "bucketOf", inPlace := ["internal/bytealg.IndexByteString"], unfollowed := true, recurses := true, apart := false }
def BucketOfSaid : Prop := bucketOfRow.holds Try.pinned (OpenSpec.ofChange bucketOfSpec)

/-- ITS FALSE NEIGHBOUR: 'it returns false'. Refute it at one input. -/
def bucketOfWrong : ChangeSpec := { name := "bucketOf", fn := fun _ => fun
  | [d1, d2, d3] => { results := [.lit (.bool false)], args := [d1, d2, d3] }
  | _ => none }
def BucketOfWrongFalsely : Prop := bucketOfRow.holds Try.pinned (OpenSpec.ofChange bucketOfWrong)

/-- 'lychgatelaw22.BucketSame': WHATEVER THE INPUT: true; the input reads as it did. -/
def bucketSameSpec : ChangeSpec := { name := "bucketSame", fn := fun _ => fun
  | [d1, d2, d3] => { results := [.lit (.bool true)], args := [d1, d2, d3] }
  | _ => none }
def bucketSameRow : OpenClaim := { program := "ytebgcicpokpelaa", sum := "f018a41fb6832fbd2902fd0c84a2ccc7d0a83ddfc7f192f1c0da80f19d8bd6ee", func := "lychgate/lychgatelaw22.BucketSame", spec := "bucketSame", inPlace := ["internal/bytealg.IndexByteString"], unfollowed := true, recurses := true, apart := false }
def BucketSameSaid : Prop := bucketSameRow.holds Try.pinned (OpenSpec.ofChange bucketSameSpec)

/-- ITS FALSE NEIGHBOUR: 'it returns false'. Refute it at one input. -/
def bucketSameWrong : ChangeSpec := { name := "bucketSame", fn := fun _ => fun
  | [d1, d2, d3] => { results := [.lit (.bool false)], args := [d1, d2, d3] }
  | _ => none }
def BucketSameWrongFalsely : Prop := bucketSameRow.holds Try.pinned (OpenSpec.ofChange bucketSameWrong)

/-- 'lychgatelaw22.BucketMore': WHATEVER THE INPUT: true; the input reads as it did. -/
def bucketMoreSpec : ChangeSpec := { name := "bucketMore", fn := fun _ => fun
  | [d1, d2, d3] => { results := [.lit (.bool true)], args := [d1, d2, d3] }
  | _ => none }
def bucketMoreRow : OpenClaim := { program := "ytebgcicpokpelaa", sum := "f018a41fb6832fbd2902fd0c84a2ccc7d0a83ddfc7f192f1c0da80f19d8bd6ee", func := "lychgate/lychgatelaw22.BucketMore", spec := "bucketMore", inPlace := ["internal/bytealg.IndexByteString"], unfollowed := true, recurses := true, apart := false }
def BucketMoreSaid : Prop := bucketMoreRow.holds Try.pinned (OpenSpec.ofChange bucketMoreSpec)

/-- ITS FALSE NEIGHBOUR: 'it returns false'. Refute it at one input. -/
def bucketMoreWrong : ChangeSpec := { name := "bucketMore", fn := fun _ => fun
  | [d1, d2, d3] => { results := [.lit (.bool false)], args := [d1, d2, d3] }
  | _ => none }
def BucketMoreWrongFalsely : Prop := bucketMoreRow.holds Try.pinned (OpenSpec.ofChange bucketMoreWrong)

/-- 'lychgatelaw22.BucketRow': WHATEVER THE INPUT: true; the input reads as it did. -/
def bucketRowSpec : ChangeSpec := { name := "bucketRow", fn := fun _ => fun
  | [d] => { results := [.lit (.bool true)], args := [d] }
  | _ => none }
def bucketRowRow : OpenClaim := { program := "ytebgcicpokpelaa", sum := "f018a41fb6832fbd2902fd0c84a2ccc7d0a83ddfc7f192f1c0da80f19d8bd6ee", func := "lychgate/lychgatelaw22.BucketRow", spec := "bucketRow", inPlace := ["internal/bytealg.IndexByteString"], unfollowed := true, recurses := true, apart := false }
def BucketRowSaid : Prop := bucketRowRow.holds Try.pinned (OpenSpec.ofChange bucketRowSpec)

/-- ITS FALSE NEIGHBOUR: 'it returns false'. Refute it at one input. -/
def bucketRowWrong : ChangeSpec := { name := "bucketRow", fn := fun _ => fun
  | [d] => { results := [.lit (.bool false)], args := [d] }
  | _ => none }
def BucketRowWrongFalsely : Prop := bucketRowRow.holds Try.pinned (OpenSpec.ofChange bucketRowWrong)

/- THE SECOND FORM. 'bulk': how many values and letters a reading holds, each counted each time it is reached (what is shared counts as often as it is met; a slice's spare places count too). A statement '..UptoSaid' is the law's where the arguments, and the package variables that the reading takes, are together of bulk at most 1048576: NARROWER than '..Said'. Prove '..Said' where nothing that the law and all that it calls make is longer than what came in: it says more and counts as full. Else prove '..UptoSaid'. A law counts once. -/
mutual
def uptoBulk {H : Type} : DataW H → Nat
  | .lit (.string bytes) => bytes.length + 1
  | .lit _ => 1
  | .nil => 1
  | .ptr d => uptoBulk d + 1
  | .slice elems spare => uptoBulkAll elems + uptoBulkAll spare + 1
  | .agg parts => uptoBulkAll parts + 1
  | .iface _ d => uptoBulk d + 1
  | .map entries => uptoBulkEntries entries + 1
  | .held _ => 1
def uptoBulkAll {H : Type} : List (DataW H) → Nat
  | [] => 0
  | d :: r => uptoBulk d + uptoBulkAll r
def uptoBulkEntries {H : Type} : List (Lit × DataW H) → Nat
  | [] => 0
  | x :: r => uptoBulkEntry x + uptoBulkEntries r
def uptoBulkEntry {H : Type} : Lit × DataW H → Nat
  | (.string bytes, d) => bytes.length + uptoBulk d + 1
  | (_, d) => uptoBulk d + 1
 end
def uptoSmall : (H : Type) → List (DataW H) → Bool := fun _ ds => decide (uptoBulkAll ds ≤ 1048576)
def OpenSpec.upto (s : _root_.Go.ChangeSpec) : _root_.Go.OpenSpec := { _root_.Go.OpenSpec.ofChange s with cond := some uptoSmall }

/-- 'lychgatelaw22.BucketLow', WHERE WHAT IT READS IS OF BULK AT MOST 1048576: true; the input reads as it did. -/
def bucketLowUptoRow : OpenClaim := { program := "ytebgcicpokpelaa", sum := "f018a41fb6832fbd2902fd0c84a2ccc7d0a83ddfc7f192f1c0da80f19d8bd6ee", func := "lychgate/lychgatelaw22.BucketLow", spec := "bucketLow", inPlace := ["internal/bytealg.IndexByteString"], unfollowed := true, recurses := true, apart := false, narrowed := true }
def BucketLowUptoSaid : Prop := bucketLowUptoRow.holds Try.pinned (OpenSpec.upto bucketLowSpec)

/-- 'lychgatelaw22.BucketOrder', WHERE WHAT IT READS IS OF BULK AT MOST 1048576: true; the input reads as it did. -/
def bucketOrderUptoRow : OpenClaim := { program := "ytebgcicpokpelaa", sum := "f018a41fb6832fbd2902fd0c84a2ccc7d0a83ddfc7f192f1c0da80f19d8bd6ee", func := "lychgate/lychgatelaw22.BucketOrder", spec := "bucketOrder", inPlace := ["internal/bytealg.IndexByteString"], unfollowed := true, recurses := true, apart := false, narrowed := true }
def BucketOrderUptoSaid : Prop := bucketOrderUptoRow.holds Try.pinned (OpenSpec.upto bucketOrderSpec)

/-- 'lychgatelaw22.BucketOf', WHERE WHAT IT READS IS OF BULK AT MOST 1048576: true; the input reads as it did. -/
def bucketOfUptoRow : OpenClaim := { program := "ytebgcicpokpelaa", sum := "f018a41fb6832fbd2902fd0c84a2ccc7d0a83ddfc7f192f1c0da80f19d8bd6ee", func := "lychgate/lychgatelaw22.BucketOf", spec := "bucketOf", inPlace := ["internal/bytealg.IndexByteString"], unfollowed := true, recurses := true, apart := false, narrowed := true }
def BucketOfUptoSaid : Prop := bucketOfUptoRow.holds Try.pinned (OpenSpec.upto bucketOfSpec)

/-- 'lychgatelaw22.BucketSame', WHERE WHAT IT READS IS OF BULK AT MOST 1048576: true; the input reads as it did. -/
def bucketSameUptoRow : OpenClaim := { program := "ytebgcicpokpelaa", sum := "f018a41fb6832fbd2902fd0c84a2ccc7d0a83ddfc7f192f1c0da80f19d8bd6ee", func := "lychgate/lychgatelaw22.BucketSame", spec := "bucketSame", inPlace := ["internal/bytealg.IndexByteString"], unfollowed := true, recurses := true, apart := false, narrowed := true }
def BucketSameUptoSaid : Prop := bucketSameUptoRow.holds Try.pinned (OpenSpec.upto bucketSameSpec)

/-- 'lychgatelaw22.BucketMore', WHERE WHAT IT READS IS OF BULK AT MOST 1048576: true; the input reads as it did. -/
def bucketMoreUptoRow : OpenClaim := { program := "ytebgcicpokpelaa", sum := "f018a41fb6832fbd2902fd0c84a2ccc7d0a83ddfc7f192f1c0da80f19d8bd6ee", func := "lychgate/lychgatelaw22.BucketMore", spec := "bucketMore", inPlace := ["internal/bytealg.IndexByteString"], unfollowed := true, recurses := true, apart := false, narrowed := true }
def BucketMoreUptoSaid : Prop := bucketMoreUptoRow.holds Try.pinned (OpenSpec.upto bucketMoreSpec)

/-- 'lychgatelaw22.BucketRow', WHERE WHAT IT READS IS OF BULK AT MOST 1048576: true; the input reads as it did. -/
def bucketRowUptoRow : OpenClaim := { program := "ytebgcicpokpelaa", sum := "f018a41fb6832fbd2902fd0c84a2ccc7d0a83ddfc7f192f1c0da80f19d8bd6ee", func := "lychgate/lychgatelaw22.BucketRow", spec := "bucketRow", inPlace := ["internal/bytealg.IndexByteString"], unfollowed := true, recurses := true, apart := false, narrowed := true }
def BucketRowUptoSaid : Prop := bucketRowUptoRow.holds Try.pinned (OpenSpec.upto bucketRowSpec)

end Rows
end Go.Proofs.Ytebgcicpokpelaa
