/-
  No cell of these rows narrows 'for every input' (looked for: loops, veiled, ifaces, maps, wideKeys, modest, calm, conditions, laid).
  DERIVED. THE GIVEN ROWS OF THIS SEAT. 6 by the template 'for every input the law returns true; each argument reads behind the call as it read before'; 0 by the template 'total and deterministic' (their statements: YtipnhpfpppblhaaGreatTotals.lean).
  GIVEN WITH THE SEED: the statements are not yours to turn. If you find one false, say at which input.
  Laid BY PROGRAM, IN A SANDBOX (cutbox-rows.mjs): the forced cells as the released guide's own fill.sh prints them over the translation 70f8fe592f24f5be… (all of the seat's roots in one cut). By AI agents, Wed Nov 11 2026. No macro, syntax, notation, axiom, sorry.
-/
import Derived.Test.YtipnhpfpppblhaaGreatChecked
import GoSem.Claim
import GoSem.ClaimJoined
import GoSem.ClaimMapViews
import Derived.JoinedTies
import Derived.KernelRfl
namespace Go.Proofs.YtipnhpfpppblhaaGreat
/- THE CELL 'sum', in the pinned program and in every row, IS THE sha256 OF THE DUMP (.gsa) THAT YtipnhpfpppblhaaGreatProg.lean LOADS. Nothing in Lean hashes anything: it is a label: what it is worth is what the hold of that sum in a sandbox is worth. -/
noncomputable def Tryz.pinned : Pinned := { name := "ytipnhpfpppblhaagreat", sum := "70f8fe592f24f5be01b8c4a50a219e5dcfa94645c4f0658cf85420adfd3b1f0a", checked := Tryz.checked }
namespace Rows
def none {H : Type} : Left H := { results := [], args := [] }

/-- 'lychgatelaw13.InhibitQuiet': WHATEVER THE INPUT: true; the input reads as it did. -/
def inhibitQuietSpec : ChangeSpec := { name := "inhibitQuiet", fn := fun _ => fun
  | [d1, d2, d3] => { results := [.lit (.bool true)], args := [d1, d2, d3] }
  | _ => none }
def inhibitQuietRow : OpenClaim := { program := "ytipnhpfpppblhaagreat", sum := "70f8fe592f24f5be01b8c4a50a219e5dcfa94645c4f0658cf85420adfd3b1f0a", func := "lychgate/lychgatelaw13.InhibitQuiet", spec := "inhibitQuiet", inPlace := ["internal/bytealg.IndexByteString"], unfollowed := true, recurses := true, apart := false }
def InhibitQuietSaid : Prop := inhibitQuietRow.holds Tryz.pinned (OpenSpec.ofChange inhibitQuietSpec)

/-- ITS FALSE NEIGHBOUR: 'it returns false'. Refute it at one input. -/
def inhibitQuietWrong : ChangeSpec := { name := "inhibitQuiet", fn := fun _ => fun
  | [d1, d2, d3] => { results := [.lit (.bool false)], args := [d1, d2, d3] }
  | _ => none }
def InhibitQuietWrongFalsely : Prop := inhibitQuietRow.holds Tryz.pinned (OpenSpec.ofChange inhibitQuietWrong)

/-- 'lychgatelaw13.InhibitLow': WHATEVER THE INPUT: true; the input reads as it did. -/
def inhibitLowSpec : ChangeSpec := { name := "inhibitLow", fn := fun _ => fun
  | [d1, d2, d3] => { results := [.lit (.bool true)], args := [d1, d2, d3] }
  | _ => none }
def inhibitLowRow : OpenClaim := { program := "ytipnhpfpppblhaagreat", sum := "70f8fe592f24f5be01b8c4a50a219e5dcfa94645c4f0658cf85420adfd3b1f0a", func := "lychgate/lychgatelaw13.InhibitLow", spec := "inhibitLow", inPlace := ["internal/bytealg.IndexByteString"], unfollowed := true, recurses := true, apart := false }
def InhibitLowSaid : Prop := inhibitLowRow.holds Tryz.pinned (OpenSpec.ofChange inhibitLowSpec)

/-- ITS FALSE NEIGHBOUR: 'it returns false'. Refute it at one input. -/
def inhibitLowWrong : ChangeSpec := { name := "inhibitLow", fn := fun _ => fun
  | [d1, d2, d3] => { results := [.lit (.bool false)], args := [d1, d2, d3] }
  | _ => none }
def InhibitLowWrongFalsely : Prop := inhibitLowRow.holds Tryz.pinned (OpenSpec.ofChange inhibitLowWrong)

/-- 'lychgatelaw13.InhibitBits': WHATEVER THE INPUT: true; the input reads as it did. -/
def inhibitBitsSpec : ChangeSpec := { name := "inhibitBits", fn := fun _ => fun
  | [d1, d2, d3] => { results := [.lit (.bool true)], args := [d1, d2, d3] }
  | _ => none }
def inhibitBitsRow : OpenClaim := { program := "ytipnhpfpppblhaagreat", sum := "70f8fe592f24f5be01b8c4a50a219e5dcfa94645c4f0658cf85420adfd3b1f0a", func := "lychgate/lychgatelaw13.InhibitBits", spec := "inhibitBits", inPlace := ["internal/bytealg.IndexByteString"], unfollowed := true, recurses := true, apart := false }
def InhibitBitsSaid : Prop := inhibitBitsRow.holds Tryz.pinned (OpenSpec.ofChange inhibitBitsSpec)

/-- ITS FALSE NEIGHBOUR: 'it returns false'. Refute it at one input. -/
def inhibitBitsWrong : ChangeSpec := { name := "inhibitBits", fn := fun _ => fun
  | [d1, d2, d3] => { results := [.lit (.bool false)], args := [d1, d2, d3] }
  | _ => none }
def InhibitBitsWrongFalsely : Prop := inhibitBitsRow.holds Tryz.pinned (OpenSpec.ofChange inhibitBitsWrong)

/-- 'lychgatelaw13.InhibitMore': WHATEVER THE INPUT: true; the input reads as it did. -/
def inhibitMoreSpec : ChangeSpec := { name := "inhibitMore", fn := fun _ => fun
  | [d1, d2, d3] => { results := [.lit (.bool true)], args := [d1, d2, d3] }
  | _ => none }
def inhibitMoreRow : OpenClaim := { program := "ytipnhpfpppblhaagreat", sum := "70f8fe592f24f5be01b8c4a50a219e5dcfa94645c4f0658cf85420adfd3b1f0a", func := "lychgate/lychgatelaw13.InhibitMore", spec := "inhibitMore", inPlace := ["internal/bytealg.IndexByteString"], unfollowed := true, recurses := true, apart := false }
def InhibitMoreSaid : Prop := inhibitMoreRow.holds Tryz.pinned (OpenSpec.ofChange inhibitMoreSpec)

/-- ITS FALSE NEIGHBOUR: 'it returns false'. Refute it at one input. -/
def inhibitMoreWrong : ChangeSpec := { name := "inhibitMore", fn := fun _ => fun
  | [d1, d2, d3] => { results := [.lit (.bool false)], args := [d1, d2, d3] }
  | _ => none }
def InhibitMoreWrongFalsely : Prop := inhibitMoreRow.holds Tryz.pinned (OpenSpec.ofChange inhibitMoreWrong)

/-- 'lychgatelaw13.InhibitTimes': WHATEVER THE INPUT: true; the input reads as it did. -/
def inhibitTimesSpec : ChangeSpec := { name := "inhibitTimes", fn := fun _ => fun
  | [d1, d2, d3] => { results := [.lit (.bool true)], args := [d1, d2, d3] }
  | _ => none }
def inhibitTimesRow : OpenClaim := { program := "ytipnhpfpppblhaagreat", sum := "70f8fe592f24f5be01b8c4a50a219e5dcfa94645c4f0658cf85420adfd3b1f0a", func := "lychgate/lychgatelaw13.InhibitTimes", spec := "inhibitTimes", inPlace := ["internal/bytealg.IndexByteString"], unfollowed := true, recurses := true, apart := false }
def InhibitTimesSaid : Prop := inhibitTimesRow.holds Tryz.pinned (OpenSpec.ofChange inhibitTimesSpec)

/-- ITS FALSE NEIGHBOUR: 'it returns false'. Refute it at one input. -/
def inhibitTimesWrong : ChangeSpec := { name := "inhibitTimes", fn := fun _ => fun
  | [d1, d2, d3] => { results := [.lit (.bool false)], args := [d1, d2, d3] }
  | _ => none }
def InhibitTimesWrongFalsely : Prop := inhibitTimesRow.holds Tryz.pinned (OpenSpec.ofChange inhibitTimesWrong)

/-- 'lychgatelaw13.InhibitRules': WHATEVER THE INPUT: true; the input reads as it did. -/
def inhibitRulesSpec : ChangeSpec := { name := "inhibitRules", fn := fun _ => fun
  | [d1, d2, d3] => { results := [.lit (.bool true)], args := [d1, d2, d3] }
  | _ => none }
def inhibitRulesRow : OpenClaim := { program := "ytipnhpfpppblhaagreat", sum := "70f8fe592f24f5be01b8c4a50a219e5dcfa94645c4f0658cf85420adfd3b1f0a", func := "lychgate/lychgatelaw13.InhibitRules", spec := "inhibitRules", inPlace := ["internal/bytealg.IndexByteString"], unfollowed := true, recurses := true, apart := false }
def InhibitRulesSaid : Prop := inhibitRulesRow.holds Tryz.pinned (OpenSpec.ofChange inhibitRulesSpec)

/-- ITS FALSE NEIGHBOUR: 'it returns false'. Refute it at one input. -/
def inhibitRulesWrong : ChangeSpec := { name := "inhibitRules", fn := fun _ => fun
  | [d1, d2, d3] => { results := [.lit (.bool false)], args := [d1, d2, d3] }
  | _ => none }
def InhibitRulesWrongFalsely : Prop := inhibitRulesRow.holds Tryz.pinned (OpenSpec.ofChange inhibitRulesWrong)

/- THE SECOND FORM. 'bulk': how many values and letters a reading holds, each counted each time it is reached (what is shared counts as often as it is met; a slice's spare places count too). A statement '..UptoSaid' is the law's where the arguments, and the package variables that the reading takes, are together of bulk at most 1048576: NARROWER than '..Said'. Prove '..Said' where nothing that the law and all that it calls make is longer than what came in: it says more and counts as full. Else prove '..UptoSaid'. A law counts once. -/
mutual
def uptoBulk {H : Type} : DataW H → Nat
  | .lit (.string bytes) => bytes.length + 1
  | .lit _ => 1
  | .nil => 1
  | .ptr d => uptoBulk d + 1
  | .slice elems spare => uptoBulkAll elems + uptoBulkAll spare + 1
  | .agg parts => uptoBulkAll parts + 1
  | .iface _ d => uptoBulk d + 1
  | .map entries => uptoBulkEntries entries + 1
  | .held _ => 1
def uptoBulkAll {H : Type} : List (DataW H) → Nat
  | [] => 0
  | d :: r => uptoBulk d + uptoBulkAll r
def uptoBulkEntries {H : Type} : List (Lit × DataW H) → Nat
  | [] => 0
  | x :: r => uptoBulkEntry x + uptoBulkEntries r
def uptoBulkEntry {H : Type} : Lit × DataW H → Nat
  | (.string bytes, d) => bytes.length + uptoBulk d + 1
  | (_, d) => uptoBulk d + 1
 end
def uptoSmall : (H : Type) → List (DataW H) → Bool := fun _ ds => decide (uptoBulkAll ds ≤ 1048576)
def OpenSpec.upto (s : _root_.Go.ChangeSpec) : _root_.Go.OpenSpec := { _root_.Go.OpenSpec.ofChange s with cond := some uptoSmall }

/-- 'lychgatelaw13.InhibitQuiet', WHERE WHAT IT READS IS OF BULK AT MOST 1048576: true; the input reads as it did. -/
def inhibitQuietUptoRow : OpenClaim := { program := "ytipnhpfpppblhaagreat", sum := "70f8fe592f24f5be01b8c4a50a219e5dcfa94645c4f0658cf85420adfd3b1f0a", func := "lychgate/lychgatelaw13.InhibitQuiet", spec := "inhibitQuiet", inPlace := ["internal/bytealg.IndexByteString"], unfollowed := true, recurses := true, apart := false, narrowed := true }
def InhibitQuietUptoSaid : Prop := inhibitQuietUptoRow.holds Tryz.pinned (OpenSpec.upto inhibitQuietSpec)

/-- 'lychgatelaw13.InhibitLow', WHERE WHAT IT READS IS OF BULK AT MOST 1048576: true; the input reads as it did. -/
def inhibitLowUptoRow : OpenClaim := { program := "ytipnhpfpppblhaagreat", sum := "70f8fe592f24f5be01b8c4a50a219e5dcfa94645c4f0658cf85420adfd3b1f0a", func := "lychgate/lychgatelaw13.InhibitLow", spec := "inhibitLow", inPlace := ["internal/bytealg.IndexByteString"], unfollowed := true, recurses := true, apart := false, narrowed := true }
def InhibitLowUptoSaid : Prop := inhibitLowUptoRow.holds Tryz.pinned (OpenSpec.upto inhibitLowSpec)

/-- 'lychgatelaw13.InhibitBits', WHERE WHAT IT READS IS OF BULK AT MOST 1048576: true; the input reads as it did. -/
def inhibitBitsUptoRow : OpenClaim := { program := "ytipnhpfpppblhaagreat", sum := "70f8fe592f24f5be01b8c4a50a219e5dcfa94645c4f0658cf85420adfd3b1f0a", func := "lychgate/lychgatelaw13.InhibitBits", spec := "inhibitBits", inPlace := ["internal/bytealg.IndexByteString"], unfollowed := true, recurses := true, apart := false, narrowed := true }
def InhibitBitsUptoSaid : Prop := inhibitBitsUptoRow.holds Tryz.pinned (OpenSpec.upto inhibitBitsSpec)

/-- 'lychgatelaw13.InhibitMore', WHERE WHAT IT READS IS OF BULK AT MOST 1048576: true; the input reads as it did. -/
def inhibitMoreUptoRow : OpenClaim := { program := "ytipnhpfpppblhaagreat", sum := "70f8fe592f24f5be01b8c4a50a219e5dcfa94645c4f0658cf85420adfd3b1f0a", func := "lychgate/lychgatelaw13.InhibitMore", spec := "inhibitMore", inPlace := ["internal/bytealg.IndexByteString"], unfollowed := true, recurses := true, apart := false, narrowed := true }
def InhibitMoreUptoSaid : Prop := inhibitMoreUptoRow.holds Tryz.pinned (OpenSpec.upto inhibitMoreSpec)

/-- 'lychgatelaw13.InhibitTimes', WHERE WHAT IT READS IS OF BULK AT MOST 1048576: true; the input reads as it did. -/
def inhibitTimesUptoRow : OpenClaim := { program := "ytipnhpfpppblhaagreat", sum := "70f8fe592f24f5be01b8c4a50a219e5dcfa94645c4f0658cf85420adfd3b1f0a", func := "lychgate/lychgatelaw13.InhibitTimes", spec := "inhibitTimes", inPlace := ["internal/bytealg.IndexByteString"], unfollowed := true, recurses := true, apart := false, narrowed := true }
def InhibitTimesUptoSaid : Prop := inhibitTimesUptoRow.holds Tryz.pinned (OpenSpec.upto inhibitTimesSpec)

/-- 'lychgatelaw13.InhibitRules', WHERE WHAT IT READS IS OF BULK AT MOST 1048576: true; the input reads as it did. -/
def inhibitRulesUptoRow : OpenClaim := { program := "ytipnhpfpppblhaagreat", sum := "70f8fe592f24f5be01b8c4a50a219e5dcfa94645c4f0658cf85420adfd3b1f0a", func := "lychgate/lychgatelaw13.InhibitRules", spec := "inhibitRules", inPlace := ["internal/bytealg.IndexByteString"], unfollowed := true, recurses := true, apart := false, narrowed := true }
def InhibitRulesUptoSaid : Prop := inhibitRulesUptoRow.holds Tryz.pinned (OpenSpec.upto inhibitRulesSpec)

end Rows
end Go.Proofs.YtipnhpfpppblhaaGreat
