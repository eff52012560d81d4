/-
  No cell of these rows narrows 'for every input' (looked for: loops, veiled, ifaces, maps, wideKeys, modest, calm, conditions, laid).
  DERIVED. THE GIVEN ROWS OF THIS SEAT. 8 by the template 'for every input the law returns true; each argument reads behind the call as it read before'; 0 by the template 'total and deterministic' (their statements: YtnmgfmmjdiephaaTotals.lean).
  GIVEN WITH THE SEED: the statements are not yours to turn. If you find one false, say at which input.
  Laid BY PROGRAM, IN A SANDBOX (cutbox-rows.mjs): the forced cells as the released guide's own fill.sh prints them over the translation a3d94f64ab9eda42… (all of the seat's roots in one cut). By AI agents, Wed Nov 11 2026. No macro, syntax, notation, axiom, sorry.
-/
import Derived.Test.YtnmgfmmjdiephaaChecked
import GoSem.Claim
import GoSem.ClaimJoined
import GoSem.ClaimMapViews
import Derived.JoinedTies
import Derived.KernelRfl
namespace Go.Proofs.Ytnmgfmmjdiephaa
/- THE CELL 'sum', in the pinned program and in every row, IS THE sha256 OF THE DUMP (.gsa) THAT YtnmgfmmjdiephaaProg.lean LOADS. Nothing in Lean hashes anything: it is a label: what it is worth is what the hold of that sum in a sandbox is worth. -/
noncomputable def Try.pinned : Pinned := { name := "ytnmgfmmjdiephaa", sum := "a3d94f64ab9eda42b631377b2cc4f980444e958ef65a280ad4a48c00bbf65304", checked := Try.checked }
namespace Rows
def none {H : Type} : Left H := { results := [], args := [] }

/-- 'lychgatelaw09.AlertCuts': WHATEVER THE INPUT: true; the input reads as it did. -/
def alertCutsSpec : ChangeSpec := { name := "alertCuts", fn := fun _ => fun
  | [d1, d2, d3] => { results := [.lit (.bool true)], args := [d1, d2, d3] }
  | _ => none }
def alertCutsRow : OpenClaim := { program := "ytnmgfmmjdiephaa", sum := "a3d94f64ab9eda42b631377b2cc4f980444e958ef65a280ad4a48c00bbf65304", func := "lychgate/lychgatelaw09.AlertCuts", spec := "alertCuts", unfollowed := true, recurses := true, plainKeys := false, apart := false }
def AlertCutsSaid : Prop := alertCutsRow.holds Try.pinned (OpenSpec.ofChange alertCutsSpec)

/-- ITS FALSE NEIGHBOUR: 'it returns false'. Refute it at one input. -/
def alertCutsWrong : ChangeSpec := { name := "alertCuts", fn := fun _ => fun
  | [d1, d2, d3] => { results := [.lit (.bool false)], args := [d1, d2, d3] }
  | _ => none }
def AlertCutsWrongFalsely : Prop := alertCutsRow.holds Try.pinned (OpenSpec.ofChange alertCutsWrong)

/-- 'lychgatelaw09.AlertApart': WHATEVER THE INPUT: true; the input reads as it did. -/
def alertApartSpec : ChangeSpec := { name := "alertApart", fn := fun _ => fun
  | [d1, d2] => { results := [.lit (.bool true)], args := [d1, d2] }
  | _ => none }
def alertApartRow : OpenClaim := { program := "ytnmgfmmjdiephaa", sum := "a3d94f64ab9eda42b631377b2cc4f980444e958ef65a280ad4a48c00bbf65304", func := "lychgate/lychgatelaw09.AlertApart", spec := "alertApart", unfollowed := true, recurses := true, plainKeys := false, apart := false }
def AlertApartSaid : Prop := alertApartRow.holds Try.pinned (OpenSpec.ofChange alertApartSpec)

/-- ITS FALSE NEIGHBOUR: 'it returns false'. Refute it at one input. -/
def alertApartWrong : ChangeSpec := { name := "alertApart", fn := fun _ => fun
  | [d1, d2] => { results := [.lit (.bool false)], args := [d1, d2] }
  | _ => none }
def AlertApartWrongFalsely : Prop := alertApartRow.holds Try.pinned (OpenSpec.ofChange alertApartWrong)

/-- 'lychgatelaw09.AlertTimes': WHATEVER THE INPUT: true; the input reads as it did. -/
def alertTimesSpec : ChangeSpec := { name := "alertTimes", fn := fun _ => fun
  | [d1, d2] => { results := [.lit (.bool true)], args := [d1, d2] }
  | _ => none }
def alertTimesRow : OpenClaim := { program := "ytnmgfmmjdiephaa", sum := "a3d94f64ab9eda42b631377b2cc4f980444e958ef65a280ad4a48c00bbf65304", func := "lychgate/lychgatelaw09.AlertTimes", spec := "alertTimes", unfollowed := true, recurses := true, plainKeys := false, apart := false }
def AlertTimesSaid : Prop := alertTimesRow.holds Try.pinned (OpenSpec.ofChange alertTimesSpec)

/-- ITS FALSE NEIGHBOUR: 'it returns false'. Refute it at one input. -/
def alertTimesWrong : ChangeSpec := { name := "alertTimes", fn := fun _ => fun
  | [d1, d2] => { results := [.lit (.bool false)], args := [d1, d2] }
  | _ => none }
def AlertTimesWrongFalsely : Prop := alertTimesRow.holds Try.pinned (OpenSpec.ofChange alertTimesWrong)

/-- 'lychgatelaw09.AlertSees': WHATEVER THE INPUT: true; the input reads as it did. -/
def alertSeesSpec : ChangeSpec := { name := "alertSees", fn := fun _ => fun
  | [d1, d2, d3] => { results := [.lit (.bool true)], args := [d1, d2, d3] }
  | _ => none }
def alertSeesRow : OpenClaim := { program := "ytnmgfmmjdiephaa", sum := "a3d94f64ab9eda42b631377b2cc4f980444e958ef65a280ad4a48c00bbf65304", func := "lychgate/lychgatelaw09.AlertSees", spec := "alertSees", unfollowed := true, recurses := true, plainKeys := false, apart := false }
def AlertSeesSaid : Prop := alertSeesRow.holds Try.pinned (OpenSpec.ofChange alertSeesSpec)

/-- ITS FALSE NEIGHBOUR: 'it returns false'. Refute it at one input. -/
def alertSeesWrong : ChangeSpec := { name := "alertSees", fn := fun _ => fun
  | [d1, d2, d3] => { results := [.lit (.bool false)], args := [d1, d2, d3] }
  | _ => none }
def AlertSeesWrongFalsely : Prop := alertSeesRow.holds Try.pinned (OpenSpec.ofChange alertSeesWrong)

/-- 'lychgatelaw09.AlertIds': WHATEVER THE INPUT: true; the input reads as it did. -/
def alertIdsSpec : ChangeSpec := { name := "alertIds", fn := fun _ => fun
  | [d1, d2, d3] => { results := [.lit (.bool true)], args := [d1, d2, d3] }
  | _ => none }
def alertIdsRow : OpenClaim := { program := "ytnmgfmmjdiephaa", sum := "a3d94f64ab9eda42b631377b2cc4f980444e958ef65a280ad4a48c00bbf65304", func := "lychgate/lychgatelaw09.AlertIds", spec := "alertIds", unfollowed := true, recurses := true, plainKeys := false, apart := false }
def AlertIdsSaid : Prop := alertIdsRow.holds Try.pinned (OpenSpec.ofChange alertIdsSpec)

/-- ITS FALSE NEIGHBOUR: 'it returns false'. Refute it at one input. -/
def alertIdsWrong : ChangeSpec := { name := "alertIds", fn := fun _ => fun
  | [d1, d2, d3] => { results := [.lit (.bool false)], args := [d1, d2, d3] }
  | _ => none }
def AlertIdsWrongFalsely : Prop := alertIdsRow.holds Try.pinned (OpenSpec.ofChange alertIdsWrong)

/-- 'lychgatelaw09.AlertNone': WHATEVER THE INPUT: true; the input reads as it did. -/
def alertNoneSpec : ChangeSpec := { name := "alertNone", fn := fun _ => fun
  | [d1, d2] => { results := [.lit (.bool true)], args := [d1, d2] }
  | _ => none }
def alertNoneRow : OpenClaim := { program := "ytnmgfmmjdiephaa", sum := "a3d94f64ab9eda42b631377b2cc4f980444e958ef65a280ad4a48c00bbf65304", func := "lychgate/lychgatelaw09.AlertNone", spec := "alertNone", unfollowed := true, recurses := true, plainKeys := false, apart := false }
def AlertNoneSaid : Prop := alertNoneRow.holds Try.pinned (OpenSpec.ofChange alertNoneSpec)

/-- ITS FALSE NEIGHBOUR: 'it returns false'. Refute it at one input. -/
def alertNoneWrong : ChangeSpec := { name := "alertNone", fn := fun _ => fun
  | [d1, d2] => { results := [.lit (.bool false)], args := [d1, d2] }
  | _ => none }
def AlertNoneWrongFalsely : Prop := alertNoneRow.holds Try.pinned (OpenSpec.ofChange alertNoneWrong)

/-- 'lychgatelaw09.AlertIs': WHATEVER THE INPUT: true; the input reads as it did. -/
def alertIsSpec : ChangeSpec := { name := "alertIs", fn := fun _ => fun
  | [d1, d2, d3] => { results := [.lit (.bool true)], args := [d1, d2, d3] }
  | _ => none }
def alertIsRow : OpenClaim := { program := "ytnmgfmmjdiephaa", sum := "a3d94f64ab9eda42b631377b2cc4f980444e958ef65a280ad4a48c00bbf65304", func := "lychgate/lychgatelaw09.AlertIs", spec := "alertIs", unfollowed := true, recurses := true, plainKeys := false, apart := false }
def AlertIsSaid : Prop := alertIsRow.holds Try.pinned (OpenSpec.ofChange alertIsSpec)

/-- ITS FALSE NEIGHBOUR: 'it returns false'. Refute it at one input. -/
def alertIsWrong : ChangeSpec := { name := "alertIs", fn := fun _ => fun
  | [d1, d2, d3] => { results := [.lit (.bool false)], args := [d1, d2, d3] }
  | _ => none }
def AlertIsWrongFalsely : Prop := alertIsRow.holds Try.pinned (OpenSpec.ofChange alertIsWrong)

/-- 'lychgatelaw09.AlertMerges': WHATEVER THE INPUT: true; the input reads as it did. -/
def alertMergesSpec : ChangeSpec := { name := "alertMerges", fn := fun _ => fun
  | [d1, d2, d3] => { results := [.lit (.bool true)], args := [d1, d2, d3] }
  | _ => none }
def alertMergesRow : OpenClaim := { program := "ytnmgfmmjdiephaa", sum := "a3d94f64ab9eda42b631377b2cc4f980444e958ef65a280ad4a48c00bbf65304", func := "lychgate/lychgatelaw09.AlertMerges", spec := "alertMerges", unfollowed := true, recurses := true, plainKeys := false, apart := false }
def AlertMergesSaid : Prop := alertMergesRow.holds Try.pinned (OpenSpec.ofChange alertMergesSpec)

/-- ITS FALSE NEIGHBOUR: 'it returns false'. Refute it at one input. -/
def alertMergesWrong : ChangeSpec := { name := "alertMerges", fn := fun _ => fun
  | [d1, d2, d3] => { results := [.lit (.bool false)], args := [d1, d2, d3] }
  | _ => none }
def AlertMergesWrongFalsely : Prop := alertMergesRow.holds Try.pinned (OpenSpec.ofChange alertMergesWrong)

/- THE SECOND FORM. 'bulk': how many values and letters a reading holds, each counted each time it is reached (what is shared counts as often as it is met; a slice's spare places count too). A statement '..UptoSaid' is the law's where the arguments, and the package variables that the reading takes, are together of bulk at most 1048576: NARROWER than '..Said'. Prove '..Said' where nothing that the law and all that it calls make is longer than what came in: it says more and counts as full. Else prove '..UptoSaid'. A law counts once. -/
mutual
def uptoBulk {H : Type} : DataW H → Nat
  | .lit (.string bytes) => bytes.length + 1
  | .lit _ => 1
  | .nil => 1
  | .ptr d => uptoBulk d + 1
  | .slice elems spare => uptoBulkAll elems + uptoBulkAll spare + 1
  | .agg parts => uptoBulkAll parts + 1
  | .iface _ d => uptoBulk d + 1
  | .map entries => uptoBulkEntries entries + 1
  | .held _ => 1
def uptoBulkAll {H : Type} : List (DataW H) → Nat
  | [] => 0
  | d :: r => uptoBulk d + uptoBulkAll r
def uptoBulkEntries {H : Type} : List (Lit × DataW H) → Nat
  | [] => 0
  | x :: r => uptoBulkEntry x + uptoBulkEntries r
def uptoBulkEntry {H : Type} : Lit × DataW H → Nat
  | (.string bytes, d) => bytes.length + uptoBulk d + 1
  | (_, d) => uptoBulk d + 1
 end
def uptoSmall : (H : Type) → List (DataW H) → Bool := fun _ ds => decide (uptoBulkAll ds ≤ 1048576)
def OpenSpec.upto (s : _root_.Go.ChangeSpec) : _root_.Go.OpenSpec := { _root_.Go.OpenSpec.ofChange s with cond := some uptoSmall }

/-- 'lychgatelaw09.AlertCuts', WHERE WHAT IT READS IS OF BULK AT MOST 1048576: true; the input reads as it did. -/
def alertCutsUptoRow : OpenClaim := { program := "ytnmgfmmjdiephaa", sum := "a3d94f64ab9eda42b631377b2cc4f980444e958ef65a280ad4a48c00bbf65304", func := "lychgate/lychgatelaw09.AlertCuts", spec := "alertCuts", unfollowed := true, recurses := true, plainKeys := false, apart := false, narrowed := true }
def AlertCutsUptoSaid : Prop := alertCutsUptoRow.holds Try.pinned (OpenSpec.upto alertCutsSpec)

/-- 'lychgatelaw09.AlertApart', WHERE WHAT IT READS IS OF BULK AT MOST 1048576: true; the input reads as it did. -/
def alertApartUptoRow : OpenClaim := { program := "ytnmgfmmjdiephaa", sum := "a3d94f64ab9eda42b631377b2cc4f980444e958ef65a280ad4a48c00bbf65304", func := "lychgate/lychgatelaw09.AlertApart", spec := "alertApart", unfollowed := true, recurses := true, plainKeys := false, apart := false, narrowed := true }
def AlertApartUptoSaid : Prop := alertApartUptoRow.holds Try.pinned (OpenSpec.upto alertApartSpec)

/-- 'lychgatelaw09.AlertTimes', WHERE WHAT IT READS IS OF BULK AT MOST 1048576: true; the input reads as it did. -/
def alertTimesUptoRow : OpenClaim := { program := "ytnmgfmmjdiephaa", sum := "a3d94f64ab9eda42b631377b2cc4f980444e958ef65a280ad4a48c00bbf65304", func := "lychgate/lychgatelaw09.AlertTimes", spec := "alertTimes", unfollowed := true, recurses := true, plainKeys := false, apart := false, narrowed := true }
def AlertTimesUptoSaid : Prop := alertTimesUptoRow.holds Try.pinned (OpenSpec.upto alertTimesSpec)

/-- 'lychgatelaw09.AlertSees', WHERE WHAT IT READS IS OF BULK AT MOST 1048576: true; the input reads as it did. -/
def alertSeesUptoRow : OpenClaim := { program := "ytnmgfmmjdiephaa", sum := "a3d94f64ab9eda42b631377b2cc4f980444e958ef65a280ad4a48c00bbf65304", func := "lychgate/lychgatelaw09.AlertSees", spec := "alertSees", unfollowed := true, recurses := true, plainKeys := false, apart := false, narrowed := true }
def AlertSeesUptoSaid : Prop := alertSeesUptoRow.holds Try.pinned (OpenSpec.upto alertSeesSpec)

/-- 'lychgatelaw09.AlertIds', WHERE WHAT IT READS IS OF BULK AT MOST 1048576: true; the input reads as it did. -/
def alertIdsUptoRow : OpenClaim := { program := "ytnmgfmmjdiephaa", sum := "a3d94f64ab9eda42b631377b2cc4f980444e958ef65a280ad4a48c00bbf65304", func := "lychgate/lychgatelaw09.AlertIds", spec := "alertIds", unfollowed := true, recurses := true, plainKeys := false, apart := false, narrowed := true }
def AlertIdsUptoSaid : Prop := alertIdsUptoRow.holds Try.pinned (OpenSpec.upto alertIdsSpec)

/-- 'lychgatelaw09.AlertNone', WHERE WHAT IT READS IS OF BULK AT MOST 1048576: true; the input reads as it did. -/
def alertNoneUptoRow : OpenClaim := { program := "ytnmgfmmjdiephaa", sum := "a3d94f64ab9eda42b631377b2cc4f980444e958ef65a280ad4a48c00bbf65304", func := "lychgate/lychgatelaw09.AlertNone", spec := "alertNone", unfollowed := true, recurses := true, plainKeys := false, apart := false, narrowed := true }
def AlertNoneUptoSaid : Prop := alertNoneUptoRow.holds Try.pinned (OpenSpec.upto alertNoneSpec)

/-- 'lychgatelaw09.AlertIs', WHERE WHAT IT READS IS OF BULK AT MOST 1048576: true; the input reads as it did. -/
def alertIsUptoRow : OpenClaim := { program := "ytnmgfmmjdiephaa", sum := "a3d94f64ab9eda42b631377b2cc4f980444e958ef65a280ad4a48c00bbf65304", func := "lychgate/lychgatelaw09.AlertIs", spec := "alertIs", unfollowed := true, recurses := true, plainKeys := false, apart := false, narrowed := true }
def AlertIsUptoSaid : Prop := alertIsUptoRow.holds Try.pinned (OpenSpec.upto alertIsSpec)

/-- 'lychgatelaw09.AlertMerges', WHERE WHAT IT READS IS OF BULK AT MOST 1048576: true; the input reads as it did. -/
def alertMergesUptoRow : OpenClaim := { program := "ytnmgfmmjdiephaa", sum := "a3d94f64ab9eda42b631377b2cc4f980444e958ef65a280ad4a48c00bbf65304", func := "lychgate/lychgatelaw09.AlertMerges", spec := "alertMerges", unfollowed := true, recurses := true, plainKeys := false, apart := false, narrowed := true }
def AlertMergesUptoSaid : Prop := alertMergesUptoRow.holds Try.pinned (OpenSpec.upto alertMergesSpec)

end Rows
end Go.Proofs.Ytnmgfmmjdiephaa
