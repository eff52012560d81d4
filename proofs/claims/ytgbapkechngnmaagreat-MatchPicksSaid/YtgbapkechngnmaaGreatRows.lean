/-
  No cell of these rows narrows 'for every input' (looked for: loops, veiled, ifaces, maps, wideKeys, modest, calm, conditions, laid).
  DERIVED. THE GIVEN ROWS OF THIS SEAT. 8 by the template 'for every input the law returns true; each argument reads behind the call as it read before'; 0 by the template 'total and deterministic' (their statements: YtgbapkechngnmaaGreatTotals.lean).
  GIVEN WITH THE SEED: the statements are not yours to turn. If you find one false, say at which input.
  Laid BY PROGRAM, IN A SANDBOX (cutbox-rows.mjs): the forced cells as the released guide's own fill.sh prints them over the translation 8ac0caa48146cfa3… (all of the seat's roots in one cut). By AI agents, Wed Nov 11 2026. No macro, syntax, notation, axiom, sorry.
-/
import Derived.Test.YtgbapkechngnmaaGreatChecked
import GoSem.Claim
import GoSem.ClaimJoined
import GoSem.ClaimMapViews
import Derived.JoinedTies
import Derived.KernelRfl
namespace Go.Proofs.YtgbapkechngnmaaGreat
/- THE CELL 'sum', in the pinned program and in every row, IS THE sha256 OF THE DUMP (.gsa) THAT YtgbapkechngnmaaGreatProg.lean LOADS. Nothing in Lean hashes anything: it is a label: what it is worth is what the hold of that sum in a sandbox is worth. -/
noncomputable def Tryz.pinned : Pinned := { name := "ytgbapkechngnmaagreat", sum := "8ac0caa48146cfa3c30416ceb4bb4d85bc2fe2a031011b89442f53c87f3c82ad", checked := Tryz.checked }
namespace Rows
def none {H : Type} : Left H := { results := [], args := [] }

/-- 'lychgatelaw06.MatchFits': WHATEVER THE INPUT: true; the input reads as it did. -/
def matchFitsSpec : ChangeSpec := { name := "matchFits", fn := fun _ => fun
  | [d1, d2] => { results := [.lit (.bool true)], args := [d1, d2] }
  | _ => none }
def matchFitsRow : OpenClaim := { program := "ytgbapkechngnmaagreat", sum := "8ac0caa48146cfa3c30416ceb4bb4d85bc2fe2a031011b89442f53c87f3c82ad", func := "lychgate/lychgatelaw06.MatchFits", spec := "matchFits", inPlace := ["internal/bytealg.IndexByteString", "internal/bytealg.IndexString", "internal/abi.NoEscape", "sync/atomic.LoadUint32", "(*internal/sync.Mutex).Lock", "internal/race.Disable", "sync/atomic.CompareAndSwapInt32", "internal/race.Enable", "internal/race.Acquire", "(*internal/sync.Mutex).lockSlow", "internal/sync.runtime_canSpin", "internal/sync.runtime_doSpin", "internal/sync.throw", "internal/sync.runtime_nanotime", "internal/sync.runtime_SemacquireMutex", "sync/atomic.AddInt32", "(*internal/sync.Mutex).Unlock", "internal/race.ReleaseMerge", "(*internal/sync.Mutex).unlockSlow", "internal/sync.fatal", "internal/sync.runtime_Semrelease", "sync/atomic.StoreUint32", "internal/bytealg.MakeNoZero"], unfollowed := true, recurses := true, named := ["internal/bytealg.MaxLen"], apart := false }
def MatchFitsSaid : Prop := matchFitsRow.holds Tryz.pinned (OpenSpec.ofChange matchFitsSpec)

/-- ITS FALSE NEIGHBOUR: 'it returns false'. Refute it at one input. -/
def matchFitsWrong : ChangeSpec := { name := "matchFits", fn := fun _ => fun
  | [d1, d2] => { results := [.lit (.bool false)], args := [d1, d2] }
  | _ => none }
def MatchFitsWrongFalsely : Prop := matchFitsRow.holds Tryz.pinned (OpenSpec.ofChange matchFitsWrong)

/-- 'lychgatelaw06.MatchBack': WHATEVER THE INPUT: true; the input reads as it did. -/
def matchBackSpec : ChangeSpec := { name := "matchBack", fn := fun _ => fun
  | [d1, d2] => { results := [.lit (.bool true)], args := [d1, d2] }
  | _ => none }
def matchBackRow : OpenClaim := { program := "ytgbapkechngnmaagreat", sum := "8ac0caa48146cfa3c30416ceb4bb4d85bc2fe2a031011b89442f53c87f3c82ad", func := "lychgate/lychgatelaw06.MatchBack", spec := "matchBack", inPlace := ["internal/bytealg.IndexByteString", "internal/bytealg.IndexString", "internal/abi.NoEscape", "sync/atomic.LoadUint32", "(*internal/sync.Mutex).Lock", "internal/race.Disable", "sync/atomic.CompareAndSwapInt32", "internal/race.Enable", "internal/race.Acquire", "(*internal/sync.Mutex).lockSlow", "internal/sync.runtime_canSpin", "internal/sync.runtime_doSpin", "internal/sync.throw", "internal/sync.runtime_nanotime", "internal/sync.runtime_SemacquireMutex", "sync/atomic.AddInt32", "(*internal/sync.Mutex).Unlock", "internal/race.ReleaseMerge", "(*internal/sync.Mutex).unlockSlow", "internal/sync.fatal", "internal/sync.runtime_Semrelease", "sync/atomic.StoreUint32", "internal/bytealg.MakeNoZero"], unfollowed := true, recurses := true, named := ["internal/bytealg.MaxLen"], apart := false }
def MatchBackSaid : Prop := matchBackRow.holds Tryz.pinned (OpenSpec.ofChange matchBackSpec)

/-- ITS FALSE NEIGHBOUR: 'it returns false'. Refute it at one input. -/
def matchBackWrong : ChangeSpec := { name := "matchBack", fn := fun _ => fun
  | [d1, d2] => { results := [.lit (.bool false)], args := [d1, d2] }
  | _ => none }
def MatchBackWrongFalsely : Prop := matchBackRow.holds Tryz.pinned (OpenSpec.ofChange matchBackWrong)

/-- 'lychgatelaw06.MatchTurns': WHATEVER THE INPUT: true; the input reads as it did. -/
def matchTurnsSpec : ChangeSpec := { name := "matchTurns", fn := fun _ => fun
  | [d1, d2] => { results := [.lit (.bool true)], args := [d1, d2] }
  | _ => none }
def matchTurnsRow : OpenClaim := { program := "ytgbapkechngnmaagreat", sum := "8ac0caa48146cfa3c30416ceb4bb4d85bc2fe2a031011b89442f53c87f3c82ad", func := "lychgate/lychgatelaw06.MatchTurns", spec := "matchTurns", inPlace := ["internal/bytealg.IndexByteString", "internal/bytealg.IndexString", "internal/abi.NoEscape", "sync/atomic.LoadUint32", "(*internal/sync.Mutex).Lock", "internal/race.Disable", "sync/atomic.CompareAndSwapInt32", "internal/race.Enable", "internal/race.Acquire", "(*internal/sync.Mutex).lockSlow", "internal/sync.runtime_canSpin", "internal/sync.runtime_doSpin", "internal/sync.throw", "internal/sync.runtime_nanotime", "internal/sync.runtime_SemacquireMutex", "sync/atomic.AddInt32", "(*internal/sync.Mutex).Unlock", "internal/race.ReleaseMerge", "(*internal/sync.Mutex).unlockSlow", "internal/sync.fatal", "internal/sync.runtime_Semrelease", "sync/atomic.StoreUint32", "internal/bytealg.MakeNoZero"], unfollowed := true, recurses := true, named := ["internal/bytealg.MaxLen"], apart := false }
def MatchTurnsSaid : Prop := matchTurnsRow.holds Tryz.pinned (OpenSpec.ofChange matchTurnsSpec)

/-- ITS FALSE NEIGHBOUR: 'it returns false'. Refute it at one input. -/
def matchTurnsWrong : ChangeSpec := { name := "matchTurns", fn := fun _ => fun
  | [d1, d2] => { results := [.lit (.bool false)], args := [d1, d2] }
  | _ => none }
def MatchTurnsWrongFalsely : Prop := matchTurnsRow.holds Tryz.pinned (OpenSpec.ofChange matchTurnsWrong)

/-- 'lychgatelaw06.MatchAlls': WHATEVER THE INPUT: true; the input reads as it did. -/
def matchAllsSpec : ChangeSpec := { name := "matchAlls", fn := fun _ => fun
  | [d1, d2, d3] => { results := [.lit (.bool true)], args := [d1, d2, d3] }
  | _ => none }
def matchAllsRow : OpenClaim := { program := "ytgbapkechngnmaagreat", sum := "8ac0caa48146cfa3c30416ceb4bb4d85bc2fe2a031011b89442f53c87f3c82ad", func := "lychgate/lychgatelaw06.MatchAlls", spec := "matchAlls", inPlace := ["internal/bytealg.IndexByteString", "internal/bytealg.IndexString", "internal/abi.NoEscape", "sync/atomic.LoadUint32", "(*internal/sync.Mutex).Lock", "internal/race.Disable", "sync/atomic.CompareAndSwapInt32", "internal/race.Enable", "internal/race.Acquire", "(*internal/sync.Mutex).lockSlow", "internal/sync.runtime_canSpin", "internal/sync.runtime_doSpin", "internal/sync.throw", "internal/sync.runtime_nanotime", "internal/sync.runtime_SemacquireMutex", "sync/atomic.AddInt32", "(*internal/sync.Mutex).Unlock", "internal/race.ReleaseMerge", "(*internal/sync.Mutex).unlockSlow", "internal/sync.fatal", "internal/sync.runtime_Semrelease", "sync/atomic.StoreUint32", "internal/bytealg.MakeNoZero"], unfollowed := true, recurses := true, named := ["internal/bytealg.MaxLen"], apart := false }
def MatchAllsSaid : Prop := matchAllsRow.holds Tryz.pinned (OpenSpec.ofChange matchAllsSpec)

/-- ITS FALSE NEIGHBOUR: 'it returns false'. Refute it at one input. -/
def matchAllsWrong : ChangeSpec := { name := "matchAlls", fn := fun _ => fun
  | [d1, d2, d3] => { results := [.lit (.bool false)], args := [d1, d2, d3] }
  | _ => none }
def MatchAllsWrongFalsely : Prop := matchAllsRow.holds Tryz.pinned (OpenSpec.ofChange matchAllsWrong)

/-- 'lychgatelaw06.MatchNames': WHATEVER THE INPUT: true; the input reads as it did. -/
def matchNamesSpec : ChangeSpec := { name := "matchNames", fn := fun _ => fun
  | [d1, d2] => { results := [.lit (.bool true)], args := [d1, d2] }
  | _ => none }
def matchNamesRow : OpenClaim := { program := "ytgbapkechngnmaagreat", sum := "8ac0caa48146cfa3c30416ceb4bb4d85bc2fe2a031011b89442f53c87f3c82ad", func := "lychgate/lychgatelaw06.MatchNames", spec := "matchNames", inPlace := ["internal/bytealg.IndexByteString", "internal/bytealg.IndexString", "internal/abi.NoEscape", "sync/atomic.LoadUint32", "(*internal/sync.Mutex).Lock", "internal/race.Disable", "sync/atomic.CompareAndSwapInt32", "internal/race.Enable", "internal/race.Acquire", "(*internal/sync.Mutex).lockSlow", "internal/sync.runtime_canSpin", "internal/sync.runtime_doSpin", "internal/sync.throw", "internal/sync.runtime_nanotime", "internal/sync.runtime_SemacquireMutex", "sync/atomic.AddInt32", "(*internal/sync.Mutex).Unlock", "internal/race.ReleaseMerge", "(*internal/sync.Mutex).unlockSlow", "internal/sync.fatal", "internal/sync.runtime_Semrelease", "sync/atomic.StoreUint32", "internal/bytealg.MakeNoZero"], unfollowed := true, recurses := true, named := ["internal/bytealg.MaxLen"], apart := false }
def MatchNamesSaid : Prop := matchNamesRow.holds Tryz.pinned (OpenSpec.ofChange matchNamesSpec)

/-- ITS FALSE NEIGHBOUR: 'it returns false'. Refute it at one input. -/
def matchNamesWrong : ChangeSpec := { name := "matchNames", fn := fun _ => fun
  | [d1, d2] => { results := [.lit (.bool false)], args := [d1, d2] }
  | _ => none }
def MatchNamesWrongFalsely : Prop := matchNamesRow.holds Tryz.pinned (OpenSpec.ofChange matchNamesWrong)

/-- 'lychgatelaw06.MatchTexts': WHATEVER THE INPUT: true; the input reads as it did. -/
def matchTextsSpec : ChangeSpec := { name := "matchTexts", fn := fun _ => fun
  | [d1, d2, d3] => { results := [.lit (.bool true)], args := [d1, d2, d3] }
  | _ => none }
def matchTextsRow : OpenClaim := { program := "ytgbapkechngnmaagreat", sum := "8ac0caa48146cfa3c30416ceb4bb4d85bc2fe2a031011b89442f53c87f3c82ad", func := "lychgate/lychgatelaw06.MatchTexts", spec := "matchTexts", inPlace := ["internal/bytealg.IndexByteString", "internal/bytealg.IndexString", "internal/abi.NoEscape", "sync/atomic.LoadUint32", "(*internal/sync.Mutex).Lock", "internal/race.Disable", "sync/atomic.CompareAndSwapInt32", "internal/race.Enable", "internal/race.Acquire", "(*internal/sync.Mutex).lockSlow", "internal/sync.runtime_canSpin", "internal/sync.runtime_doSpin", "internal/sync.throw", "internal/sync.runtime_nanotime", "internal/sync.runtime_SemacquireMutex", "sync/atomic.AddInt32", "(*internal/sync.Mutex).Unlock", "internal/race.ReleaseMerge", "(*internal/sync.Mutex).unlockSlow", "internal/sync.fatal", "internal/sync.runtime_Semrelease", "sync/atomic.StoreUint32", "internal/bytealg.MakeNoZero"], unfollowed := true, recurses := true, named := ["internal/bytealg.MaxLen"], apart := false }
def MatchTextsSaid : Prop := matchTextsRow.holds Tryz.pinned (OpenSpec.ofChange matchTextsSpec)

/-- ITS FALSE NEIGHBOUR: 'it returns false'. Refute it at one input. -/
def matchTextsWrong : ChangeSpec := { name := "matchTexts", fn := fun _ => fun
  | [d1, d2, d3] => { results := [.lit (.bool false)], args := [d1, d2, d3] }
  | _ => none }
def MatchTextsWrongFalsely : Prop := matchTextsRow.holds Tryz.pinned (OpenSpec.ofChange matchTextsWrong)

/-- 'lychgatelaw06.MatchFields': WHATEVER THE INPUT: true; the input reads as it did. -/
def matchFieldsSpec : ChangeSpec := { name := "matchFields", fn := fun _ => fun
  | [d1, d2, d3] => { results := [.lit (.bool true)], args := [d1, d2, d3] }
  | _ => none }
def matchFieldsRow : OpenClaim := { program := "ytgbapkechngnmaagreat", sum := "8ac0caa48146cfa3c30416ceb4bb4d85bc2fe2a031011b89442f53c87f3c82ad", func := "lychgate/lychgatelaw06.MatchFields", spec := "matchFields", inPlace := ["internal/bytealg.IndexByteString", "internal/bytealg.IndexString", "internal/abi.NoEscape", "sync/atomic.LoadUint32", "(*internal/sync.Mutex).Lock", "internal/race.Disable", "sync/atomic.CompareAndSwapInt32", "internal/race.Enable", "internal/race.Acquire", "(*internal/sync.Mutex).lockSlow", "internal/sync.runtime_canSpin", "internal/sync.runtime_doSpin", "internal/sync.throw", "internal/sync.runtime_nanotime", "internal/sync.runtime_SemacquireMutex", "sync/atomic.AddInt32", "(*internal/sync.Mutex).Unlock", "internal/race.ReleaseMerge", "(*internal/sync.Mutex).unlockSlow", "internal/sync.fatal", "internal/sync.runtime_Semrelease", "sync/atomic.StoreUint32", "internal/bytealg.MakeNoZero", "slices.overlaps[lychgate/api.Field]"], unfollowed := true, recurses := true, named := ["internal/bytealg.MaxLen"], apart := false }
def MatchFieldsSaid : Prop := matchFieldsRow.holds Tryz.pinned (OpenSpec.ofChange matchFieldsSpec)

/-- ITS FALSE NEIGHBOUR: 'it returns false'. Refute it at one input. -/
def matchFieldsWrong : ChangeSpec := { name := "matchFields", fn := fun _ => fun
  | [d1, d2, d3] => { results := [.lit (.bool false)], args := [d1, d2, d3] }
  | _ => none }
def MatchFieldsWrongFalsely : Prop := matchFieldsRow.holds Tryz.pinned (OpenSpec.ofChange matchFieldsWrong)

/-- 'lychgatelaw06.MatchPicks': WHATEVER THE INPUT: true; the input reads as it did. -/
def matchPicksSpec : ChangeSpec := { name := "matchPicks", fn := fun _ => fun
  | [d1, d2] => { results := [.lit (.bool true)], args := [d1, d2] }
  | _ => none }
def matchPicksRow : OpenClaim := { program := "ytgbapkechngnmaagreat", sum := "8ac0caa48146cfa3c30416ceb4bb4d85bc2fe2a031011b89442f53c87f3c82ad", func := "lychgate/lychgatelaw06.MatchPicks", spec := "matchPicks", inPlace := ["internal/bytealg.IndexByteString", "internal/bytealg.IndexString", "internal/abi.NoEscape", "sync/atomic.LoadUint32", "(*internal/sync.Mutex).Lock", "internal/race.Disable", "sync/atomic.CompareAndSwapInt32", "internal/race.Enable", "internal/race.Acquire", "(*internal/sync.Mutex).lockSlow", "internal/sync.runtime_canSpin", "internal/sync.runtime_doSpin", "internal/sync.throw", "internal/sync.runtime_nanotime", "internal/sync.runtime_SemacquireMutex", "sync/atomic.AddInt32", "(*internal/sync.Mutex).Unlock", "internal/race.ReleaseMerge", "(*internal/sync.Mutex).unlockSlow", "internal/sync.fatal", "internal/sync.runtime_Semrelease", "sync/atomic.StoreUint32", "internal/bytealg.MakeNoZero", "slices.overlaps[lychgate/api.Field]"], unfollowed := true, recurses := true, named := ["internal/bytealg.MaxLen"], apart := false }
def MatchPicksSaid : Prop := matchPicksRow.holds Tryz.pinned (OpenSpec.ofChange matchPicksSpec)

/-- ITS FALSE NEIGHBOUR: 'it returns false'. Refute it at one input. -/
def matchPicksWrong : ChangeSpec := { name := "matchPicks", fn := fun _ => fun
  | [d1, d2] => { results := [.lit (.bool false)], args := [d1, d2] }
  | _ => none }
def MatchPicksWrongFalsely : Prop := matchPicksRow.holds Tryz.pinned (OpenSpec.ofChange matchPicksWrong)

/- THE SECOND FORM. 'bulk': how many values and letters a reading holds, each counted each time it is reached (what is shared counts as often as it is met; a slice's spare places count too). A statement '..UptoSaid' is the law's where the arguments, and the package variables that the reading takes, are together of bulk at most 1048576: NARROWER than '..Said'. Prove '..Said' where nothing that the law and all that it calls make is longer than what came in: it says more and counts as full. Else prove '..UptoSaid'. A law counts once. -/
mutual
def uptoBulk {H : Type} : DataW H → Nat
  | .lit (.string bytes) => bytes.length + 1
  | .lit _ => 1
  | .nil => 1
  | .ptr d => uptoBulk d + 1
  | .slice elems spare => uptoBulkAll elems + uptoBulkAll spare + 1
  | .agg parts => uptoBulkAll parts + 1
  | .iface _ d => uptoBulk d + 1
  | .map entries => uptoBulkEntries entries + 1
  | .held _ => 1
def uptoBulkAll {H : Type} : List (DataW H) → Nat
  | [] => 0
  | d :: r => uptoBulk d + uptoBulkAll r
def uptoBulkEntries {H : Type} : List (Lit × DataW H) → Nat
  | [] => 0
  | x :: r => uptoBulkEntry x + uptoBulkEntries r
def uptoBulkEntry {H : Type} : Lit × DataW H → Nat
  | (.string bytes, d) => bytes.length + uptoBulk d + 1
  | (_, d) => uptoBulk d + 1
 end
def uptoSmall : (H : Type) → List (DataW H) → Bool := fun _ ds => decide (uptoBulkAll ds ≤ 1048576)
def OpenSpec.upto (s : _root_.Go.ChangeSpec) : _root_.Go.OpenSpec := { _root_.Go.OpenSpec.ofChange s with cond := some uptoSmall }

/-- 'lychgatelaw06.MatchFits', WHERE WHAT IT READS IS OF BULK AT MOST 1048576: true; the input reads as it did. -/
def matchFitsUptoRow : OpenClaim := { program := "ytgbapkechngnmaagreat", sum := "8ac0caa48146cfa3c30416ceb4bb4d85bc2fe2a031011b89442f53c87f3c82ad", func := "lychgate/lychgatelaw06.MatchFits", spec := "matchFits", inPlace := ["internal/bytealg.IndexByteString", "internal/bytealg.IndexString", "internal/abi.NoEscape", "sync/atomic.LoadUint32", "(*internal/sync.Mutex).Lock", "internal/race.Disable", "sync/atomic.CompareAndSwapInt32", "internal/race.Enable", "internal/race.Acquire", "(*internal/sync.Mutex).lockSlow", "internal/sync.runtime_canSpin", "internal/sync.runtime_doSpin", "internal/sync.throw", "internal/sync.runtime_nanotime", "internal/sync.runtime_SemacquireMutex", "sync/atomic.AddInt32", "(*internal/sync.Mutex).Unlock", "internal/race.ReleaseMerge", "(*internal/sync.Mutex).unlockSlow", "internal/sync.fatal", "internal/sync.runtime_Semrelease", "sync/atomic.StoreUint32", "internal/bytealg.MakeNoZero"], unfollowed := true, recurses := true, named := ["internal/bytealg.MaxLen"], apart := false, narrowed := true }
def MatchFitsUptoSaid : Prop := matchFitsUptoRow.holds Tryz.pinned (OpenSpec.upto matchFitsSpec)

/-- 'lychgatelaw06.MatchBack', WHERE WHAT IT READS IS OF BULK AT MOST 1048576: true; the input reads as it did. -/
def matchBackUptoRow : OpenClaim := { program := "ytgbapkechngnmaagreat", sum := "8ac0caa48146cfa3c30416ceb4bb4d85bc2fe2a031011b89442f53c87f3c82ad", func := "lychgate/lychgatelaw06.MatchBack", spec := "matchBack", inPlace := ["internal/bytealg.IndexByteString", "internal/bytealg.IndexString", "internal/abi.NoEscape", "sync/atomic.LoadUint32", "(*internal/sync.Mutex).Lock", "internal/race.Disable", "sync/atomic.CompareAndSwapInt32", "internal/race.Enable", "internal/race.Acquire", "(*internal/sync.Mutex).lockSlow", "internal/sync.runtime_canSpin", "internal/sync.runtime_doSpin", "internal/sync.throw", "internal/sync.runtime_nanotime", "internal/sync.runtime_SemacquireMutex", "sync/atomic.AddInt32", "(*internal/sync.Mutex).Unlock", "internal/race.ReleaseMerge", "(*internal/sync.Mutex).unlockSlow", "internal/sync.fatal", "internal/sync.runtime_Semrelease", "sync/atomic.StoreUint32", "internal/bytealg.MakeNoZero"], unfollowed := true, recurses := true, named := ["internal/bytealg.MaxLen"], apart := false, narrowed := true }
def MatchBackUptoSaid : Prop := matchBackUptoRow.holds Tryz.pinned (OpenSpec.upto matchBackSpec)

/-- 'lychgatelaw06.MatchTurns', WHERE WHAT IT READS IS OF BULK AT MOST 1048576: true; the input reads as it did. -/
def matchTurnsUptoRow : OpenClaim := { program := "ytgbapkechngnmaagreat", sum := "8ac0caa48146cfa3c30416ceb4bb4d85bc2fe2a031011b89442f53c87f3c82ad", func := "lychgate/lychgatelaw06.MatchTurns", spec := "matchTurns", inPlace := ["internal/bytealg.IndexByteString", "internal/bytealg.IndexString", "internal/abi.NoEscape", "sync/atomic.LoadUint32", "(*internal/sync.Mutex).Lock", "internal/race.Disable", "sync/atomic.CompareAndSwapInt32", "internal/race.Enable", "internal/race.Acquire", "(*internal/sync.Mutex).lockSlow", "internal/sync.runtime_canSpin", "internal/sync.runtime_doSpin", "internal/sync.throw", "internal/sync.runtime_nanotime", "internal/sync.runtime_SemacquireMutex", "sync/atomic.AddInt32", "(*internal/sync.Mutex).Unlock", "internal/race.ReleaseMerge", "(*internal/sync.Mutex).unlockSlow", "internal/sync.fatal", "internal/sync.runtime_Semrelease", "sync/atomic.StoreUint32", "internal/bytealg.MakeNoZero"], unfollowed := true, recurses := true, named := ["internal/bytealg.MaxLen"], apart := false, narrowed := true }
def MatchTurnsUptoSaid : Prop := matchTurnsUptoRow.holds Tryz.pinned (OpenSpec.upto matchTurnsSpec)

/-- 'lychgatelaw06.MatchAlls', WHERE WHAT IT READS IS OF BULK AT MOST 1048576: true; the input reads as it did. -/
def matchAllsUptoRow : OpenClaim := { program := "ytgbapkechngnmaagreat", sum := "8ac0caa48146cfa3c30416ceb4bb4d85bc2fe2a031011b89442f53c87f3c82ad", func := "lychgate/lychgatelaw06.MatchAlls", spec := "matchAlls", inPlace := ["internal/bytealg.IndexByteString", "internal/bytealg.IndexString", "internal/abi.NoEscape", "sync/atomic.LoadUint32", "(*internal/sync.Mutex).Lock", "internal/race.Disable", "sync/atomic.CompareAndSwapInt32", "internal/race.Enable", "internal/race.Acquire", "(*internal/sync.Mutex).lockSlow", "internal/sync.runtime_canSpin", "internal/sync.runtime_doSpin", "internal/sync.throw", "internal/sync.runtime_nanotime", "internal/sync.runtime_SemacquireMutex", "sync/atomic.AddInt32", "(*internal/sync.Mutex).Unlock", "internal/race.ReleaseMerge", "(*internal/sync.Mutex).unlockSlow", "internal/sync.fatal", "internal/sync.runtime_Semrelease", "sync/atomic.StoreUint32", "internal/bytealg.MakeNoZero"], unfollowed := true, recurses := true, named := ["internal/bytealg.MaxLen"], apart := false, narrowed := true }
def MatchAllsUptoSaid : Prop := matchAllsUptoRow.holds Tryz.pinned (OpenSpec.upto matchAllsSpec)

/-- 'lychgatelaw06.MatchNames', WHERE WHAT IT READS IS OF BULK AT MOST 1048576: true; the input reads as it did. -/
def matchNamesUptoRow : OpenClaim := { program := "ytgbapkechngnmaagreat", sum := "8ac0caa48146cfa3c30416ceb4bb4d85bc2fe2a031011b89442f53c87f3c82ad", func := "lychgate/lychgatelaw06.MatchNames", spec := "matchNames", inPlace := ["internal/bytealg.IndexByteString", "internal/bytealg.IndexString", "internal/abi.NoEscape", "sync/atomic.LoadUint32", "(*internal/sync.Mutex).Lock", "internal/race.Disable", "sync/atomic.CompareAndSwapInt32", "internal/race.Enable", "internal/race.Acquire", "(*internal/sync.Mutex).lockSlow", "internal/sync.runtime_canSpin", "internal/sync.runtime_doSpin", "internal/sync.throw", "internal/sync.runtime_nanotime", "internal/sync.runtime_SemacquireMutex", "sync/atomic.AddInt32", "(*internal/sync.Mutex).Unlock", "internal/race.ReleaseMerge", "(*internal/sync.Mutex).unlockSlow", "internal/sync.fatal", "internal/sync.runtime_Semrelease", "sync/atomic.StoreUint32", "internal/bytealg.MakeNoZero"], unfollowed := true, recurses := true, named := ["internal/bytealg.MaxLen"], apart := false, narrowed := true }
def MatchNamesUptoSaid : Prop := matchNamesUptoRow.holds Tryz.pinned (OpenSpec.upto matchNamesSpec)

/-- 'lychgatelaw06.MatchTexts', WHERE WHAT IT READS IS OF BULK AT MOST 1048576: true; the input reads as it did. -/
def matchTextsUptoRow : OpenClaim := { program := "ytgbapkechngnmaagreat", sum := "8ac0caa48146cfa3c30416ceb4bb4d85bc2fe2a031011b89442f53c87f3c82ad", func := "lychgate/lychgatelaw06.MatchTexts", spec := "matchTexts", inPlace := ["internal/bytealg.IndexByteString", "internal/bytealg.IndexString", "internal/abi.NoEscape", "sync/atomic.LoadUint32", "(*internal/sync.Mutex).Lock", "internal/race.Disable", "sync/atomic.CompareAndSwapInt32", "internal/race.Enable", "internal/race.Acquire", "(*internal/sync.Mutex).lockSlow", "internal/sync.runtime_canSpin", "internal/sync.runtime_doSpin", "internal/sync.throw", "internal/sync.runtime_nanotime", "internal/sync.runtime_SemacquireMutex", "sync/atomic.AddInt32", "(*internal/sync.Mutex).Unlock", "internal/race.ReleaseMerge", "(*internal/sync.Mutex).unlockSlow", "internal/sync.fatal", "internal/sync.runtime_Semrelease", "sync/atomic.StoreUint32", "internal/bytealg.MakeNoZero"], unfollowed := true, recurses := true, named := ["internal/bytealg.MaxLen"], apart := false, narrowed := true }
def MatchTextsUptoSaid : Prop := matchTextsUptoRow.holds Tryz.pinned (OpenSpec.upto matchTextsSpec)

/-- 'lychgatelaw06.MatchFields', WHERE WHAT IT READS IS OF BULK AT MOST 1048576: true; the input reads as it did. -/
def matchFieldsUptoRow : OpenClaim := { program := "ytgbapkechngnmaagreat", sum := "8ac0caa48146cfa3c30416ceb4bb4d85bc2fe2a031011b89442f53c87f3c82ad", func := "lychgate/lychgatelaw06.MatchFields", spec := "matchFields", inPlace := ["internal/bytealg.IndexByteString", "internal/bytealg.IndexString", "internal/abi.NoEscape", "sync/atomic.LoadUint32", "(*internal/sync.Mutex).Lock", "internal/race.Disable", "sync/atomic.CompareAndSwapInt32", "internal/race.Enable", "internal/race.Acquire", "(*internal/sync.Mutex).lockSlow", "internal/sync.runtime_canSpin", "internal/sync.runtime_doSpin", "internal/sync.throw", "internal/sync.runtime_nanotime", "internal/sync.runtime_SemacquireMutex", "sync/atomic.AddInt32", "(*internal/sync.Mutex).Unlock", "internal/race.ReleaseMerge", "(*internal/sync.Mutex).unlockSlow", "internal/sync.fatal", "internal/sync.runtime_Semrelease", "sync/atomic.StoreUint32", "internal/bytealg.MakeNoZero", "slices.overlaps[lychgate/api.Field]"], unfollowed := true, recurses := true, named := ["internal/bytealg.MaxLen"], apart := false, narrowed := true }
def MatchFieldsUptoSaid : Prop := matchFieldsUptoRow.holds Tryz.pinned (OpenSpec.upto matchFieldsSpec)

/-- 'lychgatelaw06.MatchPicks', WHERE WHAT IT READS IS OF BULK AT MOST 1048576: true; the input reads as it did. -/
def matchPicksUptoRow : OpenClaim := { program := "ytgbapkechngnmaagreat", sum := "8ac0caa48146cfa3c30416ceb4bb4d85bc2fe2a031011b89442f53c87f3c82ad", func := "lychgate/lychgatelaw06.MatchPicks", spec := "matchPicks", inPlace := ["internal/bytealg.IndexByteString", "internal/bytealg.IndexString", "internal/abi.NoEscape", "sync/atomic.LoadUint32", "(*internal/sync.Mutex).Lock", "internal/race.Disable", "sync/atomic.CompareAndSwapInt32", "internal/race.Enable", "internal/race.Acquire", "(*internal/sync.Mutex).lockSlow", "internal/sync.runtime_canSpin", "internal/sync.runtime_doSpin", "internal/sync.throw", "internal/sync.runtime_nanotime", "internal/sync.runtime_SemacquireMutex", "sync/atomic.AddInt32", "(*internal/sync.Mutex).Unlock", "internal/race.ReleaseMerge", "(*internal/sync.Mutex).unlockSlow", "internal/sync.fatal", "internal/sync.runtime_Semrelease", "sync/atomic.StoreUint32", "internal/bytealg.MakeNoZero", "slices.overlaps[lychgate/api.Field]"], unfollowed := true, recurses := true, named := ["internal/bytealg.MaxLen"], apart := false, narrowed := true }
def MatchPicksUptoSaid : Prop := matchPicksUptoRow.holds Tryz.pinned (OpenSpec.upto matchPicksSpec)

end Rows
end Go.Proofs.YtgbapkechngnmaaGreat
