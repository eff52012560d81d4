/- A byte with a postfix: reckoned. No program in sight. -/
import Derived.Test.YtlepnnbgecneeaaPatZ
import Derived.Test.YtlepnnbgecneeaaPatQuote
namespace Go.Proofs.Ytlepnnbgecneeaa

def onePat (c pf : Nat) : ByteArray := ⟨((quoteM [c] ++ [pf]).map UInt8.ofNat).toArray⟩
def shapeOf (l : List St) : List (Bool × Nat × List Nat) := l.map fun x => (x.set.isSome, x.next, x.free)
def setIs (l : List St) (c : Nat) : Bool := l.all fun x => match x.set with
  | none => true
  | some f => (List.range 256).all fun d => f d == decide (d = c)
def chkOne (pf : Nat) (T : List (Bool × Nat × List Nat)) (st en c : Nat) : Bool :=
  decide (errM (onePat c pf) = 0) && decide (shapeOf (endR (onePat c pf)).sts = T) && decide ((runR (onePat c pf)).2 = (st, en)) && setIs (endR (onePat c pf)).sts c
def pfT (pf : Nat) : List (Bool × Nat × List Nat) := shapeOf (endR (onePat 97 pf)).sts
def pfA (pf : Nat) : Nat := (runR (onePat 97 pf)).2.1
def pfE (pf : Nat) : Nat := (runR (onePat 97 pf)).2.2
theorem star_all : (List.range 256).all (fun c => chkOne 42 (pfT 42) (pfA 42) (pfE 42) c) = true := by kernel_rfl
theorem plus_all : (List.range 256).all (fun c => chkOne 43 (pfT 43) (pfA 43) (pfE 43) c) = true := by kernel_rfl
theorem ques_all : (List.range 256).all (fun c => chkOne 63 (pfT 63) (pfA 63) (pfE 63) c) = true := by kernel_rfl
end Go.Proofs.Ytlepnnbgecneeaa
