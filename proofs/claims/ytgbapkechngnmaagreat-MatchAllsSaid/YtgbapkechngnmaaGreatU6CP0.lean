/- What several claims of this seat share: contracts of the functions that they reach. -/
import Derived.Deep.RegionHeld3
import Derived.Test.YtgbapkechngnmaaGreatName
import Derived.Test.YtgbapkechngnmaaGreatRd
import Derived.Test.YtgbapkechngnmaaGreatBox
import Derived.BigQuiet
import Derived.Deep.QuietTactic
import Derived.Deep.LoopGhost
import Derived.Lib.Hide
import Derived.Test.YtgbapkechngnmaaGreatBase
import Derived.Deep.AppendLies
import Derived.Test.YtgbapkechngnmaaGreatRows
import Derived.WalkKit
import Derived.WalkSpells
import Derived.WalkLawsBesides
import Derived.Deep.RegionHeldLaw
import Derived.StillTailTactics
import Derived.Deep.MidRow
import Derived.Laws.ResultCell
import Derived.Deep.DeepCutAuto
import Derived.Defers
import Derived.Test.YtgbapkechngnmaaGreatShelf

/- Regions that draw their order, taken by hand: an operation that is wanted, one that its guard leaves out, a call. No program in sight. -/
namespace Go
variable {P : Program} {ops : Array Oper} {Q : Exit → Act → World → Prop} {md : Region.Mode} {S : World → Prop}
theorem held_take {i d : Nat} {oi : Oper} {v : Value} {fuel : Nat} {listed : Array Bool} {a : Act} {w : World} (hi : ops[i]? = some oi) (hd : oi.dst = some d)
  (hs : Region.noSelect ops = true) (hf : Region.free md ops listed i = true) (hr : (Region.ready md ops listed).contains i = true)
  (hQ : ∀ c a w, Q (.panic c) (a.put (some d) v) w → Q (.panic c) a w) (hw : Region.wanted oi (yielded ops a.tmps) = true) (hS : S w)
  (hy : ∀ w, S w → (execOp a.eval oi).run P w = .ok (.value v) w)
  (h : wpAnyH P md ops Q S fuel (listed.setIfInBounds i true) (a.put (some d) v) w) : wpAnyH P md ops Q S (fuel + 1) listed a w :=
 wpAnyH_take hi hs hf hr (by rw [hd]; exact hQ) (.inl ⟨hw, hy⟩) hS (by rw [hd]; exact h)
theorem held_skip {i d : Nat} {oi : Oper} {fuel : Nat} {listed : Array Bool} {a : Act} {w : World} (hi : ops[i]? = some oi) (hd : oi.dst = some d)
  (hs : Region.noSelect ops = true) (hf : Region.free md ops listed i = true) (hr : (Region.ready md ops listed).contains i = true)
  (hQ : ∀ c a w, Q (.panic c) (a.put (some d) undef) w → Q (.panic c) a w) (hw : Region.wanted oi (yielded ops a.tmps) = false) (hS : S w)
  (h : wpAnyH P md ops Q S fuel (listed.setIfInBounds i true) (a.put (some d) undef) w) : wpAnyH P md ops Q S (fuel + 1) listed a w :=
 wpAnyH_take hi hs hf hr (by rw [hd]; exact hQ) (.inr ⟨hw, rfl⟩) hS (by rw [hd]; exact h)
theorem held_call {i : Nat} {oi : Oper} {fuel : Nat} {listed : Array Bool} {a : Act} {w : World} (hi : ops[i]? = some oi) (hr : Region.ready md ops listed = [i]) (hw : Region.wanted oi (yielded ops a.tmps) = true)
  (h : ∀ K' : Act → World → Prop, Shut (∀ a w, S w → (S w → wpAnyH P md ops Q S fuel (listed.setIfInBounds i true) a w) → K' a w) → Oper.wp P oi a w K' Q) : wpAnyH P md ops Q S (fuel + 1) listed a w :=
 wpAnyH_ready hr (by simp) (AllReadyH.cons hi (fun K hK => by rw [if_pos hw]; exact h K hK) AllReadyH.nil)
theorem held_step {i : Nat} {oi : Oper} {fuel : Nat} {listed : Array Bool} {a : Act} {w : World} (hi : ops[i]? = some oi) (hr : Region.ready md ops listed = [i])
  (h : ∀ K' : Act → World → Prop, Shut (∀ a w, S w → (S w → wpAnyH P md ops Q S fuel (listed.setIfInBounds i true) a w) → K' a w) → if Region.wanted oi (yielded ops a.tmps) = true then Oper.wp P oi a w K' Q else K' (a.put oi.dst undef) w) : wpAnyH P md ops Q S (fuel + 1) listed a w :=
 wpAnyH_ready hr (by simp) (AllReadyH.cons hi h AllReadyH.nil)
end Go

namespace Go
universe u_1
variable {P : Program} {ops : Array Oper} {Q : Exit → Act → World → Prop} {md : Region.Mode} {S : World → Prop}
theorem hT {i d : Nat} {oi : Oper} {v : Value} {fuel : Nat} {listed : Array Bool} {a : Act} {w : World} (hi : ops[i]? = some oi) (hd : oi.dst = some d) (hS : S w)
    (hy : ∀ w, S w → (execOp a.eval oi).run P w = .ok (.value v) w)
    (h : wpAnyH P md ops Q S fuel (listed.setIfInBounds i true) (a.put (some d) v) w)
    (hs : Region.noSelect ops = true := by kernel_rfl) (hf : Region.free md ops listed i = true := by kernel_rfl) (hr : (Region.ready md ops listed).contains i = true := by kernel_rfl)
    (hQ : ∀ c a w, Q (.panic c) (a.put (some d) v) w → Q (.panic c) a w := by exact fun _ _ _ h => h) (hw : Region.wanted oi (yielded ops a.tmps) = true := by rfl) : wpAnyH P md ops Q S (fuel + 1) listed a w :=
  held_take hi hd hs hf hr hQ hw hS hy h
theorem aS1 {α : Type u_1} (l : List α) (i : Nat) (a : α) : l.toArray.setIfInBounds i a = (l.set i a).toArray := List.setIfInBounds_toArray l i a
theorem aS2 {α : Type u_1} {x : α} {xs : List α} {a : α} : (x :: xs).set 0 a = a :: xs := rfl
theorem aS3 {α : Type u_1} {x : α} {xs : List α} {i : Nat} {a : α} : (x :: xs).set (i + 1) a = x :: xs.set i a := rfl
def Pl (_ : List Nat) (p : Prop) : Prop := p
theorem plIn (l : List Nat) {p : Prop} (h : Pl l p) : p := h
theorem plOut {p : Prop} (h : p) : Pl [] p := h
theorem hP {i d : Nat} {is : List Nat} {oi : Oper} {v : Value} {fuel : Nat} {listed : Array Bool} {a : Act} {w : World} (hi : ops[i]? = some oi) (hd : oi.dst = some d) (hS : S w)
    (hy : ∀ w, S w → (execOp a.eval oi).run P w = .ok (.value v) w)
    (h : Pl is (wpAnyH P md ops Q S fuel (listed.setIfInBounds i true) (a.put (some d) v) w))
    (hs : Region.noSelect ops = true := by kernel_rfl) (hf : Region.free md ops listed i = true := by kernel_rfl) (hr : (Region.ready md ops listed).contains i = true := by kernel_rfl)
    (hQ : ∀ c a w, Q (.panic c) (a.put (some d) v) w → Q (.panic c) a w := by exact fun _ _ _ h => h) (hw : Region.wanted oi (yielded ops a.tmps) = true := by rfl) : Pl (i :: is) (wpAnyH P md ops Q S (fuel + 1) listed a w) :=
  held_take hi hd hs hf hr hQ hw hS hy h
theorem hK {i d : Nat} {is : List Nat} {oi : Oper} {fuel : Nat} {listed : Array Bool} {a : Act} {w : World} (hi : ops[i]? = some oi) (hd : oi.dst = some d) (hS : S w)
    (h : Pl is (wpAnyH P md ops Q S fuel (listed.setIfInBounds i true) (a.put (some d) undef) w))
    (hs : Region.noSelect ops = true := by kernel_rfl) (hf : Region.free md ops listed i = true := by kernel_rfl) (hr : (Region.ready md ops listed).contains i = true := by kernel_rfl)
    (hQ : ∀ c a w, Q (.panic c) (a.put (some d) undef) w → Q (.panic c) a w := by exact fun _ _ _ h => h) (hw : Region.wanted oi (yielded ops a.tmps) = false := by rfl) : Pl (i :: is) (wpAnyH P md ops Q S (fuel + 1) listed a w) :=
  held_skip hi hd hs hf hr hQ hw hS h
end Go
/- Fields: what lies in memory; match.Right: a contract. -/
namespace Go.Proofs.YtgbapkechngnmaaGreat
open Go.RowKit
abbrev Fld := ByteArray × ByteArray
def fldCells : List Fld → List Value
 | [] => []
 | f :: l => .string f.1 :: .string f.2 :: fldCells l
theorem fldCells_len (l : List Fld) : (fldCells l).length = l.length * 2 := by
 induction l with
 | nil => rfl
 | cons s l ih => simp [fldCells, ih]; omega
theorem fldCells_append (a b : List Fld) : fldCells (a ++ b) = fldCells a ++ fldCells b := by
 induction a with
 | nil => rfl
 | cons s l ih => simp [fldCells, ih]
theorem fldCells_at (l : List Fld) (i : Nat) (h : i < l.length) : (fldCells l)[i * 2]? = some (.string l[i].1) ∧ (fldCells l)[i * 2 + 1]? = some (.string l[i].2) := by
 induction l generalizing i with
 | nil => cases h
 | cons s l ih =>
  cases i with
  | zero => simp [fldCells]
  | succ i =>
   obtain ⟨h1, h2⟩ := ih i (by simpa using h)
   have e : (i + 1) * 2 = i * 2 + 2 := by omega
   rw [e]
   simp only [fldCells, List.getElem_cons_succ]
   refine ⟨?_, ?_⟩
   ·rw [show i * 2 + 2 = i * 2 + 1 + 1 by omega]; simpa using h1
   ·rw [show i * 2 + 2 + 1 = i * 2 + 1 + 1 + 1 by omega]; simpa using h2
def FldsAt (w : World) (v : Value) (l : List Fld) : Prop := RdAt w v l.length 2 (fldCells l)
theorem FldsAt.later {w w' : World} {v : Value} {l : List Fld} (h : FldsAt w v l) (hb : Below w.heap.size w w') : FldsAt w' v l := RdAt.later h hb
def FldsFit (l : List Fld) : Prop := ∀ f ∈ l, f.1.size ≤ maxLen ∧ f.2.size ≤ maxLen
def ltS (a b : ByteArray) : Bool := Op.bytesLess a.toList b.toList
def fldOk (l : List Fld) (j : Nat) : Bool := nameL (B (l.getD j default).1) && decide ((l.getD j default).2.size ≤ 200) && (decide (j = 0) || ltS (l.getD (j - 1) default).1 (l.getD j default).1)
def rightF (l : List Fld) : Bool := decide (l.length ≤ 8) && (List.range l.length).all fun j => fldOk l j
theorem rightF_bad {l : List Fld} {j : Nat} (hj : j < l.length) (h : fldOk l j = false) : rightF l = false := by
 unfold rightF
 rw [Bool.and_eq_false_iff]
 right
 rw [List.all_eq_false]
 exact ⟨j, List.mem_range.2 hj, by rw [h]; simp⟩
theorem rightF_good {l : List Fld} (h : ∀ j, j < l.length → fldOk l j = true) : rightF l = decide (l.length ≤ 8) := by
 unfold rightF
 rw [show ((List.range l.length).all fun j => fldOk l j) = true from List.all_eq_true.2 (fun j hj => h j (List.mem_range.1 hj)), Bool.and_true]
end Go.Proofs.YtgbapkechngnmaaGreat
/- The pattern's builder, said plainly: states, the reading of a class, of an atom, of a row. No program in sight. -/
namespace Go.Proofs.YtgbapkechngnmaaGreat
open Go.RowKit
structure St where
  set : Option (Nat → Bool)
  next : Nat
  free : List Nat
structure Bs where
  pos : Nat
  err : Int
  sts : List St
def byteM (s : ByteArray) (k : Nat) : Nat := if h : k < s.size then (s[k]'h).toNat else 0
theorem byteM_lt (s : ByteArray) (k : Nat) : byteM s k < 256 := by
  unfold byteM; split
  · exact UInt8.toNat_lt _
  · omega
def peekM (s : ByteArray) (b : Bs) : Option Nat := if b.err = 0 ∧ b.pos < s.size then some (byteM s b.pos) else none
def failM (b : Bs) (e : Int) : Bs := if b.err = 0 then { b with err := e } else b
theorem failM_pos (b : Bs) (e : Int) : (failM b e).pos = b.pos := by unfold failM; split <;> rfl
theorem failM_sts (b : Bs) (e : Int) : (failM b e).sts = b.sts := by unfold failM; split <;> rfl
def stepM (b : Bs) : Bs := { b with pos := b.pos + 1 }
def nodeM (b : Bs) : Bs := { b with sts := b.sts ++ [⟨none, 0, []⟩] }
def addF : List St → Nat → Nat → List St
  | [], _, _ => []
  | x :: l, 0, t => { x with free := x.free ++ [t] } :: l
  | x :: l, k + 1, t => x :: addF l k t
def freeM (b : Bs) (f t : Nat) : Bs := { b with sts := addF b.sts f t }
def oneM (b : Bs) (S : Nat → Bool) : Bs × (Nat × Nat) := ({ b with sts := b.sts ++ [⟨some S, b.sts.length + 1, []⟩, ⟨none, 0, []⟩] }, (b.sts.length, b.sts.length + 1))
def signM (s : ByteArray) (b : Bs) : Bs × Nat :=
  match peekM s b with
  | none => (failM (stepM b) 2, 0)
  | some c => if c = 92 then
      match peekM s (stepM b) with
      | none => (failM (stepM (stepM b)) 2, 0)
      | some d => (stepM (stepM b), d)
    else (stepM b, c)
def rangeB (s : ByteArray) (b : Bs) : Bool := decide (peekM s b = some 45) && (decide (b.pos + 1 < s.size) && !decide (byteM s (b.pos + 1) = 93))
def rangeM (s : ByteArray) (b : Bs) (lo : Nat) : Bs × Nat := if rangeB s b = true then signM s (stepM b) else (b, lo)
def addS (S : Nat → Bool) (lo hi : Nat) : Nat → Bool := fun c => S c || (decide (lo ≤ c) && decide (c ≤ hi))
def noS : Nat → Bool := fun _ => false
def turnS (S : Nat → Bool) : Nat → Bool := fun c => !S c
def oneS (c : Nat) : Nat → Bool := addS noS c c
def loopM (s : ByteArray) : Nat → Bool → Bs → (Nat → Bool) → Bs × (Nat → Bool)
  | 0, _, b, S => (b, S)
  | n + 1, first, b, S =>
    match peekM s b with
    | none => (failM b 2, S)
    | some d => if d = 93 then (if first then (failM b 2, S) else (stepM b, S)) else
      let x := signM s b
      let y := rangeM s x.1 x.2
      loopM s n false (if y.2 < x.2 then failM y.1 2 else y.1) (addS S x.2 y.2)
def classM (s : ByteArray) (b : Bs) : Bs × (Nat → Bool) :=
  if peekM s b = some 94 then
    let r := loopM s (s.size + 1) true (stepM b) noS
    (r.1, turnS r.2)
  else loopM s (s.size + 1) true b noS
def postB (c : Nat) : Bool := decide (c = 42) || decide (c = 43) || decide (c = 63)
def oddB (c : Nat) : Bool := postB c || decide (c = 124) || decide (c = 40) || decide (c = 41) || decide (c = 91) || decide (c = 93) || decide (c = 92) || decide (c = 46)
def timesM (s : ByteArray) (b : Bs) (x : Nat × Nat) : Bs × (Nat × Nat) :=
  match peekM s b with
  | none => (b, x)
  | some c => if postB c = true then
      let f := b.sts.length
      let t := b.sts.length + 1
      let b1 := freeM (freeM (nodeM (nodeM (stepM b))) f x.1) x.2 t
      let b2 := if c = 43 then b1 else freeM b1 f t
      let b3 := if c = 63 then b2 else freeM b2 x.2 x.1
      (b3, (f, t))
    else (b, x)
def closeM (s : ByteArray) (b : Bs) : Bs := stepM (if peekM s b = some 41 then b else failM b 2)
theorem closeM_pos (s : ByteArray) (b : Bs) : (closeM s b).pos = b.pos + 1 := by
  unfold closeM stepM; dsimp only; split <;> simp [failM_pos]
theorem closeM_sts (s : ByteArray) (b : Bs) : (closeM s b).sts = b.sts := by
  unfold closeM stepM; dsimp only; split <;> simp [failM_sts]
inductive Md where
  | either
  | alts (p : Nat × Nat)
  | row
  | parts (p : Nat × Nat)
  | atom
def runM (s : ByteArray) : Nat → Md → Nat → Bs → Bs × (Nat × Nat)
  | 0, _, _, b => (b, (0, 0))
  | n + 1, .either, d, b => runM s n (.alts (b.sts.length, b.sts.length + 1)) d (nodeM (nodeM b))
  | n + 1, .alts p, d, b =>
    let r := runM s n .row d b
    let b2 := freeM (freeM r.1 p.1 r.2.1) r.2.2 p.2
    if peekM s b2 = some 124 then runM s n (.alts p) d (stepM b2) else (b2, p)
  | n + 1, .row, d, b => runM s n (.parts (b.sts.length, b.sts.length)) d (nodeM b)
  | n + 1, .parts p, d, b =>
    match peekM s b with
    | none => (b, p)
    | some c => if c = 124 ∨ c = 41 then (b, p) else
      let r := runM s n .atom d b
      let t := timesM s r.1 r.2
      runM s n (.parts (p.1, t.2.2)) d (freeM t.1 p.2 t.2.1)
  | n + 1, .atom, d, b =>
    let c := byteM s b.pos
    let b1 := stepM b
    if c = 40 then
      (if d = 8 then oneM (failM b1 3) noS else
        let r := runM s n .either (d + 1) b1
        (closeM s r.1, r.2))
    else if c = 91 then oneM (classM s b1).1 (classM s b1).2
    else if c = 46 then oneM b1 (turnS noS)
    else if c = 92 then
      (match peekM s b1 with
       | none => oneM (stepM (failM b1 2)) (oneS 0)
       | some e => oneM (stepM b1) (oneS e))
    else if oddB c = true then oneM (failM b1 2) noS
    else oneM b1 (oneS c)
/-! lengths, places -/
theorem addF_len (l : List St) (f t : Nat) : (addF l f t).length = l.length := by
  induction l generalizing f with
  | nil => rfl
  | cons x l ih => cases f <;> simp [addF, ih]
def tot (l : List St) : Nat := (l.map fun x => 1 + x.free.length).sum
theorem len_tot (l : List St) : l.length ≤ tot l := by
  induction l with
  | nil => simp
  | cons x l ih => simp [tot] at ih ⊢; omega
theorem tot_addF (l : List St) (f t : Nat) : tot (addF l f t) ≤ tot l + 1 := by
  induction l generalizing f with
  | nil => simp [addF, tot]
  | cons x l ih =>
    cases f with
    | zero => simp [addF, tot]; omega
    | succ f => have := ih f; simp [addF, tot] at this ⊢; omega
theorem free_tot (l : List St) (x : St) (h : x ∈ l) : x.free.length ≤ tot l := by
  induction l with
  | nil => cases h
  | cons y l ih =>
    rcases List.mem_cons.1 h with rfl | h
    · simp [tot]; omega
    · have := ih h; simp [tot] at this ⊢; omega
theorem peekM_some {s : ByteArray} {b : Bs} {c : Nat} (h : peekM s b = some c) : b.err = 0 ∧ b.pos < s.size ∧ c = byteM s b.pos := by
  unfold peekM at h
  split at h
  · rename_i h'; exact ⟨h'.1, h'.2, (Option.some.inj h).symm⟩
  · cases h
theorem failM_err {b : Bs} {e : Int} (he : e ≠ 0) : (failM b e).err ≠ 0 := by
  unfold failM; split
  · exact he
  · rename_i h; exact h
theorem signM_len (s : ByteArray) (b : Bs) : (signM s b).1.sts = b.sts := by
  unfold signM
  split
  · rw [failM_sts]; rfl
  · split
    · split
      · rw [failM_sts]; rfl
      · rfl
    · rfl
theorem signM_pos (s : ByteArray) (b : Bs) (h : b.pos < s.size) : b.pos < (signM s b).1.pos ∧ (signM s b).1.pos ≤ s.size + 1 := by
  unfold signM
  split
  · rw [failM_pos]; simp [stepM]; omega
  · split
    · split
      · rw [failM_pos]; simp [stepM]; omega
      · simp [stepM]; omega
    · simp [stepM]; omega
theorem signM_lt (s : ByteArray) (b : Bs) : (signM s b).2 < 256 := by
  unfold signM
  split
  · simp
  · rename_i c hc
    split
    · split
      · simp
      · rename_i d hd
        rw [(peekM_some hd).2.2]; exact byteM_lt _ _
    · rw [(peekM_some hc).2.2]; exact byteM_lt _ _
theorem rangeM_len (s : ByteArray) (b : Bs) (lo : Nat) : (rangeM s b lo).1.sts = b.sts := by
  unfold rangeM; split
  · rw [signM_len]; rfl
  · rfl
theorem rangeB_pos {s : ByteArray} {b : Bs} (h : rangeB s b = true) : b.pos + 1 < s.size := by
  unfold rangeB at h
  simp only [Bool.and_eq_true, decide_eq_true_eq] at h
  exact h.2.1
theorem rangeM_pos (s : ByteArray) (b : Bs) (lo : Nat) : b.pos ≤ (rangeM s b lo).1.pos ∧ ((rangeM s b lo).1.pos ≤ s.size + 1 ∨ (rangeM s b lo).1.pos = b.pos) := by
  unfold rangeM; split
  · rename_i h
    have := signM_pos s (stepM b) (rangeB_pos h)
    simp only [stepM] at this ⊢; omega
  · simp
theorem loopM_len (s : ByteArray) (n : Nat) : ∀ (first : Bool) (b : Bs) (S : Nat → Bool), (loopM s n first b S).1.sts = b.sts := by
  induction n with
  | zero => intros; rfl
  | succ n ih =>
    intro first b S
    rw [loopM]
    split
    · rw [failM_sts]
    · split
      · split
        · rw [failM_sts]
        · rfl
      · rw [ih]
        split
        · rw [failM_sts, rangeM_len, signM_len]
        · rw [rangeM_len, signM_len]
theorem loopM_pos (s : ByteArray) (n : Nat) : ∀ (first : Bool) (b : Bs) (S : Nat → Bool), b.pos ≤ (loopM s n first b S).1.pos ∧ (b.pos ≤ s.size + 1 → (loopM s n first b S).1.pos ≤ s.size + 1) := by
  induction n with
  | zero => intros; exact ⟨Nat.le_refl _, fun h => h⟩
  | succ n ih =>
    intro first b S
    rw [loopM]
    split
    · rw [failM_pos]; exact ⟨Nat.le_refl _, fun h => h⟩
    · rename_i d hd
      have hp := (peekM_some hd).2.1
      split
      · split
        · rw [failM_pos]; exact ⟨Nat.le_refl _, fun h => h⟩
        · simp [stepM]; omega
      · have h1 := signM_pos s b hp
        have h2 := rangeM_pos s (signM s b).1 (signM s b).2
        have h3 := ih false (if (rangeM s (signM s b).1 (signM s b).2).2 < (signM s b).2 then failM (rangeM s (signM s b).1 (signM s b).2).1 2 else (rangeM s (signM s b).1 (signM s b).2).1) (addS S (signM s b).2 (rangeM s (signM s b).1 (signM s b).2).2)
        have h4 : (if (rangeM s (signM s b).1 (signM s b).2).2 < (signM s b).2 then failM (rangeM s (signM s b).1 (signM s b).2).1 2 else (rangeM s (signM s b).1 (signM s b).2).1).pos = (rangeM s (signM s b).1 (signM s b).2).1.pos := by split <;> simp [failM_pos]
        rw [h4] at h3
        dsimp only
        exact ⟨by omega, fun h => h3.2 (by omega)⟩
theorem classM_len (s : ByteArray) (b : Bs) : (classM s b).1.sts = b.sts := by
  unfold classM; split
  · exact (loopM_len _ _ _ _ _).trans rfl
  · exact loopM_len _ _ _ _ _
theorem classM_pos (s : ByteArray) (b : Bs) : b.pos ≤ (classM s b).1.pos ∧ (b.pos ≤ s.size → (classM s b).1.pos ≤ s.size + 1) := by
  unfold classM; split
  · have := loopM_pos s (s.size + 1) true (stepM b) noS
    simp only [stepM] at this ⊢
    exact ⟨by omega, fun h => this.2 (by omega)⟩
  · have := loopM_pos s (s.size + 1) true b noS
    exact ⟨this.1, fun h => this.2 (by omega)⟩
structure Gd (b b' : Bs) (c : Nat) : Prop where
  pos : b.pos ≤ b'.pos
  len : b.sts.length ≤ b'.sts.length
  tot : tot b'.sts ≤ tot b.sts + c + 6 * (b'.pos - b.pos)
theorem Gd.trans {a b c : Bs} {m n : Nat} (h : Gd a b m) (h' : Gd b c n) : Gd a c (m + n) := by
  obtain ⟨h1, h2, h3⟩ := h
  obtain ⟨h4, h5, h6⟩ := h'
  exact ⟨by omega, by omega, by omega⟩
theorem gd_refl (b : Bs) : Gd b b 0 := ⟨Nat.le_refl _, Nat.le_refl _, by omega⟩
theorem gd_node (b : Bs) : Gd b (nodeM b) 1 := ⟨Nat.le_refl _, by simp [nodeM], by simp [nodeM, tot]⟩
theorem gd_free (b : Bs) (f t : Nat) : Gd b (freeM b f t) 1 := ⟨Nat.le_refl _, by simp [freeM, addF_len], by have := tot_addF b.sts f t; simp only [freeM]; omega⟩
theorem gd_fail (b : Bs) (e : Int) : Gd b (failM b e) 0 := ⟨by rw [failM_pos]; exact Nat.le_refl _, by rw [failM_sts]; exact Nat.le_refl _, by rw [failM_sts, failM_pos]; omega⟩
theorem gd_step (b : Bs) (m : Nat) (hm : m ≤ 6) {c : Bs} (h : Gd (stepM b) c m) : Gd b c 0 := by
  obtain ⟨h1, h2, h3⟩ := h
  simp only [stepM] at h1 h2 h3
  exact ⟨by omega, h2, by omega⟩
theorem gd_step' {a b : Bs} {m k : Nat} (h : Gd a b m) (hk : m ≤ k + 6) : Gd a (stepM b) k := by
  obtain ⟨h1, h2, h3⟩ := h
  exact ⟨by simp [stepM]; omega, by simpa [stepM] using h2, by simp only [stepM]; omega⟩
theorem gd_one (b : Bs) (S : Nat → Bool) : Gd b (oneM b S).1 2 := ⟨Nat.le_refl _, by simp [oneM], by simp [oneM, tot]⟩
theorem Gd.weak {a b : Bs} {m k : Nat} (h : Gd a b m) (hk : m ≤ k) : Gd a b k := ⟨h.pos, h.len, by have := h.tot; omega⟩
theorem gd_times (s : ByteArray) (b : Bs) (x : Nat × Nat) : Gd b (timesM s b x).1 0 := by
  unfold timesM
  split
  · exact gd_refl b
  · split
    · dsimp only
      refine gd_step b 6 (Nat.le_refl _) ?_
      have h1 := (((gd_node (stepM b)).trans (gd_node _)).trans (gd_free _ b.sts.length x.1)).trans (gd_free _ x.2 (b.sts.length + 1))
      split
      · split
        · exact h1.weak (by omega)
        · exact (h1.trans (gd_free _ _ _)).weak (by omega)
      · split
        · exact (h1.trans (gd_free _ _ _)).weak (by omega)
        · exact ((h1.trans (gd_free _ _ _)).trans (gd_free _ _ _)).weak (by omega)
    · exact gd_refl b
theorem times_part (s : ByteArray) (b : Bs) (x : Nat × Nat) (hx : x.1 < b.sts.length ∧ x.2 < b.sts.length) : (timesM s b x).2.1 < (timesM s b x).1.sts.length ∧ (timesM s b x).2.2 < (timesM s b x).1.sts.length := by
  unfold timesM
  split
  · exact hx
  · split
    · dsimp only
      have e : ∀ b f t, (freeM b f t).sts.length = b.sts.length := fun b f t => by simp [freeM, addF_len]
      split <;> split <;> simp [e, nodeM, stepM]
    · exact hx
def costM : Md → Nat
  | .either => 5
  | .alts _ => 3
  | .row => 1
  | .parts _ => 0
  | .atom => 0
def partOk : Md → Bs → Prop
  | .alts p, b => p.1 < b.sts.length ∧ p.2 < b.sts.length
  | .parts p, b => p.1 < b.sts.length ∧ p.2 < b.sts.length
  | .atom, _ => True
  | _, _ => True
def fuelM (s : ByteArray) (b : Bs) : Md → Nat
  | .either => 8 * (s.size - b.pos) + 5
  | .alts _ => 8 * (s.size - b.pos) + 4
  | .row => 8 * (s.size - b.pos) + 3
  | .parts _ => 8 * (s.size - b.pos) + 2
  | .atom => 8 * (s.size - b.pos) + 1
structure RunOk (s : ByteArray) (md : Md) (d : Nat) (b : Bs) (r : Bs × (Nat × Nat)) : Prop where
  gd : Gd b r.1 (costM md)
  p1 : r.2.1 < r.1.sts.length
  p2 : r.2.2 < r.1.sts.length
  top : r.1.pos ≤ s.size + 12 - d
  more : md = .atom → b.pos < r.1.pos ∧ tot r.1.sts + 1 ≤ tot b.sts + 6 * (r.1.pos - b.pos)
theorem runM_ok (s : ByteArray) (n : Nat) : ∀ (md : Md) (d : Nat) (b : Bs), d ≤ 8 → b.pos ≤ s.size + 12 - d → (md = .atom → b.pos < s.size) → partOk md b → fuelM s b md ≤ n → RunOk s md d b (runM s n md d b) := by
  induction n with
  | zero => intro md d b _ _ _ _ hn; cases md <;> simp [fuelM] at hn
  | succ n ih =>
    intro md d b hd hp ha hk hn
    cases md with
    | either =>
      simp only [fuelM] at hn
      have h := ih (.alts (b.sts.length, b.sts.length + 1)) d (nodeM (nodeM b)) hd hp (fun h => by cases h) ⟨by simp [nodeM], by simp [nodeM]⟩ (by simp only [fuelM, nodeM]; omega)
      obtain ⟨h1, h2, h3, h4, _⟩ := h
      rw [runM]
      exact ⟨(((gd_node b).trans (gd_node _)).trans h1).weak (by simp [costM]), h2, h3, h4, fun h => by cases h⟩
    | alts p =>
      simp only [fuelM] at hn
      obtain ⟨hp1, hp2⟩ := hk
      have h := ih .row d b hd hp (fun h => by cases h) trivial (by simp only [fuelM]; omega)
      obtain ⟨h1, h2, h3, h4, _⟩ := h
      have g := (h1.trans (gd_free _ p.1 (runM s n .row d b).2.1)).trans (gd_free _ (runM s n .row d b).2.2 p.2)
      have hl : (freeM (freeM (runM s n .row d b).1 p.1 (runM s n .row d b).2.1) (runM s n .row d b).2.2 p.2).sts.length = (runM s n .row d b).1.sts.length := by simp [freeM, addF_len]
      have hg := g.len
      rw [runM]
      split
      · rename_i hpk
        obtain ⟨q1, q2, _⟩ := peekM_some hpk
        have hpp : (freeM (freeM (runM s n .row d b).1 p.1 (runM s n .row d b).2.1) (runM s n .row d b).2.2 p.2).pos = (runM s n .row d b).1.pos := rfl
        have hpos := h1.pos
        have h := ih (.alts p) d (stepM (freeM (freeM (runM s n .row d b).1 p.1 (runM s n .row d b).2.1) (runM s n .row d b).2.2 p.2)) hd (by simp only [stepM]; omega) (fun h => by cases h) ⟨by simp only [stepM]; omega, by simp only [stepM]; omega⟩ (by simp only [fuelM, stepM]; omega)
        obtain ⟨k1, k2, k3, k4, _⟩ := h
        refine ⟨?_, k2, k3, k4, fun h => by cases h⟩
        have g2 := gd_step' g (k := 0) (by simp [costM])
        exact (g2.trans k1).weak (by simp [costM])
      · exact ⟨g.weak (by simp [costM]), by have := h1.len; dsimp only; omega, by have := h1.len; dsimp only; omega, h4, fun h => by cases h⟩
    | row =>
      simp only [fuelM] at hn
      have h := ih (.parts (b.sts.length, b.sts.length)) d (nodeM b) hd hp (fun h => by cases h) ⟨by simp [nodeM], by simp [nodeM]⟩ (by simp only [fuelM, nodeM]; omega)
      obtain ⟨h1, h2, h3, h4, _⟩ := h
      rw [runM]
      exact ⟨((gd_node b).trans h1).weak (by simp [costM]), h2, h3, h4, fun h => by cases h⟩
    | parts p =>
      simp only [fuelM] at hn
      obtain ⟨hp1, hp2⟩ := hk
      rw [runM]
      split
      · exact ⟨(gd_refl b).weak (by simp [costM]), hp1, hp2, hp, fun h => by cases h⟩
      · rename_i c hc
        split
        · exact ⟨(gd_refl b).weak (by simp [costM]), hp1, hp2, hp, fun h => by cases h⟩
        · dsimp only
          have hps := (peekM_some hc).2.1
          have h := ih .atom d b hd hp (fun _ => hps) trivial (by simp only [fuelM]; omega)
          obtain ⟨h1, h2, h3, h4, h5⟩ := h
          obtain ⟨h6, h7⟩ := h5 rfl
          have gt := gd_times s (runM s n .atom d b).1 (runM s n .atom d b).2
          have pt := times_part s (runM s n .atom d b).1 (runM s n .atom d b).2 ⟨h2, h3⟩
          have tp : (timesM s (runM s n .atom d b).1 (runM s n .atom d b).2).1.pos ≤ s.size + 12 - d := by
            unfold timesM
            split
            · exact h4
            · rename_i c' hc'
              have := (peekM_some hc').2.1
              split
              · have e : ∀ b f t, (freeM b f t).pos = b.pos := fun _ _ _ => rfl
                dsimp only
                split <;> split <;> simp only [e, nodeM, stepM] <;> omega
              · exact h4
          generalize hr : runM s n .atom d b = r at *
          generalize ht : timesM s r.1 r.2 = t at *
          have hfl : (freeM t.1 p.2 t.2.1).sts.length = t.1.sts.length := by simp [freeM, addF_len]
          have hgl := gt.len
          have hgp := gt.pos
          have h1l := h1.len
          have h := ih (.parts (p.1, t.2.2)) d (freeM t.1 p.2 t.2.1) hd tp (fun h => by cases h) ⟨by rw [hfl]; show p.1 < _; omega, by rw [hfl]; exact pt.2⟩ (by simp only [fuelM, freeM]; omega)
          obtain ⟨k1, k2, k3, k4, _⟩ := h
          refine ⟨?_, k2, k3, k4, fun h => by cases h⟩
          have g1 : Gd r.1 (freeM t.1 p.2 t.2.1) 1 := (gt.trans (gd_free _ _ _)).weak (by omega)
          obtain ⟨a1, a2, a3⟩ := g1.trans k1
          exact ⟨by omega, by omega, by simp [costM] at a3 ⊢; omega⟩
    | atom =>
      simp only [fuelM] at hn
      have hps := ha rfl
      rw [runM]
      have fin : ∀ (b' : Bs) (S : Nat → Bool), Gd (stepM b) b' 0 → b'.pos ≤ s.size + 2 → RunOk s .atom d b (oneM b' S) := by
        intro b' S hg hp'
        obtain ⟨g1, g2, g3⟩ := hg.trans (gd_one b' S)
        simp only [stepM] at g1 g2 g3
        refine ⟨⟨by omega, g2, by simp [costM]; omega⟩, by simp [oneM], by simp [oneM], ?_, fun _ => ⟨by omega, by omega⟩⟩
        show b'.pos ≤ _
        omega
      have hsp : (stepM b).pos = b.pos + 1 := rfl
      split
      · split
        · exact fin _ _ (gd_fail _ _) (by rw [failM_pos, hsp]; omega)
        · rename_i hd8
          have h := ih .either (d + 1) (stepM b) (by omega) (by rw [hsp]; omega) (fun h => by cases h) trivial (by simp only [fuelM, stepM]; omega)
          obtain ⟨h1, h2, h3, h4, _⟩ := h
          generalize runM s n .either (d + 1) (stepM b) = r at *
          obtain ⟨g1, g2, g3⟩ := h1
          simp only [stepM, costM] at g1 g2 g3
          have hcp := closeM_pos s r.1
          have hcs := closeM_sts s r.1
          exact ⟨⟨by dsimp only; omega, by dsimp only; rw [hcs]; exact g2, by simp only [costM]; rw [hcs]; omega⟩, by dsimp only; rw [hcs]; exact h2, by dsimp only; rw [hcs]; exact h3, by dsimp only; omega, fun _ => ⟨by dsimp only; omega, by dsimp only; rw [hcs]; omega⟩⟩
      · split
        · have hc := classM_pos s (stepM b)
          refine fin _ _ ⟨hc.1, by rw [classM_len]; exact Nat.le_refl _, by rw [classM_len]; omega⟩ ?_
          have := hc.2 (by rw [hsp]; omega)
          omega
        · split
          · exact fin _ _ (gd_refl _) (by rw [hsp]; omega)
          · split
            · split
              · exact fin _ _ (gd_step' (gd_fail _ _) (by omega)) (by simp only [stepM, failM_pos]; omega)
              · exact fin _ _ (gd_step' (gd_refl _) (by omega)) (by simp only [stepM]; omega)
            · split
              · exact fin _ _ (gd_fail _ _) (by rw [failM_pos, hsp]; omega)
              · exact fin _ _ (gd_refl _) (by rw [hsp]; omega)
end Go.Proofs.YtgbapkechngnmaaGreat
/- Boxes of six and of seven cells. No program in sight. -/
namespace Go.Proofs.YtgbapkechngnmaaGreat
open Go.RowKit
def C6 (p : Nat) (a b c d e f : Value) (W : World) : Prop := W.cell? ⟨p, 0, none⟩ = some a ∧ W.cell? ⟨p, 1, none⟩ = some b ∧ W.cell? ⟨p, 2, none⟩ = some c ∧ W.cell? ⟨p, 3, none⟩ = some d ∧ W.cell? ⟨p, 4, none⟩ = some e ∧ W.cell? ⟨p, 5, none⟩ = some f
end Go.Proofs.YtgbapkechngnmaaGreat
/- The pattern's builder in memory: which blocks it owns, what lies there, what a step turns. -/
namespace Go.Proofs.YtgbapkechngnmaaGreat
open Go.RowKit
/-! what may change: blocks of own, and new ones -/
structure Keep (own : Nat → Prop) (w w' : World) : Prop where
 os : w'.os = w.os
 tape : w'.tape = w.tape
 output : w'.output = w.output
 size : w.heap.size ≤ w'.heap.size
 block : ∀ k, k < w.heap.size → ¬ own k → w'.heap[k]? = w.heap[k]?
theorem Keep.refl (own : Nat → Prop) (w : World) : Keep own w w := ⟨rfl, rfl, rfl, Nat.le_refl _, fun _ _ _ => rfl⟩
theorem Keep.of_below {own : Nat → Prop} {w w' : World} (h : Below w.heap.size w w') : Keep own w w' := ⟨h.os, h.tape, h.output, h.size, fun k hk _ => h.block k hk⟩
theorem Keep.trans {own own' : Nat → Prop} {a b c : World} (h : Keep own a b) (h' : Keep own' b c) (hs : ∀ k, own' k → own k ∨ a.heap.size ≤ k) : Keep own a c :=
 ⟨h'.os.trans h.os, h'.tape.trans h.tape, h'.output.trans h.output, Nat.le_trans h.size h'.size, fun k hk hn =>
  (h'.block k (Nat.lt_of_lt_of_le hk h.size) (fun h0 => by rcases hs k h0 with h1 | h1; (· exact hn h1); (· omega))).trans (h.block k hk hn)⟩
theorem Keep.mono {own own' : Nat → Prop} {a b : World} (h : Keep own a b) (hs : ∀ k, own k → own' k) : Keep own' a b := ⟨h.os, h.tape, h.output, h.size, fun k hk hn => h.block k hk (fun h0 => hn (hs k h0))⟩
theorem Keep.below {own : Nat → Prop} {a b : World} {B : Nat} (h : Keep own a b) (hB : B ≤ a.heap.size) (hs : ∀ k, own k → B ≤ k) : Below B a b := ⟨h.os, h.tape, h.output, h.size, fun k hk => h.block k (by omega) (fun h0 => by have := hs k h0; omega)⟩
theorem Keep.setCell {own : Nat → Prop} {a b : World} (h : Keep own a b) {p : Addr} (hp : own p.block) (v : Value) : Keep own a (b.setCell p v) :=
 ⟨h.os, h.tape, h.output, by simpa using h.size, fun k hk hn => (heap_setCell_other b p k v (fun e => hn (e ▸ hp))).trans (h.block k hk hn)⟩
theorem Keep.grown {own : Nat → Prop} {a b c : World} (h : Keep own a b) {row : Option Nat} (hg : b.grownBy c row) (hr : ∀ k, row = some k → own k ∨ a.heap.size ≤ k) : Keep own a c :=
 ⟨hg.os.trans h.os, hg.tape.trans h.tape, hg.output.trans h.output, Nat.le_trans h.size hg.size, fun k hk hn =>
  (hg.block k (Nat.lt_of_lt_of_le hk h.size) (fun e => by rcases hr k e.symm with h1 | h1; (· exact hn h1); (· omega))).trans (h.block k hk hn)⟩
theorem Keep.drew {own : Nat → Prop} {a b : World} (h : Keep own a b) : Keep own a b.drew := ⟨h.os, h.tape, h.output, h.size, h.block⟩
theorem Keep.alloc {own : Nat → Prop} {a b : World} (h : Keep own a b) (o : Obj) : Keep own a (b.alloc o) :=
 ⟨h.os, h.tape, h.output, by rw [World.size_alloc]; have := h.size; omega, fun k hk hn => (Below.heap_alloc b o k (Nat.lt_of_lt_of_le hk h.size)).trans (h.block k hk hn)⟩
def Stp (own : Nat → Prop) (w : World) (own' : Nat → Prop) (w' : World) : Prop := Keep own w w' ∧ ∀ k, own' k → own k ∨ w.heap.size ≤ k
theorem Stp.refl (own : Nat → Prop) (w : World) : Stp own w own w := ⟨Keep.refl own w, fun _ h => .inl h⟩
theorem Stp.trans {o1 o2 o3 : Nat → Prop} {a b c : World} (h : Stp o1 a o2 b) (h' : Stp o2 b o3 c) : Stp o1 a o3 c :=
 ⟨h.1.trans h'.1 h.2, fun k hk => by
  rcases h'.2 k hk with h0 | h0
  ·exact h.2 k h0
  ·exact .inr (Nat.le_trans h.1.size h0)⟩
theorem Stp.of_below {own : Nat → Prop} {w w' : World} (h : Below w.heap.size w w') : Stp own w own w' := ⟨Keep.of_below h, fun _ h => .inl h⟩
theorem Stp.setCell {own : Nat → Prop} {w : World} {p : Addr} (hp : own p.block) (v : Value) : Stp own w own (w.setCell p v) := ⟨(Keep.refl own w).setCell hp v, fun _ h => .inl h⟩
theorem Stp.blk {own own' : Nat → Prop} {w w' : World} (h : Stp own w own' w') {k : Nat} {o : Obj} (hk : w.heap[k]? = some o) (hn : ¬ own k) : w'.heap[k]? = some o :=
 (h.1.block k (Array.getElem?_eq_some_iff.1 hk).1 hn).trans hk
theorem Stp.not {own own' : Nat → Prop} {w w' : World} (h : Stp own w own' w') {k : Nat} (hk : k < w.heap.size) (hn : ¬ own k) : ¬ own' k := fun h0 => by
 rcases h.2 k h0 with h1 | h1
 ·exact hn h1
 ·omega
/-! a set of bytes in memory: four words -/
def WordsOf (f : Nat → Bool) (ws : List Nat) : Prop := ws.length = 4 ∧ (∀ x ∈ ws, x < 18446744073709551616) ∧ ∀ c, c < 256 → (ws.getD (c / 64) 0).testBit (c % 64) = f c
def SetAt (w : World) (p : Nat) (f : Nat → Bool) : Prop := ∃ ws, WordsOf f ws ∧ w.heap[p]? = some (.cells (ws.map fun (n : Nat) => Value.int .u64 n).toArray 205 (0, 0))
theorem SetAt.blk {w w' : World} {p : Nat} {f : Nat → Bool} (h : SetAt w p f) (he : w'.heap[p]? = w.heap[p]?) : SetAt w' p f := by
 obtain ⟨ws, h1, h2⟩ := h
 exact ⟨ws, h1, he.trans h2⟩
theorem SetAt.lt {w : World} {p : Nat} {f : Nat → Bool} (h : SetAt w p f) : p < w.heap.size := by
 obtain ⟨ws, h1, h2⟩ := h
 exact (Array.getElem?_eq_some_iff.1 h2).1
/-! rows owned, kept -/
theorem ownsRow_blk {w w' : World} {base : Nat} {e : TypeId} {size : Nat} {v : Value} {n : Nat} {xs : List Value} (h : w.ownsRow base e size v n xs) (hk : ∀ k, v.ownBlock = some k → w'.heap[k]? = w.heap[k]?) : w'.ownsRow base e size v n xs := by
 refine ⟨h.1, ?_⟩
 rcases h.2 with hn | ⟨g, cap, cur, rfl, hb, hg, rest⟩
 ·exact .inl hn
 ·exact .inr ⟨g, cap, cur, rfl, hb, (hk g rfl).trans hg, rest⟩
theorem ownsRow_set {w : World} {base : Nat} {e : TypeId} {size : Nat} {v : Value} {n : Nat} {xs : List Value} (h : w.ownsRow base e size v n xs) {g j : Nat} (hg : v.ownBlock = some g) (u : Value) : (w.setCell ⟨g, j, none⟩ u).ownsRow base e size v n (xs.set j u) := by
 refine ⟨by rw [List.length_set]; exact h.1, ?_⟩
 rcases h.2 with ⟨rfl, _⟩ | ⟨g', cap, cur, rfl, hb, hg', hle, hcap, hsz, htk⟩
 ·simp [Value.ownBlock] at hg
 ·obtain rfl : g' = g := by simpa [Value.ownBlock] using hg
  refine .inr ⟨g', cap, cur.setIfInBounds j u, rfl, hb, heap_setCell_same w g' j cur e u hg', hle, hcap, by simpa using hsz, ?_⟩
  rw [Array.toList_setIfInBounds, List.take_set, htk]
theorem ownsRow_cell {w : World} {base : Nat} {e : TypeId} {size : Nat} {v : Value} {n : Nat} {xs : List Value} (h : w.ownsRow base e size v n xs) {g j : Nat} {u : Value} (hg : v.ownBlock = some g) (hj : xs[j]? = some u) : w.cell? ⟨g, j, none⟩ = some u ∧ w.frozen? ⟨g, j, none⟩ = false := by
 have h1 := h.cells hg j u hj
 rw [show (⟨g, 0, none⟩ : Addr).add j = ⟨g, 0 + j, none⟩ from by unfold Addr.add; split <;> simp_all] at h1
 rw [Nat.zero_add] at h1
 refine ⟨h1, ?_⟩
 rcases h.2 with ⟨rfl, _⟩ | ⟨g', cap, cur, rfl, hb, hg', _⟩
 ·simp [Value.ownBlock] at hg
 ·obtain rfl : g' = g := by simpa [Value.ownBlock] using hg
  exact frozen_of_row w g' j cur e hg'
/-! the states -/
def PtrAt (w : World) (own : Nat → Prop) (x : St) (v : Value) : Prop := match x.set with
 | none => v = .pointer none
 | some f => ∃ k, v = .pointer (some ⟨k, 0, none⟩) ∧ SetAt w k f ∧ own k
def freeC (l : List Nat) : List Value := l.map fun (n : Nat) => Value.int .i64 (n : Int)
def FreeAt (w : World) (own : Nat → Prop) (x : St) (v : Value) : Prop := w.ownsRow 0 3 1 v x.free.length (freeC x.free) ∧ ∀ k, v.ownBlock = some k → own k
def stC : List St → List (Value × Value) → List Value
 | x :: l, e :: m => e.1 :: .int .i64 x.next :: e.2 :: stC l m
 | _, _ => []
theorem stC_app : ∀ (l : List St) (m : List (Value × Value)) (x : St) (e : Value × Value), m.length = l.length → stC (l ++ [x]) (m ++ [e]) = stC l m ++ [e.1, .int .i64 x.next, e.2]
 | [], [], _, _, _ => rfl
 | [], _ :: _, _, _, h => by cases h
 | _ :: _, [], _, _, h => by cases h
 | _ :: l, _ :: m, x, e, h => by simp [stC, stC_app l m x e (by simpa using h)]
theorem stC_at : ∀ (l : List St) (m : List (Value × Value)) (i : Nat) (x : St) (e : Value × Value), l[i]? = some x → m[i]? = some e →
  (stC l m)[i * 3]? = some e.1 ∧ (stC l m)[i * 3 + 1]? = some (.int .i64 x.next) ∧ (stC l m)[i * 3 + 2]? = some e.2
 | [], _, _, _, _, h, _ => by simp at h
 | _ :: _, [], _, _, _, _, h => by simp at h
 | y :: l, d :: m, 0, x, e, h, h' => by simp at h h'; subst h h'; exact ⟨rfl, rfl, rfl⟩
 | y :: l, d :: m, i + 1, x, e, h, h' => by
  have := stC_at l m i x e (by simpa using h) (by simpa using h')
  rw [show (i + 1) * 3 = i * 3 + 3 by omega]
  exact this
theorem stC_set2 : ∀ (l : List St) (m : List (Value × Value)) (i : Nat) (e : Value × Value) (v : Value), m[i]? = some e → (stC l m).set (i * 3 + 2) v = stC l (m.set i (e.1, v))
 | [], m, i, e, v, h => by cases m <;> simp [stC]
 | _ :: _, [], _, _, _, h => by simp at h
 | y :: l, d :: m, 0, e, v, h => by simp at h; subst h; rfl
 | y :: l, d :: m, i + 1, e, v, h => by
  have := stC_set2 l m i e v (by simpa using h)
  rw [show (i + 1) * 3 + 2 = (i * 3 + 2) + 3 by omega]
  simp [stC, this]
theorem stC_addF : ∀ (l : List St) (m : List (Value × Value)) (f t : Nat), stC (addF l f t) m = stC l m
 | [], _, _, _ => rfl
 | x :: l, [], f, t => by cases f <;> rfl
 | x :: l, e :: m, 0, t => rfl
 | x :: l, e :: m, f + 1, t => by simp [addF, stC, stC_addF l m f t]
theorem addF_get : ∀ (l : List St) (f t i : Nat), (addF l f t)[i]? = (l[i]?).map fun x => if i = f then { x with free := x.free ++ [t] } else x
 | [], _, _, _ => by simp [addF]
 | x :: l, 0, t, 0 => by simp [addF]
 | x :: l, 0, t, i + 1 => by simp [addF]
 | x :: l, f + 1, t, 0 => by simp [addF]
 | x :: l, f + 1, t, i + 1 => by simp [addF, addF_get l f t i]
structure BldV (w : World) (g : Nat) (s : ByteArray) (b : Bs) (own : Nat → Prop) (sv : Value) (es : List (Value × Value)) : Prop where
 blk : w.heap[g]? = some (.cells #[.string s, .int .i64 b.pos, .int .i64 b.err, sv] 130 (0, 0))
 og : own g
 lt : ∀ k, own k → k < w.heap.size
 len : es.length = b.sts.length
 row : w.ownsRow 0 159 3 sv b.sts.length (stC b.sts es)
 orow : ∀ k, sv.ownBlock = some k → own k ∧ k ≠ g
 ptr : ∀ (i : Nat) x (e : Value × Value), b.sts[i]? = some x → es[i]? = some e → PtrAt w own x e.1
 free : ∀ (i : Nat) x (e : Value × Value), b.sts[i]? = some x → es[i]? = some e → FreeAt w own x e.2
 far : ∀ (i : Nat) (e : Value × Value) k, es[i]? = some e → e.2.ownBlock = some k → k ≠ g ∧ sv.ownBlock ≠ some k
 pfar : ∀ (i : Nat) (e : Value × Value) k, es[i]? = some e → e.1 = .pointer (some ⟨k, 0, none⟩) → k ≠ g ∧ sv.ownBlock ≠ some k ∧ ∀ (j : Nat) (e' : Value × Value), es[j]? = some e' → e'.2.ownBlock ≠ some k
 apart : ∀ (i j : Nat) (e e' : Value × Value) k, es[i]? = some e → es[j]? = some e' → e.2.ownBlock = some k → e'.2.ownBlock = some k → i = j
def Bld (w : World) (g : Nat) (s : ByteArray) (b : Bs) (own : Nat → Prop) : Prop := ∃ sv es, BldV w g s b own sv es
theorem PtrAt.kept {w w' : World} {own : Nat → Prop} {x : St} {v : Value} (h : PtrAt w own x v) (hk : ∀ k, v = .pointer (some ⟨k, 0, none⟩) → w'.heap[k]? = w.heap[k]?) : PtrAt w' own x v := by
 unfold PtrAt at h ⊢
 split
 ·rename_i e; rw [e] at h; exact h
 ·rename_i f e
  rw [e] at h
  obtain ⟨k, h1, h2, h3⟩ := h
  exact ⟨k, h1, h2.blk (hk k h1), h3⟩
theorem PtrAt.own {w : World} {own : Nat → Prop} {x : St} {v : Value} (h : PtrAt w own x v) {k : Nat} (hv : v = .pointer (some ⟨k, 0, none⟩)) : own k := by
 unfold PtrAt at h
 split at h
 ·rw [hv] at h; cases h
 ·obtain ⟨k', h1, _, h3⟩ := h
  rw [hv] at h1
  simp at h1
  exact h1 ▸ h3
theorem PtrAt.mono {w : World} {own own' : Nat → Prop} {x : St} {v : Value} (h : PtrAt w own x v) (ho : ∀ k, own k → own' k) : PtrAt w own' x v := by
 unfold PtrAt at h ⊢
 split
 ·rename_i e; rw [e] at h; exact h
 ·rename_i f e
  rw [e] at h
  obtain ⟨k, h1, h2, h3⟩ := h
  exact ⟨k, h1, h2, ho k h3⟩
theorem BldV.kept {w w' : World} {g : Nat} {s : ByteArray} {b : Bs} {own : Nat → Prop} {sv : Value} {es : List (Value × Value)} (h : BldV w g s b own sv es) (hz : w.heap.size ≤ w'.heap.size) (hk : ∀ k, own k → w'.heap[k]? = w.heap[k]?) : BldV w' g s b own sv es where
 blk := (hk g h.og).trans h.blk
 og := h.og
 lt := fun k hk => Nat.lt_of_lt_of_le (h.lt k hk) hz
 len := h.len
 row := ownsRow_blk h.row (fun k e => hk k (h.orow k e).1)
 orow := h.orow
 ptr := fun i x e hx he => (h.ptr i x e hx he).kept (fun k hv => hk k ((h.ptr i x e hx he).own hv))
 free := fun i x e hx he => ⟨ownsRow_blk (h.free i x e hx he).1 (fun k e' => hk k ((h.free i x e hx he).2 k e')), (h.free i x e hx he).2⟩
 far := h.far
 pfar := h.pfar
 apart := h.apart
theorem Bld.below {w w' : World} {g : Nat} {s : ByteArray} {b : Bs} {own : Nat → Prop} (h : Bld w g s b own) (hb : Below w.heap.size w w') : Bld w' g s b own := by
 obtain ⟨sv, es, h⟩ := h
 exact ⟨sv, es, h.kept hb.size (fun k hk => hb.block k (h.lt k hk))⟩
theorem Bld.lt {w : World} {g : Nat} {s : ByteArray} {b : Bs} {own : Nat → Prop} (h : Bld w g s b own) : ∀ k, own k → k < w.heap.size := by
 obtain ⟨sv, es, h⟩ := h
 exact h.lt
theorem Bld.og {w : World} {g : Nat} {s : ByteArray} {b : Bs} {own : Nat → Prop} (h : Bld w g s b own) : own g := by
 obtain ⟨sv, es, h⟩ := h
 exact h.og
theorem Bld.box {w : World} {g : Nat} {s : ByteArray} {b : Bs} {own : Nat → Prop} (h : Bld w g s b own) {p : Addr} (hn : ¬ own p.block) (v : Value) : Bld (w.setCell p v) g s b own := by
 obtain ⟨sv, es, h⟩ := h
 exact ⟨sv, es, h.kept (by simp) (fun k hk => heap_setCell_other w p k v (fun e => hn (e ▸ hk)))⟩
theorem BldV.cells {w : World} {g : Nat} {s : ByteArray} {b : Bs} {own : Nat → Prop} {sv : Value} {es : List (Value × Value)} (h : BldV w g s b own sv es) :
  w.cell? ⟨g, 0, none⟩ = some (.string s) ∧ w.cell? ⟨g, 1, none⟩ = some (.int .i64 b.pos) ∧ w.cell? ⟨g, 2, none⟩ = some (.int .i64 b.err) ∧ w.cell? ⟨g, 3, none⟩ = some sv ∧ ∀ j, w.frozen? ⟨g, j, none⟩ = false :=
 ⟨by rw [cell_of_row _ _ _ _ _ _ h.blk]; rfl, by rw [cell_of_row _ _ _ _ _ _ h.blk]; rfl, by rw [cell_of_row _ _ _ _ _ _ h.blk]; rfl, by rw [cell_of_row _ _ _ _ _ _ h.blk]; rfl, fun j => frozen_of_row w g j _ _ h.blk⟩
theorem BldV.turn {w w' : World} {g : Nat} {s : ByteArray} {b b' : Bs} {own : Nat → Prop} {sv : Value} {es : List (Value × Value)} (h : BldV w g s b own sv es) (hz : w'.heap.size = w.heap.size) (hs : b'.sts = b.sts)
  (hg : w'.heap[g]? = some (.cells #[.string s, .int .i64 b'.pos, .int .i64 b'.err, sv] 130 (0, 0))) (hk : ∀ k, k ≠ g → w'.heap[k]? = w.heap[k]?) : BldV w' g s b' own sv es where
 blk := hg
 og := h.og
 lt := fun k hk => by rw [hz]; exact h.lt k hk
 len := by rw [hs]; exact h.len
 row := by rw [hs]; exact ownsRow_blk h.row (fun k e => hk k (h.orow k e).2)
 orow := h.orow
 ptr := fun i x e hx he => by rw [hs] at hx; exact (h.ptr i x e hx he).kept (fun k hv => hk k (h.pfar i e k he hv).1)
 free := fun i x e hx he => by rw [hs] at hx; exact ⟨ownsRow_blk (h.free i x e hx he).1 (fun k e' => hk k (h.far i e k he e').1), (h.free i x e hx he).2⟩
 far := h.far
 pfar := h.pfar
 apart := h.apart
theorem Bld.step {w : World} {g : Nat} {s : ByteArray} {b : Bs} {own : Nat → Prop} (h : Bld w g s b own) : Bld (w.setCell ⟨g, 1, none⟩ (.int .i64 ((b.pos : Int) + 1))) g s (stepM b) own := by
 obtain ⟨sv, es, h⟩ := h
 refine ⟨sv, es, h.turn (by simp) rfl ?_ (fun k hk => heap_setCell_other _ _ _ _ hk)⟩
 rw [heap_setCell_same w g 1 _ _ _ h.blk]
 rfl
theorem Bld.err {w : World} {g : Nat} {s : ByteArray} {b : Bs} {own : Nat → Prop} (h : Bld w g s b own) (e : Int) : Bld (w.setCell ⟨g, 2, none⟩ (.int .i64 e)) g s { b with err := e } own := by
 obtain ⟨sv, es, h⟩ := h
 refine ⟨sv, es, h.turn (by simp) rfl ?_ (fun k hk => heap_setCell_other _ _ _ _ hk)⟩
 rw [heap_setCell_same w g 2 _ _ _ h.blk]
 rfl
theorem get_snoc {α : Type} {l : List α} {x y : α} {i : Nat} (h : (l ++ [x])[i]? = some y) : l[i]? = some y ∨ (i = l.length ∧ y = x) := by
 rcases Nat.lt_or_ge i l.length with hi | hi
 ·rw [List.getElem?_append_left hi] at h; exact .inl h
 ·rw [List.getElem?_append_right hi] at h
  rcases Nat.eq_zero_or_pos (i - l.length) with h0 | h0
  ·rw [h0] at h; simp at h; exact .inr ⟨by omega, h.symm⟩
  ·rw [List.getElem?_eq_none (by simp; omega)] at h; cases h
theorem BldV.node {w w1 : World} {g : Nat} {s : ByteArray} {b : Bs} {own : Nat → Prop} {sv sv' : Value} {es : List (Value × Value)} (h : BldV w g s b own sv es) (hg : w.grownBy w1 sv.ownBlock)
  (hr : w1.ownsRow 0 159 3 sv' (b.sts.length + 1) (stC b.sts es ++ [.pointer none, .int .i64 0, .slice none 0 0])) {k' : Nat} (hk' : sv'.ownBlock = some k') (hl : sv.ownBlock = some k' ∨ w.heap.size ≤ k') (hlt : k' < w1.heap.size) :
  BldV (w1.setCell ⟨g, 3, none⟩ sv') g s (nodeM b) (fun k => own k ∨ k = k') sv' (es ++ [(.pointer none, .slice none 0 0)]) := by
 have hgs : sv.ownBlock ≠ some g := fun e => (h.orow g e).2 rfl
 have hgl := h.lt g h.og
 have hgk : g ≠ k' := by
  rintro rfl
  rcases hl with h1 | h1
  ·exact hgs h1
  ·omega
 have hold : ∀ k, own k → k ≠ g → sv.ownBlock ≠ some k → (w1.setCell ⟨g, 3, none⟩ sv').heap[k]? = w.heap[k]? := fun k hk h1 h2 =>
  (heap_setCell_other w1 ⟨g, 3, none⟩ k sv' h1).trans (hg.block k (h.lt k hk) (fun e => h2 e.symm))
 have hnk : ∀ k, own k → sv.ownBlock ≠ some k → k ≠ k' := by
  rintro k hk h1 rfl
  rcases hl with h2 | h2
  ·exact h1 h2
  ·have := h.lt k hk; omega
 have hg1 : w1.heap[g]? = some (.cells #[.string s, .int .i64 b.pos, .int .i64 b.err, sv] 130 (0, 0)) := (hg.block g hgl (fun e => hgs e.symm)).trans h.blk
 refine ⟨?_, .inl h.og, ?_, ?_, ?_, ?_, ?_, ?_, ?_, ?_, ?_⟩
 ·rw [heap_setCell_same w1 g 3 _ _ _ hg1]; rfl
 ·rintro k (hk | rfl)
  ·have := h.lt k hk; have := hg.size; simp; omega
  ·simpa using hlt
 ·simp [nodeM, h.len]
 ·have := ownsRow_blk hr (w' := w1.setCell ⟨g, 3, none⟩ sv') (fun k e => heap_setCell_other w1 ⟨g, 3, none⟩ k sv' (by rw [hk'] at e; exact fun e' => hgk (e'.symm.trans (Option.some.inj e).symm)))
  simp only [nodeM, List.length_append, List.length_cons, List.length_nil]
  rw [stC_app b.sts es _ _ h.len]
  exact this
 ·intro k e
  rw [hk'] at e
  obtain rfl := Option.some.inj e
  exact ⟨.inr rfl, fun e => hgk e.symm⟩
 ·intro i x e hx he
  rcases get_snoc hx with hx | ⟨hi, rfl⟩
  ·rcases get_snoc he with he | ⟨hi', rfl⟩
   ·exact ((h.ptr i x e hx he).kept (fun k hv => hold k ((h.ptr i x e hx he).own hv) (h.pfar i e k he hv).1 (h.pfar i e k he hv).2.1)).mono (fun k hk => .inl hk)
   ·have := (List.getElem?_eq_some_iff.1 hx).1; have := h.len; omega
  ·rcases get_snoc he with he | ⟨hi', rfl⟩
   ·have := (List.getElem?_eq_some_iff.1 he).1; have := h.len; omega
   ·rfl
 ·intro i x e hx he
  rcases get_snoc hx with hx | ⟨hi, rfl⟩
  ·rcases get_snoc he with he | ⟨hi', rfl⟩
   ·obtain ⟨h1, h2⟩ := h.free i x e hx he
    exact ⟨ownsRow_blk h1 (fun k e' => hold k (h2 k e') (h.far i e k he e').1 (h.far i e k he e').2), fun k hk => .inl (h2 k hk)⟩
   ·have := (List.getElem?_eq_some_iff.1 hx).1; have := h.len; omega
  ·rcases get_snoc he with he | ⟨hi', rfl⟩
   ·have := (List.getElem?_eq_some_iff.1 he).1; have := h.len; omega
   ·exact ⟨World.ownsRow_nil _ _ _ _, fun k hk => by simp [Value.ownBlock] at hk⟩
 ·intro i e k he hk
  rcases get_snoc he with he | ⟨hi', rfl⟩
  ·obtain ⟨h1, h2⟩ := h.far i e k he hk
   refine ⟨h1, fun e' => ?_⟩
   rw [hk'] at e'
   have hx : ∃ x, b.sts[i]? = some x := ⟨_, List.getElem?_eq_getElem (by rw [← h.len]; exact (List.getElem?_eq_some_iff.1 he).1)⟩
   obtain ⟨x, hx⟩ := hx
   exact hnk k ((h.free i x e hx he).2 k hk) h2 (Option.some.inj e').symm
  ·simp [Value.ownBlock] at hk
 ·intro i e k he hk
  rcases get_snoc he with he | ⟨hi', rfl⟩
  ·obtain ⟨h1, h2, h3⟩ := h.pfar i e k he hk
   have hx : ∃ x, b.sts[i]? = some x := ⟨_, List.getElem?_eq_getElem (by rw [← h.len]; exact (List.getElem?_eq_some_iff.1 he).1)⟩
   obtain ⟨x, hx⟩ := hx
   refine ⟨h1, fun e' => ?_, ?_⟩
   ·rw [hk'] at e'
    exact hnk k ((h.ptr i x e hx he).own hk) h2 (Option.some.inj e').symm
   ·intro j e' he'
    rcases get_snoc he' with he' | ⟨_, rfl⟩
    ·exact h3 j e' he'
    ·simp [Value.ownBlock]
  ·simp at hk
 ·intro i j e e' k he he' hk hk''
  rcases get_snoc he with he | ⟨_, rfl⟩
  ·rcases get_snoc he' with he' | ⟨_, rfl⟩
   ·exact h.apart i j e e' k he he' hk hk''
   ·simp [Value.ownBlock] at hk''
  ·simp [Value.ownBlock] at hk
theorem get_set {α : Type} {l : List α} {x y : α} {i j : Nat} (h : (l.set i x)[j]? = some y) : (j = i ∧ y = x) ∨ (j ≠ i ∧ l[j]? = some y) := by
 rw [List.getElem?_set] at h
 split at h
 ·rename_i e
  split at h
  ·exact .inl ⟨e.symm, (Option.some.inj h).symm⟩
  ·cases h
 ·rename_i e
  exact .inr ⟨fun e' => e e'.symm, h⟩
theorem BldV.way {w w1 : World} {g : Nat} {s : ByteArray} {b : Bs} {own : Nat → Prop} {sv : Value} {es : List (Value × Value)} (h : BldV w g s b own sv es) {f t : Nat} {x : St} {e : Value × Value} (hx : b.sts[f]? = some x) (he : es[f]? = some e)
  (hg : w.grownBy w1 e.2.ownBlock) {fv : Value} {r k' : Nat} (hr : w1.ownsRow 0 3 1 fv (x.free.length + 1) (freeC x.free ++ [.int .i64 t])) (hk' : fv.ownBlock = some k') (hl : e.2.ownBlock = some k' ∨ w.heap.size ≤ k') (hlt : k' < w1.heap.size) (hsv : sv.ownBlock = some r) :
  BldV (w1.setCell ⟨r, f * 3 + 2, none⟩ fv) g s (freeM b f t) (fun k => own k ∨ k = k') sv (es.set f (e.1, fv)) := by
 obtain ⟨hr1, hr2⟩ := h.orow r hsv
 have hfl := (List.getElem?_eq_some_iff.1 hx).1
 have her : e.2.ownBlock ≠ some r := fun e' => (h.far f e r he e').2 hsv
 have hgr : g ≠ r := fun e => hr2 e.symm
 have hrk : r ≠ k' := by
  rintro rfl
  rcases hl with h1 | h1
  ·exact her h1
  ·have := h.lt r hr1; omega
 have hold : ∀ k, own k → k ≠ r → e.2.ownBlock ≠ some k → (w1.setCell ⟨r, f * 3 + 2, none⟩ fv).heap[k]? = w.heap[k]? := fun k hk h1 h2 =>
  (heap_setCell_other w1 ⟨r, f * 3 + 2, none⟩ k fv h1).trans (hg.block k (h.lt k hk) (fun e => h2 e.symm))
 have hnk : ∀ k, own k → e.2.ownBlock ≠ some k → k ≠ k' := by
  rintro k hk h1 rfl
  rcases hl with h2 | h2
  ·exact h1 h2
  ·have := h.lt k hk; omega
 have heg : e.2.ownBlock ≠ some g := fun e' => (h.far f e g he e').1 rfl
 have row1 : w1.ownsRow 0 159 3 sv b.sts.length (stC b.sts es) := ownsRow_blk h.row (fun k e' => hg.block k (h.lt k (h.orow k e').1) (fun e'' => by rw [hsv] at e'; exact her (e''.symm.trans e'.symm)))
 have xget : ∀ i, ∀ d, es[i]? = some d → ∃ y, b.sts[i]? = some y := fun i d hd => ⟨_, List.getElem?_eq_getElem (by rw [← h.len]; exact (List.getElem?_eq_some_iff.1 hd).1)⟩
 refine ⟨?_, .inl h.og, ?_, ?_, ?_, ?_, ?_, ?_, ?_, ?_, ?_⟩
 ·exact (hold g h.og hgr heg).trans h.blk
 ·rintro k (hk | rfl)
  ·have := h.lt k hk; have := hg.size; simp; omega
  ·simpa using hlt
 ·simp [freeM, addF_len, h.len]
 ·simp only [freeM, addF_len, stC_addF]
  rw [← stC_set2 b.sts es f e fv he]
  exact ownsRow_set row1 hsv fv
 ·intro k e'
  obtain ⟨h1, h2⟩ := h.orow k e'
  exact ⟨.inl h1, h2⟩
 ·intro i y d hy hd
  simp only [freeM, addF_get] at hy
  rcases get_set hd with ⟨rfl, rfl⟩ | ⟨hi, hd⟩
  ·rw [hx] at hy
   simp at hy
   subst hy
   have hp := h.ptr i x e hx he
   exact (hp.kept (fun k hv => hold k (hp.own hv) (fun e' => (h.pfar i e k he hv).2.1 (e' ▸ hsv)) ((h.pfar i e k he hv).2.2 i e he))).mono (fun k hk => .inl hk)
  ·obtain ⟨y', hy'⟩ := xget i d hd
   rw [hy'] at hy
   simp [hi] at hy
   subst hy
   have hp := h.ptr i y' d hy' hd
   exact (hp.kept (fun k hv => hold k (hp.own hv) (fun e' => (h.pfar i d k hd hv).2.1 (e' ▸ hsv)) ((h.pfar i d k hd hv).2.2 f e he))).mono (fun k hk => .inl hk)
 ·intro i y d hy hd
  simp only [freeM, addF_get] at hy
  rcases get_set hd with ⟨rfl, rfl⟩ | ⟨hi, hd⟩
  ·rw [hx] at hy
   simp at hy
   subst hy
   refine ⟨?_, fun k hk => .inr (by rw [hk'] at hk; exact (Option.some.inj hk).symm)⟩
   have := ownsRow_blk hr (w' := w1.setCell ⟨r, i * 3 + 2, none⟩ fv) (fun k e' => heap_setCell_other w1 ⟨r, i * 3 + 2, none⟩ k fv (by rw [hk'] at e'; exact fun e'' => hrk (e''.symm.trans (Option.some.inj e').symm)))
   simpa [freeC] using this
  ·obtain ⟨y', hy'⟩ := xget i d hd
   rw [hy'] at hy
   simp [hi] at hy
   subst hy
   obtain ⟨h1, h2⟩ := h.free i y' d hy' hd
   exact ⟨ownsRow_blk h1 (fun k e' => hold k (h2 k e') (fun e'' => (h.far i d k hd e').2 (e'' ▸ hsv)) (fun e'' => hi (h.apart i f d e k hd he e' e''))), fun k hk => .inl (h2 k hk)⟩
 ·intro i d k hd hk
  rcases get_set hd with ⟨rfl, rfl⟩ | ⟨hi, hd⟩
  ·dsimp only at hk
   rw [hk'] at hk
   obtain rfl := Option.some.inj hk
   refine ⟨fun e' => ?_, fun e' => ?_⟩
   ·subst e'; exact hnk _ h.og heg rfl
   ·rw [hsv] at e'; exact hrk (Option.some.inj e')
  ·exact h.far i d k hd hk
 ·intro i d k hd hk
  have hnew : ∀ k, own k → (∀ (j : Nat) (e' : Value × Value), es[j]? = some e' → e'.2.ownBlock ≠ some k) → ∀ (j : Nat) (e' : Value × Value), (es.set f (e.1, fv))[j]? = some e' → e'.2.ownBlock ≠ some k := by
   intro k hk h3 j e' he'
   rcases get_set he' with ⟨rfl, rfl⟩ | ⟨hj, he'⟩
   ·dsimp only
    rw [hk']
    exact fun e'' => hnk k hk (h3 j e he) (Option.some.inj e'').symm
   ·exact h3 j e' he'
  rcases get_set hd with ⟨rfl, rfl⟩ | ⟨hi, hd⟩
  ·obtain ⟨h1, h2, h3⟩ := h.pfar i e k he hk
   exact ⟨h1, h2, hnew k ((h.ptr i x e hx he).own hk) h3⟩
  ·obtain ⟨y', hy'⟩ := xget i d hd
   obtain ⟨h1, h2, h3⟩ := h.pfar i d k hd hk
   exact ⟨h1, h2, hnew k ((h.ptr i y' d hy' hd).own hk) h3⟩
 ·intro i j d d' k hd hd' hk hk''
  rcases get_set hd with ⟨hi, hd1⟩ | ⟨hi, hd1⟩
  ·rcases get_set hd' with ⟨hj, hd1'⟩ | ⟨hj, hd1'⟩
   ·rw [hi, hj]
   ·rw [hd1] at hk
    dsimp only at hk
    rw [hk'] at hk
    obtain rfl := Option.some.inj hk
    obtain ⟨y', hy'⟩ := xget j d' hd1'
    exact absurd rfl (hnk _ ((h.free j y' d' hy' hd1').2 _ hk'') (fun e'' => hj (h.apart j f d' e _ hd1' he hk'' e'')))
  ·rcases get_set hd' with ⟨hj, hd1'⟩ | ⟨hj, hd1'⟩
   ·rw [hd1'] at hk''
    dsimp only at hk''
    rw [hk'] at hk''
    obtain rfl := Option.some.inj hk''
    obtain ⟨y', hy'⟩ := xget i d hd1
    exact absurd rfl (hnk _ ((h.free i y' d hy' hd1).2 _ hk) (fun e'' => hi (h.apart i f d e _ hd1 he hk e'')))
   ·exact h.apart i j d d' k hd1 hd1' hk hk''
end Go.Proofs.YtgbapkechngnmaaGreat
/- pattern's builder: peek, fail: contracts. -/
namespace Go.Proofs.YtgbapkechngnmaaGreat
open Go.RowKit
theorem peekM_of {s : ByteArray} {b : Bs} (he : b.err = 0) (hp : b.pos < s.size) : peekM s b = some (byteM s b.pos) := by unfold peekM; rw [if_pos ⟨he, hp⟩]
theorem byteM_at (s : ByteArray) (k : Nat) (h : k < s.size) : ((s[k]'h).toNat : Int) = (byteM s k : Int) := by unfold byteM; rw [dif_pos h]
set_option maxHeartbeats 1600000 in
set_option maxRecDepth 100000 in
theorem peek_is (w : World) (g : Nat) (s : ByteArray) (b : Bs) (own : Nat → Prop) (o : Option Nat) (ho : peekM s b = o) (h : Bld w g s b own) (hp : b.pos ≤ 2000000) :
  Calls Tryz.prog 108 #[.pointer (some ⟨g, 0, none⟩)] w fun e w' => e = .returned (.tuple #[.int .u8 ((o.getD 0 : Nat) : Int), .bool o.isSome]) ∧ Below w.heap.size w w' := by
 obtain ⟨sv, es, hB⟩ := h
 obtain ⟨c0, c1, c2, c3, _⟩ := hB.cells
 obtain ⟨pos, err, sts⟩ := b
 dsimp only at c1 c2 hp
 clear hB
 by_cases he : err = 0
 ·subst he
  by_cases hps : pos < s.size
  ·have hb : peekM s ⟨pos, 0, sts⟩ = some (byteM s pos) := peekM_of rfl hps
   rw [hb] at ho
   subst ho
   have hn : decide ((pos : Int) < (s.size : Int)) = true := by simpa using hps
   have hn2 : decide ((s.size : Int) ≤ (pos : Int)) = false := by simpa using hps
   have hn3 : decide (s.size ≤ pos) = false := by simpa using hps
   have hi : (0 : Int) ≤ (pos : Int) := by omega
   have hi2 : (pos : Int) < (s.size : Int) := by omega
   have HB := byteM_at s pos hps
   have HB' := Lib.hid HB
   clear hb HB
   go_enter Tryz.func108, Tryz.ntmps108
   go_wp2
   go_quiet (fail)
   go_wp2
   go_quiet (fail)
   go_wp2
   go_ret2
   refine ⟨?_, ?_⟩
   ·simp only [Option.getD_some, Option.isSome_some]
    rw [← HB'.out]
    rfl
   ·exact bl_drewN (bl_drewN (Below.refl _ _) _) _
  ·have hb : peekM s ⟨pos, 0, sts⟩ = none := by unfold peekM; rw [if_neg (fun h => hps h.2)]
   rw [hb] at ho
   subst ho
   have hn : decide ((pos : Int) < (s.size : Int)) = false := by simpa using hps
   have hn2 : decide ((s.size : Int) ≤ (pos : Int)) = true := by simp; omega
   have hn3 : decide (s.size ≤ pos) = true := by simp; omega
   clear hb
   go_enter Tryz.func108, Tryz.ntmps108
   go_wp2
   go_quiet (fail)
   go_wp2
   go_ret2
   exact ⟨rfl, bl_drewN (Below.refl _ _) _⟩
 ·have hb : peekM s ⟨pos, err, sts⟩ = none := by unfold peekM; rw [if_neg (fun h => he h.1)]
  rw [hb] at ho
  subst ho
  have hd : (err != 0) = true := by simpa using he
  have hd2 : (err == 0) = false := by simpa using he
  clear hb
  go_enter Tryz.func108, Tryz.ntmps108
  go_wp2
  go_quiet (fail)
  go_wp2
  go_ret2
  exact ⟨rfl, bl_drewN (Below.refl _ _) _⟩
set_option maxHeartbeats 800000 in
set_option maxRecDepth 100000 in
theorem fail_is (w : World) (g : Nat) (s : ByteArray) (b : Bs) (own : Nat → Prop) (e0 : Int) (h : Bld w g s b own) :
  Calls Tryz.prog 85 #[.pointer (some ⟨g, 0, none⟩), .int .i64 e0] w fun e w' => e = .returned (.tuple #[]) ∧ Bld w' g s (failM b e0) own ∧ Stp own w own w' := by
 have h' := h
 obtain ⟨sv, es, hB⟩ := h
 obtain ⟨c0, c1, c2, c3, fz⟩ := hB.cells
 have f2 := fz 2
 have hog := hB.og
 obtain ⟨pos, err, sts⟩ := b
 dsimp only at c1 c2
 clear hB fz
 by_cases he : err = 0
 ·subst he
  have HN := Lib.hid (h'.err e0)
  have HF : Hid (failM ⟨pos, 0, sts⟩ e0 = ⟨pos, e0, sts⟩) := Lib.hid rfl
  clear h'
  go_enter Tryz.func85, Tryz.ntmps85
  go_wp2
  go_end0
  refine ⟨rfl, ?_, Stp.setCell hog _⟩
  rw [HF.out]
  exact HN.out
 ·have hd2 : (err == 0) = false := by simpa using he
  have HF : Hid (failM ⟨pos, err, sts⟩ e0 = ⟨pos, err, sts⟩) := Lib.hid (by unfold failM; rw [if_neg he])
  have HN := Lib.hid h'
  clear h'
  go_enter Tryz.func85, Tryz.ntmps85
  go_wp2
  go_end0
  refine ⟨rfl, ?_, Stp.refl _ _⟩
  rw [HF.out]
  exact HN.out
end Go.Proofs.YtgbapkechngnmaaGreat
/- Regions that draw their order and END IN A STORE (number L, which waits for all): the fact S is shown behind every operation but that one. No program in sight. -/
namespace Go
variable {P : Program} {ops : Array Oper} {Q : Exit → Act → World → Prop} {md : Region.Mode} {S : World → Prop} {L : Nat}
def wpAnyEnd (P : Program) (md : Region.Mode) (ops : Array Oper) (Q : Exit → Act → World → Prop) (S : World → Prop) (L : Nat) : Nat → Array Bool → Act → World → Prop
 | 0, listed, a, w => Region.ready md ops listed = [] ∧ Q .normal a w
 | fuel + 1, listed, a, w => (Region.ready md ops listed = [] → Q .normal a w) ∧
  ∀ i ∈ Region.ready md ops listed, wpOp P ops Q i (fun a' w' => ((listed.setIfInBounds i true).getD L true = false → S w') ∧ wpAnyEnd P md ops Q S L fuel (listed.setIfInBounds i true) a' w') a w
theorem wpAny_of_End : ∀ (fuel : Nat) (listed : Array Bool) (a : Act) (w : World), wpAnyEnd P md ops Q S L fuel listed a w → wpAny P md ops Q fuel listed a w
 | 0, _, _, _, h => h
 | fuel + 1, _, _, _, h => ⟨h.1, fun i hi => wpOp_mono (fun a' w' h' => wpAny_of_End fuel _ a' w' h'.2) (h.2 i hi)⟩
def waitsB (md : Region.Mode) (ops : Array Oper) (L i : Nat) : Bool := match ops[L]? with | some o => o.after.any (fun e => Region.binds md e && e.on == i) | none => false
theorem not_ready {listed : Array Bool} {i : Nat} (hw : waitsB md ops L i = true) (hi : i ∈ Region.ready md ops listed) : L ∉ Region.ready md ops listed := by
 intro hL
 obtain ⟨_, oL, hoL, hall⟩ := mem_ready.1 hL
 unfold waitsB at hw
 rw [hoL] at hw
 simp only [Array.any_eq_true, Bool.and_eq_true, beq_iff_eq] at hw
 obtain ⟨k, hk, hb, hon⟩ := hw
 have h1 := hall oL.after[k] (Array.getElem_mem hk) hb
 have h0 := (mem_ready.1 hi).1
 rw [hon] at h1
 rcases Nat.lt_or_ge i listed.size with h' | h'
 ·simp [h'] at h0 h1; rw [h0] at h1; cases h1
 ·simp [Array.getElem?_eq_none h'] at h1
theorem wpAnyEnd_first {i : Nat} {oi : Oper} {v : Value} (hi : ops[i]? = some oi) (hsel : ∀ (j : Nat) (o : Oper) cs b, ops[j]? = some o → o.op ≠ .select cs b)
  (hQ : ∀ c a w, Q (.panic c) (a.put oi.dst v) w → Q (.panic c) a w) (hL : waitsB md ops L i = true) :
  ∀ (fuel : Nat) (listed : Array Bool) (a : Act) (w : World),
   (∀ j oj, ops[j]? = some oj → j ≠ i → listed.getD j true = false → (∀ e ∈ oj.after, Region.binds md e = true → e.on ≠ i) → oi.apart ops oj = true) →
   i ∈ Region.ready md ops listed → listed.getD L true = false → YieldsIf P ops S oi v a → S w →
   wpAnyEnd P md ops Q S L fuel (listed.setIfInBounds i true) (a.put oi.dst v) w → wpAnyEnd P md ops Q S L (fuel + 1) listed a w := by
 intro fuel
 induction fuel with
 | zero =>
  intro listed a w _ hr _ hy hS H
  refine ⟨fun h => (by rw [h] at hr; cases hr), fun j hj => ?_⟩
  by_cases hji : j = i
  ·subst hji; exact hy.wpOp hi hS ⟨fun _ => hS, H⟩
  ·have := ready_mono hj hji
   rw [H.1] at this
   cases this
 | succ fuel ih =>
  intro listed a w hfree hr hun0 hy hS H
  refine ⟨fun h => (by rw [h] at hr; cases hr), fun j hj => ?_⟩
  by_cases hji : j = i
  ·subst hji; exact hy.wpOp hi hS ⟨fun _ => hS, H⟩
  ·have hjL : j ≠ L := fun e => not_ready hL hr (e ▸ hj)
   have hiL : i ≠ L := fun e => not_ready hL hr (e ▸ hr)
   have h1 := H.2 j (ready_mono hj hji)
   obtain ⟨hjun, oj, hoj, hall⟩ := mem_ready.1 hj
   have hnot : ∀ e ∈ oj.after, Region.binds md e = true → e.on ≠ i := fun e he hb heq => by
    have h1 := hall e he hb
    have h0 := (mem_ready.1 hr).1
    rw [heq] at h1
    rcases Nat.lt_or_ge i listed.size with h' | h'
    ·simp [h'] at h0 h1; rw [h0] at h1; cases h1
    ·simp [Array.getElem?_eq_none h'] at h1
   have h2 := wpOp_putIf hoj (hfree j oj hoj hji hjun hnot) (fun cs b => hsel i oi cs b hi) (fun cs b => hsel j oj cs b hoj) hQ hy h1
   have hfree' : ∀ k ok, ops[k]? = some ok → k ≠ i → (listed.setIfInBounds j true).getD k true = false →
     (∀ e ∈ ok.after, Region.binds md e = true → e.on ≠ i) → oi.apart ops ok = true := fun k ok hk hki hun hno => by
    refine hfree k ok hk hki ?_ hno
    by_cases hjk : j = k
    ·subst hjk; exact hjun
    ·rw [getD_set_ne true hjk] at hun; exact hun
   have hu1 : (listed.setIfInBounds j true).getD L true = false := by rw [getD_set_ne true hjL]; exact hun0
   have hu2 : ((listed.setIfInBounds i true).setIfInBounds j true).getD L true = false := by rw [getD_set_ne true hjL, getD_set_ne true hiL]; exact hun0
   refine wpOp_mono (fun a' w' h3 => ⟨fun _ => h3.2.1 hu2, ih (listed.setIfInBounds j true) a' w' hfree' (ready_mono hr (Ne.symm hji)) hu1 h3.1 (h3.2.1 hu2) ?_⟩) h2
   rw [Array.setIfInBounds_comm _ _ hji]
   exact h3.2.2
theorem heldS_take {i d : Nat} {oi : Oper} {v : Value} {fuel : Nat} {listed : Array Bool} {a : Act} {w : World} (hi : ops[i]? = some oi) (hd : oi.dst = some d)
  (hs : Region.noSelect ops = true) (hf : Region.free md ops listed i = true) (hr : (Region.ready md ops listed).contains i = true) (hL : waitsB md ops L i = true) (hun : listed.getD L true = false)
  (hQ : ∀ c a w, Q (.panic c) (a.put (some d) v) w → Q (.panic c) a w) (hw : Region.wanted oi (yielded ops a.tmps) = true) (hS : S w)
  (hy : ∀ w, S w → (execOp a.eval oi).run P w = .ok (.value v) w)
  (h : wpAnyEnd P md ops Q S L fuel (listed.setIfInBounds i true) (a.put (some d) v) w) : wpAnyEnd P md ops Q S L (fuel + 1) listed a w :=
 wpAnyEnd_first hi (Region.noSelect_spec hs) (by rw [hd]; exact hQ) hL fuel listed a w (Region.free_spec hi hf) (by simpa using hr) hun (.inl ⟨hw, hy⟩) hS (by rw [hd]; exact h)
theorem heldS_step {i : Nat} {oi : Oper} {fuel : Nat} {listed : Array Bool} {a : Act} {w : World} (hi : ops[i]? = some oi) (hr : Region.ready md ops listed = [i])
  (h : ∀ K' : Act → World → Prop, Shut (∀ a w, S w → (S w → wpAnyEnd P md ops Q S L fuel (listed.setIfInBounds i true) a w) → K' a w) → if Region.wanted oi (yielded ops a.tmps) = true then Oper.wp P oi a w K' Q else K' (a.put oi.dst undef) w) : wpAnyEnd P md ops Q S L (fuel + 1) listed a w :=
 ⟨fun h0 => (by rw [hr] at h0; cases h0), fun j hj => by
  rw [hr] at hj
  obtain rfl := List.mem_singleton.1 hj
  exact wpOp_step hi (fun K' hK => h K' (fun a w hS hW => hK a w ⟨fun _ => hS, hW hS⟩))⟩
theorem heldS_last {i : Nat} {oi : Oper} {fuel : Nat} {listed : Array Bool} {a : Act} {w : World} (hi : ops[i]? = some oi) (hr : Region.ready md ops listed = [i]) (hl : (listed.setIfInBounds i true).getD L true = true)
  (h : ∀ K' : Act → World → Prop, Shut (∀ a w, wpAnyEnd P md ops Q S L fuel (listed.setIfInBounds i true) a w → K' a w) → if Region.wanted oi (yielded ops a.tmps) = true then Oper.wp P oi a w K' Q else K' (a.put oi.dst undef) w) : wpAnyEnd P md ops Q S L (fuel + 1) listed a w :=
 ⟨fun h0 => (by rw [hr] at h0; cases h0), fun j hj => by
  rw [hr] at hj
  obtain rfl := List.mem_singleton.1 hj
  exact wpOp_step hi (fun K' hK => h K' (fun a w hW => hK a w ⟨(fun h0 => by rw [hl] at h0; cases h0), hW⟩))⟩
theorem wpAnyEnd_done {listed : Array Bool} {a : Act} {w : World} (hr : Region.ready md ops listed = []) (h : Q .normal a w) : ∀ fuel, wpAnyEnd P md ops Q S L fuel listed a w
 | 0 => ⟨hr, h⟩
 | _ + 1 => ⟨fun _ => h, by rw [hr]; simp⟩
theorem wp_region_heldS {id : Nat} (L : Nat) {a : Act} {w : World} (hm : P.follows .mixedOrders = true) (hS : S w.drew)
  (h : S w.drew → wpAnyEnd P .any ops Q S L ops.size (Array.replicate ops.size false) a w.drew) : (Code.region id ops true).wp P Q a w :=
 wp_region_any hm (wpAny_of_End _ _ _ _ (h hS))
end Go
/- pattern's builder: node, free, one: contracts. -/
namespace Go.Proofs.YtgbapkechngnmaaGreat
open Go.RowKit
theorem info_state : (Tryz.prog.info? 159).map (fun i => (i.zero, i.size, i.bytes)) = some (some (.agg #[.pointer none, .int .i64 0, .slice none 0 0]), 3, 40) := by kernel_rfl
theorem info_intP : (Tryz.prog.info? 3).map (fun i => (i.zero, i.size, i.bytes)) = some (some (.int .i64 0), 1, 8) := by kernel_rfl
set_option maxHeartbeats 1600000 in
set_option maxRecDepth 100000 in
theorem node_is (w : World) (g : Nat) (s : ByteArray) (b : Bs) (own : Nat → Prop) (h : Bld w g s b own) (hn : b.sts.length ≤ 1000000) :
  Calls Tryz.prog 105 #[.pointer (some ⟨g, 0, none⟩)] w fun e w' => e = .returned (.int .i64 b.sts.length) ∧ ∃ own', Bld w' g s (nodeM b) own' ∧ Stp own w own' w' := by
 obtain ⟨sv, es, hB⟩ := h
 obtain ⟨c0, c1, c2, c3, fz⟩ := hB.cells
 have f3 := fz 3
 have hgl := hB.lt g hB.og
 obtain ⟨i0, hi, hz0, hz1, hz2⟩ := info_parts info_state
 have hba := alloc_below w (.cells #[.pointer none, .int .i64 0, .slice none 0 0] 159)
 have hnb : (w.alloc (.cells #[.pointer none, .int .i64 0, .slice none 0 0] 159)).heap[w.heap.size]? = some (.cells #[.pointer none, .int .i64 0, .slice none 0 0] 159 (0, 0)) := heap_alloc_new _ _
 have hB1 := hB.kept hba.size (fun k hk => hba.block k (hB.lt k hk))
 have hsz : (w.alloc (.cells #[.pointer none, .int .i64 0, .slice none 0 0] 159)).heap.size = w.heap.size + 1 := World.size_alloc _ _
 have HB1 := Lib.hid hB1
 have HNB := Lib.hid hnb
 have HSZ := Lib.hid hsz
 have hrow := hB1.row
 have hone : ∀ u ∈ ([.pointer none, .int .i64 0, .slice none 0 0] : List Value), u.oneCell' = true := by
  intro u hu; simp at hu; rcases hu with rfl | rfl | rfl <;> rfl
 have hgs : sv.ownBlock ≠ some g := fun e => (hB.orow g e).2 rfl
 have hg1 := HB1.out.blk
 have hgl1 := HB1.out.lt g HB1.out.og
 have HG1 := Lib.hid hg1
 clear fz hB1 hnb hsz hB hg1
 go_enter Tryz.func105, Tryz.ntmps105
 go_wp2_with (at_builtin; (refine wpList_append_lies _ rfl (.tmp 7) (.tmp 9) 128 rfl 0 159 i0 (.agg #[.pointer none, .int .i64 0, .slice none 0 0]) 3 40 Tryz.underlying128 hi hz0 hz1 hz2 rfl (by decide) sv b.sts.length (stC b.sts es) rfl hrow ⟨w.heap.size, 0, none⟩ 1 1 [.pointer none, .int .i64 0, .slice none 0 0] rfl rfl (World.news_of_block HNB.out) hone (by decide) (by unfold maxLen; omega) (by omega) (Nat.zero_le _) (w.heap.size + 1) (by simp) ?_); intro gr cap w1 hown hgrow hat hlt; have HW := Lib.hid (And.intro hown (And.intro hgrow (And.intro hat hlt))); have hg2 := (hgrow.block g hgl1 (fun e => hgs e.symm)).trans HG1.out; have c3' := cell_of_row w1 g 3 _ _ _ hg2; have f3' := frozen_of_row w1 g 3 _ _ hg2; clear hown hgrow hat hlt hg2)
 go_ret
 obtain ⟨hown, hgrow, hat, hlt⟩ := HW.out
 refine ⟨rfl, ⟨_, ⟨_, _, HB1.out.node hgrow hown (k' := gr) rfl (by rw [HSZ.out]; exact hat.imp id (fun h => Nat.le_of_eq h.symm)) hlt⟩, ?_⟩⟩
 refine ⟨(((Keep.refl own w).alloc _).grown hgrow (fun k e => .inl (HB1.out.orow k e).1)).setCell (p := ⟨g, 3, none⟩) HB1.out.og _, ?_⟩
 rintro k (hk | rfl)
 ·exact .inl hk
 ·rcases hat with h | h
  ·exact .inl (HB1.out.orow _ h).1
  ·exact .inr (by omega)
set_option maxHeartbeats 3200000 in
set_option maxRecDepth 100000 in
theorem free_is (w : World) (g : Nat) (s : ByteArray) (b : Bs) (own : Nat → Prop) (f t : Nat) (h : Bld w g s b own) (hf : f < b.sts.length) (hn : tot b.sts ≤ 1000000) :
  Calls Tryz.prog 107 #[.pointer (some ⟨g, 0, none⟩), .int .i64 f, .int .i64 t] w fun e w' => e = .returned (.tuple #[]) ∧ ∃ own', Bld w' g s (freeM b f t) own' ∧ Stp own w own' w' := by
 obtain ⟨sv, es, hB⟩ := h
 obtain ⟨c0, c1, c2, c3, fz⟩ := hB.cells
 have hgl := hB.lt g hB.og
 obtain ⟨i0, hi, hz0, hz1, hz2⟩ := info_parts info_intP
 obtain ⟨x, hx⟩ : ∃ x, b.sts[f]? = some x := ⟨_, List.getElem?_eq_getElem hf⟩
 obtain ⟨⟨ep, ev⟩, he⟩ : ∃ e, es[f]? = some e := ⟨_, List.getElem?_eq_getElem (by rw [hB.len]; exact hf)⟩
 obtain ⟨r, cap, rfl, _, hrlt⟩ := hB.row.form (by omega)
 have hxt : x.free.length ≤ 1000000 := Nat.le_trans (free_tot b.sts x (List.mem_of_getElem? hx)) hn
 have hnl : b.sts.length ≤ 1000000 := Nat.le_trans (len_tot b.sts) hn
 obtain ⟨hr0, hr1⟩ := hB.free f x (ep, ev) hx he
 dsimp only at hr0 hr1
 obtain ⟨_, _, q2⟩ := stC_at b.sts es f x (ep, ev) hx he
 obtain ⟨cf, ff⟩ := ownsRow_cell hB.row (g := r) rfl q2
 dsimp only at cf
 have hne : ev.ownBlock ≠ some r := fun e => (hB.far f (ep, ev) r he e).2 rfl
 have hneg : ev.ownBlock ≠ some g := fun e => (hB.far f (ep, ev) g he e).1 rfl
 have hHB := Lib.hid hB
 have HR0 := Lib.hid hr0
 have HX := Lib.hid hx
 have HE := Lib.hid he
 have hfl : (f : Int) < (b.sts.length : Int) := by omega
 have hf0 : (0 : Int) ≤ (f : Int) := by omega
 clear fz hr0 hB hx he q2 c0 c1 c2
 have hba : Below w.heap.size w (w.alloc (.cells #[.int .i64 t] 3)).drew := (alloc_below w _).drew
 have hnb : (w.alloc (.cells #[.int .i64 t] 3)).drew.heap[w.heap.size]? = some (.cells #[.int .i64 t] 3 (0, 0)) := heap_alloc_new w _
 have hsz : (w.alloc (.cells #[.int .i64 t] 3)).drew.heap.size = w.heap.size + 1 := World.size_alloc w _
 have hB1 := hHB.out.kept hba.size (fun k hk => hba.block k (hHB.out.lt k hk))
 obtain ⟨hrow, _⟩ := hB1.free f x (ep, ev) HX.out HE.out
 have c3a := keep_cell c3 hba hgl
 have cfa := keep_cell cf hba hrlt
 have hone : ∀ u ∈ ([.int .i64 t] : List Value), u.oneCell' = true := by
  intro u hu; simp at hu; subst hu; rfl
 go_enter Tryz.func107, Tryz.ntmps107
 refine wp_region_heldS 18 (S := (fun W => W.cell? ⟨g, 3, none⟩ = some (.slice (some ⟨r, 0, none⟩) b.sts.length cap) ∧ W.cell? ⟨r, f * 3 + 2, none⟩ = some ev)) (by kernel_rfl) ⟨c3, cf⟩ (fun hHeld => ?_)
 refine heldS_take (i := 0) (v := ?_) rfl rfl (by kernel_rfl) (by kernel_rfl) (by kernel_rfl) (by kernel_rfl) (by kernel_rfl) (fun _ _ _ h => h) (by rfl) hHeld ?_ ?_
 rotate_left
 ·rintro wh ⟨z0, z1⟩
  go_simp
  (try with_reducible rfl)
 simp only [Act.put, List.setIfInBounds_toArray, List.set_cons_zero, List.set_cons_succ]
 refine heldS_take (i := 1) (v := ?_) rfl rfl (by kernel_rfl) (by kernel_rfl) (by kernel_rfl) (by kernel_rfl) (by kernel_rfl) (fun _ _ _ h => h) (by rfl) hHeld ?_ ?_
 rotate_left
 ·rintro wh ⟨z0, z1⟩
  go_simp
  (try with_reducible rfl)
 simp only [Act.put, List.setIfInBounds_toArray, List.set_cons_zero, List.set_cons_succ]
 refine heldS_take (i := 2) (v := ?_) rfl rfl (by kernel_rfl) (by kernel_rfl) (by kernel_rfl) (by kernel_rfl) (by kernel_rfl) (fun _ _ _ h => h) (by rfl) hHeld ?_ ?_
 rotate_left
 ·rintro wh ⟨z0, z1⟩
  go_simp
  (try with_reducible rfl)
 simp only [Act.put, List.setIfInBounds_toArray, List.set_cons_zero, List.set_cons_succ]
 refine heldS_take (i := 3) (v := ?_) rfl rfl (by kernel_rfl) (by kernel_rfl) (by kernel_rfl) (by kernel_rfl) (by kernel_rfl) (fun _ _ _ h => h) (by rfl) hHeld ?_ ?_
 rotate_left
 ·rintro wh ⟨z0, z1⟩
  go_simp
  (try with_reducible rfl)
 simp only [Act.put, List.setIfInBounds_toArray, List.set_cons_zero, List.set_cons_succ]
 refine heldS_take (i := 4) (v := ?_) rfl rfl (by kernel_rfl) (by kernel_rfl) (by kernel_rfl) (by kernel_rfl) (by kernel_rfl) (fun _ _ _ h => h) (by rfl) hHeld ?_ ?_
 rotate_left
 ·rintro wh ⟨z0, z1⟩
  go_simp
  (try with_reducible rfl)
 simp only [Act.put, List.setIfInBounds_toArray, List.set_cons_zero, List.set_cons_succ]
 refine heldS_take (i := 5) (v := ?_) rfl rfl (by kernel_rfl) (by kernel_rfl) (by kernel_rfl) (by kernel_rfl) (by kernel_rfl) (fun _ _ _ h => h) (by rfl) hHeld ?_ ?_
 rotate_left
 ·rintro wh ⟨z0, z1⟩
  go_simp
  (try with_reducible rfl)
 simp only [Act.put, List.setIfInBounds_toArray, List.set_cons_zero, List.set_cons_succ]
 refine heldS_take (i := 6) (v := ?_) rfl rfl (by kernel_rfl) (by kernel_rfl) (by kernel_rfl) (by kernel_rfl) (by kernel_rfl) (fun _ _ _ h => h) (by rfl) hHeld ?_ ?_
 rotate_left
 ·rintro wh ⟨z0, z1⟩
  go_simp
  (try with_reducible rfl)
 simp only [Act.put, List.setIfInBounds_toArray, List.set_cons_zero, List.set_cons_succ]
 refine heldS_take (i := 7) (v := ?_) rfl rfl (by kernel_rfl) (by kernel_rfl) (by kernel_rfl) (by kernel_rfl) (by kernel_rfl) (fun _ _ _ h => h) (by rfl) hHeld ?_ ?_
 rotate_left
 ·rintro wh ⟨z0, z1⟩
  go_simp
  (try with_reducible rfl)
 simp only [Act.put, List.setIfInBounds_toArray, List.set_cons_zero, List.set_cons_succ]
 refine heldS_take (i := 8) (v := ?_) rfl rfl (by kernel_rfl) (by kernel_rfl) (by kernel_rfl) (by kernel_rfl) (by kernel_rfl) (fun _ _ _ h => h) (by rfl) hHeld ?_ ?_
 rotate_left
 ·rintro wh ⟨z0, z1⟩
  go_simp
  (try with_reducible rfl)
 simp only [Act.put, List.setIfInBounds_toArray, List.set_cons_zero, List.set_cons_succ]
 refine heldS_take (i := 9) (v := ?_) rfl rfl (by kernel_rfl) (by kernel_rfl) (by kernel_rfl) (by kernel_rfl) (by kernel_rfl) (fun _ _ _ h => h) (by rfl) hHeld ?_ ?_
 rotate_left
 ·rintro wh ⟨z0, z1⟩
  go_simp
  (try with_reducible rfl)
 simp only [Act.put, List.setIfInBounds_toArray, List.set_cons_zero, List.set_cons_succ]
 refine heldS_take (i := 10) (v := ?_) rfl rfl (by kernel_rfl) (by kernel_rfl) (by kernel_rfl) (by kernel_rfl) (by kernel_rfl) (fun _ _ _ h => h) (by rfl) hHeld ?_ ?_
 rotate_left
 ·rintro wh ⟨z0, z1⟩
  go_simp
  (try with_reducible rfl)
 simp only [Act.put, List.setIfInBounds_toArray, List.set_cons_zero, List.set_cons_succ]
 refine heldS_take (i := 11) (v := ?_) rfl rfl (by kernel_rfl) (by kernel_rfl) (by kernel_rfl) (by kernel_rfl) (by kernel_rfl) (fun _ _ _ h => h) (by rfl) hHeld ?_ ?_
 rotate_left
 ·rintro wh ⟨z0, z1⟩
  go_simp
  (try with_reducible rfl)
 simp only [Act.put, List.setIfInBounds_toArray, List.set_cons_zero, List.set_cons_succ]
 refine heldS_take (i := 12) (v := ?_) rfl rfl (by kernel_rfl) (by kernel_rfl) (by kernel_rfl) (by kernel_rfl) (by kernel_rfl) (fun _ _ _ h => h) (by rfl) hHeld ?_ ?_
 rotate_left
 ·rintro wh ⟨z0, z1⟩
  go_simp
  (try with_reducible rfl)
 simp only [Act.put, List.setIfInBounds_toArray, List.set_cons_zero, List.set_cons_succ]
 refine heldS_take (i := 13) (v := ?_) rfl rfl (by kernel_rfl) (by kernel_rfl) (by kernel_rfl) (by kernel_rfl) (by kernel_rfl) (fun _ _ _ h => h) (by rfl) hHeld ?_ ?_
 rotate_left
 ·rintro wh ⟨z0, z1⟩
  go_simp
  (try with_reducible rfl)
 simp only [Act.put, List.setIfInBounds_toArray, List.set_cons_zero, List.set_cons_succ]
 refine heldS_step (i := 14) rfl (by kernel_rfl) (fun K hK => ?_)
 go_simp
 refine hK.out _ _ ⟨c3a, cfa⟩ (fun hHeld => ?_)
 clear hK K
 (try simp only [Act.put, List.setIfInBounds_toArray])
 have HB1 := Lib.hid hB1
 have HNB := Lib.hid hnb
 have HSZ := Lib.hid hsz
 have HBA := Lib.hid hba
 have FFA := Lib.hid ((hba.frozen (p := ⟨r, f * 3 + 2, none⟩) hrlt).trans ff)
 clear hB1 hnb hsz hba ff
 generalize (w.alloc (.cells #[.int .i64 t] 3)).drew = wa at *
 refine heldS_step (i := 15) rfl (by kernel_rfl) (fun K hK => ?_)
 (refine step_append_lies _ (by rfl) (.tmp 18) (.tmp 20) 136 (by rfl) 0 3 i0 (.int .i64 0) 1 8 Tryz.underlying136 hi hz0 hz1 hz2 rfl (by decide) ev x.free.length (freeC x.free) (by rfl) hrow ⟨w.heap.size, 0, none⟩ 1 1 [.int .i64 t] (by rfl) rfl (World.news_of_block HNB.out) hone (by decide) (by unfold maxLen; omega) (by omega) (Nat.zero_le _) (w.heap.size + 1) HSZ.out ?_); intro gr cp w1 hown hgrow hat hlt; have HW := Lib.hid (And.intro hown (And.intro hgrow (And.intro hat hlt))); have c3' := (hgrow.cell_far ⟨g, 3, none⟩ (Nat.lt_of_lt_of_le hgl HBA.out.size) (fun e => hneg e.symm)).trans c3a; have cf' := (hgrow.cell_far ⟨r, f * 3 + 2, none⟩ (Nat.lt_of_lt_of_le hrlt HBA.out.size) (fun e => hne e.symm)).trans cfa; have ff' := (hgrow.frozen_far ⟨r, f * 3 + 2, none⟩ (Nat.lt_of_lt_of_le hrlt HBA.out.size) (fun e => hne e.symm)).trans FFA.out; clear hown hgrow hat hlt
 refine hK.out _ _ ⟨c3', cf'⟩ (fun hHeld => ?_)
 clear hK K
 (try simp only [Act.put, List.setIfInBounds_toArray])
 refine heldS_step (i := 16) rfl (by kernel_rfl) (fun K hK => ?_)
 go_simp
 refine hK.out _ _ ⟨c3', cf'⟩ (fun hHeld => ?_)
 clear hK K
 (try simp only [Act.put, List.setIfInBounds_toArray])
 refine heldS_step (i := 17) rfl (by kernel_rfl) (fun K hK => ?_)
 go_simp
 refine hK.out _ _ ⟨c3', cf'⟩ (fun hHeld => ?_)
 clear hK K
 (try simp only [Act.put, List.setIfInBounds_toArray])
 refine heldS_last (i := 18) rfl (by kernel_rfl) (by kernel_rfl) (fun K hK => ?_)
 go_simp
 refine hK.out _ _ ?_
 clear hK K
 (try simp only [Act.put, List.setIfInBounds_toArray])
 refine wpAnyEnd_done (by kernel_rfl) ?_ _
 go_wp2
 go_end0
 obtain ⟨hown, hgrow, hat, hlt⟩ := HW.out
 refine ⟨rfl, _, ⟨_, _, HB1.out.way HX.out HE.out hgrow (k' := gr) (r := r) hown rfl (by rw [HSZ.out]; exact hat.imp id (fun h => Nat.le_of_eq h.symm)) hlt rfl⟩, ?_⟩
 refine ⟨(((Keep.of_below HBA.out).grown hgrow (fun k e => .inl (hr1 k e))).setCell (p := ⟨r, f * 3 + 2, none⟩) (HB1.out.orow r rfl).1 _), ?_⟩
 rintro k (hk | rfl)
 ·exact .inl hk
 ·rcases hat with h | h
  ·exact .inl (hr1 _ h)
  ·exact .inr (by omega)
end Go.Proofs.YtgbapkechngnmaaGreat
/- Result boxes of several cells: what is read back at the return. No program in sight. -/
namespace Go.Proofs.YtgbapkechngnmaaGreat
open Go.RowKit
theorem below_put {w W : World} {g j : Nat} {x : Value} (h : Below w.heap.size w W) (hb : w.heap.size ≤ g) : Below w.heap.size w (W.setCell ⟨g, j, none⟩ x) :=
 h.trans ((Below.refl _ _).setCell (p := ⟨g, j, none⟩) hb x)
theorem below_puts {w W : World} {g o : Nat} (h : Below w.heap.size w W) (hb : w.heap.size ≤ g) : ∀ (vs : List Value), Below w.heap.size w (W.setCells g o vs) := by
 intro vs
 induction vs generalizing W o with
 | nil => exact h
 | cons v r ih => exact ih (below_put h hb)
theorem box_there {w W : World} {xs : Array Value} {t : TypeId} (hb : Below (w.alloc (.cells xs t)).heap.size (w.alloc (.cells xs t)) W) : W.there w.heap.size 0 xs.size := by
 have hlt : w.heap.size < (w.alloc (.cells xs t)).heap.size := by rw [World.size_alloc]; omega
 have h := (hb.block _ hlt).trans (heap_alloc_new w (.cells xs t))
 intro j hj
 rw [Nat.zero_add]
 exact ⟨by simp [World.cell?, h, hj], by simp [World.frozen?, h]⟩
theorem box_range {w W : World} {xs : Array Value} {t : TypeId} (hb : Below (w.alloc (.cells xs t)).heap.size (w.alloc (.cells xs t)) W) : W.rangeAt w.heap.size 0 xs.toList := by
 obtain ⟨h, _, _⟩ := box_cells hb
 intro j v hv
 rw [Nat.zero_add]
 exact h j v (by simpa using hv)
theorem there_later {w W : World} {g n : Nat} (h : w.there g 0 n) (hb : Below w.heap.size w W) (hlt : g < w.heap.size) : W.there g 0 n := fun j hj => by
 have hk := hb.block g hlt
 obtain ⟨h1, h2⟩ := h j hj
 exact ⟨by rw [World.cell?_of_block (a := ⟨g, 0 + j, none⟩) hk]; exact h1, by rw [World.frozen?_of_block (a := ⟨g, 0 + j, none⟩) hk]; exact h2⟩
theorem range_later {w W : World} {g o : Nat} {cs : List Value} (h : w.rangeAt g o cs) (hb : Below w.heap.size w W) (hlt : g < w.heap.size) : W.rangeAt g o cs := fun j v hv => keep_cell (h j v hv) hb hlt
theorem there_free {w : World} {g n : Nat} (h : w.there g 0 n) (j : Nat) (hj : j < n) : w.frozen? ⟨g, j, none⟩ = false := by have := (h j hj).2; rwa [Nat.zero_add] at this
theorem results_agg2 {P : Program} {fn : Func} {p u : Tmp} {ty : TypeId} (h : fn.results = #[.cell p ty, .tmp u]) (tmps : Array Value) (w : World) (g : Nat) (cs : List Value) (d : TypeDesc)
  (hp : tmps.getD p undef = .pointer (some ⟨g, 0, none⟩)) (hc : w.rangeAt g 0 cs) (hu : P.underlying ty = some d) (hd : d.isRow = true) (hi : (P.info? ty).map (·.size) = some cs.length) :
  (results fn tmps).run P w = .ok (.tuple #[.agg cs.toArray, tmps.getD u undef]) w := by
 rw [results_cell_tmp h, hp]
 simp [asAddr, Result.andThen, run_loadVar_mid (P := P) w g 0 ty cs d hc hu hd hi]
theorem results_agg1 {P : Program} {fn : Func} {p : Tmp} {ty : TypeId} (h : fn.results = #[.cell p ty]) (tmps : Array Value) (w : World) (g : Nat) (cs : List Value) (d : TypeDesc)
  (hp : tmps.getD p undef = .pointer (some ⟨g, 0, none⟩)) (hc : w.rangeAt g 0 cs) (hu : P.underlying ty = some d) (hd : d.isRow = true) (hi : (P.info? ty).map (·.size) = some cs.length) :
  (results fn tmps).run P w = .ok (.agg cs.toArray) w := by
 have hp' : tmps[p]?.getD undef = .pointer (some ⟨g, 0, none⟩) := by simpa using hp
 simp [results, h, hp', asAddr, run_loadVar_mid (P := P) w g 0 ty cs d hc hu hd hi]
end Go.Proofs.YtgbapkechngnmaaGreat
/- Regions that draw their order, taken by hand: two operations are ready. No program in sight. -/
namespace Go
variable {P : Program} {ops : Array Oper} {Q : Exit → Act → World → Prop} {md : Region.Mode} {S : World → Prop}
end Go
namespace Go.Proofs.YtgbapkechngnmaaGreat
open Go.RowKit
end Go.Proofs.YtgbapkechngnmaaGreat
/- pattern's builder: a state's bytes: the plain part, and one's walk. -/
namespace Go.Proofs.YtgbapkechngnmaaGreat
open Go.RowKit
theorem stC_set01 : ∀ (l : List St) (m : List (Value × Value)) (i : Nat) (x : St) (e : Value × Value) (v : Value) (S : Option (Nat → Bool)) (n : Nat), l[i]? = some x → m[i]? = some e →
  ((stC l m).set (i * 3) v).set (i * 3 + 1) (.int .i64 n) = stC (l.set i ⟨S, n, x.free⟩) (m.set i (v, e.2))
 | [], _, _, _, _, _, _, _, h, _ => by simp at h
 | _ :: _, [], _, _, _, _, _, _, _, h => by simp at h
 | y :: l, d :: m, 0, x, e, v, S, n, h, h' => by simp at h h'; subst h h'; rfl
 | y :: l, d :: m, i + 1, x, e, v, S, n, h, h' => by
  have := stC_set01 l m i x e v S n (by simpa using h) (by simpa using h')
  rw [show (i + 1) * 3 + 1 = (i * 3 + 1) + 3 by omega, show (i + 1) * 3 = (i * 3) + 3 by omega]
  simp [stC, this]
theorem BldV.bytes {w : World} {g : Nat} {s : ByteArray} {b : Bs} {own : Nat → Prop} {sv : Value} {es : List (Value × Value)} (h : BldV w g s b own sv es) {f n : Nat} {x : St} {e : Value × Value} (hx : b.sts[f]? = some x) (he : es[f]? = some e)
  {k r : Nat} {S : Nat → Bool} (hS : SetAt w k S) (hk : ¬ own k) (hsv : sv.ownBlock = some r) :
  BldV ((w.setCell ⟨r, f * 3, none⟩ (.pointer (some ⟨k, 0, none⟩))).setCell ⟨r, f * 3 + 1, none⟩ (.int .i64 n)) g s { b with sts := b.sts.set f ⟨some S, n, x.free⟩ } (fun j => own j ∨ j = k) sv (es.set f (.pointer (some ⟨k, 0, none⟩), e.2)) := by
 obtain ⟨hr1, hr2⟩ := h.orow r hsv
 have hkr : k ≠ r := fun e => hk (e ▸ hr1)
 have hkg : k ≠ g := fun e => hk (e ▸ h.og)
 have hold : ∀ j, j ≠ r → ((w.setCell ⟨r, f * 3, none⟩ (.pointer (some ⟨k, 0, none⟩))).setCell ⟨r, f * 3 + 1, none⟩ (.int .i64 n)).heap[j]? = w.heap[j]? := fun j hj =>
  (heap_setCell_other _ _ _ _ hj).trans (heap_setCell_other _ _ _ _ hj)
 have hsz : ((w.setCell ⟨r, f * 3, none⟩ (.pointer (some ⟨k, 0, none⟩))).setCell ⟨r, f * 3 + 1, none⟩ (.int .i64 n)).heap.size = w.heap.size := by simp
 have xget : ∀ (i : Nat) (d : Value × Value), es[i]? = some d → ∃ y, b.sts[i]? = some y := fun i d hd => ⟨_, List.getElem?_eq_getElem (by rw [← h.len]; exact (List.getElem?_eq_some_iff.1 hd).1)⟩
 have nown : ∀ (i : Nat) (d : Value × Value) (j : Nat), es[i]? = some d → d.2.ownBlock = some j → j ≠ r := fun i d j hd hj e' => (h.far i d j hd hj).2 (e' ▸ hsv)
 refine ⟨(hold g (fun e => hr2 e.symm)).trans h.blk, .inl h.og, ?_, ?_, ?_, ?_, ?_, ?_, ?_, ?_, ?_⟩
 ·rintro j (hj | rfl)
  ·rw [hsz]; exact h.lt j hj
  ·rw [hsz]; exact hS.lt
 ·simp [h.len]
 ·dsimp only
  rw [List.length_set, ← stC_set01 b.sts es f x e _ (some S) n hx he]
  exact ownsRow_set (ownsRow_set h.row hsv _) hsv _
 ·intro j e'
  obtain ⟨h1, h2⟩ := h.orow j e'
  exact ⟨.inl h1, h2⟩
 ·intro i y d hy hd
  dsimp only at hy
  rcases get_set hd with ⟨hi, hd1⟩ | ⟨hi, hd1⟩
  ·rcases get_set hy with ⟨_, hy1⟩ | ⟨hi', _⟩
   ·subst hd1 hy1
    exact ⟨k, rfl, hS.blk (hold k hkr), .inr rfl⟩
   ·exact absurd hi hi'
  ·rcases get_set hy with ⟨hi', _⟩ | ⟨_, hy1⟩
   ·exact absurd hi' hi
   ·have hp := h.ptr i y d hy1 hd1
    exact (hp.kept (fun j hv => hold j (fun e' => (h.pfar i d j hd1 hv).2.1 (e' ▸ hsv)))).mono (fun j hj => .inl hj)
 ·intro i y d hy hd
  dsimp only at hy
  have key : ∀ y' (d' : Value × Value), b.sts[i]? = some y' → es[i]? = some d' → y.free = y'.free → d.2 = d'.2 → FreeAt ((w.setCell ⟨r, f * 3, none⟩ (.pointer (some ⟨k, 0, none⟩))).setCell ⟨r, f * 3 + 1, none⟩ (.int .i64 n)) (fun j => own j ∨ j = k) y d.2 := by
   intro y' d' hy' hd' e1 e2
   obtain ⟨h1, h2⟩ := h.free i y' d' hy' hd'
   unfold FreeAt
   rw [e1, e2]
   exact ⟨ownsRow_blk h1 (fun j hj => hold j (nown i d' j hd' hj)), fun j hj => .inl (h2 j hj)⟩
  rcases get_set hd with ⟨hi, hd1⟩ | ⟨hi, hd1⟩
  ·rcases get_set hy with ⟨_, hy1⟩ | ⟨hi', _⟩
   ·subst hi
    exact key x e hx he (by rw [hy1]) (by rw [hd1])
   ·exact absurd hi hi'
  ·rcases get_set hy with ⟨hi', _⟩ | ⟨_, hy1⟩
   ·exact absurd hi' hi
   ·exact key y d hy1 hd1 rfl rfl
 ·intro i d j hd hj
  rcases get_set hd with ⟨hi, hd1⟩ | ⟨hi, hd1⟩
  ·subst hi hd1
   exact h.far i e j he hj
  ·exact h.far i d j hd1 hj
 ·intro i d j hd hj
  have free' : ∀ (j : Nat), (∀ (i : Nat) (d : Value × Value), es[i]? = some d → d.2.ownBlock ≠ some j) → ∀ (i : Nat) (d : Value × Value), (es.set f (.pointer (some ⟨k, 0, none⟩), e.2))[i]? = some d → d.2.ownBlock ≠ some j := by
   intro j hj i d hd
   rcases get_set hd with ⟨_, hd1⟩ | ⟨_, hd1⟩
   ·rw [hd1]; exact hj f e he
   ·exact hj i d hd1
  rcases get_set hd with ⟨hi, hd1⟩ | ⟨hi, hd1⟩
  ·rw [hd1] at hj
   simp at hj
   subst hj
   refine ⟨hkg, fun e' => hk (h.orow k e').1, free' k ?_⟩
   intro i d hd hj
   obtain ⟨y, hy⟩ := xget i d hd
   exact hk ((h.free i y d hy hd).2 k hj)
  ·obtain ⟨h1, h2, h3⟩ := h.pfar i d j hd1 hj
   exact ⟨h1, h2, free' j h3⟩
 ·intro i j d d' q hd hd' hq hq'
  rcases get_set hd with ⟨hi, hd1⟩ | ⟨hi, hd1⟩
  ·rcases get_set hd' with ⟨hj, hd1'⟩ | ⟨hj, hd1'⟩
   ·rw [hi, hj]
   ·rw [hd1] at hq
    rw [hi]
    exact h.apart f j e d' q he hd1' hq hq'
  ·rcases get_set hd' with ⟨hj, hd1'⟩ | ⟨hj, hd1'⟩
   ·rw [hd1'] at hq'
    rw [hj]
    exact h.apart i f d e q hd1 he hq hq'
   ·exact h.apart i j d d' q hd1 hd1' hq hq'
theorem blk_there {w : World} {k : Nat} {cs : Array Value} {t : TypeId} (h : w.heap[k]? = some (.cells cs t (0, 0))) : w.there k 0 cs.size := by
 intro j hj
 rw [Nat.zero_add]
 exact ⟨by simp [World.cell?, h, hj], by simp [World.frozen?, h]⟩
theorem part_there {w : World} {k : Nat} {x y : Value} {t : TypeId} (h : w.heap[k]? = some (.cells #[x, y] t (0, 0))) : w.there k 0 2 := blk_there h
set_option maxHeartbeats 3200000 in
set_option maxRecDepth 100000 in
theorem one_is (w : World) (g : Nat) (s : ByteArray) (b : Bs) (own : Nat → Prop) (S : Nat → Bool) (k : Nat) (h : Bld w g s b own) (hS : SetAt w k S) (hk : ¬ own k) (hn : b.sts.length + 1 ≤ 1000000) :
  Calls Tryz.prog 142 #[.pointer (some ⟨g, 0, none⟩), .pointer (some ⟨k, 0, none⟩)] w fun e w' => e = .returned (.agg #[.int .i64 b.sts.length, .int .i64 ((b.sts.length + 1 : Nat) : Int)]) ∧
   ∃ own', Bld w' g s (oneM b S).1 own' ∧ Keep own w w' ∧ ∀ j, own' j → own j ∨ j = k ∨ w.heap.size ≤ j := by
 have hba := alloc_below w (.cells #[.int .i64 0, .int .i64 0] 132)
 have hnb : (w.alloc (.cells #[.int .i64 0, .int .i64 0] 132)).heap[w.heap.size]? = some (.cells #[.int .i64 0, .int .i64 0] 132 (0, 0)) := heap_alloc_new _ _
 have hno : ¬ own w.heap.size := fun h0 => by have := h.lt _ h0; omega
 have hB0 := h.below hba
 have hS0 := hS.blk (w' := w.alloc (.cells #[.int .i64 0, .int .i64 0] 132)) (hba.block k hS.lt)
 have k1 := node_is _ g s b own hB0 (by omega)
 have HBA := Lib.hid hba
 have HNB := Lib.hid hnb
 clear hB0 hba hnb h
 go_enter Tryz.func142, Tryz.ntmps142
 go_upto_region 1 with fail
 change Code.wp _ _ _ _ (w.alloc (.cells #[.int .i64 0, .int .i64 0] 132))
 generalize w.alloc (.cells #[.int .i64 0, .int .i64 0] 132) = w0 at *
 go_wp2_with fail
 refine k1.mono ?_
 rintro e w1 ⟨rfl, own1, hB1, hst1⟩
 have k2 := node_is _ g s (nodeM b) own1 hB1 (by simp [nodeM]; omega)
 have HST1 := Lib.hid hst1
 clear k1 hB1 hst1
 go_wp2_with fail
 refine k2.mono ?_
 rintro e w2 ⟨rfl, own2, hB2, hst2⟩
 have HST := Lib.hid (HST1.out.trans hst2)
 have HB2 := Lib.hid hB2
 clear k2 hB2 hst2 HST1
 have hl1 : (nodeM b).sts.length = b.sts.length + 1 := by simp [nodeM]
 rw [hl1]
 obtain ⟨n, hnn⟩ : ∃ n, b.sts.length = n := ⟨_, rfl⟩
 have HNN := Lib.hid hnn
 rw [hnn] at hl1 hn ⊢
 have HL2 : Hid ((nodeM (nodeM b)).sts.length = n + 2) := Lib.hid (by show _ = _; rw [← hnn]; simp [nodeM])
 have hsts : (nodeM (nodeM b)).sts = b.sts ++ [⟨none, 0, []⟩] ++ [⟨none, 0, []⟩] := rfl
 have hxn : (nodeM (nodeM b)).sts[n]? = some ⟨none, 0, []⟩ := by rw [hsts, ← hnn]; simp
 obtain ⟨sv, es, hV⟩ := HB2.out
 have HV := Lib.hid hV
 obtain ⟨e0, he0⟩ : ∃ e, es[n]? = some e := ⟨_, List.getElem?_eq_getElem (by rw [hV.len, HL2.out]; omega)⟩
 obtain ⟨r, cap, rfl, _, hrlt⟩ := hV.row.form (by rw [HL2.out]; omega)
 obtain ⟨q0, q1, _⟩ := stC_at _ es n _ e0 hxn he0
 obtain ⟨cf0, ff0⟩ := ownsRow_cell hV.row (g := r) rfl q0
 obtain ⟨cf1, ff1⟩ := ownsRow_cell hV.row (g := r) rfl q1
 dsimp only at cf0 cf1
 have c3 := hV.cells.2.2.2.1
 have hgl := hV.lt g hV.og
 rw [HL2.out] at c3
 have HXN := Lib.hid hxn
 have HE0 := Lib.hid he0
 have hn0 : (0 : Int) ≤ (n : Int) := by omega
 have hn1 : (n : Int) < (n : Int) + 2 := by omega
 clear hV q0 q1 hxn he0 hsts hnn hl1
 go_upto_region 2 with fail
 change Code.wp _ _ _ _ (w2.alloc (.cells #[.int .i64 n, .int .i64 ((n + 1 : Nat) : Int)] 132))
 have hb3 := alloc_below w2 (.cells #[.int .i64 n, .int .i64 ((n + 1 : Nat) : Int)] 132)
 have hp3 : (w2.alloc (.cells #[.int .i64 n, .int .i64 ((n + 1 : Nat) : Int)] 132)).heap[w2.heap.size]? = some (.cells #[.int .i64 n, .int .i64 ((n + 1 : Nat) : Int)] 132 (0, 0)) := heap_alloc_new _ _
 generalize w2.alloc (.cells #[.int .i64 n, .int .i64 ((n + 1 : Nat) : Int)] 132) = w3 at *
 have hd3 := hb3.drew
 have hpd : w3.drew.heap[w2.heap.size]? = some (.cells #[.int .i64 n, .int .i64 ((n + 1 : Nat) : Int)] 132 (0, 0)) := hp3
 have c3 := keep_cell c3 hd3 hgl
 have cf0 := keep_cell cf0 hd3 hrlt
 have cf1 := keep_cell cf1 hd3 hrlt
 have ff0 := (hd3.frozen (p := ⟨r, n * 3, none⟩) hrlt).trans ff0
 have ff1 := (hd3.frozen (p := ⟨r, n * 3 + 1, none⟩) hrlt).trans ff1
 have p0 : w3.drew.cell? ⟨w2.heap.size, 0, none⟩ = some (.int .i64 n) := by rw [cell_of_row _ _ _ _ _ _ hpd]; rfl
 have p1 : w3.drew.cell? ⟨w2.heap.size, 1, none⟩ = some (.int .i64 ((n + 1 : Nat) : Int)) := by rw [cell_of_row _ _ _ _ _ _ hpd]; rfl
 have HVD := Lib.hid (HV.out.kept hd3.size (fun j hj => hd3.block j (HV.out.lt j hj)))
 have hk2 : ¬ own2 k := HST.out.not hS0.lt hk
 have hS2 := (hS0.blk (w' := w2) (HST.out.1.block k hS0.lt hk))
 have HSD := Lib.hid (hS2.blk (w' := w3.drew) (hd3.block k hS2.lt))
 have hrl0 : w.heap.size < w0.heap.size := (Array.getElem?_eq_some_iff.1 HNB.out).1
 have hnr2 : ¬ own2 w.heap.size := HST.out.not hrl0 hno
 have hrb2 := HST.out.blk HNB.out hno
 have hrb3 : w3.drew.heap[w.heap.size]? = some (.cells #[.int .i64 0, .int .i64 0] 132 (0, 0)) := (hd3.block _ (Nat.lt_of_lt_of_le hrl0 HST.out.1.size)).trans hrb2
 have hKP : Keep own w w3.drew := ((Keep.of_below HBA.out).trans HST.out.1 (fun j hj => .inl hj)).trans (Keep.of_below (own := own) hd3) (fun j hj => .inl hj)
 have HKP := Lib.hid hKP
 have hrw : w.heap.size ≠ r := fun e => hnr2 (e ▸ (HV.out.orow r rfl).1)
 have HRB := Lib.hid hrb3
 have hown2 : ∀ j, own2 j → own j ∨ w.heap.size ≤ j := fun j hj => (HST.out.2 j hj).imp id (fun h => Nat.le_trans HBA.out.size h)
 have HR2 := Lib.hid (hown2 r (HV.out.orow r rfl).1)
 have HOWN := Lib.hid hown2
 clear hrb2 hrb3 hS2 hS0 hKP hown2 hrl0
 have hrp : r ≠ w2.heap.size := by omega
 have hrg : r ≠ g := (HV.out.orow r rfl).2
 clear hb3 hp3 hpd hd3
 generalize w2.heap.size = pb at *
 refine wp_region_held_drew (S := (fun W => W.cell? ⟨g, 3, none⟩ = some (.slice (some ⟨r, 0, none⟩) (n + 2) cap) ∧ W.cell? ⟨pb, 0, none⟩ = some (.int .i64 n) ∧ W.cell? ⟨pb, 1, none⟩ = some (.int .i64 ((n + 1 : Nat) : Int)))) (by kernel_rfl) ⟨c3, p0, p1⟩ (fun hHeld => ?_)
 generalize w3.drew = wd at *
 refine plIn [0, 1, 2, 3, 4, 5, 6, 7, 8, 9, 10, 11, 12, 13, 14, 15, 16] ?_
 iterate 17
  refine hP (v := ?_) rfl rfl hHeld ?_ ?_
  rotate_left
  ·rintro wh ⟨z0, z1, z2⟩
   go_simp
   (try with_reducible rfl)
  simp only [Act.put, List.setIfInBounds_toArray, List.set_cons_zero, List.set_cons_succ]
 refine plOut ?_
 refine held_step (i := 17) rfl (by kernel_rfl) (fun K hK => ?_)
 go_simp
 refine hK.out _ _ ⟨(World.cell?_setCell_far wd ⟨r, n * 3, none⟩ _ (.pointer (some ⟨k, 0, none⟩)) hrg).trans c3, (World.cell?_setCell_far wd ⟨r, n * 3, none⟩ _ (.pointer (some ⟨k, 0, none⟩)) hrp).trans p0, (World.cell?_setCell_far wd ⟨r, n * 3, none⟩ _ (.pointer (some ⟨k, 0, none⟩)) hrp).trans p1⟩ (fun hHeld => ?_)
 clear hK K
 (try simp only [Act.put, List.setIfInBounds_toArray])
 refine plIn [18, 19] ?_
 iterate 2
  refine hP (v := ?_) rfl rfl hHeld ?_ ?_
  rotate_left
  ·rintro wh ⟨z0, z1, z2⟩
   go_simp
   (try with_reducible rfl)
  simp only [Act.put, List.setIfInBounds_toArray, List.set_cons_zero, List.set_cons_succ]
 refine plOut ?_
 refine held_step (i := 20) rfl (by kernel_rfl) (fun K hK => ?_)
 go_simp
 refine hK.out _ _ ⟨(World.cell?_setCell_far _ ⟨r, n * 3 + 1, none⟩ _ (.int .i64 ((n + 1 : Nat) : Int)) hrg).trans hHeld.1, (World.cell?_setCell_far _ ⟨r, n * 3 + 1, none⟩ _ (.int .i64 ((n + 1 : Nat) : Int)) hrp).trans hHeld.2.1, (World.cell?_setCell_far _ ⟨r, n * 3 + 1, none⟩ _ (.int .i64 ((n + 1 : Nat) : Int)) hrp).trans hHeld.2.2⟩ (fun hHeld => ?_)
 clear hK K
 (try simp only [Act.put, List.setIfInBounds_toArray])
 refine wpAnyH_done (by kernel_rfl) ?_ _
 clear hHeld
 have hW4 := HVD.out.bytes (f := n) (n := n + 1) HXN.out HE0.out HSD.out hk2 (r := r) rfl
 have HW4 := Lib.hid hW4
 have hkp4 : Keep own w ((wd.setCell ⟨r, n * 3, none⟩ (.pointer (some ⟨k, 0, none⟩))).setCell ⟨r, n * 3 + 1, none⟩ (.int .i64 ((n + 1 : Nat) : Int))) := by
  have hk : ∀ (W : World) (a : Addr) (v : Value), Keep own w W → a.block = r → Keep own w (W.setCell a v) := fun W a v h e =>
   ⟨h.os, h.tape, h.output, by simpa using h.size, fun j hj hn => (heap_setCell_other W a j v (fun e' => by rcases HR2.out with h1 | h1; (· exact hn (by rw [e', e]; exact h1)); (· omega))).trans (h.block j hj hn)⟩
  exact hk _ _ _ (hk _ _ _ HKP.out rfl) rfl
 have hrb4 : ((wd.setCell ⟨r, n * 3, none⟩ (.pointer (some ⟨k, 0, none⟩))).setCell ⟨r, n * 3 + 1, none⟩ (.int .i64 ((n + 1 : Nat) : Int))).heap[w.heap.size]? = some (.cells #[.int .i64 0, .int .i64 0] 132 (0, 0)) :=
  ((heap_setCell_other _ _ _ _ hrw).trans (heap_setCell_other _ _ _ _ hrw)).trans HRB.out
 have p0 : ((wd.setCell ⟨r, n * 3, none⟩ (.pointer (some ⟨k, 0, none⟩))).setCell ⟨r, n * 3 + 1, none⟩ (.int .i64 ((n + 1 : Nat) : Int))).cell? ⟨pb, 0, none⟩ = some (.int .i64 n) := (World.cell?_setCell_far _ _ _ _ hrp).trans ((World.cell?_setCell_far _ _ _ _ hrp).trans p0)
 have p1 : ((wd.setCell ⟨r, n * 3, none⟩ (.pointer (some ⟨k, 0, none⟩))).setCell ⟨r, n * 3 + 1, none⟩ (.int .i64 ((n + 1 : Nat) : Int))).cell? ⟨pb, 1, none⟩ = some (.int .i64 ((n + 1 : Nat) : Int)) := (World.cell?_setCell_far _ _ _ _ hrp).trans ((World.cell?_setCell_far _ _ _ _ hrp).trans p1)
 change Exit.then _ _ Exit.normal _ ((wd.setCell ⟨r, n * 3, none⟩ (.pointer (some ⟨k, 0, none⟩))).setCell ⟨r, n * 3 + 1, none⟩ (.int .i64 ((n + 1 : Nat) : Int)))
 clear hW4 c3 cf0 cf1 ff0 ff1
 generalize (wd.setCell ⟨r, n * 3, none⟩ (.pointer (some ⟨k, 0, none⟩))).setCell ⟨r, n * 3 + 1, none⟩ (.int .i64 ((n + 1 : Nat) : Int)) = w4 at *
 have r0 : w4.cell? ⟨w.heap.size, 0, none⟩ = some (.int .i64 0) := by rw [cell_of_row _ _ _ _ _ _ hrb4]; rfl
 have r1 : w4.cell? ⟨w.heap.size, 1, none⟩ = some (.int .i64 0) := by rw [cell_of_row _ _ _ _ _ _ hrb4]; rfl
 have rf0 := frozen_of_row w4 w.heap.size 0 _ _ hrb4
 have rf1 := frozen_of_row w4 w.heap.size 1 _ _ hrb4
 have HRB4 := Lib.hid hrb4
 have HKP4 := Lib.hid hkp4
 clear hrb4 hkp4
 go_wp2
 refine bodyPost_ret (results_agg1 rfl _ _ w.heap.size [.int .i64 n, .int .i64 ((n + 1 : Nat) : Int)] (.struct _) rfl (World.rangeAt_setCells_same w4 w.heap.size 0 [.int .i64 n, .int .i64 ((n + 1 : Nat) : Int)] (part_there HRB4.out)) Tryz.underlying132 rfl (by kernel_rfl)) rfl ?_
 have hne : ¬ (own2 w.heap.size ∨ w.heap.size = k) := fun h0 => by
  rcases h0 with h0 | h0
  ·exact hnr2 h0
  ·have := hS.lt; omega
 refine ⟨by rw [← HNN.out]; rfl, (fun j => own2 j ∨ j = k), ?_, ?_, ?_⟩
 ·have h5 : Bld w4 g s { nodeM (nodeM b) with sts := (nodeM (nodeM b)).sts.set n ⟨some S, n + 1, []⟩ } (fun j => own2 j ∨ j = k) := ⟨_, _, HW4.out⟩
  have h6 := (h5.box (p := ⟨w.heap.size, 0, none⟩) hne (.int .i64 n)).box (p := ⟨w.heap.size, 1, none⟩) hne (.int .i64 ((n + 1 : Nat) : Int))
  have e : (oneM b S).1 = { nodeM (nodeM b) with sts := (nodeM (nodeM b)).sts.set n ⟨some S, n + 1, []⟩ } := by
   rw [← HNN.out]
   simp [oneM, nodeM]
  rw [e]
  exact h6
 ·have hk : ∀ (W : World) (j : Nat) (v : Value), Keep own w W → Keep own w (W.setCell ⟨w.heap.size, j, none⟩ v) := fun W j v h =>
   ⟨h.os, h.tape, h.output, by simpa using h.size, fun i hi hn => (heap_setCell_other W _ i v (by simp; omega)).trans (h.block i hi hn)⟩
  exact hk _ _ _ (hk _ _ _ HKP4.out)
 ·rintro j (hj | rfl)
  ·rcases HOWN.out j hj with h1 | h1
   ·exact .inl h1
   ·exact .inr (.inr h1)
  ·exact .inr (.inl rfl)
end Go.Proofs.YtgbapkechngnmaaGreat
/- pattern's sets of bytes: add, turn, has: contracts. -/
namespace Go.Proofs.YtgbapkechngnmaaGreat
open Go.RowKit
theorem and63 : ∀ c : Nat, c < 256 → bits BinOp.and IntKind.i64 (c : Int) 63 = ((c % 64 : Nat) : Int) := by decide +kernel
theorem bits_or64 (x m : Nat) (hx : x < 18446744073709551616) (hm : m < 64) : bits BinOp.or IntKind.u64 (x : Int) (IntKind.u64.wrap (2 ^ m)) = ((x ||| 2 ^ m : Nat) : Int) := by
 have h2 : 2 ^ m < 2 ^ 64 := Nat.pow_lt_pow_right (by decide) hm
 have hw : IntKind.u64.wrap (2 ^ m) = ((2 ^ m : Nat) : Int) := by
  have : ((2 : Int) ^ m) = ((2 ^ m : Nat) : Int) := by simp
  rw [IntKind.wrap_u64, this]
  generalize 2 ^ m = p at *
  omega
 rw [hw]
 show IntKind.u64.wrap ((BitVec.ofInt 64 (x : Int) ||| BitVec.ofInt 64 ((2 ^ m : Nat) : Int)).toNat : Int) = _
 rw [BitVec.ofInt_natCast, BitVec.ofInt_natCast, IntKind.wrap_u64]
 have h3 := (BitVec.ofNat 64 x ||| BitVec.ofNat 64 (2 ^ m)).isLt
 have h4 : (BitVec.ofNat 64 x ||| BitVec.ofNat 64 (2 ^ m)).toNat = x ||| 2 ^ m := by
  rw [BitVec.toNat_or, BitVec.toNat_ofNat, BitVec.toNat_ofNat, Nat.mod_eq_of_lt hx, Nat.mod_eq_of_lt h2]
 rw [h4] at h3 ⊢
 omega
theorem words_add {f : Nat → Bool} {ws : List Nat} {c : Nat} (h : WordsOf f ws) (hc : c < 256) (x : Nat) (hx : ws.getD (c / 64) 0 = x) : WordsOf (fun j => f j || decide (j = c)) (ws.set (c / 64) (x ||| 2 ^ (c % 64))) := by
 obtain ⟨h1, h2, h3⟩ := h
 have hl : c / 64 < ws.length := by omega
 have hx' : ws[c / 64] = x := by rw [← hx, List.getD_eq_getElem?_getD, List.getElem?_eq_getElem hl]; rfl
 refine ⟨by rw [List.length_set]; exact h1, ?_, ?_⟩
 ·intro y hy
  rcases List.mem_or_eq_of_mem_set hy with h | rfl
  ·exact h2 y h
  ·have hxl := h2 x (hx' ▸ List.getElem_mem hl)
   have h2' : 2 ^ (c % 64) < 2 ^ 64 := Nat.pow_lt_pow_right (by decide) (Nat.mod_lt _ (by decide))
   exact Nat.or_lt_two_pow (n := 64) hxl h2'
 ·intro j hj
  have h3j := h3 j hj
  dsimp only
  rw [← h3j, List.getD_eq_getElem?_getD, List.getElem?_set, List.getD_eq_getElem?_getD]
  by_cases he : c / 64 = j / 64
  ·rw [if_pos he, if_pos hl, Option.getD_some, ← he, List.getElem?_eq_getElem hl, Option.getD_some, hx', Nat.testBit_or, Nat.testBit_two_pow]
   congr 1
   rw [Bool.eq_iff_iff, decide_eq_true_eq, decide_eq_true_eq]
   omega
  ·rw [if_neg he, decide_eq_false (fun e => he (by rw [e])), Bool.or_false]
theorem SetAt.congr {w : World} {k : Nat} {f f' : Nat → Bool} (h : SetAt w k f) (hf : ∀ c, c < 256 → f c = f' c) : SetAt w k f' := by
 obtain ⟨ws, ⟨h1, h2, h3⟩, h4⟩ := h
 exact ⟨ws, ⟨h1, h2, fun c hc => (h3 c hc).trans (hf c hc)⟩, h4⟩
set_option maxHeartbeats 3200000 in
set_option maxRecDepth 100000 in
theorem add_is (w : World) (k : Nat) (f : Nat → Bool) (lo hi : Nat) (h : SetAt w k f) (hlo : lo < 256) (hhi : hi < 256) :
  Calls Tryz.prog 141 #[.pointer (some ⟨k, 0, none⟩), .int .u8 lo, .int .u8 hi] w fun e w' => e = .returned (.tuple #[]) ∧ SetAt w' k (addS f lo hi) ∧ Keep (fun j => j = k) w w' := by
 have HS := Lib.hid h
 clear h
 go_enter Tryz.func141, Tryz.ntmps141
 go_wp2
 go_loopw [6] (fun i wr => ∃ c : Nat, lo ≤ c ∧ c ≤ max lo (hi + 1) ∧ i = .int .i64 c ∧ Hid (SetAt wr k (fun x => f x || (decide (lo ≤ x) && decide (x < c)))) ∧ Keep (fun j => j = k) w wr) (fun i _ => 256 - (intOf i).toNat)
 case atStart =>
  exact ⟨lo, Nat.le_refl _, by omega, rfl, Lib.hid (HS.out.congr (fun c _ => by by_cases hc : lo ≤ c <;> simp [hc]; exact fun h => absurd h (by omega))), Keep.refl _ _⟩
 case round =>
  obtain ⟨c, hc1, hc2, rfl, HC, hk⟩ := hrel
  by_cases hch : c ≤ hi
  ·obtain ⟨ws, ⟨hw1, hw2, hw3⟩, hb⟩ := HC.out
   go_wp2
   have hwl : c / 64 < ws.length := by omega
   obtain ⟨x, hx⟩ : ∃ x, ws[c / 64] = x := ⟨_, rfl⟩
   have hcell : wr.cell? ⟨k, c / 64, none⟩ = some (.int .u64 x) := by
    rw [cell_of_row _ _ _ _ _ _ hb, List.getElem?_toArray, List.getElem?_map, List.getElem?_eq_getElem hwl, hx]; rfl
   have hfz := frozen_of_row wr k (c / 64) _ _ hb
   have hi0 : (0 : Int) ≤ (c : Int) / 64 := by omega
   have hi4 : (c : Int) / 64 < 4 := by omega
   have hnat : ((c : Int) / 64).toNat = c / 64 := by omega
   have hand := and63 c (by omega)
   obtain ⟨m, hm⟩ : ∃ m, c % 64 = m := ⟨_, rfl⟩
   rw [hm] at hand
   have hm64 : m < 64 := by omega
   have HM := Lib.hid hm
   clear hm
   have hxl : x < 18446744073709551616 := hw2 x (hx ▸ List.getElem_mem hwl)
   have hor := bits_or64 x m hxl hm64
   obtain ⟨y, hy⟩ : ∃ y, x ||| 2 ^ m = y := ⟨_, rfl⟩
   rw [hy] at hor
   have HN : Hid (SetAt (wr.drew.setCell ⟨k, c / 64, none⟩ (.int .u64 y)) k (fun x => f x || (decide (lo ≤ x) && decide (x < c + 1)))) := Lib.hid (by
    have hw := words_add ⟨hw1, hw2, hw3⟩ (c := c) (by omega) x (by rw [List.getD_eq_getElem?_getD, List.getElem?_eq_getElem hwl, hx]; rfl)
    rw [HM.out, hy] at hw
    refine SetAt.congr ⟨_, hw, ?_⟩ ?_
    ·rw [heap_setCell_same wr.drew k (c / 64) _ _ _ hb, List.setIfInBounds_toArray, List.map_set]
    ·intro j _
     rw [Bool.eq_iff_iff]
     simp only [Bool.or_eq_true, Bool.and_eq_true, decide_eq_true_eq]
     by_cases hf : f j = true
     ·simp [hf]
     ·simp [hf]; omega)
   have hkk := (hk.drew).setCell (p := ⟨k, c / 64, none⟩) rfl (.int .u64 y)
   clear hy hxl hb hw2 hw3 hx
   go_still_tail 12, (by kernel_rfl)
   change wpList _ _ _ _ _ wr.drew
   have hcd : wr.drew.cell? ⟨k, c / 64, none⟩ = some (.int .u64 x) := hcell
   have hfd : wr.drew.frozen? ⟨k, c / 64, none⟩ = false := hfz
   clear hcell hfz HC hk
   generalize wr.drew = wd at *
   go_wp2
   go_roundw
   case rel => exact ⟨c + 1, by omega, by omega, by go_num, HN, hkk⟩
   case measure => simp [intOf]; omega
  ·go_wp2
   go_end0
   refine ⟨rfl, HC.out.congr (fun x _ => ?_), hk⟩
   unfold addS
   congr 1
   rw [Bool.eq_iff_iff]
   simp only [Bool.and_eq_true, decide_eq_true_eq]
   omega
theorem bits_xor64 (x : Nat) (hx : x < 18446744073709551616) : bits BinOp.xor IntKind.u64 (if IntKind.u64.signed = true then -1 else IntKind.u64.max) (x : Int) = ((18446744073709551615 - x : Nat) : Int) := by
 have e : (if IntKind.u64.signed = true then -1 else IntKind.u64.max : Int) = ((18446744073709551615 : Nat) : Int) := by decide
 rw [e]
 show IntKind.u64.wrap ((BitVec.ofInt 64 ((18446744073709551615 : Nat) : Int) ^^^ BitVec.ofInt 64 (x : Int)).toNat : Int) = _
 rw [BitVec.ofInt_natCast, BitVec.ofInt_natCast, IntKind.wrap_u64]
 have h4 : (BitVec.ofNat 64 18446744073709551615 ^^^ BitVec.ofNat 64 x).toNat = 18446744073709551615 - x := by
  have h1 : BitVec.ofNat 64 18446744073709551615 = BitVec.allOnes 64 := by decide
  rw [h1, BitVec.allOnes_xor, BitVec.toNat_not, BitVec.toNat_ofNat, Nat.mod_eq_of_lt hx]
 rw [h4]
 omega
theorem bits_has (x m : Nat) (hx : x < 18446744073709551616) : (bits BinOp.and IntKind.u64 ((x : Int) / 2 ^ m) 1 == 1) = x.testBit m := by
 have e : ((x : Int) / 2 ^ m) = ((x / 2 ^ m : Nat) : Int) := by simp
 have hl : x / 2 ^ m < 18446744073709551616 := Nat.lt_of_le_of_lt (Nat.div_le_self _ _) hx
 rw [e, Nat.testBit_eq_decide_div_mod_eq]
 generalize x / 2 ^ m = y at *
 have h : bits BinOp.and IntKind.u64 (y : Int) 1 = ((y % 2 : Nat) : Int) := by
  show IntKind.u64.wrap ((BitVec.ofInt 64 (y : Int) &&& BitVec.ofInt 64 ((1 : Nat) : Int)).toNat : Int) = _
  rw [BitVec.ofInt_natCast, BitVec.ofInt_natCast, IntKind.wrap_u64]
  have h4 : (BitVec.ofNat 64 y &&& BitVec.ofNat 64 1).toNat = y % 2 := by
   rw [BitVec.toNat_and, BitVec.toNat_ofNat, BitVec.toNat_ofNat, Nat.mod_eq_of_lt hl]
   exact Nat.and_one_is_mod y
  rw [h4]; omega
 rw [h, Bool.eq_iff_iff, beq_iff_eq, decide_eq_true_eq]
 omega
theorem xor64 (x : Nat) (hx : x < 18446744073709551616) : ∀ j, j < 64 → (18446744073709551615 - x).testBit j = !x.testBit j := by
 intro j hj
 have h := Nat.testBit_two_pow_sub_succ (n := 64) (x := x) hx j
 rw [show 18446744073709551615 - x = 2 ^ 64 - (x + 1) by omega, h]
 simp [hj]
set_option maxHeartbeats 3200000 in
set_option maxRecDepth 100000 in
theorem turn_is (w : World) (k : Nat) (f : Nat → Bool) (h : SetAt w k f) :
  Calls Tryz.prog 140 #[.pointer (some ⟨k, 0, none⟩)] w fun e w' => e = .returned (.tuple #[]) ∧ SetAt w' k (turnS f) ∧ Keep (fun j => j = k) w w' := by
 have HS := Lib.hid h
 clear h
 go_enter Tryz.func140, Tryz.ntmps140
 go_wp2
 go_loopw [3] (fun i wr => ∃ c : Nat, c ≤ 4 ∧ i = .int .i64 c ∧ Hid (SetAt wr k (fun x => if x < 64 * c then !f x else f x)) ∧ Keep (fun j => j = k) w wr) (fun i _ => 4 - (intOf i).toNat)
 case atStart =>
  exact ⟨0, Nat.zero_le _, rfl, Lib.hid (HS.out.congr (fun c _ => by simp)), Keep.refl _ _⟩
 case round =>
  obtain ⟨c, hc, rfl, HC, hk⟩ := hrel
  by_cases hch : c < 4
  ·obtain ⟨ws, ⟨hw1, hw2, hw3⟩, hb⟩ := HC.out
   have hwl : c < ws.length := by omega
   obtain ⟨x, hx⟩ : ∃ x, ws[c] = x := ⟨_, rfl⟩
   have hcell : wr.cell? ⟨k, c, none⟩ = some (.int .u64 x) := by
    rw [cell_of_row _ _ _ _ _ _ hb, List.getElem?_toArray, List.getElem?_map, List.getElem?_eq_getElem hwl, hx]; rfl
   have hfz := frozen_of_row wr k c _ _ hb
   have hi4 : (c : Int) < 4 := by omega
   have hi0 : (0 : Int) ≤ (c : Int) := by omega
   have hxl : x < 18446744073709551616 := hw2 x (hx ▸ List.getElem_mem hwl)
   have HN : Hid (SetAt (wr.drew.setCell ⟨k, c, none⟩ (.int .u64 ((18446744073709551615 - x : Nat) : Int))) k (fun x => if x < 64 * (c + 1) then !f x else f x)) := Lib.hid (by
    refine ⟨ws.set c (18446744073709551615 - x), ⟨by rw [List.length_set]; exact hw1, ?_, ?_⟩, ?_⟩
    ·intro y hy
     rcases List.mem_or_eq_of_mem_set hy with h | rfl
     ·exact hw2 y h
     ·omega
    ·intro j hj
     have h3 := hw3 j hj
     dsimp only at h3 ⊢
     rw [List.getD_eq_getElem?_getD, List.getElem?_set]
     rw [List.getD_eq_getElem?_getD] at h3
     by_cases he : c = j / 64
     ·rw [if_pos he, if_pos hwl, Option.getD_some, xor64 x hxl _ (Nat.mod_lt _ (by decide))]
      rw [← he, List.getElem?_eq_getElem hwl, Option.getD_some, hx, if_neg (by omega)] at h3
      rw [h3, if_pos (by omega)]
     ·rw [if_neg he, h3]
      by_cases h1 : j < 64 * c
      ·rw [if_pos h1, if_pos (by omega)]
      ·rw [if_neg h1, if_neg (by omega)]
    ·rw [heap_setCell_same wr.drew k c _ _ _ hb, List.setIfInBounds_toArray, List.map_set])
   have hkk := (hk.drew).setCell (p := ⟨k, c, none⟩) rfl (.int .u64 ((18446744073709551615 - x : Nat) : Int))
   have hxor := bits_xor64 x hxl
   generalize 18446744073709551615 - x = y at *
   clear hxl hb hw2 hw3 hx
   go_wp2
   go_still_tail 10, (by kernel_rfl)
   change wpList _ _ _ _ _ wr.drew
   have hcd : wr.drew.cell? ⟨k, c, none⟩ = some (.int .u64 x) := hcell
   have hfd : wr.drew.frozen? ⟨k, c, none⟩ = false := hfz
   clear hcell hfz HC hk
   generalize wr.drew = wd at *
   go_wp2
   go_roundw
   case rel => exact ⟨c + 1, by omega, by go_num, HN, hkk⟩
   case measure => simp [intOf]; omega
  ·go_wp2
   go_end0
   refine ⟨rfl, HC.out.congr (fun x hx => ?_), hk⟩
   rw [if_pos (by omega)]; rfl
set_option maxHeartbeats 3200000 in
set_option maxRecDepth 100000 in
theorem turn_d (u : FrameMode) (w : World) (k : Nat) (f : Nat → Bool) (h : SetAt w k f) :
  CallsD Tryz.prog 140 #[.pointer (some ⟨k, 0, none⟩)] u w fun e u' w' => u' = u ∧ e = .returned (.tuple #[]) ∧ SetAt w' k (turnS f) ∧ Keep (fun j => j = k) w w' := by
 have HS := Lib.hid h
 clear h
 go_enter_d Tryz.func140, Tryz.ntmps140
 go_wp2
 go_loopw [3] (fun i wr => ∃ c : Nat, c ≤ 4 ∧ i = .int .i64 c ∧ Hid (SetAt wr k (fun x => if x < 64 * c then !f x else f x)) ∧ Keep (fun j => j = k) w wr) (fun i _ => 4 - (intOf i).toNat)
 case atStart =>
  exact ⟨0, Nat.zero_le _, rfl, Lib.hid (HS.out.congr (fun c _ => by simp)), Keep.refl _ _⟩
 case round =>
  obtain ⟨c, hc, rfl, HC, hk⟩ := hrel
  by_cases hch : c < 4
  ·obtain ⟨ws, ⟨hw1, hw2, hw3⟩, hb⟩ := HC.out
   have hwl : c < ws.length := by omega
   obtain ⟨x, hx⟩ : ∃ x, ws[c] = x := ⟨_, rfl⟩
   have hcell : wr.cell? ⟨k, c, none⟩ = some (.int .u64 x) := by
    rw [cell_of_row _ _ _ _ _ _ hb, List.getElem?_toArray, List.getElem?_map, List.getElem?_eq_getElem hwl, hx]; rfl
   have hfz := frozen_of_row wr k c _ _ hb
   have hi4 : (c : Int) < 4 := by omega
   have hi0 : (0 : Int) ≤ (c : Int) := by omega
   have hxl : x < 18446744073709551616 := hw2 x (hx ▸ List.getElem_mem hwl)
   have HN : Hid (SetAt (wr.drew.setCell ⟨k, c, none⟩ (.int .u64 ((18446744073709551615 - x : Nat) : Int))) k (fun x => if x < 64 * (c + 1) then !f x else f x)) := Lib.hid (by
    refine ⟨ws.set c (18446744073709551615 - x), ⟨by rw [List.length_set]; exact hw1, ?_, ?_⟩, ?_⟩
    ·intro y hy
     rcases List.mem_or_eq_of_mem_set hy with h | rfl
     ·exact hw2 y h
     ·omega
    ·intro j hj
     have h3 := hw3 j hj
     dsimp only at h3 ⊢
     rw [List.getD_eq_getElem?_getD, List.getElem?_set]
     rw [List.getD_eq_getElem?_getD] at h3
     by_cases he : c = j / 64
     ·rw [if_pos he, if_pos hwl, Option.getD_some, xor64 x hxl _ (Nat.mod_lt _ (by decide))]
      rw [← he, List.getElem?_eq_getElem hwl, Option.getD_some, hx, if_neg (by omega)] at h3
      rw [h3, if_pos (by omega)]
     ·rw [if_neg he, h3]
      by_cases h1 : j < 64 * c
      ·rw [if_pos h1, if_pos (by omega)]
      ·rw [if_neg h1, if_neg (by omega)]
    ·rw [heap_setCell_same wr.drew k c _ _ _ hb, List.setIfInBounds_toArray, List.map_set])
   have hkk := (hk.drew).setCell (p := ⟨k, c, none⟩) rfl (.int .u64 ((18446744073709551615 - x : Nat) : Int))
   have hxor := bits_xor64 x hxl
   generalize 18446744073709551615 - x = y at *
   clear hxl hb hw2 hw3 hx
   go_wp2
   go_still_tail 10, (by kernel_rfl)
   change wpList _ _ _ _ _ wr.drew
   have hcd : wr.drew.cell? ⟨k, c, none⟩ = some (.int .u64 x) := hcell
   have hfd : wr.drew.frozen? ⟨k, c, none⟩ = false := hfz
   clear hcell hfz HC hk
   generalize wr.drew = wd at *
   go_wp2
   go_roundw
   case rel => exact ⟨c + 1, by omega, by go_num, HN, hkk⟩
   case measure => simp [intOf]; omega
  ·go_wp2
   go_end0
   refine ⟨rfl, HC.out.congr (fun x hx => ?_), hk⟩
   rw [if_pos (by omega)]; rfl
set_option maxHeartbeats 1600000 in
set_option maxRecDepth 100000 in
theorem has_is (w : World) (k : Nat) (f : Nat → Bool) (c : Nat) (h : SetAt w k f) (hc : c < 256) :
  Calls Tryz.prog 111 #[.pointer (some ⟨k, 0, none⟩), .int .u8 c] w fun e w' => e = .returned (.bool (f c)) ∧ w' = w := by
 obtain ⟨ws, ⟨hw1, hw2, hw3⟩, hb⟩ := h
 have hwl : c / 64 < ws.length := by omega
 obtain ⟨x, hx⟩ : ∃ x, ws[c / 64] = x := ⟨_, rfl⟩
 have hcell : w.cell? ⟨k, c / 64, none⟩ = some (.int .u64 x) := by
  rw [cell_of_row _ _ _ _ _ _ hb, List.getElem?_toArray, List.getElem?_map, List.getElem?_eq_getElem hwl, hx]; rfl
 have hi0 : (0 : Int) ≤ (c : Int) / 64 := by omega
 have hi4 : (c : Int) / 64 < 4 := by omega
 have hnat : ((c : Int) / 64).toNat = c / 64 := by omega
 have h3 := hw3 c hc
 rw [List.getD_eq_getElem?_getD, List.getElem?_eq_getElem hwl, Option.getD_some, hx] at h3
 have hbh := bits_has x (c % 64) (hw2 x (hx ▸ List.getElem_mem hwl))
 rw [h3] at hbh
 have HBH := Lib.hid hbh
 clear hw3 hb hw2 hx hw1 hwl h3 hbh
 go_enter Tryz.func111, Tryz.ntmps111
 go_wp2
 go_ret
 exact ⟨by rw [← HBH.out]; rfl, rfl⟩
end Go.Proofs.YtgbapkechngnmaaGreat
/- pattern's builder: sign: a contract. -/
namespace Go.Proofs.YtgbapkechngnmaaGreat
open Go.RowKit
theorem Bld.fields {w : World} {g : Nat} {s : ByteArray} {b : Bs} {own : Nat → Prop} (h : Bld w g s b own) :
  w.cell? ⟨g, 0, none⟩ = some (.string s) ∧ w.cell? ⟨g, 1, none⟩ = some (.int .i64 b.pos) ∧ w.cell? ⟨g, 2, none⟩ = some (.int .i64 b.err) ∧ w.frozen? ⟨g, 1, none⟩ = false := by
 obtain ⟨sv, es, hV⟩ := h
 obtain ⟨h0, h1, h2, _, h4⟩ := hV.cells
 exact ⟨h0, h1, h2, h4 1⟩
theorem Stp.step {w : World} {g : Nat} {s : ByteArray} {b : Bs} {own : Nat → Prop} (h : Bld w g s b own) (v : Value) : Stp own w own (w.setCell ⟨g, 1, none⟩ v) := Stp.setCell h.og v
theorem signM_none {s : ByteArray} {b : Bs} (h : peekM s b = none) : signM s b = (failM (stepM b) 2, 0) := by unfold signM; rw [h]
theorem signM_plain {s : ByteArray} {b : Bs} {c : Nat} (h : peekM s b = some c) (hc : c ≠ 92) : signM s b = (stepM b, c) := by unfold signM; rw [h]; simp [hc]
theorem signM_end {s : ByteArray} {b : Bs} (h : peekM s b = some 92) (h' : peekM s (stepM b) = none) : signM s b = (failM (stepM (stepM b)) 2, 0) := by unfold signM; rw [h]; simp [h']
theorem signM_esc {s : ByteArray} {b : Bs} {d : Nat} (h : peekM s b = some 92) (h' : peekM s (stepM b) = some d) : signM s b = (stepM (stepM b), d) := by unfold signM; rw [h]; simp [h']
set_option maxHeartbeats 1600000 in
set_option maxRecDepth 100000 in
theorem sign_is (w : World) (g : Nat) (s : ByteArray) (b : Bs) (own : Nat → Prop) (h : Bld w g s b own) (hp : b.pos ≤ 1000000) :
  Calls Tryz.prog 166 #[.pointer (some ⟨g, 0, none⟩)] w fun e w' => e = .returned (.int .u8 ((signM s b).2 : Nat)) ∧ Bld w' g s (signM s b).1 own ∧ Stp own w own w' := by
 obtain ⟨o, ho⟩ : ∃ o, peekM s b = o := ⟨_, rfl⟩
 have k1 := peek_is w g s b own o ho h (by omega)
 have HO := Lib.hid ho
 have HB := Lib.hid h
 clear ho h
 go_enter Tryz.func166, Tryz.ntmps166
 go_wp2_with fail
 refine k1.mono ?_
 rintro e w1 ⟨rfl, hb1⟩
 have HB1 := Lib.hid (HB.out.below hb1)
 have HS1 := Lib.hid (Stp.of_below (own := own) hb1)
 obtain ⟨_, c1, _, f1⟩ := HB1.out.fields
 clear k1 hb1
 go_upto_region 3 with fail
 change Code.wp _ _ _ _ (w1.setCell ⟨g, 1, none⟩ (.int .i64 ((b.pos : Int) + 1)))
 have HB2 := Lib.hid HB1.out.step
 have HS2 := Lib.hid (HS1.out.trans (Stp.step HB1.out (.int .i64 ((b.pos : Int) + 1))))
 clear c1 f1 HB1 HS1 HB
 generalize w1.setCell ⟨g, 1, none⟩ (.int .i64 ((b.pos : Int) + 1)) = w2 at *
 have kf := fun W b own (h : Bld W g s b own) => fail_is W g s b own 2 h
 have KF := Lib.hid kf
 clear kf
 cases o
 ·have k2 := KF.out _ _ _ HB2.out
  go_wp2_with fail
  refine k2.mono ?_
  rintro e w3 ⟨rfl, hB3, hs3⟩
  have HB3 := Lib.hid hB3
  have HS3 := Lib.hid (HS2.out.trans hs3)
  clear k2 hB3 hs3
  go_wp2
  go_ret
  rw [signM_none HO.out]
  exact ⟨rfl, HB3.out, HS3.out⟩
 ·rename_i c
  by_cases hc : c = 92
  ·subst hc
   obtain ⟨o, ho⟩ : ∃ o, peekM s (stepM b) = o := ⟨_, rfl⟩
   have k2 := peek_is w2 g s (stepM b) own o ho HB2.out (by simp only [stepM]; omega)
   have HO2 := Lib.hid ho
   clear ho
   go_wp2_with fail
   refine k2.mono ?_
   rintro e w3 ⟨rfl, hb3⟩
   have HB3 := Lib.hid (HB2.out.below hb3)
   have HS3 := Lib.hid (HS2.out.trans (Stp.of_below (own := own) hb3))
   obtain ⟨_, c1, _, f1⟩ := HB3.out.fields
   have hps : (stepM b).pos ≤ 1000001 := by simp only [stepM]; omega
   clear k2 hb3 HB2 HS2
   go_upto_region 6 with fail
   change Code.wp _ _ _ _ (w3.setCell ⟨g, 1, none⟩ (.int .i64 (((stepM b).pos : Int) + 1)))
   have HB4 := Lib.hid HB3.out.step
   have HS4 := Lib.hid (HS3.out.trans (Stp.step HB3.out (.int .i64 (((stepM b).pos : Int) + 1))))
   clear c1 f1 HB3 HS3
   generalize w3.setCell ⟨g, 1, none⟩ (.int .i64 (((stepM b).pos : Int) + 1)) = w4 at *
   cases o
   ·have k2 := KF.out _ _ _ HB4.out
    go_wp2_with fail
    refine k2.mono ?_
    rintro e w5 ⟨rfl, hB5, hs5⟩
    have HB5 := Lib.hid hB5
    have HS5 := Lib.hid (HS4.out.trans hs5)
    clear k2 hB5 hs5
    go_wp2
    go_ret
    rw [signM_end HO.out HO2.out]
    exact ⟨rfl, HB5.out, HS5.out⟩
   ·rename_i d
    go_wp2
    go_ret
    rw [signM_esc HO.out HO2.out]
    exact ⟨rfl, HB4.out, HS4.out⟩
  ·have hcb : ((c : Int) == 92) = false := by rw [beq_eq_false_iff_ne]; omega
   have HC := Lib.hid hc
   clear hc
   go_wp2
   go_ret
   rw [signM_plain HO.out HC.out]
   exact ⟨rfl, HB2.out, HS2.out⟩
end Go.Proofs.YtgbapkechngnmaaGreat
/- pattern's builder: class: a contract. -/
namespace Go.Proofs.YtgbapkechngnmaaGreat
open Go.RowKit
structure ClsAt (w0 : World) (own : Nat → Prop) (k g : Nat) (s : ByteArray) (b : Bs) (S : Nat → Bool) (w : World) : Prop where
 bld : Bld w g s b own
 set : SetAt w k S
 nk : ¬ own k
 keep : Keep (fun j => own j ∨ j = k) w0 w
theorem ClsAt.below {w0 : World} {own : Nat → Prop} {k g : Nat} {s : ByteArray} {b : Bs} {S : Nat → Bool} {w w' : World} (h : ClsAt w0 own k g s b S w) (hb : Below w.heap.size w w') : ClsAt w0 own k g s b S w' :=
 ⟨h.bld.below hb, h.set.blk (hb.block k h.set.lt), h.nk, h.keep.trans (Keep.of_below (own := own) hb) (fun _ hj => .inl (.inl hj))⟩
theorem ClsAt.stp {w0 : World} {own : Nat → Prop} {k g : Nat} {s : ByteArray} {b b' : Bs} {S : Nat → Bool} {w w' : World} (h : ClsAt w0 own k g s b S w) (hB : Bld w' g s b' own) (hs : Stp own w own w') : ClsAt w0 own k g s b' S w' :=
 ⟨hB, h.set.blk (hs.1.block k h.set.lt h.nk), h.nk, h.keep.trans hs.1 (fun _ hj => .inl (.inl hj))⟩
theorem ClsAt.step {w0 : World} {own : Nat → Prop} {k g : Nat} {s : ByteArray} {b : Bs} {S : Nat → Bool} {w : World} (h : ClsAt w0 own k g s b S w) : ClsAt w0 own k g s (stepM b) S (w.setCell ⟨g, 1, none⟩ (.int .i64 ((b.pos : Int) + 1))) :=
 h.stp h.bld.step (Stp.step h.bld _)
theorem ClsAt.turn {w0 : World} {own : Nat → Prop} {k g : Nat} {s : ByteArray} {b : Bs} {S S' : Nat → Bool} {w w' : World} (h : ClsAt w0 own k g s b S w) (hS : SetAt w' k S') (hk : Keep (fun j => j = k) w w') : ClsAt w0 own k g s b S' w' := by
 refine ⟨?_, hS, h.nk, h.keep.trans hk (fun _ hj => .inl (.inr hj))⟩
 obtain ⟨sv, es, hV⟩ := h.bld
 exact ⟨sv, es, hV.kept hk.size (fun j hj => hk.block j (hV.lt j hj) (fun e => h.nk (e ▸ hj)))⟩
theorem wp_forget {Pr : Program} {Q : Exit → Act → World → Prop} {c : Code} {a : Act} {W : World} (P : World → Prop) (h : P W) (k : ∀ W', P W' → Code.wp Pr c Q a W') : Code.wp Pr c Q a W := k W h
def posAt (w : World) (g : Nat) : Nat := match w.cell? ⟨g, 1, none⟩ with
 | some (.int _ n) => n.toNat
 | _ => 0
theorem Bld.posAt {w : World} {g : Nat} {s : ByteArray} {b : Bs} {own : Nat → Prop} (h : Bld w g s b own) : posAt w g = b.pos := by
 unfold Go.Proofs.YtgbapkechngnmaaGreat.posAt
 rw [h.fields.2.1]
 simp
def LoopAt (w0 : World) (own : Nat → Prop) (k g : Nat) (s : ByteArray) (r : Bs × (Nat → Bool)) (v : Value) (w : World) : Prop :=
 ∃ (n : Nat) (first : Bool) (b : Bs) (S : Nat → Bool), v = .bool first ∧ loopM s (n + 1) first b S = r ∧ s.size - b.pos ≤ n ∧ b.pos ≤ s.size + 1 ∧ ClsAt w0 own k g s b S w
theorem loopM_none {s : ByteArray} {n : Nat} {first : Bool} {b : Bs} {S : Nat → Bool} (h : peekM s b = none) : loopM s (n + 1) first b S = (failM b 2, S) := by rw [loopM, h]
theorem loopM_first {s : ByteArray} {n : Nat} {b : Bs} {S : Nat → Bool} (h : peekM s b = some 93) : loopM s (n + 1) true b S = (failM b 2, S) := by rw [loopM, h]; rfl
theorem loopM_end {s : ByteArray} {n : Nat} {b : Bs} {S : Nat → Bool} (h : peekM s b = some 93) : loopM s (n + 1) false b S = (stepM b, S) := by rw [loopM, h]; rfl
theorem loopM_on {s : ByteArray} {n d : Nat} {first : Bool} {b : Bs} {S : Nat → Bool} (h : peekM s b = some d) (hd : d ≠ 93) {x : Bs × Nat} (hx : signM s b = x) {y : Bs × Nat} (hy : rangeM s x.1 x.2 = y) : loopM s (n + 1) first b S = loopM s n false (if y.2 < x.2 then failM y.1 2 else y.1) (addS S x.2 y.2) := by
 rw [loopM, h]
 dsimp only
 rw [if_neg hd, hx, hy]
theorem rangeB_false {s : ByteArray} {b : Bs} (h : peekM s b ≠ some 45) : rangeB s b = false := by unfold rangeB; rw [decide_eq_false h]; rfl
theorem rangeM_no {s : ByteArray} {b : Bs} {lo : Nat} (h : rangeB s b = false) : rangeM s b lo = (b, lo) := by unfold rangeM; rw [h]; rfl
theorem rangeM_yes {s : ByteArray} {b : Bs} {lo : Nat} (h : rangeB s b = true) : rangeM s b lo = signM s (stepM b) := by unfold rangeM; rw [h]; rfl
theorem rangeB_at {s : ByteArray} {b : Bs} (h : peekM s b = some 45) : rangeB s b = (decide (b.pos + 1 < s.size) && !decide (byteM s (b.pos + 1) = 93)) := by unfold rangeB; rw [decide_eq_true h]; rfl
set_option maxHeartbeats 12800000 in
set_option maxRecDepth 100000 in
theorem class_is (w : World) (g k : Nat) (s : ByteArray) (b1 : Bs) (own : Nat → Prop) (h : Bld w g s b1 own) (hS : SetAt w k noS) (hk : ¬ own k) (hp : b1.pos ≤ s.size) (hs : s.size ≤ 1000) :
  Calls Tryz.prog 139 #[.pointer (some ⟨g, 0, none⟩), .pointer (some ⟨k, 0, none⟩)] w fun e w' => e = .returned (.tuple #[]) ∧ Bld w' g s (classM s b1).1 own ∧ SetAt w' k (classM s b1).2 ∧ Keep (fun j => own j ∨ j = k) w w' := by
 have hc0 : ClsAt w own k g s b1 noS w := ⟨h, hS, hk, Keep.refl _ _⟩
 obtain ⟨o, ho⟩ : ∃ o, peekM s b1 = o := ⟨_, rfl⟩
 have k1 := peek_is w g s b1 own o ho h (by omega)
 have kf := fun W b own (h : Bld W g s b own) => fail_is W g s b own 2 h
 have KF := Lib.hid kf
 have kt := fun u W f (h : SetAt W k f) => turn_d u W k f h
 have KT := Lib.hid kt
 have HO := Lib.hid ho
 have H0 := Lib.hid hc0
 clear kf kt ho hc0 h hS hk
 go_enter_defers Tryz.func139, Tryz.ntmps139
 go_wp2_with fail
 refine k1.mono ?_
 rintro e w1 ⟨rfl, hb1⟩
 have H1 := Lib.hid (H0.out.below hb1)
 clear k1 hb1 H0
 by_cases h94 : o = some 94
 ·subst h94
  obtain ⟨_, c1, _, f1⟩ := H1.out.bld.fields
  have hps := (peekM_some HO.out).2.1
  obtain ⟨r0, hr0⟩ : ∃ r0, loopM s (s.size + 1) true (stepM b1) noS = r0 := ⟨_, rfl⟩
  have HR0 := Lib.hid hr0
  have HCM : Hid (classM s b1 = (r0.1, turnS r0.2)) := Lib.hid (by unfold classM; rw [if_pos HO.out, hr0])
  go_upto_region 3 with fail
  refine wp_forget (ClsAt w own k g s (stepM b1) noS) H1.out.step (fun w2 h2 => ?_)
  have H2 := Lib.hid h2
  have hsp : (stepM b1).pos ≤ s.size + 1 := by simp only [stepM]; omega
  obtain ⟨b0, hb0⟩ : ∃ b0, stepM b1 = b0 := ⟨_, rfl⟩
  rw [hb0] at H2 HR0 hsp
  clear h2 c1 f1 H1 hr0 HO hb0
  go_wp2
  go_loopw [6] (fun v wr => LoopAt w own k g s r0 v wr) (fun _ wr => s.size + 5 - posAt wr g)
  case atStart => exact ⟨s.size, true, b0, noS, rfl, HR0.out, by omega, hsp, H2.out⟩
  case round =>
   clear H2 HR0 hsp hps hp b0
   obtain ⟨n, first, b, S, rfl, he, hn, hp, hC⟩ := hrel
   have HE := Lib.hid he
   have HC := Lib.hid hC
   obtain ⟨o, ho⟩ : ∃ o, peekM s b = o := ⟨_, rfl⟩
   have k1 := peek_is wr g s b own o ho HC.out.bld (by omega)
   have HO := Lib.hid ho
   clear he hC ho
   go_wp2_with fail
   refine k1.mono ?_
   rintro e wa ⟨rfl, hba⟩
   have HA := Lib.hid (HC.out.below hba)
   clear k1 hba
   rcases o with _ | d
   ·have kq1 := KF.out _ _ _ HA.out.bld
    go_wp2_with fail
    refine kq1.mono ?_
    rintro e w1 ⟨rfl, hB1, hs1⟩
    have H1 := Lib.hid (HA.out.stp hB1 hs1)
    clear kq1 hB1 hs1
    go_wp2
    refine leaves_cons (f := 140) (args := #[.pointer (some ⟨k, 0, none⟩)]) (by simp) (by simp [go_sem]) ?_
    refine (KT.out .returning _ _ H1.out.set).mono ?_
    rintro e u w2 ⟨rfl, rfl, hS2, hk2⟩
    have he := HE.out
    rw [loopM_none HO.out] at he
    subst he
    have H2 := H1.out.turn hS2 hk2
    refine ⟨_, results_none rfl _ _ _, rfl, ?_⟩
    rw [HCM.out]
    exact ⟨H2.bld, H2.set, H2.keep⟩
   ·by_cases hd : d = 93
    ·subst hd
     cases first
     ·obtain ⟨_, c1, _, f1⟩ := HA.out.bld.fields
      have HST := Lib.hid HA.out.step
      go_wp2
      refine leaves_cons (f := 140) (args := #[.pointer (some ⟨k, 0, none⟩)]) (by simp) (by simp [go_sem]) ?_
      refine (KT.out .returning _ _ HST.out.set).mono ?_
      rintro e u w4 ⟨rfl, rfl, hS4, hk4⟩
      have he := HE.out
      rw [loopM_end HO.out] at he
      subst he
      have H4 := HST.out.turn hS4 hk4
      refine ⟨_, results_none rfl _ _ _, rfl, ?_⟩
      rw [HCM.out]
      exact ⟨H4.bld, H4.set, H4.keep⟩
     ·have kq5 := KF.out _ _ _ HA.out.bld
      go_wp2_with fail
      refine kq5.mono ?_
      rintro e w5 ⟨rfl, hB5, hs5⟩
      have H5 := Lib.hid (HA.out.stp hB5 hs5)
      clear kq5 hB5 hs5
      go_wp2
      refine leaves_cons (f := 140) (args := #[.pointer (some ⟨k, 0, none⟩)]) (by simp) (by simp [go_sem]) ?_
      refine (KT.out .returning _ _ H5.out.set).mono ?_
      rintro e u w6 ⟨rfl, rfl, hS6, hk6⟩
      have he := HE.out
      rw [loopM_first HO.out] at he
      subst he
      have H6 := H5.out.turn hS6 hk6
      refine ⟨_, results_none rfl _ _ _, rfl, ?_⟩
      rw [HCM.out]
      exact ⟨H6.bld, H6.set, H6.keep⟩
    ·have hdb : ((d : Int) == 93) = false := by rw [beq_eq_false_iff_ne]; omega
     have HD := Lib.hid hd
     have hps := (peekM_some HO.out).2.1
     obtain ⟨xb, lo, hx⟩ : ∃ xb lo, signM s b = (xb, lo) := ⟨_, _, rfl⟩
     have k2 := sign_is wa g s b own HA.out.bld (by omega)
     have hsp := signM_pos s b hps
     have hlo := signM_lt s b
     rw [hx] at k2 hsp hlo
     dsimp only at k2 hsp hlo
     have HX := Lib.hid hx
     clear hd hx
     go_wp2_with fail
     refine k2.mono ?_
     rintro e wb ⟨rfl, hBb, hsb⟩
     have HB := Lib.hid (HA.out.stp hBb hsb)
     clear k2 hBb hsb
     obtain ⟨o2, ho2⟩ : ∃ o2, peekM s xb = o2 := ⟨_, rfl⟩
     have k3 := peek_is wb g s xb own o2 ho2 HB.out.bld (by omega)
     have HO2 := Lib.hid ho2
     clear ho2
     go_wp2_with fail
     refine k3.mono ?_
     rintro e wc ⟨rfl, hbc⟩
     have HCC := Lib.hid (HB.out.below hbc)
     clear k3 hbc
     obtain ⟨c0, c1, _, _⟩ := HCC.out.bld.fields
     have HSP := Lib.hid hsp
     rcases o2 with _ | e2
     ·have HY : Hid (rangeM s (xb, lo).1 (xb, lo).2 = (xb, lo)) := Lib.hid (rangeM_no (rangeB_false (by rw [HO2.out]; simp)))
      go_upto_region 14 with fail
      go_quiet (fail)
      go_upto_region 17 with fail
      refine wp_forget (ClsAt w own k g s xb S) (HCC.out.below (bl_drewN (Below.refl _ _) _)) (fun wq hq => ?_)
      have HQ := Lib.hid hq
      clear c0 c1 hq
      have HLT : Hid (¬ (xb, lo).2 < (xb, lo).2) := Lib.hid (Nat.lt_irrefl _)
      have ka := add_is wq k S lo lo HQ.out.set hlo hlo
      go_wp2_with fail
      refine ka.mono ?_
      rintro e w7 ⟨rfl, hS7, hk7⟩
      have H7 := Lib.hid (HQ.out.turn hS7 hk7)
      clear ka hS7 hk7
      go_wp2
      go_roundw
      case rel =>
       refine ⟨n - 1, false, xb, addS S lo lo, rfl, ?_, ?_, ?_, H7.out⟩
       ·have he := HE.out
        rw [loopM_on HO.out HD.out HX.out HY.out, if_neg HLT.out] at he
        have hn1 : n - 1 + 1 = n := by have := HSP.out; omega
        rw [hn1]
        exact he
       ·have := HSP.out; omega
       ·have := HSP.out; omega
      case measure =>
       rw [H7.out.bld.posAt, HC.out.bld.posAt]
       have := HSP.out; omega
     ·by_cases h45 : e2 = 45
      ·subst h45
       by_cases hin : xb.pos + 1 < s.size
       ·by_cases h93 : byteM s (xb.pos + 1) = 93
        ·have hi0 : (0 : Int) ≤ (xb.pos : Int) + 1 := by omega
         have hi1 : (xb.pos : Int) + 1 < (s.size : Int) := by omega
         have hnt : ((xb.pos : Int) + 1).toNat = xb.pos + 1 := by omega
         have hwr : IntKind.i64.wrap ((xb.pos : Int) + 1) = (xb.pos : Int) + 1 := IntWalk.i64_in _ ⟨by omega, by omega⟩
         have hd1 : decide ((xb.pos : Int) + 1 < (s.size : Int)) = true := decide_eq_true hi1
         have hba := byteM_at s (xb.pos + 1) hin
         have h9 : (((s[xb.pos + 1]'hin).toNat : Int) != 93) = false := by rw [hba, h93]; rfl
         have HY : Hid (rangeM s (xb, lo).1 (xb, lo).2 = (xb, lo)) := Lib.hid (rangeM_no (by rw [rangeB_at HO2.out, h93]; simp))
         go_upto_region 14 with fail
         go_quiet (fail)
         go_upto_region 17 with fail
         refine wp_forget (ClsAt w own k g s xb S) (HCC.out.below (bl_drewN (Below.refl _ _) _)) (fun wq hq => ?_)
         have HQ := Lib.hid hq
         clear c0 c1 hq
         have HLT : Hid (¬ (xb, lo).2 < (xb, lo).2) := Lib.hid (Nat.lt_irrefl _)
         have ka := add_is wq k S lo lo HQ.out.set hlo hlo
         go_wp2_with fail
         refine ka.mono ?_
         rintro e w8 ⟨rfl, hS8, hk8⟩
         have H8 := Lib.hid (HQ.out.turn hS8 hk8)
         clear ka hS8 hk8
         go_wp2
         go_roundw
         case rel =>
          refine ⟨n - 1, false, xb, addS S lo lo, rfl, ?_, ?_, ?_, H8.out⟩
          ·have he := HE.out
           rw [loopM_on HO.out HD.out HX.out HY.out, if_neg HLT.out] at he
           have hn1 : n - 1 + 1 = n := by have := HSP.out; omega
           rw [hn1]
           exact he
          ·have := HSP.out; omega
          ·have := HSP.out; omega
         case measure =>
          rw [H8.out.bld.posAt, HC.out.bld.posAt]
          have := HSP.out; omega
        ·have hi0 : (0 : Int) ≤ (xb.pos : Int) + 1 := by omega
         have hi1 : (xb.pos : Int) + 1 < (s.size : Int) := by omega
         have hnt : ((xb.pos : Int) + 1).toNat = xb.pos + 1 := by omega
         have hwr : IntKind.i64.wrap ((xb.pos : Int) + 1) = (xb.pos : Int) + 1 := IntWalk.i64_in _ ⟨by omega, by omega⟩
         have hd1 : decide ((xb.pos : Int) + 1 < (s.size : Int)) = true := decide_eq_true hi1
         have hba := byteM_at s (xb.pos + 1) hin
         have h9 : (((s[xb.pos + 1]'hin).toNat : Int) != 93) = true := by rw [hba]; simp; omega
         have hrb : rangeB s xb = true := by rw [rangeB_at HO2.out]; simp [hin, h93]
         go_upto_region 14 with fail
         go_quiet (fail)
         go_upto_region 16 with fail
         refine wp_forget (ClsAt w own k g s (stepM xb) S) (HCC.out.below (bl_drewN (Below.refl _ _) _)).step (fun wq hq => ?_)
         have HQ := Lib.hid hq
         obtain ⟨yb, hi, hye⟩ : ∃ yb hi, signM s (stepM xb) = (yb, hi) := ⟨_, _, rfl⟩
         have k4 := sign_is wq g s (stepM xb) own HQ.out.bld (by simp only [stepM]; omega)
         have hsp2 := signM_pos s (stepM xb) hin
         have hhi := signM_lt s (stepM xb)
         rw [hye] at k4 hsp2 hhi
         dsimp only at k4 hsp2 hhi
         have HY : Hid (rangeM s (xb, lo).1 (xb, lo).2 = (yb, hi)) := Lib.hid ((rangeM_yes hrb).trans hye)
         have HP : Hid (b.pos < yb.pos ∧ yb.pos ≤ s.size + 1) := Lib.hid ⟨by simp only [stepM] at hsp2; have := HSP.out; omega, hsp2.2⟩
         clear c0 c1 hq hye hrb hsp2 h9 hba hi0 hi1 hnt hwr hd1
         go_wp2_with fail
         refine k4.mono ?_
         rintro e wd ⟨rfl, hBd, hsd⟩
         have HDD := Lib.hid (HQ.out.stp hBd hsd)
         clear k4 hBd hsd
         by_cases hlt : hi < lo
         ·have HLT := Lib.hid hlt
          have hlti : (hi : Int) < (lo : Int) := by omega
          clear hlt
          have kq10 := KF.out _ _ _ HDD.out.bld
          go_wp2_with fail
          refine kq10.mono ?_
          rintro e w10 ⟨rfl, hB10, hs10⟩
          have H10 := Lib.hid (HDD.out.stp hB10 hs10)
          clear kq10 hB10 hs10
          have ka11 := add_is _ k S lo hi H10.out.set hlo hhi
          go_wp2_with fail
          refine ka11.mono ?_
          rintro e w11 ⟨rfl, hS11, hk11⟩
          have H11 := Lib.hid (H10.out.turn hS11 hk11)
          clear ka11 hS11 hk11
          go_wp2
          go_roundw
          case rel =>
           refine ⟨n - 1, false, failM yb 2, addS S lo hi, rfl, ?_, ?_, ?_, H11.out⟩
           ·have he := HE.out
            rw [loopM_on HO.out HD.out HX.out HY.out] at he
            dsimp only at he
            rw [if_pos HLT.out] at he
            have hn1 : n - 1 + 1 = n := by have := HSP.out; omega
            rw [hn1]
            exact he
           ·rw [failM_pos]; have := HP.out; omega
           ·rw [failM_pos]; have := HP.out; omega
          case measure =>
           rw [H11.out.bld.posAt, HC.out.bld.posAt]
           rw [failM_pos]
           have := HP.out; omega
         ·have HLT := Lib.hid hlt
          have hlti : ¬ (hi : Int) < (lo : Int) := by omega
          have hlti' : (lo : Int) ≤ (hi : Int) := by omega
          clear hlt
          have ka14 := add_is _ k S lo hi HDD.out.set hlo hhi
          go_wp2_with fail
          refine ka14.mono ?_
          rintro e w14 ⟨rfl, hS14, hk14⟩
          have H14 := Lib.hid (HDD.out.turn hS14 hk14)
          clear ka14 hS14 hk14
          go_wp2
          go_roundw
          case rel =>
           refine ⟨n - 1, false, yb, addS S lo hi, rfl, ?_, ?_, ?_, H14.out⟩
           ·have he := HE.out
            rw [loopM_on HO.out HD.out HX.out HY.out] at he
            dsimp only at he
            rw [if_neg HLT.out] at he
            have hn1 : n - 1 + 1 = n := by have := HSP.out; omega
            rw [hn1]
            exact he
           ·have := HP.out; omega
           ·have := HP.out; omega
          case measure =>
           rw [H14.out.bld.posAt, HC.out.bld.posAt]
           skip
           have := HP.out; omega
       ·have hd1 : decide ((xb.pos : Int) + 1 < (s.size : Int)) = false := decide_eq_false (by omega)
        have hwr : IntKind.i64.wrap ((xb.pos : Int) + 1) = (xb.pos : Int) + 1 := IntWalk.i64_in _ ⟨by omega, by omega⟩
        have HY : Hid (rangeM s (xb, lo).1 (xb, lo).2 = (xb, lo)) := Lib.hid (rangeM_no (by rw [rangeB_at HO2.out]; simp [hin]))
        go_upto_region 14 with fail
        go_quiet (fail)
        go_upto_region 17 with fail
        refine wp_forget (ClsAt w own k g s xb S) (HCC.out.below (bl_drewN (Below.refl _ _) _)) (fun wq hq => ?_)
        have HQ := Lib.hid hq
        clear c0 c1 hq
        have HLT : Hid (¬ (xb, lo).2 < (xb, lo).2) := Lib.hid (Nat.lt_irrefl _)
        have ka := add_is wq k S lo lo HQ.out.set hlo hlo
        go_wp2_with fail
        refine ka.mono ?_
        rintro e w16 ⟨rfl, hS16, hk16⟩
        have H16 := Lib.hid (HQ.out.turn hS16 hk16)
        clear ka hS16 hk16
        go_wp2
        go_roundw
        case rel =>
         refine ⟨n - 1, false, xb, addS S lo lo, rfl, ?_, ?_, ?_, H16.out⟩
         ·have he := HE.out
          rw [loopM_on HO.out HD.out HX.out HY.out, if_neg HLT.out] at he
          have hn1 : n - 1 + 1 = n := by have := HSP.out; omega
          rw [hn1]
          exact he
         ·have := HSP.out; omega
         ·have := HSP.out; omega
        case measure =>
         rw [H16.out.bld.posAt, HC.out.bld.posAt]
         have := HSP.out; omega
      ·have hb45 : ((e2 : Int) == 45) = false := by rw [beq_eq_false_iff_ne]; omega
       have HY : Hid (rangeM s (xb, lo).1 (xb, lo).2 = (xb, lo)) := Lib.hid (rangeM_no (rangeB_false (by rw [HO2.out]; simpa using h45)))
       go_upto_region 14 with fail
       go_quiet (fail)
       go_upto_region 17 with fail
       refine wp_forget (ClsAt w own k g s xb S) (HCC.out.below (bl_drewN (Below.refl _ _) _)) (fun wq hq => ?_)
       have HQ := Lib.hid hq
       clear c0 c1 hq
       have HLT : Hid (¬ (xb, lo).2 < (xb, lo).2) := Lib.hid (Nat.lt_irrefl _)
       have ka := add_is wq k S lo lo HQ.out.set hlo hlo
       go_wp2_with fail
       refine ka.mono ?_
       rintro e w17 ⟨rfl, hS17, hk17⟩
       have H17 := Lib.hid (HQ.out.turn hS17 hk17)
       clear ka hS17 hk17
       go_wp2
       go_roundw
       case rel =>
        refine ⟨n - 1, false, xb, addS S lo lo, rfl, ?_, ?_, ?_, H17.out⟩
        ·have he := HE.out
         rw [loopM_on HO.out HD.out HX.out HY.out, if_neg HLT.out] at he
         have hn1 : n - 1 + 1 = n := by have := HSP.out; omega
         rw [hn1]
         exact he
        ·have := HSP.out; omega
        ·have := HSP.out; omega
       case measure =>
        rw [H17.out.bld.posAt, HC.out.bld.posAt]
        have := HSP.out; omega
 ·have hn94 : ((((o.getD 0 : Nat) : Int)) == 94) = false := by
   rw [beq_eq_false_iff_ne]
   rcases o with _ | c
   ·simp
   ·simp at h94 ⊢; omega
  obtain ⟨r0, hr0⟩ : ∃ r0, loopM s (s.size + 1) true b1 noS = r0 := ⟨_, rfl⟩
  have HR0 := Lib.hid hr0
  have HCM : Hid (classM s b1 = r0) := Lib.hid (by unfold classM; rw [if_neg (by rw [HO.out]; exact h94)]; exact hr0)
  clear hr0 h94
  go_wp2
  go_loopw [6] (fun v wr => LoopAt w own k g s r0 v wr) (fun _ wr => s.size + 5 - posAt wr g)
  case atStart => exact ⟨s.size, true, b1, noS, rfl, HR0.out, by omega, by omega, H1.out⟩
  case round =>
   clear H1 HR0 HO hn94 hp
   obtain ⟨n, first, b, S, rfl, he, hn, hp, hC⟩ := hrel
   have HE := Lib.hid he
   have HC := Lib.hid hC
   obtain ⟨o, ho⟩ : ∃ o, peekM s b = o := ⟨_, rfl⟩
   have k1 := peek_is wr g s b own o ho HC.out.bld (by omega)
   have HO := Lib.hid ho
   clear he hC ho
   go_wp2_with fail
   refine k1.mono ?_
   rintro e wa ⟨rfl, hba⟩
   have HA := Lib.hid (HC.out.below hba)
   clear k1 hba
   rcases o with _ | d
   ·have kq18 := KF.out _ _ _ HA.out.bld
    go_wp2_with fail
    refine kq18.mono ?_
    rintro e w18 ⟨rfl, hB18, hs18⟩
    have H18 := Lib.hid (HA.out.stp hB18 hs18)
    clear kq18 hB18 hs18
    go_wp2
    have he := HE.out
    rw [loopM_none HO.out] at he
    subst he
    refine ⟨_, results_none rfl _ _ _, rfl, ?_⟩
    rw [HCM.out]
    exact ⟨H18.out.bld, H18.out.set, H18.out.keep⟩
   ·by_cases hd : d = 93
    ·subst hd
     cases first
     ·obtain ⟨_, c1, _, f1⟩ := HA.out.bld.fields
      have HST := Lib.hid HA.out.step
      go_wp2
      have he := HE.out
      rw [loopM_end HO.out] at he
      subst he
      refine ⟨_, results_none rfl _ _ _, rfl, ?_⟩
      rw [HCM.out]
      exact ⟨HST.out.bld, HST.out.set, HST.out.keep⟩
     ·have kq22 := KF.out _ _ _ HA.out.bld
      go_wp2_with fail
      refine kq22.mono ?_
      rintro e w22 ⟨rfl, hB22, hs22⟩
      have H22 := Lib.hid (HA.out.stp hB22 hs22)
      clear kq22 hB22 hs22
      go_wp2
      have he := HE.out
      rw [loopM_first HO.out] at he
      subst he
      refine ⟨_, results_none rfl _ _ _, rfl, ?_⟩
      rw [HCM.out]
      exact ⟨H22.out.bld, H22.out.set, H22.out.keep⟩
    ·have hdb : ((d : Int) == 93) = false := by rw [beq_eq_false_iff_ne]; omega
     have HD := Lib.hid hd
     have hps := (peekM_some HO.out).2.1
     obtain ⟨xb, lo, hx⟩ : ∃ xb lo, signM s b = (xb, lo) := ⟨_, _, rfl⟩
     have k2 := sign_is wa g s b own HA.out.bld (by omega)
     have hsp := signM_pos s b hps
     have hlo := signM_lt s b
     rw [hx] at k2 hsp hlo
     dsimp only at k2 hsp hlo
     have HX := Lib.hid hx
     clear hd hx
     go_wp2_with fail
     refine k2.mono ?_
     rintro e wb ⟨rfl, hBb, hsb⟩
     have HB := Lib.hid (HA.out.stp hBb hsb)
     clear k2 hBb hsb
     obtain ⟨o2, ho2⟩ : ∃ o2, peekM s xb = o2 := ⟨_, rfl⟩
     have k3 := peek_is wb g s xb own o2 ho2 HB.out.bld (by omega)
     have HO2 := Lib.hid ho2
     clear ho2
     go_wp2_with fail
     refine k3.mono ?_
     rintro e wc ⟨rfl, hbc⟩
     have HCC := Lib.hid (HB.out.below hbc)
     clear k3 hbc
     obtain ⟨c0, c1, _, _⟩ := HCC.out.bld.fields
     have HSP := Lib.hid hsp
     rcases o2 with _ | e2
     ·have HY : Hid (rangeM s (xb, lo).1 (xb, lo).2 = (xb, lo)) := Lib.hid (rangeM_no (rangeB_false (by rw [HO2.out]; simp)))
      go_upto_region 14 with fail
      go_quiet (fail)
      go_upto_region 17 with fail
      refine wp_forget (ClsAt w own k g s xb S) (HCC.out.below (bl_drewN (Below.refl _ _) _)) (fun wq hq => ?_)
      have HQ := Lib.hid hq
      clear c0 c1 hq
      have HLT : Hid (¬ (xb, lo).2 < (xb, lo).2) := Lib.hid (Nat.lt_irrefl _)
      have ka := add_is wq k S lo lo HQ.out.set hlo hlo
      go_wp2_with fail
      refine ka.mono ?_
      rintro e w24 ⟨rfl, hS24, hk24⟩
      have H24 := Lib.hid (HQ.out.turn hS24 hk24)
      clear ka hS24 hk24
      go_wp2
      go_roundw
      case rel =>
       refine ⟨n - 1, false, xb, addS S lo lo, rfl, ?_, ?_, ?_, H24.out⟩
       ·have he := HE.out
        rw [loopM_on HO.out HD.out HX.out HY.out, if_neg HLT.out] at he
        have hn1 : n - 1 + 1 = n := by have := HSP.out; omega
        rw [hn1]
        exact he
       ·have := HSP.out; omega
       ·have := HSP.out; omega
      case measure =>
       rw [H24.out.bld.posAt, HC.out.bld.posAt]
       have := HSP.out; omega
     ·by_cases h45 : e2 = 45
      ·subst h45
       by_cases hin : xb.pos + 1 < s.size
       ·by_cases h93 : byteM s (xb.pos + 1) = 93
        ·have hi0 : (0 : Int) ≤ (xb.pos : Int) + 1 := by omega
         have hi1 : (xb.pos : Int) + 1 < (s.size : Int) := by omega
         have hnt : ((xb.pos : Int) + 1).toNat = xb.pos + 1 := by omega
         have hwr : IntKind.i64.wrap ((xb.pos : Int) + 1) = (xb.pos : Int) + 1 := IntWalk.i64_in _ ⟨by omega, by omega⟩
         have hd1 : decide ((xb.pos : Int) + 1 < (s.size : Int)) = true := decide_eq_true hi1
         have hba := byteM_at s (xb.pos + 1) hin
         have h9 : (((s[xb.pos + 1]'hin).toNat : Int) != 93) = false := by rw [hba, h93]; rfl
         have HY : Hid (rangeM s (xb, lo).1 (xb, lo).2 = (xb, lo)) := Lib.hid (rangeM_no (by rw [rangeB_at HO2.out, h93]; simp))
         go_upto_region 14 with fail
         go_quiet (fail)
         go_upto_region 17 with fail
         refine wp_forget (ClsAt w own k g s xb S) (HCC.out.below (bl_drewN (Below.refl _ _) _)) (fun wq hq => ?_)
         have HQ := Lib.hid hq
         clear c0 c1 hq
         have HLT : Hid (¬ (xb, lo).2 < (xb, lo).2) := Lib.hid (Nat.lt_irrefl _)
         have ka := add_is wq k S lo lo HQ.out.set hlo hlo
         go_wp2_with fail
         refine ka.mono ?_
         rintro e w25 ⟨rfl, hS25, hk25⟩
         have H25 := Lib.hid (HQ.out.turn hS25 hk25)
         clear ka hS25 hk25
         go_wp2
         go_roundw
         case rel =>
          refine ⟨n - 1, false, xb, addS S lo lo, rfl, ?_, ?_, ?_, H25.out⟩
          ·have he := HE.out
           rw [loopM_on HO.out HD.out HX.out HY.out, if_neg HLT.out] at he
           have hn1 : n - 1 + 1 = n := by have := HSP.out; omega
           rw [hn1]
           exact he
          ·have := HSP.out; omega
          ·have := HSP.out; omega
         case measure =>
          rw [H25.out.bld.posAt, HC.out.bld.posAt]
          have := HSP.out; omega
        ·have hi0 : (0 : Int) ≤ (xb.pos : Int) + 1 := by omega
         have hi1 : (xb.pos : Int) + 1 < (s.size : Int) := by omega
         have hnt : ((xb.pos : Int) + 1).toNat = xb.pos + 1 := by omega
         have hwr : IntKind.i64.wrap ((xb.pos : Int) + 1) = (xb.pos : Int) + 1 := IntWalk.i64_in _ ⟨by omega, by omega⟩
         have hd1 : decide ((xb.pos : Int) + 1 < (s.size : Int)) = true := decide_eq_true hi1
         have hba := byteM_at s (xb.pos + 1) hin
         have h9 : (((s[xb.pos + 1]'hin).toNat : Int) != 93) = true := by rw [hba]; simp; omega
         have hrb : rangeB s xb = true := by rw [rangeB_at HO2.out]; simp [hin, h93]
         go_upto_region 14 with fail
         go_quiet (fail)
         go_upto_region 16 with fail
         refine wp_forget (ClsAt w own k g s (stepM xb) S) (HCC.out.below (bl_drewN (Below.refl _ _) _)).step (fun wq hq => ?_)
         have HQ := Lib.hid hq
         obtain ⟨yb, hi, hye⟩ : ∃ yb hi, signM s (stepM xb) = (yb, hi) := ⟨_, _, rfl⟩
         have k4 := sign_is wq g s (stepM xb) own HQ.out.bld (by simp only [stepM]; omega)
         have hsp2 := signM_pos s (stepM xb) hin
         have hhi := signM_lt s (stepM xb)
         rw [hye] at k4 hsp2 hhi
         dsimp only at k4 hsp2 hhi
         have HY : Hid (rangeM s (xb, lo).1 (xb, lo).2 = (yb, hi)) := Lib.hid ((rangeM_yes hrb).trans hye)
         have HP : Hid (b.pos < yb.pos ∧ yb.pos ≤ s.size + 1) := Lib.hid ⟨by simp only [stepM] at hsp2; have := HSP.out; omega, hsp2.2⟩
         clear c0 c1 hq hye hrb hsp2 h9 hba hi0 hi1 hnt hwr hd1
         go_wp2_with fail
         refine k4.mono ?_
         rintro e wd ⟨rfl, hBd, hsd⟩
         have HDD := Lib.hid (HQ.out.stp hBd hsd)
         clear k4 hBd hsd
         by_cases hlt : hi < lo
         ·have HLT := Lib.hid hlt
          have hlti : (hi : Int) < (lo : Int) := by omega
          clear hlt
          have kq27 := KF.out _ _ _ HDD.out.bld
          go_wp2_with fail
          refine kq27.mono ?_
          rintro e w27 ⟨rfl, hB27, hs27⟩
          have H27 := Lib.hid (HDD.out.stp hB27 hs27)
          clear kq27 hB27 hs27
          have ka28 := add_is _ k S lo hi H27.out.set hlo hhi
          go_wp2_with fail
          refine ka28.mono ?_
          rintro e w28 ⟨rfl, hS28, hk28⟩
          have H28 := Lib.hid (H27.out.turn hS28 hk28)
          clear ka28 hS28 hk28
          go_wp2
          go_roundw
          case rel =>
           refine ⟨n - 1, false, failM yb 2, addS S lo hi, rfl, ?_, ?_, ?_, H28.out⟩
           ·have he := HE.out
            rw [loopM_on HO.out HD.out HX.out HY.out] at he
            dsimp only at he
            rw [if_pos HLT.out] at he
            have hn1 : n - 1 + 1 = n := by have := HSP.out; omega
            rw [hn1]
            exact he
           ·rw [failM_pos]; have := HP.out; omega
           ·rw [failM_pos]; have := HP.out; omega
          case measure =>
           rw [H28.out.bld.posAt, HC.out.bld.posAt]
           rw [failM_pos]
           have := HP.out; omega
         ·have HLT := Lib.hid hlt
          have hlti : ¬ (hi : Int) < (lo : Int) := by omega
          have hlti' : (lo : Int) ≤ (hi : Int) := by omega
          clear hlt
          have ka31 := add_is _ k S lo hi HDD.out.set hlo hhi
          go_wp2_with fail
          refine ka31.mono ?_
          rintro e w31 ⟨rfl, hS31, hk31⟩
          have H31 := Lib.hid (HDD.out.turn hS31 hk31)
          clear ka31 hS31 hk31
          go_wp2
          go_roundw
          case rel =>
           refine ⟨n - 1, false, yb, addS S lo hi, rfl, ?_, ?_, ?_, H31.out⟩
           ·have he := HE.out
            rw [loopM_on HO.out HD.out HX.out HY.out] at he
            dsimp only at he
            rw [if_neg HLT.out] at he
            have hn1 : n - 1 + 1 = n := by have := HSP.out; omega
            rw [hn1]
            exact he
           ·have := HP.out; omega
           ·have := HP.out; omega
          case measure =>
           rw [H31.out.bld.posAt, HC.out.bld.posAt]
           skip
           have := HP.out; omega
       ·have hd1 : decide ((xb.pos : Int) + 1 < (s.size : Int)) = false := decide_eq_false (by omega)
        have hwr : IntKind.i64.wrap ((xb.pos : Int) + 1) = (xb.pos : Int) + 1 := IntWalk.i64_in _ ⟨by omega, by omega⟩
        have HY : Hid (rangeM s (xb, lo).1 (xb, lo).2 = (xb, lo)) := Lib.hid (rangeM_no (by rw [rangeB_at HO2.out]; simp [hin]))
        go_upto_region 14 with fail
        go_quiet (fail)
        go_upto_region 17 with fail
        refine wp_forget (ClsAt w own k g s xb S) (HCC.out.below (bl_drewN (Below.refl _ _) _)) (fun wq hq => ?_)
        have HQ := Lib.hid hq
        clear c0 c1 hq
        have HLT : Hid (¬ (xb, lo).2 < (xb, lo).2) := Lib.hid (Nat.lt_irrefl _)
        have ka := add_is wq k S lo lo HQ.out.set hlo hlo
        go_wp2_with fail
        refine ka.mono ?_
        rintro e w33 ⟨rfl, hS33, hk33⟩
        have H33 := Lib.hid (HQ.out.turn hS33 hk33)
        clear ka hS33 hk33
        go_wp2
        go_roundw
        case rel =>
         refine ⟨n - 1, false, xb, addS S lo lo, rfl, ?_, ?_, ?_, H33.out⟩
         ·have he := HE.out
          rw [loopM_on HO.out HD.out HX.out HY.out, if_neg HLT.out] at he
          have hn1 : n - 1 + 1 = n := by have := HSP.out; omega
          rw [hn1]
          exact he
         ·have := HSP.out; omega
         ·have := HSP.out; omega
        case measure =>
         rw [H33.out.bld.posAt, HC.out.bld.posAt]
         have := HSP.out; omega
      ·have hb45 : ((e2 : Int) == 45) = false := by rw [beq_eq_false_iff_ne]; omega
       have HY : Hid (rangeM s (xb, lo).1 (xb, lo).2 = (xb, lo)) := Lib.hid (rangeM_no (rangeB_false (by rw [HO2.out]; simpa using h45)))
       go_upto_region 14 with fail
       go_quiet (fail)
       go_upto_region 17 with fail
       refine wp_forget (ClsAt w own k g s xb S) (HCC.out.below (bl_drewN (Below.refl _ _) _)) (fun wq hq => ?_)
       have HQ := Lib.hid hq
       clear c0 c1 hq
       have HLT : Hid (¬ (xb, lo).2 < (xb, lo).2) := Lib.hid (Nat.lt_irrefl _)
       have ka := add_is wq k S lo lo HQ.out.set hlo hlo
       go_wp2_with fail
       refine ka.mono ?_
       rintro e w34 ⟨rfl, hS34, hk34⟩
       have H34 := Lib.hid (HQ.out.turn hS34 hk34)
       clear ka hS34 hk34
       go_wp2
       go_roundw
       case rel =>
        refine ⟨n - 1, false, xb, addS S lo lo, rfl, ?_, ?_, ?_, H34.out⟩
        ·have he := HE.out
         rw [loopM_on HO.out HD.out HX.out HY.out, if_neg HLT.out] at he
         have hn1 : n - 1 + 1 = n := by have := HSP.out; omega
         rw [hn1]
         exact he
        ·have := HSP.out; omega
        ·have := HSP.out; omega
       case measure =>
        rw [H34.out.bld.posAt, HC.out.bld.posAt]
        have := HSP.out; omega
end Go.Proofs.YtgbapkechngnmaaGreat
/- pattern's builder beside boxes of the caller's: what is carried from call to call. -/
namespace Go.Proofs.YtgbapkechngnmaaGreat
open Go.RowKit
def PBx (w : World) (k : Nat) (a b : Value) : Prop := w.heap[k]? = some (.cells #[a, b] 132 (0, 0))
structure BSo (own0 : Nat → Prop) (W0 : World) (g : Nat) (s : ByteArray) (b : Bs) (bx : List (Nat × Value × Value)) (own : Nat → Prop) (w : World) : Prop where
 bld : Bld w g s b own
 stp : Stp own0 W0 own w
 box : ∀ x ∈ bx, PBx w x.1 x.2.1 x.2.2 ∧ ¬ own x.1
 new : ∀ x ∈ bx, W0.heap.size ≤ x.1
def BS (own0 : Nat → Prop) (W0 : World) (g : Nat) (s : ByteArray) (b : Bs) (bx : List (Nat × Value × Value)) (w : World) : Prop := ∃ own, BSo own0 W0 g s b bx own w
theorem PBx.lt {w : World} {k : Nat} {a b : Value} (h : PBx w k a b) : k < w.heap.size := (Array.getElem?_eq_some_iff.1 h).1
theorem PBx.c0 {w : World} {k : Nat} {a b : Value} (h : PBx w k a b) : w.cell? ⟨k, 0, none⟩ = some a := by rw [cell_of_row _ _ _ _ _ _ h]; rfl
theorem PBx.c1 {w : World} {k : Nat} {a b : Value} (h : PBx w k a b) : w.cell? ⟨k, 1, none⟩ = some b := by rw [cell_of_row _ _ _ _ _ _ h]; rfl
theorem PBx.fz {w : World} {k : Nat} {a b : Value} (h : PBx w k a b) (j : Nat) : w.frozen? ⟨k, j, none⟩ = false := frozen_of_row w k j _ _ h
theorem BSo.call {own0 own own' : Nat → Prop} {W0 w w' : World} {g : Nat} {s : ByteArray} {b b' : Bs} {bx : List (Nat × Value × Value)} (h : BSo own0 W0 g s b bx own w) (hB : Bld w' g s b' own') (hs : Stp own w own' w') : BS own0 W0 g s b' bx w' :=
 ⟨own', hB, h.stp.trans hs, fun x hx => ⟨hs.blk (h.box x hx).1 (h.box x hx).2, hs.not (h.box x hx).1.lt (h.box x hx).2⟩, h.new⟩
theorem BS.below {own0 : Nat → Prop} {W0 w w' : World} {g : Nat} {s : ByteArray} {b : Bs} {bx : List (Nat × Value × Value)} (h : BS own0 W0 g s b bx w) (hb : Below w.heap.size w w') : BS own0 W0 g s b bx w' := by
 obtain ⟨own, h⟩ := h
 exact h.call (h.bld.below hb) (Stp.of_below hb)
theorem BS.step {own0 : Nat → Prop} {W0 w : World} {g : Nat} {s : ByteArray} {b : Bs} {bx : List (Nat × Value × Value)} (h : BS own0 W0 g s b bx w) : BS own0 W0 g s (stepM b) bx (w.setCell ⟨g, 1, none⟩ (.int .i64 ((b.pos : Int) + 1))) := by
 obtain ⟨own, h⟩ := h
 exact h.call h.bld.step (Stp.step h.bld _)
theorem BS.alloc {own0 : Nat → Prop} {W0 w : World} {g : Nat} {s : ByteArray} {b : Bs} {bx : List (Nat × Value × Value)} (h : BS own0 W0 g s b bx w) (x y : Value) : BS own0 W0 g s b ((w.heap.size, x, y) :: bx) (w.alloc (.cells #[x, y] 132)) := by
 obtain ⟨own, h⟩ := h
 have hb := alloc_below w (.cells #[x, y] 132)
 have hs := Stp.of_below (own := own) hb
 refine ⟨own, h.bld.below hb, h.stp.trans hs, ?_, ?_⟩
 ·intro z hz
  rcases List.mem_cons.1 hz with rfl | hz
  ·exact ⟨heap_alloc_new _ _, fun h0 => by have := h.bld.lt _ h0; dsimp only at this; omega⟩
  ·exact ⟨hs.blk (h.box z hz).1 (h.box z hz).2, hs.not (h.box z hz).1.lt (h.box z hz).2⟩
 ·intro z hz
  rcases List.mem_cons.1 hz with rfl | hz
  ·exact h.stp.1.size
  ·exact h.new z hz
theorem BS.start {own : Nat → Prop} {w : World} {g : Nat} {s : ByteArray} {b : Bs} (h : Bld w g s b own) : BS own w g s b [] w := ⟨own, h, Stp.refl _ _, (fun _ h => by cases h), (fun _ h => by cases h)⟩
theorem BS.fields {own0 : Nat → Prop} {W0 w : World} {g : Nat} {s : ByteArray} {b : Bs} {bx : List (Nat × Value × Value)} (h : BS own0 W0 g s b bx w) :
  w.cell? ⟨g, 0, none⟩ = some (.string s) ∧ w.cell? ⟨g, 1, none⟩ = some (.int .i64 b.pos) ∧ w.cell? ⟨g, 2, none⟩ = some (.int .i64 b.err) ∧ w.frozen? ⟨g, 1, none⟩ = false := by
 obtain ⟨own, h⟩ := h
 exact h.bld.fields
theorem BS.cells {own0 : Nat → Prop} {W0 w : World} {g : Nat} {s : ByteArray} {b : Bs} {bx : List (Nat × Value × Value)} (h : BS own0 W0 g s b bx w) {k : Nat} {x y : Value} (hm : (k, x, y) ∈ bx) :
  w.cell? ⟨k, 0, none⟩ = some x ∧ w.cell? ⟨k, 1, none⟩ = some y ∧ w.frozen? ⟨k, 0, none⟩ = false ∧ w.frozen? ⟨k, 1, none⟩ = false ∧ k < w.heap.size := by
 obtain ⟨own, h⟩ := h
 have := (h.box _ hm).1
 exact ⟨this.c0, this.c1, this.fz 0, this.fz 1, this.lt⟩
theorem BS.put {own0 : Nat → Prop} {W0 w : World} {g : Nat} {s : ByteArray} {b : Bs} {bx : List (Nat × Value × Value)} {k j : Nat} {x y : Value} (h : BS own0 W0 g s b ((k, x, y) :: bx) w) (hd : ∀ z ∈ bx, z.1 ≠ k) (v : Value) :
  BS own0 W0 g s b ((k, (if j = 0 then v else x), (if j = 1 then v else y)) :: bx) (w.setCell ⟨k, j, none⟩ v) := by
 obtain ⟨own, h⟩ := h
 obtain ⟨hk, hn⟩ := h.box _ (List.mem_cons_self)
 have hw := h.new _ (List.mem_cons_self)
 dsimp only at hk hn hw
 refine ⟨own, h.bld.box (p := ⟨k, j, none⟩) hn v, ⟨⟨h.stp.1.os, h.stp.1.tape, h.stp.1.output, by simpa using h.stp.1.size, fun i hi hno => (heap_setCell_other w ⟨k, j, none⟩ i v (fun e => by have e' : i = k := e; omega)).trans (h.stp.1.block i hi hno)⟩, h.stp.2⟩, ?_, ?_⟩
 ·intro z hz
  rcases List.mem_cons.1 hz with rfl | hz
  ·refine ⟨?_, hn⟩
   unfold PBx at hk ⊢
   dsimp only
   rw [heap_setCell_same w k j _ _ v hk]
   match j with
   | 0 => rfl
   | 1 => rfl
   | j + 2 => simp
  ·have hz1 := h.box z (List.mem_cons_of_mem _ hz)
   exact ⟨(heap_setCell_other w ⟨k, j, none⟩ z.1 v (fun e => hd z hz e)).trans hz1.1, hz1.2⟩
 ·intro z hz
  rcases List.mem_cons.1 hz with rfl | hz
  ·exact hw
  ·exact h.new z (List.mem_cons_of_mem _ hz)
theorem BS.sub {own0 : Nat → Prop} {W0 w : World} {g : Nat} {s : ByteArray} {b : Bs} {bx by' : List (Nat × Value × Value)} (h : BS own0 W0 g s b bx w) (hs : ∀ x ∈ by', x ∈ bx) : BS own0 W0 g s b by' w := by
 obtain ⟨own, h⟩ := h
 exact ⟨own, h.bld, h.stp, fun x hx => h.box x (hs x hx), fun x hx => h.new x (hs x hx)⟩
theorem BS.dist {own0 : Nat → Prop} {W0 w : World} {g : Nat} {s : ByteArray} {b : Bs} {bx : List (Nat × Value × Value)} (h : BS own0 W0 g s b bx w) : ∀ z ∈ bx, z.1 < w.heap.size := by
 obtain ⟨own, h⟩ := h
 exact fun z hz => (h.box z hz).1.lt
def PartPost (own0 : Nat → Prop) (W0 : World) (g : Nat) (s : ByteArray) (r : Bs × (Nat × Nat)) (e : Ending) (w' : World) : Prop :=
 e = .returned (.agg #[.int .i64 (r.2.1 : Nat), .int .i64 (r.2.2 : Nat)]) ∧ ∃ own', Bld w' g s r.1 own' ∧ Stp own0 W0 own' w'
theorem BS.done {own0 : Nat → Prop} {W0 w : World} {g : Nat} {s : ByteArray} {b : Bs} {bx : List (Nat × Value × Value)} {k p q : Nat} {x y : Value} (h : BS own0 W0 g s b bx w) (hm : (k, x, y) ∈ bx) :
  PartPost own0 W0 g s (b, (p, q)) (.returned (.agg #[.int .i64 (p : Nat), .int .i64 (q : Nat)])) (w.setCells k 0 [.int .i64 (p : Nat), .int .i64 (q : Nat)]) := by
 refine ⟨rfl, ?_⟩
 have h1 : BS own0 W0 g s b [(k, x, y)] w := h.sub (fun z hz => by rw [List.mem_singleton.1 hz]; exact hm)
 have h2 := h1.put (j := 0) (by simp) (.int .i64 (p : Nat))
 have h3 := h2.put (j := 1) (by simp) (.int .i64 (q : Nat))
 obtain ⟨own, h3⟩ := h3
 exact ⟨own, h3.bld, h3.stp⟩
theorem BS.there {own0 : Nat → Prop} {W0 w : World} {g : Nat} {s : ByteArray} {b : Bs} {bx : List (Nat × Value × Value)} {k : Nat} {x y : Value} (h : BS own0 W0 g s b bx w) (hm : (k, x, y) ∈ bx) : w.there k 0 2 := by
 obtain ⟨own, h⟩ := h
 exact part_there (h.box _ hm).1
end Go.Proofs.YtgbapkechngnmaaGreat
/- pattern's builder: times: a contract. -/
namespace Go.Proofs.YtgbapkechngnmaaGreat
open Go.RowKit
theorem len_node (b : Bs) : (nodeM b).sts.length = b.sts.length + 1 := by simp [nodeM]
theorem len_free (b : Bs) (f t : Nat) : (freeM b f t).sts.length = b.sts.length := by simp [freeM, addF_len]
theorem tot_node (b : Bs) : tot (nodeM b).sts ≤ tot b.sts + 1 := by simp [nodeM, tot]
theorem tot_free (b : Bs) (f t : Nat) : tot (freeM b f t).sts ≤ tot b.sts + 1 := tot_addF b.sts f t
theorem post_in : ∀ c : Nat, c < 256 → postB c = false → Lib.indexByte [42, 43, 63] ((c : Int).toNat.toUInt8) = -1 := by decide +kernel
theorem post_is {c : Nat} (h : postB c = true) : c = 42 ∨ c = 43 ∨ c = 63 := by
 unfold postB at h
 simp only [Bool.or_eq_true, decide_eq_true_eq] at h
 omega
theorem times_none {s : ByteArray} {b : Bs} {x : Nat × Nat} (h : peekM s b = none) : timesM s b x = (b, x) := by unfold timesM; rw [h]
theorem times_no {s : ByteArray} {b : Bs} {x : Nat × Nat} {c : Nat} (h : peekM s b = some c) (hc : postB c = false) : timesM s b x = (b, x) := by unfold timesM; rw [h]; dsimp only; rw [if_neg (by rw [hc]; decide)]
theorem node_bs {own0 own : Nat → Prop} {W0 w : World} {g : Nat} {s : ByteArray} {b : Bs} {bx : List (Nat × Value × Value)} (h : BSo own0 W0 g s b bx own w) (L : Nat) (hL : b.sts.length = L) (hn : L ≤ 1000000) :
  Calls Tryz.prog 105 #[.pointer (some ⟨g, 0, none⟩)] w fun e w' => e = .returned (.int .i64 (L : Nat)) ∧ BS own0 W0 g s (nodeM b) bx w' := by
 refine (node_is w g s b own h.bld (by omega)).mono ?_
 rintro e w' ⟨rfl, own', h1, h2⟩
 exact ⟨by rw [hL], h.call h1 h2⟩
theorem free_bs {own0 own : Nat → Prop} {W0 w : World} {g : Nat} {s : ByteArray} {b : Bs} {bx : List (Nat × Value × Value)} (h : BSo own0 W0 g s b bx own w) (f t : Nat) (hf : f < b.sts.length) (hn : tot b.sts ≤ 1000000) :
  Calls Tryz.prog 107 #[.pointer (some ⟨g, 0, none⟩), .int .i64 f, .int .i64 t] w fun e w' => e = .returned (.tuple #[]) ∧ BS own0 W0 g s (freeM b f t) bx w' := by
 refine (free_is w g s b own f t h.bld hf hn).mono ?_
 rintro e w' ⟨rfl, own', h1, h2⟩
 exact ⟨rfl, h.call h1 h2⟩
theorem peek_bs {own0 own : Nat → Prop} {W0 w : World} {g : Nat} {s : ByteArray} {b : Bs} {bx : List (Nat × Value × Value)} (h : BSo own0 W0 g s b bx own w) (o : Option Nat) (ho : peekM s b = o) (hp : b.pos ≤ 2000000) :
  Calls Tryz.prog 108 #[.pointer (some ⟨g, 0, none⟩)] w fun e w' => e = .returned (.tuple #[.int .u8 ((o.getD 0 : Nat) : Int), .bool o.isSome]) ∧ BS own0 W0 g s b bx w' := by
 refine (peek_is w g s b own o ho h.bld hp).mono ?_
 rintro e w' ⟨rfl, h1⟩
 exact ⟨rfl, BS.below ⟨own, h⟩ h1⟩
theorem fail_bs {own0 own : Nat → Prop} {W0 w : World} {g : Nat} {s : ByteArray} {b : Bs} {bx : List (Nat × Value × Value)} (h : BSo own0 W0 g s b bx own w) (e0 : Int) :
  Calls Tryz.prog 85 #[.pointer (some ⟨g, 0, none⟩), .int .i64 e0] w fun e w' => e = .returned (.tuple #[]) ∧ BS own0 W0 g s (failM b e0) bx w' := by
 refine (fail_is w g s b own e0 h.bld).mono ?_
 rintro e w' ⟨rfl, h1, h2⟩
 exact ⟨rfl, h.call h1 h2⟩
set_option maxHeartbeats 6400000 in
set_option maxRecDepth 100000 in
theorem times_is (w : World) (g : Nat) (s : ByteArray) (b : Bs) (own : Nat → Prop) (x1 x2 : Nat) (h : Bld w g s b own) (hx2 : x2 < b.sts.length) (hp : b.pos ≤ 1000000) (ht : tot b.sts ≤ 900000) :
  Calls Tryz.prog 127 #[.pointer (some ⟨g, 0, none⟩), .agg #[.int .i64 x1, .int .i64 x2]] w (PartPost own w g s (timesM s b (x1, x2))) := by
 have h0 := ((BS.start h).alloc (.int .i64 x1) (.int .i64 x2)).alloc (.int .i64 0) (.int .i64 0)
 rw [World.size_alloc] at h0
 obtain ⟨bx, hbx⟩ : ∃ bx, [(w.heap.size + 1, Value.int .i64 0, Value.int .i64 0), (w.heap.size, Value.int .i64 x1, Value.int .i64 x2)] = bx := ⟨_, rfl⟩
 have hm1 : (w.heap.size, Value.int .i64 x1, Value.int .i64 x2) ∈ bx := by rw [← hbx]; simp
 have hm2 : (w.heap.size + 1, Value.int .i64 0, Value.int .i64 0) ∈ bx := by rw [← hbx]; simp
 rw [hbx] at h0
 have H0 := Lib.hid h0
 have HM1 := Lib.hid hm1
 have HM2 := Lib.hid hm2
 obtain ⟨o, ho⟩ : ∃ o, peekM s b = o := ⟨_, rfl⟩
 have HO := Lib.hid ho
 have hl0 : b.sts.length ≤ 900000 := Nat.le_trans (len_tot _) ht
 clear h0 hbx hm1 hm2 h ho
 go_enter Tryz.func127, Tryz.ntmps127
 go_upto_region 1 with fail
 refine wp_forget (BS own w g s b bx) H0.out (fun w0 q0 => ?_)
 obtain ⟨own0, q0⟩ := q0
 have k1 := peek_bs q0 o HO.out (by omega)
 clear q0 H0
 go_wp2_with fail
 refine k1.mono ?_
 rintro e wa ⟨rfl, hA⟩
 have HA := Lib.hid hA
 clear k1 hA
 rcases o with _ | c
 ·obtain ⟨z0, z1, _, _, _⟩ := HA.out.cells HM1.out
  obtain ⟨y0, y1, f0, f1, _⟩ := HA.out.cells HM2.out
  go_wp2
  refine bodyPost_ret (results_agg1 rfl _ _ (w.heap.size + 1) [.int .i64 (x1 : Nat), .int .i64 (x2 : Nat)] (.struct _) rfl (World.rangeAt_setCells_same wa (w.heap.size + 1) 0 [.int .i64 (x1 : Nat), .int .i64 (x2 : Nat)] (HA.out.there HM2.out)) Tryz.underlying132 rfl (by kernel_rfl)) rfl ?_
  rw [times_none HO.out]
  exact HA.out.done HM2.out
 ·have hc256 : c < 256 := by rw [(peekM_some HO.out).2.2]; exact byteM_lt _ _
  by_cases hpb : postB c = true
  ·have HPB := Lib.hid (post_is hpb)
   have HPT := Lib.hid hpb
   clear hpb
   rcases HPB.out with rfl | rfl | rfl
   ·have kx := Tryz.strings_IndexByte ⟨#[42, 43, 63]⟩ 42
    have hix : Lib.indexByte (⟨#[42, 43, 63]⟩ : ByteArray).data.toList (42 : Int).toNat.toUInt8 = 0 := by decide
    rw [hix] at kx
    clear hix
    obtain ⟨_, c1, _, f1⟩ := HA.out.fields
    have HST := Lib.hid HA.out.step
    obtain ⟨L, hL⟩ : ∃ L, b.sts.length = L := ⟨_, rfl⟩
    have HLL := Lib.hid hL
    rw [hL] at hx2 hl0
    have HL : Hid ((stepM b).sts.length = L) := Lib.hid hL
    clear hL
    obtain ⟨og, qg⟩ := HST.out
    have kn := node_bs qg L HL.out (by omega)
    clear qg
    go_wp2_with (go_at_call 122; refine (kx _).mono ?_; rintro e w' ⟨rfl, hw⟩; obtain rfl := hw.symm)
    refine kn.mono ?_
    rintro e wb ⟨rfl, hB⟩
    have HB := Lib.hid hB
    clear kn hB c1 f1 kx HST
    have e1 : (nodeM (stepM b)).sts.length = L + 1 := by rw [len_node, HL.out]
    have e2 : (nodeM (nodeM (stepM b))).sts.length = L + 2 := by rw [len_node, e1]
    have E1 := Lib.hid e1
    have E2 := Lib.hid e2
    have T2 : Hid (tot (nodeM (nodeM (stepM b))).sts ≤ 900002) := Lib.hid (by have h1 := tot_node (stepM b); have h2 := tot_node (nodeM (stepM b)); have h3 : tot (stepM b).sts = tot b.sts := rfl; omega)
    clear e1 e2
    obtain ⟨o1, q1⟩ := HB.out
    have k1 := node_bs q1 (L + 1) E1.out (by omega)
    clear q1
    go_wp2_with fail
    refine k1.mono ?_
    rintro e w1 ⟨rfl, h1⟩
    have H1 := Lib.hid h1
    clear k1 h1  HB
    go_upto_region 6 with fail
    have HPX := Lib.hid (H1.out.alloc (.int .i64 L) (.int .i64 ((L + 1 : Nat) : Int)))
    obtain ⟨pb, hpb⟩ : ∃ pb, w1.heap.size = pb := ⟨_, rfl⟩
    rw [hpb] at HPX ⊢
    refine wp_forget (BS own w g s (nodeM (nodeM (stepM b))) ((pb, .int .i64 L, .int .i64 ((L + 1 : Nat) : Int)) :: bx)) HPX.out (fun wp qp => ?_)
    have HP := Lib.hid qp
    clear qp hpb HPX H1
    have MP : Hid ((pb, Value.int .i64 L, Value.int .i64 ((L + 1 : Nat) : Int)) ∈ (pb, Value.int .i64 L, Value.int .i64 ((L + 1 : Nat) : Int)) :: bx) := Lib.hid (List.mem_cons_self)
    have M1 := Lib.hid (List.mem_cons_of_mem (pb, Value.int .i64 L, Value.int .i64 ((L + 1 : Nat) : Int)) HM1.out)
    have M2 := Lib.hid (List.mem_cons_of_mem (pb, Value.int .i64 L, Value.int .i64 ((L + 1 : Nat) : Int)) HM2.out)
    have hlc900002 : (nodeM (nodeM (stepM b))).sts.length = L + 2 := by (repeat rw [len_free]); exact E2.out
    have HLC900002 := Lib.hid hlc900002
    clear hlc900002
    obtain ⟨o2, q2⟩ := HP.out
    have k2 := free_bs q2 L x1 (by have := HLC900002.out; omega) (by have := T2.out; omega)
    obtain ⟨z2_0, y2_0, _, _, _⟩ := HP.out.cells MP.out
    obtain ⟨z2_1, y2_1, _, _, _⟩ := HP.out.cells M1.out
    clear q2
    go_wp2_with fail
    refine k2.mono ?_
    rintro e w2 ⟨rfl, h2⟩
    have H2 := Lib.hid h2
    clear k2 h2 z2_0 y2_0 z2_1 y2_1 HP
    have T900003 : Hid (tot (freeM (nodeM (nodeM (stepM b))) L x1).sts ≤ 900003) := Lib.hid (by have := tot_free (nodeM (nodeM (stepM b))) L x1; have := T2.out; omega)
    have hlc900003 : (freeM (nodeM (nodeM (stepM b))) L x1).sts.length = L + 2 := by (repeat rw [len_free]); exact E2.out
    have HLC900003 := Lib.hid hlc900003
    clear hlc900003
    obtain ⟨o3, q3⟩ := H2.out
    have k3 := free_bs q3 x2 (L + 1) (by have := HLC900003.out; omega) (by have := T900003.out; omega)
    obtain ⟨z3_0, y3_0, _, _, _⟩ := H2.out.cells MP.out
    obtain ⟨z3_1, y3_1, _, _, _⟩ := H2.out.cells M1.out
    clear q3
    go_wp2_with fail
    refine k3.mono ?_
    rintro e w3 ⟨rfl, h3⟩
    have H3 := Lib.hid h3
    clear k3 h3 z3_0 y3_0 z3_1 y3_1 H2
    have T900004 : Hid (tot (freeM (freeM (nodeM (nodeM (stepM b))) L x1) x2 (L + 1)).sts ≤ 900004) := Lib.hid (by have := tot_free (freeM (nodeM (nodeM (stepM b))) L x1) x2 (L + 1); have := T900003.out; omega)
    have hlc900004 : (freeM (freeM (nodeM (nodeM (stepM b))) L x1) x2 (L + 1)).sts.length = L + 2 := by (repeat rw [len_free]); exact E2.out
    have HLC900004 := Lib.hid hlc900004
    clear hlc900004
    obtain ⟨o4, q4⟩ := H3.out
    have k4 := free_bs q4 L (L + 1) (by have := HLC900004.out; omega) (by have := T900004.out; omega)
    obtain ⟨z4_0, y4_0, _, _, _⟩ := H3.out.cells MP.out
    clear q4
    go_wp2_with fail
    refine k4.mono ?_
    rintro e w4 ⟨rfl, h4⟩
    have H4 := Lib.hid h4
    clear k4 h4 z4_0 y4_0 H3
    have T900005 : Hid (tot (freeM (freeM (freeM (nodeM (nodeM (stepM b))) L x1) x2 (L + 1)) L (L + 1)).sts ≤ 900005) := Lib.hid (by have := tot_free (freeM (freeM (nodeM (nodeM (stepM b))) L x1) x2 (L + 1)) L (L + 1); have := T900004.out; omega)
    have hlc900005 : (freeM (freeM (freeM (nodeM (nodeM (stepM b))) L x1) x2 (L + 1)) L (L + 1)).sts.length = L + 2 := by (repeat rw [len_free]); exact E2.out
    have HLC900005 := Lib.hid hlc900005
    clear hlc900005
    obtain ⟨o5, q5⟩ := H4.out
    have k5 := free_bs q5 x2 x1 (by have := HLC900005.out; omega) (by have := T900005.out; omega)
    obtain ⟨z5_0, y5_0, _, _, _⟩ := H4.out.cells M1.out
    clear q5
    go_wp2_with fail
    refine k5.mono ?_
    rintro e w5 ⟨rfl, h5⟩
    have H5 := Lib.hid h5
    clear k5 h5 z5_0 y5_0 H4
    have T900006 : Hid (tot (freeM (freeM (freeM (freeM (nodeM (nodeM (stepM b))) L x1) x2 (L + 1)) L (L + 1)) x2 x1).sts ≤ 900006) := Lib.hid (by have := tot_free (freeM (freeM (freeM (nodeM (nodeM (stepM b))) L x1) x2 (L + 1)) L (L + 1)) x2 x1; have := T900005.out; omega)
    have HEQ : Hid (timesM s b (x1, x2) = ((freeM (freeM (freeM (freeM (nodeM (nodeM (stepM b))) L x1) x2 (L + 1)) L (L + 1)) x2 x1), (L, L + 1))) := Lib.hid (by unfold timesM; rw [HO.out]; dsimp only; rw [if_pos HPT.out, HLL.out]; rfl)
    obtain ⟨z0, z1, _, _, _⟩ := H5.out.cells MP.out
    obtain ⟨y0, y1, f0, f1, _⟩ := H5.out.cells M2.out
    go_wp2
    refine bodyPost_ret (results_agg1 rfl _ _ (w.heap.size + 1) [.int .i64 (L : Nat), .int .i64 ((L + 1) : Nat)] (.struct _) rfl (World.rangeAt_setCells_same w5 (w.heap.size + 1) 0 [.int .i64 (L : Nat), .int .i64 ((L + 1) : Nat)] (H5.out.there M2.out)) Tryz.underlying132 rfl (by kernel_rfl)) rfl ?_
    rw [HEQ.out]
    exact H5.out.done M2.out
   ·have kx := Tryz.strings_IndexByte ⟨#[42, 43, 63]⟩ 43
    have hix : Lib.indexByte (⟨#[42, 43, 63]⟩ : ByteArray).data.toList (43 : Int).toNat.toUInt8 = 1 := by decide
    rw [hix] at kx
    clear hix
    obtain ⟨_, c1, _, f1⟩ := HA.out.fields
    have HST := Lib.hid HA.out.step
    obtain ⟨L, hL⟩ : ∃ L, b.sts.length = L := ⟨_, rfl⟩
    have HLL := Lib.hid hL
    rw [hL] at hx2 hl0
    have HL : Hid ((stepM b).sts.length = L) := Lib.hid hL
    clear hL
    obtain ⟨og, qg⟩ := HST.out
    have kn := node_bs qg L HL.out (by omega)
    clear qg
    go_wp2_with (go_at_call 122; refine (kx _).mono ?_; rintro e w' ⟨rfl, hw⟩; obtain rfl := hw.symm)
    refine kn.mono ?_
    rintro e wb ⟨rfl, hB⟩
    have HB := Lib.hid hB
    clear kn hB c1 f1 kx HST
    have e1 : (nodeM (stepM b)).sts.length = L + 1 := by rw [len_node, HL.out]
    have e2 : (nodeM (nodeM (stepM b))).sts.length = L + 2 := by rw [len_node, e1]
    have E1 := Lib.hid e1
    have E2 := Lib.hid e2
    have T2 : Hid (tot (nodeM (nodeM (stepM b))).sts ≤ 900002) := Lib.hid (by have h1 := tot_node (stepM b); have h2 := tot_node (nodeM (stepM b)); have h3 : tot (stepM b).sts = tot b.sts := rfl; omega)
    clear e1 e2
    obtain ⟨o6, q6⟩ := HB.out
    have k6 := node_bs q6 (L + 1) E1.out (by omega)
    clear q6
    go_wp2_with fail
    refine k6.mono ?_
    rintro e w6 ⟨rfl, h6⟩
    have H6 := Lib.hid h6
    clear k6 h6  HB
    go_upto_region 6 with fail
    have HPX := Lib.hid (H6.out.alloc (.int .i64 L) (.int .i64 ((L + 1 : Nat) : Int)))
    obtain ⟨pb, hpb⟩ : ∃ pb, w6.heap.size = pb := ⟨_, rfl⟩
    rw [hpb] at HPX ⊢
    refine wp_forget (BS own w g s (nodeM (nodeM (stepM b))) ((pb, .int .i64 L, .int .i64 ((L + 1 : Nat) : Int)) :: bx)) HPX.out (fun wp qp => ?_)
    have HP := Lib.hid qp
    clear qp hpb HPX H6
    have MP : Hid ((pb, Value.int .i64 L, Value.int .i64 ((L + 1 : Nat) : Int)) ∈ (pb, Value.int .i64 L, Value.int .i64 ((L + 1 : Nat) : Int)) :: bx) := Lib.hid (List.mem_cons_self)
    have M1 := Lib.hid (List.mem_cons_of_mem (pb, Value.int .i64 L, Value.int .i64 ((L + 1 : Nat) : Int)) HM1.out)
    have M2 := Lib.hid (List.mem_cons_of_mem (pb, Value.int .i64 L, Value.int .i64 ((L + 1 : Nat) : Int)) HM2.out)
    have hlc900002 : (nodeM (nodeM (stepM b))).sts.length = L + 2 := by (repeat rw [len_free]); exact E2.out
    have HLC900002 := Lib.hid hlc900002
    clear hlc900002
    obtain ⟨o7, q7⟩ := HP.out
    have k7 := free_bs q7 L x1 (by have := HLC900002.out; omega) (by have := T2.out; omega)
    obtain ⟨z7_0, y7_0, _, _, _⟩ := HP.out.cells MP.out
    obtain ⟨z7_1, y7_1, _, _, _⟩ := HP.out.cells M1.out
    clear q7
    go_wp2_with fail
    refine k7.mono ?_
    rintro e w7 ⟨rfl, h7⟩
    have H7 := Lib.hid h7
    clear k7 h7 z7_0 y7_0 z7_1 y7_1 HP
    have T900003 : Hid (tot (freeM (nodeM (nodeM (stepM b))) L x1).sts ≤ 900003) := Lib.hid (by have := tot_free (nodeM (nodeM (stepM b))) L x1; have := T2.out; omega)
    have hlc900003 : (freeM (nodeM (nodeM (stepM b))) L x1).sts.length = L + 2 := by (repeat rw [len_free]); exact E2.out
    have HLC900003 := Lib.hid hlc900003
    clear hlc900003
    obtain ⟨o8, q8⟩ := H7.out
    have k8 := free_bs q8 x2 (L + 1) (by have := HLC900003.out; omega) (by have := T900003.out; omega)
    obtain ⟨z8_0, y8_0, _, _, _⟩ := H7.out.cells MP.out
    obtain ⟨z8_1, y8_1, _, _, _⟩ := H7.out.cells M1.out
    clear q8
    go_wp2_with fail
    refine k8.mono ?_
    rintro e w8 ⟨rfl, h8⟩
    have H8 := Lib.hid h8
    clear k8 h8 z8_0 y8_0 z8_1 y8_1 H7
    have T900004 : Hid (tot (freeM (freeM (nodeM (nodeM (stepM b))) L x1) x2 (L + 1)).sts ≤ 900004) := Lib.hid (by have := tot_free (freeM (nodeM (nodeM (stepM b))) L x1) x2 (L + 1); have := T900003.out; omega)
    have hlc900004 : (freeM (freeM (nodeM (nodeM (stepM b))) L x1) x2 (L + 1)).sts.length = L + 2 := by (repeat rw [len_free]); exact E2.out
    have HLC900004 := Lib.hid hlc900004
    clear hlc900004
    obtain ⟨o9, q9⟩ := H8.out
    have k9 := free_bs q9 x2 x1 (by have := HLC900004.out; omega) (by have := T900004.out; omega)
    obtain ⟨z9_0, y9_0, _, _, _⟩ := H8.out.cells M1.out
    clear q9
    go_wp2_with fail
    refine k9.mono ?_
    rintro e w9 ⟨rfl, h9⟩
    have H9 := Lib.hid h9
    clear k9 h9 z9_0 y9_0 H8
    have T900005 : Hid (tot (freeM (freeM (freeM (nodeM (nodeM (stepM b))) L x1) x2 (L + 1)) x2 x1).sts ≤ 900005) := Lib.hid (by have := tot_free (freeM (freeM (nodeM (nodeM (stepM b))) L x1) x2 (L + 1)) x2 x1; have := T900004.out; omega)
    have HEQ : Hid (timesM s b (x1, x2) = ((freeM (freeM (freeM (nodeM (nodeM (stepM b))) L x1) x2 (L + 1)) x2 x1), (L, L + 1))) := Lib.hid (by unfold timesM; rw [HO.out]; dsimp only; rw [if_pos HPT.out, HLL.out]; rfl)
    obtain ⟨z0, z1, _, _, _⟩ := H9.out.cells MP.out
    obtain ⟨y0, y1, f0, f1, _⟩ := H9.out.cells M2.out
    go_wp2
    refine bodyPost_ret (results_agg1 rfl _ _ (w.heap.size + 1) [.int .i64 (L : Nat), .int .i64 ((L + 1) : Nat)] (.struct _) rfl (World.rangeAt_setCells_same w9 (w.heap.size + 1) 0 [.int .i64 (L : Nat), .int .i64 ((L + 1) : Nat)] (H9.out.there M2.out)) Tryz.underlying132 rfl (by kernel_rfl)) rfl ?_
    rw [HEQ.out]
    exact H9.out.done M2.out
   ·have kx := Tryz.strings_IndexByte ⟨#[42, 43, 63]⟩ 63
    have hix : Lib.indexByte (⟨#[42, 43, 63]⟩ : ByteArray).data.toList (63 : Int).toNat.toUInt8 = 2 := by decide
    rw [hix] at kx
    clear hix
    obtain ⟨_, c1, _, f1⟩ := HA.out.fields
    have HST := Lib.hid HA.out.step
    obtain ⟨L, hL⟩ : ∃ L, b.sts.length = L := ⟨_, rfl⟩
    have HLL := Lib.hid hL
    rw [hL] at hx2 hl0
    have HL : Hid ((stepM b).sts.length = L) := Lib.hid hL
    clear hL
    obtain ⟨og, qg⟩ := HST.out
    have kn := node_bs qg L HL.out (by omega)
    clear qg
    go_wp2_with (go_at_call 122; refine (kx _).mono ?_; rintro e w' ⟨rfl, hw⟩; obtain rfl := hw.symm)
    refine kn.mono ?_
    rintro e wb ⟨rfl, hB⟩
    have HB := Lib.hid hB
    clear kn hB c1 f1 kx HST
    have e1 : (nodeM (stepM b)).sts.length = L + 1 := by rw [len_node, HL.out]
    have e2 : (nodeM (nodeM (stepM b))).sts.length = L + 2 := by rw [len_node, e1]
    have E1 := Lib.hid e1
    have E2 := Lib.hid e2
    have T2 : Hid (tot (nodeM (nodeM (stepM b))).sts ≤ 900002) := Lib.hid (by have h1 := tot_node (stepM b); have h2 := tot_node (nodeM (stepM b)); have h3 : tot (stepM b).sts = tot b.sts := rfl; omega)
    clear e1 e2
    obtain ⟨o10, q10⟩ := HB.out
    have k10 := node_bs q10 (L + 1) E1.out (by omega)
    clear q10
    go_wp2_with fail
    refine k10.mono ?_
    rintro e w10 ⟨rfl, h10⟩
    have H10 := Lib.hid h10
    clear k10 h10  HB
    go_upto_region 6 with fail
    have HPX := Lib.hid (H10.out.alloc (.int .i64 L) (.int .i64 ((L + 1 : Nat) : Int)))
    obtain ⟨pb, hpb⟩ : ∃ pb, w10.heap.size = pb := ⟨_, rfl⟩
    rw [hpb] at HPX ⊢
    refine wp_forget (BS own w g s (nodeM (nodeM (stepM b))) ((pb, .int .i64 L, .int .i64 ((L + 1 : Nat) : Int)) :: bx)) HPX.out (fun wp qp => ?_)
    have HP := Lib.hid qp
    clear qp hpb HPX H10
    have MP : Hid ((pb, Value.int .i64 L, Value.int .i64 ((L + 1 : Nat) : Int)) ∈ (pb, Value.int .i64 L, Value.int .i64 ((L + 1 : Nat) : Int)) :: bx) := Lib.hid (List.mem_cons_self)
    have M1 := Lib.hid (List.mem_cons_of_mem (pb, Value.int .i64 L, Value.int .i64 ((L + 1 : Nat) : Int)) HM1.out)
    have M2 := Lib.hid (List.mem_cons_of_mem (pb, Value.int .i64 L, Value.int .i64 ((L + 1 : Nat) : Int)) HM2.out)
    have hlc900002 : (nodeM (nodeM (stepM b))).sts.length = L + 2 := by (repeat rw [len_free]); exact E2.out
    have HLC900002 := Lib.hid hlc900002
    clear hlc900002
    obtain ⟨o11, q11⟩ := HP.out
    have k11 := free_bs q11 L x1 (by have := HLC900002.out; omega) (by have := T2.out; omega)
    obtain ⟨z11_0, y11_0, _, _, _⟩ := HP.out.cells MP.out
    obtain ⟨z11_1, y11_1, _, _, _⟩ := HP.out.cells M1.out
    clear q11
    go_wp2_with fail
    refine k11.mono ?_
    rintro e w11 ⟨rfl, h11⟩
    have H11 := Lib.hid h11
    clear k11 h11 z11_0 y11_0 z11_1 y11_1 HP
    have T900003 : Hid (tot (freeM (nodeM (nodeM (stepM b))) L x1).sts ≤ 900003) := Lib.hid (by have := tot_free (nodeM (nodeM (stepM b))) L x1; have := T2.out; omega)
    have hlc900003 : (freeM (nodeM (nodeM (stepM b))) L x1).sts.length = L + 2 := by (repeat rw [len_free]); exact E2.out
    have HLC900003 := Lib.hid hlc900003
    clear hlc900003
    obtain ⟨o12, q12⟩ := H11.out
    have k12 := free_bs q12 x2 (L + 1) (by have := HLC900003.out; omega) (by have := T900003.out; omega)
    obtain ⟨z12_0, y12_0, _, _, _⟩ := H11.out.cells MP.out
    obtain ⟨z12_1, y12_1, _, _, _⟩ := H11.out.cells M1.out
    clear q12
    go_wp2_with fail
    refine k12.mono ?_
    rintro e w12 ⟨rfl, h12⟩
    have H12 := Lib.hid h12
    clear k12 h12 z12_0 y12_0 z12_1 y12_1 H11
    have T900004 : Hid (tot (freeM (freeM (nodeM (nodeM (stepM b))) L x1) x2 (L + 1)).sts ≤ 900004) := Lib.hid (by have := tot_free (freeM (nodeM (nodeM (stepM b))) L x1) x2 (L + 1); have := T900003.out; omega)
    have hlc900004 : (freeM (freeM (nodeM (nodeM (stepM b))) L x1) x2 (L + 1)).sts.length = L + 2 := by (repeat rw [len_free]); exact E2.out
    have HLC900004 := Lib.hid hlc900004
    clear hlc900004
    obtain ⟨o13, q13⟩ := H12.out
    have k13 := free_bs q13 L (L + 1) (by have := HLC900004.out; omega) (by have := T900004.out; omega)
    obtain ⟨z13_0, y13_0, _, _, _⟩ := H12.out.cells MP.out
    clear q13
    go_wp2_with fail
    refine k13.mono ?_
    rintro e w13 ⟨rfl, h13⟩
    have H13 := Lib.hid h13
    clear k13 h13 z13_0 y13_0 H12
    have T900005 : Hid (tot (freeM (freeM (freeM (nodeM (nodeM (stepM b))) L x1) x2 (L + 1)) L (L + 1)).sts ≤ 900005) := Lib.hid (by have := tot_free (freeM (freeM (nodeM (nodeM (stepM b))) L x1) x2 (L + 1)) L (L + 1); have := T900004.out; omega)
    have HEQ : Hid (timesM s b (x1, x2) = ((freeM (freeM (freeM (nodeM (nodeM (stepM b))) L x1) x2 (L + 1)) L (L + 1)), (L, L + 1))) := Lib.hid (by unfold timesM; rw [HO.out]; dsimp only; rw [if_pos HPT.out, HLL.out]; rfl)
    obtain ⟨z0, z1, _, _, _⟩ := H13.out.cells MP.out
    obtain ⟨y0, y1, f0, f1, _⟩ := H13.out.cells M2.out
    go_wp2
    refine bodyPost_ret (results_agg1 rfl _ _ (w.heap.size + 1) [.int .i64 (L : Nat), .int .i64 ((L + 1) : Nat)] (.struct _) rfl (World.rangeAt_setCells_same w13 (w.heap.size + 1) 0 [.int .i64 (L : Nat), .int .i64 ((L + 1) : Nat)] (H13.out.there M2.out)) Tryz.underlying132 rfl (by kernel_rfl)) rfl ?_
    rw [HEQ.out]
    exact H13.out.done M2.out
  ·have hpf : postB c = false := by simpa using hpb
   have kx := Tryz.strings_IndexByte ⟨#[42, 43, 63]⟩ (c : Int)
   have hix : Lib.indexByte (⟨#[42, 43, 63]⟩ : ByteArray).data.toList ((c : Int).toNat.toUInt8) = -1 := post_in c hc256 hpf
   rw [hix] at kx
   have HPF := Lib.hid hpf
   clear hix hpb hpf
   obtain ⟨z0, z1, _, _, _⟩ := HA.out.cells HM1.out
   obtain ⟨y0, y1, f0, f1, _⟩ := HA.out.cells HM2.out
   go_wp2_with (go_at_call 122; refine (kx _).mono ?_; rintro e w' ⟨rfl, hw⟩; obtain rfl := hw.symm)
   refine bodyPost_ret (results_agg1 rfl _ _ (w.heap.size + 1) [.int .i64 (x1 : Nat), .int .i64 (x2 : Nat)] (.struct _) rfl (World.rangeAt_setCells_same wa (w.heap.size + 1) 0 [.int .i64 (x1 : Nat), .int .i64 (x2 : Nat)] (HA.out.there HM2.out)) Tryz.underlying132 rfl (by kernel_rfl)) rfl ?_
   rw [times_no HO.out HPF.out]
   exact HA.out.done HM2.out
end Go.Proofs.YtgbapkechngnmaaGreat
/- pattern's builder: atom: a contract, out of either's. -/
namespace Go.Proofs.YtgbapkechngnmaaGreat
open Go.RowKit
def capM (s : ByteArray) (b : Bs) : Nat := tot b.sts + 6 * (s.size + 12 - b.pos)
def EitherC (s : ByteArray) (n : Nat) : Prop := ∀ (w : World) (g : Nat) (b : Bs) (own : Nat → Prop) (d : Nat), Bld w g s b own → d ≤ 8 → b.pos ≤ s.size + 12 - d → fuelM s b .either ≤ n → capM s b ≤ 10000 + 100 * d →
  Calls Tryz.prog 84 #[.pointer (some ⟨g, 0, none⟩), .int .i64 d] w (PartPost own w g s (runM s n .either d b))
def RowC (s : ByteArray) (n : Nat) : Prop := ∀ (w : World) (g : Nat) (b : Bs) (own : Nat → Prop) (d : Nat), Bld w g s b own → d ≤ 8 → b.pos ≤ s.size + 12 - d → fuelM s b .row ≤ n → capM s b ≤ 10000 + 100 * d + 10 →
  Calls Tryz.prog 106 #[.pointer (some ⟨g, 0, none⟩), .int .i64 d] w (PartPost own w g s (runM s n .row d b))
def AtomC (s : ByteArray) (n : Nat) : Prop := ∀ (w : World) (g : Nat) (b : Bs) (own : Nat → Prop) (d : Nat), Bld w g s b own → d ≤ 8 → b.pos < s.size → fuelM s b .atom ≤ n → capM s b ≤ 10000 + 100 * d + 20 →
  Calls Tryz.prog 128 #[.pointer (some ⟨g, 0, none⟩), .int .i64 d] w (PartPost own w g s (runM s n .atom d b))
structure AtAt (own : Nat → Prop) (W0 : World) (g : Nat) (s : ByteArray) (b : Bs) (rb sb : Nat) (S : Nat → Bool) (w : World) : Prop where
  bld : Bld w g s b own
  set : SetAt w sb S
  nk : ¬ own sb
  rbx : PBx w rb (.int .i64 0) (.int .i64 0)
  nr : ¬ own rb
  ne : rb ≠ sb
  keep : Keep own W0 w
  ws : W0.heap.size ≤ sb
  wr : W0.heap.size ≤ rb
theorem AtAt.call {own : Nat → Prop} {W0 w w' : World} {g : Nat} {s : ByteArray} {b b' : Bs} {rb sb : Nat} {S : Nat → Bool} (h : AtAt own W0 g s b rb sb S w) (hB : Bld w' g s b' own) (hs : Stp own w own w') : AtAt own W0 g s b' rb sb S w' :=
  ⟨hB, h.set.blk (hs.1.block sb h.set.lt h.nk), h.nk, hs.blk h.rbx h.nr, h.nr, h.ne, h.keep.trans hs.1 (fun _ hj => .inl hj), h.ws, h.wr⟩
theorem AtAt.below {own : Nat → Prop} {W0 w w' : World} {g : Nat} {s : ByteArray} {b : Bs} {rb sb : Nat} {S : Nat → Bool} (h : AtAt own W0 g s b rb sb S w) (hb : Below w.heap.size w w') : AtAt own W0 g s b rb sb S w' :=
  h.call (h.bld.below hb) (Stp.of_below hb)
theorem AtAt.step {own : Nat → Prop} {W0 w : World} {g : Nat} {s : ByteArray} {b : Bs} {rb sb : Nat} {S : Nat → Bool} (h : AtAt own W0 g s b rb sb S w) : AtAt own W0 g s (stepM b) rb sb S (w.setCell ⟨g, 1, none⟩ (.int .i64 ((b.pos : Int) + 1))) :=
  h.call h.bld.step (Stp.step h.bld _)
theorem AtAt.turn {own : Nat → Prop} {W0 w w' : World} {g : Nat} {s : ByteArray} {b b' : Bs} {rb sb : Nat} {S S' : Nat → Bool} (h : AtAt own W0 g s b rb sb S w) (hB : Bld w' g s b' own) (hS : SetAt w' sb S') (hk : Keep (fun j => own j ∨ j = sb) w w') : AtAt own W0 g s b' rb sb S' w' := by
  have hrl := PBx.lt h.rbx
  refine ⟨hB, hS, h.nk, (hk.block rb hrl (fun e => by rcases e with e | e; (· exact h.nr e); (· exact h.ne e))).trans h.rbx, h.nr, h.ne, h.keep.trans hk (fun j hj => ?_), h.ws, h.wr⟩
  rcases hj with hj | rfl
  · exact .inl hj
  · exact .inr h.ws
theorem AtAt.fill {own : Nat → Prop} {W0 w w' : World} {g : Nat} {s : ByteArray} {b : Bs} {rb sb : Nat} {S S' : Nat → Bool} (h : AtAt own W0 g s b rb sb S w) (hS : SetAt w' sb S') (hk : Keep (fun j => j = sb) w w') : AtAt own W0 g s b rb sb S' w' := by
  refine h.turn ?_ hS (hk.mono (fun _ h => .inr h))
  obtain ⟨sv, es, hV⟩ := h.bld
  exact ⟨sv, es, hV.kept hk.size (fun j hj => hk.block j (hV.lt j hj) (fun e => h.nk (e ▸ hj)))⟩
theorem AtAt.bs {own : Nat → Prop} {W0 w : World} {g : Nat} {s : ByteArray} {b : Bs} {rb sb : Nat} {S : Nat → Bool} (h : AtAt own W0 g s b rb sb S w) : BSo own W0 g s b [(rb, .int .i64 0, .int .i64 0)] own w :=
  ⟨h.bld, ⟨h.keep, fun _ h => .inl h⟩, fun x hx => by rw [List.mem_singleton.1 hx]; exact ⟨h.rbx, h.nr⟩, fun x hx => by rw [List.mem_singleton.1 hx]; exact h.wr⟩
theorem AtAt.one {own : Nat → Prop} {W0 w : World} {g : Nat} {s : ByteArray} {b : Bs} {rb sb : Nat} {S : Nat → Bool} (h : AtAt own W0 g s b rb sb S w) (hn : b.sts.length ≤ 900000) :
    Calls Tryz.prog 142 #[.pointer (some ⟨g, 0, none⟩), .pointer (some ⟨sb, 0, none⟩)] w fun e w' => e = .returned (.agg #[.int .i64 (((oneM b S).2.1 : Nat) : Int), .int .i64 (((oneM b S).2.2 : Nat) : Int)]) ∧ BS own W0 g s (oneM b S).1 [(rb, .int .i64 0, .int .i64 0)] w' := by
  refine (one_is w g s b own S sb h.bld h.set h.nk (by omega)).mono ?_
  rintro e w' ⟨rfl, own', hB, hk, ho⟩
  have hrl := PBx.lt h.rbx
  have hsz := h.keep.size
  refine ⟨rfl, own', hB, ⟨h.keep.trans hk (fun _ hj => .inl hj), fun j hj => ?_⟩, fun x hx => ?_, fun x hx => by rw [List.mem_singleton.1 hx]; exact h.wr⟩
  · rcases ho j hj with h1 | rfl | h1
    · exact .inl h1
    · exact .inr h.ws
    · exact .inr (by omega)
  · rw [List.mem_singleton.1 hx]
    refine ⟨(hk.block rb hrl h.nr).trans h.rbx, fun h0 => ?_⟩
    rcases ho rb h0 with h1 | h1 | h1
    · exact h.nr h1
    · exact h.ne h1
    · omega
theorem words_no : WordsOf noS [0, 0, 0, 0] := by
  refine ⟨rfl, by decide, fun c hc => ?_⟩
  have h : ([0, 0, 0, 0] : List Nat).getD (c / 64) 0 = 0 := by
    rcases (by omega : c / 64 = 0 ∨ c / 64 = 1 ∨ c / 64 = 2 ∨ c / 64 = 3) with e | e | e | e <;> rw [e] <;> rfl
  rw [h, Nat.zero_testBit]; rfl
structure At0 (own : Nat → Prop) (W0 : World) (g : Nat) (s : ByteArray) (b : Bs) (rb : Nat) (w : World) : Prop where
  bld : Bld w g s b own
  rbx : PBx w rb (.int .i64 0) (.int .i64 0)
  nr : ¬ own rb
  keep : Keep own W0 w
  wr : W0.heap.size ≤ rb
theorem At0.call {own : Nat → Prop} {W0 w w' : World} {g : Nat} {s : ByteArray} {b b' : Bs} {rb : Nat} (h : At0 own W0 g s b rb w) (hB : Bld w' g s b' own) (hs : Stp own w own w') : At0 own W0 g s b' rb w' :=
  ⟨hB, hs.blk h.rbx h.nr, h.nr, h.keep.trans hs.1 (fun _ hj => .inl hj), h.wr⟩
theorem At0.start {own : Nat → Prop} {w : World} {g : Nat} {s : ByteArray} {b : Bs} (h : Bld w g s b own) : At0 own w g s b w.heap.size (w.alloc (.cells #[.int .i64 0, .int .i64 0] 132)) :=
  ⟨h.below (alloc_below _ _), heap_alloc_new _ _, fun h0 => by have := h.lt _ h0; omega, Keep.of_below (alloc_below _ _), Nat.le_refl _⟩
theorem At0.set {own : Nat → Prop} {W0 w : World} {g : Nat} {s : ByteArray} {b : Bs} {rb : Nat} (h : At0 own W0 g s b rb w) :
    AtAt own W0 g s b rb w.heap.size noS (w.alloc (.cells #[.int .u64 0, .int .u64 0, .int .u64 0, .int .u64 0] 205)) := by
  have h1 := h.call (h.bld.below (alloc_below w (.cells #[.int .u64 0, .int .u64 0, .int .u64 0, .int .u64 0] 205))) (Stp.of_below (alloc_below _ _))
  exact ⟨h1.bld, ⟨[0, 0, 0, 0], words_no, heap_alloc_new _ _⟩, fun h0 => by have := h.bld.lt _ h0; omega, h1.rbx, h.nr, fun e => by have := h.rbx.lt; omega, h1.keep, h.keep.size, h.wr⟩
theorem odd_in : ∀ c : Nat, c < 256 → oddB c = false → Lib.indexByte [42, 43, 63, 124, 40, 41, 91, 93, 92, 46] ((c : Int).toNat.toUInt8) = -1 := by decide +kernel
theorem odd_out : ∀ c : Nat, c < 256 → oddB c = true → 0 ≤ Lib.indexByte [42, 43, 63, 124, 40, 41, 91, 93, 92, 46] ((c : Int).toNat.toUInt8) := by decide +kernel
theorem runM_atom (s : ByteArray) (n d : Nat) (b : Bs) : runM s (n + 1) .atom d b =
    (if byteM s b.pos = 40 then
      (if d = 8 then oneM (failM (stepM b) 3) noS else (closeM s (runM s n .either (d + 1) (stepM b)).1, (runM s n .either (d + 1) (stepM b)).2))
    else if byteM s b.pos = 91 then oneM (classM s (stepM b)).1 (classM s (stepM b)).2
    else if byteM s b.pos = 46 then oneM (stepM b) (turnS noS)
    else if byteM s b.pos = 92 then
      (match peekM s (stepM b) with
       | none => oneM (stepM (failM (stepM b) 2)) (oneS 0)
       | some e => oneM (stepM (stepM b)) (oneS e))
    else if oddB (byteM s b.pos) = true then oneM (failM (stepM b) 2) noS
    else oneM (stepM b) (oneS (byteM s b.pos))) := by rw [runM] <;> rfl
set_option maxHeartbeats 12800000 in
set_option maxRecDepth 100000 in
theorem atom_of (s : ByteArray) (n : Nat) (hs : s.size ≤ 100) (IH : EitherC s n) : AtomC s (n + 1) := by
  intro w g b own d h hd hps hfu hcap
  have hok := runM_ok s (n + 1) .atom d b hd (by omega) (fun _ => hps) trivial hfu
  have HOK := Lib.hid hok
  have htb : tot b.sts ≤ 11000 := by unfold capM at hcap; omega
  have hl0 : b.sts.length ≤ 11000 := Nat.le_trans (len_tot _) htb
  obtain ⟨c, hc⟩ : ∃ c, byteM s b.pos = c := ⟨_, rfl⟩
  have hc256 : c < 256 := by rw [← hc]; exact byteM_lt _ _
  have hby : (s[b.pos]'hps).toNat = c := by have := byteM_at s b.pos hps; rw [hc] at this; omega
  have hi0 : (0 : Int) ≤ (b.pos : Int) := by omega
  have hi1 : (b.pos : Int) < (s.size : Int) := by omega
  have HR := Lib.hid (runM_atom s n d b)
  have HC := Lib.hid hc
  have H0 := Lib.hid (At0.start h)
  have HIH := Lib.hid IH
  clear hok hc h IH htb
  go_enter Tryz.func128, Tryz.ntmps128
  go_upto_region 1 with fail
  refine wp_forget (At0 own w g s b w.heap.size) H0.out (fun w0 q0 => ?_)
  have Q0 := Lib.hid q0
  obtain ⟨c0, c1, _, f1⟩ := q0.bld.fields
  clear q0 H0
  go_quiet (fail)
  go_upto_region 2 with fail
  refine wp_forget (At0 own w g s b w.heap.size) (Q0.out.call (Q0.out.bld.below (bl_drewN (Below.refl _ _) _)) (Stp.of_below (bl_drewN (Below.refl _ _) _))) (fun w1 q1 => ?_)
  have Q1 := Lib.hid q1
  clear c0 c1 f1 Q0 q1
  obtain ⟨_, c1, _, f1⟩ := Q1.out.bld.fields
  go_upto_region 3 with fail
  refine wp_forget (At0 own w g s (stepM b) w.heap.size) (Q1.out.call Q1.out.bld.step (Stp.step Q1.out.bld _)) (fun w2 q2 => ?_)
  have Q2 := Lib.hid q2.set
  have HSB := Lib.hid q2.keep.size
  clear c1 f1 Q1 q2
  go_upto_region 5 with fail
  obtain ⟨sb, hsb⟩ : ∃ sb, w2.heap.size = sb := ⟨_, rfl⟩
  rw [hsb] at Q2 ⊢
  refine wp_forget (AtAt own w g s (stepM b) w.heap.size sb noS) Q2.out (fun w3 q3 => ?_)
  have HA := Lib.hid q3
  clear q3 Q2 HSB hsb
  have hpb : (stepM b).pos ≤ 1000 := by simp only [stepM]; omega
  have hlb : (stepM b).sts.length ≤ 11000 := hl0
  have kf := fun W b own e0 (h : Bld W g s b own) => fail_is W g s b own e0 h
  have KF := Lib.hid kf
  clear kf
  by_cases h40 : c = 40
  · subst h40
    by_cases hd8 : d = 8
    · subst hd8
      have kq1 := KF.out _ _ _ 3 HA.out.bld
      go_wp2_with fail
      refine kq1.mono ?_
      rintro e w1 ⟨rfl, hB1, hs1⟩
      have H1 := Lib.hid (HA.out.call hB1 hs1)
      clear kq1 hB1 hs1
      obtain ⟨b9, p, q, h9⟩ : ∃ b9 p q, oneM (failM (stepM b) 3) noS = (b9, (p, q)) := ⟨_, _, _, rfl⟩
      have k2 := H1.out.one (by first | exact Nat.le_trans hl0 (by decide) | (rw [failM_sts]; exact Nat.le_trans hl0 (by decide)) | (rw [classM_len]; exact Nat.le_trans hl0 (by decide)) | (show (failM (stepM b) 2).sts.length ≤ _; rw [failM_sts]; exact Nat.le_trans hl0 (by decide)))
      rw [h9] at k2
      dsimp only at k2
      have HE9 : Hid (runM s (n + 1) .atom 8 b = (b9, (p, q))) := Lib.hid ((HR.out.trans (by rw [if_pos HC.out]; simp)).trans h9)
      clear h9
      go_wp2_with fail
      refine k2.mono ?_
      rintro e w2 ⟨rfl, h2⟩
      have H2 := Lib.hid h2
      clear k2 h2
      obtain ⟨y0, y1, f0, f1, _⟩ := H2.out.cells (List.mem_singleton.2 rfl)
      go_wp2
      refine bodyPost_ret (results_agg1 rfl _ _ w.heap.size [.int .i64 (p : Nat), .int .i64 (q : Nat)] (.struct _) rfl (World.rangeAt_setCells_same w2 w.heap.size 0 [.int .i64 (p : Nat), .int .i64 (q : Nat)] (H2.out.there (List.mem_singleton.2 rfl))) Tryz.underlying132 rfl (by kernel_rfl)) rfl ?_
      rw [HE9.out]
      exact H2.out.done (List.mem_singleton.2 rfl)
    · have hd8b : ((d : Int) == 8) = false := by rw [beq_eq_false_iff_ne]; omega
      have hdi : IntKind.i64.wrap ((d : Int) + 1) = (d : Int) + 1 := IntWalk.i64_in _ ⟨by omega, by omega⟩
      have kE := HIH.out _ g (stepM b) own (d + 1) HA.out.bld (by omega) (by simp only [stepM]; omega) (by simp only [fuelM, stepM] at hfu ⊢; omega) (by unfold capM at hcap ⊢; simp only [stepM]; omega)
      have hro := runM_ok s n .either (d + 1) (stepM b) (by omega) (by simp only [stepM]; omega) (fun h => by cases h) trivial (by simp only [fuelM, stepM] at hfu ⊢; omega)
      obtain ⟨br, p, q, hr⟩ : ∃ br p q, runM s n .either (d + 1) (stepM b) = (br, (p, q)) := ⟨_, _, _, rfl⟩
      have HE9 : Hid (runM s (n + 1) .atom d b = (closeM s br, (p, q))) := Lib.hid (HR.out.trans (by rw [if_pos HC.out, if_neg hd8, hr]))
      rw [hr] at kE hro
      have hbp := hro.top
      dsimp only at hbp
      have HD8 := Lib.hid hd8
      clear hr hro hd8
      have HB0 := Lib.hid HA.out.bs
      go_wp2_with fail
      refine kE.mono ?_
      rintro e wb ⟨rfl, ownb, hBb, hsb⟩
      have HB1 := Lib.hid (HB0.out.call hBb hsb)
      clear kE hBb hsb HB0 HA
      go_upto_region 9 with fail
      have HPX := Lib.hid (HB1.out.alloc (.int .i64 p) (.int .i64 q))
      obtain ⟨pb, hpb⟩ : ∃ pb, wb.heap.size = pb := ⟨_, rfl⟩
      rw [hpb] at HPX ⊢
      refine wp_forget (BS own w g s br [(pb, .int .i64 p, .int .i64 q), (w.heap.size, .int .i64 0, .int .i64 0)]) HPX.out (fun wp qp => ?_)
      have HP := Lib.hid qp
      clear qp hpb HPX HB1
      obtain ⟨o, ho⟩ : ∃ o, peekM s br = o := ⟨_, rfl⟩
      obtain ⟨ow, qw⟩ := HP.out
      have k5 := peek_bs qw o ho (by omega)
      have HO := Lib.hid ho
      clear qw ho
      go_wp2_with fail
      refine k5.mono ?_
      rintro e wc ⟨rfl, hC⟩
      have HCC := Lib.hid hC
      clear k5 hC HP
      by_cases h41 : o = some 41
      · subst h41
        have hm1 : (pb, Value.int .i64 p, Value.int .i64 q) ∈ [(pb, Value.int .i64 p, Value.int .i64 q), (w.heap.size, .int .i64 0, .int .i64 0)] := by simp
        have hm2 : (w.heap.size, Value.int .i64 0, Value.int .i64 0) ∈ [(pb, Value.int .i64 p, Value.int .i64 q), (w.heap.size, .int .i64 0, .int .i64 0)] := by simp
        have HM1 := Lib.hid hm1
        have HM2 := Lib.hid hm2
        clear hm1 hm2
        have hbp2 : br.pos ≤ 1000 := by first | omega | (rw [failM_pos]; omega)
        obtain ⟨_, c1, _, f1⟩ := HCC.out.fields
        go_upto_region 13 with fail
        refine wp_forget (BS own w g s (stepM br) [(pb, .int .i64 p, .int .i64 q), (w.heap.size, .int .i64 0, .int .i64 0)]) HCC.out.step (fun w3 q3 => ?_)
        have H3 := Lib.hid q3
        clear c1 f1 q3
        obtain ⟨z0, z1, _, _, _⟩ := H3.out.cells HM1.out
        obtain ⟨y0, y1, f0, f1, _⟩ := H3.out.cells HM2.out
        go_wp2
        refine bodyPost_ret (results_agg1 rfl _ _ w.heap.size [.int .i64 (p : Nat), .int .i64 (q : Nat)] (.struct _) rfl (World.rangeAt_setCells_same w3 w.heap.size 0 [.int .i64 (p : Nat), .int .i64 (q : Nat)] (H3.out.there HM2.out)) Tryz.underlying132 rfl (by kernel_rfl)) rfl ?_
        rw [HE9.out, show closeM s br = stepM br from by unfold closeM; rw [if_pos HO.out]]
        exact H3.out.done HM2.out
      · have hno : (!o.isSome || ((((o.getD 0 : Nat) : Int)) != 41)) = true := by
          rcases o with _ | c
          · rfl
          · simp at h41 ⊢; omega
        have H41 := Lib.hid h41
        clear h41
        obtain ⟨ow, qw⟩ := HCC.out
        have k6 := fail_bs qw 2
        clear qw
        rcases o with _ | c
        · go_wp2_with fail
          refine k6.mono ?_
          rintro e wd ⟨rfl, hD⟩
          have HD := Lib.hid hD
          clear k6 hD HCC
          have hm1 : (pb, Value.int .i64 p, Value.int .i64 q) ∈ [(pb, Value.int .i64 p, Value.int .i64 q), (w.heap.size, .int .i64 0, .int .i64 0)] := by simp
          have hm2 : (w.heap.size, Value.int .i64 0, Value.int .i64 0) ∈ [(pb, Value.int .i64 p, Value.int .i64 q), (w.heap.size, .int .i64 0, .int .i64 0)] := by simp
          have HM1 := Lib.hid hm1
          have HM2 := Lib.hid hm2
          clear hm1 hm2
          have hbp2 : (failM br 2).pos ≤ 1000 := by first | omega | (rw [failM_pos]; omega)
          obtain ⟨_, c1, _, f1⟩ := HD.out.fields
          go_upto_region 13 with fail
          refine wp_forget (BS own w g s (stepM (failM br 2)) [(pb, .int .i64 p, .int .i64 q), (w.heap.size, .int .i64 0, .int .i64 0)]) HD.out.step (fun w5 q5 => ?_)
          have H5 := Lib.hid q5
          clear c1 f1 q5
          obtain ⟨z0, z1, _, _, _⟩ := H5.out.cells HM1.out
          obtain ⟨y0, y1, f0, f1, _⟩ := H5.out.cells HM2.out
          go_wp2
          refine bodyPost_ret (results_agg1 rfl _ _ w.heap.size [.int .i64 (p : Nat), .int .i64 (q : Nat)] (.struct _) rfl (World.rangeAt_setCells_same w5 w.heap.size 0 [.int .i64 (p : Nat), .int .i64 (q : Nat)] (H5.out.there HM2.out)) Tryz.underlying132 rfl (by kernel_rfl)) rfl ?_
          rw [HE9.out, show closeM s br = stepM (failM br 2) from by unfold closeM; rw [if_neg (by rw [HO.out]; exact H41.out)]]
          exact H5.out.done HM2.out
        · have hc41 : ((c : Int) != 41) = true := by simpa using hno
          clear hno
          go_wp2_with fail
          refine k6.mono ?_
          rintro e wd ⟨rfl, hD⟩
          have HD := Lib.hid hD
          clear k6 hD HCC
          have hm1 : (pb, Value.int .i64 p, Value.int .i64 q) ∈ [(pb, Value.int .i64 p, Value.int .i64 q), (w.heap.size, .int .i64 0, .int .i64 0)] := by simp
          have hm2 : (w.heap.size, Value.int .i64 0, Value.int .i64 0) ∈ [(pb, Value.int .i64 p, Value.int .i64 q), (w.heap.size, .int .i64 0, .int .i64 0)] := by simp
          have HM1 := Lib.hid hm1
          have HM2 := Lib.hid hm2
          clear hm1 hm2
          have hbp2 : (failM br 2).pos ≤ 1000 := by first | omega | (rw [failM_pos]; omega)
          obtain ⟨_, c1, _, f1⟩ := HD.out.fields
          go_upto_region 13 with fail
          refine wp_forget (BS own w g s (stepM (failM br 2)) [(pb, .int .i64 p, .int .i64 q), (w.heap.size, .int .i64 0, .int .i64 0)]) HD.out.step (fun w5 q5 => ?_)
          have H5 := Lib.hid q5
          clear c1 f1 q5
          obtain ⟨z0, z1, _, _, _⟩ := H5.out.cells HM1.out
          obtain ⟨y0, y1, f0, f1, _⟩ := H5.out.cells HM2.out
          go_wp2
          refine bodyPost_ret (results_agg1 rfl _ _ w.heap.size [.int .i64 (p : Nat), .int .i64 (q : Nat)] (.struct _) rfl (World.rangeAt_setCells_same w5 w.heap.size 0 [.int .i64 (p : Nat), .int .i64 (q : Nat)] (H5.out.there HM2.out)) Tryz.underlying132 rfl (by kernel_rfl)) rfl ?_
          rw [HE9.out, show closeM s br = stepM (failM br 2) from by unfold closeM; rw [if_neg (by rw [HO.out]; exact H41.out)]]
          exact H5.out.done HM2.out
  · have hb40 : ((c : Int) == 40) = false := by rw [beq_eq_false_iff_ne]; omega
    have HR2 : Hid (runM s (n + 1) .atom d b = _) := Lib.hid (HR.out.trans (if_neg (by rw [HC.out]; exact h40)))
    clear HR
    by_cases h91 : c = 91
    · subst h91
      have k7 := class_is _ g sb s (stepM b) own HA.out.bld HA.out.set HA.out.nk (by simp only [stepM]; omega) (by omega)
      go_wp2_with fail
      refine k7.mono ?_
      rintro e wb ⟨rfl, hB1, hS1, hk1⟩
      have HB1 := Lib.hid (HA.out.turn hB1 hS1 hk1)
      clear k7 hB1 hS1 hk1
      obtain ⟨b9, p, q, h9⟩ : ∃ b9 p q, oneM (classM s (stepM b)).1 (classM s (stepM b)).2 = (b9, (p, q)) := ⟨_, _, _, rfl⟩
      have k6 := HB1.out.one (by first | exact Nat.le_trans hl0 (by decide) | (rw [failM_sts]; exact Nat.le_trans hl0 (by decide)) | (rw [classM_len]; exact Nat.le_trans hl0 (by decide)) | (show (failM (stepM b) 2).sts.length ≤ _; rw [failM_sts]; exact Nat.le_trans hl0 (by decide)))
      rw [h9] at k6
      dsimp only at k6
      have HE9 : Hid (runM s (n + 1) .atom d b = (b9, (p, q))) := Lib.hid ((HR2.out.trans (if_pos HC.out)).trans h9)
      clear h9
      go_wp2_with fail
      refine k6.mono ?_
      rintro e w6 ⟨rfl, h6⟩
      have H6 := Lib.hid h6
      clear k6 h6
      obtain ⟨y0, y1, f0, f1, _⟩ := H6.out.cells (List.mem_singleton.2 rfl)
      go_wp2
      refine bodyPost_ret (results_agg1 rfl _ _ w.heap.size [.int .i64 (p : Nat), .int .i64 (q : Nat)] (.struct _) rfl (World.rangeAt_setCells_same w6 w.heap.size 0 [.int .i64 (p : Nat), .int .i64 (q : Nat)] (H6.out.there (List.mem_singleton.2 rfl))) Tryz.underlying132 rfl (by kernel_rfl)) rfl ?_
      rw [HE9.out]
      exact H6.out.done (List.mem_singleton.2 rfl)
    · have hb91 : ((c : Int) == 91) = false := by rw [beq_eq_false_iff_ne]; omega
      have HR3 : Hid (runM s (n + 1) .atom d b = _) := Lib.hid (HR2.out.trans (if_neg (by rw [HC.out]; exact h91)))
      clear HR2
      by_cases h46 : c = 46
      · subst h46
        have k7 := turn_is _ sb noS HA.out.set
        go_wp2_with fail
        refine k7.mono ?_
        rintro e wb ⟨rfl, hS1, hk1⟩
        have HB1 := Lib.hid (HA.out.fill hS1 hk1)
        clear k7 hS1 hk1
        obtain ⟨b9, p, q, h9⟩ : ∃ b9 p q, oneM (stepM b) (turnS noS) = (b9, (p, q)) := ⟨_, _, _, rfl⟩
        have k7 := HB1.out.one (by first | exact Nat.le_trans hl0 (by decide) | (rw [failM_sts]; exact Nat.le_trans hl0 (by decide)) | (rw [classM_len]; exact Nat.le_trans hl0 (by decide)) | (show (failM (stepM b) 2).sts.length ≤ _; rw [failM_sts]; exact Nat.le_trans hl0 (by decide)))
        rw [h9] at k7
        dsimp only at k7
        have HE9 : Hid (runM s (n + 1) .atom d b = (b9, (p, q))) := Lib.hid ((HR3.out.trans (if_pos HC.out)).trans h9)
        clear h9
        go_wp2_with fail
        refine k7.mono ?_
        rintro e w7 ⟨rfl, h7⟩
        have H7 := Lib.hid h7
        clear k7 h7
        obtain ⟨y0, y1, f0, f1, _⟩ := H7.out.cells (List.mem_singleton.2 rfl)
        go_wp2
        refine bodyPost_ret (results_agg1 rfl _ _ w.heap.size [.int .i64 (p : Nat), .int .i64 (q : Nat)] (.struct _) rfl (World.rangeAt_setCells_same w7 w.heap.size 0 [.int .i64 (p : Nat), .int .i64 (q : Nat)] (H7.out.there (List.mem_singleton.2 rfl))) Tryz.underlying132 rfl (by kernel_rfl)) rfl ?_
        rw [HE9.out]
        exact H7.out.done (List.mem_singleton.2 rfl)
      · have hb46 : ((c : Int) == 46) = false := by rw [beq_eq_false_iff_ne]; omega
        have HR4 : Hid (runM s (n + 1) .atom d b = _) := Lib.hid (HR3.out.trans (if_neg (by rw [HC.out]; exact h46)))
        clear HR3
        by_cases h92 : c = 92
        · subst h92
          obtain ⟨o, ho⟩ : ∃ o, peekM s (stepM b) = o := ⟨_, rfl⟩
          have k7 := peek_is _ g s (stepM b) own o ho HA.out.bld (by omega)
          have HO := Lib.hid ho
          clear ho
          go_wp2_with fail
          refine k7.mono ?_
          rintro e wb ⟨rfl, hb1⟩
          have HB1 := Lib.hid (HA.out.below hb1)
          clear k7 hb1
          rcases o with _ | e0
          · have kq8 := KF.out _ _ _ 2 HB1.out.bld
            go_wp2_with fail
            refine kq8.mono ?_
            rintro e w8 ⟨rfl, hB8, hs8⟩
            have H8 := Lib.hid (HB1.out.call hB8 hs8)
            clear kq8 hB8 hs8
            have hpf : (failM (stepM b) 2).pos ≤ 1000 := by rw [failM_pos]; omega
            obtain ⟨_, c1, _, f1⟩ := H8.out.bld.fields
            go_upto_region 23 with fail
            refine wp_forget (AtAt own w g s (stepM (failM (stepM b) 2)) w.heap.size sb noS) H8.out.step (fun w9 q9 => ?_)
            have H9 := Lib.hid q9
            clear c1 f1 q9
            have ka10 := add_is _ sb noS 0 0 H9.out.set (by decide) (by decide)
            go_wp2_with fail
            refine ka10.mono ?_
            rintro e w10 ⟨rfl, hS10, hk10⟩
            have H10 : Hid (AtAt own w g s _ w.heap.size sb (oneS 0) _) := Lib.hid (H9.out.fill hS10 hk10)
            clear ka10 hS10 hk10
            obtain ⟨b9, p, q, h9⟩ : ∃ b9 p q, oneM (stepM (failM (stepM b) 2)) (oneS 0) = (b9, (p, q)) := ⟨_, _, _, rfl⟩
            have k11 := H10.out.one (by first | exact Nat.le_trans hl0 (by decide) | (rw [failM_sts]; exact Nat.le_trans hl0 (by decide)) | (rw [classM_len]; exact Nat.le_trans hl0 (by decide)) | (show (failM (stepM b) 2).sts.length ≤ _; rw [failM_sts]; exact Nat.le_trans hl0 (by decide)))
            rw [h9] at k11
            dsimp only at k11
            have HE9 : Hid (runM s (n + 1) .atom d b = (b9, (p, q))) := Lib.hid ((HR4.out.trans (by rw [if_pos HC.out, HO.out])).trans h9)
            clear h9
            go_wp2_with fail
            refine k11.mono ?_
            rintro e w11 ⟨rfl, h11⟩
            have H11 := Lib.hid h11
            clear k11 h11
            obtain ⟨y0, y1, f0, f1, _⟩ := H11.out.cells (List.mem_singleton.2 rfl)
            go_wp2
            refine bodyPost_ret (results_agg1 rfl _ _ w.heap.size [.int .i64 (p : Nat), .int .i64 (q : Nat)] (.struct _) rfl (World.rangeAt_setCells_same w11 w.heap.size 0 [.int .i64 (p : Nat), .int .i64 (q : Nat)] (H11.out.there (List.mem_singleton.2 rfl))) Tryz.underlying132 rfl (by kernel_rfl)) rfl ?_
            rw [HE9.out]
            exact H11.out.done (List.mem_singleton.2 rfl)
          · have he0 : e0 < 256 := by rw [(peekM_some HO.out).2.2]; exact byteM_lt _ _
            obtain ⟨_, c1, _, f1⟩ := HB1.out.bld.fields
            go_upto_region 23 with fail
            refine wp_forget (AtAt own w g s (stepM (stepM b)) w.heap.size sb noS) HB1.out.step (fun w12 q12 => ?_)
            have H12 := Lib.hid q12
            clear c1 f1 q12
            have ka13 := add_is _ sb noS e0 e0 H12.out.set he0 he0
            go_wp2_with fail
            refine ka13.mono ?_
            rintro e w13 ⟨rfl, hS13, hk13⟩
            have H13 : Hid (AtAt own w g s _ w.heap.size sb (oneS e0) _) := Lib.hid (H12.out.fill hS13 hk13)
            clear ka13 hS13 hk13
            obtain ⟨b9, p, q, h9⟩ : ∃ b9 p q, oneM (stepM (stepM b)) (oneS e0) = (b9, (p, q)) := ⟨_, _, _, rfl⟩
            have k14 := H13.out.one (by first | exact Nat.le_trans hl0 (by decide) | (rw [failM_sts]; exact Nat.le_trans hl0 (by decide)) | (rw [classM_len]; exact Nat.le_trans hl0 (by decide)) | (show (failM (stepM b) 2).sts.length ≤ _; rw [failM_sts]; exact Nat.le_trans hl0 (by decide)))
            rw [h9] at k14
            dsimp only at k14
            have HE9 : Hid (runM s (n + 1) .atom d b = (b9, (p, q))) := Lib.hid ((HR4.out.trans (by rw [if_pos HC.out, HO.out])).trans h9)
            clear h9
            go_wp2_with fail
            refine k14.mono ?_
            rintro e w14 ⟨rfl, h14⟩
            have H14 := Lib.hid h14
            clear k14 h14
            obtain ⟨y0, y1, f0, f1, _⟩ := H14.out.cells (List.mem_singleton.2 rfl)
            go_wp2
            refine bodyPost_ret (results_agg1 rfl _ _ w.heap.size [.int .i64 (p : Nat), .int .i64 (q : Nat)] (.struct _) rfl (World.rangeAt_setCells_same w14 w.heap.size 0 [.int .i64 (p : Nat), .int .i64 (q : Nat)] (H14.out.there (List.mem_singleton.2 rfl))) Tryz.underlying132 rfl (by kernel_rfl)) rfl ?_
            rw [HE9.out]
            exact H14.out.done (List.mem_singleton.2 rfl)
        · have hb92 : ((c : Int) == 92) = false := by rw [beq_eq_false_iff_ne]; omega
          have HR5 : Hid (runM s (n + 1) .atom d b = _) := Lib.hid (HR4.out.trans (if_neg (by rw [HC.out]; exact h92)))
          clear HR4
          have kx := Tryz.strings_IndexByte ⟨#[42, 43, 63, 124, 40, 41, 91, 93, 92, 46]⟩ (c : Int)
          obtain ⟨ix, hix⟩ : ∃ ix, Lib.indexByte (⟨#[42, 43, 63, 124, 40, 41, 91, 93, 92, 46]⟩ : ByteArray).data.toList ((c : Int).toNat.toUInt8) = ix := ⟨_, rfl⟩
          rw [hix] at kx
          by_cases hod : oddB c = true
          · have hix0 : 0 ≤ ix := by rw [← hix]; exact odd_out c hc256 hod
            have HOD := Lib.hid hod
            clear hix hod
            have kq := KF.out _ _ _ 2 HA.out.bld
            go_wp2_with (go_at_call 122; refine (kx _).mono ?_; rintro e w' ⟨rfl, hw⟩; obtain rfl := hw.symm)
            refine kq.mono ?_
            rintro e wq ⟨rfl, hBq, hsq⟩
            have HQ := Lib.hid (HA.out.call hBq hsq)
            clear kq hBq hsq
            obtain ⟨b9, p, q, h9⟩ : ∃ b9 p q, oneM (failM (stepM b) 2) noS = (b9, (p, q)) := ⟨_, _, _, rfl⟩
            have k15 := HQ.out.one (by first | exact Nat.le_trans hl0 (by decide) | (rw [failM_sts]; exact Nat.le_trans hl0 (by decide)) | (rw [classM_len]; exact Nat.le_trans hl0 (by decide)) | (show (failM (stepM b) 2).sts.length ≤ _; rw [failM_sts]; exact Nat.le_trans hl0 (by decide)))
            rw [h9] at k15
            dsimp only at k15
            have HE9 : Hid (runM s (n + 1) .atom d b = (b9, (p, q))) := Lib.hid ((HR5.out.trans (if_pos (by rw [HC.out]; exact HOD.out))).trans h9)
            clear h9
            go_wp2_with fail
            refine k15.mono ?_
            rintro e w15 ⟨rfl, h15⟩
            have H15 := Lib.hid h15
            clear k15 h15
            obtain ⟨y0, y1, f0, f1, _⟩ := H15.out.cells (List.mem_singleton.2 rfl)
            go_wp2
            refine bodyPost_ret (results_agg1 rfl _ _ w.heap.size [.int .i64 (p : Nat), .int .i64 (q : Nat)] (.struct _) rfl (World.rangeAt_setCells_same w15 w.heap.size 0 [.int .i64 (p : Nat), .int .i64 (q : Nat)] (H15.out.there (List.mem_singleton.2 rfl))) Tryz.underlying132 rfl (by kernel_rfl)) rfl ?_
            rw [HE9.out]
            exact H15.out.done (List.mem_singleton.2 rfl)
          · have hof : oddB c = false := by simpa using hod
            have hix1 : ix = -1 := by rw [← hix]; exact odd_in c hc256 hof
            subst hix1
            have HOF := Lib.hid hof
            clear hix hod hof
            have ka := add_is _ sb noS c c HA.out.set hc256 hc256
            go_wp2_with (go_at_call 122; refine (kx _).mono ?_; rintro e w' ⟨rfl, hw⟩; obtain rfl := hw.symm)
            refine ka.mono ?_
            rintro e wq ⟨rfl, hSq, hkq⟩
            have HQ : Hid (AtAt own w g s _ w.heap.size sb (oneS c) _) := Lib.hid (HA.out.fill hSq hkq)
            clear ka hSq hkq
            obtain ⟨b9, p, q, h9⟩ : ∃ b9 p q, oneM (stepM b) (oneS c) = (b9, (p, q)) := ⟨_, _, _, rfl⟩
            have k16 := HQ.out.one (by first | exact Nat.le_trans hl0 (by decide) | (rw [failM_sts]; exact Nat.le_trans hl0 (by decide)) | (rw [classM_len]; exact Nat.le_trans hl0 (by decide)) | (show (failM (stepM b) 2).sts.length ≤ _; rw [failM_sts]; exact Nat.le_trans hl0 (by decide)))
            rw [h9] at k16
            dsimp only at k16
            have HE9 : Hid (runM s (n + 1) .atom d b = (b9, (p, q))) := Lib.hid ((HR5.out.trans (by rw [HC.out, if_neg (by rw [HOF.out]; decide)])).trans h9)
            clear h9
            go_wp2_with fail
            refine k16.mono ?_
            rintro e w16 ⟨rfl, h16⟩
            have H16 := Lib.hid h16
            clear k16 h16
            obtain ⟨y0, y1, f0, f1, _⟩ := H16.out.cells (List.mem_singleton.2 rfl)
            go_wp2
            refine bodyPost_ret (results_agg1 rfl _ _ w.heap.size [.int .i64 (p : Nat), .int .i64 (q : Nat)] (.struct _) rfl (World.rangeAt_setCells_same w16 w.heap.size 0 [.int .i64 (p : Nat), .int .i64 (q : Nat)] (H16.out.there (List.mem_singleton.2 rfl))) Tryz.underlying132 rfl (by kernel_rfl)) rfl ?_
            rw [HE9.out]
            exact H16.out.done (List.mem_singleton.2 rfl)
end Go.Proofs.YtgbapkechngnmaaGreat
/- pattern's builder: row, either: contracts; the three together. -/
namespace Go.Proofs.YtgbapkechngnmaaGreat
open Go.RowKit
theorem BS.posAt {own0 : Nat → Prop} {W0 w : World} {g : Nat} {s : ByteArray} {b : Bs} {bx : List (Nat × Value × Value)} (h : BS own0 W0 g s b bx w) : posAt w g = b.pos := by
 obtain ⟨own, h⟩ := h
 exact h.bld.posAt
theorem BSo.part {own0 own : Nat → Prop} {W0 w w' : World} {g : Nat} {s : ByteArray} {b : Bs} {bx : List (Nat × Value × Value)} {r : Bs × (Nat × Nat)} {e : Ending} (h : BSo own0 W0 g s b bx own w) (hp : PartPost own w g s r e w') :
  e = .returned (.agg #[.int .i64 (r.2.1 : Nat), .int .i64 (r.2.2 : Nat)]) ∧ BS own0 W0 g s r.1 bx w' := by
 obtain ⟨h1, own', h2, h3⟩ := hp
 exact ⟨h1, h.call h2 h3⟩
def PartsAt (own : Nat → Prop) (W0 : World) (g : Nat) (s : ByteArray) (d N p1 rb pb : Nat) (r : Bs × (Nat × Nat)) (w : World) : Prop :=
 ∃ (m : Nat) (b : Bs) (p2 : Nat), runM s (m + 1) (.parts (p1, p2)) d b = r ∧ m < N ∧ fuelM s b (.parts (p1, p2)) ≤ m + 1 ∧ b.pos ≤ s.size + 12 - d ∧ p1 < b.sts.length ∧ p2 < b.sts.length ∧ capM s b ≤ 10000 + 100 * d + 20 ∧
  BS own W0 g s b [(pb, .int .i64 p1, .int .i64 p2), (rb, .int .i64 0, .int .i64 0)] w
theorem parts_stop {s : ByteArray} {m d : Nat} {p : Nat × Nat} {b : Bs} (h : peekM s b = none ∨ peekM s b = some 124 ∨ peekM s b = some 41) : runM s (m + 1) (.parts p) d b = (b, p) := by
 rw [runM]
 rcases h with h | h | h <;> rw [h] <;> rfl
theorem parts_on {s : ByteArray} {m d c : Nat} {p : Nat × Nat} {b : Bs} (h : peekM s b = some c) (h1 : c ≠ 124) (h2 : c ≠ 41) {ra : Bs × (Nat × Nat)} (hr : runM s m .atom d b = ra) {t : Bs × (Nat × Nat)} (ht : timesM s ra.1 ra.2 = t) :
  runM s (m + 1) (.parts p) d b = runM s m (.parts (p.1, t.2.2)) d (freeM t.1 p.2 t.2.1) := by
 rw [runM, h]
 dsimp only
 rw [if_neg (by omega), hr, ht]
def AltsAt (own : Nat → Prop) (W0 : World) (g : Nat) (s : ByteArray) (d N p1 p2 rb pb : Nat) (r : Bs × (Nat × Nat)) (w : World) : Prop :=
 ∃ (m : Nat) (b : Bs), runM s (m + 1) (.alts (p1, p2)) d b = r ∧ m < N ∧ fuelM s b (.alts (p1, p2)) ≤ m + 1 ∧ b.pos ≤ s.size + 12 - d ∧ p1 < b.sts.length ∧ p2 < b.sts.length ∧ capM s b ≤ 10000 + 100 * d + 5 ∧
  BS own W0 g s b [(pb, .int .i64 p1, .int .i64 p2), (rb, .int .i64 0, .int .i64 0)] w
theorem alts_at {s : ByteArray} {m d : Nat} {p : Nat × Nat} {b : Bs} {rr : Bs × (Nat × Nat)} (hr : runM s m .row d b = rr) {b2 : Bs} (hb : freeM (freeM rr.1 p.1 rr.2.1) rr.2.2 p.2 = b2) :
  runM s (m + 1) (.alts p) d b = if peekM s b2 = some 124 then runM s m (.alts p) d (stepM b2) else (b2, p) := by
 rw [runM, hr, hb]
theorem times_pos (s : ByteArray) (b : Bs) (x : Nat × Nat) (d : Nat) (hd : d ≤ 8) (h : b.pos ≤ s.size + 12 - d) : (timesM s b x).1.pos ≤ s.size + 12 - d := by
 unfold timesM
 split
 ·exact h
 ·rename_i c' hc'
  have := (peekM_some hc').2.1
  split
  ·have e : ∀ b f t, (freeM b f t).pos = b.pos := fun _ _ _ => rfl
   dsimp only
   split <;> split <;> simp only [e, nodeM, stepM] <;> omega
  ·exact h
set_option maxHeartbeats 12800000 in
set_option maxRecDepth 100000 in
theorem row_of (s : ByteArray) (n : Nat) (hs : s.size ≤ 100) (IH : ∀ m, m < n → AtomC s m) : RowC s (n + 1) := by
 intro w g b own d h hd hp hfu hcap
 have hl0 : tot b.sts ≤ 11000 := by unfold capM at hcap; omega
 have hl1 : b.sts.length ≤ 11000 := Nat.le_trans (len_tot _) hl0
 have H0 := Lib.hid ((BS.start h).alloc (.int .i64 0) (.int .i64 0))
 have HIH := Lib.hid IH
 obtain ⟨L, hL⟩ : ∃ L, b.sts.length = L := ⟨_, rfl⟩
 obtain ⟨r, hr⟩ : ∃ r, runM s n (.parts (L, L)) d (nodeM b) = r := ⟨_, rfl⟩
 have HR : Hid (runM s (n + 1) .row d b = r) := Lib.hid (by rw [runM, hL]; exact hr)
 have HST : Hid (∃ m, n = m + 1 ∧ runM s (m + 1) (.parts (L, L)) d (nodeM b) = r ∧ fuelM s (nodeM b) (.parts (L, L)) ≤ m + 1 ∧ L < (nodeM b).sts.length ∧ capM s (nodeM b) ≤ 10000 + 100 * d + 20 ∧ (nodeM b).pos ≤ s.size + 12 - d) := Lib.hid (by
  simp only [fuelM] at hfu
  obtain ⟨m, rfl⟩ : ∃ m, n = m + 1 := ⟨n - 1, by omega⟩
  refine ⟨m, rfl, hr, ?_, by rw [len_node]; omega, ?_, hp⟩
  ·simp only [fuelM, nodeM]; omega
  ·have := tot_node b
   unfold capM at hcap ⊢
   have e : (nodeM b).pos = b.pos := rfl
   rw [e]; omega)
 have HLL := Lib.hid hL
 clear h IH hr hL
 go_enter Tryz.func106, Tryz.ntmps106
 go_upto_region 1 with fail
 refine wp_forget (BS own w g s b [(w.heap.size, .int .i64 0, .int .i64 0)]) H0.out (fun w0 q0 => ?_)
 obtain ⟨ow, q0⟩ := q0
 have k1 := node_bs q0 L HLL.out (by have := HLL.out; omega)
 clear q0 H0
 go_wp2_with fail
 refine k1.mono ?_
 rintro e w1 ⟨rfl, h1⟩
 have H1 := Lib.hid h1
 clear k1 h1
 have HPX := Lib.hid (H1.out.alloc (.int .i64 L) (.int .i64 L))
 obtain ⟨pb, hpb⟩ : ∃ pb, w1.heap.size = pb := ⟨_, rfl⟩
 have hpr : pb ≠ w.heap.size := by have := H1.out.dist _ (List.mem_singleton.2 rfl); dsimp only at this; omega
 go_wp2
 rw [hpb] at HPX
 go_loopw [7] (fun _ wr => PartsAt own w g s d n L w.heap.size pb r wr) (fun _ wr => s.size + 20 - posAt wr g)
 case atStart =>
  obtain ⟨m, e1, e2, e3, e4, e5, e6⟩ := HST.out
  exact ⟨m, nodeM b, L, e2, by omega, e3, e6, e4, e4, e5, HPX.out⟩
 case round =>
  clear HST HPX H1 hpb hl0 hl1 HLL hcap hfu hp
  obtain ⟨m, b1, p2, hr, hmn, hfu, hp, hp1, hp2, hcap, hB⟩ := hrel
  have HE := Lib.hid hr
  have HB := Lib.hid hB
  have HBP := Lib.hid hB.posAt
  obtain ⟨o, ho⟩ : ∃ o, peekM s b1 = o := ⟨_, rfl⟩
  obtain ⟨ow, q⟩ := hB
  have k1 := peek_bs q o ho (by omega)
  have HO := Lib.hid ho
  clear hr ho q
  go_wp2_with fail
  refine k1.mono ?_
  rintro e wa ⟨rfl, hA⟩
  have HA := Lib.hid hA
  clear k1 hA
  rcases o with _ | c
  ·obtain ⟨z0, z1, _, _, _⟩ := HA.out.cells (List.mem_cons_self)
   obtain ⟨y0, y1, f0, f1, _⟩ := HA.out.cells (List.mem_cons_of_mem _ (List.mem_singleton.2 rfl))
   go_wp2
   refine bodyPost_ret (results_agg1 rfl _ _ w.heap.size [.int .i64 (L : Nat), .int .i64 (p2 : Nat)] (.struct _) rfl (World.rangeAt_setCells_same wa w.heap.size 0 [.int .i64 (L : Nat), .int .i64 (p2 : Nat)] (HA.out.there (List.mem_cons_of_mem _ (List.mem_singleton.2 rfl)))) Tryz.underlying132 rfl (by kernel_rfl)) rfl ?_
   rw [HR.out, ← HE.out, parts_stop (.inl HO.out)]
   exact HA.out.done (List.mem_cons_of_mem _ (List.mem_singleton.2 rfl))
  ·by_cases h124 : c = 124
   ·subst h124
    obtain ⟨z0, z1, _, _, _⟩ := HA.out.cells (List.mem_cons_self)
    obtain ⟨y0, y1, f0, f1, _⟩ := HA.out.cells (List.mem_cons_of_mem _ (List.mem_singleton.2 rfl))
    go_wp2
    refine bodyPost_ret (results_agg1 rfl _ _ w.heap.size [.int .i64 (L : Nat), .int .i64 (p2 : Nat)] (.struct _) rfl (World.rangeAt_setCells_same wa w.heap.size 0 [.int .i64 (L : Nat), .int .i64 (p2 : Nat)] (HA.out.there (List.mem_cons_of_mem _ (List.mem_singleton.2 rfl)))) Tryz.underlying132 rfl (by kernel_rfl)) rfl ?_
    rw [HR.out, ← HE.out, parts_stop (.inr (.inl HO.out))]
    exact HA.out.done (List.mem_cons_of_mem _ (List.mem_singleton.2 rfl))
   ·have hb124 : ((c : Int) == 124) = false := by rw [beq_eq_false_iff_ne]; omega
    have H124 := Lib.hid h124
    clear h124
    by_cases h41 : c = 41
    ·subst h41
     obtain ⟨z0, z1, _, _, _⟩ := HA.out.cells (List.mem_cons_self)
     obtain ⟨y0, y1, f0, f1, _⟩ := HA.out.cells (List.mem_cons_of_mem _ (List.mem_singleton.2 rfl))
     go_wp2
     refine bodyPost_ret (results_agg1 rfl _ _ w.heap.size [.int .i64 (L : Nat), .int .i64 (p2 : Nat)] (.struct _) rfl (World.rangeAt_setCells_same wa w.heap.size 0 [.int .i64 (L : Nat), .int .i64 (p2 : Nat)] (HA.out.there (List.mem_cons_of_mem _ (List.mem_singleton.2 rfl)))) Tryz.underlying132 rfl (by kernel_rfl)) rfl ?_
     rw [HR.out, ← HE.out, parts_stop (.inr (.inr HO.out))]
     exact HA.out.done (List.mem_cons_of_mem _ (List.mem_singleton.2 rfl))
    ·have hb41 : ((c : Int) == 41) = false := by rw [beq_eq_false_iff_ne]; omega
     have H41 := Lib.hid h41
     clear h41
     have hps := (peekM_some HO.out).2.1
     have hfa : fuelM s b1 .atom ≤ m := by simp only [fuelM] at hfu ⊢; omega
     have hro := runM_ok s m .atom d b1 hd hp (fun _ => hps) trivial hfa
     obtain ⟨oa, qa⟩ := HA.out
     have k2 := HIH.out m hmn wa g b1 oa d qa.bld hd hps hfa hcap
     have k2' := k2.mono (fun e w' hp' => qa.part hp')
     clear k2 qa
     obtain ⟨ba, a1, a2, hra⟩ : ∃ ba a1 a2, runM s m .atom d b1 = (ba, (a1, a2)) := ⟨_, _, _, rfl⟩
     rw [hra] at k2' hro
     obtain ⟨ho1, ho2, ho3, ho4, ho5⟩ := hro
     obtain ⟨ho6, ho7⟩ := ho5 rfl
     obtain ⟨ho8, ho9, _⟩ := ho1
     dsimp only at k2' ho2 ho3 ho4 ho6 ho7 ho8 ho9
     have hta : tot ba.sts ≤ 12000 := by unfold capM at hcap; omega
     obtain ⟨bt, t1, t2, htm⟩ : ∃ bt t1 t2, timesM s ba (a1, a2) = (bt, (t1, t2)) := ⟨_, _, _, rfl⟩
     have gt := gd_times s ba (a1, a2)
     have pt := times_part s ba (a1, a2) ⟨ho2, ho3⟩
     have hpt : (timesM s ba (a1, a2)).1.pos ≤ s.size + 12 - d := times_pos s ba (a1, a2) d hd ho4
     rw [htm] at gt pt hpt
     obtain ⟨gt1, gt2, gt3⟩ := gt
     dsimp only at gt1 gt2 gt3 pt hpt
     have HNX : Hid (runM s (m + 1) (.parts (L, p2)) d b1 = runM s m (.parts (L, t2)) d (freeM bt p2 t1)) := Lib.hid (parts_on HO.out H124.out H41.out hra htm)
     have HTM := Lib.hid htm
     clear hra htm
     have HG : Hid (b1.pos < bt.pos ∧ bt.pos ≤ s.size + 12 - d ∧ t1 < bt.sts.length ∧ t2 < bt.sts.length ∧ L < bt.sts.length ∧ p2 < bt.sts.length ∧ tot bt.sts + 1 ≤ tot b1.sts + 6 * (bt.pos - b1.pos) ∧ tot bt.sts ≤ 12000) := Lib.hid ⟨by omega, hpt, pt.1, pt.2, by omega, by omega, by omega, by unfold capM at hcap; omega⟩
     clear ho2 ho4 ho6 ho7 ho8 ho9 gt1 gt2 gt3 pt hpt
     go_wp2_with fail
     refine k2'.mono ?_
     rintro e wb ⟨rfl, hb⟩
     obtain ⟨ob, qb⟩ := hb
     have k3 := times_is wb g s ba ob a1 a2 qb.bld ho3 (by have := HG.out; have := gd_times s ba (a1, a2); have h0 := this.pos; rw [HTM.out] at h0; dsimp only at h0; omega) (by omega)
     have k3' := k3.mono (fun e w' hp' => qb.part hp')
     rw [HTM.out] at k3'
     dsimp only at k3'
     clear k3 qb k2' HB HA HTM
     go_wp2_with fail
     refine k3'.mono ?_
     rintro e wc ⟨rfl, hc⟩
     have HC := Lib.hid hc
     clear k3' hc
     go_upto_region 7 with fail
     have HXX := Lib.hid (HC.out.alloc (.int .i64 t1) (.int .i64 t2))
     obtain ⟨xb, hxb⟩ : ∃ xb, wc.heap.size = xb := ⟨_, rfl⟩
     rw [hxb] at HXX ⊢
     refine wp_forget (BS own w g s bt [(xb, .int .i64 t1, .int .i64 t2), (pb, .int .i64 L, .int .i64 p2), (w.heap.size, .int .i64 0, .int .i64 0)]) HXX.out (fun wx qx => ?_)
     have HX := Lib.hid qx
     have hxn : xb ≠ pb := by have := HC.out.dist _ (List.mem_cons_self); dsimp only at this; omega
     clear qx hxb HXX HC
     obtain ⟨x0, x1, _, _, _⟩ := HX.out.cells (List.mem_cons_self)
     obtain ⟨z0, z1, g0, g1, _⟩ := HX.out.cells (List.mem_cons_of_mem _ (List.mem_cons_self))
     obtain ⟨oy, qy⟩ := HX.out
     have k4 := free_bs qy p2 t1 HG.out.2.2.2.2.2.1 (by have := HG.out; omega)
     clear qy
     go_wp2_with fail
     refine k4.mono ?_
     rintro e wy ⟨rfl, hy⟩
     have HY := Lib.hid hy
     clear k4 hy x0 x1 z0 z1 g0 g1 HX
     obtain ⟨x0, x1, _, _, _⟩ := HY.out.cells (List.mem_cons_self)
     obtain ⟨z0, z1, g0, g1, _⟩ := HY.out.cells (List.mem_cons_of_mem _ (List.mem_cons_self))
     have hz : BS own w g s (freeM bt p2 t1) [(pb, .int .i64 L, .int .i64 p2), (w.heap.size, .int .i64 0, .int .i64 0)] wy := HY.out.sub (fun z hz => List.mem_cons_of_mem _ hz)
     have hz2 := hz.put (k := pb) (j := 1) (fun z hz => by rw [List.mem_singleton.1 hz]; exact fun e => hpr e.symm) (.int .i64 t2)
     have HZ : Hid (BS own w g s (freeM bt p2 t1) [(pb, .int .i64 L, .int .i64 t2), (w.heap.size, .int .i64 0, .int .i64 0)] (wy.setCell ⟨pb, 1, none⟩ (.int .i64 t2))) := Lib.hid hz2
     clear hz hz2 HY
     go_wp2
     go_roundw
     case rel =>
      simp only [fuelM] at hfu
      refine ⟨m - 1, freeM bt p2 t1, t2, ?_, by omega, ?_, HG.out.2.1, ?_, ?_, ?_, HZ.out⟩
      ·rw [show m - 1 + 1 = m by omega]; exact HNX.out.symm.trans HE.out
      ·simp only [fuelM]; have := HG.out; have e : (freeM bt p2 t1).pos = bt.pos := rfl; rw [e]; omega
      ·rw [len_free]; exact HG.out.2.2.2.2.1
      ·rw [len_free]; exact HG.out.2.2.2.1
      ·have h1 := tot_free bt p2 t1
       have h2 := HG.out
       unfold capM at hcap ⊢
       have e : (freeM bt p2 t1).pos = bt.pos := rfl
       rw [e]; omega
     case measure =>
      rw [HZ.out.posAt, HBP.out]
      have := HG.out
      have e : (freeM bt p2 t1).pos = bt.pos := rfl
      rw [e]; omega
set_option maxHeartbeats 12800000 in
set_option maxRecDepth 100000 in
theorem either_of (s : ByteArray) (n : Nat) (hs : s.size ≤ 100) (IH : ∀ m, m < n → RowC s m) : EitherC s (n + 1) := by
 intro w g b own d h hd hp hfu hcap
 have hl0 : tot b.sts ≤ 11000 := by unfold capM at hcap; omega
 have hl1 : b.sts.length ≤ 11000 := Nat.le_trans (len_tot _) hl0
 have H0 := Lib.hid ((BS.start h).alloc (.int .i64 0) (.int .i64 0))
 have HIH := Lib.hid IH
 obtain ⟨L, hL⟩ : ∃ L, b.sts.length = L := ⟨_, rfl⟩
 obtain ⟨r, hr⟩ : ∃ r, runM s n (.alts (L, L + 1)) d (nodeM (nodeM b)) = r := ⟨_, rfl⟩
 have HR : Hid (runM s (n + 1) .either d b = r) := Lib.hid (by rw [runM, hL]; exact hr)
 have HST : Hid (∃ m, n = m + 1 ∧ runM s (m + 1) (.alts (L, L + 1)) d (nodeM (nodeM b)) = r ∧ fuelM s (nodeM (nodeM b)) (.alts (L, L + 1)) ≤ m + 1 ∧ L + 1 < (nodeM (nodeM b)).sts.length ∧ capM s (nodeM (nodeM b)) ≤ 10000 + 100 * d + 5 ∧ (nodeM (nodeM b)).pos ≤ s.size + 12 - d) := Lib.hid (by
  simp only [fuelM] at hfu
  obtain ⟨m, rfl⟩ : ∃ m, n = m + 1 := ⟨n - 1, by omega⟩
  refine ⟨m, rfl, hr, ?_, by rw [len_node, len_node]; omega, ?_, hp⟩
  ·simp only [fuelM, nodeM]; omega
  ·have h1 := tot_node b
   have h2 := tot_node (nodeM b)
   unfold capM at hcap ⊢
   have e : (nodeM (nodeM b)).pos = b.pos := rfl
   rw [e]; omega)
 have HLL := Lib.hid hL
 clear h IH hr hL
 go_enter Tryz.func84, Tryz.ntmps84
 go_upto_region 1 with fail
 refine wp_forget (BS own w g s b [(w.heap.size, .int .i64 0, .int .i64 0)]) H0.out (fun w0 q0 => ?_)
 obtain ⟨ow, q0⟩ := q0
 have k1 := node_bs q0 L HLL.out (by have := HLL.out; omega)
 clear q0 H0
 go_wp2_with fail
 refine k1.mono ?_
 rintro e w1 ⟨rfl, h1⟩
 obtain ⟨ox, q1⟩ := h1
 have k2 := node_bs q1 (L + 1) (by rw [len_node, HLL.out]) (by have := HLL.out; omega)
 clear q1 k1
 go_wp2_with fail
 refine k2.mono ?_
 rintro e w2 ⟨rfl, h2⟩
 have H1 := Lib.hid h2
 clear k2 h2
 have HPX := Lib.hid (H1.out.alloc (.int .i64 L) (.int .i64 ((L + 1 : Nat) : Int)))
 obtain ⟨pb, hpb⟩ : ∃ pb, w2.heap.size = pb := ⟨_, rfl⟩
 go_wp2
 rw [hpb] at HPX
 go_loopw [6] (fun _ wr => AltsAt own w g s d n L (L + 1) w.heap.size pb r wr) (fun _ wr => s.size + 20 - posAt wr g)
 case atStart =>
  obtain ⟨m, e1, e2, e3, e4, e5, e6⟩ := HST.out
  exact ⟨m, nodeM (nodeM b), e2, by omega, e3, e6, by omega, e4, e5, HPX.out⟩
 case round =>
  clear HST HPX H1 hpb hl0 hl1 HLL hcap hfu hp
  obtain ⟨m, b1, hr, hmn, hfu, hp, hp1, hp2, hcap, hB⟩ := hrel
  have HE := Lib.hid hr
  have HBP := Lib.hid hB.posAt
  have hfr : fuelM s b1 .row ≤ m := by simp only [fuelM] at hfu ⊢; omega
  have hro := runM_ok s m .row d b1 hd hp (fun h => by cases h) trivial hfr
  obtain ⟨oa, qa⟩ := hB
  have k2 := HIH.out m hmn wr g b1 oa d qa.bld hd hp hfr (by omega)
  have k2' := k2.mono (fun e w' hp' => qa.part hp')
  clear k2 qa hr
  obtain ⟨br, x1, x2, hrr⟩ : ∃ br x1 x2, runM s m .row d b1 = (br, (x1, x2)) := ⟨_, _, _, rfl⟩
  rw [hrr] at k2' hro
  obtain ⟨⟨ho1, ho2, ho3⟩, ho4, ho5, ho6, _⟩ := hro
  simp only [costM] at ho3
  dsimp only at k2' ho1 ho2 ho3 ho4 ho5 ho6
  have HNX : Hid (runM s (m + 1) (.alts (L, L + 1)) d b1 = if peekM s (freeM (freeM br L x1) x2 (L + 1)) = some 124 then runM s m (.alts (L, L + 1)) d (stepM (freeM (freeM br L x1) x2 (L + 1))) else (freeM (freeM br L x1) x2 (L + 1), (L, L + 1))) := Lib.hid (alts_at hrr rfl)
  clear hrr
  go_wp2_with fail
  refine k2'.mono ?_
  rintro e wc ⟨rfl, hc⟩
  have HC := Lib.hid hc
  clear k2' hc
  go_upto_region 3 with fail
  have HXX := Lib.hid (HC.out.alloc (.int .i64 x1) (.int .i64 x2))
  obtain ⟨xb, hxb⟩ : ∃ xb, wc.heap.size = xb := ⟨_, rfl⟩
  rw [hxb] at HXX ⊢
  refine wp_forget (BS own w g s br [(xb, .int .i64 x1, .int .i64 x2), (pb, .int .i64 L, .int .i64 ((L + 1 : Nat) : Int)), (w.heap.size, .int .i64 0, .int .i64 0)]) HXX.out (fun wx qx => ?_)
  have HX := Lib.hid qx
  clear qx hxb HXX HC
  obtain ⟨a0, a1, _, _, _⟩ := HX.out.cells (List.mem_cons_self)
  obtain ⟨z0, z1, _, _, _⟩ := HX.out.cells (List.mem_cons_of_mem _ (List.mem_cons_self))
  have htb : tot br.sts ≤ 12000 := by unfold capM at hcap; omega
  have hF1 : tot (freeM br L x1).sts ≤ tot br.sts + 1 := tot_free br L x1
  have hF2 : tot (freeM (freeM br L x1) x2 (L + 1)).sts ≤ tot (freeM br L x1).sts + 1 := tot_free _ _ _
  obtain ⟨oy, qy⟩ := HX.out
  have k4 := free_bs qy L x1 (by omega) (by omega)
  clear qy
  go_wp2_with fail
  refine k4.mono ?_
  rintro e wy ⟨rfl, hy⟩
  have HY := Lib.hid hy
  clear k4 hy a0 a1 z0 z1 HX
  obtain ⟨a0, a1, _, _, _⟩ := HY.out.cells (List.mem_cons_self)
  obtain ⟨z0, z1, _, _, _⟩ := HY.out.cells (List.mem_cons_of_mem _ (List.mem_cons_self))
  obtain ⟨oz, qz⟩ := HY.out
  have k5 := free_bs qz x2 (L + 1) (by rw [len_free]; omega) (by omega)
  clear qz
  go_wp2_with fail
  refine k5.mono ?_
  rintro e wz ⟨rfl, hz⟩
  have HZ : Hid (BS own w g s (freeM (freeM br L x1) x2 (L + 1)) [(pb, .int .i64 L, .int .i64 ((L + 1 : Nat) : Int)), (w.heap.size, .int .i64 0, .int .i64 0)] wz) := Lib.hid (hz.sub (fun z hz => List.mem_cons_of_mem _ hz))
  clear k5 hz a0 a1 z0 z1 HY
  have HG : Hid (b1.pos ≤ br.pos ∧ br.pos ≤ s.size + 12 - d ∧ L < (freeM (freeM br L x1) x2 (L + 1)).sts.length ∧ L + 1 < (freeM (freeM br L x1) x2 (L + 1)).sts.length ∧ tot (freeM (freeM br L x1) x2 (L + 1)).sts ≤ tot b1.sts + 3 + 6 * (br.pos - b1.pos)) := Lib.hid ⟨ho1, ho6, by rw [len_free, len_free]; omega, by rw [len_free, len_free]; omega, by omega⟩
  have hbp : (freeM (freeM br L x1) x2 (L + 1)).pos = br.pos := rfl
  generalize freeM (freeM br L x1) x2 (L + 1) = b2 at *
  obtain ⟨o, ho⟩ : ∃ o, peekM s b2 = o := ⟨_, rfl⟩
  obtain ⟨oq, qq⟩ := HZ.out
  have k6 := peek_bs qq o ho (by omega)
  have HO := Lib.hid ho
  have HBB := Lib.hid hbp
  clear ho qq
  go_wp2_with fail
  refine k6.mono ?_
  rintro e wa ⟨rfl, hA⟩
  have HA := Lib.hid hA
  clear k6 hA HZ
  by_cases h124 : o = some 124
  ·subst h124
   have hp6 : b2.pos ≤ 1000 := by omega
   have HPS := Lib.hid (peekM_some HO.out).2.1
   have HNX2 : Hid (runM s (m + 1) (.alts (L, L + 1)) d b1 = runM s m (.alts (L, L + 1)) d (stepM b2)) := Lib.hid (HNX.out.trans (if_pos HO.out))
   obtain ⟨_, c1, _, f1⟩ := HA.out.fields
   have HS := Lib.hid HA.out.step
   clear hbp HNX
   go_wp2
   go_roundw
   case rel =>
    simp only [fuelM] at hfu
    have h2 := HG.out
    have h3 := HPS.out
    have h4 := HBB.out
    refine ⟨m - 1, stepM b2, ?_, by omega, ?_, ?_, h2.2.2.1, h2.2.2.2.1, ?_, HS.out⟩
    ·rw [show m - 1 + 1 = m by omega]; exact HNX2.out.symm.trans HE.out
    ·simp only [fuelM, stepM]; omega
    ·simp only [stepM]; omega
    ·unfold capM at hcap ⊢
     simp only [stepM]; omega
   case measure =>
    rw [HS.out.posAt, HBP.out]
    have h2 := HG.out
    have h3 := HPS.out
    have h4 := HBB.out
    simp only [stepM]; omega
  ·have HNX2 : Hid (runM s (m + 1) (.alts (L, L + 1)) d b1 = (b2, (L, L + 1))) := Lib.hid (HNX.out.trans (if_neg (by rw [HO.out]; exact h124)))
   rcases o with _ | c
   ·obtain ⟨z0, z1, _, _, _⟩ := HA.out.cells (List.mem_cons_self)
    obtain ⟨y0, y1, f0, f1, _⟩ := HA.out.cells (List.mem_cons_of_mem _ (List.mem_singleton.2 rfl))
    go_wp2
    refine bodyPost_ret (results_agg1 rfl _ _ w.heap.size [.int .i64 (L : Nat), .int .i64 ((L + 1) : Nat)] (.struct _) rfl (World.rangeAt_setCells_same wa w.heap.size 0 [.int .i64 (L : Nat), .int .i64 ((L + 1) : Nat)] (HA.out.there (List.mem_cons_of_mem _ (List.mem_singleton.2 rfl)))) Tryz.underlying132 rfl (by kernel_rfl)) rfl ?_
    rw [HR.out, ← HE.out, HNX2.out]
    exact HA.out.done (List.mem_cons_of_mem _ (List.mem_singleton.2 rfl))
   ·have hc1 : ((c : Int) != 124) = true := by simp at h124 ⊢; omega
    clear h124
    obtain ⟨z0, z1, _, _, _⟩ := HA.out.cells (List.mem_cons_self)
    obtain ⟨y0, y1, f0, f1, _⟩ := HA.out.cells (List.mem_cons_of_mem _ (List.mem_singleton.2 rfl))
    go_wp2
    refine bodyPost_ret (results_agg1 rfl _ _ w.heap.size [.int .i64 (L : Nat), .int .i64 ((L + 1) : Nat)] (.struct _) rfl (World.rangeAt_setCells_same wa w.heap.size 0 [.int .i64 (L : Nat), .int .i64 ((L + 1) : Nat)] (HA.out.there (List.mem_cons_of_mem _ (List.mem_singleton.2 rfl)))) Tryz.underlying132 rfl (by kernel_rfl)) rfl ?_
    rw [HR.out, ← HE.out, HNX2.out]
    exact HA.out.done (List.mem_cons_of_mem _ (List.mem_singleton.2 rfl))
theorem all_of (s : ByteArray) (hs : s.size ≤ 100) (n : Nat) : EitherC s n ∧ RowC s n ∧ AtomC s n := by
 induction n using Nat.strongRecOn with
 | ind n ih =>
  rcases n with _ | n
  ·refine ⟨?_, ?_, ?_⟩
   ·intro w g b own d _ _ _ hf; simp [fuelM] at hf
   ·intro w g b own d _ _ _ hf; simp [fuelM] at hf
   ·intro w g b own d _ _ _ hf; simp [fuelM] at hf
  ·exact ⟨either_of s n hs (fun m hm => (ih m (by omega)).2.1), row_of s n hs (fun m hm => (ih m (by omega)).2.2), atom_of s n hs (ih n (Nat.lt_succ_self n)).1⟩
end Go.Proofs.YtgbapkechngnmaaGreat
