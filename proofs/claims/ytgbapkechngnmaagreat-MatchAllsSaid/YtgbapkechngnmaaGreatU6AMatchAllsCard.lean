/- MatchAlls: the card: whatever the arguments, the law returns true and its arguments read as they did. No condition. -/
import Derived.Test.YtgbapkechngnmaaGreatU6AP2
import Derived.Test.YtgbapkechngnmaaGreatRd
import Derived.Laws.BitsLemmas
import Derived.Test.YtgbapkechngnmaaGreatRows
import Derived.Test.YtgbapkechngnmaaGreatBox
import Derived.WalkKit
import Derived.WalkSpells
import Derived.Lib.Hide
import Derived.Deep.DeepCutAuto
import Derived.ProofKit
import Derived.OpenShut
import Derived.Deep.Slices
import Derived.Deep.Fields
import Derived.ChangeSame
import Derived.Laws.IdiomArrays
import Derived.Maps.AppendAt
import Derived.Test.YtgbapkechngnmaaGreatShelf
import Derived.Deep.LoopGhost
import Derived.Laws.AppendOwn
import Derived.Lib.SliceRun
import Derived.Test.YtgbapkechngnmaaGreatName
import Derived.Test.YtgbapkechngnmaaGreatFrame12

/- lychgatelaw06.few: a contract. -/
namespace Go.Proofs.YtgbapkechngnmaaGreat
open Go.RowKit

def cutM (m : Mt) : Mt := ⟨m.nm, m.op, m.val.extract 0 (min (m.val.size : Int) 210).toNat⟩
def fewM (l : List Mt) : List Mt := (l.take 15).map cutM
theorem fewM_len (l : List Mt) : (fewM l).length = min 15 l.length := by unfold fewM; simp
theorem fewM_step {l : List Mt} {k : Nat} (hk : k < 15) (hl : k < l.length) : (fewM l).take (k + 1) = (fewM l).take k ++ [cutM l[k]] := by
 have h : k < (fewM l).length := by rw [fewM_len]; omega
 rw [List.take_succ_eq_append_getElem h]
 congr 2
 unfold fewM
 simp
theorem cutM_size (m : Mt) : (cutM m).val.size ≤ 210 := by unfold cutM; rw [ByteArray.size_extract]; omega
theorem fewM_fit {l : List Mt} (h : MtsFit l) : MtsFit (fewM l) := by
 intro m hm
 unfold fewM at hm
 obtain ⟨x, hx, rfl⟩ := List.mem_map.1 hm
 have := h x (List.mem_of_mem_take hx)
 exact ⟨this.1, by have := cutM_size x; unfold maxLen; omega⟩
theorem fewM_small {l : List Mt} : ∀ m ∈ fewM l, m.val.size ≤ 210 := by
 intro m hm
 unfold fewM at hm
 obtain ⟨x, hx, rfl⟩ := List.mem_map.1 hm
 exact cutM_size x
theorem fewM_le (l : List Mt) : (fewM l).length ≤ 15 := by rw [fewM_len]; omega
set_option maxHeartbeats 1600000 in
set_option maxRecDepth 100000 in
theorem few6_any (l : List Mt) (v : Value) (w : World) (hm : MtsAt w v l) (hl : l.length ≤ maxLen) :
  Calls Tryz.prog 13 #[v] w fun e w' => ∃ v', e = .returned v' ∧ w'.ownsRow w.heap.size 29 3 v' (fewM l).length (mtCells (fewM l)) ∧ Below w.heap.size w w' := by
 obtain ⟨i0, hi0, hz0, hz1, hz2⟩ := info_parts info_mt
 obtain ⟨la, lc, rfl, hc, hr⟩ := RdAt.shape hm
 have HR := Lib.hid hr
 unfold maxLen at hl
 clear hr hm
 go_enter Tryz.func13, Tryz.ntmps13
 go_wp2
 go_loopw [4, 3] (fun vi vo wr => ∃ (k : Nat) (ov : Value), vi = .int .i64 k ∧ ov = vo ∧ k ≤ l.length ∧ k ≤ 15 ∧ Hid (wr.ownsRow w.heap.size 29 3 ov k (mtCells ((fewM l).take k))) ∧ Hid (Below w.heap.size w wr)) (fun v _ _ => 16 - (intOf v).toNat)
 case atStart => exact ⟨0, _, rfl, rfl, Nat.zero_le _, Nat.zero_le _, Lib.hid (World.ownsRow_nil _ _ _ _), Lib.hid (Below.refl _ _)⟩
 case round =>
  obtain ⟨k, ov, rfl, rfl, hk, hk15, HOW, HB⟩ := hrel
  by_cases hkl : k < l.length
  ·have hkl' : (k : Int) < (l.length : Int) := by omega
   by_cases h15 : k < 15
   ·have h15' : (k : Int) < 15 := by omega
    obtain ⟨g, o, rfl, hg, hcell⟩ := HR.out (by omega)
    obtain ⟨x, hx⟩ : ∃ x, l[k] = x := ⟨_, rfl⟩
    obtain ⟨q0, q1, q2⟩ := mtCells_at l k hkl
    rw [hx] at q0 q1 q2
    have p0 := keep_cell (hcell _ _ q0) HB.out hg
    have p1 := keep_cell (hcell _ _ q1) HB.out hg
    have p2 := keep_cell (hcell _ _ q2) HB.out hg
    rw [← Nat.add_assoc] at p1 p2
    have HST := Lib.hid (fewM_step h15 hkl)
    rw [hx] at HST
    have hk0 : (0 : Int) ≤ (k : Int) := by omega
    clear hx q0 q1 q2 hcell
    obtain ⟨nm, op, val⟩ := x
    dsimp only at *
    have hmin0 : (0 : Int) ≤ min (val.size : Int) 210 := by omega
    have hmin1 : min (val.size : Int) 210 ≤ (val.size : Int) := by omega
    go_upto_region 7 with fail
    change Code.wp _ _ _ _ (wr.alloc (.cells #[.string nm, .int .i64 op, .string (val.extract 0 (min (val.size : Int) 210).toNat)] 29))
    generalize hvx : val.extract 0 (min (val.size : Int) 210).toNat = vx at *
    have HST2 : Hid ((fewM l).take (k + 1) = (fewM l).take k ++ [⟨nm, op, vx⟩]) := Lib.hid (by rw [HST.out, ← hvx]; rfl)
    have hba := alloc_below wr (.cells #[.string nm, .int .i64 op, .string vx] 29)
    have m0 : (wr.alloc (.cells #[.string nm, .int .i64 op, .string vx] 29)).cell? ⟨wr.heap.size, 0, none⟩ = some (.string nm) := World.cell?_alloc_at _ _ _ _ rfl
    have m1 : (wr.alloc (.cells #[.string nm, .int .i64 op, .string vx] 29)).cell? ⟨wr.heap.size, 1, none⟩ = some (.int .i64 op) := World.cell?_alloc_at _ _ _ _ rfl
    have m2 : (wr.alloc (.cells #[.string nm, .int .i64 op, .string vx] 29)).cell? ⟨wr.heap.size, 2, none⟩ = some (.string vx) := World.cell?_alloc_at _ _ _ _ rfl
    clear p0 p1 p2 hvx HST hmin0 hmin1
    have HBA := Lib.hid (HB.out.trans (hba.mono HB.out.size))
    have HOA := Lib.hid (own_later HOW.out hba)
    generalize wr.alloc (.cells #[.string nm, .int .i64 op, .string vx] 29) = wa at *
    have hown := own_later HOA.out (alloc_below wa (.cells #[.string nm, .int .i64 op, .string vx] 29))
    have hrow := row_mt wa ⟨nm, op, vx⟩
    have HBX := Lib.hid (HBA.out.trans ((alloc_below wa (.cells #[.string nm, .int .i64 op, .string vx] 29)).mono HBA.out.size))
    have hbase := HBX.out.size
    clear hba HOW HB
    go_wp2_with (at_builtin; (refine wpList_append_rd rfl (.tmp 28) (.tmp 30) 23 rfl w.heap.size 29 i0 (.agg #[.string ⟨#[]⟩, .int .i64 0, .string ⟨#[]⟩]) 3 40 Tryz.underlying23 hi0 hz0 hz1 hz2 rfl (by decide) ov k (mtCells ((fewM l).take k)) rfl hown _ 1 _ rfl hrow (mt1_cells ⟨nm, op, vx⟩) (by unfold maxLen; omega) (by omega) hbase ?_); intro v' w6 hown6 hgrow6; have HO6 := Lib.hid hown6; have HB6 := Lib.hid (HBX.out.grown hgrow6 hbase (fun q hq => (hown.lt q hq).1)); clear hown6 hgrow6)
    go_roundw
    case rel => exact ⟨k + 1, v', by go_num, rfl, by omega, by omega, Lib.hid (by rw [HST2.out, mtCells_append]; exact HO6.out), HB6⟩
    case measure => (simp [intOf]; try omega)
   ·have h15' : ¬ (k : Int) < 15 := by omega
    have h15'' : decide ((k : Int) < 15) = false := decide_eq_false h15'
    have HF : Hid (k = (fewM l).length) := Lib.hid (by rw [fewM_len]; omega)
    go_wp2
    go_ret
    refine ⟨_, rfl, ?_, HB.out⟩
    have := HOW.out
    rw [HF.out, List.take_length] at this
    exact this
  ·have hkl' : ¬ (k : Int) < (l.length : Int) := by omega
   have hkl'' : decide ((k : Int) < (l.length : Int)) = false := decide_eq_false hkl'
   have HF : Hid (k = (fewM l).length) := Lib.hid (by rw [fewM_len]; omega)
   go_wp2
   go_ret
   refine ⟨_, rfl, ?_, HB.out⟩
   have := HOW.out
   rw [HF.out, List.take_length] at this
   exact this
end Go.Proofs.YtgbapkechngnmaaGreat
/- Several parts in one: Labels, said plainly: a level and 32 teams as the bits of a number. No program in sight. label.Right and label.Flows: contracts. -/
namespace Go.Proofs.YtgbapkechngnmaaGreat
open Go.RowKit

/-- a label may be -/
def rightL (l : Int) : Bool := decide (0 ≤ l ∧ l ≤ 7)
/-- the teams of a number -/
def teamsN (c n : Nat) : List Nat := (List.range n).filter fun k => c.testBit k
def subB (c d : Nat) : Bool := (List.range 32).all fun k => !c.testBit k || d.testBit k
def flowsL (l : Int) (c : Nat) (m : Int) (d : Nat) : Bool := rightL l && rightL m && decide (l ≤ m) && subB c d
/-- bits laid together -/
def sumN (l : List Nat) : Nat := l.foldl (fun a k => a + 2 ^ k) 0
theorem sumN_snoc (l : List Nat) (k : Nat) : sumN (l ++ [k]) = sumN l + 2 ^ k := by simp [sumN, List.foldl_append]
theorem sum_bits (p : Nat → Bool) (n : Nat) : sumN ((List.range n).filter p) < 2 ^ n ∧ ∀ j, (sumN ((List.range n).filter p)).testBit j = (decide (j < n) && p j) := by
 induction n with
 | zero => simp [sumN]
 | succ n ih =>
  obtain ⟨h1, h2⟩ := ih
  rw [List.range_succ, List.filter_append]
  cases hp : p n with
  | false =>
   have e : List.filter p [n] = [] := by simp [hp]
   rw [e, List.append_nil]
   refine ⟨Nat.lt_trans h1 (Nat.pow_lt_pow_right (by decide) (Nat.lt_succ_self n)), fun j => ?_⟩
   rw [h2]
   by_cases hj : j = n
   ·subst hj; simp [hp]
   ·by_cases h : j < n
    ·simp [h, show j < n + 1 by omega]
    ·simp [h, show ¬ j < n + 1 by omega]
  | true =>
   have e : List.filter p [n] = [n] := by simp [hp]
   rw [e, sumN_snoc]
   have hlt : sumN ((List.range n).filter p) + 2 ^ n < 2 ^ (n + 1) := by rw [Nat.pow_succ]; omega
   refine ⟨hlt, fun j => ?_⟩
   rcases Nat.lt_trichotomy j n with h | h | h
   ·rw [Nat.add_comm, Nat.testBit_two_pow_add_gt h, h2]
    simp [h, show j < n + 1 by omega]
   ·subst h
    rw [Nat.add_comm, Nat.testBit_two_pow_add_eq, h2]
    simp [hp]
   ·rw [Nat.testBit_lt_two_pow (Nat.lt_of_lt_of_le hlt (Nat.pow_le_pow_right (by decide) h))]
    simp [show ¬ j < n + 1 by omega]
/-- two numbers of 32 bits with the same bits -/
theorem bits_eq {a b : Nat} (ha : a < 2 ^ 32) (hb : b < 2 ^ 32) (h : ∀ k, k < 32 → a.testBit k = b.testBit k) : a = b := by
 apply Nat.eq_of_testBit_eq
 intro k
 by_cases hk : k < 32
 ·exact h k hk
 ·rw [Nat.testBit_lt_two_pow (Nat.lt_of_lt_of_le ha (Nat.pow_le_pow_right (by decide) (by omega))), Nat.testBit_lt_two_pow (Nat.lt_of_lt_of_le hb (Nat.pow_le_pow_right (by decide) (by omega)))]
theorem teams_back {c : Nat} (hc : c < 2 ^ 32) : sumN (teamsN c 32) = c := by
 obtain ⟨h1, h2⟩ := sum_bits (fun k => c.testBit k) 32
 exact bits_eq h1 hc (fun k hk => by rw [teamsN, h2]; simp [hk])
theorem teams_or {c d : Nat} (hc : c < 2 ^ 32) (hd : d < 2 ^ 32) : sumN ((List.range 32).filter fun k => c.testBit k || d.testBit k) = c ||| d := by
 obtain ⟨h1, h2⟩ := sum_bits (fun k => c.testBit k || d.testBit k) 32
 exact bits_eq h1 (Nat.or_lt_two_pow hc hd) (fun k hk => by rw [h2, Nat.testBit_or]; simp [hk])
theorem teams_and {c d : Nat} (hc : c < 2 ^ 32) : sumN ((List.range 32).filter fun k => c.testBit k && d.testBit k) = c &&& d := by
 obtain ⟨h1, h2⟩ := sum_bits (fun k => c.testBit k && d.testBit k) 32
 exact bits_eq h1 (Nat.lt_of_le_of_lt Nat.and_le_left hc) (fun k hk => by rw [h2, Nat.testBit_and]; simp [hk])
theorem teams_step (c k : Nat) : teamsN c (k + 1) = teamsN c k ++ (if c / 2 ^ k % 2 = 1 then [k] else []) := by
 unfold teamsN
 rw [List.range_succ, List.filter_append]
 congr 1
 have e : c.testBit k = decide (c / 2 ^ k % 2 = 1) := Nat.testBit_eq_decide_div_mod_eq
 by_cases h : c / 2 ^ k % 2 = 1
 ·simp [e, h]
 ·simp [e, h]
theorem mem_teams {c n k : Nat} : k ∈ teamsN c n ↔ k < n ∧ c.testBit k = true := by simp [teamsN]
theorem sub_iff {c d : Nat} : subB c d = true ↔ ∀ k ∈ teamsN c 32, k ∈ teamsN d 32 := by
 unfold subB
 rw [List.all_eq_true]
 constructor
 ·intro h k hk
  obtain ⟨h1, h2⟩ := mem_teams.1 hk
  have := h k (List.mem_range.2 h1)
  rw [h2] at this
  exact mem_teams.2 ⟨h1, by simpa using this⟩
 ·intro h k hk
  have hk' := List.mem_range.1 hk
  cases hc : c.testBit k with
  | false => simp
  | true =>
   have := (mem_teams.1 (h k (mem_teams.2 ⟨hk', hc⟩))).2
   simp [this]
/-- c &^ d: nothing is left just where c's bits are d's -/
theorem andNot_zero {c d : Nat} : (BitVec.ofNat 32 c &&& ~~~ BitVec.ofNat 32 d).toNat = 0 ↔ subB c d = true := by
 unfold subB
 rw [List.all_eq_true]
 have hz : (BitVec.ofNat 32 c &&& ~~~ BitVec.ofNat 32 d).toNat = 0 ↔ (BitVec.ofNat 32 c &&& ~~~ BitVec.ofNat 32 d) = 0#32 := by
  constructor
  ·intro h; exact BitVec.eq_of_toNat_eq (by simpa using h)
  ·intro h; rw [h]; rfl
 rw [hz]
 have hg : ∀ (x k : Nat) (_ : k < 32), (BitVec.ofNat 32 x).getLsbD k = x.testBit k := fun x k hk => by rw [BitVec.getLsbD_ofNat]; simp [hk]
 constructor
 ·intro h k hk
  have hk' := List.mem_range.1 hk
  have h1 := congrArg (fun x => x.getLsbD k) h
  simp only [BitVec.getLsbD_and, BitVec.getLsbD_not, hg _ _ hk', hk', decide_true, Bool.true_and] at h1
  revert h1
  cases c.testBit k <;> cases d.testBit k <;> simp
 ·intro h
  apply BitVec.eq_of_getLsbD_eq
  intro k hk
  have h1 := h k (List.mem_range.2 hk)
  simp only [BitVec.getLsbD_and, BitVec.getLsbD_not, hg _ _ hk, hk, decide_true, Bool.true_and]
  revert h1
  cases c.testBit k <;> cases d.testBit k <;> simp
end Go.Proofs.YtgbapkechngnmaaGreat
namespace Go.Proofs.YtgbapkechngnmaaGreat
open Go.RowKit

/-- a label as a value -/
abbrev Lab (l : Int) (c : Nat) : Value := .agg #[.int .i64 l, .int .u32 c]
theorem bits_andNot_zero (c d : Nat) : (bits BinOp.andNot IntKind.u32 (c : Int) (d : Int) == 0) = subB c d := by
 have h0 := andNot_zero (c := c) (d := d)
 have e : bits BinOp.andNot IntKind.u32 (c : Int) (d : Int) = (((BitVec.ofNat 32 c &&& ~~~ BitVec.ofNat 32 d).toNat : Nat) : Int) := by
  show IntKind.u32.wrap ((BitVec.ofInt 32 (c : Int) &&& ~~~BitVec.ofInt 32 (d : Int)).toNat : Int) = _
  rw [BitVec.ofInt_natCast, BitVec.ofInt_natCast, IntKind.wrap_u32']
  have := (BitVec.ofNat 32 c &&& ~~~ BitVec.ofNat 32 d).isLt
  omega
 rw [e, Bool.eq_iff_iff, ← h0, beq_iff_eq]
 omega
end Go.Proofs.YtgbapkechngnmaaGreat
/- alert.Right and alert.Fires: contracts. -/
namespace Go.Proofs.YtgbapkechngnmaaGreat
open Go.RowKit

/-- an alert, said plainly -/
structure Al where
 src : ByteArray
 fl : List Fld
 lv : Int
 c : Nat
 fr : Int
 til : Int
/-- when an alert begins -/
def beginsA (f : Int) : Bool := decide (0 ≤ f) && decide (f ≤ 1099511627776)
/-- and when it ends -/
def endsA (f t : Int) : Bool := decide (t = 0) || (decide (f < t) && decide (t ≤ 1099511627776))
def whoA (src : ByteArray) (fl : List Fld) (lv : Int) : Bool := nameL (B src) && decide (0 < fl.length) && rightF fl && rightL lv
/-- an alert may be -/
def rightA (x : Al) : Bool := whoA x.src x.fl x.lv && beginsA x.fr && endsA x.fr x.til
/-- an alert fires -/
def firesA (x : Al) (now : Int) : Bool := decide (x.fr ≤ now) && (decide (x.til = 0) || decide (now < x.til))
/-- an alert as a value, its fields at v -/
abbrev AlV (x : Al) (v : Value) : Value := .agg #[.string x.src, v, .int .i64 x.lv, .int .u32 x.c, .int .i64 x.fr, .int .i64 x.til]

end Go.Proofs.YtgbapkechngnmaaGreat
/- Alerts in memory. -/
namespace Go.Proofs.YtgbapkechngnmaaGreat
open Go.RowKit

theorem fldCells_take (l : List Fld) (i : Nat) : fldCells (l.take i) = (fldCells l).take (i * 2) := by
 induction l generalizing i with
 | nil => simp [fldCells]
 | cons f l ih =>
  cases i with
  | zero => simp [fldCells]
  | succ i => rw [List.take_succ_cons, fldCells, ih, fldCells, show (i + 1) * 2 = i * 2 + 1 + 1 by omega]; rfl
theorem fld_take {w : World} {a : Option Addr} {c : Nat} {fl : List Fld} (h : FldsAt w (.slice a fl.length c) fl) (k : Nat) (hk : k ≤ fl.length) (hn : a = none → fl.length = 0) : FldsAt w (.slice a k c) (fl.take k) := by
 have hl : (fl.take k).length = k := by rw [List.length_take]; omega
 unfold FldsAt at h ⊢
 rw [hl, fldCells_take]
 refine ⟨by rw [List.length_take, fldCells_len]; omega, ?_⟩
 rcases h.2 with ⟨h1, h0⟩ | ⟨ad, c', h1, hc, hr⟩
 ·simp only [Value.slice.injEq] at h1
  obtain ⟨rfl, h2, rfl⟩ := h1
  exact .inl ⟨by rw [show k = 0 by omega], by omega⟩
 ·simp only [Value.slice.injEq] at h1
  obtain ⟨rfl, _, rfl⟩ := h1
  refine .inr ⟨ad, c, rfl, by omega, fun h0 => ?_⟩
  obtain ⟨b, o, rfl, hlt, hcell⟩ := hr (by omega)
  refine ⟨b, o, rfl, hlt, fun j x hj => hcell j x ?_⟩
  have hjl := (List.getElem?_eq_some_iff.1 hj).1
  rw [List.length_take] at hjl
  rwa [List.getElem?_take_of_lt (by omega)] at hj
/-- alerts in memory -/
def alC (x : Al) (v : Value) : List Value := [.string x.src, v, .int .i64 x.lv, .int .u32 x.c, .int .i64 x.fr, .int .i64 x.til]
def alCells : List (Al × Value) → List Value
 | [] => []
 | p :: l => alC p.1 p.2 ++ alCells l
theorem alCells_len (l : List (Al × Value)) : (alCells l).length = l.length * 6 := by
 induction l with
 | nil => rfl
 | cons x l ih => simp only [alCells, List.length_append, ih, List.length_cons]; simp [alC]; omega
theorem alCells_at : ∀ (l : List (Al × Value)) (j : Nat) (h : j < l.length) (i : Nat) (v : Value), (alC l[j].1 l[j].2)[i]? = some v → (alCells l)[j * 6 + i]? = some v
 | x :: l, 0, _, i, v, hi => by
  have hlt := (List.getElem?_eq_some_iff.1 hi).1
  simp only [alCells]
  rw [List.getElem?_append_left (by simpa using hlt)]
  simpa using hi
 | x :: l, j + 1, h, i, v, hi => by
  simp only [alCells]
  rw [List.getElem?_append_right (by simp [alC]; omega)]
  have := alCells_at l j (by simpa using h) i v (by simpa using hi)
  rw [show (j + 1) * 6 + i - (alC x.1 x.2).length = j * 6 + i by simp [alC]; omega]
  exact this
/-- an alert fits its memory -/
structure AlFit (x : Al) : Prop where
 src : x.src.size ≤ maxLen
 fl : FldsFit x.fl
 len : x.fl.length ≤ maxLen
 c : x.c < 4294967296
structure AlsAt (w : World) (v : Value) (l : List (Al × Value)) : Prop where
 row : RdAt w v l.length 6 (alCells l)
 fld : ∀ p ∈ l, FldsAt w p.2 p.1.fl ∧ AlFit p.1
theorem AlsAt.later {w w' : World} {v : Value} {l : List (Al × Value)} (h : AlsAt w v l) (hb : Below w.heap.size w w') : AlsAt w' v l := ⟨h.row.later hb, fun p hp => ⟨(h.fld p hp).1.later hb, (h.fld p hp).2⟩⟩
end Go.Proofs.YtgbapkechngnmaaGreat
/- The arguments of chapter 09's laws: alerts, labels, numbers, policies. -/
namespace Go.Proofs.YtgbapkechngnmaaGreat
open Go.RowKit Go.WideShapes Go.ChangeShapes Go.Deep

theorem cell_ltA {w : World} {a : Addr} {v : Value} (h : w.cell? a = some v) : a.block < w.heap.size := by
 rcases Nat.lt_or_ge a.block w.heap.size with h' | h'
 ·exact h'
 ·simp [World.cell?, Array.getElem?_eq_none h'] at h
section
variable {H : Type} {enc : TypeId × Value → H} {P : Program} {w : World} {base : Nat} {spare : Nat → Bool} {held : Bool}
/-- a slice of structs: each element's cells, and what its fields read as -/
theorem open_slice_structs {t e : TypeId} {fs : Array Field} {fuel : Nat} {cs : List Value} {x : DataW H × List MemPlace} (ht : P.underlying t = some (.slice e)) (he : P.underlying e = some (.struct fs))
  (h : DataW.trod enc P w base spare held fuel t cs = some x) :
  cs = [.slice none 0 0] ∨
  ∃ (a : Addr) (len cap : Nat), cs = [.slice (some a) len cap] ∧ len ≤ cap ∧ cap ≤ maxLen ∧
   ∀ i, i < len → ∃ (es : List Value) (n : Nat), es.length = P.cellsOf e ∧ (∀ j, j < P.cellsOf e → w.cell? (a.add (i * P.cellsOf e + j)) = es[j]?) ∧
    ∀ (j : Nat) (f : Field), fs[j]? = some f → ∃ y, DataW.trod enc P w base spare held n f.type ((es.drop f.offset).take (P.cellsOf f.type)) = some y := by
 rcases open_slice ht h with ⟨h0, _⟩ | ⟨a, len, cap, m, n, D, Pl, hcs, hb, hl, hm, hmm, hx, hi⟩
 ·exact .inl h0
 ·refine .inr ⟨a, len, cap, hcs, hl, hm, fun i hil => ?_⟩
  obtain ⟨cs', hc, ht'⟩ := hi i (by rw [hmm]; split <;> omega)
  obtain ⟨ys, n', hn', hy, hlen, hyl, hf⟩ := DataW.trod_struct he ht'
  obtain ⟨_, hcl, hat⟩ := World.cells?_some hc
  refine ⟨cs', n', by omega, fun j hj => ?_, fun j f hj => ?_⟩
  ·rw [← Go.Deep.add_add]; exact hat j hj
  ·have hjl : j < fs.size := (Array.getElem?_eq_some_iff.1 hj).1
   have h1 := hf j f hj
   exact ⟨_, h1.trans (List.getElem?_eq_getElem (by omega))⟩
end
/-- fields of an argument -/
def ArgFlds (w : World) (v : Value) (fl : List Fld) : Prop := FldsAt w v fl ∧ fl.length ≤ maxLen ∧ FldsFit fl
theorem add_off {b o j : Nat} : (⟨b, o, none⟩ : Addr).add j = ⟨b, o + j, none⟩ := Go.WideShapes.add_plain ..
set_option maxRecDepth 100000 in
theorem flds_of_trod {H : Type} {enc : TypeId × Value → H} {W : World} {n : Nat} {v : Value} {x : DataW H × List MemPlace} (h : DataW.trod enc Tryz.prog W 0 (fun _ => true) true n 22 [v] = some x) : ∃ fl, ArgFlds W v fl := by
 have hC : Tryz.prog.cellsOf 46 = 2 := by kernel_rfl
 have hcs1 : Tryz.prog.cellsOf 9 = 1 := by kernel_rfl
 rcases open_slice_structs Tryz.underlying22 Tryz.underlying46 h with hcs | ⟨a, len, cap, hcs, hl, hm, hf⟩
 ·cases hcs
  exact ⟨[], RdAt.nil W 2, Nat.zero_le _, fun _ h => by cases h⟩
 ·cases hcs
  rw [hC] at hf
  have hone : ∀ i, i < len → ∃ s : Fld, W.cell? (a.add (i * 2)) = some (.string s.1) ∧ W.cell? (a.add (i * 2 + 1)) = some (.string s.2) ∧ s.1.size ≤ maxLen ∧ s.2.size ≤ maxLen := by
   intro i hi
   obtain ⟨es, n, hlen, hat, hfs⟩ := hf i hi
   match es, hlen with
   | [e0, e1], _ =>
    obtain ⟨y0, t0⟩ := hfs 0 _ rfl
    obtain ⟨y1, t1⟩ := hfs 1 _ rfl
    obtain ⟨s0, q0, _, z0⟩ := DataW.trod_string Tryz.underlying9 t0
    obtain ⟨s1, q1, _, z1⟩ := DataW.trod_string Tryz.underlying9 t1
    simp [hcs1] at q0 q1
    subst q0 q1
    exact ⟨(s0, s1), hat 0 (by omega), hat 1 (by omega), z0, z1⟩
  have hg : ∃ g : Nat → Fld, ∀ i, i < len → W.cell? (a.add (i * 2)) = some (.string (g i).1) ∧ W.cell? (a.add (i * 2 + 1)) = some (.string (g i).2) ∧ (g i).1.size ≤ maxLen ∧ (g i).2.size ≤ maxLen :=
   ⟨fun i => if h : i < len then Classical.choose (hone i h) else default, fun i h => by have := Classical.choose_spec (hone i h); simpa only [dif_pos h] using this⟩
  obtain ⟨g, hg⟩ := hg
  have hgl : ((List.range len).map g).length = len := by simp
  refine ⟨(List.range len).map g, ⟨fldCells_len _, .inr ⟨a, cap, by rw [hgl], by omega, fun hn => ?_⟩⟩, by rw [hgl]; omega, fun s hs => ?_⟩
  ·rw [hgl] at hn
   obtain ⟨b, off, spot⟩ := a
   have h0 := (hg 0 hn).1
   have hspot : spot = none := by simpa [Addr.add] using World.cell?_spot h0
   subst hspot
   refine ⟨b, off, rfl, by have := cell_ltA h0; simpa [Addr.add] using this, fun j x hj => ?_⟩
   have hjl := (List.getElem?_eq_some_iff.1 hj).1
   rw [fldCells_len, hgl] at hjl
   obtain ⟨m, r, hr2, rfl⟩ : ∃ m r, r < 2 ∧ j = m * 2 + r := ⟨j / 2, j % 2, Nat.mod_lt _ (by decide), by omega⟩
   obtain ⟨q0, q1⟩ := fldCells_at ((List.range len).map g) m (by rw [hgl]; omega)
   obtain ⟨h1, h2, _⟩ := hg m (by omega)
   simp only [List.getElem_map, List.getElem_range] at q0 q1
   rw [add_off] at h1 h2
   match r, hr2 with
   | 0, _ => rw [Nat.add_zero] at hj ⊢; rw [q0] at hj; rw [← Option.some.inj hj]; exact h1
   | 1, _ => rw [q1] at hj; rw [← Option.some.inj hj]; exact h2
  ·obtain ⟨i, hi, rfl⟩ := List.mem_map.1 hs
   exact (hg i (List.mem_range.1 hi)).2.2
theorem lit_u32 {c : Int} (h : (Lit.int .u32 c).wf = true) : ∃ n : Nat, c = n ∧ n < 4294967296 := by
 have : 0 ≤ c ∧ c ≤ 4294967295 := by
  simp [Lit.wf, IntKind.min, IntKind.max, IntKind.signed, IntKind.bits] at h; omega
 exact ⟨c.toNat, by omega, by omega⟩
/-- an alert of an argument -/
def ArgAl (w : World) (v : Value) (x : Al) (fv : Value) : Prop := v = .agg #[.string x.src, fv, .int .i64 x.lv, .int .u32 x.c, .int .i64 x.fr, .int .i64 x.til] ∧ FldsAt w fv x.fl ∧ AlFit x
end Go.Proofs.YtgbapkechngnmaaGreat
/- The arguments of chapter 06's laws: fields, matchers. (mts_of_trod: chapter 22's text.) -/
namespace Go.Proofs.YtgbapkechngnmaaGreat
open Go.RowKit Go.WideShapes Go.ChangeShapes Go.Deep

/-- a row of structs: its cells, one by one -/
theorem row_cells {W : World} {a : Addr} {len size : Nat} {f : Nat → List Value} (h0 : 0 < size) (hlen : ∀ i, i < len → (f i).length = size) (hat : ∀ i, i < len → ∀ j, j < size → W.cell? (a.add (i * size + j)) = (f i)[j]?) (hp : 0 < len) :
  ∃ b o, a = ⟨b, o, none⟩ ∧ b < W.heap.size ∧ ∀ i, i < len → ∀ j x, (f i)[j]? = some x → W.cell? ⟨b, o + (i * size + j), none⟩ = some x := by
 obtain ⟨b, off, spot⟩ := a
 obtain ⟨x0, hx0⟩ : ∃ x, (f 0)[0]? = some x := ⟨_, List.getElem?_eq_getElem (by rw [hlen 0 hp]; exact h0)⟩
 have hc := hat 0 hp 0 h0
 rw [hx0] at hc
 have hspot : spot = none := by simpa [Addr.add] using World.cell?_spot hc
 subst hspot
 refine ⟨b, off, rfl, by have := cell_ltA hc; simpa [Addr.add] using this, fun i hi j x hx => ?_⟩
 have hj : j < size := by have := (List.getElem?_eq_some_iff.1 hx).1; rw [hlen i hi] at this; exact this
 have := hat i hi j hj
 rw [add_off, hx] at this
 exact this
set_option maxRecDepth 100000 in
theorem mts_of_trod {H : Type} {enc : TypeId × Value → H} {W : World} {n : Nat} {v : Value} {x : DataW H × List MemPlace} (h : DataW.trod enc Tryz.prog W 0 (fun _ => true) true n 23 [v] = some x) : ∃ l, MtsAt W v l ∧ l.length ≤ maxLen ∧ MtsFit l := by
 have hC : Tryz.prog.cellsOf 29 = 3 := by kernel_rfl
 have hcs1 : Tryz.prog.cellsOf 9 = 1 := by kernel_rfl
 have hci : Tryz.prog.cellsOf 3 = 1 := by kernel_rfl
 rcases open_slice_structs Tryz.underlying23 Tryz.underlying29 h with hcs | ⟨a, len, cap, hcs, hl, hm, hf⟩
 ·cases hcs
  exact ⟨[], RdAt.nil W 3, Nat.zero_le _, fun _ h => by cases h⟩
 ·cases hcs
  rw [hC] at hf
  have hone : ∀ i, i < len → ∃ s : Mt, (∀ j, j < 3 → W.cell? (a.add (i * 3 + j)) = (mtC s)[j]?) ∧ MtFit s := by
   intro i hi
   obtain ⟨es, n, hlen, hat, hfs⟩ := hf i hi
   match es, hlen with
   | [e0, e1, e2], _ =>
    obtain ⟨y0, t0⟩ := hfs 0 _ rfl
    obtain ⟨y1, t1⟩ := hfs 1 _ rfl
    obtain ⟨y2, t2⟩ := hfs 2 _ rfl
    obtain ⟨s0, q0, _, z0⟩ := DataW.trod_string Tryz.underlying9 t0
    obtain ⟨k1, q1, _, _⟩ := DataW.trod_int Tryz.underlying3 t1
    obtain ⟨s2, q2, _, z2⟩ := DataW.trod_string Tryz.underlying9 t2
    simp [hcs1] at q0 q2
    simp [hci] at q1
    subst q0 q1 q2
    exact ⟨⟨s0, k1, s2⟩, hat, z0, z2⟩
  have hg : ∃ g : Nat → Mt, ∀ i, i < len → (∀ j, j < 3 → W.cell? (a.add (i * 3 + j)) = (mtC (g i))[j]?) ∧ MtFit (g i) :=
   ⟨fun i => if h : i < len then Classical.choose (hone i h) else default, fun i h => by have := Classical.choose_spec (hone i h); simpa only [dif_pos h] using this⟩
  obtain ⟨g, hg⟩ := hg
  have hgl : ((List.range len).map g).length = len := by simp
  refine ⟨(List.range len).map g, ⟨mtCells_len _, .inr ⟨a, cap, by rw [hgl], by omega, fun hn => ?_⟩⟩, by rw [hgl]; omega, fun s hs => ?_⟩
  ·rw [hgl] at hn
   obtain ⟨b, o, rfl, hlt, hcell⟩ := row_cells (f := fun i => mtC (g i)) (size := 3) (by decide) (fun _ _ => rfl) (fun i hi => (hg i hi).1) hn
   refine ⟨b, o, rfl, hlt, fun j x hj => ?_⟩
   have hjl := (List.getElem?_eq_some_iff.1 hj).1
   rw [mtCells_len, hgl] at hjl
   obtain ⟨m, r, hr3, rfl⟩ : ∃ m r, r < 3 ∧ j = m * 3 + r := ⟨j / 3, j % 3, Nat.mod_lt _ (by decide), by omega⟩
   obtain ⟨q0, q1, q2⟩ := mtCells_at ((List.range len).map g) m (by rw [hgl]; omega)
   simp only [List.getElem_map, List.getElem_range] at q0 q1 q2
   refine hcell m (by omega) r x ?_
   match r, hr3 with
   | 0, _ => rw [Nat.add_zero, q0] at hj; exact hj
   | 1, _ => rw [q1] at hj; exact hj
   | 2, _ => rw [q2] at hj; exact hj
  ·obtain ⟨i, hi, rfl⟩ := List.mem_map.1 hs
   exact (hg i (List.mem_range.1 hi)).2
set_option maxRecDepth 100000 in
theorem flds_of_arg {H : Type} {enc : TypeId × Value → H} {W : World} {base : Nat} {v : Value} {d : DataW H} {p : List MemPlace} (hval : Value.okWide Tryz.prog W .any base 22 v) (h : DataW.Trod enc Tryz.prog W 0 (fun _ => true) true 22 v d p) : ∃ l, ArgFlds W v l := by
 obtain ⟨a0, len, cap, rfl⟩ := okWide_slice Tryz.underlying22 hval
 obtain ⟨fuel, hf⟩ := h
 exact flds_of_trod hf
/-- matchers of an argument -/
def ArgMts (w : World) (v : Value) (l : List Mt) : Prop := MtsAt w v l ∧ l.length ≤ maxLen ∧ MtsFit l
set_option maxRecDepth 100000 in
theorem mts_of_arg {H : Type} {enc : TypeId × Value → H} {W : World} {base : Nat} {v : Value} {d : DataW H} {p : List MemPlace} (hval : Value.okWide Tryz.prog W .any base 23 v) (h : DataW.Trod enc Tryz.prog W 0 (fun _ => true) true 23 v d p) : ∃ l, ArgMts W v l := by
 obtain ⟨a0, len, cap, rfl⟩ := okWide_slice Tryz.underlying23 hval
 obtain ⟨fuel, hf⟩ := h
 exact mts_of_trod hf
end Go.Proofs.YtgbapkechngnmaaGreat
/- Slices of integers that are read. No program in sight. -/
namespace Go.Proofs.YtgbapkechngnmaaGreat
open Go.RowKit

/-- an int as a value -/
abbrev I (x : Int) : Value := .int .i64 x
theorem i_cells (z : List Int) : ∀ y ∈ z.map I, y.oneCell' = true := by
 intro y hy
 obtain ⟨x, _, rfl⟩ := List.mem_map.1 hy
 rfl
/-- v reads as the numbers l -/
def IntsAt (w : World) (v : Value) (l : List Int) : Prop := RdAt w v l.length 1 (l.map I)
theorem IntsAt.nil (w : World) : IntsAt w (.slice none 0 0) [] := RdAt.nil w 1
theorem IntsAt.later {w w' : World} {v : Value} {l : List Int} (h : IntsAt w v l) (hb : Below w.heap.size w w') : IntsAt w' v l := RdAt.later h hb
theorem IntsAt.own {w : World} {base : Nat} {e : TypeId} {v : Value} {l : List Int} (h : w.ownsRow base e 1 v l.length (l.map I)) : IntsAt w v l := RdAt.own h
theorem IntsAt.cells {w : World} {v : Value} {l : List Int} (h : IntsAt w v l) (hne : l ≠ []) : ∃ b o c, v = .slice (some ⟨b, o, none⟩) l.length c ∧ l.length ≤ c ∧ b < w.heap.size ∧ ∀ j x, l[j]? = some x → w.cell? ⟨b, o + j, none⟩ = some (I x) := by
 obtain ⟨b, o, c, hv, hc, hlt, hcell⟩ := RdAt.some h (List.length_pos_iff.2 hne)
 exact ⟨b, o, c, hv, hc, hlt, fun j x hx => hcell j _ (by rw [List.getElem?_map, hx]; rfl)⟩
end Go.Proofs.YtgbapkechngnmaaGreat
/- The element of a list of int. -/
namespace Go.Proofs.YtgbapkechngnmaaGreat
open Go.RowKit

theorem info_int : (Tryz.prog.info? 3).map (fun i => (i.zero, i.size, i.bytes)) = some (some (.int .i64 0), 1, 8) := by kernel_rfl
end Go.Proofs.YtgbapkechngnmaaGreat
/- lychgateref01: Right, Teams, has, Flows: contracts. -/
namespace Go.Proofs.YtgbapkechngnmaaGreat
open Go.RowKit

def teamsI (c n : Nat) : List Int := (teamsN c n).map fun (k : Nat) => (k : Int)
theorem teamsI_step (c k : Nat) : teamsI c (k + 1) = teamsI c k ++ (if c / 2 ^ k % 2 = 1 then [(k : Int)] else []) := by
 unfold teamsI
 rw [teams_step, List.map_append]
 split <;> rfl
theorem teamsN_le (c n : Nat) : (teamsN c n).length ≤ n := by
 have := List.length_filter_le (fun k => c.testBit k) (List.range n)
 rw [List.length_range] at this
 exact this
theorem teamsI_len (c n : Nat) : (teamsI c n).length ≤ n := by unfold teamsI; rw [List.length_map]; exact teamsN_le c n
theorem mem_teamsI {c n : Nat} {k : Nat} : (k : Int) ∈ teamsI c n ↔ k ∈ teamsN c n := by
 unfold teamsI
 rw [List.mem_map]
 constructor
 ·rintro ⟨m, hm, h⟩; have : m = k := by exact_mod_cast h
  rwa [← this]
 ·intro h; exact ⟨k, h, rfl⟩
theorem flowsL_eq (l : Int) (c : Nat) (m : Int) (d : Nat) : flowsL l c m d = (subB c d && (rightL l && rightL m && decide (l ≤ m))) := by
 unfold flowsL
 cases subB c d <;> simp
theorem sub_not {c d k : Nat} (hk : k ∈ teamsN c 32) (hn : k ∉ teamsN d 32) : subB c d = false := by
 rw [Bool.eq_false_iff]
 intro h
 exact hn (sub_iff.1 h k hk)
end Go.Proofs.YtgbapkechngnmaaGreat
/- policy.Find, label.Join, policy.Raised: contracts. -/
namespace Go.Proofs.YtgbapkechngnmaaGreat
open Go.RowKit

/-! plain -/
theorem idx_find {α : Type} (p : α → Bool) (x : α) : ∀ (l : List α) (i : Nat),
  (∃ k, ∃ h : k < l.length, Lib.idxByFrom (fun _ y => p y) x l i = ((i + k : Nat) : Int) ∧ l.find? p = some l[k] ∧ p l[k] = true ∧ ∀ j (hj : j < l.length), j < k → p l[j] = false) ∨
  (Lib.idxByFrom (fun _ y => p y) x l i = -1 ∧ l.find? p = none ∧ ∀ j (hj : j < l.length), p l[j] = false)
 | [], i => .inr ⟨rfl, rfl, fun j hj => absurd hj (Nat.not_lt_zero _)⟩
 | y :: r, i => by
  by_cases h : p y = true
  ·exact .inl ⟨0, Nat.succ_pos _, by simp [Lib.idxByFrom, h], by simp [h], by simpa using h, fun j _ hj => absurd hj (Nat.not_lt_zero _)⟩
  ·have h' : p y = false := by simpa using h
   rcases idx_find p x r (i + 1) with ⟨k, hk, h1, h2, h3, h4⟩ | ⟨h1, h2, h3⟩
   ·refine .inl ⟨k + 1, by simpa using hk, ?_, by simp [h', h2], by simpa using h3, fun j hj hjk => ?_⟩
    ·simp only [Lib.idxByFrom, h']
     rw [show (if false = true then (i : Int) else Lib.idxByFrom (fun _ y => p y) x r (i + 1)) = Lib.idxByFrom (fun _ y => p y) x r (i + 1) from rfl, h1]
     congr 1; omega
    ·cases j with
     | zero => simpa using h'
     | succ j => simpa using h4 j (by simpa using hj) (by omega)
   ·refine .inr ⟨?_, by simp [h', h2], fun j hj => ?_⟩
    ·simp only [Lib.idxByFrom, h']
     rw [show (if false = true then (i : Int) else Lib.idxByFrom (fun _ y => p y) x r (i + 1)) = Lib.idxByFrom (fun _ y => p y) x r (i + 1) from rfl, h1]
    ·cases j with
     | zero => simpa using h'
     | succ j => simpa using h3 j (by simpa using hj)
/-- a name and its label -/
abbrev Nmd := ByteArray × Int × Nat
def nmdC (x : Nmd) : List Value := [.string x.1, .int .i64 x.2.1, .int .u32 x.2.2]
def nmdCells : List Nmd → List Value
 | [] => []
 | x :: l => nmdC x ++ nmdCells l
theorem nmdCells_len (l : List Nmd) : (nmdCells l).length = l.length * 3 := by
 induction l with
 | nil => rfl
 | cons x l ih => simp only [nmdCells, List.length_append, ih, List.length_cons]; simp [nmdC]; omega
theorem nmdCells_at : ∀ (l : List Nmd) (j : Nat) (h : j < l.length) (i : Nat) (v : Value), (nmdC l[j])[i]? = some v → (nmdCells l)[j * 3 + i]? = some v
 | x :: l, 0, _, i, v, hi => by
  have hlt := (List.getElem?_eq_some_iff.1 hi).1
  simp only [nmdCells]
  rw [List.getElem?_append_left (by simpa using hlt)]
  simpa using hi
 | x :: l, j + 1, h, i, v, hi => by
  simp only [nmdCells]
  rw [List.getElem?_append_right (by simp [nmdC]; omega)]
  have := nmdCells_at l j (by simpa using h) i v (by simpa using hi)
  rw [show (j + 1) * 3 + i - (nmdC x).length = j * 3 + i by simp [nmdC]; omega]
  exact this
def NmdsAt (w : World) (v : Value) (l : List Nmd) : Prop := RdAt w v l.length 3 (nmdCells l)
theorem NmdsAt.later {w w' : World} {v : Value} {l : List Nmd} (h : NmdsAt w v l) (hb : Below w.heap.size w w') : NmdsAt w' v l := RdAt.later h hb
def findL (l : List Nmd) (n : ByteArray) : Option Nmd := l.find? fun x => decide (x.1 = n)
def findV (o : Option Nmd) : Value := match o with
 | some x => Lab x.2.1 x.2.2
 | none => Lab 0 0
def orN (c d : Nat) : Nat := (BitVec.ofNat 32 c ||| BitVec.ofNat 32 d).toNat
def joinL (a b : Int × Nat) : Int × Nat := if rightL a.1 && rightL b.1 then (max a.1 b.1, orN a.2 b.2) else (7, 4294967295)
abbrev LabP (p : Int × Nat) : Value := Lab p.1 p.2
def raisedL (rs : List Nmd) (nm : ByteArray) (l : Int × Nat) : Int × Nat := match findL rs nm with
 | some r => joinL l r.2
 | none => l
/-- a slice as three numbers -/
abbrev SV (s : Option Addr × Nat × Nat) : Value := .slice s.1 s.2.1 s.2.2
theorem cell_lt {w : World} {b o : Nat} {v : Value} (h : w.cell? ⟨b, o, none⟩ = some v) : b < w.heap.size := by
 by_cases hb : b < w.heap.size
 ·exact hb
 ·have : w.heap[b]? = none := Array.getElem?_eq_none_iff.2 (by omega)
  simp [World.cell?, this] at h

/-! the walks -/
end Go.Proofs.YtgbapkechngnmaaGreat
/- label.Join, policy.Raised: contracts. -/
namespace Go.Proofs.YtgbapkechngnmaaGreat
open Go.RowKit

theorem bits_or (c d : Nat) : bits BinOp.or IntKind.u32 (c : Int) (d : Int) = (orN c d : Int) := by
 show IntKind.u32.wrap ((BitVec.ofInt 32 (c : Int) ||| BitVec.ofInt 32 (d : Int)).toNat : Int) = _
 rw [BitVec.ofInt_natCast, BitVec.ofInt_natCast, IntKind.wrap_u32']
 unfold orN
 have := (BitVec.ofNat 32 c ||| BitVec.ofNat 32 d).isLt
 omega
/-- three boxes of two cells, one behind the other -/
theorem box222 {w W : World} {x y x' y' x2 y2 : Value} {t u s : TypeId} (hb : Below (((w.alloc (.cells #[x, y] t)).alloc (.cells #[x', y'] u)).alloc (.cells #[x2, y2] s)).heap.size (((w.alloc (.cells #[x, y] t)).alloc (.cells #[x', y'] u)).alloc (.cells #[x2, y2] s)) W) :
  (W.cell? ⟨w.heap.size, 0, none⟩ = some x ∧ W.cell? ⟨w.heap.size, 1, none⟩ = some y ∧ W.cell? ⟨w.heap.size + 1, 0, none⟩ = some x' ∧ W.cell? ⟨w.heap.size + 1, 1, none⟩ = some y') ∧
  (W.cell? ⟨w.heap.size + 1 + 1, 0, none⟩ = some x2 ∧ W.cell? ⟨w.heap.size + 1 + 1, 1, none⟩ = some y2 ∧ W.there (w.heap.size + 1 + 1) 0 2) ∧ w.heap.size + 1 + 1 < W.heap.size ∧ Below w.heap.size w W := by
 obtain ⟨h1, h2, h3⟩ := box_cells hb
 have hT := box_there hb
 obtain ⟨a, b, c, d, e, f⟩ := box22 h3
 simp only [World.size_alloc] at h1 h2 hT
 exact ⟨⟨a, b, c, d⟩, ⟨h1 0 _ rfl, h1 1 _ rfl, hT⟩, h2, f⟩
/-- the boxes of Raised: a policy's six cells, a label's two, the result's two -/
theorem box622 {w W : World} {a b c d e f x y x' y' : Value} {t u s : TypeId} (hb : Below (((w.alloc (.cells #[a, b, c, d, e, f] t)).alloc (.cells #[x, y] u)).alloc (.cells #[x', y'] s)).heap.size (((w.alloc (.cells #[a, b, c, d, e, f] t)).alloc (.cells #[x, y] u)).alloc (.cells #[x', y'] s)) W) :
  (W.cell? ⟨w.heap.size + 1, 0, none⟩ = some x ∧ W.cell? ⟨w.heap.size + 1, 1, none⟩ = some y) ∧
  (W.cell? ⟨w.heap.size + 1 + 1, 0, none⟩ = some x' ∧ W.cell? ⟨w.heap.size + 1 + 1, 1, none⟩ = some y' ∧ W.there (w.heap.size + 1 + 1) 0 2) ∧ w.heap.size + 1 + 1 < W.heap.size ∧ Below w.heap.size w W := by
 obtain ⟨h1, h2, h3⟩ := box_cells hb
 have hT := box_there hb
 obtain ⟨_, b, _, d⟩ := box_two h3
 simp only [World.size_alloc] at h1 h2 hT
 exact ⟨⟨b 0 _ rfl, b 1 _ rfl⟩, ⟨h1 0 _ rfl, h1 1 _ rfl, hT⟩, h2, d⟩
end Go.Proofs.YtgbapkechngnmaaGreat
/- policy.Visible: its predicate, slices.Clone and slices.DeleteFunc at Field: contracts. -/
namespace Go.Proofs.YtgbapkechngnmaaGreat
open Go.RowKit

/-- a field that may be told -/
def seesL (rs : List Nmd) (f t : Int × Nat) (x : Fld) : Bool := flowsL (raisedL rs x.1 f).1 (raisedL rs x.1 f).2 t.1 t.2
end Go.Proofs.YtgbapkechngnmaaGreat
/- slices.Clone and slices.DeleteFunc at Field, policy.Visible: contracts. -/
namespace Go.Proofs.YtgbapkechngnmaaGreat
open Go.RowKit

/-! plain -/
def fldC (x : Fld) : List Value := [.string x.1, .string x.2]
theorem fld_cells1 (l : List Fld) : ∀ y ∈ fldCells l, y.oneCell' = true := by
 induction l with
 | nil => intro y hy; cases hy
 | cons f l ih =>
  intro y hy
  simp only [fldCells, List.mem_cons] at hy
  rcases hy with rfl | rfl | h
  ·rfl
  ·rfl
  ·exact ih y h
theorem info_fld : (Tryz.prog.info? 46).map (fun i => (i.zero, i.size, i.bytes)) = some (some (.agg #[.string ⟨#[]⟩, .string ⟨#[]⟩]), 2, 32) := by kernel_rfl
theorem own_empty2 (w : World) (t : TypeId) : (w.alloc (.cells #[] t)).ownsRow w.heap.size t 2 (.slice (some ⟨w.heap.size, 0, none⟩) 0 0) 0 [] :=
 ⟨rfl, .inr ⟨w.heap.size, 0, #[], rfl, Nat.le_refl _, heap_alloc_new _ _, Nat.le_refl _, by decide, rfl, rfl⟩⟩
set_option maxHeartbeats 800000 in
set_option maxRecDepth 100000 in
theorem cloneF_any (l : List Fld) (w : World) (v : Value) (h : FldsAt w v l) (hl : l.length ≤ 1000000000000) :
  Calls Tryz.prog 61 #[v] w fun e w' => ∃ v', e = .returned v' ∧ w'.ownsRow w.heap.size 46 2 v' l.length (fldCells l) ∧ Below w.heap.size w w' := by
 obtain ⟨i0, hi, hz0, hz1, hz2⟩ := info_parts info_fld
 have q22 : ∀ (w : World) (a : Option Addr) (n c n' c' : Nat), (binOp .eql 22 (.slice a n c) (.slice none n' c')).run Tryz.prog w = .ok (.bool a.isNone) w := fun w a n c n' c' => Lib.run_eql_slice_nil w _ _ a n c n' c' Tryz.underlying22
 rcases h.2 with ⟨rfl, h0⟩ | ⟨a, c, rfl, hc, hr⟩
 ·have hnil : l = [] := List.length_eq_zero_iff.1 h0
  subst hnil
  go_enter Tryz.func61, Tryz.ntmps61
  go_wp2
  go_ret
  exact ⟨_, rfl, World.ownsRow_nil _ _ _ _, Below.refl _ _⟩
 ·have h1 := h.later (alloc_below w (.cells #[] 46))
  have h2 := own_empty2 w 46
  have hb := alloc_below w (.cells #[] 46)
  go_enter Tryz.func61, Tryz.ntmps61
  go_wp2_with (at_builtin; (refine wpList_append_rd rfl (.tmp 5) (.tmp 6) 22 rfl w.heap.size 46 i0 (.agg #[.string ⟨#[]⟩, .string ⟨#[]⟩]) 2 32 Tryz.underlying22 hi hz0 hz1 hz2 rfl (by decide) _ 0 [] rfl h2 _ l.length (fldCells l) rfl h1 (fld_cells1 l) (by unfold maxLen; omega) (by omega) (by simp) ?_); intro v2 w2 hown2 hgrow2)
  go_ret
  refine ⟨_, rfl, ?_, hb.grown hgrow2 hb.size (fun k hk => (h2.lt k hk).1)⟩
  have e : 0 + l.length = l.length := Nat.zero_add _
  rw [e] at hown2
  exact hown2
theorem idxf_nil (a : Option Addr) (c : Nat) (f : Value) (w : World) :
  Calls Tryz.prog 43 #[.slice a 0 c, f] w fun e w' => e = .returned (.int .i64 (-1)) ∧ w' = w := by
 go_enter Tryz.func43, Tryz.ntmps43
 go_wp2
 refine wp_loop_rounds 1 ?_
 rw [rounds_succ]
 go_wp2
 go_ret
 exact ⟨rfl, rfl⟩
theorem fldC_at (l : List Fld) (j : Nat) (h : j < l.length) (i : Nat) (v : Value) (hi : (fldC l[j])[i]? = some v) : (fldCells l)[j * 2 + i]? = some v := by
 obtain ⟨h1, h2⟩ := fldCells_at l j h
 match i, hi with
 | 0, hi => rw [Nat.add_zero, h1]; exact hi
 | 1, hi => rw [h2]; exact hi
 | i + 2, hi => simp [fldC] at hi
/-- clear(s) -/
theorem run_clear_row {P : Program} (w : World) (t e ty : TypeId) (z : Value) (ht : P.underlying t = some (.slice e)) (hv : ∀ w, (zeroValue e).run P w = .ok z w) (b o n c : Nat) (hn : 0 < n)
  (hT : w.there b o (Builtin.zeroCells z.cells n).toList.length) (h1 : ∀ v ∈ (Builtin.zeroCells z.cells n).toList, v.oneCell' = true) :
  (Builtin.clear_ #[t] ty #[.slice (some ⟨b, o, none⟩) n c]).run P w = .ok (.tuple #[]) (w.setCells b o (Builtin.zeroCells z.cells n).toList) := by
 have hst := run_storeCells_cells (P := P) b o (Builtin.zeroCells z.cells n).toList 0 w (fun j hj => (hT j hj).1) (fun j hj => (hT j hj).2) h1
 simp only [Nat.add_zero] at hst
 obtain ⟨m, rfl⟩ : ∃ m, n = m + 1 := ⟨n - 1, by omega⟩
 simp [Builtin.clear_, run_underlying ht, hv, hst]
end Go.Proofs.YtgbapkechngnmaaGreat
/- slices.DeleteFunc at Field, policy.Visible: contracts. -/
namespace Go.Proofs.YtgbapkechngnmaaGreat
open Go.RowKit

theorem zc_len (n : Nat) : (Builtin.zeroCells (Value.agg #[.string ⟨#[]⟩, .string ⟨#[]⟩]).cells n).toList.length = n * 2 := by simp [Builtin.zeroCells, Value.cells]
theorem zc_cell (n : Nat) : ∀ v ∈ (Builtin.zeroCells (Value.agg #[.string ⟨#[]⟩, .string ⟨#[]⟩]).cells n).toList, v.oneCell' = true := by
 intro v hv
 simp only [Builtin.zeroCells, Value.cells, Array.toList_map, List.mem_map] at hv
 obtain ⟨i, _, rfl⟩ := hv
 have h2 : i % (#[Value.string ⟨#[]⟩, Value.string ⟨#[]⟩] : Array Value).size < 2 := Nat.mod_lt _ (by decide)
 generalize i % (#[Value.string ⟨#[]⟩, Value.string ⟨#[]⟩] : Array Value).size = j at h2
 match j, h2 with
 | 0, _ => rfl
 | 1, _ => rfl
theorem filter_step {p : Fld → Bool} {l : List Fld} {j : Nat} (h : j < l.length) : (l.take (j + 1)).filter (fun x => !p x) = (l.take j).filter (fun x => !p x) ++ (if p l[j] then [] else [l[j]]) := by
 rw [List.take_succ_eq_append_getElem h, List.filter_append]
 congr 1
 cases hp : p l[j] <;> simp [hp]
theorem filter_none {p : Fld → Bool} {l : List Fld} {k : Nat} (hk : k ≤ l.length) (h : ∀ j (hj : j < l.length), j < k → p l[j] = false) : (l.take k).filter (fun x => !p x) = l.take k := by
 rw [List.filter_eq_self]
 intro x hx
 obtain ⟨j, hj, rfl⟩ := List.getElem_of_mem hx
 rw [List.length_take] at hj
 rw [List.getElem_take, h j (by omega) (by omega)]; rfl
theorem row_range {w : World} {g : Nat} {o : Nat} {Y : List Fld} (h : w.rangeAt g o (fldCells Y)) {j : Nat} (hj : j < Y.length) : w.cell? ⟨g, o + j * 2, none⟩ = some (.string Y[j].1) ∧ w.cell? ⟨g, o + j * 2 + 1, none⟩ = some (.string Y[j].2) := by
 obtain ⟨h1, h2⟩ := fldCells_at Y j hj
 exact ⟨h _ _ h1, by have := h _ _ h2; rwa [← Nat.add_assoc] at this⟩
theorem below_put_base {B : Nat} {w W : World} {g j : Nat} {x : Value} (h : Below B w W) (hb : B ≤ g) : Below B w (W.setCell ⟨g, j, none⟩ x) :=
 h.trans ((Below.refl B W).setCell (p := ⟨g, j, none⟩) hb x)
theorem below_puts_base {B : Nat} {w W : World} {g o : Nat} (h : Below B w W) (hb : B ≤ g) : ∀ (vs : List Value), Below B w (W.setCells g o vs) := by
 intro vs
 induction vs generalizing W o with
 | nil => exact h
 | cons v r ih => exact ih (below_put_base h hb)
/-- element i of a row is put -/
theorem row_put {w : World} {g n i : Nat} {Y : List Fld} {x : Fld} (h : w.rangeAt g 0 (fldCells Y)) (ht : w.there g 0 (n * 2)) (hn : Y.length = n) (hi : i < n) :
  ((w.setCell ⟨g, i * 2, none⟩ (.string x.1)).setCell ⟨g, i * 2 + 1, none⟩ (.string x.2)).rangeAt g 0 (fldCells (Y.set i x)) ∧ ((w.setCell ⟨g, i * 2, none⟩ (.string x.1)).setCell ⟨g, i * 2 + 1, none⟩ (.string x.2)).there g 0 (n * 2) := by
 have e : (w.setCell ⟨g, i * 2, none⟩ (.string x.1)).setCell ⟨g, i * 2 + 1, none⟩ (.string x.2) = w.setCells g (i * 2) [.string x.1, .string x.2] := rfl
 rw [e]
 have hti : w.there g (i * 2) 2 := fun j hj => by have := ht (i * 2 + j) (by omega); rwa [Nat.zero_add] at this
 refine ⟨fun j v hj => ?_, World.there_setCells ht g (i * 2) _⟩
 rw [Nat.zero_add]
 have hjl := (List.getElem?_eq_some_iff.1 hj).1
 rw [fldCells_len, List.length_set] at hjl
 have hr := World.rangeAt_setCells_same w g (i * 2) [.string x.1, .string x.2] hti
 obtain ⟨m, r, hr2, rfl⟩ : ∃ m r, r < 2 ∧ j = m * 2 + r := ⟨j / 2, j % 2, Nat.mod_lt _ (by decide), by omega⟩
 obtain ⟨q0, q1⟩ := fldCells_at (Y.set i x) m (by rw [List.length_set]; omega)
 by_cases hm : m = i
 ·subst hm
  rw [List.getElem_set_self] at q0 q1
  match r, hr2 with
  | 0, _ => rw [Nat.add_zero] at hj ⊢; rw [q0] at hj; rw [← Option.some.inj hj]; exact hr 0 _ rfl
  | 1, _ => rw [q1] at hj; rw [← Option.some.inj hj]; exact hr 1 _ rfl
 ·rw [List.getElem_set_ne (Ne.symm hm)] at q0 q1
  obtain ⟨p0, p1⟩ := row_range h (j := m) (by omega)
  rw [Nat.zero_add] at p0 p1
  match r, hr2 with
  | 0, _ =>
   rw [Nat.add_zero] at hj ⊢; rw [q0] at hj; rw [← Option.some.inj hj]
   rw [World.cell?_setCells_out _ _ _ _ _ (fun _ _ => by simp; omega)]
   exact p0
  | 1, _ =>
   rw [q1] at hj; rw [← Option.some.inj hj]
   rw [World.cell?_setCells_out _ _ _ _ _ (fun _ _ => by simp; omega)]
   exact p1
/-- policy.Visible -/
def visL (rs : List Nmd) (fl : List Fld) (f t : Int × Nat) : List Fld := fl.filter (seesL rs f t)
end Go.Proofs.YtgbapkechngnmaaGreat
/- alert.Cut: a contract. -/
namespace Go.Proofs.YtgbapkechngnmaaGreat
open Go.RowKit

/-- what may be told -/
def cutOk (rs : List Nmd) (fl : List Fld) (f t : Int × Nat) : Bool := decide (0 < (visL rs fl f t).length) && flowsL f.1 f.2 t.1 t.2
abbrev zeroA : Value := .agg #[.string ⟨#[]⟩, .slice none 0 0, .int .i64 0, .int .u32 0, .int .i64 0, .int .i64 0]
def cutR (ok : Bool) (src : ByteArray) (v : Value) (lv : Int) (c : Nat) (fr til : Int) : Value := match ok with
 | true => .agg #[.string src, v, .int .i64 lv, .int .u32 c, .int .i64 fr, .int .i64 til]
 | false => zeroA
theorem box_later {w W : World} {xs : Array Value} {t : TypeId} (hb : Below (w.alloc (.cells xs t)).heap.size (w.alloc (.cells xs t)) W) {i : Nat} {x : Value} (h : xs[i]? = some x) : W.cell? ⟨w.heap.size, i, none⟩ = some x := (box_cells hb).1 i x h
/-- the four boxes of Cut -/
structure CutBox (w W : World) (p0 p1 p2 p3 p4 p5 a0 a1 a2 a3 a4 a5 l0 l1 : Value) : Prop where
 p : C6 w.heap.size p0 p1 p2 p3 p4 p5 W
 a : C6 (w.heap.size + 1) a0 a1 a2 a3 a4 a5 W
 l0 : W.cell? ⟨w.heap.size + 1 + 1, 0, none⟩ = some l0
 l1 : W.cell? ⟨w.heap.size + 1 + 1, 1, none⟩ = some l1
 r : C6 (w.heap.size + 1 + 1 + 1) (.string ⟨#[]⟩) (.slice none 0 0) (.int .i64 0) (.int .u32 0) (.int .i64 0) (.int .i64 0) W
 ta : W.there (w.heap.size + 1) 0 6
 tr : W.there (w.heap.size + 1 + 1 + 1) 0 6
 lt : w.heap.size + 1 + 1 + 1 < W.heap.size
 below : Below w.heap.size w W
theorem CutBox.later {w W W' : World} {p0 p1 p2 p3 p4 p5 a0 a1 a2 a3 a4 a5 l0 l1 : Value} (h : CutBox w W p0 p1 p2 p3 p4 p5 a0 a1 a2 a3 a4 a5 l0 l1) (hb : Below W.heap.size W W') : CutBox w W' p0 p1 p2 p3 p4 p5 a0 a1 a2 a3 a4 a5 l0 l1 := by
 have hl := h.lt
 exact ⟨h.p.later hb (by omega), h.a.later hb (by omega), keep_cell h.l0 hb (by omega), keep_cell h.l1 hb (by omega), h.r.later hb (by omega), there_later h.ta hb (by omega), there_later h.tr hb (by omega), Nat.lt_of_lt_of_le hl hb.size, h.below.trans (hb.mono h.below.size)⟩
theorem cutBox (w : World) (p0 p1 p2 p3 p4 p5 a0 a1 a2 a3 a4 a5 l0 l1 : Value) (t u s q : TypeId) :
  CutBox w ((((w.alloc (.cells #[p0, p1, p2, p3, p4, p5] t)).alloc (.cells #[a0, a1, a2, a3, a4, a5] u)).alloc (.cells #[l0, l1] s)).alloc (.cells #[.string ⟨#[]⟩, .slice none 0 0, .int .i64 0, .int .u32 0, .int .i64 0, .int .i64 0] q)) p0 p1 p2 p3 p4 p5 a0 a1 a2 a3 a4 a5 l0 l1 := by
 obtain ⟨W1, h1⟩ : ∃ z, w.alloc (.cells #[p0, p1, p2, p3, p4, p5] t) = z := ⟨_, rfl⟩
 obtain ⟨W2, h2⟩ : ∃ z, W1.alloc (.cells #[a0, a1, a2, a3, a4, a5] u) = z := ⟨_, rfl⟩
 obtain ⟨W3, h3⟩ : ∃ z, W2.alloc (.cells #[l0, l1] s) = z := ⟨_, rfl⟩
 obtain ⟨W4, h4⟩ : ∃ z, W3.alloc (.cells #[.string ⟨#[]⟩, .slice none 0 0, .int .i64 0, .int .u32 0, .int .i64 0, .int .i64 0] q) = z := ⟨_, rfl⟩
 rw [h1, h2, h3, h4]
 have s1 : W1.heap.size = w.heap.size + 1 := by rw [← h1, World.size_alloc]
 have s2 : W2.heap.size = w.heap.size + 1 + 1 := by rw [← h2, World.size_alloc, s1]
 have s3 : W3.heap.size = w.heap.size + 1 + 1 + 1 := by rw [← h3, World.size_alloc, s2]
 have s4 : W4.heap.size = w.heap.size + 1 + 1 + 1 + 1 := by rw [← h4, World.size_alloc, s3]
 have b1 : Below w.heap.size w W1 := by rw [← h1]; exact alloc_below _ _
 have b2 : Below W1.heap.size W1 W2 := by rw [← h2]; exact alloc_below _ _
 have b3 : Below W2.heap.size W2 W3 := by rw [← h3]; exact alloc_below _ _
 have b4 : Below W3.heap.size W3 W4 := by rw [← h4]; exact alloc_below _ _
 have c34 : Below W3.heap.size W3 W4 := b4
 have c24 : Below W2.heap.size W2 W4 := b3.trans (b4.mono (by omega))
 have c14 : Below W1.heap.size W1 W4 := b2.trans (c24.mono (by omega))
 have g1 : Below (w.alloc (.cells #[p0, p1, p2, p3, p4, p5] t)).heap.size (w.alloc (.cells #[p0, p1, p2, p3, p4, p5] t)) W4 := by rw [h1]; exact c14
 have g2 : Below (W1.alloc (.cells #[a0, a1, a2, a3, a4, a5] u)).heap.size (W1.alloc (.cells #[a0, a1, a2, a3, a4, a5] u)) W4 := by rw [h2]; exact c24
 have g3 : Below (W2.alloc (.cells #[l0, l1] s)).heap.size (W2.alloc (.cells #[l0, l1] s)) W4 := by rw [h3]; exact c34
 have g4 : Below (W3.alloc (.cells #[.string ⟨#[]⟩, .slice none 0 0, .int .i64 0, .int .u32 0, .int .i64 0, .int .i64 0] q)).heap.size (W3.alloc (.cells #[.string ⟨#[]⟩, .slice none 0 0, .int .i64 0, .int .u32 0, .int .i64 0, .int .i64 0] q)) W4 := by rw [h4]; exact Below.refl _ _
 have t2 := box_there g2
 have t4 := box_there g4
 rw [s1] at t2
 rw [s3] at t4
 exact ⟨⟨box_later g1 rfl, box_later g1 rfl, box_later g1 rfl, box_later g1 rfl, box_later g1 rfl, box_later g1 rfl⟩,
  by rw [← s1]; exact ⟨box_later g2 rfl, box_later g2 rfl, box_later g2 rfl, box_later g2 rfl, box_later g2 rfl, box_later g2 rfl⟩,
  by rw [← s2]; exact box_later g3 rfl, by rw [← s2]; exact box_later g3 rfl,
  by rw [← s3]; exact ⟨box_later g4 rfl, box_later g4 rfl, box_later g4 rfl, box_later g4 rfl, box_later g4 rfl, box_later g4 rfl⟩,
  t2, t4, by omega, b1.trans (c14.mono (by omega))⟩
/-- what is read stays, where another block is written -/
theorem rd_puts {w : World} {v : Value} {n k : Nat} {xs : List Value} (h : RdAt w v n k xs) {g o : Nat} (hg : ∀ q, v.ownBlock = some q → q ≠ g) (vs : List Value) : RdAt (w.setCells g o vs) v n k xs := by
 refine ⟨h.1, ?_⟩
 rcases h.2 with h | ⟨a, c, rfl, hc, hr⟩
 ·exact .inl h
 ·refine .inr ⟨a, c, rfl, hc, fun hn => ?_⟩
  obtain ⟨b, o', rfl, hlt, hcell⟩ := hr hn
  have hne := hg b rfl
  refine ⟨b, o', rfl, Nat.lt_of_lt_of_le hlt (below_puts_base (g := g) (o := o) (Below.refl 0 w) (Nat.zero_le _) vs).size, fun j x hx => ?_⟩
  rw [World.cell?_setCells_out _ _ _ _ _ (fun hb _ => absurd hb hne)]
  exact hcell j x hx
end Go.Proofs.YtgbapkechngnmaaGreat
/- Several parts in one: lychgateref06.Name: a contract, the same as match.Name's. lychgateref06.Ahead, Right: contracts, the same as match's. lychgateref06.Right: a contract, the same as match.Right's. -/
namespace Go.Proofs.YtgbapkechngnmaaGreat.refName
open Go.RowKit

/-- what the loop asks of the bytes that it saw -/
def clB (l : List UInt8) : Bool := !(l.head?.any fun c => digN c.toNat) && !(l.any fun c => oddN c.toNat)
theorem nameL_clB (l : List UInt8) : nameL l = (decide (1 ≤ l.length) && decide (l.length ≤ 12) && clB l) := by
 cases l with
 | nil => rfl
 | cons c l => simp [nameL, clB, Bool.and_assoc]
theorem clB_one (c : UInt8) : clB [c] = (!digN c.toNat && !oddN c.toNat) := by simp [clB]
theorem clB_snoc {l : List UInt8} (h : l ≠ []) (c : UInt8) : clB (l ++ [c]) = (clB l && !oddN c.toNat) := by
 obtain ⟨d, r, rfl⟩ := List.exists_cons_of_ne_nil h
 simp [clB, Bool.and_assoc]
theorem clB_bad {l : List UInt8} (k : Nat) (h : clB (l.take k) = false) : clB l = false := by
 cases l with
 | nil => simpa using h
 | cons c l =>
  cases k with
  | zero => cases h
  | succ k =>
   rw [List.take_succ_cons] at h
   simp only [clB, List.head?_cons, Bool.and_eq_false_iff, Bool.not_eq_false'] at *
   rcases h with h | h
   ·exact .inl h
   ·right
    rw [List.any_eq_true] at *
    obtain ⟨x, hx, hp⟩ := h
    refine ⟨x, ?_, hp⟩
    rcases List.mem_cons.1 hx with rfl | hx
    ·exact List.mem_cons_self ..
    ·exact List.mem_cons_of_mem _ (List.mem_of_mem_take hx)

set_option maxHeartbeats 1600000 in
theorem name_any (s : ByteArray) (w : World) (hs : s.size ≤ maxLen) :
  Calls Tryz.prog 26 #[.string s] w fun e w' => e = .returned (.bool (nameL (B s))) ∧ w = w' := by
 unfold maxLen at hs
 have HNL : Hid (nameL (B s) = (decide (1 ≤ s.size) && decide (s.size ≤ 12) && clB (B s))) := by show _ = _; rw [nameL_clB, len_B]
 go_enter Tryz.func26, Tryz.ntmps26
 go_wp2
 go_loop [3] (fun x => ∃ k : Nat, k ≤ s.size ∧ x = .int .i64 k ∧ Hid (clB ((B s).take k) = true)) (fun x => s.size - (intOf x).toNat)
 case atStart => exact ⟨0, Nat.zero_le _, rfl, rfl⟩
 case round =>
  obtain ⟨k, hk, rfl, HC⟩ := hrel
  by_cases hlt : k < s.size
  ·have HT1 : Hid ((B s).take (k + 1) = (B s).take k ++ [s[k]]) := take_succ_B s k hlt
   have hstep : clB ((B s).take (k + 1)) = (!(oddN s[k].toNat) && !(decide (k = 0) && digN s[k].toNat)) := by
    rw [HT1.out]
    by_cases h0 : k = 0
    ·subst h0
     rw [List.take_zero, List.nil_append, clB_one]
     simp [Bool.and_comm]
    ·rw [clB_snoc (by
      intro e
      have := congrArg List.length e
      rw [List.length_take, len_B, List.length_nil] at this
      omega), HC.out]
     simp [h0]
   have HST := Lib.hid hstep
   clear hstep
   rcases (show (s[k].toNat : Int) < 48 ∨ ((48 : Int) ≤ (s[k].toNat : Int) ∧ (s[k].toNat : Int) ≤ 57) ∨ (57 < (s[k].toNat : Int) ∧ (s[k].toNat : Int) < 95) ∨ (s[k].toNat : Int) = 95 ∨ (s[k].toNat : Int) = 96 ∨ ((97 : Int) ≤ (s[k].toNat : Int) ∧ (s[k].toNat : Int) ≤ 122) ∨ 122 < (s[k].toNat : Int) by omega) with h | ⟨h, h'⟩ | ⟨h, h'⟩ | h | h | ⟨h, h'⟩ | h
   ·have ho : oddN s[k].toNat = true := by simp [oddN]; omega
    have hd : digN s[k].toNat = false := by simp [digN]; omega
    have HO := Lib.hid ho
    have HD := Lib.hid hd
    clear ho hd
    have HR : Hid (nameL (B s) = false) := by
     show _ = _
     rw [HNL.out, clB_bad (k + 1) (by rw [HST.out, HO.out]; simp), Bool.and_false]
    clear HNL
    have e1 : ((s[k].toNat : Int) != 95) = true := by rw [bne_iff_ne]; omega
    go_wp2
    go_ret
    exact ⟨by rw [HR.out]; rfl, rfl⟩
   ·have ho : oddN s[k].toNat = false := by simp [oddN]; omega
    have hd : digN s[k].toNat = true := by simp [digN]; omega
    have HO := Lib.hid ho
    have HD := Lib.hid hd
    clear ho hd
    by_cases h0 : k = 0
    ·subst h0
     have HR : Hid (nameL (B s) = false) := by
      show _ = _
      rw [HNL.out, clB_bad (0 + 1) (by rw [HST.out, HO.out, HD.out]; simp), Bool.and_false]
     clear HNL
     have e1 : ((s[0].toNat : Int) != 95) = true := by rw [bne_iff_ne]; omega
     go_wp2
     go_ret
     exact ⟨by rw [HR.out]; rfl, rfl⟩
    ·have hk0 : 0 < k := by omega
     have HN : Hid (clB ((B s).take (k + 1)) = true) := by show _ = _; rw [HST.out, HO.out]; simp [h0]
     have e1 : ((s[k].toNat : Int) != 95) = true := by rw [bne_iff_ne]; omega
     clear h0
     go_wp2
     go_round
     case rel => exact ⟨k + 1, by omega, by go_num, HN⟩
     case measure => simp [intOf]; omega
   ·have ho : oddN s[k].toNat = true := by simp [oddN]; omega
    have hd : digN s[k].toNat = false := by simp [digN]; omega
    have HO := Lib.hid ho
    have HD := Lib.hid hd
    clear ho hd
    have HR : Hid (nameL (B s) = false) := by
     show _ = _
     rw [HNL.out, clB_bad (k + 1) (by rw [HST.out, HO.out]; simp), Bool.and_false]
    clear HNL
    have e1 : ((s[k].toNat : Int) != 95) = true := by rw [bne_iff_ne]; omega
    go_wp2
    go_ret
    exact ⟨by rw [HR.out]; rfl, rfl⟩
   ·have ho : oddN s[k].toNat = false := by simp [oddN]; omega
    have hd : digN s[k].toNat = false := by simp [digN]; omega
    have HO := Lib.hid ho
    have HD := Lib.hid hd
    clear ho hd
    have HN : Hid (clB ((B s).take (k + 1)) = true) := by show _ = _; rw [HST.out, HO.out, HD.out]; simp
    have e1 : ((s[k].toNat : Int) != 95) = false := by rw [bne_eq_false_iff_eq]; omega
    have e2 : (s[k].toNat : Int) < 97 := by omega
    clear h
    go_wp2
    go_round
    case rel => exact ⟨k + 1, by omega, by go_num, HN⟩
    case measure => simp [intOf]; omega
   ·have ho : oddN s[k].toNat = true := by simp [oddN]; omega
    have hd : digN s[k].toNat = false := by simp [digN]; omega
    have HO := Lib.hid ho
    have HD := Lib.hid hd
    clear ho hd
    have HR : Hid (nameL (B s) = false) := by
     show _ = _
     rw [HNL.out, clB_bad (k + 1) (by rw [HST.out, HO.out]; simp), Bool.and_false]
    clear HNL
    have e1 : ((s[k].toNat : Int) != 95) = true := by rw [bne_iff_ne]; omega
    have e2 : (s[k].toNat : Int) < 97 := by omega
    have e3 : 57 < (s[k].toNat : Int) := by omega
    clear h
    go_wp2
    go_ret
    exact ⟨by rw [HR.out]; rfl, rfl⟩
   ·have ho : oddN s[k].toNat = false := by simp [oddN]; omega
    have hd : digN s[k].toNat = false := by simp [digN]; omega
    have HO := Lib.hid ho
    have HD := Lib.hid hd
    clear ho hd
    have HN : Hid (clB ((B s).take (k + 1)) = true) := by show _ = _; rw [HST.out, HO.out, HD.out]; simp
    go_wp2
    go_round
    case rel => exact ⟨k + 1, by omega, by go_num, HN⟩
    case measure => simp [intOf]; omega
   ·have ho : oddN s[k].toNat = true := by simp [oddN]; omega
    have hd : digN s[k].toNat = false := by simp [digN]; omega
    have HO := Lib.hid ho
    have HD := Lib.hid hd
    clear ho hd
    have HR : Hid (nameL (B s) = false) := by
     show _ = _
     rw [HNL.out, clB_bad (k + 1) (by rw [HST.out, HO.out]; simp), Bool.and_false]
    clear HNL
    have e1 : ((s[k].toNat : Int) != 95) = true := by rw [bne_iff_ne]; omega
    have e4 : decide ((s[k].toNat : Int) ≤ 122) = false := by rw [decide_eq_false_iff_not]; omega
    go_wp2
    go_ret
    exact ⟨by rw [HR.out]; rfl, rfl⟩
  ·obtain rfl : k = s.size := by omega
   have HC' : Hid (clB (B s) = true) := by
    have := HC.out
    rw [take_all_B] at this
    exact this
   clear HC
   by_cases h1 : 1 ≤ (s.size : Int)
   ·by_cases h2 : (s.size : Int) ≤ 12
    ·have HR : Hid (nameL (B s) = true) := by
      show _ = _
      rw [HNL.out, HC'.out, decide_eq_true (by omega), decide_eq_true (by omega)]; rfl
     clear HNL
     go_wp2
     go_ret
     exact ⟨by rw [HR.out]; rfl, rfl⟩
    ·have HR : Hid (nameL (B s) = false) := by
      show _ = _
      rw [HNL.out, decide_eq_false (p := s.size ≤ 12) (by omega)]; simp
     clear HNL
     go_wp2
     go_ret
     exact ⟨by rw [HR.out]; rfl, rfl⟩
   ·have HR : Hid (nameL (B s) = false) := by
     show _ = _
     rw [HNL.out, decide_eq_false (p := 1 ≤ s.size) (by omega)]; simp
    clear HNL
    go_wp2
    go_ret
    exact ⟨by rw [HR.out]; rfl, rfl⟩
end Go.Proofs.YtgbapkechngnmaaGreat.refName
namespace Go.Proofs.YtgbapkechngnmaaGreat
open Go.RowKit

theorem less_at {a b : List UInt8} : ∀ (k : Nat) (ha : k < a.length) (hb : k < b.length), a.take k = b.take k → a[k] ≠ b[k] → Op.bytesLess a b = decide (a[k] < b[k]) := by
 intro k
 induction k generalizing a b with
 | zero =>
  intro ha hb _ hne
  obtain ⟨x, a, rfl⟩ := List.exists_cons_of_length_pos ha
  obtain ⟨y, b, rfl⟩ := List.exists_cons_of_length_pos hb
  simp only [List.getElem_cons_zero] at hne ⊢
  have h1 : (x == y) = false := by rw [beq_eq_false_iff_ne]; exact hne
  simp [Op.bytesLess, h1]
 | succ k ih =>
  intro ha hb ht hne
  obtain ⟨x, a, rfl⟩ := List.exists_cons_of_length_pos (Nat.lt_of_le_of_lt (Nat.zero_le _) ha)
  obtain ⟨y, b, rfl⟩ := List.exists_cons_of_length_pos (Nat.lt_of_le_of_lt (Nat.zero_le _) hb)
  simp only [List.take_succ_cons, List.cons.injEq] at ht
  obtain ⟨rfl, ht⟩ := ht
  simp only [List.getElem_cons_succ] at hne ⊢
  have := ih (by simpa using ha) (by simpa using hb) ht hne
  simp [Op.bytesLess, this]
theorem less_end {a b : List UInt8} : ∀ (k : Nat), a.take k = b.take k → (k = a.length ∧ k ≤ b.length ∨ k = b.length ∧ k ≤ a.length) → Op.bytesLess a b = decide (a.length < b.length) := by
 intro k
 induction k generalizing a b with
 | zero =>
  intro _ h
  rcases h with ⟨h, _⟩ | ⟨h, _⟩
  ·have : a = [] := List.length_eq_zero_iff.1 h.symm
   subst this
   cases b <;> simp [Op.bytesLess]
  ·have : b = [] := List.length_eq_zero_iff.1 h.symm
   subst this
   cases a <;> simp [Op.bytesLess]
 | succ k ih =>
  intro ht h
  have ha : 0 < a.length := by omega
  have hb : 0 < b.length := by omega
  obtain ⟨x, a, rfl⟩ := List.exists_cons_of_length_pos ha
  obtain ⟨y, b, rfl⟩ := List.exists_cons_of_length_pos hb
  simp only [List.take_succ_cons, List.cons.injEq] at ht
  obtain ⟨rfl, ht⟩ := ht
  simp only [List.length_cons] at h ⊢
  have := ih ht (by omega)
  simp [Op.bytesLess, this]
theorem B_at (s : ByteArray) (k : Nat) (h : k < s.size) (h' : k < (B s).length) : (B s)[k] = s[k] := by
 have h1 := take_succ_B s k h
 rw [List.take_succ_eq_append_getElem h'] at h1
 have := List.append_cancel_left h1
 simpa using this
set_option maxHeartbeats 1600000 in
set_option maxRecDepth 100000 in
theorem rahead_any (a b : ByteArray) (w : World) (ha : a.size ≤ maxLen) :
  Calls Tryz.prog 57 #[.string a, .string b] w fun e w' => e = .returned (.bool (ltS a b)) ∧ Below w.heap.size w w' := by
 unfold maxLen at ha
 have HL : Hid (ltS a b = Op.bytesLess (B a) (B b)) := by show _ = _; unfold ltS; rw [toList_B, toList_B]
 go_enter Tryz.func57, Tryz.ntmps57
 go_wp2
 go_loopw [5] (fun i wr => ∃ k : Nat, k ≤ a.size ∧ k ≤ b.size ∧ i = .int .i64 k ∧ Hid ((B a).take k = (B b).take k) ∧ Below w.heap.size w wr) (fun i _ => a.size - (intOf i).toNat)
 case atStart => exact ⟨0, Nat.zero_le _, Nat.zero_le _, rfl, Lib.hid rfl, Below.refl _ _⟩
 case round =>
  obtain ⟨k, hk1, hk2, rfl, HT, hbr⟩ := hrel
  by_cases h1 : k < a.size
  ·by_cases h2 : k < b.size
   ·obtain ⟨x, hx⟩ : ∃ x, a[k] = x := ⟨_, rfl⟩
    obtain ⟨y, hy⟩ : ∃ y, b[k] = y := ⟨_, rfl⟩
    have l1 : k < (B a).length := by rw [len_B]; exact h1
    have l2 : k < (B b).length := by rw [len_B]; exact h2
    by_cases hxy : x = y
    ·have HN : Hid ((B a).take (k + 1) = (B b).take (k + 1)) := take_step HT.out l1 l2 (by rw [B_at a k h1 l1, B_at b k h2 l2, hx, hy, hxy])
     have hne : ((x.toNat : Int) != (y.toNat : Int)) = false := by rw [hxy]; simp
     clear l1 l2 hxy
     go_wp2
     go_quiet (fail)
     have hb2 : Below w.heap.size w (wr.drewN nq) := bl_drewN hbr nq
     generalize wr.drewN nq = wq at *
     go_wp2
     go_roundw
     case rel => exact ⟨k + 1, by omega, by omega, by go_num, HN, hb2⟩
     case measure => simp [intOf]; omega
    ·have hr : ltS a b = decide (x < y) := by
      rw [HL.out, less_at k l1 l2 HT.out (by rw [B_at a k h1 l1, B_at b k h2 l2, hx, hy]; exact hxy), B_at a k h1 l1, B_at b k h2 l2, hx, hy]
     have HR := Lib.hid hr
     have hne : ((x.toNat : Int) != (y.toNat : Int)) = true := by
      rw [bne_iff_ne]; intro h; exact hxy (UInt8.toNat_inj.1 (by omega))
     clear l1 l2 hxy hr
     go_wp2
     go_quiet (fail)
     have hb2 : Below w.heap.size w (wr.drewN nq) := bl_drewN hbr nq
     generalize wr.drewN nq = wq at *
     clear nq
     go_wp2
     go_quiet (fail)
     have hb3 : Below w.heap.size w (wq.drewN nq) := bl_drewN hb2 nq
     generalize wq.drewN nq = wz at *
     go_wp2
     go_ret
     exact ⟨by rw [HR.out]; simp [UInt8.lt_iff_toNat_lt], hb3⟩
   ·obtain rfl : k = b.size := by omega
    have hr : ltS a b = decide ((B a).length < (B b).length) := by rw [HL.out]; exact less_end b.size HT.out (.inr ⟨(len_B b).symm, by rw [len_B]; exact hk1⟩)
    rw [len_B, len_B] at hr
    have HR := Lib.hid hr
    clear hr
    go_wp2
    go_ret
    exact ⟨by rw [HR.out]; simp, hbr⟩
  ·obtain rfl : k = a.size := by omega
   have hr : ltS a b = decide ((B a).length < (B b).length) := by rw [HL.out]; exact less_end a.size HT.out (.inl ⟨(len_B a).symm, by rw [len_B]; exact hk2⟩)
   rw [len_B, len_B] at hr
   have HR := Lib.hid hr
   clear hr
   go_wp2
   go_ret
   exact ⟨by rw [HR.out]; simp, hbr⟩
end Go.Proofs.YtgbapkechngnmaaGreat
namespace Go.Proofs.YtgbapkechngnmaaGreat
open Go.RowKit

set_option maxHeartbeats 3200000 in
set_option maxRecDepth 100000 in
theorem rright6_any (l : List Fld) (w : World) (v : Value) (hv : FldsAt w v l) (hf : FldsFit l) (hl : l.length ≤ maxLen) :
  Calls Tryz.prog 31 #[v] w fun e w' => e = .returned (.bool (rightF l)) ∧ Below w.heap.size w w' := by
 unfold maxLen at hl
 obtain ⟨a, c, rfl, hc, hr⟩ := RdAt.shape hv
 have HR := Lib.hid hr
 have HF := Lib.hid hf
 clear hr hv hf
 go_enter Tryz.func31, Tryz.ntmps31
 go_wp2
 go_loopw [3] (fun i wr => ∃ k : Nat, k ≤ l.length ∧ i = .int .i64 k ∧ Hid (∀ j, j < k → fldOk l j = true) ∧ Below w.heap.size w wr) (fun i _ => l.length - (intOf i).toNat)
 case atStart => exact ⟨0, Nat.zero_le _, rfl, Lib.hid (fun j hj => absurd hj (Nat.not_lt_zero j)), Below.refl _ _⟩
 case round =>
  obtain ⟨k, hk, rfl, HT, hbr⟩ := hrel
  by_cases hkl : k < l.length
  ·obtain ⟨b, o, rfl, hb, hcell⟩ := HR.out (by omega)
   obtain ⟨x, hxe⟩ : ∃ x, l[k].1 = x := ⟨_, rfl⟩
   obtain ⟨y, hye⟩ : ∃ y, l[k].2 = y := ⟨_, rfl⟩
   have hfs := HF.out _ (List.getElem_mem hkl)
   rw [hxe, hye] at hfs
   obtain ⟨hx0, hy0⟩ := fldCells_at l k hkl
   rw [hxe] at hx0
   rw [hye] at hy0
   have a0 : wr.cell? ⟨b, o + k * 2, none⟩ = some (.string x) := keep_cell (hcell _ _ hx0) hbr hb
   have a1 : wr.cell? ⟨b, o + k * 2 + 1, none⟩ = some (.string y) := keep_cell (by have := hcell _ _ hy0; rwa [← Nat.add_assoc] at this) hbr hb
   have hwb : b < wr.heap.size := Nat.lt_of_lt_of_le hb hbr.size
   have hall : ∀ j v, (fldCells l)[j]? = some v → wr.cell? ⟨b, o + j, none⟩ = some v := fun j v hj => keep_cell (hcell _ _ hj) hbr hb
   have hn : ∀ W, Calls Tryz.prog 26 #[.string x] W fun e w' => e = .returned (.bool (nameL (B x))) ∧ w' = W := fun W => (refName.name_any x W hfs.1).mono (by rintro e w' ⟨h1, h2⟩; exact ⟨h1, h2.symm⟩)
   have hys : y.size ≤ 9223372036854775807 := by have := hfs.2; unfold maxLen at this; omega
   have hstep : fldOk l k = true → Hid (∀ j, j < k + 1 → fldOk l j = true) := fun h => Lib.hid (fun j hj => by
    rcases Nat.lt_or_ge j k with h' | h'
    ·exact HT.out j h'
    ·obtain rfl : j = k := by omega
     exact h)
   have hbad : fldOk l k = false → Hid (rightF l = false) := fun h => rightF_bad hkl h
   have hgx : l.getD k default = (x, y) := by rw [List.getD_eq_getElem?_getD, List.getElem?_eq_getElem hkl]; show l[k] = _; rw [← hxe, ← hye]
   unfold fldOk at hstep hbad
   rw [hgx] at hstep hbad
   clear hcell hx0 hy0 hxe hye hgx HT
   cases hnm : nameL (B x)
   ·have HZ := hbad (by rw [hnm]; rfl)
    rw [hnm] at hn
    clear hstep hbad hall hnm hfs
    go_upto_region 4 with fail
    refine wp_region_held_drew (S := (fun W => W.cell? ⟨b, o + k * 2, none⟩ = some (.string x) ∧ W.cell? ⟨b, o + k * 2 + 1, none⟩ = some (.string y))) (by kernel_rfl) ⟨a0, a1⟩ (fun hHeld => ?_)
    refine plIn [0, 1, 2, 3, 4] ?_
    iterate 5
     refine hP (v := ?_) rfl rfl hHeld ?_ ?_
     rotate_left
     ·rintro wh ⟨z0, z1⟩
      go_simp
      (try with_reducible rfl)
     simp only [Act.put, List.setIfInBounds_toArray, List.set_cons_zero, List.set_cons_succ]
    refine plOut ?_
    refine held_call (i := 5) rfl (by kernel_rfl) (by rfl) (fun K hK => ?_)
    (go_simp; go_at_call 26; refine (hn _).mono ?_; rintro e w1 ⟨rfl, rfl⟩; have hB1 : Below wr.heap.size wr wr.drew := (Below.refl _ _).drew)
    refine hK.out _ _ ⟨keep_cell a0 hB1 hwb, keep_cell a1 hB1 hwb⟩ (fun hHeld => ?_)
    clear hK K
    (try simp only [Act.put, List.setIfInBounds_toArray, List.set_cons_zero, List.set_cons_succ])
    refine plIn [6, 7] ?_
    iterate 2
     refine hP (v := ?_) rfl rfl hHeld ?_ ?_
     rotate_left
     ·rintro wh ⟨z0, z1⟩
      go_simp
      (try with_reducible rfl)
     simp only [Act.put, List.setIfInBounds_toArray, List.set_cons_zero, List.set_cons_succ]
    refine plOut ?_
    refine plIn [8, 9, 10, 11, 12, 13, 14] ?_
    iterate 7
     refine hK rfl rfl hHeld ?_
     simp only [Act.put, List.setIfInBounds_toArray, List.set_cons_zero, List.set_cons_succ]
    refine plOut ?_
    refine plIn [15, 16] ?_
    iterate 2
     refine hP (v := ?_) rfl rfl hHeld ?_ ?_
     rotate_left
     ·rintro wh ⟨z0, z1⟩
      go_simp
      (try with_reducible rfl)
     simp only [Act.put, List.setIfInBounds_toArray, List.set_cons_zero, List.set_cons_succ]
    refine plOut ?_
    refine plIn [17, 18, 19, 20, 21, 22, 23, 24, 25, 26, 27, 28, 29, 30, 31, 32, 33] ?_
    iterate 17
     refine hK rfl rfl hHeld ?_
     simp only [Act.put, List.setIfInBounds_toArray, List.set_cons_zero, List.set_cons_succ]
    refine plOut ?_
    refine hT (i := 34) (v := ?_) rfl rfl hHeld ?_ ?_
    rotate_left
    ·rintro wh ⟨z0, z1⟩
     go_simp
     (try with_reducible rfl)
    simp only [Act.put, List.setIfInBounds_toArray, List.set_cons_zero, List.set_cons_succ]
    refine wpAnyH_done (by kernel_rfl) ?_ _
    have hbn : Below w.heap.size w wr.drew := hbr.trans (hB1.mono hbr.size)
    clear hB1 hn
    generalize wr.drew = wq at *
    go_wp2
    go_ret
    exact ⟨by rw [HZ.out]; rfl, hbn⟩
   ·rw [hnm] at hn
    by_cases hy2 : y.size ≤ 200
    ·have g1 : decide ((200 : Int) < (y.size : Int)) = false := decide_eq_false (by omega)
     rcases Nat.eq_zero_or_pos k with hk0 | hk0
     ·have HN := hstep (by rw [hnm, decide_eq_true hy2, decide_eq_true hk0]; rfl)
      subst hk0
      rw [Nat.zero_mul, Nat.add_zero] at a0 a1
      clear hstep hbad hall hnm hy2 hfs
      go_upto_region 4 with fail
      refine wp_region_held_drew (S := (fun W => W.cell? ⟨b, o, none⟩ = some (.string x) ∧ W.cell? ⟨b, o + 1, none⟩ = some (.string y))) (by kernel_rfl) ⟨a0, a1⟩ (fun hHeld => ?_)
      refine plIn [0, 1, 2, 3, 4] ?_
      iterate 5
       refine hP (v := ?_) rfl rfl hHeld ?_ ?_
       rotate_left
       ·rintro wh ⟨z0, z1⟩
        go_simp
        (try with_reducible rfl)
       simp only [Act.put, List.setIfInBounds_toArray, List.set_cons_zero, List.set_cons_succ]
      refine plOut ?_
      refine held_call (i := 5) rfl (by kernel_rfl) (by rfl) (fun K hK => ?_)
      (go_simp; go_at_call 26; refine (hn _).mono ?_; rintro e w1 ⟨rfl, rfl⟩; have hB1 : Below wr.heap.size wr wr.drew := (Below.refl _ _).drew)
      refine hK.out _ _ ⟨keep_cell a0 hB1 hwb, keep_cell a1 hB1 hwb⟩ (fun hHeld => ?_)
      clear hK K
      (try simp only [Act.put, List.setIfInBounds_toArray, List.set_cons_zero, List.set_cons_succ])
      refine plIn [6, 7, 8, 9, 10, 11, 12, 13, 14, 15, 16, 17, 18, 19] ?_
      iterate 14
       refine hP (v := ?_) rfl rfl hHeld ?_ ?_
       rotate_left
       ·rintro wh ⟨z0, z1⟩
        go_simp
        (try with_reducible rfl)
       simp only [Act.put, List.setIfInBounds_toArray, List.set_cons_zero, List.set_cons_succ]
      refine plOut ?_
      refine plIn [20, 21, 22, 23, 24, 25, 26, 27, 28, 29, 30, 31, 32] ?_
      iterate 13
       refine hK rfl rfl hHeld ?_
       simp only [Act.put, List.setIfInBounds_toArray, List.set_cons_zero, List.set_cons_succ]
      refine plOut ?_
      refine plIn [33, 34] ?_
      iterate 2
       refine hP (v := ?_) rfl rfl hHeld ?_ ?_
       rotate_left
       ·rintro wh ⟨z0, z1⟩
        go_simp
        (try with_reducible rfl)
       simp only [Act.put, List.setIfInBounds_toArray, List.set_cons_zero, List.set_cons_succ]
      refine plOut ?_
      refine wpAnyH_done (by kernel_rfl) ?_ _
      have hbn : Below w.heap.size w wr.drew := hbr.trans (hB1.mono hbr.size)
      clear hB1 hn
      generalize wr.drew = wq at *
      go_wp2
      go_roundw
      case rel => exact ⟨0 + 1, by omega, by go_num, HN, hbn⟩
      case measure => (simp [intOf]; try omega)
     ·obtain ⟨m, hm⟩ : ∃ m, k = m + 1 := ⟨k - 1, by omega⟩
      have hml : m < l.length := by omega
      obtain ⟨z, hze⟩ : ∃ z, l[m].1 = z := ⟨_, rfl⟩
      have hfz := (HF.out _ (List.getElem_mem hml)).1
      rw [hze] at hfz
      obtain ⟨hz0, _⟩ := fldCells_at l m hml
      rw [hze] at hz0
      have az : wr.cell? ⟨b, o + m * 2, none⟩ = some (.string z) := hall _ _ hz0
      have hgz : (l.getD (k - 1) default).1 = z := by
       rw [hm, Nat.add_sub_cancel, List.getD_eq_getElem?_getD, List.getElem?_eq_getElem hml]; exact hze
      have hkz : decide (k = 0) = false := decide_eq_false (by omega)
      rw [hgz, hnm, decide_eq_true hy2, hkz] at hstep hbad
      have k0 : (0 : Int) < (k : Int) := by omega
      have hw1 : IntKind.i64.wrap ((k : Int) - 1) = (m : Int) := by rw [IntKind.wrap_i64]; omega
      have hI1 : (m : Int) < (l.length : Int) := by omega
      have hah := fun W => rahead_any z x W hfz
      obtain ⟨lt, hlt⟩ : ∃ lt, ltS z x = lt := ⟨_, rfl⟩
      rw [hlt] at hstep hbad
      simp only [hlt] at hah
      have HM := Lib.hid hm
      clear hnm hy2 hze hkz hall hz0 hgz hfz hfs hlt hm
      cases lt
      ·have HZ := hbad rfl
       clear hstep hbad
       go_upto_region 4 with fail
       refine wp_region_held_drew (S := (fun W => W.cell? ⟨b, o + k * 2, none⟩ = some (.string x) ∧ W.cell? ⟨b, o + k * 2 + 1, none⟩ = some (.string y) ∧ W.cell? ⟨b, o + m * 2, none⟩ = some (.string z))) (by kernel_rfl) ⟨a0, a1, az⟩ (fun hHeld => ?_)
       refine plIn [0, 1, 2, 3, 4] ?_
       iterate 5
        refine hP (v := ?_) rfl rfl hHeld ?_ ?_
        rotate_left
        ·rintro wh ⟨z0, z1, z2⟩
         go_simp
         (try with_reducible rfl)
        simp only [Act.put, List.setIfInBounds_toArray, List.set_cons_zero, List.set_cons_succ]
       refine plOut ?_
       refine held_call (i := 5) rfl (by kernel_rfl) (by rfl) (fun K hK => ?_)
       (go_simp; go_at_call 26; refine (hn _).mono ?_; rintro e w1 ⟨rfl, rfl⟩; have hB1 : Below wr.heap.size wr wr.drew := (Below.refl _ _).drew)
       refine hK.out _ _ ⟨keep_cell a0 hB1 hwb, keep_cell a1 hB1 hwb, keep_cell az hB1 hwb⟩ (fun hHeld => ?_)
       clear hK K
       (try simp only [Act.put, List.setIfInBounds_toArray, List.set_cons_zero, List.set_cons_succ])
       refine plIn [6, 7, 8, 9, 10, 11, 12, 13, 14, 15, 16, 17, 18, 19, 20, 21, 22, 23, 24, 25, 26, 27, 28, 29, 30] ?_
       iterate 25
        refine hP (v := ?_) rfl rfl hHeld ?_ ?_
        rotate_left
        ·rintro wh ⟨z0, z1, z2⟩
         go_simp
         (try with_reducible rfl)
        simp only [Act.put, List.setIfInBounds_toArray, List.set_cons_zero, List.set_cons_succ]
       refine plOut ?_
       refine held_call (i := 31) rfl (by kernel_rfl) (by rfl) (fun K hK => ?_)
       (go_simp; go_at_call 57; refine (hah _).mono ?_; rintro e w2 ⟨rfl, hb2⟩; have hB2 : Below wr.heap.size wr w2 := hB1.trans hb2)
       refine hK.out _ _ ⟨keep_cell a0 hB2 hwb, keep_cell a1 hB2 hwb, keep_cell az hB2 hwb⟩ (fun hHeld => ?_)
       clear hK K
       (try simp only [Act.put, List.setIfInBounds_toArray, List.set_cons_zero, List.set_cons_succ])
       refine plIn [32, 33, 34] ?_
       iterate 3
        refine hP (v := ?_) rfl rfl hHeld ?_ ?_
        rotate_left
        ·rintro wh ⟨z0, z1, z2⟩
         go_simp
         (try with_reducible rfl)
        simp only [Act.put, List.setIfInBounds_toArray, List.set_cons_zero, List.set_cons_succ]
       refine plOut ?_
       refine wpAnyH_done (by kernel_rfl) ?_ _
       have hbn : Below w.heap.size w w2 := hbr.trans (hB2.mono hbr.size)
       clear hB1 hB2 hb2 hn hah
       go_wp2
       go_ret
       exact ⟨by rw [HZ.out]; rfl, hbn⟩
      ·have HN := hstep rfl
       clear hstep hbad
       go_upto_region 4 with fail
       refine wp_region_held_drew (S := (fun W => W.cell? ⟨b, o + k * 2, none⟩ = some (.string x) ∧ W.cell? ⟨b, o + k * 2 + 1, none⟩ = some (.string y) ∧ W.cell? ⟨b, o + m * 2, none⟩ = some (.string z))) (by kernel_rfl) ⟨a0, a1, az⟩ (fun hHeld => ?_)
       refine plIn [0, 1, 2, 3, 4] ?_
       iterate 5
        refine hP (v := ?_) rfl rfl hHeld ?_ ?_
        rotate_left
        ·rintro wh ⟨z0, z1, z2⟩
         go_simp
         (try with_reducible rfl)
        simp only [Act.put, List.setIfInBounds_toArray, List.set_cons_zero, List.set_cons_succ]
       refine plOut ?_
       refine held_call (i := 5) rfl (by kernel_rfl) (by rfl) (fun K hK => ?_)
       (go_simp; go_at_call 26; refine (hn _).mono ?_; rintro e w1 ⟨rfl, rfl⟩; have hB1 : Below wr.heap.size wr wr.drew := (Below.refl _ _).drew)
       refine hK.out _ _ ⟨keep_cell a0 hB1 hwb, keep_cell a1 hB1 hwb, keep_cell az hB1 hwb⟩ (fun hHeld => ?_)
       clear hK K
       (try simp only [Act.put, List.setIfInBounds_toArray, List.set_cons_zero, List.set_cons_succ])
       refine plIn [6, 7, 8, 9, 10, 11, 12, 13, 14, 15, 16, 17, 18, 19, 20, 21, 22, 23, 24, 25, 26, 27, 28, 29, 30] ?_
       iterate 25
        refine hP (v := ?_) rfl rfl hHeld ?_ ?_
        rotate_left
        ·rintro wh ⟨z0, z1, z2⟩
         go_simp
         (try with_reducible rfl)
        simp only [Act.put, List.setIfInBounds_toArray, List.set_cons_zero, List.set_cons_succ]
       refine plOut ?_
       refine held_call (i := 31) rfl (by kernel_rfl) (by rfl) (fun K hK => ?_)
       (go_simp; go_at_call 57; refine (hah _).mono ?_; rintro e w2 ⟨rfl, hb2⟩; have hB2 : Below wr.heap.size wr w2 := hB1.trans hb2)
       refine hK.out _ _ ⟨keep_cell a0 hB2 hwb, keep_cell a1 hB2 hwb, keep_cell az hB2 hwb⟩ (fun hHeld => ?_)
       clear hK K
       (try simp only [Act.put, List.setIfInBounds_toArray, List.set_cons_zero, List.set_cons_succ])
       refine plIn [32, 33, 34] ?_
       iterate 3
        refine hP (v := ?_) rfl rfl hHeld ?_ ?_
        rotate_left
        ·rintro wh ⟨z0, z1, z2⟩
         go_simp
         (try with_reducible rfl)
        simp only [Act.put, List.setIfInBounds_toArray, List.set_cons_zero, List.set_cons_succ]
       refine plOut ?_
       refine wpAnyH_done (by kernel_rfl) ?_ _
       have hbn : Below w.heap.size w w2 := hbr.trans (hB2.mono hbr.size)
       clear hB1 hB2 hb2 hn hah
       go_wp2
       go_roundw
       case rel => exact ⟨k + 1, by omega, by go_num, HN, hbn⟩
       case measure => (simp [intOf]; try omega)
    ·have g1 : (200 : Int) < (y.size : Int) := by omega
     have HZ := hbad (by rw [hnm, decide_eq_false hy2]; rfl)
     clear hstep hbad hall hnm hy2 hfs
     go_upto_region 4 with fail
     refine wp_region_held_drew (S := (fun W => W.cell? ⟨b, o + k * 2, none⟩ = some (.string x) ∧ W.cell? ⟨b, o + k * 2 + 1, none⟩ = some (.string y))) (by kernel_rfl) ⟨a0, a1⟩ (fun hHeld => ?_)
     refine plIn [0, 1, 2, 3, 4] ?_
     iterate 5
      refine hP (v := ?_) rfl rfl hHeld ?_ ?_
      rotate_left
      ·rintro wh ⟨z0, z1⟩
       go_simp
       (try with_reducible rfl)
      simp only [Act.put, List.setIfInBounds_toArray, List.set_cons_zero, List.set_cons_succ]
     refine plOut ?_
     refine held_call (i := 5) rfl (by kernel_rfl) (by rfl) (fun K hK => ?_)
     (go_simp; go_at_call 26; refine (hn _).mono ?_; rintro e w1 ⟨rfl, rfl⟩; have hB1 : Below wr.heap.size wr wr.drew := (Below.refl _ _).drew)
     refine hK.out _ _ ⟨keep_cell a0 hB1 hwb, keep_cell a1 hB1 hwb⟩ (fun hHeld => ?_)
     clear hK K
     (try simp only [Act.put, List.setIfInBounds_toArray, List.set_cons_zero, List.set_cons_succ])
     refine plIn [6, 7, 8, 9, 10, 11, 12, 13, 14, 15, 16] ?_
     iterate 11
      refine hP (v := ?_) rfl rfl hHeld ?_ ?_
      rotate_left
      ·rintro wh ⟨z0, z1⟩
       go_simp
       (try with_reducible rfl)
      simp only [Act.put, List.setIfInBounds_toArray, List.set_cons_zero, List.set_cons_succ]
     refine plOut ?_
     refine plIn [17, 18, 19, 20, 21, 22, 23, 24, 25, 26, 27, 28, 29, 30, 31, 32, 33] ?_
     iterate 17
      refine hK rfl rfl hHeld ?_
      simp only [Act.put, List.setIfInBounds_toArray, List.set_cons_zero, List.set_cons_succ]
     refine plOut ?_
     refine hT (i := 34) (v := ?_) rfl rfl hHeld ?_ ?_
     rotate_left
     ·rintro wh ⟨z0, z1⟩
      go_simp
      (try with_reducible rfl)
     simp only [Act.put, List.setIfInBounds_toArray, List.set_cons_zero, List.set_cons_succ]
     refine wpAnyH_done (by kernel_rfl) ?_ _
     have hbn : Below w.heap.size w wr.drew := hbr.trans (hB1.mono hbr.size)
     clear hB1 hn
     generalize wr.drew = wq at *
     go_wp2
     go_ret
     exact ⟨by rw [HZ.out]; rfl, hbn⟩
  ·obtain rfl : k = l.length := by omega
   have HG : Hid (rightF l = decide (l.length ≤ 8)) := rightF_good HT.out
   clear HT
   by_cases h8 : l.length ≤ 8
   ·have h8' : ((l.length : Int) ≤ 8) := by omega
    go_wp2
    go_ret
    exact ⟨by rw [HG.out]; simp; omega, hbr⟩
   ·have h8' : (8 : Int) < (l.length : Int) := by omega
    go_wp2
    go_ret
    exact ⟨by rw [HG.out]; simp; omega, hbr⟩
end Go.Proofs.YtgbapkechngnmaaGreat
/- Several parts in one: lychgateref06.With: a contract. lychgateref06.Good: a contract: fields that may be. lychgateref09.Good: a contract. -/
namespace Go.Proofs.YtgbapkechngnmaaGreat
open Go.RowKit

theorem fit_snoc {L : List Fld} {x y : ByteArray} (h : FldsFit L) (hx : x.size ≤ maxLen) (hy : y.size ≤ maxLen) : FldsFit (L ++ [(x, y)]) := fun f hf => by
 rcases List.mem_append.1 hf with h' | h'
 ·exact h f h'
 ·simp only [List.mem_singleton] at h'
  subst h'
  exact ⟨hx, hy⟩
/-- one round of With -/
def withS (nm val : ByteArray) (s : List Fld × Bool) (f : Fld) : List Fld × Bool :=
 let s1 := if !s.2 && !ltS f.1 nm then (s.1 ++ [(nm, val)], true) else s
 if f.1 = nm then s1 else (s1.1 ++ [f], s1.2)
def withK (l : List Fld) (nm val : ByteArray) (k : Nat) : List Fld × Bool := (l.take k).foldl (withS nm val) ([], false)
def withL (l : List Fld) (nm val : ByteArray) : List Fld := if (withK l nm val l.length).2 then (withK l nm val l.length).1 else (withK l nm val l.length).1 ++ [(nm, val)]
theorem withK_step {l : List Fld} {nm val : ByteArray} {k : Nat} (h : k < l.length) : withK l nm val (k + 1) = withS nm val (withK l nm val k) l[k] := by
 unfold withK
 rw [List.take_succ_eq_append_getElem h, List.foldl_append]
 rfl
theorem rd_fld (w : World) (x y : ByteArray) (t : TypeId) : RdAt (w.alloc (.cells #[.string x, .string y] t)) (.slice (some ⟨w.heap.size, 0, none⟩) 1 1) 1 2 [.string x, .string y] := by
 refine RdAt.mk rfl (Nat.le_refl _) (by simp) (fun j v hj => ?_)
 rw [Nat.zero_add]
 exact (World.cell?_alloc_at _ _ _ _ rfl).trans (by
  match j, hj with
  | 0, hj => exact hj
  | 1, hj => exact hj
  | j + 2, hj => simp at hj)
set_option maxHeartbeats 1600000 in
set_option maxRecDepth 100000 in
theorem rwith_any (l : List Fld) (nm val : ByteArray) (w : World) (v : Value) (hv : FldsAt w v l) (hf : FldsFit l) (hl : l.length ≤ 1000) (hnm : nm.size ≤ maxLen) (hval : val.size ≤ maxLen) :
  Calls Tryz.prog 35 #[v, .string nm, .string val] w fun e w' => ∃ v', e = .returned v' ∧ FldsAt w' v' (withL l nm val) ∧ FldsFit (withL l nm val) ∧ (withL l nm val).length ≤ 2 * l.length + 1 ∧ (∀ q, v'.ownBlock = some q → w.heap.size ≤ q) ∧ Below w.heap.size w w' := by
 obtain ⟨i0, hi, hz0, hz1, hz2⟩ := info_parts info_fld
 obtain ⟨a, c, rfl, hc, hr⟩ := RdAt.shape hv
 have HR := Lib.hid hr
 have HF := Lib.hid hf
 clear hr hv hf
 go_enter Tryz.func35, Tryz.ntmps35
 go_wp2
 go_loopw [7, 8, 9] (fun s7 s8 i wr => ∃ (k : Nat) (L : List Fld) (d : Bool), s8 = .bool d ∧ i = .int .i64 k ∧ k ≤ l.length ∧ wr.ownsRow w.heap.size 46 2 s7 L.length (fldCells L) ∧ FldsFit L ∧ L.length ≤ 2 * k ∧ Hid (withK l nm val k = (L, d)) ∧ Below w.heap.size w wr) (fun _ _ i _ => l.length - (intOf i).toNat)
 case atStart => exact ⟨0, [], false, rfl, rfl, Nat.zero_le _, World.ownsRow_nil _ _ _ _, (fun _ h => by cases h), Nat.zero_le _, Lib.hid rfl, Below.refl _ _⟩
 case round =>
  obtain ⟨k, L, d, rfl, rfl, hk, hown, hfit, hlen, HWK, hbr⟩ := hrel
  obtain ⟨va, vc, rfl, _, _⟩ := RdAt.shape (RdAt.own hown)
  by_cases hkl : k < l.length
  ·obtain ⟨b, o, rfl, hb, hcell⟩ := HR.out (by omega)
   obtain ⟨x, hxe⟩ : ∃ x, l[k].1 = x := ⟨_, rfl⟩
   obtain ⟨y, hye⟩ : ∃ y, l[k].2 = y := ⟨_, rfl⟩
   have hfs := HF.out _ (List.getElem_mem hkl)
   rw [hxe, hye] at hfs
   obtain ⟨hx0, hy0⟩ := fldCells_at l k hkl
   rw [hxe] at hx0
   rw [hye] at hy0
   have hq0 : ∀ W, Below w.heap.size w W → W.cell? ⟨b, o + k * 2, none⟩ = some (.string x) := fun W h => keep_cell (hcell _ _ hx0) h hb
   have hq1 : ∀ W, Below w.heap.size w W → W.cell? ⟨b, o + k * 2 + 1, none⟩ = some (.string y) := fun W h => keep_cell (by have := hcell _ _ hy0; rwa [← Nat.add_assoc] at this) h hb
   have HQ0 := Lib.hid hq0
   have HQ1 := Lib.hid hq1
   have HFX := Lib.hid hfs
   have hws := withK_step (nm := nm) (val := val) hkl
   rw [show l[k] = (x, y) by rw [← hxe, ← hye], HWK.out] at hws
   have HWS := Lib.hid hws
   clear hcell hx0 hy0 hxe hye hq0 hq1 hfs hws
   have hah := fun W => rahead_any x nm W HFX.out.1
   obtain ⟨lt, hlt⟩ : ∃ lt, ltS x nm = lt := ⟨_, rfl⟩
   simp only [hlt] at hah
   have HLT := Lib.hid hlt
   have a0 := HQ0.out wr hbr
   have HO := Lib.hid hown
   have HB := Lib.hid hbr
   clear hlt hown hbr
   go_upto_region 6 with fail
   go_cut [27] (fun s27 wx => s27 = .bool (!d && !lt) ∧ wx.ownsRow w.heap.size 46 2 (.slice va L.length vc) L.length (fldCells L) ∧ Below w.heap.size w wx)
   case first =>
    cases d
    ·go_wp2_with fail
     refine (hah _).mono ?_
     rintro e w1 ⟨rfl, hb1⟩
     cases lt
     ·go_wp2
      go_meet
      exact ⟨rfl, own_later HO.out hb1, HB.out.trans (hb1.mono HB.out.size)⟩
     ·go_wp2
      go_meet
      exact ⟨rfl, own_later HO.out hb1, HB.out.trans (hb1.mono HB.out.size)⟩
    ·clear hah
     go_wp2
     go_meet
     exact ⟨rfl, HO.out, HB.out⟩
   case rest =>
    obtain ⟨rfl, hown, hbr⟩ := hcut
    clear a0 hah HO HB
    obtain ⟨q, hq⟩ : ∃ q, (!d && !lt) = q := ⟨_, rfl⟩
    have HQQ := Lib.hid hq
    rw [hq]
    clear hq
    have HO := Lib.hid hown
    have HB := Lib.hid hbr
    clear hown hbr
    go_upto_if 27 with fail
    go_cut [7, 8] (fun s7 s8 wx => ∃ (L2 : List Fld) (d2 : Bool), s8 = .bool d2 ∧ wx.ownsRow w.heap.size 46 2 s7 L2.length (fldCells L2) ∧ FldsFit L2 ∧ L2.length ≤ L.length + 1 ∧ Hid ((if q then (L ++ [(nm, val)], true) else (L, d)) = (L2, d2)) ∧ Below w.heap.size w wx)
    case first =>
     cases q
     ·go_wp2
      go_meet
      exact ⟨L, d, rfl, HO.out, hfit, Nat.le_succ _, Lib.hid rfl, HB.out⟩
     ·have hown9 := HO.out.alloc (.cells #[.string nm, .string val] 46)
      have hrd := rd_fld wc nm val 46
      go_wp2_with (at_builtin; (refine wpList_append_rd rfl (.tmp 28) (.tmp 32) 22 rfl w.heap.size 46 i0 (.agg #[.string ⟨#[]⟩, .string ⟨#[]⟩]) 2 32 Tryz.underlying22 hi hz0 hz1 hz2 rfl (by decide) _ _ _ rfl hown9 _ 1 [.string nm, .string val] rfl hrd (by simp [Value.oneCell']) (by unfold maxLen; omega) (by omega) (by have := HB.out.size; simp; omega) ?_); intro v' w8 hown' hg8)
      have hB8 : Below w.heap.size w w8 := (HB.out.alloc HB.out.size _).grown hg8 (by have := HB.out.size; simp; omega) (fun j e => (hown9.lt j e).1)
      go_wp2
      go_meet
      exact ⟨L ++ [(nm, val)], true, rfl, by rw [List.length_append, fldCells_append]; exact hown', fit_snoc hfit hnm hval, by simp, Lib.hid rfl, hB8⟩
    case rest =>
     obtain ⟨L2, d2, rfl, hown, hfit2, hlen2, HIF, hbr⟩ := hcut
     have HWN : Hid (withK l nm val (k + 1) = (if x = nm then (L2, d2) else (L2 ++ [(x, y)], d2))) := by
      show _ = _
      rw [HWS.out]
      unfold withS
      simp only [HLT.out, HQQ.out, HIF.out]
     clear HIF HWS
     clear HO HB
     obtain ⟨vb, vd, rfl, _, _⟩ := RdAt.shape (RdAt.own hown)
     have a0 := HQ0.out _ hbr
     have a1 := HQ1.out _ hbr
     have HO := Lib.hid hown
     have HB := Lib.hid hbr
     clear hown hbr
     by_cases hxn : x = nm
     ·have hbq : (x.toList == nm.toList) = true := bytes_eq_iff.2 hxn
      rw [if_pos hxn] at HWN
      clear hxn
      go_wp2
      go_roundw
      case rel => exact ⟨k + 1, L2, d2, rfl, by go_num, by omega, HO.out, hfit2, by omega, HWN, HB.out⟩
      case measure => (simp [intOf]; try omega)
     ·have hbq : (x.toList == nm.toList) = false := by rw [bytes_beq]; exact decide_eq_false hxn
      rw [if_neg hxn] at HWN
      clear hxn
      have hown9 := HO.out.alloc (.cells #[.string x, .string y] 46)
      have hrd := rd_fld wc x y 46
      go_wp2_with (at_builtin; (refine wpList_append_rd rfl (.tmp 41) (.tmp 46) 22 rfl w.heap.size 46 i0 (.agg #[.string ⟨#[]⟩, .string ⟨#[]⟩]) 2 32 Tryz.underlying22 hi hz0 hz1 hz2 rfl (by decide) _ _ _ rfl hown9 _ 1 [.string x, .string y] rfl hrd (by simp [Value.oneCell']) (by unfold maxLen; omega) (by omega) (by have := HB.out.size; simp; omega) ?_); intro v' w8 hown' hg8)
      have hB8 : Below w.heap.size w w8 := (HB.out.alloc HB.out.size _).grown hg8 (by have := HB.out.size; simp; omega) (fun j e => (hown9.lt j e).1)
      go_wp2
      go_roundw
      case rel => exact ⟨k + 1, L2 ++ [(x, y)], d2, rfl, by go_num, by omega, by rw [List.length_append, fldCells_append]; exact hown', fit_snoc hfit2 HFX.out.1 HFX.out.2, by simp; omega, HWN, hB8⟩
      case measure => (simp [intOf]; try omega)
  ·obtain rfl : k = l.length := by omega
   have HWL : Hid (withL l nm val = (if d then L else L ++ [(nm, val)])) := by show _ = _; unfold withL; rw [HWK.out]
   have HO := Lib.hid hown
   have HB := Lib.hid hbr
   clear hown hbr
   cases d
   ·have hown9 := HO.out.alloc (.cells #[.string nm, .string val] 46)
    have hrd := rd_fld wr nm val 46
    go_wp2_with (at_builtin; (refine wpList_append_rd rfl (.tmp 50) (.tmp 54) 22 rfl w.heap.size 46 i0 (.agg #[.string ⟨#[]⟩, .string ⟨#[]⟩]) 2 32 Tryz.underlying22 hi hz0 hz1 hz2 rfl (by decide) _ _ _ rfl hown9 _ 1 [.string nm, .string val] rfl hrd (by simp [Value.oneCell']) (by unfold maxLen; omega) (by omega) (by have := HB.out.size; simp; omega) ?_); intro v' w8 hown' hg8)
    have hB8 : Below w.heap.size w w8 := (HB.out.alloc HB.out.size _).grown hg8 (by have := HB.out.size; simp; omega) (fun j e => (hown9.lt j e).1)
    go_wp2
    go_ret
    have hr8 := RdAt.own hown'
    rw [show (1 : Nat) = [(nm, val)].length from rfl, ← List.length_append] at hr8
    refine ⟨_, rfl, ?_⟩
    rw [HWL.out]
    exact ⟨by simp only [Bool.false_eq_true, if_false]; unfold FldsAt; rw [fldCells_append]; exact hr8, fit_snoc hfit hnm hval, by simp; omega, fun q hq => (hown'.lt q hq).1, hB8⟩
   ·go_wp2
    go_ret
    refine ⟨_, rfl, ?_⟩
    rw [HWL.out]
    exact ⟨RdAt.own HO.out, hfit, by simp; omega, fun q hq => (HO.out.lt q hq).1, HB.out⟩
end Go.Proofs.YtgbapkechngnmaaGreat
namespace Go.Proofs.YtgbapkechngnmaaGreat
open Go.RowKit

theorem rightF_nil : rightF [] = true := by decide
theorem rightF_len {L : List Fld} (h : rightF L = true) : L.length ≤ 8 := by
 unfold rightF at h
 simp only [Bool.and_eq_true, decide_eq_true_eq] at h
 exact h.1
/-- one round of Good -/
def goodS (out : List Fld) (f : Fld) : List Fld := if rightF (withL out f.1 (f.2.extract 0 (min f.2.size 30))) then withL out f.1 (f.2.extract 0 (min f.2.size 30)) else out
def goodK (l : List Fld) (k : Nat) : List Fld := (l.take k).foldl goodS []
def goodF (l : List Fld) : List Fld := goodK l 12
theorem goodK_step {l : List Fld} {k : Nat} (h : k < l.length) : goodK l (k + 1) = goodS (goodK l k) l[k] := by
 unfold goodK
 rw [List.take_succ_eq_append_getElem h, List.foldl_append]
 rfl
theorem goodK_end {l : List Fld} {k : Nat} (h : k ≤ 12) (h2 : 12 ≤ k ∨ l.length ≤ k) : goodF l = goodK l k := by
 unfold goodF goodK
 rcases h2 with h2 | h2
 ·rw [show k = 12 by omega]
 ·rw [List.take_of_length_le h2, List.take_of_length_le (Nat.le_trans h2 h)]
set_option maxHeartbeats 1600000 in
set_option maxRecDepth 100000 in
theorem rgood6_any (l : List Fld) (w : World) (v : Value) (hv : FldsAt w v l) (hf : FldsFit l) (hl : l.length ≤ maxLen) :
  Calls Tryz.prog 12 #[v] w fun e w' => ∃ v', e = .returned v' ∧ FldsAt w' v' (goodF l) ∧ FldsFit (goodF l) ∧ rightF (goodF l) = true ∧ (∀ q, v'.ownBlock = some q → w.heap.size ≤ q) ∧ Below w.heap.size w w' := by
 obtain ⟨a, c, rfl, hc, hr⟩ := RdAt.shape hv
 have HR := Lib.hid hr
 have HF := Lib.hid hf
 have hl63 : l.length < 9223372036854775808 := by unfold maxLen at hl; omega
 clear hr hv hf hl
 go_enter Tryz.func12, Tryz.ntmps12
 go_wp2
 go_loopw [3, 4] (fun s3 i wr => ∃ (k : Nat) (L : List Fld), i = .int .i64 k ∧ k ≤ l.length ∧ k ≤ 12 ∧ Hid (goodK l k = L) ∧ FldsAt wr s3 L ∧ FldsFit L ∧ rightF L = true ∧ (∀ q, s3.ownBlock = some q → w.heap.size ≤ q) ∧ Below w.heap.size w wr) (fun _ i _ => l.length - (intOf i).toNat)
 case atStart => exact ⟨0, [], rfl, Nat.zero_le _, Nat.zero_le _, Lib.hid rfl, RdAt.nil _ _, (fun _ h => by cases h), rightF_nil, (fun q hq => by simp [Value.ownBlock] at hq), Below.refl _ _⟩
 case round =>
  obtain ⟨k, L, rfl, hk, hk12, HGK, hL, hfit, hright, hown, hbr⟩ := hrel
  obtain ⟨va, vc, rfl, _, _⟩ := RdAt.shape hL
  have HL := Lib.hid hL
  have HRT := Lib.hid hright
  have HFT := Lib.hid hfit
  have HOW := Lib.hid hown
  clear hL hright hfit hown
  by_cases hkl : k < l.length
  ·by_cases h12 : k < 12
   ·obtain ⟨b, o, rfl, hb, hcell⟩ := HR.out (by omega)
    obtain ⟨x, hxe⟩ : ∃ x, l[k].1 = x := ⟨_, rfl⟩
    obtain ⟨y, hye⟩ : ∃ y, l[k].2 = y := ⟨_, rfl⟩
    have hfs := HF.out _ (List.getElem_mem hkl)
    rw [hxe, hye] at hfs
    obtain ⟨hx0, hy0⟩ := fldCells_at l k hkl
    rw [hxe] at hx0
    rw [hye] at hy0
    have a0 : wr.cell? ⟨b, o + k * 2, none⟩ = some (.string x) := keep_cell (hcell _ _ hx0) hbr hb
    have a1 : wr.cell? ⟨b, o + k * 2 + 1, none⟩ = some (.string y) := keep_cell (by have := hcell _ _ hy0; rwa [← Nat.add_assoc] at this) hbr hb
    have hwb : b < wr.heap.size := Nat.lt_of_lt_of_le hb hbr.size
    have HFX := Lib.hid hfs
    have hys : y.size ≤ 9223372036854775807 := by have := hfs.2; unfold maxLen at this; omega
    obtain ⟨m, hm, hm1, hm2, hm3⟩ : ∃ m : Nat, min y.size 30 = m ∧ m ≤ 30 ∧ m ≤ y.size ∧ min (y.size : Int) 30 = (m : Int) := ⟨min y.size 30, rfl, by omega, by omega, by omega⟩
    have HGS : Hid (goodK l (k + 1) = if rightF (withL L x (y.extract 0 m)) then withL L x (y.extract 0 m) else L) := by
     show _ = _
     rw [goodK_step hkl, HGK.out, show l[k] = (x, y) by rw [← hxe, ← hye]]
     unfold goodS
     simp only [hm]
    clear hm HGK
    have hwith : ∀ (val : ByteArray) W, val.size ≤ maxLen → Below wr.heap.size wr W → Calls Tryz.prog 35 #[.slice va L.length vc, .string x, .string val] W fun e w' => ∃ v', e = .returned v' ∧ FldsAt w' v' (withL L x val) ∧ FldsFit (withL L x val) ∧ (withL L x val).length ≤ 2 * L.length + 1 ∧ (∀ q, v'.ownBlock = some q → W.heap.size ≤ q) ∧ Below W.heap.size W w' := fun val W hval h =>
     rwith_any L x val W _ (HL.out.later h) HFT.out (by have := rightF_len HRT.out; omega) HFX.out.1 hval
    have HWI := Lib.hid hwith
    have HB := Lib.hid hbr
    clear hcell hx0 hy0 hxe hye hfs hwith hbr
    go_upto_region 5 with fail
    refine wp_region_held_drew (S := (fun W => W.cell? ⟨b, o + k * 2, none⟩ = some (.string x) ∧ W.cell? ⟨b, o + k * 2 + 1, none⟩ = some (.string y))) (by kernel_rfl) ⟨a0, a1⟩ (fun hHeld => ?_)
    refine plIn [0, 1, 2, 3, 4, 5, 6, 7, 8, 9, 10, 11, 12, 13, 14, 15, 16, 17, 18] ?_
    iterate 19
     refine hP (v := ?_) rfl rfl hHeld ?_ ?_
     rotate_left
     ·rintro wh ⟨z0, z1⟩
      go_simp
      (try with_reducible rfl)
     simp only [Act.put, List.setIfInBounds_toArray, List.set_cons_zero, List.set_cons_succ]
    refine plOut ?_
    refine held_call (i := 19) rfl (by kernel_rfl) (by rfl) (fun K hK => ?_)
    (go_simp; go_at_call 35; refine (HWI.out _ _ ?_ (Below.refl _ wr).drew).mono ?_; (· rw [ByteArray.size_extract]; unfold maxLen; omega); rintro e w1 ⟨v1, rfl, hF1, hfit1, hlen1, hown1, hb1⟩; have hB1 : Below wr.heap.size wr w1 := ((Below.refl _ _).drew).trans hb1)
    refine hK.out _ _ ⟨keep_cell a0 hB1 hwb, keep_cell a1 hB1 hwb⟩ (fun hHeld => ?_)
    clear hK K
    (try simp only [Act.put, List.setIfInBounds_toArray, List.set_cons_zero, List.set_cons_succ])
    refine hT (i := 20) (v := ?_) rfl rfl hHeld ?_ ?_
    rotate_left
    ·rintro wh ⟨z0, z1⟩
     go_simp
     (try with_reducible rfl)
    simp only [Act.put, List.setIfInBounds_toArray, List.set_cons_zero, List.set_cons_succ]
    refine wpAnyH_done (by kernel_rfl) ?_ _
    have HB1 := Lib.hid (HB.out.trans (hB1.mono HB.out.size))
    generalize withL L x (y.extract 0 m) = L1 at *
    have hL1 := HL.out.later hB1
    have hlen17 := rightF_len HRT.out
    have kr := rright6_any L1 w1 v1 hF1 hfit1 (by unfold maxLen; omega)
    obtain ⟨q, hq⟩ : ∃ q, rightF L1 = q := ⟨_, rfl⟩
    rw [hq] at kr
    obtain ⟨vb, vd, rfl, _, _⟩ := RdAt.shape hF1
    have HF1 := Lib.hid hF1
    have HO1 : Hid (∀ q, (Value.slice vb L1.length vd).ownBlock = some q → w.heap.size ≤ q) := Lib.hid (fun q hq => Nat.le_trans HB.out.size (hown1 q hq))
    clear hown1
    have HFT1 := Lib.hid hfit1
    have HQ := Lib.hid hq
    have HL1 := Lib.hid hL1
    clear hB1 hb1 hF1 hfit1 hlen1 hq hL1 hlen17 a0 a1 HWI HB hm1 hm2 hm3 hys
    go_wp2_with fail
    refine kr.mono ?_
    rintro e w2 ⟨rfl, hb2⟩
    have HF2 := Lib.hid (HF1.out.later hb2)
    have HL2 := Lib.hid (HL1.out.later hb2)
    have HB2 := Lib.hid (HB1.out.trans (hb2.mono HB1.out.size))
    clear kr hb2 HF1 HL1 HB1
    cases q
    ·go_wp2
     go_roundw
     case rel => exact ⟨k + 1, L, by go_num, by omega, by omega, Lib.hid (by rw [HGS.out, HQ.out]; rfl), HL2.out, HFT.out, HRT.out, HOW.out, HB2.out⟩
     case measure => (simp [intOf]; try omega)
    ·go_wp2
     go_roundw
     case rel => exact ⟨k + 1, L1, by go_num, by omega, by omega, Lib.hid (by rw [HGS.out, HQ.out]; rfl), HF2.out, HFT1.out, HQ.out, HO1.out, HB2.out⟩
     case measure => (simp [intOf]; try omega)
   ·have h12' : (12 : Int) ≤ (k : Int) := by omega
    have HE : Hid (goodF l = L) := by show _ = _; rw [goodK_end hk12 (.inl (by omega)), HGK.out]
    go_wp2
    go_ret
    exact ⟨_, rfl, by rw [HE.out]; exact HL.out, by rw [HE.out]; exact HFT.out, by rw [HE.out]; exact HRT.out, HOW.out, hbr⟩
  ·obtain rfl : k = l.length := by omega
   have HE : Hid (goodF l = L) := by show _ = _; rw [goodK_end hk12 (.inr (Nat.le_refl _)), HGK.out]
   go_wp2
   go_ret
   exact ⟨_, rfl, by rw [HE.out]; exact HL.out, by rw [HE.out]; exact HFT.out, by rw [HE.out]; exact HRT.out, HOW.out, hbr⟩
end Go.Proofs.YtgbapkechngnmaaGreat
namespace Go.Proofs.YtgbapkechngnmaaGreat
open Go.RowKit

theorem rd_puts' {w : World} {v : Value} {n k : Nat} {xs : List Value} (h : RdAt w v n k xs) {g o : Nat} (hg : 0 < n → ∀ q, v.ownBlock = some q → q ≠ g) (vs : List Value) : RdAt (w.setCells g o vs) v n k xs := by
 refine ⟨h.1, ?_⟩
 rcases h.2 with h | ⟨a, c, rfl, hc, hr⟩
 ·exact .inl h
 ·refine .inr ⟨a, c, rfl, hc, fun hn => ?_⟩
  obtain ⟨b, o', rfl, hlt, hcell⟩ := hr hn
  have hne := hg hn b rfl
  refine ⟨b, o', rfl, Nat.lt_of_lt_of_le hlt (below_puts_base (g := g) (o := o) (Below.refl 0 w) (Nat.zero_le _) vs).size, fun j x hx => ?_⟩
  rw [World.cell?_setCells_out _ _ _ _ _ (fun hb _ => absurd hb hne)]
  exact hcell j x hx
/-- a good alert, made of any -/
def gSrc (s : ByteArray) : ByteArray := if nameL (B s) then s else ⟨#[112, 114, 111, 109]⟩
def gLv (l : Int) : Int := if rightL l then l else 1
def gFr (f : Int) : Int := (IntKind.u64.wrap f).tmod 1000
def gTil (f t : Int) : Int := if t = 0 then 0 else gFr f + 1 + (IntKind.u64.wrap t).tmod 1000
theorem gFr_in (f : Int) : 0 ≤ gFr f ∧ gFr f < 1000 := by
 have h : 0 ≤ IntKind.u64.wrap f := by simp only [IntKind.wrap, IntKind.bits, IntKind.signed]; simp; omega
 unfold gFr
 rw [Int.tmod_eq_emod_of_nonneg h]
 omega
/-- the call's boxes, in the midst -/
structure GSt (w : World) (go : Nat) (src : ByteArray) (fa : Value) (lv : Int) (c : Nat) (fr til : Int) (vo : Value) (L : List Fld) (s' : ByteArray) (l' f' t' : Int) (W : World) : Prop where
 a : C6 w.heap.size (.string src) fa (.int .i64 lv) (.int .u32 c) (.int .i64 fr) (.int .i64 til) W
 o : C6 go (.string s') vo (.int .i64 l') (.int .u32 c) (.int .i64 f') (.int .i64 t') W
 oth : W.there go 0 6
 rth : W.there (w.heap.size + 1) 0 6
 f : FldsAt W vo L
 far : 0 < L.length → ∀ q, vo.ownBlock = some q → q ≠ go ∧ q ≠ w.heap.size + 1 ∧ w.heap.size ≤ q
 ge : w.heap.size + 2 ≤ go
 lt : go < W.heap.size
 below : Below w.heap.size w W
theorem GSt.later {w W W' : World} {go : Nat} {src : ByteArray} {fa : Value} {lv : Int} {c : Nat} {fr til : Int} {vo : Value} {L : List Fld} {s' : ByteArray} {l' f' t' : Int} (h : GSt w go src fa lv c fr til vo L s' l' f' t' W) (hb : Below W.heap.size W W') : GSt w go src fa lv c fr til vo L s' l' f' t' W' := by
 have h1 := h.lt
 have h2 := h.ge
 exact ⟨h.a.later hb (by omega), h.o.later hb h1, there_later h.oth hb h1, there_later h.rth hb (by omega), h.f.later hb, h.far, h2, Nat.lt_of_lt_of_le h1 hb.size, h.below.trans (hb.mono h.below.size)⟩
theorem c6_set {w : World} {g : Nat} {v0 v1 v2 v3 v4 v5 : Value} (h : C6 g v0 v1 v2 v3 v4 v5 w) (x : Value) :
  C6 g x v1 v2 v3 v4 v5 (w.setCells g 0 [x]) ∧ C6 g v0 v1 x v3 v4 v5 (w.setCells g 2 [x]) ∧ C6 g v0 v1 v2 v3 x v5 (w.setCells g 4 [x]) ∧ C6 g v0 v1 v2 v3 v4 x (w.setCells g 5 [x]) := by
 obtain ⟨h0, h1, h2, h3, h4, h5⟩ := h
 have hs : ∀ j v, w.cell? ⟨g, j, none⟩ = some v → (w.setCells g j [x]).cell? ⟨g, j, none⟩ = some x := fun j v h => World.cell?_setCell_same' w ⟨g, j, none⟩ x (by rw [h]; rfl)
 have ho : ∀ i j v, j ≠ i → w.cell? ⟨g, j, none⟩ = some v → (w.setCells g i [x]).cell? ⟨g, j, none⟩ = some v := fun i j v hne h => by
  rw [World.cell?_setCells_out _ _ _ _ _ (fun _ _ => by simp; omega)]
  exact h
 exact ⟨⟨hs _ _ h0, ho _ _ _ (by decide) h1, ho _ _ _ (by decide) h2, ho _ _ _ (by decide) h3, ho _ _ _ (by decide) h4, ho _ _ _ (by decide) h5⟩,
  ⟨ho _ _ _ (by decide) h0, ho _ _ _ (by decide) h1, hs _ _ h2, ho _ _ _ (by decide) h3, ho _ _ _ (by decide) h4, ho _ _ _ (by decide) h5⟩,
  ⟨ho _ _ _ (by decide) h0, ho _ _ _ (by decide) h1, ho _ _ _ (by decide) h2, ho _ _ _ (by decide) h3, hs _ _ h4, ho _ _ _ (by decide) h5⟩,
  ⟨ho _ _ _ (by decide) h0, ho _ _ _ (by decide) h1, ho _ _ _ (by decide) h2, ho _ _ _ (by decide) h3, ho _ _ _ (by decide) h4, hs _ _ h5⟩⟩
section
variable {w W : World} {go : Nat} {src : ByteArray} {fa : Value} {lv : Int} {c : Nat} {fr til : Int} {vo : Value} {L : List Fld} {s' : ByteArray} {l' f' t' : Int}
theorem GSt.put (h : GSt w go src fa lv c fr til vo L s' l' f' t' W) (j : Nat) (x : Value) {s2 : ByteArray} {l2 f2 t2 : Int} (ho : C6 go (.string s2) vo (.int .i64 l2) (.int .u32 c) (.int .i64 f2) (.int .i64 t2) (W.setCells go j [x])) : GSt w go src fa lv c fr til vo L s2 l2 f2 t2 (W.setCells go j [x]) := by
 have h2 := h.ge
 exact ⟨c6_out h.a (by omega) j [x], ho, World.there_setCells h.oth go j [x], World.there_setCells h.rth go j [x], rd_puts' h.f (fun h0 q hq => (h.far h0 q hq).1) [x], h.far, h2,
  Nat.lt_of_lt_of_le h.lt (below_puts_base (g := go) (o := j) (Below.refl 0 W) (Nat.zero_le _) [x]).size, below_puts h.below (by omega) [x]⟩
theorem GSt.put0 (h : GSt w go src fa lv c fr til vo L s' l' f' t' W) (x : ByteArray) : GSt w go src fa lv c fr til vo L x l' f' t' (W.setCells go 0 [.string x]) := h.put 0 _ (c6_set h.o _).1
theorem GSt.put2 (h : GSt w go src fa lv c fr til vo L s' l' f' t' W) (x : Int) : GSt w go src fa lv c fr til vo L s' x f' t' (W.setCells go 2 [.int .i64 x]) := h.put 2 _ (c6_set h.o _).2.1
theorem GSt.put4 (h : GSt w go src fa lv c fr til vo L s' l' f' t' W) (x : Int) : GSt w go src fa lv c fr til vo L s' l' x t' (W.setCells go 4 [.int .i64 x]) := h.put 4 _ (c6_set h.o _).2.2.1
theorem GSt.put5 (h : GSt w go src fa lv c fr til vo L s' l' f' t' W) (x : Int) : GSt w go src fa lv c fr til vo L s' l' f' x (W.setCells go 5 [.int .i64 x]) := h.put 5 _ (c6_set h.o _).2.2.2
end
end Go.Proofs.YtgbapkechngnmaaGreat
/- Fields with one, without one, of some names, plainly. -/
namespace Go.Proofs.YtgbapkechngnmaaGreat
open Go.RowKit

/-! ### texts in their order -/
theorem lessW_irrefl : ∀ (a : List UInt8), Op.bytesLess a a = false
 | [] => rfl
 | x :: a => by simp [Op.bytesLess, lessW_irrefl a]
theorem lessW_trans : ∀ (a b c : List UInt8), Op.bytesLess a b = true → Op.bytesLess b c = true → Op.bytesLess a c = true
 | _, b, [], _, h => by cases b <;> simp [Op.bytesLess] at h
 | a, [], _ :: _, h, _ => by cases a <;> simp [Op.bytesLess] at h
 | [], _ :: _, _ :: _, _, _ => rfl
 | x :: a, y :: b, z :: c, h1, h2 => by
  simp only [Op.bytesLess, Bool.or_eq_true, Bool.and_eq_true, beq_iff_eq, decide_eq_true_eq] at h1 h2 ⊢
  rcases h1 with h1 | ⟨rfl, h1⟩
  ·rcases h2 with h2 | ⟨rfl, h2⟩
   ·exact .inl (UInt8.lt_trans h1 h2)
   ·exact .inl h1
  ·rcases h2 with h2 | ⟨rfl, h2⟩
   ·exact .inl h2
   ·exact .inr ⟨rfl, lessW_trans a b c h1 h2⟩
theorem lessW_total : ∀ (a b : List UInt8), Op.bytesLess a b = false → Op.bytesLess b a = false → a = b
 | [], [], _, _ => rfl
 | [], _ :: _, h, _ => by simp [Op.bytesLess] at h
 | _ :: _, [], _, h => by simp [Op.bytesLess] at h
 | x :: a, y :: b, h1, h2 => by
  simp only [Op.bytesLess, Bool.or_eq_false_iff, Bool.and_eq_false_iff, beq_eq_false_iff_ne, decide_eq_false_iff_not] at h1 h2
  have hxy : x = y := by
   have e1 : ¬ x.toNat < y.toNat := fun h => h1.1 (UInt8.lt_iff_toNat_lt.2 h)
   have e2 : ¬ y.toNat < x.toNat := fun h => h2.1 (UInt8.lt_iff_toNat_lt.2 h)
   exact UInt8.toNat_inj.1 (by omega)
  subst hxy
  rcases h1.2 with h | h
  ·exact absurd rfl h
  ·rcases h2.2 with h' | h'
   ·exact absurd rfl h'
   ·rw [lessW_total a b h h']
theorem toListW_inj {a b : ByteArray} (h : a.toList = b.toList) : a = b := by
 have ha := toList_B a
 have hb := toList_B b
 rw [ha, hb] at h
 cases a; cases b
 simp only [ByteArray.mk.injEq]
 exact Array.toList_inj.1 h
theorem ltW_irrefl (a : ByteArray) : ltS a a = false := lessW_irrefl _
theorem ltW_trans {a b c : ByteArray} (h1 : ltS a b = true) (h2 : ltS b c = true) : ltS a c = true := lessW_trans _ _ _ h1 h2
theorem ltW_ne {a b : ByteArray} (h : ltS a b = true) : a ≠ b := by
 rintro rfl
 rw [ltW_irrefl] at h
 cases h
theorem ltW_asym {a b : ByteArray} (h : ltS a b = true) : ltS b a = false := by
 cases hb : ltS b a with
 | false => rfl
 | true => exact absurd rfl (ltW_ne (ltW_trans h hb))
theorem ltW_tri (a b : ByteArray) : ltS a b = true ∨ a = b ∨ ltS b a = true := by
 cases h1 : ltS a b with
 | true => exact .inl rfl
 | false =>
  cases h2 : ltS b a with
  | true => exact .inr (.inr rfl)
  | false => exact .inr (.inl (toListW_inj (lessW_total _ _ h1 h2)))
def SortF (l : List Fld) : Prop := l.Pairwise fun a b => ltS a.1 b.1 = true
/-- the same name -/
def eqN (nm : ByteArray) (f : Fld) : Bool := f.1.toList == nm.toList
theorem eqN_iff {nm : ByteArray} {f : Fld} : eqN nm f = true ↔ f.1 = nm := by
 unfold eqN
 rw [beq_iff_eq]
 exact ⟨toListW_inj, fun h => by rw [h]⟩
theorem eqN_no {nm : ByteArray} {f : Fld} : eqN nm f = false ↔ f.1 ≠ nm := by
 rw [← Bool.not_eq_true, eqN_iff]
/-- fields without one -/
def woL (l : List Fld) (nm : ByteArray) : List Fld := l.filter fun f => !eqN nm f
def loF (l : List Fld) (nm : ByteArray) : List Fld := l.filter fun f => ltS f.1 nm
def hiF (l : List Fld) (nm : ByteArray) : List Fld := l.filter fun f => ltS nm f.1
theorem all_hi {l : List Fld} {nm : ByteArray} (h : ∀ f ∈ l, ltS nm f.1 = true) : loF l nm = [] ∧ hiF l nm = l ∧ woL l nm = l := by
 refine ⟨List.filter_eq_nil_iff.2 (fun f hf => by rw [ltW_asym (h f hf)]; decide), List.filter_eq_self.2 h, List.filter_eq_self.2 (fun f hf => ?_)⟩
 rw [eqN_no.2 (fun e => ltW_ne (h f hf) e.symm)]
 rfl
theorem sort_tail {f : Fld} {l : List Fld} (h : SortF (f :: l)) : SortF l ∧ ∀ g ∈ l, ltS f.1 g.1 = true := ⟨(List.pairwise_cons.1 h).2, (List.pairwise_cons.1 h).1⟩
theorem wo_split : ∀ (l : List Fld) (nm : ByteArray), SortF l → woL l nm = loF l nm ++ hiF l nm
 | [], _, _ => rfl
 | f :: l, nm, h => by
  obtain ⟨h1, h2⟩ := sort_tail h
  have ih := wo_split l nm h1
  unfold woL loF hiF at *
  rw [List.filter_cons, List.filter_cons, List.filter_cons]
  rcases ltW_tri f.1 nm with hc | hc | hc
  ·rw [eqN_no.2 (ltW_ne hc), hc, ltW_asym hc, ih]
   simp
  ·obtain ⟨e1, e2, e3⟩ := all_hi (l := l) (nm := nm) (fun g hg => hc ▸ h2 g hg)
   unfold loF at e1
   unfold hiF at e2
   unfold woL at e3
   rw [eqN_iff.2 hc, e1, e2, e3]
   rw [show ltS f.1 nm = false from by rw [hc]; exact ltW_irrefl _, show ltS nm f.1 = false from by rw [hc]; exact ltW_irrefl _]
   simp
  ·obtain ⟨e1, e2, e3⟩ := all_hi (l := l) (nm := nm) (fun g hg => ltW_trans hc (h2 g hg))
   unfold loF at e1
   unfold hiF at e2
   unfold woL at e3
   rw [eqN_no.2 (fun e => ltW_ne hc e.symm), hc, ltW_asym hc, e1, e2, e3]
   simp
/-- the place of the first that stands behind -/
def gtI (l : List Fld) (nm : ByteArray) : Nat := l.findIdx fun f => ltS nm f.1
/-- fields with one, as they are laid -/
def owL (l : List Fld) (nm val : ByteArray) : List Fld := (woL l nm).take (gtI (woL l nm) nm) ++ (nm, val) :: (woL l nm).drop (gtI (woL l nm) nm)
theorem gtI_split (a b : List Fld) (nm : ByteArray) (ha : ∀ f ∈ a, ltS f.1 nm = true) (hb : ∀ f ∈ b, ltS nm f.1 = true) : gtI (a ++ b) nm = a.length := by
 unfold gtI
 rw [List.findIdx_append]
 have h1 : a.findIdx (fun f => ltS nm f.1) = a.length := List.findIdx_eq_length.2 (fun f hf => ltW_asym (ha f hf))
 rw [h1, if_neg (Nat.lt_irrefl _)]
 cases b with
 | nil => simp
 | cons f b => rw [List.findIdx_cons, hb f List.mem_cons_self]; simp
theorem lo_mem {l : List Fld} {nm : ByteArray} : ∀ f ∈ loF l nm, ltS f.1 nm = true := fun _ hf => (List.mem_filter.1 hf).2
theorem hi_mem {l : List Fld} {nm : ByteArray} : ∀ f ∈ hiF l nm, ltS nm f.1 = true := fun _ hf => (List.mem_filter.1 hf).2
theorem ow_split {l : List Fld} {nm val : ByteArray} (h : SortF l) : owL l nm val = loF l nm ++ (nm, val) :: hiF l nm := by
 unfold owL
 rw [wo_split l nm h, gtI_split _ _ _ lo_mem hi_mem, List.take_left, List.drop_left]
theorem fold_done (nm val : ByteArray) : ∀ (l a : List Fld), (∀ f ∈ l, ltS nm f.1 = true) → l.foldl (withS nm val) (a, true) = (a ++ l, true)
 | [], a, _ => by simp
 | f :: l, a, h => by
  rw [List.foldl_cons]
  have hne : ¬ f.1 = nm := fun e => ltW_ne (h f List.mem_cons_self) e.symm
  have : withS nm val (a, true) f = (a ++ [f], true) := by
   unfold withS
   simp only [Bool.not_true, Bool.false_and, Bool.false_eq_true, if_false, if_neg hne]
  rw [this, fold_done nm val l _ (fun g hg => h g (List.mem_cons_of_mem _ hg))]
  simp
def endW (nm val : ByteArray) (s : List Fld × Bool) : List Fld := if s.2 then s.1 else s.1 ++ [(nm, val)]
theorem fold_with (nm val : ByteArray) : ∀ (l a : List Fld), SortF l → endW nm val (l.foldl (withS nm val) (a, false)) = a ++ loF l nm ++ (nm, val) :: hiF l nm
 | [], a, _ => by simp [endW, loF, hiF]
 | f :: l, a, h => by
  obtain ⟨h1, h2⟩ := sort_tail h
  rw [List.foldl_cons]
  rcases ltW_tri f.1 nm with hc | hc | hc
  ·have : withS nm val (a, false) f = (a ++ [f], false) := by
    unfold withS
    simp only [hc, Bool.not_true, Bool.and_false, Bool.false_eq_true, if_false, if_neg (ltW_ne hc)]
   rw [this, fold_with nm val l _ h1]
   unfold loF hiF
   rw [List.filter_cons, List.filter_cons, hc, ltW_asym hc]
   simp
  ·have hlt : ltS f.1 nm = false := by rw [hc]; exact ltW_irrefl _
   have : withS nm val (a, false) f = (a ++ [(nm, val)], true) := by
    unfold withS
    simp only [hlt, Bool.not_false, Bool.and_self, if_true, if_pos hc]
   obtain ⟨e1, e2, _⟩ := all_hi (l := l) (nm := nm) (fun g hg => hc ▸ h2 g hg)
   rw [this, fold_done nm val l _ (fun g hg => hc ▸ h2 g hg)]
   unfold loF hiF at *
   rw [List.filter_cons, List.filter_cons, hlt, show ltS nm f.1 = false from by rw [hc]; exact ltW_irrefl _, e1, e2]
   simp [endW]
  ·have hlt := ltW_asym hc
   have hne : ¬ f.1 = nm := fun e => ltW_ne hc e.symm
   have : withS nm val (a, false) f = (a ++ [(nm, val)] ++ [f], true) := by
    unfold withS
    simp only [hlt, Bool.not_false, Bool.and_self, if_true, if_neg hne]
   obtain ⟨e1, e2, _⟩ := all_hi (l := l) (nm := nm) (fun g hg => ltW_trans hc (h2 g hg))
   rw [this, fold_done nm val l _ (fun g hg => ltW_trans hc (h2 g hg))]
   unfold loF hiF at *
   rw [List.filter_cons, List.filter_cons, hlt, hc, e1, e2]
   simp [endW]
/-- With as it is laid is With as it is told -/
theorem ow_with {l : List Fld} {nm val : ByteArray} (h : SortF l) : owL l nm val = withL l nm val := by
 rw [ow_split h]
 have := fold_with nm val l [] h
 unfold withL withK
 rw [List.take_length]
 unfold endW at this
 rw [this]
 simp
/-! ### right fields -/
theorem rightW_ok {l : List Fld} (h : rightF l = true) {j : Nat} (hj : j < l.length) : fldOk l j = true := by
 unfold rightF at h
 simp only [Bool.and_eq_true, List.all_eq_true, List.mem_range] at h
 exact h.2 j hj
theorem right_iff (l : List Fld) : rightF l = true ↔ l.length ≤ 8 ∧ SortF l ∧ ∀ f ∈ l, nameL (B f.1) = true ∧ f.2.size ≤ 200 := by
 constructor
 ·intro h
  have h8 : l.length ≤ 8 := by
   unfold rightF at h
   simp only [Bool.and_eq_true, decide_eq_true_eq] at h
   exact h.1
  have hok : ∀ j (hj : j < l.length), nameL (B l[j].1) = true ∧ l[j].2.size ≤ 200 ∧ (j = 0 ∨ ltS (l.getD (j - 1) default).1 l[j].1 = true) := fun j hj => by
   have := rightW_ok h hj
   unfold fldOk at this
   simp only [Bool.and_eq_true, Bool.or_eq_true, decide_eq_true_eq, List.getD_eq_getElem?_getD, List.getElem?_eq_getElem hj, Option.getD_some] at this
   exact ⟨this.1.1, this.1.2, by rw [List.getD_eq_getElem?_getD]; exact this.2⟩
  refine ⟨h8, ?_, fun f hf => ?_⟩
  ·have step : ∀ j (hj : j + 1 < l.length), ltS l[j].1 l[j + 1].1 = true := fun j hj => by
    rcases (hok (j + 1) hj).2.2 with h0 | h1
    ·omega
    ·rwa [Nat.add_sub_cancel, List.getD_eq_getElem?_getD, List.getElem?_eq_getElem (show j < l.length by omega)] at h1
   refine List.pairwise_iff_getElem.2 (fun i j hi hj hij => ?_)
   clear h8 hok h
   induction j with
   | zero => omega
   | succ j ih =>
    rcases Nat.lt_or_ge i j with h' | h'
    ·exact ltW_trans (ih (by omega) h') (step j hj)
    ·obtain rfl : i = j := by omega
     exact step i hj
  ·obtain ⟨j, hj, rfl⟩ := List.getElem_of_mem hf
   exact ⟨(hok j hj).1, (hok j hj).2.1⟩
 ·rintro ⟨h8, hs, hf⟩
  rw [rightF_good (fun j hj => ?_), decide_eq_true h8]
  unfold fldOk
  simp only [Bool.and_eq_true, Bool.or_eq_true, decide_eq_true_eq, List.getD_eq_getElem?_getD, List.getElem?_eq_getElem hj, Option.getD_some]
  refine ⟨⟨(hf _ (List.getElem_mem hj)).1, (hf _ (List.getElem_mem hj)).2⟩, ?_⟩
  by_cases h0 : j = 0
  ·exact .inl h0
  ·right
   rw [List.getElem?_eq_getElem (show j - 1 < l.length by omega), Option.getD_some]
   exact List.pairwise_iff_getElem.1 hs (j - 1) j (by omega) hj (by omega)
theorem sort_split {l : List Fld} {nm val : ByteArray} (h : SortF l) : SortF (loF l nm ++ (nm, val) :: hiF l nm) := by
 refine List.pairwise_append.2 ⟨List.Pairwise.filter _ h, List.pairwise_cons.2 ⟨fun f hf => hi_mem f hf, List.Pairwise.filter _ h⟩, fun a ha b hb => ?_⟩
 rcases List.mem_cons.1 hb with rfl | hb
 ·exact lo_mem a ha
 ·exact ltW_trans (lo_mem a ha) (hi_mem b hb)
theorem ow_len {l : List Fld} {nm val : ByteArray} (h : SortF l) : (owL l nm val).length = (woL l nm).length + 1 := by
 rw [ow_split h, wo_split l nm h]
 simp; omega
theorem wo_ow {l : List Fld} {nm val : ByteArray} (h : SortF l) : woL (owL l nm val) nm = woL l nm := by
 rw [ow_split h, wo_split l nm h]
 unfold woL
 rw [List.filter_append, List.filter_cons]
 have e1 : (loF l nm).filter (fun f => !eqN nm f) = loF l nm := List.filter_eq_self.2 (fun f hf => by rw [eqN_no.2 (ltW_ne (lo_mem f hf))]; rfl)
 have e2 : (hiF l nm).filter (fun f => !eqN nm f) = hiF l nm := List.filter_eq_self.2 (fun f hf => by rw [eqN_no.2 (fun e => ltW_ne (hi_mem f hf) e.symm)]; rfl)
 rw [e1, e2, show eqN nm (nm, val) = true from eqN_iff.2 rfl]
 simp
theorem right_ow {l : List Fld} {nm val : ByteArray} (h : rightF l = true) : rightF (owL l nm val) = (nameL (B nm) && decide (val.size ≤ 200) && decide ((owL l nm val).length ≤ 8)) := by
 obtain ⟨h8, hs, hf⟩ := (right_iff l).1 h
 rw [Bool.eq_iff_iff, right_iff]
 simp only [Bool.and_eq_true, decide_eq_true_eq]
 rw [ow_split hs]
 constructor
 ·rintro ⟨a, _, b⟩
  have := b (nm, val) (by simp)
  exact ⟨⟨this.1, this.2⟩, a⟩
 ·rintro ⟨⟨a, b⟩, c⟩
  refine ⟨c, sort_split hs, fun f hfm => ?_⟩
  rcases List.mem_append.1 hfm with h1 | h1
  ·exact hf f (List.mem_filter.1 h1).1
  ·rcases List.mem_cons.1 h1 with rfl | h1
   ·exact ⟨a, b⟩
   ·exact hf f (List.mem_filter.1 h1).1
/-! ### the fields of some names -/
def inN (ns : List ByteArray) (f : Fld) : Bool := ns.any fun n => f.1.toList == n.toList
def pickL (l : List Fld) (ns : List ByteArray) : List Fld := l.filter fun f => inN ns f
def restL (l : List Fld) (ns : List ByteArray) : List Fld := ns.foldl woL l
theorem rest_eq : ∀ (ns : List ByteArray) (l : List Fld), restL l ns = l.filter fun f => !inN ns f
 | [], l => (List.filter_eq_self.2 (fun f _ => by simp [inN])).symm
 | n :: ns, l => by
  unfold restL
  rw [List.foldl_cons]
  have := rest_eq ns (woL l n)
  unfold restL at this
  rw [this]
  unfold woL
  rw [List.filter_filter]
  refine List.filter_congr (fun f _ => ?_)
  unfold inN eqN
  rw [List.any_cons, Bool.not_or, Bool.and_comm]
theorem sorted_same : ∀ (a b : List Fld), SortF a → SortF b → (∀ f, f ∈ a ↔ f ∈ b) → a = b
 | [], [], _, _, _ => rfl
 | [], f :: b, _, _, h => absurd ((h f).2 List.mem_cons_self) (by simp)
 | f :: a, [], _, _, h => absurd ((h f).1 List.mem_cons_self) (by simp)
 | f :: a, g :: b, ha, hb, h => by
  obtain ⟨a1, a2⟩ := sort_tail ha
  obtain ⟨b1, b2⟩ := sort_tail hb
  have hfg : f = g := by
   rcases List.mem_cons.1 ((h f).1 List.mem_cons_self) with e | e
   ·exact e
   ·rcases List.mem_cons.1 ((h g).2 List.mem_cons_self) with e' | e'
    ·exact e'.symm
    ·exact absurd (ltW_trans (b2 f e) (a2 g e')) (by rw [ltW_irrefl]; decide)
  subst hfg
  congr 1
  refine sorted_same a b a1 b1 (fun x => ⟨fun hx => ?_, fun hx => ?_⟩)
  ·rcases List.mem_cons.1 ((h x).1 (List.mem_cons_of_mem _ hx)) with e | e
   ·subst e
    exact absurd (a2 x hx) (by rw [ltW_irrefl]; decide)
   ·exact e
  ·rcases List.mem_cons.1 ((h x).2 (List.mem_cons_of_mem _ hx)) with e | e
   ·subst e
    exact absurd (b2 x hx) (by rw [ltW_irrefl]; decide)
   ·exact e
/-- fields with all of some -/
def allW (l p : List Fld) : List Fld := p.foldl (fun s f => owL s f.1 f.2) l
theorem mem_ow {l : List Fld} {f g : Fld} (h : SortF l) : g ∈ owL l f.1 f.2 ↔ g = f ∨ (g ∈ l ∧ g.1 ≠ f.1) := by
 rw [ow_split h, List.mem_append, List.mem_cons]
 unfold loF hiF
 rw [List.mem_filter, List.mem_filter]
 constructor
 ·rintro (⟨h1, h2⟩ | h1 | ⟨h1, h2⟩)
  ·exact .inr ⟨h1, ltW_ne h2⟩
  ·exact .inl h1
  ·exact .inr ⟨h1, fun e => ltW_ne h2 e.symm⟩
 ·rintro (h1 | ⟨h1, h2⟩)
  ·exact .inr (.inl h1)
  ·rcases ltW_tri g.1 f.1 with hc | hc | hc
   ·exact .inl ⟨h1, hc⟩
   ·exact absurd hc h2
   ·exact .inr (.inr ⟨h1, hc⟩)
theorem sort_ow {l : List Fld} {nm val : ByteArray} (h : SortF l) : SortF (owL l nm val) := by
 rw [ow_split h]
 exact sort_split h
theorem allW_mem : ∀ (p l : List Fld), SortF l → SortF p → (∀ f ∈ p, ∀ g ∈ l, g.1 ≠ f.1) → SortF (allW l p) ∧ ∀ g, g ∈ allW l p ↔ g ∈ l ∨ g ∈ p
 | [], l, h, _, _ => ⟨h, fun g => by simp [allW]⟩
 | f :: p, l, h, hp, hd => by
  obtain ⟨p1, p2⟩ := sort_tail hp
  have hd' : ∀ x ∈ p, ∀ g ∈ owL l f.1 f.2, g.1 ≠ x.1 := fun x hx g hg => by
   rcases (mem_ow h).1 hg with rfl | ⟨h1, _⟩
   ·exact ltW_ne (p2 x hx)
   ·exact hd x (List.mem_cons_of_mem _ hx) g h1
  obtain ⟨i1, i2⟩ := allW_mem p (owL l f.1 f.2) (sort_ow h) p1 hd'
  refine ⟨i1, fun g => ?_⟩
  have : allW l (f :: p) = allW (owL l f.1 f.2) p := rfl
  rw [this, i2, mem_ow h, List.mem_cons]
  constructor
  ·rintro ((h1 | ⟨h1, _⟩) | h1)
   ·exact .inr (.inl h1)
   ·exact .inl h1
   ·exact .inr (.inr h1)
  ·rintro (h1 | h1 | h1)
   ·exact .inl (.inr ⟨h1, hd f List.mem_cons_self g h1⟩)
   ·exact .inl (.inl h1)
   ·exact .inr h1
/-- those of some names, and those without them, are all together -/
theorem pick_rest {l : List Fld} {ns : List ByteArray} (h : SortF l) : allW (restL l ns) (pickL l ns) = l := by
 have hr : SortF (restL l ns) := by rw [rest_eq]; exact List.Pairwise.filter _ h
 have hp : SortF (pickL l ns) := List.Pairwise.filter _ h
 obtain ⟨h1, h2⟩ := allW_mem (pickL l ns) (restL l ns) hr hp (fun f hf g hg e => by
  rw [rest_eq] at hg
  have a := (List.mem_filter.1 hf).2
  have b := (List.mem_filter.1 hg).2
  unfold inN at a b
  rw [e] at b
  rw [a] at b
  cases b)
 refine sorted_same _ _ h1 h (fun g => ?_)
 rw [h2, rest_eq]
 unfold pickL
 rw [List.mem_filter, List.mem_filter]
 cases inN ns g <;> simp
theorem pick_len {l : List Fld} {ns : List ByteArray} : (pickL l ns).length + (restL l ns).length = l.length := by
 rw [rest_eq]
 unfold pickL
 induction l with
 | nil => rfl
 | cons f l ih =>
  rw [List.filter_cons, List.filter_cons]
  cases inN ns f <;> simp <;> omega
theorem right_filter {l : List Fld} (p : Fld → Bool) (h : rightF l = true) : rightF (l.filter p) = true := by
 obtain ⟨h8, hs, hf⟩ := (right_iff l).1 h
 exact (right_iff _).2 ⟨Nat.le_trans (List.length_filter_le _ _) h8, List.Pairwise.filter _ hs, fun f hm => hf f (List.mem_filter.1 hm).1⟩
end Go.Proofs.YtgbapkechngnmaaGreat
/- MatchAlls: the law's walk: whatever the arguments, it returns true. No condition. -/
namespace Go.Proofs.YtgbapkechngnmaaGreat
open Go.RowKit

theorem allM_append (l : List Fld) (a b : List Mt) : allM l (a ++ b) = (allM l a && allM l b) := by unfold allM; rw [List.all_append]
theorem allM_nil (l : List Fld) : allM l [] = true := rfl
theorem allM_bad {l : List Fld} {a : List Mt} {m : Mt} (hm : m ∈ a) (hf : fineM m = false) : allM l a = false := by
 unfold allM
 rw [List.all_eq_false]
 exact ⟨m, hm, by unfold fitM; rw [hf]; simp⟩
theorem mtCells_one (l : List Mt) : ∀ y ∈ mtCells l, y.oneCell' = true := by
 induction l with
 | nil => intro y hy; cases hy
 | cons m l ih =>
  intro y hy
  simp only [mtCells, List.mem_cons] at hy
  rcases hy with rfl | rfl | rfl | h
  ·rfl
  ·rfl
  ·rfl
  ·exact ih y h
theorem fewB (l : List Mt) : (fewM l).length ≤ 1000000000000 := Nat.le_trans (fewM_le l) (by decide)
namespace lawAlls
set_option maxHeartbeats 3200000 in
set_option maxRecDepth 100000 in
theorem walk (v0 : Value) (l : List Fld) (v1 : Value) (a0 : List Mt) (v2 : Value) (b0 : List Mt) (w : World) (hv : ArgFlds w v0 l) (ha : ArgMts w v1 a0) (hb : ArgMts w v2 b0) :
  Calls Tryz.prog 6 #[v0, v1, v2] w fun e w' => e = .returned (.bool true) ∧ Below w.heap.size w w' := by
 obtain ⟨i0, hi0, hz0, hz1, hz2⟩ := info_parts info_mt
 have kl := lives6_any w
 have KG := Lib.hid (fun W (h : Below w.heap.size w W) => rgood6_any l W v0 (hv.1.later h) hv.2.2 hv.2.1)
 have KA := Lib.hid (fun W (h : Below w.heap.size w W) => few6_any a0 v1 W (ha.1.later h) ha.2.1)
 have KB := Lib.hid (fun W (h : Below w.heap.size w W) => few6_any b0 v2 W (hb.1.later h) hb.2.1)
 have HFA := Lib.hid (fewM_fit ha.2.2)
 have HFB := Lib.hid (fewM_fit hb.2.2)
 clear hv ha hb
 go_enter Tryz.func6, Tryz.ntmps6
 go_wp2_with fail
 refine kl.mono ?_
 rintro e w1 ⟨rfl, hb1⟩
 have HB1 := Lib.hid hb1
 have kg := KG.out w1 hb1
 clear kl hb1 KG
 go_wp2_with fail
 refine kg.mono ?_
 rintro e w2 ⟨gv, rfl, hgv, hgf, hgr, _, hb2⟩
 have HB2 := Lib.hid (HB1.out.trans (hb2.mono HB1.out.size))
 have HG2 := Lib.hid hgv
 have HGF := Lib.hid hgf
 have HGL := Lib.hid ((right_iff _).1 hgr).1
 have ka := KA.out w2 HB2.out
 clear kg hb2 hgv hgf hgr KA
 generalize goodF l = L at *
 go_wp2_with fail
 refine ka.mono ?_
 rintro e w3 ⟨av, rfl, hao, hb3⟩
 have HB3 := Lib.hid (HB2.out.trans (hb3.mono HB2.out.size))
 have HG3 := Lib.hid (HG2.out.later hb3)
 have HA3 := Lib.hid (RdAt.own hao)
 have kb := KB.out w3 HB3.out
 clear ka hb3 HG2 hao KB
 go_wp2_with fail
 refine kb.mono ?_
 rintro e w4 ⟨bv, rfl, hbo, hb4⟩
 have HB4 := Lib.hid (HB3.out.trans (hb4.mono HB3.out.size))
 have HG4 := Lib.hid (HG3.out.later hb4)
 have HA4 := Lib.hid (RdAt.later HA3.out hb4)
 have HBM4 := Lib.hid (RdAt.own hbo)
 have hal := fewM_le a0
 have hbl := fewM_le b0
 have HAL := Lib.hid (fewB a0)
 have HBL := Lib.hid (fewB b0)
 generalize fewM a0 = A at *
 generalize fewM b0 = C at *
 clear kb hb4 HG3 HA3 hbo
 go_upto_region 5 with (first
  | (at_builtin; (refine wpList_append_rd rfl (.const (.slice none 0 0)) (.tmp 17) 23 rfl w4.heap.size 29 i0 (.agg #[.string ⟨#[]⟩, .int .i64 0, .string ⟨#[]⟩]) 3 40 Tryz.underlying23 hi0 hz0 hz1 hz2 rfl (by decide) (.slice none 0 0) 0 [] rfl (World.ownsRow_nil _ _ _ _) _ A.length (mtCells A) rfl HA4.out (mtCells_one A) (by unfold maxLen; omega) (by omega) (Nat.le_refl _) ?_); intro v5 w5 hown5 hgrow5; have HO5 := Lib.hid hown5; have HB45 := Lib.hid ((Below.refl w4.heap.size w4).grown hgrow5 (Nat.le_refl _) (fun q hq => by cases hq)); clear hown5 hgrow5)
  | (at_builtin; (refine wpList_append_rd rfl (.tmp 18) (.tmp 19) 23 rfl w4.heap.size 29 i0 (.agg #[.string ⟨#[]⟩, .int .i64 0, .string ⟨#[]⟩]) 3 40 Tryz.underlying23 hi0 hz0 hz1 hz2 rfl (by decide) v5 (0 + A.length) ([] ++ mtCells A) rfl HO5.out _ C.length (mtCells C) rfl (RdAt.later HBM4.out HB45.out) (mtCells_one C) (by unfold maxLen; omega) (by omega) HB45.out.size ?_); intro v6 w6 hown6 hgrow6; have HO6 := Lib.hid hown6; have HB46 := Lib.hid (HB45.out.grown hgrow6 HB45.out.size (fun q hq => (HO5.out.lt q hq).1)); clear hown6 hgrow6))
 have HM6 : Hid (MtsAt w6 v6 (A ++ C)) := Lib.hid (by
  have := RdAt.own HO6.out
  unfold MtsAt
  rw [List.length_append, mtCells_append]
  rw [Nat.zero_add, List.nil_append] at this
  exact this)
 have HG6 := Lib.hid (HG4.out.later HB46.out)
 have HA6 := Lib.hid (RdAt.later HA4.out HB46.out)
 have HC6 := Lib.hid (RdAt.later HBM4.out HB46.out)
 have HB6 := Lib.hid (HB4.out.trans (HB46.out.mono HB4.out.size))
 have hLl : L.length ≤ 1000000000000 := by have := HGL.out; omega
 have kAC := fun W (h : Below w6.heap.size w6 W) => all_any L (A ++ C) gv v6 W (HG6.out.later h) hLl HGF.out (RdAt.later HM6.out h) (by rw [List.length_append]; omega) (fun m hm => (List.mem_append.1 hm).elim (HFA.out m) (HFB.out m))
 have kA := fun W (h : Below w6.heap.size w6 W) => all_any L A gv av W (HG6.out.later h) hLl HGF.out (RdAt.later HA6.out h) (by omega) HFA.out
 have kC := fun W (h : Below w6.heap.size w6 W) => all_any L C gv bv W (HG6.out.later h) hLl HGF.out (RdAt.later HC6.out h) (by omega) HFB.out
 have kN := fun W (h : Below w6.heap.size w6 W) => all_any L [] gv (.slice none 0 0) W (HG6.out.later h) hLl HGF.out (RdAt.nil W 3) (Nat.zero_le _) (fun _ h => by cases h)
 simp only [allM_append] at kAC
 simp only [allM_nil] at kN
 have HBAD := Lib.hid (fun m (hm : m ∈ A) (hf : fineM m = false) => allM_bad (l := L) hm hf)
 obtain ⟨pa, hpa⟩ : ∃ p, allM L A = p := ⟨_, rfl⟩
 obtain ⟨pc, hpc⟩ : ∃ p, allM L C = p := ⟨_, rfl⟩
 simp only [hpa, hpc] at kAC kA kC
 rw [hpa] at HBAD
 obtain ⟨ga, gc, rfl, _, _⟩ := RdAt.shape HG6.out
 obtain ⟨aa, ac, rfl, hac, har⟩ := RdAt.shape HA6.out
 obtain ⟨ba, bc, rfl, _, _⟩ := RdAt.shape HC6.out
 obtain ⟨fa, fc, hfv, _, _⟩ := RdAt.shape HM6.out
 rw [List.length_append] at hfv
 subst hfv
 have HAR := Lib.hid har
 have HKA := Lib.hid kA
 clear har hac HO6 HO5 HA4 HBM4 HG4 HB46 HB45 HM6 hpa hpc
 have kfin := fun W (h : Below w6.heap.size w6 W) (m : Mt) (hm : m ∈ A) => mfine_any m W (HFA.out m hm)
 have HFN := Lib.hid kfin
 clear kfin
 go_cut [37] (fun s37 wx => s37 = .bool false ∧ Below w6.heap.size w6 wx)
 case first =>
  cases pa with
  | false =>
   go_wp2_with fail
   refine (kAC _ (Below.refl _ _)).mono ?_
   rintro e w7 ⟨rfl, hb7⟩
   have HB7 := Lib.hid hb7
   clear hb7
   go_wp2_with fail
   refine (kA _ HB7.out).mono ?_
   rintro e w8 ⟨rfl, hb8⟩
   have HB8 := Lib.hid (HB7.out.trans (hb8.mono HB7.out.size))
   clear hb8
   go_wp2_with fail
   refine (kN _ HB8.out).mono ?_
   rintro e w9 ⟨rfl, hb9⟩
   have HB9 := Lib.hid (HB8.out.trans (hb9.mono HB8.out.size))
   clear hb9
   go_wp2
   go_meet
   case rel => exact ⟨rfl, HB9.out⟩
  | true =>
   cases pc with
   | false =>
    go_wp2_with fail
    refine (kAC _ (Below.refl _ _)).mono ?_
    rintro e w7 ⟨rfl, hb7⟩
    have HB7 := Lib.hid hb7
    clear hb7
    go_wp2_with fail
    refine (kA _ HB7.out).mono ?_
    rintro e w8 ⟨rfl, hb8⟩
    have HB8 := Lib.hid (HB7.out.trans (hb8.mono HB7.out.size))
    clear hb8
    go_wp2_with fail
    refine (kC _ HB8.out).mono ?_
    rintro e w9 ⟨rfl, hb9⟩
    have HB9 := Lib.hid (HB8.out.trans (hb9.mono HB8.out.size))
    clear hb9
    go_wp2_with fail
    refine (kN _ HB9.out).mono ?_
    rintro e w10 ⟨rfl, hb10⟩
    have HB10 := Lib.hid (HB9.out.trans (hb10.mono HB9.out.size))
    clear hb10
    go_wp2
    go_meet
    case rel => exact ⟨rfl, HB10.out⟩
   | true =>
    go_wp2_with fail
    refine (kAC _ (Below.refl _ _)).mono ?_
    rintro e w7 ⟨rfl, hb7⟩
    have HB7 := Lib.hid hb7
    clear hb7
    go_wp2_with fail
    refine (kA _ HB7.out).mono ?_
    rintro e w8 ⟨rfl, hb8⟩
    have HB8 := Lib.hid (HB7.out.trans (hb8.mono HB7.out.size))
    clear hb8
    go_wp2_with fail
    refine (kC _ HB8.out).mono ?_
    rintro e w9 ⟨rfl, hb9⟩
    have HB9 := Lib.hid (HB8.out.trans (hb9.mono HB8.out.size))
    clear hb9
    go_wp2_with fail
    refine (kN _ HB9.out).mono ?_
    rintro e w10 ⟨rfl, hb10⟩
    have HB10 := Lib.hid (HB9.out.trans (hb10.mono HB9.out.size))
    clear hb10
    go_wp2
    go_meet
    case rel => exact ⟨rfl, HB10.out⟩
 case rest =>
  obtain ⟨rfl, hcw⟩ := hcut
  have HCW := Lib.hid hcw
  clear kAC kA kC kN hcw
  go_wp2_with fail
  go_loopw [8] (fun v wr => ∃ k : Nat, v = .int .i64 k ∧ k ≤ A.length ∧ Hid (Below w6.heap.size w6 wr)) (fun v _ => A.length - (intOf v).toNat)
  case atStart => exact ⟨0, rfl, Nat.zero_le _, HCW⟩
  case round =>
   clear HCW
   obtain ⟨k, rfl, hk, HB⟩ := hrel
   by_cases hkl : k < A.length
   ·have hkl' : (k : Int) < (A.length : Int) := by omega
    have hk0 : (0 : Int) ≤ (k : Int) := by omega
    obtain ⟨g, o, rfl, hg, hcell⟩ := HAR.out (by omega)
    obtain ⟨x, hx⟩ : ∃ x, A[k] = x := ⟨_, rfl⟩
    have hmem : x ∈ A := by rw [← hx]; exact List.getElem_mem hkl
    obtain ⟨q0, q1, q2⟩ := mtCells_at A k hkl
    rw [hx] at q0 q1 q2
    have p0 := keep_cell (hcell _ _ q0) HB.out hg
    have p1 := keep_cell (hcell _ _ q1) HB.out hg
    have p2 := keep_cell (hcell _ _ q2) HB.out hg
    rw [← Nat.add_assoc] at p1 p2
    have kf := HFN.out wr HB.out x hmem
    have HBX := Lib.hid (HBAD.out x hmem)
    have kA := HKA.out
    clear hx q0 q1 q2 hcell hmem
    obtain ⟨nm, op, val⟩ := x
    dsimp only at *
    obtain ⟨F, hF⟩ : ∃ F, fineM ⟨nm, op, val⟩ = F := ⟨_, rfl⟩
    rw [hF] at kf HBX
    clear hF
    cases F with
    | true =>
     go_wp2_with fail
     refine kf.mono ?_
     rintro e w9 ⟨rfl, hb9⟩
     have HB9 := Lib.hid (HB.out.trans (hb9.mono HB.out.size))
     clear kf hb9 kA
     go_wp2
     go_roundw
     case rel => exact ⟨k + 1, by go_num, by omega, HB9⟩
     case measure => (simp [intOf]; try omega)
    | false =>
     obtain rfl : pa = false := HBX.out rfl
     go_wp2_with fail
     refine kf.mono ?_
     rintro e w9 ⟨rfl, hb9⟩
     have HB9 := Lib.hid (HB.out.trans (hb9.mono HB.out.size))
     have kA := kA w9 HB9.out
     clear kf hb9
     go_wp2_with fail
     refine kA.mono ?_
     rintro e w10 ⟨rfl, hb10⟩
     have HB10 := Lib.hid (HB9.out.trans (hb10.mono HB9.out.size))
     clear kA hb10
     go_wp2
     go_roundw
     case rel => exact ⟨k + 1, by go_num, by omega, HB10⟩
     case measure => (simp [intOf]; try omega)
   ·have hkl' : ¬ (k : Int) < (A.length : Int) := by omega
    have HE := Lib.hid (HB6.out.trans (HB.out.mono HB6.out.size))
    go_wp2
    go_ret
    exact ⟨rfl, HE.out⟩
end lawAlls
end Go.Proofs.YtgbapkechngnmaaGreat
/- MatchAlls: the card: whatever the arguments, the law returns true and its arguments read as they did. No condition. -/
namespace Go.Proofs.YtgbapkechngnmaaGreat.lawAlls
open Go.ChangeShapes Go.WideShapes Go.ChangeAt Go.RowKit
open Go.ChangeMaps (open_string)

set_option maxRecDepth 100000 in
theorem contract (H : Type) (enc : TypeId × Value → H) (W : World) (base : Nat) (args : Array Value) (ds gs : List (DataW H)) (before : List MemPlace)
  (hval : ∀ (j : Nat) t v, Tryz.f6.params[j]? = some t → args[j]? = some v → Value.okWide Tryz.prog W .any base t v)
  (hW : DataW.Whole enc Tryz.prog Tryz.f6.params.toList Rows.matchAllsSpec.vars false W args.toList ds gs before) :
  Calls Tryz.prog 6 args W fun e W' => ∃ v, e = .returned v ∧ Rows.matchAllsSpec.post enc Tryz.prog Tryz.f6 false true false false W args v W' := by
 have hW' := hW
 obtain ⟨p, q, hA0, hV, rfl, hfz, hnd⟩ := hW
 have hA : DataW.TrodAll enc Tryz.prog W 0 (fun _ => true) true Tryz.f6.params.toList args.toList ds p := hA0
 rw [Tryz.params6] at hA hval
 obtain ⟨v0, vs0, d0, ds0, p0, q0, hargs, rfl, rfl, h0, r0⟩ := trodAll_cons hA
 obtain ⟨v1, vs1, d1, ds1, p1, q1, rfl, rfl, rfl, h1, r1⟩ := trodAll_cons r0
 obtain ⟨v2, vs2, d2, ds2, p2, q2, rfl, rfl, rfl, h2, r2⟩ := trodAll_cons r1
 obtain ⟨rfl, rfl, rfl⟩ := trodAll_nil r2
 obtain rfl : args = #[v0, v1, v2] := by cases args; simp_all
 obtain ⟨rfl, rfl⟩ := trodVars_none hV
 obtain ⟨x0, hx0⟩ := flds_of_arg (hval 0 22 v0 rfl rfl) h0
 obtain ⟨x1, hx1⟩ := mts_of_arg (hval 1 23 v1 rfl rfl) h1
 obtain ⟨x2, hx2⟩ := mts_of_arg (hval 2 23 v2 rfl rfl) h2
 clear hA0
 refine (walk v0 x0 v1 x1 v2 x2 W hx0 hx1 hx2).mono ?_
 rintro e W' ⟨rfl, hb⟩
 exact ⟨_, rfl, law_post laidOut Tryz.underlying4 rfl rfl (by kernel_rfl) hW' rfl rfl rfl hb⟩

theorem laid_met (os : Os) : laidMet Tryz.prog Rows.matchAllsRow.laid ((laidWorld os).forCall (fun _ _ => 0) ⟨#[], #[.slice none 0 0, .slice none 0 0, .slice none 0 0], []⟩).memory :=
 ⟨[], rfl, List.nodup_nil, fun _ _ h => by cases h⟩
theorem reads (os : Os) {H : Type} (enc : TypeId × Value → H) : ∃ places, DataW.whole enc Tryz.prog ((laidWorld os).forCall (fun _ _ => 0) ⟨#[], #[.slice none 0 0, .slice none 0 0, .slice none 0 0], []⟩).memory Tryz.f6.params.toList Rows.matchAllsSpec.vars false (#[.slice none 0 0, .slice none 0 0, .slice none 0 0] : Array Value).toList 8 = some ([.nil, .nil, .nil], [], places) :=
 ⟨[], by kernel_rfl⟩

set_option maxRecDepth 100000 in
theorem lifted (os : Os) (started : os.Started) (H : Type) (enc : TypeId × Value → H) (F : Stop.Interp) :
  ReturnsInHanded {} Tryz.checked os 6 .any ((OpenSpec.ofChange Rows.matchAllsSpec).preRow enc Tryz.prog Tryz.f6 Rows.matchAllsRow.domain false Rows.matchAllsRow.laid) (((OpenSpec.ofChange Rows.matchAllsSpec).at F).post enc Tryz.prog Tryz.f6 false true false false) := by
 obtain ⟨places, hx⟩ := reads os enc
 refine returnsInHanded_of_row (C := Tryz.checked) (s := OpenSpec.ofChange Rows.matchAllsSpec) ownNone started (by kernel_rfl) Tryz.func6
  (witness_row_at (enc := enc) (C := Tryz.checked) false (laidWorld os) #[.slice none 0 0, .slice none 0 0, .slice none 0 0] rfl (by kernel_rfl) (by kernel_rfl) (by kernel_rfl)
   (OpenSpec.preRow_of_cond 8 hx (by kernel_rfl) (fun k hk => by cases hk) (by kernel_rfl) (laid_met os))) ?_
 intro W base args ds gs before hval hW _ _ _ _ _ _
 exact contract H enc W base args ds gs before hval hW

theorem said : Rows.MatchAllsSaid :=
 OpenClaim.holds_of_cond 6 Tryz.f6 rfl rfl rfl rfl rfl rfl rfl ⟨rfl, rfl, rfl, rfl, rfl⟩ rfl rfl rfl rfl rfl (by kernel_rfl) Tryz.func6 (by kernel_rfl)
  (of_decide_eq_true (by kernel_rfl)) (by unfold Func.isWrapper; first | (rw [if_pos (by decide +kernel)]; kernel_rfl) | (rw [if_neg (by decide +kernel)]; exact ⟨rfl, rfl⟩))
  (fun os started H enc _ F => by rw [OpenClaim.pre_eq_preRow]; exact lifted os started H enc F)

end Go.Proofs.YtgbapkechngnmaaGreat.lawAlls
