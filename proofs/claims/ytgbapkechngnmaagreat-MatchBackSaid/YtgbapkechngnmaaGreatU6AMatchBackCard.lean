/- MatchBack: the card: whatever the arguments, the law returns true and its arguments read as they did. No condition. -/
import Derived.Test.YtgbapkechngnmaaGreatU6AP2
import Derived.Test.YtgbapkechngnmaaGreatRd
import Derived.Laws.BitsLemmas
import Derived.Test.YtgbapkechngnmaaGreatRows
import Derived.Test.YtgbapkechngnmaaGreatBox
import Derived.WalkKit
import Derived.WalkSpells
import Derived.Lib.Hide
import Derived.Deep.DeepCutAuto
import Derived.ProofKit
import Derived.OpenShut
import Derived.Deep.Slices
import Derived.Deep.Fields
import Derived.ChangeSame
import Derived.Laws.IdiomArrays
import Derived.Maps.AppendAt
import Derived.Deep.QuietTactic
import Derived.BigQuiet
import Derived.Test.YtgbapkechngnmaaGreatFrame12

/- lychgatelaw06.few: a contract. -/
namespace Go.Proofs.YtgbapkechngnmaaGreat
open Go.RowKit

def cutM (m : Mt) : Mt := ⟨m.nm, m.op, m.val.extract 0 (min (m.val.size : Int) 210).toNat⟩
def fewM (l : List Mt) : List Mt := (l.take 15).map cutM
theorem fewM_len (l : List Mt) : (fewM l).length = min 15 l.length := by unfold fewM; simp
theorem fewM_step {l : List Mt} {k : Nat} (hk : k < 15) (hl : k < l.length) : (fewM l).take (k + 1) = (fewM l).take k ++ [cutM l[k]] := by
 have h : k < (fewM l).length := by rw [fewM_len]; omega
 rw [List.take_succ_eq_append_getElem h]
 congr 2
 unfold fewM
 simp
theorem cutM_size (m : Mt) : (cutM m).val.size ≤ 210 := by unfold cutM; rw [ByteArray.size_extract]; omega
theorem fewM_fit {l : List Mt} (h : MtsFit l) : MtsFit (fewM l) := by
 intro m hm
 unfold fewM at hm
 obtain ⟨x, hx, rfl⟩ := List.mem_map.1 hm
 have := h x (List.mem_of_mem_take hx)
 exact ⟨this.1, by have := cutM_size x; unfold maxLen; omega⟩
theorem fewM_small {l : List Mt} : ∀ m ∈ fewM l, m.val.size ≤ 210 := by
 intro m hm
 unfold fewM at hm
 obtain ⟨x, hx, rfl⟩ := List.mem_map.1 hm
 exact cutM_size x
theorem fewM_le (l : List Mt) : (fewM l).length ≤ 15 := by rw [fewM_len]; omega
set_option maxHeartbeats 1600000 in
set_option maxRecDepth 100000 in
theorem few6_any (l : List Mt) (v : Value) (w : World) (hm : MtsAt w v l) (hl : l.length ≤ maxLen) :
  Calls Tryz.prog 13 #[v] w fun e w' => ∃ v', e = .returned v' ∧ w'.ownsRow w.heap.size 29 3 v' (fewM l).length (mtCells (fewM l)) ∧ Below w.heap.size w w' := by
 obtain ⟨i0, hi0, hz0, hz1, hz2⟩ := info_parts info_mt
 obtain ⟨la, lc, rfl, hc, hr⟩ := RdAt.shape hm
 have HR := Lib.hid hr
 unfold maxLen at hl
 clear hr hm
 go_enter Tryz.func13, Tryz.ntmps13
 go_wp2
 go_loopw [4, 3] (fun vi vo wr => ∃ (k : Nat) (ov : Value), vi = .int .i64 k ∧ ov = vo ∧ k ≤ l.length ∧ k ≤ 15 ∧ Hid (wr.ownsRow w.heap.size 29 3 ov k (mtCells ((fewM l).take k))) ∧ Hid (Below w.heap.size w wr)) (fun v _ _ => 16 - (intOf v).toNat)
 case atStart => exact ⟨0, _, rfl, rfl, Nat.zero_le _, Nat.zero_le _, Lib.hid (World.ownsRow_nil _ _ _ _), Lib.hid (Below.refl _ _)⟩
 case round =>
  obtain ⟨k, ov, rfl, rfl, hk, hk15, HOW, HB⟩ := hrel
  by_cases hkl : k < l.length
  ·have hkl' : (k : Int) < (l.length : Int) := by omega
   by_cases h15 : k < 15
   ·have h15' : (k : Int) < 15 := by omega
    obtain ⟨g, o, rfl, hg, hcell⟩ := HR.out (by omega)
    obtain ⟨x, hx⟩ : ∃ x, l[k] = x := ⟨_, rfl⟩
    obtain ⟨q0, q1, q2⟩ := mtCells_at l k hkl
    rw [hx] at q0 q1 q2
    have p0 := keep_cell (hcell _ _ q0) HB.out hg
    have p1 := keep_cell (hcell _ _ q1) HB.out hg
    have p2 := keep_cell (hcell _ _ q2) HB.out hg
    rw [← Nat.add_assoc] at p1 p2
    have HST := Lib.hid (fewM_step h15 hkl)
    rw [hx] at HST
    have hk0 : (0 : Int) ≤ (k : Int) := by omega
    clear hx q0 q1 q2 hcell
    obtain ⟨nm, op, val⟩ := x
    dsimp only at *
    have hmin0 : (0 : Int) ≤ min (val.size : Int) 210 := by omega
    have hmin1 : min (val.size : Int) 210 ≤ (val.size : Int) := by omega
    go_upto_region 7 with fail
    change Code.wp _ _ _ _ (wr.alloc (.cells #[.string nm, .int .i64 op, .string (val.extract 0 (min (val.size : Int) 210).toNat)] 29))
    generalize hvx : val.extract 0 (min (val.size : Int) 210).toNat = vx at *
    have HST2 : Hid ((fewM l).take (k + 1) = (fewM l).take k ++ [⟨nm, op, vx⟩]) := Lib.hid (by rw [HST.out, ← hvx]; rfl)
    have hba := alloc_below wr (.cells #[.string nm, .int .i64 op, .string vx] 29)
    have m0 : (wr.alloc (.cells #[.string nm, .int .i64 op, .string vx] 29)).cell? ⟨wr.heap.size, 0, none⟩ = some (.string nm) := World.cell?_alloc_at _ _ _ _ rfl
    have m1 : (wr.alloc (.cells #[.string nm, .int .i64 op, .string vx] 29)).cell? ⟨wr.heap.size, 1, none⟩ = some (.int .i64 op) := World.cell?_alloc_at _ _ _ _ rfl
    have m2 : (wr.alloc (.cells #[.string nm, .int .i64 op, .string vx] 29)).cell? ⟨wr.heap.size, 2, none⟩ = some (.string vx) := World.cell?_alloc_at _ _ _ _ rfl
    clear p0 p1 p2 hvx HST hmin0 hmin1
    have HBA := Lib.hid (HB.out.trans (hba.mono HB.out.size))
    have HOA := Lib.hid (own_later HOW.out hba)
    generalize wr.alloc (.cells #[.string nm, .int .i64 op, .string vx] 29) = wa at *
    have hown := own_later HOA.out (alloc_below wa (.cells #[.string nm, .int .i64 op, .string vx] 29))
    have hrow := row_mt wa ⟨nm, op, vx⟩
    have HBX := Lib.hid (HBA.out.trans ((alloc_below wa (.cells #[.string nm, .int .i64 op, .string vx] 29)).mono HBA.out.size))
    have hbase := HBX.out.size
    clear hba HOW HB
    go_wp2_with (at_builtin; (refine wpList_append_rd rfl (.tmp 28) (.tmp 30) 23 rfl w.heap.size 29 i0 (.agg #[.string ⟨#[]⟩, .int .i64 0, .string ⟨#[]⟩]) 3 40 Tryz.underlying23 hi0 hz0 hz1 hz2 rfl (by decide) ov k (mtCells ((fewM l).take k)) rfl hown _ 1 _ rfl hrow (mt1_cells ⟨nm, op, vx⟩) (by unfold maxLen; omega) (by omega) hbase ?_); intro v' w6 hown6 hgrow6; have HO6 := Lib.hid hown6; have HB6 := Lib.hid (HBX.out.grown hgrow6 hbase (fun q hq => (hown.lt q hq).1)); clear hown6 hgrow6)
    go_roundw
    case rel => exact ⟨k + 1, v', by go_num, rfl, by omega, by omega, Lib.hid (by rw [HST2.out, mtCells_append]; exact HO6.out), HB6⟩
    case measure => (simp [intOf]; try omega)
   ·have h15' : ¬ (k : Int) < 15 := by omega
    have h15'' : decide ((k : Int) < 15) = false := decide_eq_false h15'
    have HF : Hid (k = (fewM l).length) := Lib.hid (by rw [fewM_len]; omega)
    go_wp2
    go_ret
    refine ⟨_, rfl, ?_, HB.out⟩
    have := HOW.out
    rw [HF.out, List.take_length] at this
    exact this
  ·have hkl' : ¬ (k : Int) < (l.length : Int) := by omega
   have hkl'' : decide ((k : Int) < (l.length : Int)) = false := decide_eq_false hkl'
   have HF : Hid (k = (fewM l).length) := Lib.hid (by rw [fewM_len]; omega)
   go_wp2
   go_ret
   refine ⟨_, rfl, ?_, HB.out⟩
   have := HOW.out
   rw [HF.out, List.take_length] at this
   exact this
end Go.Proofs.YtgbapkechngnmaaGreat
/- Several parts in one: Labels, said plainly: a level and 32 teams as the bits of a number. No program in sight. label.Right and label.Flows: contracts. -/
namespace Go.Proofs.YtgbapkechngnmaaGreat
open Go.RowKit

/-- a label may be -/
def rightL (l : Int) : Bool := decide (0 ≤ l ∧ l ≤ 7)
/-- the teams of a number -/
def teamsN (c n : Nat) : List Nat := (List.range n).filter fun k => c.testBit k
def subB (c d : Nat) : Bool := (List.range 32).all fun k => !c.testBit k || d.testBit k
def flowsL (l : Int) (c : Nat) (m : Int) (d : Nat) : Bool := rightL l && rightL m && decide (l ≤ m) && subB c d
/-- bits laid together -/
def sumN (l : List Nat) : Nat := l.foldl (fun a k => a + 2 ^ k) 0
theorem sumN_snoc (l : List Nat) (k : Nat) : sumN (l ++ [k]) = sumN l + 2 ^ k := by simp [sumN, List.foldl_append]
theorem sum_bits (p : Nat → Bool) (n : Nat) : sumN ((List.range n).filter p) < 2 ^ n ∧ ∀ j, (sumN ((List.range n).filter p)).testBit j = (decide (j < n) && p j) := by
 induction n with
 | zero => simp [sumN]
 | succ n ih =>
  obtain ⟨h1, h2⟩ := ih
  rw [List.range_succ, List.filter_append]
  cases hp : p n with
  | false =>
   have e : List.filter p [n] = [] := by simp [hp]
   rw [e, List.append_nil]
   refine ⟨Nat.lt_trans h1 (Nat.pow_lt_pow_right (by decide) (Nat.lt_succ_self n)), fun j => ?_⟩
   rw [h2]
   by_cases hj : j = n
   ·subst hj; simp [hp]
   ·by_cases h : j < n
    ·simp [h, show j < n + 1 by omega]
    ·simp [h, show ¬ j < n + 1 by omega]
  | true =>
   have e : List.filter p [n] = [n] := by simp [hp]
   rw [e, sumN_snoc]
   have hlt : sumN ((List.range n).filter p) + 2 ^ n < 2 ^ (n + 1) := by rw [Nat.pow_succ]; omega
   refine ⟨hlt, fun j => ?_⟩
   rcases Nat.lt_trichotomy j n with h | h | h
   ·rw [Nat.add_comm, Nat.testBit_two_pow_add_gt h, h2]
    simp [h, show j < n + 1 by omega]
   ·subst h
    rw [Nat.add_comm, Nat.testBit_two_pow_add_eq, h2]
    simp [hp]
   ·rw [Nat.testBit_lt_two_pow (Nat.lt_of_lt_of_le hlt (Nat.pow_le_pow_right (by decide) h))]
    simp [show ¬ j < n + 1 by omega]
/-- two numbers of 32 bits with the same bits -/
theorem bits_eq {a b : Nat} (ha : a < 2 ^ 32) (hb : b < 2 ^ 32) (h : ∀ k, k < 32 → a.testBit k = b.testBit k) : a = b := by
 apply Nat.eq_of_testBit_eq
 intro k
 by_cases hk : k < 32
 ·exact h k hk
 ·rw [Nat.testBit_lt_two_pow (Nat.lt_of_lt_of_le ha (Nat.pow_le_pow_right (by decide) (by omega))), Nat.testBit_lt_two_pow (Nat.lt_of_lt_of_le hb (Nat.pow_le_pow_right (by decide) (by omega)))]
theorem teams_back {c : Nat} (hc : c < 2 ^ 32) : sumN (teamsN c 32) = c := by
 obtain ⟨h1, h2⟩ := sum_bits (fun k => c.testBit k) 32
 exact bits_eq h1 hc (fun k hk => by rw [teamsN, h2]; simp [hk])
theorem teams_or {c d : Nat} (hc : c < 2 ^ 32) (hd : d < 2 ^ 32) : sumN ((List.range 32).filter fun k => c.testBit k || d.testBit k) = c ||| d := by
 obtain ⟨h1, h2⟩ := sum_bits (fun k => c.testBit k || d.testBit k) 32
 exact bits_eq h1 (Nat.or_lt_two_pow hc hd) (fun k hk => by rw [h2, Nat.testBit_or]; simp [hk])
theorem teams_and {c d : Nat} (hc : c < 2 ^ 32) : sumN ((List.range 32).filter fun k => c.testBit k && d.testBit k) = c &&& d := by
 obtain ⟨h1, h2⟩ := sum_bits (fun k => c.testBit k && d.testBit k) 32
 exact bits_eq h1 (Nat.lt_of_le_of_lt Nat.and_le_left hc) (fun k hk => by rw [h2, Nat.testBit_and]; simp [hk])
theorem teams_step (c k : Nat) : teamsN c (k + 1) = teamsN c k ++ (if c / 2 ^ k % 2 = 1 then [k] else []) := by
 unfold teamsN
 rw [List.range_succ, List.filter_append]
 congr 1
 have e : c.testBit k = decide (c / 2 ^ k % 2 = 1) := Nat.testBit_eq_decide_div_mod_eq
 by_cases h : c / 2 ^ k % 2 = 1
 ·simp [e, h]
 ·simp [e, h]
theorem mem_teams {c n k : Nat} : k ∈ teamsN c n ↔ k < n ∧ c.testBit k = true := by simp [teamsN]
theorem sub_iff {c d : Nat} : subB c d = true ↔ ∀ k ∈ teamsN c 32, k ∈ teamsN d 32 := by
 unfold subB
 rw [List.all_eq_true]
 constructor
 ·intro h k hk
  obtain ⟨h1, h2⟩ := mem_teams.1 hk
  have := h k (List.mem_range.2 h1)
  rw [h2] at this
  exact mem_teams.2 ⟨h1, by simpa using this⟩
 ·intro h k hk
  have hk' := List.mem_range.1 hk
  cases hc : c.testBit k with
  | false => simp
  | true =>
   have := (mem_teams.1 (h k (mem_teams.2 ⟨hk', hc⟩))).2
   simp [this]
/-- c &^ d: nothing is left just where c's bits are d's -/
theorem andNot_zero {c d : Nat} : (BitVec.ofNat 32 c &&& ~~~ BitVec.ofNat 32 d).toNat = 0 ↔ subB c d = true := by
 unfold subB
 rw [List.all_eq_true]
 have hz : (BitVec.ofNat 32 c &&& ~~~ BitVec.ofNat 32 d).toNat = 0 ↔ (BitVec.ofNat 32 c &&& ~~~ BitVec.ofNat 32 d) = 0#32 := by
  constructor
  ·intro h; exact BitVec.eq_of_toNat_eq (by simpa using h)
  ·intro h; rw [h]; rfl
 rw [hz]
 have hg : ∀ (x k : Nat) (_ : k < 32), (BitVec.ofNat 32 x).getLsbD k = x.testBit k := fun x k hk => by rw [BitVec.getLsbD_ofNat]; simp [hk]
 constructor
 ·intro h k hk
  have hk' := List.mem_range.1 hk
  have h1 := congrArg (fun x => x.getLsbD k) h
  simp only [BitVec.getLsbD_and, BitVec.getLsbD_not, hg _ _ hk', hk', decide_true, Bool.true_and] at h1
  revert h1
  cases c.testBit k <;> cases d.testBit k <;> simp
 ·intro h
  apply BitVec.eq_of_getLsbD_eq
  intro k hk
  have h1 := h k (List.mem_range.2 hk)
  simp only [BitVec.getLsbD_and, BitVec.getLsbD_not, hg _ _ hk, hk, decide_true, Bool.true_and]
  revert h1
  cases c.testBit k <;> cases d.testBit k <;> simp
end Go.Proofs.YtgbapkechngnmaaGreat
namespace Go.Proofs.YtgbapkechngnmaaGreat
open Go.RowKit

/-- a label as a value -/
abbrev Lab (l : Int) (c : Nat) : Value := .agg #[.int .i64 l, .int .u32 c]
theorem bits_andNot_zero (c d : Nat) : (bits BinOp.andNot IntKind.u32 (c : Int) (d : Int) == 0) = subB c d := by
 have h0 := andNot_zero (c := c) (d := d)
 have e : bits BinOp.andNot IntKind.u32 (c : Int) (d : Int) = (((BitVec.ofNat 32 c &&& ~~~ BitVec.ofNat 32 d).toNat : Nat) : Int) := by
  show IntKind.u32.wrap ((BitVec.ofInt 32 (c : Int) &&& ~~~BitVec.ofInt 32 (d : Int)).toNat : Int) = _
  rw [BitVec.ofInt_natCast, BitVec.ofInt_natCast, IntKind.wrap_u32']
  have := (BitVec.ofNat 32 c &&& ~~~ BitVec.ofNat 32 d).isLt
  omega
 rw [e, Bool.eq_iff_iff, ← h0, beq_iff_eq]
 omega
end Go.Proofs.YtgbapkechngnmaaGreat
/- alert.Right and alert.Fires: contracts. -/
namespace Go.Proofs.YtgbapkechngnmaaGreat
open Go.RowKit

/-- an alert, said plainly -/
structure Al where
 src : ByteArray
 fl : List Fld
 lv : Int
 c : Nat
 fr : Int
 til : Int
/-- when an alert begins -/
def beginsA (f : Int) : Bool := decide (0 ≤ f) && decide (f ≤ 1099511627776)
/-- and when it ends -/
def endsA (f t : Int) : Bool := decide (t = 0) || (decide (f < t) && decide (t ≤ 1099511627776))
def whoA (src : ByteArray) (fl : List Fld) (lv : Int) : Bool := nameL (B src) && decide (0 < fl.length) && rightF fl && rightL lv
/-- an alert may be -/
def rightA (x : Al) : Bool := whoA x.src x.fl x.lv && beginsA x.fr && endsA x.fr x.til
/-- an alert fires -/
def firesA (x : Al) (now : Int) : Bool := decide (x.fr ≤ now) && (decide (x.til = 0) || decide (now < x.til))
/-- an alert as a value, its fields at v -/
abbrev AlV (x : Al) (v : Value) : Value := .agg #[.string x.src, v, .int .i64 x.lv, .int .u32 x.c, .int .i64 x.fr, .int .i64 x.til]

end Go.Proofs.YtgbapkechngnmaaGreat
/- Alerts in memory. -/
namespace Go.Proofs.YtgbapkechngnmaaGreat
open Go.RowKit

theorem fldCells_take (l : List Fld) (i : Nat) : fldCells (l.take i) = (fldCells l).take (i * 2) := by
 induction l generalizing i with
 | nil => simp [fldCells]
 | cons f l ih =>
  cases i with
  | zero => simp [fldCells]
  | succ i => rw [List.take_succ_cons, fldCells, ih, fldCells, show (i + 1) * 2 = i * 2 + 1 + 1 by omega]; rfl
theorem fld_take {w : World} {a : Option Addr} {c : Nat} {fl : List Fld} (h : FldsAt w (.slice a fl.length c) fl) (k : Nat) (hk : k ≤ fl.length) (hn : a = none → fl.length = 0) : FldsAt w (.slice a k c) (fl.take k) := by
 have hl : (fl.take k).length = k := by rw [List.length_take]; omega
 unfold FldsAt at h ⊢
 rw [hl, fldCells_take]
 refine ⟨by rw [List.length_take, fldCells_len]; omega, ?_⟩
 rcases h.2 with ⟨h1, h0⟩ | ⟨ad, c', h1, hc, hr⟩
 ·simp only [Value.slice.injEq] at h1
  obtain ⟨rfl, h2, rfl⟩ := h1
  exact .inl ⟨by rw [show k = 0 by omega], by omega⟩
 ·simp only [Value.slice.injEq] at h1
  obtain ⟨rfl, _, rfl⟩ := h1
  refine .inr ⟨ad, c, rfl, by omega, fun h0 => ?_⟩
  obtain ⟨b, o, rfl, hlt, hcell⟩ := hr (by omega)
  refine ⟨b, o, rfl, hlt, fun j x hj => hcell j x ?_⟩
  have hjl := (List.getElem?_eq_some_iff.1 hj).1
  rw [List.length_take] at hjl
  rwa [List.getElem?_take_of_lt (by omega)] at hj
/-- alerts in memory -/
def alC (x : Al) (v : Value) : List Value := [.string x.src, v, .int .i64 x.lv, .int .u32 x.c, .int .i64 x.fr, .int .i64 x.til]
def alCells : List (Al × Value) → List Value
 | [] => []
 | p :: l => alC p.1 p.2 ++ alCells l
theorem alCells_len (l : List (Al × Value)) : (alCells l).length = l.length * 6 := by
 induction l with
 | nil => rfl
 | cons x l ih => simp only [alCells, List.length_append, ih, List.length_cons]; simp [alC]; omega
theorem alCells_at : ∀ (l : List (Al × Value)) (j : Nat) (h : j < l.length) (i : Nat) (v : Value), (alC l[j].1 l[j].2)[i]? = some v → (alCells l)[j * 6 + i]? = some v
 | x :: l, 0, _, i, v, hi => by
  have hlt := (List.getElem?_eq_some_iff.1 hi).1
  simp only [alCells]
  rw [List.getElem?_append_left (by simpa using hlt)]
  simpa using hi
 | x :: l, j + 1, h, i, v, hi => by
  simp only [alCells]
  rw [List.getElem?_append_right (by simp [alC]; omega)]
  have := alCells_at l j (by simpa using h) i v (by simpa using hi)
  rw [show (j + 1) * 6 + i - (alC x.1 x.2).length = j * 6 + i by simp [alC]; omega]
  exact this
/-- an alert fits its memory -/
structure AlFit (x : Al) : Prop where
 src : x.src.size ≤ maxLen
 fl : FldsFit x.fl
 len : x.fl.length ≤ maxLen
 c : x.c < 4294967296
structure AlsAt (w : World) (v : Value) (l : List (Al × Value)) : Prop where
 row : RdAt w v l.length 6 (alCells l)
 fld : ∀ p ∈ l, FldsAt w p.2 p.1.fl ∧ AlFit p.1
theorem AlsAt.later {w w' : World} {v : Value} {l : List (Al × Value)} (h : AlsAt w v l) (hb : Below w.heap.size w w') : AlsAt w' v l := ⟨h.row.later hb, fun p hp => ⟨(h.fld p hp).1.later hb, (h.fld p hp).2⟩⟩
end Go.Proofs.YtgbapkechngnmaaGreat
/- The arguments of chapter 09's laws: alerts, labels, numbers, policies. -/
namespace Go.Proofs.YtgbapkechngnmaaGreat
open Go.RowKit Go.WideShapes Go.ChangeShapes Go.Deep

theorem cell_ltA {w : World} {a : Addr} {v : Value} (h : w.cell? a = some v) : a.block < w.heap.size := by
 rcases Nat.lt_or_ge a.block w.heap.size with h' | h'
 ·exact h'
 ·simp [World.cell?, Array.getElem?_eq_none h'] at h
section
variable {H : Type} {enc : TypeId × Value → H} {P : Program} {w : World} {base : Nat} {spare : Nat → Bool} {held : Bool}
/-- a slice of structs: each element's cells, and what its fields read as -/
theorem open_slice_structs {t e : TypeId} {fs : Array Field} {fuel : Nat} {cs : List Value} {x : DataW H × List MemPlace} (ht : P.underlying t = some (.slice e)) (he : P.underlying e = some (.struct fs))
  (h : DataW.trod enc P w base spare held fuel t cs = some x) :
  cs = [.slice none 0 0] ∨
  ∃ (a : Addr) (len cap : Nat), cs = [.slice (some a) len cap] ∧ len ≤ cap ∧ cap ≤ maxLen ∧
   ∀ i, i < len → ∃ (es : List Value) (n : Nat), es.length = P.cellsOf e ∧ (∀ j, j < P.cellsOf e → w.cell? (a.add (i * P.cellsOf e + j)) = es[j]?) ∧
    ∀ (j : Nat) (f : Field), fs[j]? = some f → ∃ y, DataW.trod enc P w base spare held n f.type ((es.drop f.offset).take (P.cellsOf f.type)) = some y := by
 rcases open_slice ht h with ⟨h0, _⟩ | ⟨a, len, cap, m, n, D, Pl, hcs, hb, hl, hm, hmm, hx, hi⟩
 ·exact .inl h0
 ·refine .inr ⟨a, len, cap, hcs, hl, hm, fun i hil => ?_⟩
  obtain ⟨cs', hc, ht'⟩ := hi i (by rw [hmm]; split <;> omega)
  obtain ⟨ys, n', hn', hy, hlen, hyl, hf⟩ := DataW.trod_struct he ht'
  obtain ⟨_, hcl, hat⟩ := World.cells?_some hc
  refine ⟨cs', n', by omega, fun j hj => ?_, fun j f hj => ?_⟩
  ·rw [← Go.Deep.add_add]; exact hat j hj
  ·have hjl : j < fs.size := (Array.getElem?_eq_some_iff.1 hj).1
   have h1 := hf j f hj
   exact ⟨_, h1.trans (List.getElem?_eq_getElem (by omega))⟩
end
/-- fields of an argument -/
def ArgFlds (w : World) (v : Value) (fl : List Fld) : Prop := FldsAt w v fl ∧ fl.length ≤ maxLen ∧ FldsFit fl
theorem add_off {b o j : Nat} : (⟨b, o, none⟩ : Addr).add j = ⟨b, o + j, none⟩ := Go.WideShapes.add_plain ..
set_option maxRecDepth 100000 in
theorem flds_of_trod {H : Type} {enc : TypeId × Value → H} {W : World} {n : Nat} {v : Value} {x : DataW H × List MemPlace} (h : DataW.trod enc Tryz.prog W 0 (fun _ => true) true n 22 [v] = some x) : ∃ fl, ArgFlds W v fl := by
 have hC : Tryz.prog.cellsOf 46 = 2 := by kernel_rfl
 have hcs1 : Tryz.prog.cellsOf 9 = 1 := by kernel_rfl
 rcases open_slice_structs Tryz.underlying22 Tryz.underlying46 h with hcs | ⟨a, len, cap, hcs, hl, hm, hf⟩
 ·cases hcs
  exact ⟨[], RdAt.nil W 2, Nat.zero_le _, fun _ h => by cases h⟩
 ·cases hcs
  rw [hC] at hf
  have hone : ∀ i, i < len → ∃ s : Fld, W.cell? (a.add (i * 2)) = some (.string s.1) ∧ W.cell? (a.add (i * 2 + 1)) = some (.string s.2) ∧ s.1.size ≤ maxLen ∧ s.2.size ≤ maxLen := by
   intro i hi
   obtain ⟨es, n, hlen, hat, hfs⟩ := hf i hi
   match es, hlen with
   | [e0, e1], _ =>
    obtain ⟨y0, t0⟩ := hfs 0 _ rfl
    obtain ⟨y1, t1⟩ := hfs 1 _ rfl
    obtain ⟨s0, q0, _, z0⟩ := DataW.trod_string Tryz.underlying9 t0
    obtain ⟨s1, q1, _, z1⟩ := DataW.trod_string Tryz.underlying9 t1
    simp [hcs1] at q0 q1
    subst q0 q1
    exact ⟨(s0, s1), hat 0 (by omega), hat 1 (by omega), z0, z1⟩
  have hg : ∃ g : Nat → Fld, ∀ i, i < len → W.cell? (a.add (i * 2)) = some (.string (g i).1) ∧ W.cell? (a.add (i * 2 + 1)) = some (.string (g i).2) ∧ (g i).1.size ≤ maxLen ∧ (g i).2.size ≤ maxLen :=
   ⟨fun i => if h : i < len then Classical.choose (hone i h) else default, fun i h => by have := Classical.choose_spec (hone i h); simpa only [dif_pos h] using this⟩
  obtain ⟨g, hg⟩ := hg
  have hgl : ((List.range len).map g).length = len := by simp
  refine ⟨(List.range len).map g, ⟨fldCells_len _, .inr ⟨a, cap, by rw [hgl], by omega, fun hn => ?_⟩⟩, by rw [hgl]; omega, fun s hs => ?_⟩
  ·rw [hgl] at hn
   obtain ⟨b, off, spot⟩ := a
   have h0 := (hg 0 hn).1
   have hspot : spot = none := by simpa [Addr.add] using World.cell?_spot h0
   subst hspot
   refine ⟨b, off, rfl, by have := cell_ltA h0; simpa [Addr.add] using this, fun j x hj => ?_⟩
   have hjl := (List.getElem?_eq_some_iff.1 hj).1
   rw [fldCells_len, hgl] at hjl
   obtain ⟨m, r, hr2, rfl⟩ : ∃ m r, r < 2 ∧ j = m * 2 + r := ⟨j / 2, j % 2, Nat.mod_lt _ (by decide), by omega⟩
   obtain ⟨q0, q1⟩ := fldCells_at ((List.range len).map g) m (by rw [hgl]; omega)
   obtain ⟨h1, h2, _⟩ := hg m (by omega)
   simp only [List.getElem_map, List.getElem_range] at q0 q1
   rw [add_off] at h1 h2
   match r, hr2 with
   | 0, _ => rw [Nat.add_zero] at hj ⊢; rw [q0] at hj; rw [← Option.some.inj hj]; exact h1
   | 1, _ => rw [q1] at hj; rw [← Option.some.inj hj]; exact h2
  ·obtain ⟨i, hi, rfl⟩ := List.mem_map.1 hs
   exact (hg i (List.mem_range.1 hi)).2.2
theorem lit_u32 {c : Int} (h : (Lit.int .u32 c).wf = true) : ∃ n : Nat, c = n ∧ n < 4294967296 := by
 have : 0 ≤ c ∧ c ≤ 4294967295 := by
  simp [Lit.wf, IntKind.min, IntKind.max, IntKind.signed, IntKind.bits] at h; omega
 exact ⟨c.toNat, by omega, by omega⟩
/-- an alert of an argument -/
def ArgAl (w : World) (v : Value) (x : Al) (fv : Value) : Prop := v = .agg #[.string x.src, fv, .int .i64 x.lv, .int .u32 x.c, .int .i64 x.fr, .int .i64 x.til] ∧ FldsAt w fv x.fl ∧ AlFit x
end Go.Proofs.YtgbapkechngnmaaGreat
/- The arguments of chapter 06's laws: fields, matchers. (mts_of_trod: chapter 22's text.) -/
namespace Go.Proofs.YtgbapkechngnmaaGreat
open Go.RowKit Go.WideShapes Go.ChangeShapes Go.Deep

/-- a row of structs: its cells, one by one -/
theorem row_cells {W : World} {a : Addr} {len size : Nat} {f : Nat → List Value} (h0 : 0 < size) (hlen : ∀ i, i < len → (f i).length = size) (hat : ∀ i, i < len → ∀ j, j < size → W.cell? (a.add (i * size + j)) = (f i)[j]?) (hp : 0 < len) :
  ∃ b o, a = ⟨b, o, none⟩ ∧ b < W.heap.size ∧ ∀ i, i < len → ∀ j x, (f i)[j]? = some x → W.cell? ⟨b, o + (i * size + j), none⟩ = some x := by
 obtain ⟨b, off, spot⟩ := a
 obtain ⟨x0, hx0⟩ : ∃ x, (f 0)[0]? = some x := ⟨_, List.getElem?_eq_getElem (by rw [hlen 0 hp]; exact h0)⟩
 have hc := hat 0 hp 0 h0
 rw [hx0] at hc
 have hspot : spot = none := by simpa [Addr.add] using World.cell?_spot hc
 subst hspot
 refine ⟨b, off, rfl, by have := cell_ltA hc; simpa [Addr.add] using this, fun i hi j x hx => ?_⟩
 have hj : j < size := by have := (List.getElem?_eq_some_iff.1 hx).1; rw [hlen i hi] at this; exact this
 have := hat i hi j hj
 rw [add_off, hx] at this
 exact this
set_option maxRecDepth 100000 in
theorem mts_of_trod {H : Type} {enc : TypeId × Value → H} {W : World} {n : Nat} {v : Value} {x : DataW H × List MemPlace} (h : DataW.trod enc Tryz.prog W 0 (fun _ => true) true n 23 [v] = some x) : ∃ l, MtsAt W v l ∧ l.length ≤ maxLen ∧ MtsFit l := by
 have hC : Tryz.prog.cellsOf 29 = 3 := by kernel_rfl
 have hcs1 : Tryz.prog.cellsOf 9 = 1 := by kernel_rfl
 have hci : Tryz.prog.cellsOf 3 = 1 := by kernel_rfl
 rcases open_slice_structs Tryz.underlying23 Tryz.underlying29 h with hcs | ⟨a, len, cap, hcs, hl, hm, hf⟩
 ·cases hcs
  exact ⟨[], RdAt.nil W 3, Nat.zero_le _, fun _ h => by cases h⟩
 ·cases hcs
  rw [hC] at hf
  have hone : ∀ i, i < len → ∃ s : Mt, (∀ j, j < 3 → W.cell? (a.add (i * 3 + j)) = (mtC s)[j]?) ∧ MtFit s := by
   intro i hi
   obtain ⟨es, n, hlen, hat, hfs⟩ := hf i hi
   match es, hlen with
   | [e0, e1, e2], _ =>
    obtain ⟨y0, t0⟩ := hfs 0 _ rfl
    obtain ⟨y1, t1⟩ := hfs 1 _ rfl
    obtain ⟨y2, t2⟩ := hfs 2 _ rfl
    obtain ⟨s0, q0, _, z0⟩ := DataW.trod_string Tryz.underlying9 t0
    obtain ⟨k1, q1, _, _⟩ := DataW.trod_int Tryz.underlying3 t1
    obtain ⟨s2, q2, _, z2⟩ := DataW.trod_string Tryz.underlying9 t2
    simp [hcs1] at q0 q2
    simp [hci] at q1
    subst q0 q1 q2
    exact ⟨⟨s0, k1, s2⟩, hat, z0, z2⟩
  have hg : ∃ g : Nat → Mt, ∀ i, i < len → (∀ j, j < 3 → W.cell? (a.add (i * 3 + j)) = (mtC (g i))[j]?) ∧ MtFit (g i) :=
   ⟨fun i => if h : i < len then Classical.choose (hone i h) else default, fun i h => by have := Classical.choose_spec (hone i h); simpa only [dif_pos h] using this⟩
  obtain ⟨g, hg⟩ := hg
  have hgl : ((List.range len).map g).length = len := by simp
  refine ⟨(List.range len).map g, ⟨mtCells_len _, .inr ⟨a, cap, by rw [hgl], by omega, fun hn => ?_⟩⟩, by rw [hgl]; omega, fun s hs => ?_⟩
  ·rw [hgl] at hn
   obtain ⟨b, o, rfl, hlt, hcell⟩ := row_cells (f := fun i => mtC (g i)) (size := 3) (by decide) (fun _ _ => rfl) (fun i hi => (hg i hi).1) hn
   refine ⟨b, o, rfl, hlt, fun j x hj => ?_⟩
   have hjl := (List.getElem?_eq_some_iff.1 hj).1
   rw [mtCells_len, hgl] at hjl
   obtain ⟨m, r, hr3, rfl⟩ : ∃ m r, r < 3 ∧ j = m * 3 + r := ⟨j / 3, j % 3, Nat.mod_lt _ (by decide), by omega⟩
   obtain ⟨q0, q1, q2⟩ := mtCells_at ((List.range len).map g) m (by rw [hgl]; omega)
   simp only [List.getElem_map, List.getElem_range] at q0 q1 q2
   refine hcell m (by omega) r x ?_
   match r, hr3 with
   | 0, _ => rw [Nat.add_zero, q0] at hj; exact hj
   | 1, _ => rw [q1] at hj; exact hj
   | 2, _ => rw [q2] at hj; exact hj
  ·obtain ⟨i, hi, rfl⟩ := List.mem_map.1 hs
   exact (hg i (List.mem_range.1 hi)).2
set_option maxRecDepth 100000 in
theorem flds_of_arg {H : Type} {enc : TypeId × Value → H} {W : World} {base : Nat} {v : Value} {d : DataW H} {p : List MemPlace} (hval : Value.okWide Tryz.prog W .any base 22 v) (h : DataW.Trod enc Tryz.prog W 0 (fun _ => true) true 22 v d p) : ∃ l, ArgFlds W v l := by
 obtain ⟨a0, len, cap, rfl⟩ := okWide_slice Tryz.underlying22 hval
 obtain ⟨fuel, hf⟩ := h
 exact flds_of_trod hf
/-- matchers of an argument -/
def ArgMts (w : World) (v : Value) (l : List Mt) : Prop := MtsAt w v l ∧ l.length ≤ maxLen ∧ MtsFit l
set_option maxRecDepth 100000 in
theorem mts_of_arg {H : Type} {enc : TypeId × Value → H} {W : World} {base : Nat} {v : Value} {d : DataW H} {p : List MemPlace} (hval : Value.okWide Tryz.prog W .any base 23 v) (h : DataW.Trod enc Tryz.prog W 0 (fun _ => true) true 23 v d p) : ∃ l, ArgMts W v l := by
 obtain ⟨a0, len, cap, rfl⟩ := okWide_slice Tryz.underlying23 hval
 obtain ⟨fuel, hf⟩ := h
 exact mts_of_trod hf
end Go.Proofs.YtgbapkechngnmaaGreat
/- lychgateref06.SameAll of the same matchers: a contract; MatchBack: the law's walk: whatever the arguments, it returns true. No condition. -/
namespace Go.Proofs.YtgbapkechngnmaaGreat
open Go.RowKit

set_option maxHeartbeats 1600000 in
set_option maxRecDepth 100000 in
theorem sameall_eq (l : List Mt) (u v : Value) (w : World) (hu : MtsAt w u l) (hv : MtsAt w v l) (hl : l.length ≤ 1000000) :
  Calls Tryz.prog 22 #[u, v] w fun e w' => e = .returned (.bool true) ∧ Below w.heap.size w w' := by
 obtain ⟨a, c, rfl, hc, hr⟩ := RdAt.shape hu
 obtain ⟨a', c', rfl, hc', hr'⟩ := RdAt.shape hv
 have HR := Lib.hid hr
 have HR' := Lib.hid hr'
 have hb0 : ((l.length : Int) != (l.length : Int)) = false := by simp
 clear hr hr' hu hv
 go_enter Tryz.func22, Tryz.ntmps22
 go_wp2
 go_loopw [5] (fun i wr => ∃ k : Nat, k ≤ l.length ∧ i = .int .i64 k ∧ Below w.heap.size w wr) (fun i _ => l.length - (intOf i).toNat)
 case atStart => exact ⟨0, Nat.zero_le _, rfl, Below.refl _ _⟩
 case round =>
  obtain ⟨k, hk, rfl, hbr⟩ := hrel
  by_cases hkl : k < l.length
  ·obtain ⟨⟨x0, x1, x2⟩, hxe⟩ : ∃ x, l[k] = x := ⟨_, rfl⟩
   obtain ⟨b0, o0, rfl, hb0', hcell⟩ := HR.out (by omega)
   obtain ⟨b1, o1, rfl, hb1', hcell'⟩ := HR'.out (by omega)
   obtain ⟨q0, q1, q2⟩ := mtCells_at l k hkl
   rw [hxe] at q0 q1 q2
   have c0 : wr.cell? ⟨b0, o0 + k * 3, none⟩ = some (.string x0) := keep_cell (hcell _ _ q0) hbr hb0'
   have c1 : wr.cell? ⟨b0, o0 + k * 3 + 1, none⟩ = some (.int .i64 x1) := keep_cell (by have := hcell _ _ q1; rwa [← Nat.add_assoc] at this) hbr hb0'
   have c2 : wr.cell? ⟨b0, o0 + k * 3 + 2, none⟩ = some (.string x2) := keep_cell (by have := hcell _ _ q2; rwa [← Nat.add_assoc] at this) hbr hb0'
   have d0 : wr.cell? ⟨b1, o1 + k * 3, none⟩ = some (.string x0) := keep_cell (hcell' _ _ q0) hbr hb1'
   have d1 : wr.cell? ⟨b1, o1 + k * 3 + 1, none⟩ = some (.int .i64 x1) := keep_cell (by have := hcell' _ _ q1; rwa [← Nat.add_assoc] at this) hbr hb1'
   have d2 : wr.cell? ⟨b1, o1 + k * 3 + 2, none⟩ = some (.string x2) := keep_cell (by have := hcell' _ _ q2; rwa [← Nat.add_assoc] at this) hbr hb1'
   have e0 : (x0.toList == x0.toList) = true := by simp
   have e2 : (x2.toList == x2.toList) = true := by simp
   have e1 : (x1 == x1) = true := by simp
   clear hcell hcell' q0 q1 q2 hxe
   go_wp2
   go_quiet (fail)
   have hb2 : Below w.heap.size w (wr.drewN nq) := bl_drewN hbr nq
   generalize wr.drewN nq = wq at *
   go_wp2
   go_roundw
   case rel => exact ⟨k + 1, by omega, by go_num, hb2⟩
   case measure => simp [intOf]; omega
  ·go_wp2
   go_ret
   exact ⟨rfl, hbr⟩
theorem mtsOk_small {l : List Mt} (h : mtsOk l = true) : l.length ≤ 12 ∧ l.all fineM = true := by
 unfold mtsOk at h
 rw [Bool.and_eq_true, decide_eq_true_eq] at h
 exact h
theorem text_size {s : ByteArray} {l : List Mt} (h : mtsOk l = true) (hs : B s = textB l) : s.size ≤ 900000 := by
 obtain ⟨h1, h2⟩ := mtsOk_small h
 have := textB_len l h2
 rw [← hs, len_B] at this
 omega
namespace lawBack
set_option maxHeartbeats 3200000 in
set_option maxRecDepth 100000 in
theorem walk (v0 : Value) (a0 : List Mt) (s : ByteArray) (w : World) (ha : ArgMts w v0 a0) (hs : s.size ≤ maxLen) :
  Calls Tryz.prog 4 #[v0, .string s] w fun e w' => e = .returned (.bool true) ∧ Below w.heap.size w w' := by
 have kl := lives6_any w
 have KA := Lib.hid (fun W (h : Below w.heap.size w W) => few6_any a0 v0 W (ha.1.later h) ha.2.1)
 have HFA := Lib.hid (fewM_fit ha.2.2)
 unfold maxLen at hs
 have hmin0 : (0 : Int) ≤ min (s.size : Int) 600 := by omega
 have hmin1 : min (s.size : Int) 600 ≤ (s.size : Int) := by omega
 have htz : (s.extract 0 (min (s.size : Int) 600).toNat).size ≤ 600 := by rw [ByteArray.size_extract]; omega
 obtain ⟨t, ht⟩ : ∃ t, s.extract 0 (min (s.size : Int) 600).toNat = t := ⟨_, rfl⟩
 rw [ht] at htz
 clear ha
 go_enter Tryz.func4, Tryz.ntmps4
 go_wp2_with fail
 refine kl.mono ?_
 rintro e w1 ⟨rfl, hb1⟩
 have HB1 := Lib.hid hb1
 have ka := KA.out w1 hb1
 clear kl hb1 KA
 go_wp2_with fail
 refine ka.mono ?_
 rintro e w3 ⟨av, rfl, hao, hb3⟩
 have HB3 := Lib.hid (HB1.out.trans (hb3.mono HB1.out.size))
 have HA3 := Lib.hid (RdAt.own hao)
 have hal := fewM_le a0
 generalize fewM a0 = A at *
 obtain ⟨aa, ac, rfl, _, _⟩ := RdAt.shape HA3.out
 have kt := mtext_any A _ w3 HA3.out HFA.out (by omega)
 clear ka hb3 hao
 go_wp2_with fail
 refine kt.mono ?_
 rintro e w4 ⟨tx, n, rfl, hb4, htx⟩
 have HB4 := Lib.hid (HB3.out.trans (hb4.mono HB3.out.size))
 have HA4 := Lib.hid (HA3.out.later hb4)
 have HTX := Lib.hid htx
 have hn : n = 0 ∨ n = 1 := by rcases htx with ⟨_, h, _⟩ | ⟨_, h, _⟩; exact .inl h; exact .inr h
 clear kt hb4 htx HA3
 go_upto_if 23 with fail
 go_cut [7, 8] (fun _ _ wx => Below w4.heap.size w4 wx)
 case first =>
  rcases hn with rfl | rfl
  ·have hok : mtsOk A = true ∧ B tx = textB A := by
    rcases HTX.out with ⟨h1, _, h3⟩ | ⟨_, h, _⟩
    ·exact ⟨h1, h3⟩
    ·cases h
   have kr := mread_any tx w4 (text_size hok.1 hok.2)
   have hrd : rdB 12 (B tx) = some A := (rd_iff _ _).2 ⟨hok.1, hok.2.symm⟩
   have HRD := Lib.hid hrd
   clear hok hrd
   go_wp2_with fail
   refine kr.mono ?_
   rintro e w5 ⟨xv, n, rfl, hb5, ⟨rfl, l, hl, hM, hF⟩ | ⟨_, hn, _⟩⟩
   rotate_left
   ·rw [HRD.out] at hn; cases hn
   obtain rfl : l = A := by rw [HRD.out] at hl; exact (Option.some.inj hl).symm
   obtain ⟨xa, xc, rfl, _, _⟩ := RdAt.shape hM
   have ks := sameall_eq l _ _ w5 hM (HA4.out.later hb5) (by omega)
   have HB5 := Lib.hid hb5
   clear kr hl hM hF hb5
   go_wp2_with fail
   refine ks.mono ?_
   rintro e w6 ⟨rfl, hb6⟩
   have HB6 := Lib.hid (HB5.out.trans (hb6.mono HB5.out.size))
   clear ks hb6
   go_wp2
   go_meet
   case rel => exact HB6.out
  ·go_wp2
   go_meet
   case rel => exact Below.refl _ _
 case rest =>
  have HCW := Lib.hid (HB4.out.trans (hcut.mono HB4.out.size))
  clear hcut HTX hn HA4
  have kr := mread_any t wc (by omega)
  go_upto_region 10 with fail
  clear ht hmin0 hmin1
  go_wp2_with fail
  refine kr.mono ?_
  rintro e w5 ⟨xv, n, rfl, hb5, ⟨rfl, l, hl, hM, hF⟩ | ⟨rfl, hn, rfl⟩⟩
  ·obtain ⟨h1, h2⟩ := (rd_iff _ _).1 hl
   have kt := mtext_any l xv w5 hM hF (by have := (mtsOk_small h1).1; omega)
   obtain ⟨xa, xc, rfl, _, _⟩ := RdAt.shape hM
   have HH := Lib.hid (And.intro h1 h2)
   have HB5 := Lib.hid (HCW.out.trans (hb5.mono HCW.out.size))
   clear kr hl hM hF hb5 h1 h2
   go_wp2_with fail
   refine kt.mono ?_
   rintro e w6 ⟨tu, n, rfl, hb6, ⟨_, rfl, htu⟩ | ⟨hno, _, _⟩⟩
   ·obtain rfl : tu = t := B_inj (htu.trans HH.out.2)
    have HB6 := Lib.hid (HB5.out.trans (hb6.mono HB5.out.size))
    have et : (tu.toList == tu.toList) = true := by simp
    clear kt hb6 htu
    go_wp2
    go_ret
    exact ⟨rfl, HB6.out⟩
   ·rw [HH.out.1] at hno; cases hno
  ·have HB5 := Lib.hid (HCW.out.trans (hb5.mono HCW.out.size))
   clear kr hn hb5
   go_wp2
   go_ret
   exact ⟨rfl, HB5.out⟩
end lawBack
end Go.Proofs.YtgbapkechngnmaaGreat
/- MatchBack: the card: whatever the arguments, the law returns true and its arguments read as they did. No condition. -/
namespace Go.Proofs.YtgbapkechngnmaaGreat.lawBack
open Go.ChangeShapes Go.WideShapes Go.ChangeAt Go.RowKit
open Go.ChangeMaps (open_string)

set_option maxRecDepth 100000 in
theorem contract (H : Type) (enc : TypeId × Value → H) (W : World) (base : Nat) (args : Array Value) (ds gs : List (DataW H)) (before : List MemPlace)
  (hval : ∀ (j : Nat) t v, Tryz.f4.params[j]? = some t → args[j]? = some v → Value.okWide Tryz.prog W .any base t v)
  (hW : DataW.Whole enc Tryz.prog Tryz.f4.params.toList Rows.matchBackSpec.vars false W args.toList ds gs before) :
  Calls Tryz.prog 4 args W fun e W' => ∃ v, e = .returned v ∧ Rows.matchBackSpec.post enc Tryz.prog Tryz.f4 false true false false W args v W' := by
 have hW' := hW
 obtain ⟨p, q, hA0, hV, rfl, hfz, hnd⟩ := hW
 have hA : DataW.TrodAll enc Tryz.prog W 0 (fun _ => true) true Tryz.f4.params.toList args.toList ds p := hA0
 rw [Tryz.params4] at hA hval
 obtain ⟨v0, vs0, d0, ds0, p0, q0, hargs, rfl, rfl, h0, r0⟩ := trodAll_cons hA
 obtain ⟨v1, vs1, d1, ds1, p1, q1, rfl, rfl, rfl, h1, r1⟩ := trodAll_cons r0
 obtain ⟨rfl, rfl, rfl⟩ := trodAll_nil r1
 obtain rfl : args = #[v0, v1] := by cases args; simp_all
 obtain ⟨rfl, rfl⟩ := trodVars_none hV
 obtain ⟨x0, hx0⟩ := mts_of_arg (hval 0 23 v0 rfl rfl) h0
 obtain ⟨x1, rfl, rfl, rfl, hx1⟩ := open_string Tryz.underlying9 (hval 1 9 v1 rfl rfl) h1
 clear hA0
 refine (walk v0 x0 x1 W hx0 hx1).mono ?_
 rintro e W' ⟨rfl, hb⟩
 exact ⟨_, rfl, law_post laidOut Tryz.underlying4 rfl rfl (by kernel_rfl) hW' rfl rfl rfl hb⟩

theorem laid_met (os : Os) : laidMet Tryz.prog Rows.matchBackRow.laid ((laidWorld os).forCall (fun _ _ => 0) ⟨#[], #[.slice none 0 0, .string ⟨#[]⟩], []⟩).memory :=
 ⟨[], rfl, List.nodup_nil, fun _ _ h => by cases h⟩
theorem reads (os : Os) {H : Type} (enc : TypeId × Value → H) : ∃ places, DataW.whole enc Tryz.prog ((laidWorld os).forCall (fun _ _ => 0) ⟨#[], #[.slice none 0 0, .string ⟨#[]⟩], []⟩).memory Tryz.f4.params.toList Rows.matchBackSpec.vars false (#[.slice none 0 0, .string ⟨#[]⟩] : Array Value).toList 8 = some ([.nil, .lit (.string [])], [], places) :=
 ⟨[], by kernel_rfl⟩

set_option maxRecDepth 100000 in
theorem lifted (os : Os) (started : os.Started) (H : Type) (enc : TypeId × Value → H) (F : Stop.Interp) :
  ReturnsInHanded {} Tryz.checked os 4 .any ((OpenSpec.ofChange Rows.matchBackSpec).preRow enc Tryz.prog Tryz.f4 Rows.matchBackRow.domain false Rows.matchBackRow.laid) (((OpenSpec.ofChange Rows.matchBackSpec).at F).post enc Tryz.prog Tryz.f4 false true false false) := by
 obtain ⟨places, hx⟩ := reads os enc
 refine returnsInHanded_of_row (C := Tryz.checked) (s := OpenSpec.ofChange Rows.matchBackSpec) ownNone started (by kernel_rfl) Tryz.func4
  (witness_row_at (enc := enc) (C := Tryz.checked) false (laidWorld os) #[.slice none 0 0, .string ⟨#[]⟩] rfl (by kernel_rfl) (by kernel_rfl) (by kernel_rfl)
   (OpenSpec.preRow_of_cond 8 hx (by kernel_rfl) (fun k hk => by cases hk) (by kernel_rfl) (laid_met os))) ?_
 intro W base args ds gs before hval hW _ _ _ _ _ _
 exact contract H enc W base args ds gs before hval hW

theorem said : Rows.MatchBackSaid :=
 OpenClaim.holds_of_cond 4 Tryz.f4 rfl rfl rfl rfl rfl rfl rfl ⟨rfl, rfl, rfl, rfl, rfl⟩ rfl rfl rfl rfl rfl (by kernel_rfl) Tryz.func4 (by kernel_rfl)
  (of_decide_eq_true (by kernel_rfl)) (by unfold Func.isWrapper; first | (rw [if_pos (by decide +kernel)]; kernel_rfl) | (rw [if_neg (by decide +kernel)]; exact ⟨rfl, rfl⟩))
  (fun os started H enc _ F => by rw [OpenClaim.pre_eq_preRow]; exact lifted os started H enc F)

end Go.Proofs.YtgbapkechngnmaaGreat.lawBack
