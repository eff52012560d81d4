/- What several claims of this seat share: contracts of the functions that they reach. -/
import Derived.Test.YtgbapkechngnmaaGreatU6DP2
import Derived.Test.YtgbapkechngnmaaGreatAppRd
import Derived.Test.YtgbapkechngnmaaGreatShelf
import Derived.Lib.Builder
import Derived.Lib.OthersKept
import Derived.Lib.Walk
import Derived.Laws.Externs
import Derived.Deep.AppendLies
import Derived.Laws.CopyOwn
import Derived.Laws.MakeOwn
import Derived.Deep.RegionLaw
import Derived.Test.YtgbapkechngnmaaGreatRows
import Derived.WalkKit
import Derived.ChangeKeysEq
import Derived.Laws.StructEq
import Derived.Deep.DeepCutAuto
import Derived.Laws.Runes
import Derived.RegionCalls
import Derived.WalkMore
import Derived.Deep.QuietTactic
import Derived.BigQuiet
import Derived.WalkSpells
import Derived.Lib.Hide
import Derived.Tactics
import Derived.ProofKit
import Derived.OpenShut
import Derived.Deep.Slices
import Derived.Deep.Fields
import Derived.ChangeSame
import Derived.Laws.IdiomArrays
import Derived.Maps.AppendAt

/- Several parts in one: lychgateref06.Name: a contract, the same as match.Name's. lychgateref06.Ahead, Right: contracts, the same as match's. lychgateref06.Right: a contract, the same as match.Right's. -/
namespace Go.Proofs.YtgbapkechngnmaaGreat.refName
open Go.RowKit
def clB (l : List UInt8) : Bool := !(l.head?.any fun c => digN c.toNat) && !(l.any fun c => oddN c.toNat)
theorem nameL_clB (l : List UInt8) : nameL l = (decide (1 ≤ l.length) && decide (l.length ≤ 12) && clB l) := by
 cases l with
 | nil => rfl
 | cons c l => simp [nameL, clB, Bool.and_assoc]
theorem clB_one (c : UInt8) : clB [c] = (!digN c.toNat && !oddN c.toNat) := by simp [clB]
theorem clB_snoc {l : List UInt8} (h : l ≠ []) (c : UInt8) : clB (l ++ [c]) = (clB l && !oddN c.toNat) := by
 obtain ⟨d, r, rfl⟩ := List.exists_cons_of_ne_nil h
 simp [clB, Bool.and_assoc]
theorem clB_bad {l : List UInt8} (k : Nat) (h : clB (l.take k) = false) : clB l = false := by
 cases l with
 | nil => simpa using h
 | cons c l =>
  cases k with
  | zero => cases h
  | succ k =>
   rw [List.take_succ_cons] at h
   simp only [clB, List.head?_cons, Bool.and_eq_false_iff, Bool.not_eq_false'] at *
   rcases h with h | h
   ·exact .inl h
   ·right
    rw [List.any_eq_true] at *
    obtain ⟨x, hx, hp⟩ := h
    refine ⟨x, ?_, hp⟩
    rcases List.mem_cons.1 hx with rfl | hx
    ·exact List.mem_cons_self ..
    ·exact List.mem_cons_of_mem _ (List.mem_of_mem_take hx)
set_option maxHeartbeats 1600000 in
theorem name_any (s : ByteArray) (w : World) (hs : s.size ≤ maxLen) :
  Calls Tryz.prog 26 #[.string s] w fun e w' => e = .returned (.bool (nameL (B s))) ∧ w = w' := by
 unfold maxLen at hs
 have HNL : Hid (nameL (B s) = (decide (1 ≤ s.size) && decide (s.size ≤ 12) && clB (B s))) := by show _ = _; rw [nameL_clB, len_B]
 go_enter Tryz.func26, Tryz.ntmps26
 go_wp2
 go_loop [3] (fun x => ∃ k : Nat, k ≤ s.size ∧ x = .int .i64 k ∧ Hid (clB ((B s).take k) = true)) (fun x => s.size - (intOf x).toNat)
 case atStart => exact ⟨0, Nat.zero_le _, rfl, rfl⟩
 case round =>
  obtain ⟨k, hk, rfl, HC⟩ := hrel
  by_cases hlt : k < s.size
  ·have HT1 : Hid ((B s).take (k + 1) = (B s).take k ++ [s[k]]) := take_succ_B s k hlt
   have hstep : clB ((B s).take (k + 1)) = (!(oddN s[k].toNat) && !(decide (k = 0) && digN s[k].toNat)) := by
    rw [HT1.out]
    by_cases h0 : k = 0
    ·subst h0
     rw [List.take_zero, List.nil_append, clB_one]
     simp [Bool.and_comm]
    ·rw [clB_snoc (by
      intro e
      have := congrArg List.length e
      rw [List.length_take, len_B, List.length_nil] at this
      omega), HC.out]
     simp [h0]
   have HST := Lib.hid hstep
   clear hstep
   rcases (show (s[k].toNat : Int) < 48 ∨ ((48 : Int) ≤ (s[k].toNat : Int) ∧ (s[k].toNat : Int) ≤ 57) ∨ (57 < (s[k].toNat : Int) ∧ (s[k].toNat : Int) < 95) ∨ (s[k].toNat : Int) = 95 ∨ (s[k].toNat : Int) = 96 ∨ ((97 : Int) ≤ (s[k].toNat : Int) ∧ (s[k].toNat : Int) ≤ 122) ∨ 122 < (s[k].toNat : Int) by omega) with h | ⟨h, h'⟩ | ⟨h, h'⟩ | h | h | ⟨h, h'⟩ | h
   ·have ho : oddN s[k].toNat = true := by simp [oddN]; omega
    have hd : digN s[k].toNat = false := by simp [digN]; omega
    have HO := Lib.hid ho
    have HD := Lib.hid hd
    clear ho hd
    have HR : Hid (nameL (B s) = false) := by
     show _ = _
     rw [HNL.out, clB_bad (k + 1) (by rw [HST.out, HO.out]; simp), Bool.and_false]
    clear HNL
    have e1 : ((s[k].toNat : Int) != 95) = true := by rw [bne_iff_ne]; omega
    go_wp2
    go_ret
    exact ⟨by rw [HR.out]; rfl, rfl⟩
   ·have ho : oddN s[k].toNat = false := by simp [oddN]; omega
    have hd : digN s[k].toNat = true := by simp [digN]; omega
    have HO := Lib.hid ho
    have HD := Lib.hid hd
    clear ho hd
    by_cases h0 : k = 0
    ·subst h0
     have HR : Hid (nameL (B s) = false) := by
      show _ = _
      rw [HNL.out, clB_bad (0 + 1) (by rw [HST.out, HO.out, HD.out]; simp), Bool.and_false]
     clear HNL
     have e1 : ((s[0].toNat : Int) != 95) = true := by rw [bne_iff_ne]; omega
     go_wp2
     go_ret
     exact ⟨by rw [HR.out]; rfl, rfl⟩
    ·have hk0 : 0 < k := by omega
     have HN : Hid (clB ((B s).take (k + 1)) = true) := by show _ = _; rw [HST.out, HO.out]; simp [h0]
     have e1 : ((s[k].toNat : Int) != 95) = true := by rw [bne_iff_ne]; omega
     clear h0
     go_wp2
     go_round
     case rel => exact ⟨k + 1, by omega, by go_num, HN⟩
     case measure => simp [intOf]; omega
   ·have ho : oddN s[k].toNat = true := by simp [oddN]; omega
    have hd : digN s[k].toNat = false := by simp [digN]; omega
    have HO := Lib.hid ho
    have HD := Lib.hid hd
    clear ho hd
    have HR : Hid (nameL (B s) = false) := by
     show _ = _
     rw [HNL.out, clB_bad (k + 1) (by rw [HST.out, HO.out]; simp), Bool.and_false]
    clear HNL
    have e1 : ((s[k].toNat : Int) != 95) = true := by rw [bne_iff_ne]; omega
    go_wp2
    go_ret
    exact ⟨by rw [HR.out]; rfl, rfl⟩
   ·have ho : oddN s[k].toNat = false := by simp [oddN]; omega
    have hd : digN s[k].toNat = false := by simp [digN]; omega
    have HO := Lib.hid ho
    have HD := Lib.hid hd
    clear ho hd
    have HN : Hid (clB ((B s).take (k + 1)) = true) := by show _ = _; rw [HST.out, HO.out, HD.out]; simp
    have e1 : ((s[k].toNat : Int) != 95) = false := by rw [bne_eq_false_iff_eq]; omega
    have e2 : (s[k].toNat : Int) < 97 := by omega
    clear h
    go_wp2
    go_round
    case rel => exact ⟨k + 1, by omega, by go_num, HN⟩
    case measure => simp [intOf]; omega
   ·have ho : oddN s[k].toNat = true := by simp [oddN]; omega
    have hd : digN s[k].toNat = false := by simp [digN]; omega
    have HO := Lib.hid ho
    have HD := Lib.hid hd
    clear ho hd
    have HR : Hid (nameL (B s) = false) := by
     show _ = _
     rw [HNL.out, clB_bad (k + 1) (by rw [HST.out, HO.out]; simp), Bool.and_false]
    clear HNL
    have e1 : ((s[k].toNat : Int) != 95) = true := by rw [bne_iff_ne]; omega
    have e2 : (s[k].toNat : Int) < 97 := by omega
    have e3 : 57 < (s[k].toNat : Int) := by omega
    clear h
    go_wp2
    go_ret
    exact ⟨by rw [HR.out]; rfl, rfl⟩
   ·have ho : oddN s[k].toNat = false := by simp [oddN]; omega
    have hd : digN s[k].toNat = false := by simp [digN]; omega
    have HO := Lib.hid ho
    have HD := Lib.hid hd
    clear ho hd
    have HN : Hid (clB ((B s).take (k + 1)) = true) := by show _ = _; rw [HST.out, HO.out, HD.out]; simp
    go_wp2
    go_round
    case rel => exact ⟨k + 1, by omega, by go_num, HN⟩
    case measure => simp [intOf]; omega
   ·have ho : oddN s[k].toNat = true := by simp [oddN]; omega
    have hd : digN s[k].toNat = false := by simp [digN]; omega
    have HO := Lib.hid ho
    have HD := Lib.hid hd
    clear ho hd
    have HR : Hid (nameL (B s) = false) := by
     show _ = _
     rw [HNL.out, clB_bad (k + 1) (by rw [HST.out, HO.out]; simp), Bool.and_false]
    clear HNL
    have e1 : ((s[k].toNat : Int) != 95) = true := by rw [bne_iff_ne]; omega
    have e4 : decide ((s[k].toNat : Int) ≤ 122) = false := by rw [decide_eq_false_iff_not]; omega
    go_wp2
    go_ret
    exact ⟨by rw [HR.out]; rfl, rfl⟩
  ·obtain rfl : k = s.size := by omega
   have HC' : Hid (clB (B s) = true) := by
    have := HC.out
    rw [take_all_B] at this
    exact this
   clear HC
   by_cases h1 : 1 ≤ (s.size : Int)
   ·by_cases h2 : (s.size : Int) ≤ 12
    ·have HR : Hid (nameL (B s) = true) := by
      show _ = _
      rw [HNL.out, HC'.out, decide_eq_true (by omega), decide_eq_true (by omega)]; rfl
     clear HNL
     go_wp2
     go_ret
     exact ⟨by rw [HR.out]; rfl, rfl⟩
    ·have HR : Hid (nameL (B s) = false) := by
      show _ = _
      rw [HNL.out, decide_eq_false (p := s.size ≤ 12) (by omega)]; simp
     clear HNL
     go_wp2
     go_ret
     exact ⟨by rw [HR.out]; rfl, rfl⟩
   ·have HR : Hid (nameL (B s) = false) := by
     show _ = _
     rw [HNL.out, decide_eq_false (p := 1 ≤ s.size) (by omega)]; simp
    clear HNL
    go_wp2
    go_ret
    exact ⟨by rw [HR.out]; rfl, rfl⟩
end Go.Proofs.YtgbapkechngnmaaGreat.refName
namespace Go.Proofs.YtgbapkechngnmaaGreat
open Go.RowKit
theorem less_at {a b : List UInt8} : ∀ (k : Nat) (ha : k < a.length) (hb : k < b.length), a.take k = b.take k → a[k] ≠ b[k] → Op.bytesLess a b = decide (a[k] < b[k]) := by
 intro k
 induction k generalizing a b with
 | zero =>
  intro ha hb _ hne
  obtain ⟨x, a, rfl⟩ := List.exists_cons_of_length_pos ha
  obtain ⟨y, b, rfl⟩ := List.exists_cons_of_length_pos hb
  simp only [List.getElem_cons_zero] at hne ⊢
  have h1 : (x == y) = false := by rw [beq_eq_false_iff_ne]; exact hne
  simp [Op.bytesLess, h1]
 | succ k ih =>
  intro ha hb ht hne
  obtain ⟨x, a, rfl⟩ := List.exists_cons_of_length_pos (Nat.lt_of_le_of_lt (Nat.zero_le _) ha)
  obtain ⟨y, b, rfl⟩ := List.exists_cons_of_length_pos (Nat.lt_of_le_of_lt (Nat.zero_le _) hb)
  simp only [List.take_succ_cons, List.cons.injEq] at ht
  obtain ⟨rfl, ht⟩ := ht
  simp only [List.getElem_cons_succ] at hne ⊢
  have := ih (by simpa using ha) (by simpa using hb) ht hne
  simp [Op.bytesLess, this]
theorem less_end {a b : List UInt8} : ∀ (k : Nat), a.take k = b.take k → (k = a.length ∧ k ≤ b.length ∨ k = b.length ∧ k ≤ a.length) → Op.bytesLess a b = decide (a.length < b.length) := by
 intro k
 induction k generalizing a b with
 | zero =>
  intro _ h
  rcases h with ⟨h, _⟩ | ⟨h, _⟩
  ·have : a = [] := List.length_eq_zero_iff.1 h.symm
   subst this
   cases b <;> simp [Op.bytesLess]
  ·have : b = [] := List.length_eq_zero_iff.1 h.symm
   subst this
   cases a <;> simp [Op.bytesLess]
 | succ k ih =>
  intro ht h
  have ha : 0 < a.length := by omega
  have hb : 0 < b.length := by omega
  obtain ⟨x, a, rfl⟩ := List.exists_cons_of_length_pos ha
  obtain ⟨y, b, rfl⟩ := List.exists_cons_of_length_pos hb
  simp only [List.take_succ_cons, List.cons.injEq] at ht
  obtain ⟨rfl, ht⟩ := ht
  simp only [List.length_cons] at h ⊢
  have := ih ht (by omega)
  simp [Op.bytesLess, this]
theorem B_at (s : ByteArray) (k : Nat) (h : k < s.size) (h' : k < (B s).length) : (B s)[k] = s[k] := by
 have h1 := take_succ_B s k h
 rw [List.take_succ_eq_append_getElem h'] at h1
 have := List.append_cancel_left h1
 simpa using this
set_option maxHeartbeats 1600000 in
set_option maxRecDepth 100000 in
theorem rahead_any (a b : ByteArray) (w : World) (ha : a.size ≤ maxLen) :
  Calls Tryz.prog 57 #[.string a, .string b] w fun e w' => e = .returned (.bool (ltS a b)) ∧ Below w.heap.size w w' := by
 unfold maxLen at ha
 have HL : Hid (ltS a b = Op.bytesLess (B a) (B b)) := by show _ = _; unfold ltS; rw [toList_B, toList_B]
 go_enter Tryz.func57, Tryz.ntmps57
 go_wp2
 go_loopw [5] (fun i wr => ∃ k : Nat, k ≤ a.size ∧ k ≤ b.size ∧ i = .int .i64 k ∧ Hid ((B a).take k = (B b).take k) ∧ Below w.heap.size w wr) (fun i _ => a.size - (intOf i).toNat)
 case atStart => exact ⟨0, Nat.zero_le _, Nat.zero_le _, rfl, Lib.hid rfl, Below.refl _ _⟩
 case round =>
  obtain ⟨k, hk1, hk2, rfl, HT, hbr⟩ := hrel
  by_cases h1 : k < a.size
  ·by_cases h2 : k < b.size
   ·obtain ⟨x, hx⟩ : ∃ x, a[k] = x := ⟨_, rfl⟩
    obtain ⟨y, hy⟩ : ∃ y, b[k] = y := ⟨_, rfl⟩
    have l1 : k < (B a).length := by rw [len_B]; exact h1
    have l2 : k < (B b).length := by rw [len_B]; exact h2
    by_cases hxy : x = y
    ·have HN : Hid ((B a).take (k + 1) = (B b).take (k + 1)) := take_step HT.out l1 l2 (by rw [B_at a k h1 l1, B_at b k h2 l2, hx, hy, hxy])
     have hne : ((x.toNat : Int) != (y.toNat : Int)) = false := by rw [hxy]; simp
     clear l1 l2 hxy
     go_wp2
     go_quiet (fail)
     have hb2 : Below w.heap.size w (wr.drewN nq) := bl_drewN hbr nq
     generalize wr.drewN nq = wq at *
     go_wp2
     go_roundw
     case rel => exact ⟨k + 1, by omega, by omega, by go_num, HN, hb2⟩
     case measure => simp [intOf]; omega
    ·have hr : ltS a b = decide (x < y) := by
      rw [HL.out, less_at k l1 l2 HT.out (by rw [B_at a k h1 l1, B_at b k h2 l2, hx, hy]; exact hxy), B_at a k h1 l1, B_at b k h2 l2, hx, hy]
     have HR := Lib.hid hr
     have hne : ((x.toNat : Int) != (y.toNat : Int)) = true := by
      rw [bne_iff_ne]; intro h; exact hxy (UInt8.toNat_inj.1 (by omega))
     clear l1 l2 hxy hr
     go_wp2
     go_quiet (fail)
     have hb2 : Below w.heap.size w (wr.drewN nq) := bl_drewN hbr nq
     generalize wr.drewN nq = wq at *
     clear nq
     go_wp2
     go_quiet (fail)
     have hb3 : Below w.heap.size w (wq.drewN nq) := bl_drewN hb2 nq
     generalize wq.drewN nq = wz at *
     go_wp2
     go_ret
     exact ⟨by rw [HR.out]; simp [UInt8.lt_iff_toNat_lt], hb3⟩
   ·obtain rfl : k = b.size := by omega
    have hr : ltS a b = decide ((B a).length < (B b).length) := by rw [HL.out]; exact less_end b.size HT.out (.inr ⟨(len_B b).symm, by rw [len_B]; exact hk1⟩)
    rw [len_B, len_B] at hr
    have HR := Lib.hid hr
    clear hr
    go_wp2
    go_ret
    exact ⟨by rw [HR.out]; simp, hbr⟩
  ·obtain rfl : k = a.size := by omega
   have hr : ltS a b = decide ((B a).length < (B b).length) := by rw [HL.out]; exact less_end a.size HT.out (.inl ⟨(len_B a).symm, by rw [len_B]; exact hk2⟩)
   rw [len_B, len_B] at hr
   have HR := Lib.hid hr
   clear hr
   go_wp2
   go_ret
   exact ⟨by rw [HR.out]; simp, hbr⟩
end Go.Proofs.YtgbapkechngnmaaGreat
namespace Go.Proofs.YtgbapkechngnmaaGreat
open Go.RowKit
set_option maxHeartbeats 3200000 in
set_option maxRecDepth 100000 in
theorem rright6_any (l : List Fld) (w : World) (v : Value) (hv : FldsAt w v l) (hf : FldsFit l) (hl : l.length ≤ maxLen) :
  Calls Tryz.prog 31 #[v] w fun e w' => e = .returned (.bool (rightF l)) ∧ Below w.heap.size w w' := by
 unfold maxLen at hl
 obtain ⟨a, c, rfl, hc, hr⟩ := RdAt.shape hv
 have HR := Lib.hid hr
 have HF := Lib.hid hf
 clear hr hv hf
 go_enter Tryz.func31, Tryz.ntmps31
 go_wp2
 go_loopw [3] (fun i wr => ∃ k : Nat, k ≤ l.length ∧ i = .int .i64 k ∧ Hid (∀ j, j < k → fldOk l j = true) ∧ Below w.heap.size w wr) (fun i _ => l.length - (intOf i).toNat)
 case atStart => exact ⟨0, Nat.zero_le _, rfl, Lib.hid (fun j hj => absurd hj (Nat.not_lt_zero j)), Below.refl _ _⟩
 case round =>
  obtain ⟨k, hk, rfl, HT, hbr⟩ := hrel
  by_cases hkl : k < l.length
  ·obtain ⟨b, o, rfl, hb, hcell⟩ := HR.out (by omega)
   obtain ⟨x, hxe⟩ : ∃ x, l[k].1 = x := ⟨_, rfl⟩
   obtain ⟨y, hye⟩ : ∃ y, l[k].2 = y := ⟨_, rfl⟩
   have hfs := HF.out _ (List.getElem_mem hkl)
   rw [hxe, hye] at hfs
   obtain ⟨hx0, hy0⟩ := fldCells_at l k hkl
   rw [hxe] at hx0
   rw [hye] at hy0
   have a0 : wr.cell? ⟨b, o + k * 2, none⟩ = some (.string x) := keep_cell (hcell _ _ hx0) hbr hb
   have a1 : wr.cell? ⟨b, o + k * 2 + 1, none⟩ = some (.string y) := keep_cell (by have := hcell _ _ hy0; rwa [← Nat.add_assoc] at this) hbr hb
   have hwb : b < wr.heap.size := Nat.lt_of_lt_of_le hb hbr.size
   have hall : ∀ j v, (fldCells l)[j]? = some v → wr.cell? ⟨b, o + j, none⟩ = some v := fun j v hj => keep_cell (hcell _ _ hj) hbr hb
   have hn : ∀ W, Calls Tryz.prog 26 #[.string x] W fun e w' => e = .returned (.bool (nameL (B x))) ∧ w' = W := fun W => (refName.name_any x W hfs.1).mono (by rintro e w' ⟨h1, h2⟩; exact ⟨h1, h2.symm⟩)
   have hys : y.size ≤ 9223372036854775807 := by have := hfs.2; unfold maxLen at this; omega
   have hstep : fldOk l k = true → Hid (∀ j, j < k + 1 → fldOk l j = true) := fun h => Lib.hid (fun j hj => by
    rcases Nat.lt_or_ge j k with h' | h'
    ·exact HT.out j h'
    ·obtain rfl : j = k := by omega
     exact h)
   have hbad : fldOk l k = false → Hid (rightF l = false) := fun h => rightF_bad hkl h
   have hgx : l.getD k default = (x, y) := by rw [List.getD_eq_getElem?_getD, List.getElem?_eq_getElem hkl]; show l[k] = _; rw [← hxe, ← hye]
   unfold fldOk at hstep hbad
   rw [hgx] at hstep hbad
   clear hcell hx0 hy0 hxe hye hgx HT
   cases hnm : nameL (B x)
   ·have HZ := hbad (by rw [hnm]; rfl)
    rw [hnm] at hn
    clear hstep hbad hall hnm hfs
    go_upto_region 4 with fail
    refine wp_region_held_drew (S := (fun W => W.cell? ⟨b, o + k * 2, none⟩ = some (.string x) ∧ W.cell? ⟨b, o + k * 2 + 1, none⟩ = some (.string y))) (by kernel_rfl) ⟨a0, a1⟩ (fun hHeld => ?_)
    refine plIn [0, 1, 2, 3, 4] ?_
    iterate 5
     refine hP (v := ?_) rfl rfl hHeld ?_ ?_
     rotate_left
     ·rintro wh ⟨z0, z1⟩
      go_simp
      (try with_reducible rfl)
     simp only [Act.put, List.setIfInBounds_toArray, List.set_cons_zero, List.set_cons_succ]
    refine plOut ?_
    refine held_call (i := 5) rfl (by kernel_rfl) (by rfl) (fun K hK => ?_)
    (go_simp; go_at_call 26; refine (hn _).mono ?_; rintro e w1 ⟨rfl, rfl⟩; have hB1 : Below wr.heap.size wr wr.drew := (Below.refl _ _).drew)
    refine hK.out _ _ ⟨keep_cell a0 hB1 hwb, keep_cell a1 hB1 hwb⟩ (fun hHeld => ?_)
    clear hK K
    (try simp only [Act.put, List.setIfInBounds_toArray, List.set_cons_zero, List.set_cons_succ])
    refine plIn [6, 7] ?_
    iterate 2
     refine hP (v := ?_) rfl rfl hHeld ?_ ?_
     rotate_left
     ·rintro wh ⟨z0, z1⟩
      go_simp
      (try with_reducible rfl)
     simp only [Act.put, List.setIfInBounds_toArray, List.set_cons_zero, List.set_cons_succ]
    refine plOut ?_
    refine plIn [8, 9, 10, 11, 12, 13, 14] ?_
    iterate 7
     refine hK rfl rfl hHeld ?_
     simp only [Act.put, List.setIfInBounds_toArray, List.set_cons_zero, List.set_cons_succ]
    refine plOut ?_
    refine plIn [15, 16] ?_
    iterate 2
     refine hP (v := ?_) rfl rfl hHeld ?_ ?_
     rotate_left
     ·rintro wh ⟨z0, z1⟩
      go_simp
      (try with_reducible rfl)
     simp only [Act.put, List.setIfInBounds_toArray, List.set_cons_zero, List.set_cons_succ]
    refine plOut ?_
    refine plIn [17, 18, 19, 20, 21, 22, 23, 24, 25, 26, 27, 28, 29, 30, 31, 32, 33] ?_
    iterate 17
     refine hK rfl rfl hHeld ?_
     simp only [Act.put, List.setIfInBounds_toArray, List.set_cons_zero, List.set_cons_succ]
    refine plOut ?_
    refine hT (i := 34) (v := ?_) rfl rfl hHeld ?_ ?_
    rotate_left
    ·rintro wh ⟨z0, z1⟩
     go_simp
     (try with_reducible rfl)
    simp only [Act.put, List.setIfInBounds_toArray, List.set_cons_zero, List.set_cons_succ]
    refine wpAnyH_done (by kernel_rfl) ?_ _
    have hbn : Below w.heap.size w wr.drew := hbr.trans (hB1.mono hbr.size)
    clear hB1 hn
    generalize wr.drew = wq at *
    go_wp2
    go_ret
    exact ⟨by rw [HZ.out]; rfl, hbn⟩
   ·rw [hnm] at hn
    by_cases hy2 : y.size ≤ 200
    ·have g1 : decide ((200 : Int) < (y.size : Int)) = false := decide_eq_false (by omega)
     rcases Nat.eq_zero_or_pos k with hk0 | hk0
     ·have HN := hstep (by rw [hnm, decide_eq_true hy2, decide_eq_true hk0]; rfl)
      subst hk0
      rw [Nat.zero_mul, Nat.add_zero] at a0 a1
      clear hstep hbad hall hnm hy2 hfs
      go_upto_region 4 with fail
      refine wp_region_held_drew (S := (fun W => W.cell? ⟨b, o, none⟩ = some (.string x) ∧ W.cell? ⟨b, o + 1, none⟩ = some (.string y))) (by kernel_rfl) ⟨a0, a1⟩ (fun hHeld => ?_)
      refine plIn [0, 1, 2, 3, 4] ?_
      iterate 5
       refine hP (v := ?_) rfl rfl hHeld ?_ ?_
       rotate_left
       ·rintro wh ⟨z0, z1⟩
        go_simp
        (try with_reducible rfl)
       simp only [Act.put, List.setIfInBounds_toArray, List.set_cons_zero, List.set_cons_succ]
      refine plOut ?_
      refine held_call (i := 5) rfl (by kernel_rfl) (by rfl) (fun K hK => ?_)
      (go_simp; go_at_call 26; refine (hn _).mono ?_; rintro e w1 ⟨rfl, rfl⟩; have hB1 : Below wr.heap.size wr wr.drew := (Below.refl _ _).drew)
      refine hK.out _ _ ⟨keep_cell a0 hB1 hwb, keep_cell a1 hB1 hwb⟩ (fun hHeld => ?_)
      clear hK K
      (try simp only [Act.put, List.setIfInBounds_toArray, List.set_cons_zero, List.set_cons_succ])
      refine plIn [6, 7, 8, 9, 10, 11, 12, 13, 14, 15, 16, 17, 18, 19] ?_
      iterate 14
       refine hP (v := ?_) rfl rfl hHeld ?_ ?_
       rotate_left
       ·rintro wh ⟨z0, z1⟩
        go_simp
        (try with_reducible rfl)
       simp only [Act.put, List.setIfInBounds_toArray, List.set_cons_zero, List.set_cons_succ]
      refine plOut ?_
      refine plIn [20, 21, 22, 23, 24, 25, 26, 27, 28, 29, 30, 31, 32] ?_
      iterate 13
       refine hK rfl rfl hHeld ?_
       simp only [Act.put, List.setIfInBounds_toArray, List.set_cons_zero, List.set_cons_succ]
      refine plOut ?_
      refine plIn [33, 34] ?_
      iterate 2
       refine hP (v := ?_) rfl rfl hHeld ?_ ?_
       rotate_left
       ·rintro wh ⟨z0, z1⟩
        go_simp
        (try with_reducible rfl)
       simp only [Act.put, List.setIfInBounds_toArray, List.set_cons_zero, List.set_cons_succ]
      refine plOut ?_
      refine wpAnyH_done (by kernel_rfl) ?_ _
      have hbn : Below w.heap.size w wr.drew := hbr.trans (hB1.mono hbr.size)
      clear hB1 hn
      generalize wr.drew = wq at *
      go_wp2
      go_roundw
      case rel => exact ⟨0 + 1, by omega, by go_num, HN, hbn⟩
      case measure => (simp [intOf]; try omega)
     ·obtain ⟨m, hm⟩ : ∃ m, k = m + 1 := ⟨k - 1, by omega⟩
      have hml : m < l.length := by omega
      obtain ⟨z, hze⟩ : ∃ z, l[m].1 = z := ⟨_, rfl⟩
      have hfz := (HF.out _ (List.getElem_mem hml)).1
      rw [hze] at hfz
      obtain ⟨hz0, _⟩ := fldCells_at l m hml
      rw [hze] at hz0
      have az : wr.cell? ⟨b, o + m * 2, none⟩ = some (.string z) := hall _ _ hz0
      have hgz : (l.getD (k - 1) default).1 = z := by
       rw [hm, Nat.add_sub_cancel, List.getD_eq_getElem?_getD, List.getElem?_eq_getElem hml]; exact hze
      have hkz : decide (k = 0) = false := decide_eq_false (by omega)
      rw [hgz, hnm, decide_eq_true hy2, hkz] at hstep hbad
      have k0 : (0 : Int) < (k : Int) := by omega
      have hw1 : IntKind.i64.wrap ((k : Int) - 1) = (m : Int) := by rw [IntKind.wrap_i64]; omega
      have hI1 : (m : Int) < (l.length : Int) := by omega
      have hah := fun W => rahead_any z x W hfz
      obtain ⟨lt, hlt⟩ : ∃ lt, ltS z x = lt := ⟨_, rfl⟩
      rw [hlt] at hstep hbad
      simp only [hlt] at hah
      have HM := Lib.hid hm
      clear hnm hy2 hze hkz hall hz0 hgz hfz hfs hlt hm
      cases lt
      ·have HZ := hbad rfl
       clear hstep hbad
       go_upto_region 4 with fail
       refine wp_region_held_drew (S := (fun W => W.cell? ⟨b, o + k * 2, none⟩ = some (.string x) ∧ W.cell? ⟨b, o + k * 2 + 1, none⟩ = some (.string y) ∧ W.cell? ⟨b, o + m * 2, none⟩ = some (.string z))) (by kernel_rfl) ⟨a0, a1, az⟩ (fun hHeld => ?_)
       refine plIn [0, 1, 2, 3, 4] ?_
       iterate 5
        refine hP (v := ?_) rfl rfl hHeld ?_ ?_
        rotate_left
        ·rintro wh ⟨z0, z1, z2⟩
         go_simp
         (try with_reducible rfl)
        simp only [Act.put, List.setIfInBounds_toArray, List.set_cons_zero, List.set_cons_succ]
       refine plOut ?_
       refine held_call (i := 5) rfl (by kernel_rfl) (by rfl) (fun K hK => ?_)
       (go_simp; go_at_call 26; refine (hn _).mono ?_; rintro e w1 ⟨rfl, rfl⟩; have hB1 : Below wr.heap.size wr wr.drew := (Below.refl _ _).drew)
       refine hK.out _ _ ⟨keep_cell a0 hB1 hwb, keep_cell a1 hB1 hwb, keep_cell az hB1 hwb⟩ (fun hHeld => ?_)
       clear hK K
       (try simp only [Act.put, List.setIfInBounds_toArray, List.set_cons_zero, List.set_cons_succ])
       refine plIn [6, 7, 8, 9, 10, 11, 12, 13, 14, 15, 16, 17, 18, 19, 20, 21, 22, 23, 24, 25, 26, 27, 28, 29, 30] ?_
       iterate 25
        refine hP (v := ?_) rfl rfl hHeld ?_ ?_
        rotate_left
        ·rintro wh ⟨z0, z1, z2⟩
         go_simp
         (try with_reducible rfl)
        simp only [Act.put, List.setIfInBounds_toArray, List.set_cons_zero, List.set_cons_succ]
       refine plOut ?_
       refine held_call (i := 31) rfl (by kernel_rfl) (by rfl) (fun K hK => ?_)
       (go_simp; go_at_call 57; refine (hah _).mono ?_; rintro e w2 ⟨rfl, hb2⟩; have hB2 : Below wr.heap.size wr w2 := hB1.trans hb2)
       refine hK.out _ _ ⟨keep_cell a0 hB2 hwb, keep_cell a1 hB2 hwb, keep_cell az hB2 hwb⟩ (fun hHeld => ?_)
       clear hK K
       (try simp only [Act.put, List.setIfInBounds_toArray, List.set_cons_zero, List.set_cons_succ])
       refine plIn [32, 33, 34] ?_
       iterate 3
        refine hP (v := ?_) rfl rfl hHeld ?_ ?_
        rotate_left
        ·rintro wh ⟨z0, z1, z2⟩
         go_simp
         (try with_reducible rfl)
        simp only [Act.put, List.setIfInBounds_toArray, List.set_cons_zero, List.set_cons_succ]
       refine plOut ?_
       refine wpAnyH_done (by kernel_rfl) ?_ _
       have hbn : Below w.heap.size w w2 := hbr.trans (hB2.mono hbr.size)
       clear hB1 hB2 hb2 hn hah
       go_wp2
       go_ret
       exact ⟨by rw [HZ.out]; rfl, hbn⟩
      ·have HN := hstep rfl
       clear hstep hbad
       go_upto_region 4 with fail
       refine wp_region_held_drew (S := (fun W => W.cell? ⟨b, o + k * 2, none⟩ = some (.string x) ∧ W.cell? ⟨b, o + k * 2 + 1, none⟩ = some (.string y) ∧ W.cell? ⟨b, o + m * 2, none⟩ = some (.string z))) (by kernel_rfl) ⟨a0, a1, az⟩ (fun hHeld => ?_)
       refine plIn [0, 1, 2, 3, 4] ?_
       iterate 5
        refine hP (v := ?_) rfl rfl hHeld ?_ ?_
        rotate_left
        ·rintro wh ⟨z0, z1, z2⟩
         go_simp
         (try with_reducible rfl)
        simp only [Act.put, List.setIfInBounds_toArray, List.set_cons_zero, List.set_cons_succ]
       refine plOut ?_
       refine held_call (i := 5) rfl (by kernel_rfl) (by rfl) (fun K hK => ?_)
       (go_simp; go_at_call 26; refine (hn _).mono ?_; rintro e w1 ⟨rfl, rfl⟩; have hB1 : Below wr.heap.size wr wr.drew := (Below.refl _ _).drew)
       refine hK.out _ _ ⟨keep_cell a0 hB1 hwb, keep_cell a1 hB1 hwb, keep_cell az hB1 hwb⟩ (fun hHeld => ?_)
       clear hK K
       (try simp only [Act.put, List.setIfInBounds_toArray, List.set_cons_zero, List.set_cons_succ])
       refine plIn [6, 7, 8, 9, 10, 11, 12, 13, 14, 15, 16, 17, 18, 19, 20, 21, 22, 23, 24, 25, 26, 27, 28, 29, 30] ?_
       iterate 25
        refine hP (v := ?_) rfl rfl hHeld ?_ ?_
        rotate_left
        ·rintro wh ⟨z0, z1, z2⟩
         go_simp
         (try with_reducible rfl)
        simp only [Act.put, List.setIfInBounds_toArray, List.set_cons_zero, List.set_cons_succ]
       refine plOut ?_
       refine held_call (i := 31) rfl (by kernel_rfl) (by rfl) (fun K hK => ?_)
       (go_simp; go_at_call 57; refine (hah _).mono ?_; rintro e w2 ⟨rfl, hb2⟩; have hB2 : Below wr.heap.size wr w2 := hB1.trans hb2)
       refine hK.out _ _ ⟨keep_cell a0 hB2 hwb, keep_cell a1 hB2 hwb, keep_cell az hB2 hwb⟩ (fun hHeld => ?_)
       clear hK K
       (try simp only [Act.put, List.setIfInBounds_toArray, List.set_cons_zero, List.set_cons_succ])
       refine plIn [32, 33, 34] ?_
       iterate 3
        refine hP (v := ?_) rfl rfl hHeld ?_ ?_
        rotate_left
        ·rintro wh ⟨z0, z1, z2⟩
         go_simp
         (try with_reducible rfl)
        simp only [Act.put, List.setIfInBounds_toArray, List.set_cons_zero, List.set_cons_succ]
       refine plOut ?_
       refine wpAnyH_done (by kernel_rfl) ?_ _
       have hbn : Below w.heap.size w w2 := hbr.trans (hB2.mono hbr.size)
       clear hB1 hB2 hb2 hn hah
       go_wp2
       go_roundw
       case rel => exact ⟨k + 1, by omega, by go_num, HN, hbn⟩
       case measure => (simp [intOf]; try omega)
    ·have g1 : (200 : Int) < (y.size : Int) := by omega
     have HZ := hbad (by rw [hnm, decide_eq_false hy2]; rfl)
     clear hstep hbad hall hnm hy2 hfs
     go_upto_region 4 with fail
     refine wp_region_held_drew (S := (fun W => W.cell? ⟨b, o + k * 2, none⟩ = some (.string x) ∧ W.cell? ⟨b, o + k * 2 + 1, none⟩ = some (.string y))) (by kernel_rfl) ⟨a0, a1⟩ (fun hHeld => ?_)
     refine plIn [0, 1, 2, 3, 4] ?_
     iterate 5
      refine hP (v := ?_) rfl rfl hHeld ?_ ?_
      rotate_left
      ·rintro wh ⟨z0, z1⟩
       go_simp
       (try with_reducible rfl)
      simp only [Act.put, List.setIfInBounds_toArray, List.set_cons_zero, List.set_cons_succ]
     refine plOut ?_
     refine held_call (i := 5) rfl (by kernel_rfl) (by rfl) (fun K hK => ?_)
     (go_simp; go_at_call 26; refine (hn _).mono ?_; rintro e w1 ⟨rfl, rfl⟩; have hB1 : Below wr.heap.size wr wr.drew := (Below.refl _ _).drew)
     refine hK.out _ _ ⟨keep_cell a0 hB1 hwb, keep_cell a1 hB1 hwb⟩ (fun hHeld => ?_)
     clear hK K
     (try simp only [Act.put, List.setIfInBounds_toArray, List.set_cons_zero, List.set_cons_succ])
     refine plIn [6, 7, 8, 9, 10, 11, 12, 13, 14, 15, 16] ?_
     iterate 11
      refine hP (v := ?_) rfl rfl hHeld ?_ ?_
      rotate_left
      ·rintro wh ⟨z0, z1⟩
       go_simp
       (try with_reducible rfl)
      simp only [Act.put, List.setIfInBounds_toArray, List.set_cons_zero, List.set_cons_succ]
     refine plOut ?_
     refine plIn [17, 18, 19, 20, 21, 22, 23, 24, 25, 26, 27, 28, 29, 30, 31, 32, 33] ?_
     iterate 17
      refine hK rfl rfl hHeld ?_
      simp only [Act.put, List.setIfInBounds_toArray, List.set_cons_zero, List.set_cons_succ]
     refine plOut ?_
     refine hT (i := 34) (v := ?_) rfl rfl hHeld ?_ ?_
     rotate_left
     ·rintro wh ⟨z0, z1⟩
      go_simp
      (try with_reducible rfl)
     simp only [Act.put, List.setIfInBounds_toArray, List.set_cons_zero, List.set_cons_succ]
     refine wpAnyH_done (by kernel_rfl) ?_ _
     have hbn : Below w.heap.size w wr.drew := hbr.trans (hB1.mono hbr.size)
     clear hB1 hn
     generalize wr.drew = wq at *
     go_wp2
     go_ret
     exact ⟨by rw [HZ.out]; rfl, hbn⟩
  ·obtain rfl : k = l.length := by omega
   have HG : Hid (rightF l = decide (l.length ≤ 8)) := rightF_good HT.out
   clear HT
   by_cases h8 : l.length ≤ 8
   ·have h8' : ((l.length : Int) ≤ 8) := by omega
    go_wp2
    go_ret
    exact ⟨by rw [HG.out]; simp; omega, hbr⟩
   ·have h8' : (8 : Int) < (l.length : Int) := by omega
    go_wp2
    go_ret
    exact ⟨by rw [HG.out]; simp; omega, hbr⟩
end Go.Proofs.YtgbapkechngnmaaGreat
/- match.All: a contract. -/
namespace Go.Proofs.YtgbapkechngnmaaGreat
open Go.RowKit
noncomputable def allM (l : List Fld) (ms : List Mt) : Bool := ms.all fun m => fitM l m
theorem allM_any (l : List Fld) (ms : List Mt) : (!(ms.any fun m => !(fitM l m))) = allM l ms := by
 unfold allM
 induction ms with
 | nil => rfl
 | cons m ms ih => rw [List.any_cons, List.all_cons, ← ih]; cases fitM l m <;> simp
set_option maxHeartbeats 1600000 in
theorem allclos (l : List Fld) (m : Mt) (b : Nat) (v : Value) (w : World) (hv : FldsAt w v l) (hl : l.length ≤ 1000000000000) (hfit : FldsFit l) (hf : MtFit m) (hc : w.cell? ⟨b, 0, none⟩ = some v) (hlt : b < w.heap.size) :
  Calls Tryz.prog 46 #[.agg #[.string m.nm, .int .i64 m.op, .string m.val], .pointer (some ⟨b, 0, none⟩)] w fun e w' => e = .returned (.bool (!(fitM l m))) ∧ Below w.heap.size w w' := by
 have hb := alloc_below w (.cells #[.string m.nm, .int .i64 m.op, .string m.val] 29)
 have hz := World.size_alloc w (.cells #[.string m.nm, .int .i64 m.op, .string m.val] 29)
 have k := fits_any l m _ v (hv.later hb) hl hfit hf
 have h1 := keep_cell hc hb hlt
 have HB := Lib.hid hb
 obtain ⟨fa, fc, rfl, _, _⟩ := RdAt.shape hv
 generalize fitM l m = R at *
 obtain ⟨nm, op, val⟩ := m
 dsimp only at *
 clear hv hfit hf hc hb hz
 go_enter Tryz.func46, Tryz.ntmps46
 go_wp2_with fail
 refine k.mono ?_
 rintro e w1 ⟨rfl, hb1⟩
 clear k
 go_wp2
 go_ret
 exact ⟨rfl, HB.out.trans (hb1.mono HB.out.size)⟩
set_option maxHeartbeats 1600000 in
theorem all_any (l : List Fld) (ms : List Mt) (v mv : Value) (w : World) (hv : FldsAt w v l) (hl : l.length ≤ 1000000000000) (hfit : FldsFit l) (hm : MtsAt w mv ms) (hml : ms.length ≤ 1000000000000) (hmf : MtsFit ms) :
  Calls Tryz.prog 18 #[v, mv] w fun e w' => e = .returned (.bool (allM l ms)) ∧ Below w.heap.size w w' := by
 obtain ⟨fa, fc, rfl, _, _⟩ := RdAt.shape hv
 obtain ⟨ma, mc, rfl, _, _⟩ := RdAt.shape hm
 have hb := alloc_below w (.cells #[.slice fa l.length fc] 22)
 have hlt : w.heap.size < (w.alloc (.cells #[.slice fa l.length fc] 22)).heap.size := by rw [World.size_alloc]; omega
 have hc : (w.alloc (.cells #[.slice fa l.length fc] 22)).cell? ⟨w.heap.size, 0, none⟩ = some (.slice fa l.length fc) := by rw [cell_of_row _ _ _ _ _ _ (heap_alloc_new w _)]; rfl
 have k := hasm_gen ms hmf (fun m => !(fitM l m)) 46 #[.pointer (some ⟨w.heap.size, 0, none⟩)] (enters_of Tryz.func46 (by kernel_rfl) rfl) _ _ (hm.later hb) hml
  (fun W m hmfit hW => allclos l m w.heap.size _ W ((hv.later hb).later hW) hl hfit hmfit (keep_cell hc hW hlt) (Nat.lt_of_lt_of_le hlt hW.size))
 have HA := Lib.hid (allM_any l ms)
 have HB := Lib.hid hb
 generalize (ms.any fun m => !(fitM l m)) = R at *
 generalize l.length = ln at *
 generalize ms.length = mn at *
 clear hv hm hfit hmf hb hlt hc
 go_enter Tryz.func18, Tryz.ntmps18
 go_wp2_with fail
 refine k.mono ?_
 rintro e w1 ⟨rfl, hb1⟩
 clear k
 go_wp2
 go_ret
 exact ⟨by rw [← HA.out]; rfl, HB.out.trans (hb1.mono HB.out.size)⟩
end Go.Proofs.YtgbapkechngnmaaGreat
/- lychgateref06 on matchers: Fine, Value, Fits, All: contracts. -/
namespace Go.Proofs.YtgbapkechngnmaaGreat
open Go.RowKit
set_option maxHeartbeats 1600000 in
set_option maxRecDepth 100000 in
theorem fine6_any (m : Mt) (w : World) (hf : MtFit m) : Calls Tryz.prog 27 #[.agg #[.string m.nm, .int .i64 m.op, .string m.val]] w fun e w' => e = .returned (.bool (fineM m)) ∧ Below w.heap.size w w' := by
 have kr := fun W => rread_any m.val W
 have hz := hf.2
 have HF : Hid (fineM m = (nameL (B m.nm) && decide (0 ≤ m.op) && decide (m.op ≤ 3) && decide (m.val.size ≤ 200) && (decide (m.op < 2) || decide (errM m.val = 0)))) := Lib.hid rfl
 have kn0 := refName.name_any m.nm (w.alloc (.cells #[.string m.nm, .int .i64 m.op, .string m.val] 29)) hf.1
 obtain ⟨nm, op, val⟩ := m
 dsimp only at *
 generalize fineM ⟨nm, op, val⟩ = R at *
 generalize nameL (B nm) = N at *
 have HR := Lib.hid kr
 unfold maxLen at hz
 have hbx := box3m (Below.refl _ (w.alloc (.cells #[.string nm, .int .i64 op, .string val] 29)))
 clear hf kr
 go_enter Tryz.func27, Tryz.ntmps27
 go_wp2_with fail
 refine kn0.mono ?_
 rintro e w1 ⟨rfl, hw1⟩
 obtain ⟨⟨x0, x1, x2⟩, hlt, hB1⟩ := hbx
 rw [hw1] at x0 x1 x2 hlt hB1
 have HB := Lib.hid hB1
 clear kn0 hw1 hB1
 cases N with
 | false =>
  go_wp2
  go_ret
  exact ⟨by rw [HF.out]; rfl, HB.out⟩
 | true =>
  by_cases h0 : op < 0
  ·rw [show decide (0 ≤ op) = false from decide_eq_false (by omega)] at HF
   go_wp2
   go_ret
   exact ⟨by rw [HF.out]; rfl, HB.out⟩
  ·rw [show decide (0 ≤ op) = true from decide_eq_true (by omega)] at HF
   by_cases h3 : 3 < op
   ·rw [show decide (op ≤ 3) = false from decide_eq_false (by omega)] at HF
    go_wp2
    go_ret
    exact ⟨by rw [HF.out]; rfl, HB.out⟩
   ·rw [show decide (op ≤ 3) = true from decide_eq_true (by omega)] at HF
    by_cases hs : 200 < val.size
    ·rw [show decide (val.size ≤ 200) = false from decide_eq_false (by omega)] at HF
     have hsi : (200 : Int) < (val.size : Int) := by omega
     go_wp2
     go_ret
     exact ⟨by rw [HF.out]; rfl, HB.out⟩
    ·rw [show decide (val.size ≤ 200) = true from decide_eq_true (by omega)] at HF
     have hsi : (val.size : Int) ≤ 200 := by omega
     have kr := HR.out w1
     have hde : Hid ((errM val == 0) = decide (errM val = 0)) := Lib.hid (by rw [Bool.eq_iff_iff]; simp)
     generalize errM val = E at *
     go_wp2_with fail
     refine kr.mono ?_
     rintro e w2 ⟨cs, rfl, hl, hone, -, hb2⟩
     have hlt2 := hb2.size
     have y1 := keep_cell x1 hb2 hlt
     have HBN : Hid (Below w.heap.size w ((w2.alloc (.cells (zeroN 0) 62)).setCells w2.heap.size 0 cs)) := Lib.hid (by
      have h1 := HB.out.trans (hb2.mono HB.out.size)
      exact below_puts (h1.trans ((alloc_below w2 _).mono h1.size)) (by have := h1.size; omega) _)
     have HY1 : Hid (((w2.alloc (.cells (zeroN 0) 62)).setCells w2.heap.size 0 cs).cell? ⟨w.heap.size, 1, none⟩ = some (.int .i64 op)) := Lib.hid ((World.cell?_of_block (a := ⟨w.heap.size, 1, none⟩) (heap_setCells _ _ _ (by show w.heap.size ≠ w2.heap.size; omega) _ _)).trans (keep_cell y1 (alloc_below w2 _) (by omega)))
     have HTH := Lib.hid (there_new w2 0 62)
     clear kr x0 x1 x2 y1
     go_upto_region 4 with (first
      | (with_reducible refine wpList_allocN rfl rfl _ rfl w2.heap.size rfl ?_)
      | ((with_reducible refine wpList_storeN rfl _ _ rfl _ rfl w2.heap.size 0 cs ?hx ?hy ?ht hl hone ?_); (case hx => rfl); (case hy => rfl); (case ht => exact HTH.out)))
     (try simp only [Act.put, List.setIfInBounds_toArray, List.set_cons_zero, List.set_cons_succ])
     refine wp_forget3 (fun W => W.cell? ⟨w.heap.size, 1, none⟩ = some (.int .i64 op) ∧ Below w.heap.size w W) ⟨HY1.out, HBN.out⟩ (fun w3 hw3 => ?_)
     obtain ⟨y1, hB3⟩ := hw3
     have HB3 := Lib.hid hB3
     clear HBN HY1 HTH hB3 hb2
     by_cases h2 : op < 2
     ·rw [show decide (op < 2) = true from decide_eq_true h2] at HF
      go_wp2
      go_ret
      exact ⟨by rw [HF.out]; rfl, HB3.out⟩
     ·rw [show decide (op < 2) = false from decide_eq_false h2] at HF
      go_wp2
      go_ret
      exact ⟨by rw [HF.out, ← hde.out]; first | rfl | (simp), HB3.out⟩
end Go.Proofs.YtgbapkechngnmaaGreat
/- strings.Builder: WriteByte: a contract. -/
namespace Go.Proofs.YtgbapkechngnmaaGreat
open Go.RowKit
set_option maxHeartbeats 1000000 in
set_option maxRecDepth 100000 in
theorem copyCheck_is (B b : Nat) (bs : List Value) (w : World) (h : Lib.IsBuilder 114 5 B b bs w) :
  Calls Tryz.prog 95 #[.pointer (some ⟨b, 0, none⟩)] w fun e w' => e = .returned (.tuple #[]) ∧ Lib.BuilderAt 114 5 B b (.pointer (some ⟨b, 0, none⟩)) bs w' ∧ Below B w w' ∧ Lib.OthersKept 5 (some b) w w' := by
 obtain ⟨j, hj, hjs⟩ := Option.map_eq_some_iff.1 Tryz.Builder_Extra_169.sizeBuilder
 rcases h with h | h
 ·have h0 := h.cell0
  have hsh := h.shape
  have hfz := h.frozen0
  have hfin : ∀ w', w' = w.setCell ⟨b, 0, none⟩ (.pointer (some ⟨b, 0, none⟩)) → Lib.BuilderAt 114 5 B b (.pointer (some ⟨b, 0, none⟩)) bs w' ∧ Below B w w' ∧ Lib.OthersKept 5 (some b) w w' := by
   rintro w' rfl
   exact ⟨h.used _, (Below.refl B w).setCell (p := ⟨b, 0, none⟩) h.1 _, (Lib.OthersKept.refl _ _ _).setCell ⟨b, 0, none⟩ rfl _⟩
  have HF := Lib.hid hfin
  clear hfin h
  go_enter Tryz.func95, Tryz.ntmps95
  go_wp2
  rw [Lib.run_to_unsafe w ⟨b, 0, none⟩ Tryz.underlying112 Tryz.underlying177 hj (by rw [hjs]; decide) hsh (Nat.zero_lt_succ 1)]
  simp only [Result.andThen]
  rw [Oper.upon_value]
  go_wp2
  rw [run_callFunc_extern Tryz.func120 (by kernel_rfl) (by kernel_rfl) (by kernel_rfl) (e := Extern.AbiNoEscape.same) (by kernel_rfl)]
  rw [Lib.run_noEscape]
  simp only [Result.andThen]
  rw [Oper.upon_value]
  go_wp2
  rw [Lib.run_from_unsafe w ⟨b, 0, none⟩ Tryz.underlying177 Tryz.underlying112 hj hsh Tryz.Builder_Extra_169.liesBuilder]
  simp only [Result.andThen]
  rw [Oper.upon_value]
  go_wp2
  go_end0
  exact ⟨rfl, HF.out _ rfl⟩
 ·have h0 := h.cell0
  have H := Lib.hid h
  clear h
  go_enter Tryz.func95, Tryz.ntmps95
  go_wp2
  rw [Lib.run_neq_ptr_same w _ Tryz.underlying112 hj]
  go_wp2
  go_end0
  exact ⟨rfl, H.out, Below.refl B _, Lib.OthersKept.refl _ _ _⟩
theorem own_u8 {w : World} {base n : Nat} {v : Value} {xs : List Value} (h : w.ownsRow base 5 1 v n xs) {k : Nat} (e : v.ownBlock = some k) : ∃ c fz, w.heap[k]? = some (.cells c 5 fz) := by
 rcases h.2 with ⟨rfl, _⟩ | ⟨g, cap, cur, rfl, _, hg, _⟩
 ·simp [Value.ownBlock] at e
 ·simp only [Value.ownBlock, Option.some.injEq] at e
  subst e
  exact ⟨_, _, hg⟩
theorem info_u8 : (Tryz.prog.info? 5).map (fun i => (i.zero, i.size, i.bytes)) = some (some (.int .u8 0), 1, 1) := by kernel_rfl
set_option maxHeartbeats 2000000 in
set_option maxRecDepth 100000 in
theorem wbyte_is (B b : Nat) (bs : List Value) (c : Int) (w : World) (h : Lib.IsBuilder 114 5 B b bs w) (hlen : bs.length + 1 ≤ 1000000) :
  Calls Tryz.prog 101 #[.pointer (some ⟨b, 0, none⟩), .int .u8 c] w fun e w' => e = .returned .nilIface ∧ Lib.IsBuilder 114 5 B b (bs ++ [.int .u8 c]) w' ∧ Below B w w' ∧ Lib.OthersKept 5 (some b) w w' := by
 obtain ⟨i0, hi, hz0, hz1, hz2⟩ := info_parts info_u8
 have hcc := copyCheck_is B b bs w h
 clear h
 go_enter Tryz.func101, Tryz.ntmps101
 go_wp2_with fail
 refine hcc.mono ?_
 rintro e w1 ⟨rfl, h1, hb1, hk1⟩
 obtain ⟨hB, v, hbk, hown, hne⟩ := h1
 have hlt : b < w1.heap.size := (Array.getElem?_eq_some_iff.1 hbk).1
 have hBw1 : B ≤ w1.heap.size := by omega
 have c0 : w1.cell? ⟨b, 0, none⟩ = some (.pointer (some ⟨b, 0, none⟩)) := by rw [Lib.cell_of_heap hbk]; rfl
 have c1 : w1.cell? ⟨b, 1, none⟩ = some v := by rw [Lib.cell_of_heap hbk]; rfl
 have hown1 := hown.alloc (.cells #[.int .u8 c] 5)
 have hnb : (w1.alloc (.cells #[.int .u8 c] 5)).heap[w1.heap.size]? = some (.cells #[.int .u8 c] 5 (0, 0)) := heap_alloc_new _ _
 have HNB := Lib.hid hnb
 have hone : ∀ u ∈ ([.int .u8 c] : List Value), u.oneCell' = true := by
  intro u hu; simp at hu; subst hu; rfl
 have hsz1 : (w1.alloc (.cells #[.int .u8 c] 5)).heap.size = w1.heap.size + 1 := World.size_alloc _ _
 have hbase : B ≤ (w1.alloc (.cells #[.int .u8 c] 5)).heap.size := by omega
 have hb1a := hb1.alloc hBw1 (.cells #[.int .u8 c] 5)
 have hbka : (w1.alloc (.cells #[.int .u8 c] 5)).heap[b]? = some (.cells #[.pointer (some ⟨b, 0, none⟩), v] 114 (0, 0)) := by rw [Lib.alloc_old w1 _ b hlt]; exact hbk
 have HBK := Lib.hid hbka
 have HK1 := Lib.hid (hk1.alloc (.cells #[.int .u8 c] 5))
 have hub := fun k (e : v.ownBlock = some k) => own_u8 hown1 e
 have HUB := Lib.hid hub
 clear hk1 hub
 have HB1 := Lib.hid hb1a
 have hkeep : ∀ w2, (w1.alloc (.cells #[.int .u8 c] 5)).grownBy w2 v.ownBlock → w2.heap[b]? = some (.cells #[.pointer (some ⟨b, 0, none⟩), v] 114 (0, 0)) := fun w2 hg => by
  rw [hg.block b (by omega) (fun e => hne e.symm)]
  exact hbka
 have HK := Lib.hid hkeep
 clear hcc hnb hbk hbka hb1a hb1 hown hkeep HBK
 go_wp2_with (at_builtin; (refine wpList_append_lies _ rfl (.tmp 11) (.tmp 13) 43 rfl B 5 i0 (.int .u8 0) 1 1 Tryz.underlying43 hi hz0 hz1 hz2 rfl (by decide) _ bs.length bs rfl hown1 ⟨w1.heap.size, 0, none⟩ 1 1 [.int .u8 c] rfl rfl (World.news_of_block HNB.out) hone (by decide) (by unfold maxLen; omega) (by omega) hbase (w1.heap.size + 1) hsz1 ?_); intro g cap w2 hown' hgrow hat hlt2; have H2 := Lib.hid (HK.out w2 hgrow); have d0 : w2.cell? ⟨b, 0, none⟩ = some (.pointer (some ⟨b, 0, none⟩)) := (by rw [Lib.cell_of_heap H2.out]; rfl); have d1 : w2.cell? ⟨b, 1, none⟩ = some v := (by rw [Lib.cell_of_heap H2.out]; rfl); have f1 : w2.frozen? ⟨b, 1, none⟩ = false := Lib.frozen_of_heap H2.out 1; have HB2 := Lib.hid (HB1.out.grown hgrow hbase (fun k hk => (hown1.lt k hk).1)); have HO := Lib.hid hown'; have HK2 := Lib.hid (HK1.out.grown hgrow (fun k e => HUB.out k e)); clear hown' hgrow hat hown1)
 go_ret
 refine ⟨rfl, .inr ?_, HB2.out.setCell (p := ⟨b, 1, none⟩) hB _, HK2.out.setCell ⟨b, 1, none⟩ rfl _⟩
 exact Lib.BuilderAt.put (T := 114) (e := 5) hB H2.out (bs' := bs ++ [.int .u8 c]) (by simpa using HO.out) Tryz.Builder_Extra_169.neB5
end Go.Proofs.YtgbapkechngnmaaGreat
/- slices.Repeat of one number: a contract. -/
namespace Go.Proofs.YtgbapkechngnmaaGreat
open Go.RowKit
end Go.Proofs.YtgbapkechngnmaaGreat
/- How far states are from the end, said plainly. No program in sight. -/
namespace Go.Proofs.YtgbapkechngnmaaGreat
inductive Pn (sts : List St) (en : Nat) : Nat → Nat → Prop
 | done : Pn sts en en 0
 | free {k f m : Nat} : f ∈ frees sts k → Pn sts en f m → Pn sts en k m
 | byte {k c m : Nat} {x : St} : sts[k]? = some x → c < 256 → goB x c = true → Pn sts en x.next m → Pn sts en k (m + 1)
structure NJ (sts : List St) (en : Nat) (d : List Nat) : Prop where
 len : d.length = sts.length
 e0 : d.getD en 0 = 0
 ok : ∀ k, k < sts.length → d.getD k 0 ≤ 301 ∧ (d.getD k 0 = 301 ∨ Pn sts en k (d.getD k 0))
def FixAt (sts : List St) (d : List Nat) (k : Nat) : Prop := ∀ x, sts[k]? = some x → (∀ f ∈ x.free, d.getD k 0 ≤ d.getD f 0) ∧ ∀ c, c < 256 → goB x c = true → d.getD k 0 ≤ d.getD x.next 0 + 1
structure Best (sts : List St) (en : Nat) (d : List Nat) (k j b : Nat) (l : List Nat) : Prop where
 le : b ≤ d.getD k 0
 fr : ∀ f ∈ l.take j, b ≤ d.getD f 0
 pn : b = 301 ∨ Pn sts en k b
theorem getD_set {d : List Nat} {k j v : Nat} (hk : k < d.length) : (d.set k v).getD j 0 = if j = k then v else d.getD j 0 := by
 rw [List.getD_eq_getElem?_getD, List.getD_eq_getElem?_getD, List.getElem?_set]
 by_cases h : k = j
 ·subst h; simp [hk]
 ·rw [if_neg h, if_neg (fun e => h e.symm)]
theorem Best.next {sts : List St} {en : Nat} {d : List Nat} (h : NJ sts en d) (hw : SWf sts) {k j b : Nat} {x : St} (hx : sts[k]? = some x) (hb : Best sts en d k j b x.free) (hj : j < x.free.length) : Best sts en d k (j + 1) (min b (d.getD x.free[j] 0)) x.free := by
 have hf : x.free[j] ∈ x.free := List.getElem_mem hj
 have hlt : x.free[j] < sts.length := (hw x (List.mem_of_getElem? hx)).1 _ hf
 refine ⟨Nat.le_trans (Nat.min_le_left _ _) hb.le, fun f h1 => ?_, ?_⟩
 ·rw [List.take_succ_eq_append_getElem hj] at h1
  rcases List.mem_append.1 h1 with h2 | h2
  ·exact Nat.le_trans (Nat.min_le_left _ _) (hb.fr f h2)
  ·rw [List.mem_singleton.1 h2]; exact Nat.min_le_right _ _
 ·rcases Nat.le_total b (d.getD x.free[j] 0) with h2 | h2
  ·rw [Nat.min_eq_left h2]; exact hb.pn
  ·rw [Nat.min_eq_right h2]
   rcases (h.ok _ hlt).2 with h3 | h3
   ·exact .inl h3
   ·refine .inr (.free ?_ h3)
    unfold frees; rw [hx]; exact hf
structure Full (sts : List St) (en : Nat) (d : List Nat) (k b : Nat) (x : St) : Prop where
 le : b ≤ d.getD k 0
 fr : ∀ f ∈ x.free, b ≤ d.getD f 0
 by1 : ∀ c, c < 256 → goB x c = true → b ≤ d.getD x.next 0 + 1
 pn : b = 301 ∨ Pn sts en k b
theorem Best.some {sts : List St} {en : Nat} {d : List Nat} (h : NJ sts en d) (hw : SWf sts) {k b : Nat} {x : St} (hx : sts[k]? = .some x) (hb : Best sts en d k x.free.length b x.free) {c : Nat} (hc : c < 256) (hg : goB x c = true) (h301 : b ≤ 301) : Full sts en d k (min b (d.getD x.next 0 + 1)) x := by
 refine ⟨Nat.le_trans (Nat.min_le_left _ _) hb.le, fun f hf => Nat.le_trans (Nat.min_le_left _ _) (hb.fr f (by rw [List.take_length]; exact hf)), fun c hc hg => Nat.min_le_right _ _, ?_⟩
 have hn := h.ok _ (hw x (List.mem_of_getElem? hx)).2
 rcases Nat.le_total b (d.getD x.next 0 + 1) with h2 | h2
 ·rw [Nat.min_eq_left h2]; exact hb.pn
 ·rw [Nat.min_eq_right h2]
  rcases hn.2 with h3 | h3
  ·omega
  ·exact .inr (.byte hx hc hg h3)
theorem Full.put {sts : List St} {en : Nat} {d : List Nat} (h : NJ sts en d) {k b : Nat} {x : St} (hk : k < sts.length) (hf : Full sts en d k b x) (hb : b < d.getD k 0) : NJ sts en (d.set k b) := by
 have hkd : k < d.length := by rw [h.len]; exact hk
 refine ⟨by rw [List.length_set]; exact h.len, ?_, fun j hj => ?_⟩
 ·rw [getD_set hkd]
  split
  ·rename_i e; subst e; rw [h.e0] at hb; omega
  ·exact h.e0
 ·rw [getD_set hkd]
  split
  ·rename_i e
   subst e
   exact ⟨by have := (h.ok j hj).1; omega, hf.pn⟩
  ·exact h.ok j hj
def Near (sts : List St) (en : Nat) (d : List Nat) : Prop := NJ sts en d ∧ ∀ k, k < sts.length → FixAt sts d k
theorem Near.le {sts : List St} {en : Nat} {d : List Nat} (h : Near sts en d) (hw : SWf sts) {k m : Nat} (hp : Pn sts en k m) (hk : k < sts.length) : d.getD k 0 ≤ m := by
 induction hp with
 | done => rw [h.1.e0]; omega
 | @free k' f m hf _ ih =>
  have hx : sts[k']? = .some sts[k'] := List.getElem?_eq_getElem hk
  have hm : f ∈ sts[k'].free := by unfold frees at hf; rw [hx] at hf; exact hf
  exact Nat.le_trans ((h.2 k' hk _ hx).1 f hm) (ih (frees_lt hw hf))
 | @byte k' c m x hx hc hg _ ih => exact Nat.le_trans ((h.2 _ hk _ hx).2 _ hc hg) (Nat.succ_le_succ (ih (hw _ (List.mem_of_getElem? hx)).2))
end Go.Proofs.YtgbapkechngnmaaGreat
/- two sets of bytes, compared. -/
namespace Go.Proofs.YtgbapkechngnmaaGreat
open Go.RowKit
end Go.Proofs.YtgbapkechngnmaaGreat
/- pattern's near: a contract. -/
namespace Go.Proofs.YtgbapkechngnmaaGreat
open Go.RowKit
def RowD (w : World) (base g cap : Nat) (d : List Nat) : Prop := w.ownsRow base 3 1 (.slice (some ⟨g, 0, none⟩) d.length cap) d.length (freeC d)
theorem freeC_get (d : List Nat) {j : Nat} (h : j < d.length) : (freeC d)[j]? = some (.int .i64 (d.getD j 0 : Nat)) := by
 rw [freeC_at d j h, List.getD_eq_getElem?_getD, List.getElem?_eq_getElem h]; rfl
theorem RowD.cell {w : World} {base g cap : Nat} {d : List Nat} (h : RowD w base g cap d) {j : Nat} (hj : j < d.length) : w.cell? ⟨g, j, none⟩ = some (.int .i64 (d.getD j 0 : Nat)) ∧ w.frozen? ⟨g, j, none⟩ = false :=
 ownsRow_cell h rfl (freeC_get d hj)
theorem RowD.put {w : World} {base g cap : Nat} {d : List Nat} (h : RowD w base g cap d) (k b : Nat) : RowD (w.setCell ⟨g, k, none⟩ (.int .i64 b)) base g cap (d.set k b) := by
 have h1 := ownsRow_set h (g := g) (j := k) rfl (.int .i64 (b : Int))
 unfold RowD
 rw [List.length_set]
 have e : (freeC d).set k (.int .i64 (b : Int)) = freeC (d.set k b) := by unfold freeC; rw [List.map_set]
 rw [e] at h1
 exact h1
theorem PtrAt.shape {w : World} {own : Nat → Prop} {x : St} {v : Value} (h : PtrAt w own x v) : ∃ p, v = .pointer p := by
 unfold PtrAt at h
 split at h
 ·exact ⟨_, h⟩
 ·obtain ⟨k, h1, _⟩ := h; exact ⟨_, h1⟩
end Go.Proofs.YtgbapkechngnmaaGreat
/- slices.ContainsFunc of numbers, with Least's closure: contracts. -/
namespace Go.Proofs.YtgbapkechngnmaaGreat
open Go.RowKit
end Go.Proofs.YtgbapkechngnmaaGreat
/- The least text that fits, said plainly. No program in sight. -/
namespace Go.Proofs.YtgbapkechngnmaaGreat
inductive Pl (sts : List St) : Nat → List Nat → Nat → Prop
 | nil {k : Nat} : Pl sts k [] k
 | free {k f e : Nat} {cs : List Nat} : f ∈ frees sts k → Pl sts f cs e → Pl sts k cs e
 | byte {k c e : Nat} {cs : List Nat} {x : St} : sts[k]? = some x → c < 256 → goB x c = true → Pl sts x.next cs e → Pl sts k (c :: cs) e
theorem Pl.one {sts : List St} {k e f : Nat} {cs : List Nat} (h : Pl sts k cs e) (hf : f ∈ frees sts e) : Pl sts k cs f := by
 induction h with
 | nil => exact .free hf .nil
 | free h1 _ ih => exact .free h1 (ih hf)
 | byte h1 h2 h3 _ ih => exact .byte h1 h2 h3 (ih hf)
theorem Pl.fr {sts : List St} {k e f : Nat} {cs : List Nat} (h : Pl sts k cs e) (hf : FR sts e f) : Pl sts k cs f := by
 induction hf with
 | refl => exact h
 | step _ h2 ih => exact ih.one h2
theorem Pl.pn {sts : List St} {k e : Nat} {cs : List Nat} (h : Pl sts k cs e) : Pn sts e k cs.length := by
 induction h with
 | nil => exact .done
 | free h1 _ ih => exact .free h1 ih
 | byte h1 h2 h3 _ ih => exact .byte h1 h2 h3 ih
theorem FR.trans {sts : List St} {a b c : Nat} (h : FR sts a b) (h' : FR sts b c) : FR sts a c := by
 induction h' with
 | refl => exact h
 | step _ h2 ih => exact .step ih h2
theorem FR.cons {sts : List St} {a b c : Nat} (h : b ∈ frees sts a) (h' : FR sts b c) : FR sts a c := FR.trans (.step (.refl a) h) h'
theorem Rn.fr {sts : List St} {st k f : Nat} {cs : List Nat} (h : Rn sts st cs k) (hf : FR sts k f) : Rn sts st cs f := by
 cases h with
 | start h1 => exact .start (h1.trans hf)
 | byte h1 h2 h3 h4 => exact .byte h1 h2 h3 (h4.trans hf)
theorem Near.fr {sts : List St} {en : Nat} {d : List Nat} (h : Near sts en d) (hw : SWf sts) {j k : Nat} (hf : FR sts j k) (hj : j < sts.length) : d.getD j 0 ≤ d.getD k 0 := by
 induction hf with
 | refl => exact Nat.le_refl _
 | @step k' f h1 h2 ih =>
  have hk : k' < sts.length := FR_lt hw h1 hj
  refine Nat.le_trans ih ?_
  have hx : sts[k']? = some sts[k'] := List.getElem?_eq_getElem hk
  have hm : f ∈ sts[k'].free := by unfold frees at h2; rw [hx] at h2; exact h2
  exact (h.2 k' hk _ hx).1 f hm
/-! the order of texts of one length -/
def LexLt (a b : List Nat) : Prop := ∃ p x y r s, a = p ++ x :: r ∧ b = p ++ y :: s ∧ x < y
def LexLe (a b : List Nat) : Prop := a = b ∨ LexLt a b
structure LI (sts : List St) (st en : Nat) (d ws : List Nat) (left : Nat) (out : List Nat) : Prop where
 mem : ∀ k, k ∈ out ↔ Rn sts st ws k
 ex : ∃ k ∈ out, d.getD k 0 = left
 ge : ∀ k ∈ out, left ≤ d.getD k 0
 mn : ∀ cs, (∀ c ∈ cs, c < 256) → Rn sts st cs en → ws.length + left ≤ cs.length ∧ (cs.length = ws.length + left → LexLe ws (cs.take ws.length))
end Go.Proofs.YtgbapkechngnmaaGreat
/- pattern's Least: a contract. -/
namespace Go.Proofs.YtgbapkechngnmaaGreat
open Go.RowKit
theorem BuilderAt_below {T e : TypeId} {B b : Nat} {p : Value} {bs : List Value} {w w' : World} (h : Lib.BuilderAt T e B b p bs w) (hb : Below w.heap.size w w') : Lib.BuilderAt T e B b p bs w' := by
 have hlt := h.lt
 obtain ⟨hB, v, h1, h2, h3⟩ := h
 exact ⟨hB, v, (hb.block b hlt).trans h1, ownsRow_below h2 hb, h3⟩
theorem IsBuilder_below {T e : TypeId} {B b : Nat} {bs : List Value} {w w' : World} (h : Lib.IsBuilder T e B b bs w) (hb : Below w.heap.size w w') : Lib.IsBuilder T e B b bs w' := by
 rcases h with h | h
 ·exact .inl (BuilderAt_below h hb)
 ·exact .inr (BuilderAt_below h hb)
theorem IsBuilder_set {T e : TypeId} {B b : Nat} {bs : List Value} {w : World} (h : Lib.IsBuilder T e B b bs w) {g j : Nat} (hg : g < B) (u : Value) : Lib.IsBuilder T e B b bs (w.setCell ⟨g, j, none⟩ u) := by
 have key : ∀ p, Lib.BuilderAt T e B b p bs w → Lib.BuilderAt T e B b p bs (w.setCell ⟨g, j, none⟩ u) := fun p h => by
  obtain ⟨hB, v, h1, h2, h3⟩ := h
  refine ⟨hB, v, (Below.heap_setCell w ⟨g, j, none⟩ u b (by show b ≠ g; omega)).trans h1, ownsRow_blk h2 (fun k hk => ?_), h3⟩
  exact Below.heap_setCell w ⟨g, j, none⟩ u k (by have := (h2.lt k hk).1; show k ≠ g; omega)
 rcases h with h | h
 ·exact .inl (key _ h)
 ·exact .inr (key _ h)
theorem ownsRow_others {w w' : World} {base n b : Nat} {v : Value} {xs : List Value} (h : w.ownsRow base 3 1 v n xs) (hk : Lib.OthersKept 5 (some b) w w') (hb : v.ownBlock ≠ some b) : w'.ownsRow base 3 1 v n xs := by
 rcases h.2 with ⟨rfl, h0⟩ | ⟨g, cap, cur, rfl, hb1, hg, h2⟩
 ·exact ⟨h.1, .inl ⟨rfl, h0⟩⟩
 ·refine ⟨h.1, .inr ⟨g, cap, cur, rfl, hb1, hk g _ hg (fun e => hb (by rw [← e]; rfl)) (fun c fz e => ?_), h2⟩⟩
  injection e with _ e2
  exact absurd e2 (by decide)
def chr (l : List Nat) : List Value := l.map fun (n : Nat) => Value.int .u8 (n : Int)
structure LsAt (w : World) (sts : List St) (st en : Nat) (d : List Nat) (g cap bd bl bb : Nat) (wr : World) (vl : Value) (ws out : List Nat) (left : Nat) : Prop where
 li : LI sts st en d ws left out
 le : ws.length + left ≤ 300
 by1 : ∀ c ∈ ws, c < 256
 cl : wr.heap[bl]? = some (.cells #[.int .i64 left] 3 (0, 0))
 cd : wr.heap[bd]? = some (.cells #[.slice (some ⟨g, 0, none⟩) d.length cap] 136 (0, 0))
 rd : RowD wr w.heap.size g cap d
 bu : Lib.IsBuilder 114 5 bb bb (chr ws) wr
 ro : wr.ownsRow (bb + 1) 3 1 vl out.length (freeC out)
 ri : RisingN out
 be : Below w.heap.size w wr
 od : w.heap.size ≤ g ∧ g < bd ∧ bd < bl ∧ bl < bb ∧ bb < wr.heap.size
theorem LsAt.below {w : World} {sts : List St} {st en : Nat} {d : List Nat} {g cap bd bl bb : Nat} {wr wr' : World} {vl : Value} {ws out : List Nat} {left : Nat} (h : LsAt w sts st en d g cap bd bl bb wr vl ws out left) (hb : Below wr.heap.size wr wr') : LsAt w sts st en d g cap bd bl bb wr' vl ws out left := by
 obtain ⟨o1, o2, o3, o4, o5⟩ := h.od
 exact ⟨h.li, h.le, h.by1, (hb.block bl (by omega)).trans h.cl, (hb.block bd (by omega)).trans h.cd, ownsRow_below h.rd hb, IsBuilder_below h.bu hb, ownsRow_below h.ro hb, h.ri, h.be.trans (hb.mono h.be.size), o1, o2, o3, o4, Nat.lt_of_lt_of_le o5 hb.size⟩
theorem LsAt.next {w : World} {sts : List St} {st en : Nat} {d : List Nat} {g cap bd bl bb : Nat} {wr w2 : World} {vl vn : Value} {ws out nxt : List Nat} {left c : Nat} (h : LsAt w sts st en d g cap bd bl bb wr vl ws out (left + 1)) (hc : c < 256)
  (hn : wr.ownsRow (bb + 1) 3 1 vn nxt.length (freeC nxt)) (hri : RisingN nxt) (hli : LI sts st en d (ws ++ [c]) left nxt)
  (hbu : Lib.IsBuilder 114 5 bb bb (chr ws ++ [.int .u8 c]) w2) (hb2 : Below bb wr w2) (hk : Lib.OthersKept 5 (some bb) wr w2) :
  LsAt w sts st en d g cap bd bl bb (w2.setCell ⟨bl, 0, none⟩ (.int .i64 left)) vn (ws ++ [c]) nxt left := by
 obtain ⟨o1, o2, o3, o4, o5⟩ := h.od
 have hcl2 : w2.heap[bl]? = some (.cells #[.int .i64 ((left + 1 : Nat) : Int)] 3 (0, 0)) := (hb2.block bl (by omega)).trans h.cl
 have hoth : ∀ k, k ≠ bl → (w2.setCell ⟨bl, 0, none⟩ (.int .i64 left)).heap[k]? = w2.heap[k]? := fun k hk => Below.heap_setCell w2 ⟨bl, 0, none⟩ _ k hk
 have hgt : ∀ k, vn.ownBlock = some k → bb + 1 ≤ k := fun k e => (hn.lt k e).1
 refine ⟨hli, by have := h.le; rw [List.length_append]; simp; omega, ?_, ?_, ?_, ?_, ?_, ?_, hri, ?_, o1, o2, o3, o4, ?_⟩
 ·intro q hq
  rcases List.mem_append.1 hq with h1 | h1
  ·exact h.by1 q h1
  ·rw [List.mem_singleton.1 h1]; exact hc
 ·simp [World.setCell, Array.getElem?_modify, hcl2]
 ·rw [hoth bd (by omega)]; exact (hb2.block bd (by omega)).trans h.cd
 ·refine ownsRow_blk h.rd (fun k hk => ?_)
  simp only [Value.ownBlock, Option.some.injEq] at hk
  subst hk
  rw [hoth g (by omega)]; exact hb2.block g (by omega)
 ·have e : chr (ws ++ [c]) = chr ws ++ [.int .u8 c] := by simp [chr]
  rw [e]
  exact IsBuilder_set hbu o4 _
 ·refine ownsRow_blk (ownsRow_others hn hk (fun e => ?_)) (fun k hk => hoth k (by have := hgt k hk; omega))
  have := hgt bb e; omega
 ·exact below_put (h.be.trans (hb2.mono (by omega))) (by omega)
 ·rw [World.setCell]; simp only [Array.size_modify]; exact Nat.lt_of_lt_of_le o5 hb2.size
theorem chr_bytes {ws : List Nat} (h : ∀ c ∈ ws, c < 256) : chr ws = Lib.byteCells (ws.map UInt8.ofNat) ∧ bytesN ⟨(ws.map UInt8.ofNat).toArray⟩ = ws := by
 have key : ∀ c, c < 256 → (UInt8.ofNat c).toNat = c := fun c hc => by simp; omega
 constructor
 ·unfold chr Lib.byteCells
  rw [List.map_map]
  exact List.map_congr_left (fun c hc => by simp only [Function.comp]; rw [key c (h c hc)])
 ·unfold bytesN
  show (List.map (fun x => x.toNat) (ws.map UInt8.ofNat)) = ws
  rw [List.map_map]
  conv => rhs; rw [← List.map_id ws]
  exact List.map_congr_left (fun c hc => key c (h c hc))
end Go.Proofs.YtgbapkechngnmaaGreat
/- match.value: a contract. -/
namespace Go.Proofs.YtgbapkechngnmaaGreat
open Go.RowKit
theorem B_extract (s : ByteArray) (k : Nat) : B (s.extract k s.size) = (B s).drop k := by
 show (s.extract k s.size).data.toList = _
 rw [ByteArray.data_extract, Array.toList_extract, List.extract_eq_take_drop]
 show ((B s).drop k).take (s.size - k) = _
 rw [List.take_of_length_le (by rw [List.length_drop, len_B]; exact Nat.le_refl _)]
theorem byteCells_snoc (l : List UInt8) (c : UInt8) : Lib.byteCells (l ++ [c]) = Lib.byteCells l ++ [.int .u8 (c.toNat : Int)] := by
 simp [Lib.byteCells]
def valAt (s : ByteArray) (i : Nat) (acc : List UInt8) : Prop := valB (B s) = (valB ((B s).drop i)).map fun x => (acc ++ x.1, x.2)
theorem valAt_zero (s : ByteArray) : valAt s 0 [] := by
 unfold valAt
 rw [List.drop_zero]
 cases valB (B s) <;> rfl
theorem drop_at (s : ByteArray) (i : Nat) (h : i < s.size) : (B s).drop i = s[i] :: (B s).drop (i + 1) := by
 rw [List.drop_eq_getElem_cons (by rw [len_B]; exact h)]; rfl
theorem valAt_end {s : ByteArray} {acc : List UInt8} (h : valAt s s.size acc) : valB (B s) = none := by
 unfold valAt at h
 rw [List.drop_of_length_le (by rw [len_B]; exact Nat.le_refl _)] at h
 exact h
theorem valAt_quote {s : ByteArray} {i : Nat} {acc : List UInt8} (h : valAt s i acc) (hi : i < s.size) (hc : s[i] = 34) : valB (B s) = some (acc, (B s).drop (i + 1)) := by
 unfold valAt at h
 rw [drop_at s i hi, valB_cons, if_pos hc] at h
 simpa using h
theorem valAt_plain {s : ByteArray} {i : Nat} {acc : List UInt8} (h : valAt s i acc) (hi : i < s.size) (h1 : s[i] ≠ 34) (h2 : s[i] ≠ 92) : valAt s (i + 1) (acc ++ [s[i]]) := by
 unfold valAt at *
 rw [drop_at s i hi, valB_cons, if_neg h1, if_neg h2] at h
 rw [h, Option.map_map]
 cases valB ((B s).drop (i + 1)) <;> simp
theorem valAt_last {s : ByteArray} {i : Nat} {acc : List UInt8} (h : valAt s i acc) (hi : i < s.size) (hc : s[i] = 92) (he : s.size ≤ i + 1) : valB (B s) = none := by
 unfold valAt at h
 rw [drop_at s i hi, valB_cons, if_neg (by rw [hc]; decide), if_pos hc, List.drop_of_length_le (by rw [len_B]; exact he)] at h
 exact h
theorem valAt_odd {s : ByteArray} {i : Nat} {acc : List UInt8} (h : valAt s i acc) (hi : i + 1 < s.size) (hc : s[i] = 92) (h1 : s[i + 1] ≠ 34) (h2 : s[i + 1] ≠ 92) : valB (B s) = none := by
 unfold valAt at h
 rw [drop_at s i (by omega), valB_cons, if_neg (by rw [hc]; decide), if_pos hc, drop_at s (i + 1) hi] at h
 simp only [] at h
 rw [if_neg (fun e => e.elim h1 h2)] at h
 exact h
theorem valAt_esc {s : ByteArray} {i : Nat} {acc : List UInt8} (h : valAt s i acc) (hi : i + 1 < s.size) (hc : s[i] = 92) (h1 : s[i + 1] = 34 ∨ s[i + 1] = 92) : valAt s (i + 2) (acc ++ [s[i + 1]]) := by
 unfold valAt at *
 rw [drop_at s i (by omega), valB_cons, if_neg (by rw [hc]; decide), if_pos hc, drop_at s (i + 1) hi] at h
 simp only [] at h
 rw [if_pos h1] at h
 rw [h, Option.map_map]
 cases valB ((B s).drop (i + 1 + 1)) <;> simp
theorem wrap_succ (i : Nat) (h : i ≤ 1000000) : IntKind.i64.wrap ((i : Int) + 1) = (i : Int) + 1 := by rw [IntKind.wrap_i64]; omega
def ValPost (s : ByteArray) (a b : ByteArray) (ok : Bool) : Prop := (ok = false ∧ valB (B s) = none ∧ a = ⟨#[]⟩ ∧ b = ⟨#[]⟩) ∨ (ok = true ∧ valB (B s) = some (B a, B b))
set_option maxHeartbeats 1600000 in
set_option maxRecDepth 100000 in
theorem mvalue_any (s : ByteArray) (w : World) (hs : s.size ≤ 900000) :
  Calls Tryz.prog 78 #[.string s] w fun e w' => ∃ a b ok, e = .returned (.tuple #[.string a, .string b, .bool ok]) ∧ ValPost s a b ok ∧ Below w.heap.size w w' := by
 have HN := Lib.hid (Lib.fresh_isBuilder 114 5 w)
 have HB0 := Lib.hid (alloc_below w (.cells #[.pointer none, .slice none 0 0] 114))
 have hsz := World.size_alloc w (.cells #[.pointer none, .slice none 0 0] 114)
 go_enter Tryz.func78, Tryz.ntmps78
 go_upto_region 2 with fail
 change Code.wp _ _ _ _ (w.alloc (.cells #[.pointer none, .slice none 0 0] 114))
 generalize w.alloc (.cells #[.pointer none, .slice none 0 0] 114) = w0 at *
 go_wp2_with fail
 go_loopw [6] (fun v wr => ∃ (i : Nat) (acc : List UInt8), v = .int .i64 i ∧ i ≤ s.size ∧ acc.length ≤ i ∧ Hid (valAt s i acc) ∧ Hid (Lib.IsBuilder 114 5 w.heap.size w.heap.size (Lib.byteCells acc) wr) ∧ Hid (Below w.heap.size w wr) ∧ w.heap.size < wr.heap.size) (fun v _ => s.size + 1 - (intOf v).toNat)
 case atStart => exact ⟨0, [], rfl, Nat.zero_le _, Nat.zero_le _, Lib.hid (valAt_zero s), HN, HB0, by omega⟩
 case round =>
  clear HN HB0 hsz
  obtain ⟨i, acc, rfl, hi, hal, HV, HI, HB, hlt⟩ := hrel
  by_cases his : i < s.size
  ·obtain ⟨x, hx⟩ : ∃ x, s[i] = x := ⟨_, rfl⟩
   have hz0 : (0 : Int) ≤ (i : Int) := by omega
   have hz1 : (i : Int) < (s.size : Int) := by omega
   by_cases h34 : x = 34
   ·have HQ := Lib.hid (valAt_quote HV.out his (by rw [hx]; exact h34))
    have hb34 : ((x.toNat : Int) == 34) = true := by subst h34; rfl
    have hstr := Tryz.Builder_String_any w.heap.size w.heap.size acc wr HI.out (by omega)
    have hstr2 := Tryz.Builder_String_any w.heap.size w.heap.size acc wr.drew HI.out (by show _ ≤ wr.heap.size; omega)
    have hz2 : ((i : Int) + 1) ≤ (s.size : Int) := by omega
    have hz3 : (0 : Int) ≤ (i : Int) + 1 := by omega
    have hz4 : ((i : Int) + 1).toNat = i + 1 := by omega
    have hz5 : i + 1 ≤ s.size := by omega
    have HBD := Lib.hid (HB.out.trans ((Below.refl _ wr).drew.mono HB.out.size))
    clear HV HI hstr
    have hwi : IntKind.i64.wrap ((i : Int) + 1) = (i : Int) + 1 := wrap_succ i (by omega)
    go_wp2_with fail
    refine wp_region_held_drew (S := (fun _ => True)) (by kernel_rfl) trivial (fun hHeld => ?_)
    refine plIn [1, 2, 3, 4] ?_
    iterate 4
     refine hP (v := ?_) rfl rfl hHeld ?_ ?_
     rotate_left
     ·rintro wh _
      go_simp
      (try with_reducible rfl)
     simp only [Act.put, List.setIfInBounds_toArray, List.set_cons_zero, List.set_cons_succ]
    refine plOut ?_
    refine held_call (i := 0) rfl (by kernel_rfl) (by rfl) (fun K hK => ?_)
    go_simp; refine hstr2.mono ?_; rintro e w5 ⟨rfl, hb5⟩
    refine hK.out _ _ trivial (fun hHeld => ?_)
    clear hK K
    (try simp only [Act.put, List.setIfInBounds_toArray, List.set_cons_zero, List.set_cons_succ])
    refine plIn [5, 6, 7] ?_
    iterate 3
     refine hP (v := ?_) rfl rfl hHeld ?_ ?_
     rotate_left
     ·rintro wh _
      go_simp
      (try with_reducible rfl)
     simp only [Act.put, List.setIfInBounds_toArray, List.set_cons_zero, List.set_cons_succ]
    refine plOut ?_
    refine wpAnyH_done (by kernel_rfl) ?_ _
    all_goals
     go_wp2
     go_ret3
     exact ⟨_, _, true, rfl, .inr ⟨rfl, by rw [HQ.out, B_mk, B_extract]⟩, HBD.out.trans (hb5.mono (Nat.le_refl _))⟩
   ·have hb34 : ((x.toNat : Int) == 34) = false := by
     rw [beq_eq_false_iff_ne]; intro e; exact h34 (UInt8.toNat_inj.1 (by show x.toNat = 34; omega))
    by_cases h92 : x = 92
    ·have hb92 : ((x.toNat : Int) == 92) = true := by subst h92; rfl
     by_cases hl : s.size ≤ i + 1
     ·have HQ := Lib.hid (valAt_last HV.out his (by rw [hx]; exact h92) hl)
      have hez : ((i : Int) + 1 == (s.size : Int)) = true := by rw [beq_iff_eq]; omega
      have hez2 : (i : Int) + 1 = (s.size : Int) := by omega
      clear HV HI
      go_wp2_with fail
      go_ret3
      exact ⟨_, _, false, rfl, .inl ⟨rfl, HQ.out, rfl, rfl⟩, HB.out⟩
     ·have hez : ((i : Int) + 1 == (s.size : Int)) = false := by rw [beq_eq_false_iff_ne]; omega
      have hez2 : ¬ ((i : Int) + 1 = (s.size : Int)) := by omega
      obtain ⟨y, hy⟩ : ∃ y, s[i + 1]'(by omega) = y := ⟨_, rfl⟩
      have hz2 : (0 : Int) ≤ (i : Int) + 1 := by omega
      have hz3 : (i : Int) + 1 < (s.size : Int) := by omega
      have hwi : IntKind.i64.wrap ((i : Int) + 1) = (i : Int) + 1 := wrap_succ i (by omega)
      have hne : ∀ {c : UInt8} {n : Nat}, c.toNat = n → y ≠ c → ((y.toNat : Int) != (n : Int)) = true := fun {c n} hc h => by
       rw [bne_iff_ne]; intro e; exact h (UInt8.toNat_inj.1 (by omega))
      by_cases hy1 : y = 34
      ·have HQ := Lib.hid (valAt_esc HV.out (by omega) (by rw [hx]; exact h92) (by rw [hy]; exact .inl hy1))
       rw [hy] at HQ
       have hyn : ((y.toNat : Int) != 34) = false := by rw [hy1]; rfl
       clear hy1
       have kb := wbyte_is w.heap.size w.heap.size (Lib.byteCells acc) (y.toNat : Int) wr HI.out (by rw [Lib.byteCells_length]; omega)
       rw [← byteCells_snoc] at kb
       clear HV HI
       go_wp2_with fail
       refine kb.mono ?_
       rintro e w5 ⟨rfl, hI5, hb5, _⟩
       have HI5 := Lib.hid hI5
       have HB5 := Lib.hid (HB.out.trans hb5)
       have hlt5 : w.heap.size < w5.heap.size := Nat.lt_of_lt_of_le hlt hb5.size
       clear kb hI5 hb5 hwi hne hez hez2
       go_wp2
       go_roundw
       case rel => exact ⟨i + 2, acc ++ [y], by go_num, by omega, by rw [List.length_append]; simp only [List.length_cons, List.length_nil]; omega, HQ, HI5, HB5, hlt5⟩
       case measure => (simp [intOf]; try omega)
      ·have hyn : ((y.toNat : Int) != 34) = true := hne (c := 34) rfl hy1
       by_cases hy2 : y = 92
       ·have HQ := Lib.hid (valAt_esc HV.out (by omega) (by rw [hx]; exact h92) (by rw [hy]; exact .inr hy2))
        rw [hy] at HQ
        have hyn2 : ((y.toNat : Int) != 92) = false := by rw [hy2]; rfl
        clear hy2 hy1
        have kb := wbyte_is w.heap.size w.heap.size (Lib.byteCells acc) (y.toNat : Int) wr HI.out (by rw [Lib.byteCells_length]; omega)
        rw [← byteCells_snoc] at kb
        clear HV HI
        go_wp2_with fail
        refine kb.mono ?_
        rintro e w5 ⟨rfl, hI5, hb5, _⟩
        have HI5 := Lib.hid hI5
        have HB5 := Lib.hid (HB.out.trans hb5)
        have hlt5 : w.heap.size < w5.heap.size := Nat.lt_of_lt_of_le hlt hb5.size
        clear kb hI5 hb5 hwi hne hez hez2
        go_wp2
        go_roundw
        case rel => exact ⟨i + 2, acc ++ [y], by go_num, by omega, by rw [List.length_append]; simp only [List.length_cons, List.length_nil]; omega, HQ, HI5, HB5, hlt5⟩
        case measure => (simp [intOf]; try omega)
       ·have HQ := Lib.hid (valAt_odd HV.out (by omega) (by rw [hx]; exact h92) (by rw [hy]; exact hy1) (by rw [hy]; exact hy2))
        have hyn2 : ((y.toNat : Int) != 92) = true := hne (c := 92) rfl hy2
        clear HV HI
        go_wp2_with fail
        go_ret3
        exact ⟨_, _, false, rfl, .inl ⟨rfl, HQ.out, rfl, rfl⟩, HB.out⟩
    ·have hb92 : ((x.toNat : Int) == 92) = false := by
      rw [beq_eq_false_iff_ne]; intro e; exact h92 (UInt8.toNat_inj.1 (by show x.toNat = 92; omega))
     have HQ := Lib.hid (valAt_plain HV.out his (by rw [hx]; exact h34) (by rw [hx]; exact h92))
     rw [hx] at HQ
     have kb := wbyte_is w.heap.size w.heap.size (Lib.byteCells acc) (x.toNat : Int) wr HI.out (by rw [Lib.byteCells_length]; omega)
     rw [← byteCells_snoc] at kb
     clear HV HI
     go_wp2_with fail
     refine kb.mono ?_
     rintro e w5 ⟨rfl, hI5, hb5, _⟩
     have HI5 := Lib.hid hI5
     have HB5 := Lib.hid (HB.out.trans hb5)
     have hlt5 : w.heap.size < w5.heap.size := Nat.lt_of_lt_of_le hlt hb5.size
     clear kb hI5 hb5
     go_wp2
     go_roundw
     case rel => exact ⟨i + 1, acc ++ [x], by go_num, by omega, by rw [List.length_append]; simp only [List.length_cons, List.length_nil]; omega, HQ, HI5, HB5, hlt5⟩
     case measure => (simp [intOf]; try omega)
  ·obtain rfl : i = s.size := by omega
   have HQ := Lib.hid (valAt_end HV.out)
   clear HV HI
   go_wp2_with fail
   go_ret3
   exact ⟨_, _, false, rfl, .inl ⟨rfl, HQ.out, rfl, rfl⟩, HB.out⟩
end Go.Proofs.YtgbapkechngnmaaGreat
/- lychgateref06.Text: a contract. (Region 9 is printed by wip/genmatr.py.) -/
namespace Go.Proofs.YtgbapkechngnmaaGreat
open Go.RowKit
/-! plain -/
theorem textB_snoc : ∀ (l : List Mt) (m : Mt), textB (l ++ [m]) = textB l ++ ((if l = [] then [] else [44]) ++ oneB m)
 | [], m => by simp [textB]
 | [a], m => by simp [textB]
 | a :: b :: l, m => by
  have := textB_snoc (b :: l) m
  rw [List.cons_append, List.cons_append, textB_more, textB_more, ← List.cons_append, this]
  simp
theorem B_extract1 (s : ByteArray) (k : Nat) (h : k < s.size) : B (s.extract k (k + 1)) = [s[k]] := by
 show (s.extract k (k + 1)).data.toList = _
 rw [ByteArray.data_extract, Array.toList_extract, List.extract_eq_take_drop]
 show ((B s).drop k).take (k + 1 - k) = _
 rw [drop_at s k h]
 simp
theorem take_snocB (s : ByteArray) (k : Nat) (h : k < s.size) : escB ((B s).take (k + 1)) = escB ((B s).take k) ++ (if oddE s[k] then [92, s[k]] else [s[k]]) := by
 rw [List.take_succ_eq_append_getElem (by rw [len_B]; exact h), escB_snoc]
 rfl
theorem words_cell (w : World) (op : Int) (h0 : 0 ≤ op) (h3 : op ≤ 3) :
  (w.alloc (.cells #[.string ⟨#[61]⟩, .string ⟨#[33, 61]⟩, .string ⟨#[61, 126]⟩, .string ⟨#[33, 126]⟩] 9)).cell? ⟨w.heap.size, op.toNat, none⟩ = some (.string (wordS op)) := by
 rw [cell_of_row _ _ _ _ _ _ (heap_alloc_new _ _)]
 rcases (show op = 0 ∨ op = 1 ∨ op = 2 ∨ op = 3 by omega) with rfl | rfl | rfl | rfl <;> rfl
set_option maxHeartbeats 3200000 in
set_option maxRecDepth 100000 in
theorem rtext_any (ms : List Mt) (v : Value) (w : World) (hm : MtsAt w v ms) (hfit : MtsFit ms) (hl : ms.length ≤ 1000000) :
  Calls Tryz.prog 28 #[v] w fun e w' => ∃ s n, e = .returned (.tuple #[.string s, .int .i64 n]) ∧ Below w.heap.size w w' ∧ ((mtsOk ms = true ∧ n = 0 ∧ B s = textB ms) ∨ (mtsOk ms = false ∧ n = 1 ∧ s = ⟨#[]⟩)) := by
 obtain ⟨ma, mc, rfl, hc, hr⟩ := RdAt.shape hm
 have HR := Lib.hid hr
 clear hr hm
 go_enter Tryz.func28, Tryz.ntmps28
 go_wp2
 go_loopw [5, 4] (fun vi vs wr => ∃ (k : Nat) (s : ByteArray), vi = .int .i64 k ∧ vs = .string s ∧ k ≤ ms.length ∧ (k = 0 ∨ ms.length ≤ 12) ∧ s.size ≤ k * 421 ∧ Hid ((ms.take k).all fineM = true) ∧ Hid (B s = textB (ms.take k)) ∧ Hid (Below w.heap.size w wr)) (fun v _ _ => ms.length - (intOf v).toNat)
 case atStart => exact ⟨0, ⟨#[]⟩, rfl, rfl, Nat.zero_le _, .inl rfl, Nat.zero_le _, Lib.hid rfl, Lib.hid rfl, Lib.hid (Below.refl _ _)⟩
 case round =>
  obtain ⟨k, s, rfl, rfl, hk, hk12, hsz, HF, HS, HB⟩ := hrel
  by_cases hkl : k < ms.length
  ·have hkl' : (k : Int) < (ms.length : Int) := by omega
   have hk0 : (0 : Int) ≤ (k : Int) := by omega
   obtain ⟨g, o, rfl, hg, hcell⟩ := HR.out (by omega)
   obtain ⟨x, hx⟩ : ∃ x, ms[k] = x := ⟨_, rfl⟩
   have hmem : x ∈ ms := by rw [← hx]; exact List.getElem_mem hkl
   have hxf := hfit x hmem
   obtain ⟨q0, q1, q2⟩ := mtCells_at ms k hkl
   rw [hx] at q0 q1 q2
   have p0 := keep_cell (hcell _ _ q0) HB.out hg
   have p1 := keep_cell (hcell _ _ q1) HB.out hg
   have p2 := keep_cell (hcell _ _ q2) HB.out hg
   rw [← Nat.add_assoc] at p1 p2
   have hgr : g < wr.heap.size := Nat.lt_of_lt_of_le hg HB.out.size
   have kf := fine6_any x wr hxf
   obtain ⟨F, hF⟩ : ∃ F, fineM x = F := ⟨_, rfl⟩
   rw [hF] at kf
   have HFX := Lib.hid hF
   have HTK := Lib.hid (show ms.take (k + 1) = ms.take k ++ [x] by rw [List.take_succ_eq_append_getElem hkl, hx])
   have HBAD : Hid (F = false → mtsOk ms = false) := Lib.hid (fun h => by
    unfold mtsOk
    rw [Bool.and_eq_false_iff]
    right
    rw [List.all_eq_false]
    exact ⟨x, hmem, by rw [hF, h]; decide⟩)
   clear hx q0 q1 q2 hcell hF
   obtain ⟨nm, op, val⟩ := x
   dsimp only at *
   cases F with
   | false =>
    go_wp2_with fail
    refine kf.mono ?_
    rintro e w1 ⟨rfl, hb1⟩
    have HB1 := Lib.hid (HB.out.trans (hb1.mono HB.out.size))
    clear kf hb1
    go_wp2
    go_ret2
    exact ⟨_, _, rfl, HB1.out, .inr ⟨by first | exact HBAD.out rfl | exact HBAD.out trivial, rfl, rfl⟩⟩
   | true =>
    by_cases h12 : 12 < ms.length
    ·have hN : Hid (mtsOk ms = false) := Lib.hid (by unfold mtsOk; rw [decide_eq_false (by omega)]; rfl)
     have h12' : (12 : Int) < (ms.length : Int) := by omega
     go_wp2_with fail
     refine kf.mono ?_
     rintro e w1 ⟨rfl, hb1⟩
     have HB1 := Lib.hid (HB.out.trans (hb1.mono HB.out.size))
     clear kf hb1
     go_wp2
     go_ret2
     exact ⟨_, _, rfl, HB1.out, .inr ⟨hN.out, rfl, rfl⟩⟩
    ·have h12' : ¬ (12 : Int) < (ms.length : Int) := by omega
     have h12'' : decide ((12 : Int) < (ms.length : Int)) = false := decide_eq_false h12'
     obtain ⟨hn1, hop0, hop3, hval, _⟩ := fineM_true HFX.out
     have hnz := oneB_nm HFX.out
     have hwz := wordS_size op
     dsimp only at *
     go_wp2_with fail
     refine kf.mono ?_
     rintro e w1 ⟨rfl, hb1⟩
     have HB1 := Lib.hid (HB.out.trans (hb1.mono HB.out.size))
     have r0 := keep_cell p0 hb1 hgr
     have r1 := keep_cell p1 hb1 hgr
     have r2 := keep_cell p2 hb1 hgr
     have hg1 : g < w1.heap.size := Nat.lt_of_lt_of_le hgr hb1.size
     clear kf hb1 p0 p1 p2 hgr HBAD hn1 hxf hmem
     go_upto_if 25 with fail
     go_cut [4] (fun s4 wx => ∃ s1 : ByteArray, s4 = .string s1 ∧ s1.size ≤ k * 421 + 1 ∧ Hid (B s1 = textB (ms.take k) ++ (if ms.take k = [] then [] else [44])) ∧ wx = w1)
     case first =>
      by_cases hk0' : k = 0
      ·subst hk0'
       go_wp2
       go_meet
       case rel => exact ⟨s, rfl, by omega, Lib.hid (by rw [HS.out]; simp), rfl⟩
      ·have hkp : (0 : Int) < (k : Int) := by omega
       have z1 : ¬ 9223372036854775807 < s.size + 1 := by omega
       go_wp2
       go_meet
       case rel => exact ⟨s ++ ⟨#[44]⟩, rfl, by rw [ByteArray.size_append]; show s.size + 1 ≤ _; omega, Lib.hid (by
        rw [B_append, HS.out, if_neg (by
         intro h
         have := congrArg List.length h
         rw [List.length_take, Nat.min_eq_left (by omega)] at this
         exact hk0' this)]), rfl⟩
     case rest =>
      obtain ⟨s1, rfl, hs1, HS1, hwc⟩ := hcut
      subst hwc
      clear HS HB
      go_upto_region 9 with fail
      have hop4 : op < 4 := by omega
      have z1 : ¬ 9223372036854775807 < nm.size + (wordS op).size := by omega
      have z2 : ¬ 9223372036854775807 < nm.size + (wordS op).size + 1 := by omega
      have z3 : ¬ 9223372036854775807 < s1.size + (nm.size + (wordS op).size + 1) := by omega
      have SK : Hid (∀ W, Below wc.heap.size wc W → W.cell? ⟨g, o + k * 3, none⟩ = some (.string nm) ∧ W.cell? ⟨g, o + k * 3 + 1, none⟩ = some (.int .i64 op) ∧ W.cell? ⟨g, o + k * 3 + 2, none⟩ = some (.string val)) := Lib.hid (fun W h => ⟨keep_cell r0 h hg1, keep_cell r1 h hg1, keep_cell r2 h hg1⟩)
      refine wp_region_held_drew (S := (fun W => W.cell? ⟨g, o + k * 3, none⟩ = some (.string nm) ∧ W.cell? ⟨g, o + k * 3 + 1, none⟩ = some (.int .i64 op) ∧ W.cell? ⟨g, o + k * 3 + 2, none⟩ = some (.string val))) (by kernel_rfl) (SK.out _ ((Below.refl _ _).drew)) (fun hHeld => ?_)
      have hbd : Below wc.heap.size wc wc.drew := (Below.refl _ _).drew
      have HBD := Lib.hid hbd
      clear hbd
      generalize wc.drew = wd at *
      refine plIn [0, 1, 2, 3, 4, 5, 7, 8, 9, 10, 11] ?_
      iterate 11
       refine hP (v := ?_) rfl rfl hHeld ?_ ?_
       rotate_left
       ·rintro wh ⟨z0, z1', z2'⟩
        go_simp
        (try with_reducible rfl)
       simp only [Act.put, List.setIfInBounds_toArray, List.set_cons_zero, List.set_cons_succ]
      refine plOut ?_
      refine held_step (i := 6) rfl (by kernel_rfl) (fun K hK => ?_)
      go_simp; have HBX := Lib.hid (HBD.out.trans ((alloc_below wd (.cells #[.string ⟨#[61]⟩, .string ⟨#[33, 61]⟩, .string ⟨#[61, 126]⟩, .string ⟨#[33, 126]⟩] 9)).mono HBD.out.size)); have hwcell := words_cell wd op hop0 hop3
      refine hK.out _ _ (SK.out _ HBX.out) (fun hHeld => ?_)
      clear hK K
      (try simp only [Act.put, List.setIfInBounds_toArray])
      refine held_step (i := 12) rfl (by kernel_rfl) (fun K hK => ?_)
      go_simp
      refine hK.out _ _ (SK.out _ HBX.out) (fun hHeld => ?_)
      clear hK K
      (try simp only [Act.put, List.setIfInBounds_toArray])
      refine held_step (i := 13) rfl (by kernel_rfl) (fun K hK => ?_)
      go_simp
      refine hK.out _ _ (SK.out _ HBX.out) (fun hHeld => ?_)
      clear hK K
      (try simp only [Act.put, List.setIfInBounds_toArray])
      refine plIn [14, 15, 16, 17] ?_
      iterate 4
       refine hP (v := ?_) rfl rfl hHeld ?_ ?_
       rotate_left
       ·rintro wh ⟨z0, z1', z2'⟩
        go_simp
        (try with_reducible rfl)
       simp only [Act.put, List.setIfInBounds_toArray, List.set_cons_zero, List.set_cons_succ]
      refine plOut ?_
      refine wpAnyH_done (by kernel_rfl) ?_ _
      obtain ⟨r0', r1', r2'⟩ := SK.out _ HBX.out
      have HW5 := Lib.hid (HB1.out.trans (HBX.out.mono HB1.out.size))
      have hs2 : (s1 ++ (nm ++ wordS op ++ ⟨#[34]⟩)).size ≤ k * 421 + 16 := by
       simp only [ByteArray.size_append]
       show s1.size + (nm.size + (wordS op).size + 1) ≤ _
       omega
      have HS2 : Hid (B (s1 ++ (nm ++ wordS op ++ ⟨#[34]⟩)) = textB (ms.take k) ++ ((if ms.take k = [] then [] else [44]) ++ (B nm ++ (wordB op ++ [34])))) := Lib.hid (by
       simp only [B_append, HS1.out]
       simp [wordS, B])
      generalize s1 ++ (nm ++ wordS op ++ ⟨#[34]⟩) = s2 at *
      clear SK hwcell HBX HBD z1 z2 z3 r0 r1 r2 HS1
      change Exit.then _ _ _ _ (wd.alloc _)
      generalize wd.alloc (.cells #[.string ⟨#[61]⟩, .string ⟨#[33, 61]⟩, .string ⟨#[61, 126]⟩, .string ⟨#[33, 126]⟩] 9) = w5 at *
      go_wp2_with fail
      go_loopw [6, 4] (fun vj vt wy => ∃ (j : Nat) (t : ByteArray), vj = .int .i64 j ∧ vt = .string t ∧ j ≤ val.size ∧ t.size ≤ k * 421 + 16 + 2 * j ∧ Hid (B t = B s2 ++ escB ((B val).take j)) ∧ wy = w5) (fun v _ _ => val.size - (intOf v).toNat)
      case atStart => exact ⟨0, s2, rfl, rfl, Nat.zero_le _, by omega, Lib.hid (by simp [escB]), rfl⟩
      case round =>
       obtain ⟨j, t, rfl, rfl, hj, htz, HTS, rfl⟩ := hrel
       by_cases hjl : j < val.size
       ·have hj0 : (0 : Int) ≤ (j : Int) := by omega
        have hj1 : (j : Int) < (val.size : Int) := by omega
        have hj2 : (j : Int) + 1 ≤ (val.size : Int) := by omega
        have hj3 : (0 : Int) ≤ (j : Int) + 1 := by omega
        have hj4 : (j : Int) ≤ (j : Int) + 1 := by omega
        have hj5 : ((j : Int) + 1).toNat = j + 1 := by omega
        have HSN := Lib.hid (take_snocB val j hjl)
        have HE1 := Lib.hid (B_extract1 val j hjl)
        obtain ⟨y, hy⟩ : ∃ y, val[j] = y := ⟨_, rfl⟩
        rw [hy] at HSN HE1
        have hez : (val.extract j (j + 1)).size = 1 := by rw [← len_B, HE1.out]; rfl
        have HEZ := Lib.hid hez
        cases ho : oddE y with
        | true =>
         have HSX : Hid (escB ((B val).take (j + 1)) = escB ((B val).take j) ++ [92, y]) := Lib.hid (by rw [HSN.out, ho]; rfl)
         have z1 : ¬ 9223372036854775807 < t.size + 1 := by omega
         have z2 : ¬ 9223372036854775807 < t.size + 1 + (val.extract j (j + 1)).size := by rw [hez]; omega
         rcases oddE_iff.1 ho with h34 | h92
         ·have b34 : ((y.toNat : Int) == 34) = true := by rw [h34]; rfl
          clear ho h34 hez HSN
          go_wp2
          go_roundw
          case rel => exact ⟨j + 1, t ++ ⟨#[92]⟩ ++ val.extract j (j + 1), by go_num, rfl, by omega, by simp only [ByteArray.size_append]; rw [HEZ.out]; show t.size + 1 + 1 ≤ _; omega, Lib.hid (by simp only [B_append]; rw [HE1.out, HTS.out, HSX.out]; simp [B]), trivial⟩
          case measure => (simp [intOf]; try omega)
         ·have b34 : ((y.toNat : Int) == 34) = false := by rw [h92]; rfl
          have b92 : ((y.toNat : Int) == 92) = true := by rw [h92]; rfl
          clear ho h92 hez HSN
          go_wp2
          go_roundw
          case rel => exact ⟨j + 1, t ++ ⟨#[92]⟩ ++ val.extract j (j + 1), by go_num, rfl, by omega, by simp only [ByteArray.size_append]; rw [HEZ.out]; show t.size + 1 + 1 ≤ _; omega, Lib.hid (by simp only [B_append]; rw [HE1.out, HTS.out, HSX.out]; simp [B]), trivial⟩
          case measure => (simp [intOf]; try omega)
        | false =>
         have HSX : Hid (escB ((B val).take (j + 1)) = escB ((B val).take j) ++ [y]) := Lib.hid (by rw [HSN.out, ho]; rfl)
         have z2 : ¬ 9223372036854775807 < t.size + (val.extract j (j + 1)).size := by rw [hez]; omega
         have hno1 : y ≠ 34 := by
          intro e
          rw [oddE_iff.2 (.inl e)] at ho
          exact absurd ho (by decide)
         have hno2 : y ≠ 92 := by
          intro e
          rw [oddE_iff.2 (.inr e)] at ho
          exact absurd ho (by decide)
         have b34 : ((y.toNat : Int) == 34) = false := by rw [beq_eq_false_iff_ne]; intro e; exact hno1 (UInt8.toNat_inj.1 (by show y.toNat = 34; omega))
         have b92 : ((y.toNat : Int) == 92) = false := by rw [beq_eq_false_iff_ne]; intro e; exact hno2 (UInt8.toNat_inj.1 (by show y.toNat = 92; omega))
         clear ho hno1 hno2 hez HSN
         go_wp2
         go_roundw
         case rel => exact ⟨j + 1, t ++ val.extract j (j + 1), by go_num, rfl, by omega, by simp only [ByteArray.size_append]; rw [HEZ.out]; omega, Lib.hid (by simp only [B_append]; rw [HE1.out, HTS.out, HSX.out]; simp), trivial⟩
         case measure => (simp [intOf]; try omega)
       ·have hjl' : ¬ (j : Int) < (val.size : Int) := by omega
        obtain rfl : j = val.size := by omega
        have HTF : Hid (B t = B s2 ++ escB (B val)) := Lib.hid (by rw [HTS.out, take_all_B])
        have z1 : ¬ 9223372036854775807 < t.size + 1 := by omega
        clear HTS
        go_wp2
        go_roundw
        case rel => exact ⟨k + 1, t ++ ⟨#[34]⟩, by go_num, rfl, by omega, .inr (by omega), by rw [ByteArray.size_append]; show t.size + 1 ≤ _; omega, Lib.hid (by rw [HTK.out, List.all_append, HF.out]; simp [HFX.out]), Lib.hid (by
         rw [HTK.out, textB_snoc, B_append, HTF.out, HS2.out]
         simp [oneB, B]), HW5⟩
        case measure => (simp [intOf]; try omega)
  ·obtain rfl : k = ms.length := by omega
   have hkl' : ¬ (ms.length : Int) < (ms.length : Int) := by omega
   have HOK : Hid (mtsOk ms = true) := Lib.hid (by
    have := HF.out
    rw [List.take_length] at this
    unfold mtsOk
    rw [this, decide_eq_true (by omega)]
    rfl)
   have HSF : Hid (B s = textB ms) := Lib.hid (by rw [HS.out, List.take_length])
   clear HF HS
   go_wp2
   go_ret2
   exact ⟨s, 0, rfl, HB.out, .inl ⟨HOK.out, rfl, HSF.out⟩⟩
end Go.Proofs.YtgbapkechngnmaaGreat
/- strings.IndexAny at the chars = and !, any text: a contract. -/
namespace Go.Proofs.YtgbapkechngnmaaGreat
open Go.RowKit
def idxS (l : List UInt8) : Int := if l.any signB then ((l.takeWhile fun c => !signB c).length : Int) else -1
theorem idxS_cons (c : UInt8) (l : List UInt8) : idxS (c :: l) = if signB c then 0 else if idxS l = -1 then -1 else idxS l + 1 := by
 unfold idxS
 cases h : signB c with
 | true => simp [h]
 | false =>
  simp only [List.any_cons, h, Bool.false_or, List.takeWhile_cons, Bool.not_false, if_true, List.length_cons, Bool.false_eq_true, if_false]
  cases h2 : l.any signB with
  | true =>
   rw [if_pos rfl, if_pos rfl, if_neg (by omega)]
   omega
  | false => simp
theorem idxS_skip : ∀ (a l : List UInt8), a.any signB = false → idxS (a ++ l) = if idxS l = -1 then -1 else idxS l + a.length
 | [], l, _ => by
  rw [List.nil_append]
  split
  ·assumption
  ·simp
 | c :: a, l, h => by
  rw [List.any_cons, Bool.or_eq_false_iff] at h
  rw [List.cons_append, idxS_cons, h.1, idxS_skip a l h.2]
  simp only [Bool.false_eq_true, if_false, List.length_cons]
  have : -1 ≤ idxS l := by unfold idxS; split <;> omega
  split
  ·simp
  ·rw [if_neg (by omega)]; omega
theorem indexAny_sign : ∀ l : List UInt8, Lib.indexAny l [61, 33] = idxS l
 | [] => rfl
 | c :: l => by
  rw [idxS_cons, ← indexAny_sign l, Lib.indexAny]
  have e : ([61, 33] : List UInt8).contains c = signB c := by
   unfold signB
   simp only [List.contains, List.elem]
   cases c == 61 <;> cases c == 33 <;> rfl
  rw [e]
  by_cases h : signB c = true
  ·rw [if_pos h, if_pos h]
  ·rw [if_neg h, if_neg h]
   by_cases h2 : Lib.indexAny l [61, 33] = -1
   ·rw [h2]; rfl
   ·rw [if_neg h2, if_neg (by simpa using h2)]
def signR (x : Nat) : Bool := x == 61 || x == 33
theorem signR_byte (c : UInt8) : signR c.toNat = signB c := by
 unfold signR signB
 rw [Bool.eq_iff_iff]
 simp only [Bool.or_eq_true, beq_iff_eq]
 constructor
 ·rintro (h | h)
  ·exact .inl (UInt8.toNat_inj.1 h)
  ·exact .inr (UInt8.toNat_inj.1 h)
 ·rintro (rfl | rfl)
  ·exact .inl rfl
  ·exact .inr rfl
theorem idxFunc_sign (s : ByteArray) : ∀ (f pos : Nat), s.size ≤ pos + f → Lib.idxFuncFrom signR true s f pos = if idxS ((B s).drop pos) = -1 then -1 else idxS ((B s).drop pos) + pos
 | 0, pos, h => by
  rw [List.drop_of_length_le (by rw [len_B]; omega)]
  rfl
 | f + 1, pos, h => by
  unfold Lib.idxFuncFrom
  by_cases hps : pos < s.size
  ·rw [if_pos hps]
   have ed : (B s).drop pos = s[pos] :: (B s).drop (pos + 1) := by
    rw [List.drop_eq_getElem_cons (by rw [len_B]; exact hps)]; rfl
   by_cases ha : (s[pos]'hps).toNat < 128
   ·rw [decode_ascii s pos hps ha, ed, idxS_cons]
    show (if signR s[pos].toNat = true then (pos : Int) else _) = _
    rw [signR_byte]
    by_cases hpp : signB s[pos] = true
    ·rw [if_pos hpp, if_pos hpp, if_neg (by decide)]; omega
    ·rw [if_neg hpp, if_neg hpp, idxFunc_sign s f (pos + 1) (by omega)]
     have : -1 ≤ idxS ((B s).drop (pos + 1)) := by unfold idxS; split <;> omega
     by_cases h1 : idxS ((B s).drop (pos + 1)) = -1
     ·rw [if_pos h1, if_pos h1, if_pos rfl]
     ·rw [if_neg h1, if_neg h1, if_neg (by omega)]; omega
   ·obtain ⟨d1, d2, d3, d4⟩ := decode_high s pos hps (by omega)
    rw [if_neg (by unfold signR; simp; omega), idxFunc_sign s f _ (by omega)]
    generalize (Utf8.decode s pos).2 = w at *
    have ed2 : (B s).drop pos = ((B s).drop pos).take w ++ (B s).drop (pos + w) := by
     rw [← List.drop_drop]; exact (List.take_append_drop _ _).symm
    have hno : (((B s).drop pos).take w).any signB = false := by
     rw [List.any_eq_false]
     intro x hx
     obtain ⟨i, hi, rfl⟩ := List.getElem_of_mem hx
     simp only [List.getElem_take, List.getElem_drop]
     have hi' : i < w := by rw [List.length_take] at hi; omega
     have h3 := d4 (pos + i) (by omega) (by omega) (by omega)
     rw [← signR_byte]
     unfold signR
     simp only [Bool.or_eq_true, beq_iff_eq, not_or]
     have h4 : (B s)[pos + i]'(by rw [len_B]; omega) = s[pos + i]'(by omega) := rfl
     rw [h4]
     omega
    have hlw : (((B s).drop pos).take w).length = w := by rw [List.length_take, List.length_drop, len_B]; omega
    rw [ed2, idxS_skip _ _ hno, hlw]
    have : -1 ≤ idxS ((B s).drop (pos + w)) := by unfold idxS; split <;> omega
    by_cases h1 : idxS ((B s).drop (pos + w)) = -1
    ·rw [if_pos h1, if_pos h1, if_pos rfl]
    ·rw [if_neg h1, if_neg h1, if_neg (by omega)]; omega
  ·rw [if_neg hps, List.drop_of_length_le (by rw [len_B]; omega)]
   rfl
set_option maxHeartbeats 1600000 in
set_option maxRecDepth 100000 in
theorem irune_hi (x : Nat) (h : 128 ≤ x) (w : World) : Calls Tryz.prog 97 #[.string ⟨#[61, 33]⟩, .int .i32 x] w fun e w' => e = .returned (.int .i64 (-1)) ∧ Below w.heap.size w w' := by
 have h0 : (0 : Int) ≤ (x : Int) := by omega
 have h1 : ¬ ((x : Int) < 128) := by omega
 have h1' : decide ((x : Int) < 128) = false := decide_eq_false h1
 by_cases hx : x = 65533
 ·subst hx
  have n0 := fun ty => run_next_ascii (P := Tryz.prog) w (⟨#[61, 33]⟩ : ByteArray) 0 ty (by decide) (by decide)
  have n1 := fun ty => run_next_ascii (P := Tryz.prog) w (⟨#[61, 33]⟩ : ByteArray) 1 ty (by decide) (by decide)
  have n2 := run_next_end (P := Tryz.prog) w (⟨#[61, 33]⟩ : ByteArray) 2
  have hB : ∀ i, Below w.heap.size w (w.iter ⟨#[61, 33]⟩ i) := fun i => (Below.refl _ w).alloc (Nat.le_refl _) _
  go_enter Tryz.func97, Tryz.ntmps97
  go_wp2
  refine wp_loop_rounds 3 ?_
  rw [rounds_succ]
  go_wp2
  rw [rounds_succ]
  go_wp2
  rw [rounds_succ]
  go_wp2
  go_ret
  exact ⟨rfl, hB _⟩
 ·have hx' : ((x : Int) == 65533) = false := by rw [beq_eq_false_iff_ne]; omega
  cases hv : Lib.validRune x with
  | false =>
   have kv := Tryz.utf8_ValidRune x w
   rw [hv] at kv
   go_enter Tryz.func97, Tryz.ntmps97
   go_wp2_with fail
   refine kv.mono ?_
   rintro e w1 ⟨rfl, rfl⟩
   clear kv
   go_wp2
   go_ret
   exact ⟨rfl, Below.refl _ _⟩
  | true =>
   have kv := Tryz.utf8_ValidRune x w
   rw [hv] at kv
   have hval : Utf8.valid x = true := by
    unfold Lib.validRune at hv
    unfold Utf8.valid
    simp at hv ⊢
    omega
   obtain ⟨e1, e2, e3⟩ := encode_facts x hval (by omega)
   obtain ⟨E, hE⟩ : ∃ E, Utf8.encode (x : Int) = E := ⟨_, rfl⟩
   rw [hE] at e1 e2 e3
   have hcv : (convert 21 9 (.int .i32 x)).run Tryz.prog w = .ok (.string E) w := by
    rw [← hE]; exact run_convert_int_string w _ _ _ _ (by rw [Tryz.underlying21]; rfl) Tryz.underlying9
   have h3 := e3 (by omega)
   clear hv hval hE e3
   by_cases h2 : E.size = 2
   ·obtain ⟨a, b, rfl⟩ : ∃ a b, E = ⟨#[a, b]⟩ := by
     obtain ⟨⟨l⟩⟩ := E
     match l, h2 with
     | [a, b], _ => exact ⟨a, b, rfl⟩
    have hb : 128 ≤ b.toNat := h3
    have e33 : ((⟨#[61, 33]⟩ : ByteArray)[1]'(by decide)).toNat = 33 := rfl
    have eb : ((⟨#[a, b]⟩ : ByteArray)[1]'(by show 1 < 2; decide)).toNat = b.toNat := rfl
    have hne : ((33 : Int) != (b.toNat : Int)) = true := by rw [bne_iff_ne]; omega
    have hi := fun s' W => Tryz.strings_IndexByte s' (b.toNat : Int) W
    clear h2 h3 e1 e2
    go_enter Tryz.func97, Tryz.ntmps97
    go_wp2_with fail
    refine kv.mono ?_
    rintro e w1 ⟨rfl, rfl⟩
    clear kv
    go_wp2
    go_step3
    go_wp2
    refine wp_loop_rounds 1 ?_
    rw [rounds_succ]
    go_wp2
    go_step3
    go_wp2
    go_quiet (fail)
    go_wp2_with fail
    go_region_with (go_at_call 122; refine (hi _ _).mono ?_; rintro e w2 ⟨rfl, rfl⟩)
    all_goals
     go_wp2_with fail
     rw [Exit.noGoto_ret]
     try simp only [Exit.inBlock, Exit.then]
     try rw [Exit.noGoto_ret]
     go_ret
     exact ⟨rfl, bl_drewN (Below.refl _ _) _⟩
   ·have hs : ¬ ((E.size : Int) - 1 < 2) := by omega
    have hs' : decide ((E.size : Int) - 1 < 2) = false := decide_eq_false hs
    go_enter Tryz.func97, Tryz.ntmps97
    go_wp2_with fail
    refine kv.mono ?_
    rintro e w1 ⟨rfl, rfl⟩
    clear kv
    go_wp2
    go_step3
    go_wp2
    refine wp_loop_rounds 1 ?_
    rw [rounds_succ]
    go_wp2
    rw [Exit.noGoto_ret]
    go_ret
    exact ⟨rfl, Below.refl _ _⟩
theorem irune_any (x : Nat) (w : World) : Calls Tryz.prog 97 #[.string ⟨#[61, 33]⟩, .int .i32 x] w fun e w' => ∃ i : Int, e = .returned (.int .i64 i) ∧ decide (0 ≤ i) = signR x ∧ Below w.heap.size w w' := by
 by_cases h : x < 128
 ·refine (Tryz.strings_IndexRune_ascii ⟨#[61, 33]⟩ x w (by omega) (by omega)).mono ?_
  rintro e w' ⟨rfl, rfl⟩
  refine ⟨_, rfl, ?_, Below.refl _ _⟩
  unfold signR
  by_cases h1 : x = 61
  ·subst h1; rfl
  ·by_cases h2 : x = 33
   ·subst h2; rfl
   ·have e1 : ((x : Int).toNat.toUInt8 == (61 : UInt8)) = false := by
     rw [beq_eq_false_iff_ne]
     intro e
     have := congrArg UInt8.toNat e
     simp at this
     omega
    have e2 : ((x : Int).toNat.toUInt8 == (33 : UInt8)) = false := by
     rw [beq_eq_false_iff_ne]
     intro e
     have := congrArg UInt8.toNat e
     simp at this
     omega
    rw [beq_eq_false_iff_ne.2 h1, beq_eq_false_iff_ne.2 h2]
    have hn : ¬ (x : Int).toNat.toUInt8 = 61 := by simpa using e1
    have hm : ¬ (x : Int).toNat.toUInt8 = 33 := by simpa using e2
    show _ = false
    rw [decide_eq_false_iff_not]
    have hcon := Lib.contains_iff_indexByte [61, 33] (x : Int).toNat.toUInt8
    have hc : ([61, 33] : List UInt8).contains (x : Int).toNat.toUInt8 = false := by
     simp only [List.contains, List.elem, e1, e2]
    rw [hc] at hcon
    exact of_decide_eq_false hcon.symm
 ·refine (irune_hi x (by omega) w).mono ?_
  rintro e w' ⟨rfl, hb⟩
  exact ⟨_, rfl, by unfold signR; simp; omega, hb⟩
set_option maxHeartbeats 1600000 in
set_option maxRecDepth 100000 in
theorem iany_short (s : ByteArray) (w : World) (h8 : s.size ≤ 8) :
  Calls Tryz.prog 77 #[.string s, .string ⟨#[61, 33]⟩] w fun e w' => e = .returned (.int .i64 (Lib.idxFunc signR true s)) ∧ Below w.heap.size w w' := by
 have h8z : decide ((8 : Int) < (s.size : Int)) = false := decide_eq_false (by omega)
 have hu := Tryz.strings_shouldUseASCIISet s.size w
 rw [h8z] at hu
 go_enter Tryz.func77, Tryz.ntmps77
 go_wp2_with fail
 refine hu.mono ?_
 rintro e w1 ⟨rfl, rfl⟩
 clear hu
 go_wp2
 go_loopg [9, 10] s.size (fun gf _ _ wx => ∃ pos : Nat, wx.heap[w1.heap.size]? = some (.stringIter s pos) ∧ Below w1.heap.size w1 wx ∧ Hid (Lib.idxFuncFrom signR true s gf pos = Lib.idxFunc signR true s) ∧ s.size ≤ pos + gf)
 case atStart => exact ⟨0, World.iter_heap w1 s 0, (Below.refl _ w1).alloc (Nat.le_refl _) _, Lib.hid rfl, by omega⟩
 case round =>
  obtain ⟨pos, hit, hbw, hleft, hfu⟩ := hrel
  by_cases hps : pos < s.size
  ·obtain ⟨g', rfl⟩ : ∃ g', gk = g' + 1 := ⟨gk - 1, by omega⟩
   have hnx : ∀ ty, (Instr.next (.pointer (some ⟨w1.heap.size, 0, none⟩)) true ty).run Tryz.prog wr = _ := fun ty => Lib.run_next_any_at wr w1.heap.size s pos ty hit hps
   have hwd := Lib.width_pos s pos
   obtain ⟨R, hR⟩ : ∃ R, (Utf8.decode s pos).1 = R := ⟨_, rfl⟩
   obtain ⟨K, hK⟩ : ∃ K, (Utf8.decode s pos).2 = K := ⟨_, rfl⟩
   have hl := hleft.out
   simp only [Lib.idxFuncFrom, hps, if_true, hR, hK] at hl
   rw [hR, hK] at hnx
   rw [hK] at hwd
   have hit2 := Lib.iterAt_heap wr w1.heap.size s pos (pos + K) hit
   have hbw2 := Lib.below_iterAt hbw (k := w1.heap.size) (Nat.le_refl _) s (pos + K)
   obtain ⟨W, hWd⟩ : ∃ W, wr.iterAt w1.heap.size s (pos + K) = W := ⟨_, rfl⟩
   rw [hWd] at hnx hit2 hbw2
   have cS := irune_any R W
   have hltW : w1.heap.size < W.heap.size := (Array.getElem?_eq_some_iff.1 hit2).1
   have HL := Lib.hid hl
   have HB2 := Lib.hid hbw2
   have HI2 := Lib.hid hit2
   clear hl hbw hit hleft hbw2 hit2 hR hK
   go_wp2_with fail
   refine cS.mono ?_
   rintro e w3 ⟨i, rfl, hi, hb3⟩
   have HB3 := Lib.hid (HB2.out.trans (hb3.mono HB2.out.size))
   have HI3 := Lib.hid ((hb3.block _ hltW).trans HI2.out)
   clear cS hb3
   by_cases hge : (0 : Int) ≤ i
   ·have hs : signR R = true := by rw [← hi]; exact decide_eq_true hge
    have hl := HL.out
    rw [hs] at hl
    simp only [if_true] at hl
    have HLL := Lib.hid hl
    clear hl hi HL
    go_wp2
    go_ret
    exact ⟨by rw [← HLL.out]; rfl, HB3.out⟩
   ·have hs : signR R = false := by rw [← hi]; exact decide_eq_false hge
    have hl := HL.out
    rw [hs] at hl
    simp only [Bool.false_eq_true, if_false] at hl
    have HLL := Lib.hid hl
    clear hl hi HL
    go_wp2
    go_roundg g'
    case measure => omega
    case rel => exact ⟨pos + K, HI3.out, HB3.out, HLL, by omega⟩
  ·have hnx : ∀ ty, (Instr.next (.pointer (some ⟨w1.heap.size, 0, none⟩)) true ty).run Tryz.prog wr = _ := fun ty => Lib.run_next_end_at wr w1.heap.size s pos ty hit hps
   have hl := hleft.out
   rw [Lib.idxFuncFrom_end signR true s gk pos hps] at hl
   have HLL := Lib.hid hl
   clear hl hleft
   go_wp2
   go_ret
   exact ⟨by rw [← HLL.out]; rfl, hbw⟩
theorem info_set : (Tryz.prog.info? 148).map (fun i => (i.zero, i.size)) = some (some (.agg (Array.replicate 256 (.bool false))), 256) := by kernel_rfl
theorem zero_set (w : World) : (zeroValue 148).run Tryz.prog w = .ok (.agg (Array.replicate 256 (.bool false))) w := by
 have h := info_set
 cases hq : Tryz.prog.info? 148 with
 | none => rw [hq] at h; cases h
 | some i =>
  rw [hq] at h
  simp only [Option.map_some, Option.some.injEq, Prod.mk.injEq] at h
  simp [zeroValue, typeInfo, hq, h.1]
theorem iany_any (s : ByteArray) (w : World) (hs : s.size ≤ 1000000) :
  Calls Tryz.prog 77 #[.string s, .string ⟨#[61, 33]⟩] w fun e w' => e = .returned (.int .i64 (idxS (B s))) ∧ Below w.heap.size w w' := by
 by_cases h8 : s.size ≤ 8
 ·refine (iany_short s w h8).mono ?_
  rintro e w' ⟨rfl, hb⟩
  refine ⟨?_, hb⟩
  rw [Lib.idxFunc, idxFunc_sign s s.size 0 (by omega), List.drop_zero]
  by_cases h : idxS (B s) = -1
  ·rw [if_pos h, h]
  ·rw [if_neg h]; simp
 ·refine (Tryz.strings_IndexAny_long zero_set s ⟨#[61, 33]⟩ w (by decide) (by omega) (by omega) (by decide) (fun j b hj => ?_)).mono ?_
  ·match j, hj with
   | 0, hj => simp at hj; subst hj; decide
   | 1, hj => simp at hj; subst hj; decide
   | j + 2, hj => simp at hj
  ·rintro e w' ⟨rfl, rfl⟩
   refine ⟨?_, ((Below.refl _ w).alloc (Nat.le_refl _) _).alloc (by rw [World.size_alloc]; omega) _⟩
   rw [← indexAny_sign]
end Go.Proofs.YtgbapkechngnmaaGreat
/- match.one: a contract. -/
namespace Go.Proofs.YtgbapkechngnmaaGreat
open Go.RowKit
/-! plain -/
theorem idxS_none {l : List UInt8} (h : l.any signB = false) : l.dropWhile (fun c => !signB c) = [] := by
  induction l with
  | nil => rfl
  | cons c l ih =>
    rw [List.any_cons, Bool.or_eq_false_iff] at h
    rw [List.dropWhile_cons, h.1]
    simp [ih h.2]
theorem oneR_nosign {l : List UInt8} (h : l.any signB = false) : oneR l = none := by
  unfold oneR
  rw [idxS_none h]
  rfl
def prefO (t : List UInt8) (o : Int) : Prop := ∃ r, t = wordB o ++ 34 :: r
theorem opB_none {t : List UInt8} (h : ∀ o : Int, 0 ≤ o → o ≤ 3 → ¬ prefO t o) : opB t = none := by
  cases ho : opB t with
  | none => rfl
  | some x =>
    obtain ⟨o, r⟩ := x
    obtain ⟨h1, h2, h3⟩ := word_op ho
    exact absurd ⟨r, h1⟩ (h o h2 h3)
theorem take_len_while (l : List UInt8) (p : UInt8 → Bool) : l.take (l.takeWhile p).length = l.takeWhile p := by
  conv => lhs; rw [← List.takeWhile_append_dropWhile (p := p) (l := l)]
  rw [List.takeWhile_append_dropWhile]
  induction l with
  | nil => rfl
  | cons c l ih =>
    rw [List.takeWhile_cons]
    split
    · simp [ih]
    · rfl
theorem drop_len_while (l : List UInt8) (p : UInt8 → Bool) : l.drop (l.takeWhile p).length = l.dropWhile p := by
  induction l with
  | nil => rfl
  | cons c l ih =>
    rw [List.takeWhile_cons, List.dropWhile_cons]
    split
    · simp [ih]
    · rfl
/-! what lies while a matcher is read -/
structure OneSt (w W : World) (p q : Nat) (nm : ByteArray) (op : Int) (vl : ByteArray) : Prop where
  p0 : W.cell? ⟨p, 0, none⟩ = some (.string ⟨#[]⟩)
  p1 : W.cell? ⟨p, 1, none⟩ = some (.int .i64 0)
  p2 : W.cell? ⟨p, 2, none⟩ = some (.string ⟨#[]⟩)
  q0 : W.cell? ⟨q, 0, none⟩ = some (.string nm)
  q1 : W.cell? ⟨q, 1, none⟩ = some (.int .i64 op)
  q2 : W.cell? ⟨q, 2, none⟩ = some (.string vl)
  tp : W.there p 0 3
  tq : W.there q 0 3
  bl : Below w.heap.size w W
  hp : w.heap.size ≤ p
  hq : w.heap.size ≤ q
  ne : q ≠ p
theorem OneSt.later {w W W' : World} {p q : Nat} {nm vl : ByteArray} {op : Int} (h : OneSt w W p q nm op vl) (hb : Below W.heap.size W W') : OneSt w W' p q nm op vl :=
  ⟨keep_cell h.p0 hb (cell_blt h.p0), keep_cell h.p1 hb (cell_blt h.p0), keep_cell h.p2 hb (cell_blt h.p0), keep_cell h.q0 hb (cell_blt h.q0), keep_cell h.q1 hb (cell_blt h.q0), keep_cell h.q2 hb (cell_blt h.q0),
   there_later h.tp hb (cell_blt h.p0), there_later h.tq hb (cell_blt h.q0), h.bl.trans (hb.mono h.bl.size), h.hp, h.hq, h.ne⟩
theorem OneSt.setOp {w W : World} {p q : Nat} {nm vl : ByteArray} {op : Int} (h : OneSt w W p q nm op vl) (o : Int) : OneSt w (W.setCell ⟨q, 1, none⟩ (.int .i64 o)) p q nm o vl :=
  ⟨by rw [cell_farC h.ne]; exact h.p0, by rw [cell_farC h.ne]; exact h.p1, by rw [cell_farC h.ne]; exact h.p2,
   by rw [World.cell?_setCell_other _ _ _ _ (by simp)]; exact h.q0, World.cell?_setCell_same _ _ _ h.q1, by rw [World.cell?_setCell_other _ _ _ _ (by simp)]; exact h.q2,
   World.there_setCells h.tp q 1 [.int .i64 o], World.there_setCells h.tq q 1 [.int .i64 o], h.bl.trans ((Below.refl _ _).setCell (p := ⟨q, 1, none⟩) h.hq _), h.hp, h.hq, h.ne⟩
theorem OneSt.setVal {w W : World} {p q : Nat} {nm vl : ByteArray} {op : Int} (h : OneSt w W p q nm op vl) (v : ByteArray) : OneSt w (W.setCell ⟨q, 2, none⟩ (.string v)) p q nm op v :=
  ⟨by rw [cell_farC h.ne]; exact h.p0, by rw [cell_farC h.ne]; exact h.p1, by rw [cell_farC h.ne]; exact h.p2,
   by rw [World.cell?_setCell_other _ _ _ _ (by simp)]; exact h.q0, by rw [World.cell?_setCell_other _ _ _ _ (by simp)]; exact h.q1, World.cell?_setCell_same _ _ _ h.q2,
   World.there_setCells h.tp q 2 [.string v], World.there_setCells h.tq q 2 [.string v], h.bl.trans ((Below.refl _ _).setCell (p := ⟨q, 2, none⟩) h.hq _), h.hp, h.hq, h.ne⟩
theorem there3 {w : World} {a b c : Value} {t : TypeId} : (w.alloc (.cells #[a, b, c] t)).there w.heap.size 0 3 := box_there (xs := #[a, b, c]) (Below.refl _ _)
theorem OneSt.new {w W1 : World} {nm : ByteArray} (hb : Below (w.alloc (.cells #[.string ⟨#[]⟩, .int .i64 0, .string ⟨#[]⟩] 29)).heap.size (w.alloc (.cells #[.string ⟨#[]⟩, .int .i64 0, .string ⟨#[]⟩] 29)) W1) :
    OneSt w (W1.alloc (.cells #[.string nm, .int .i64 0, .string ⟨#[]⟩] 29)) w.heap.size W1.heap.size nm 0 ⟨#[]⟩ := by
  obtain ⟨⟨x0, x1, x2⟩, hlt, hB1⟩ := box3m hb
  have ht := there_later (there3 (w := w) (a := .string ⟨#[]⟩) (b := .int .i64 0) (c := .string ⟨#[]⟩) (t := 29)) hb (by rw [World.size_alloc]; omega)
  have hba := alloc_below W1 (.cells #[.string nm, .int .i64 0, .string ⟨#[]⟩] 29)
  exact ⟨keep_cell x0 hba hlt, keep_cell x1 hba hlt, keep_cell x2 hba hlt, World.cell?_alloc_at _ _ _ _ rfl, World.cell?_alloc_at _ _ _ _ rfl, World.cell?_alloc_at _ _ _ _ rfl,
    there_later ht hba hlt, there3, hB1.trans (hba.mono hB1.size), Nat.le_refl _, hB1.size, by omega⟩
theorem results_agg3 {P : Program} {fn : Func} {p u v : Tmp} {ty : TypeId} (h : fn.results = #[.cell p ty, .tmp u, .tmp v]) (tmps : Array Value) (w : World) (g : Nat) (cs : List Value) (d : TypeDesc)
    (hp : tmps.getD p undef = .pointer (some ⟨g, 0, none⟩)) (hc : w.rangeAt g 0 cs) (hu : P.underlying ty = some d) (hd : d.isRow = true) (hi : (P.info? ty).map (·.size) = some cs.length) :
    (results fn tmps).run P w = .ok (.tuple #[.agg cs.toArray, tmps.getD u undef, tmps.getD v undef]) w := by
  have hp' : tmps[p]?.getD undef = .pointer (some ⟨g, 0, none⟩) := by simpa using hp
  simp [results, h, hp', asAddr, run_loadVar_mid (P := P) w g 0 ty cs d hc hu hd hi]
end Go.Proofs.YtgbapkechngnmaaGreat
/- match.one: a contract. (Region 13 is printed by wip/genmao.py.) -/
namespace Go.Proofs.YtgbapkechngnmaaGreat
open Go.RowKit
theorem B_take (s : ByteArray) (k : Nat) : B (s.extract 0 k) = (B s).take k := by
 show (s.extract 0 k).data.toList = _
 rw [ByteArray.data_extract, Array.toList_extract, List.extract_eq_take_drop]
 simp [B]
theorem hasPref_iff (t : List UInt8) (o : Int) : Lib.hasPrefix t (wordB o ++ [34]) = true ↔ prefO t o := by
 unfold Lib.hasPrefix prefO
 rw [List.isPrefixOf_iff_prefix]
 constructor
 ·rintro ⟨r, h⟩; exact ⟨r, by rw [← h]; simp⟩
 ·rintro ⟨r, h⟩; exact ⟨r, by rw [h]; simp⟩
theorem trimPref (r : List UInt8) (o : Int) : Lib.trimPrefix (wordB o ++ 34 :: r) (wordB o ++ [34]) = r := by
 unfold Lib.trimPrefix
 rw [show Lib.hasPrefix (wordB o ++ 34 :: r) (wordB o ++ [34]) = true from (hasPref_iff _ _).2 ⟨r, rfl⟩]
 simp
theorem escB_ge (l : List UInt8) : l.length ≤ (escB l).length := by rw [escB_len]; omega
theorem OneSt.putP {w W : World} {p q : Nat} {nm vl : ByteArray} {op : Int} (h : OneSt w W p q nm op vl) (vs : List Value) :
  (W.setCells p 0 vs).cell? ⟨q, 0, none⟩ = some (.string nm) ∧ (W.setCells p 0 vs).cell? ⟨q, 1, none⟩ = some (.int .i64 op) ∧ (W.setCells p 0 vs).cell? ⟨q, 2, none⟩ = some (.string vl) := by
 refine ⟨?_, ?_, ?_⟩ <;> rw [World.cell?_setCells_out _ _ _ _ _ (fun e _ => absurd e h.ne)]
 ·exact h.q0
 ·exact h.q1
 ·exact h.q2
def OneP (s : ByteArray) (m : Mt) (a : ByteArray) (ok : Bool) : Prop := (ok = true ∧ oneR (B s) = some (m, B a)) ∨ (ok = false ∧ oneR (B s) = none)
def OnePost (s : ByteArray) (w : World) (e : Ending) (w' : World) : Prop := ∃ (m : Mt) (a : ByteArray) (ok : Bool), e = .returned (.tuple #[.agg #[.string m.nm, .int .i64 m.op, .string m.val], .string a, .bool ok]) ∧ OneP s m a ok ∧ MtFit m ∧ a.size ≤ s.size ∧ Below w.heap.size w w'
theorem OnePost.mk {s : ByteArray} {w : World} {e : Ending} {w' : World} (m : Mt) (a : ByteArray) (ok : Bool) (h1 : e = .returned (.tuple #[.agg #[.string m.nm, .int .i64 m.op, .string m.val], .string a, .bool ok])) (h2 : OneP s m a ok) (h3 : MtFit m) (h4 : a.size ≤ s.size) (h5 : Below w.heap.size w w') : OnePost s w e w' :=
 ⟨m, a, ok, h1, h2, h3, h4, h5⟩
set_option maxHeartbeats 1600000 in
set_option maxRecDepth 100000 in
theorem mone_any (s : ByteArray) (w : World) (hs : s.size ≤ 900000) :
  Calls Tryz.prog 52 #[.string s] w (OnePost s w) := by
 have hba := alloc_below w (.cells #[.string ⟨#[]⟩, .int .i64 0, .string ⟨#[]⟩] 29)
 have ki := iany_any s (w.alloc (.cells #[.string ⟨#[]⟩, .int .i64 0, .string ⟨#[]⟩] 29)) (by omega)
 have HBA := Lib.hid hba
 cases hany : (B s).any signB with
 | false =>
  have hidx : idxS (B s) = -1 := by unfold idxS; rw [hany]; rfl
  have HNONE := Lib.hid (oneR_nosign hany)
  rw [hidx] at ki
  clear hba hany hidx
  go_enter Tryz.func52, Tryz.ntmps52
  go_wp2_with fail
  refine ki.mono ?_
  rintro e w1 ⟨rfl, hb1⟩
  obtain ⟨⟨x0, x1, x2⟩, hlt, hB1⟩ := box3m hb1
  have ht := there_later (there3 (w := w) (a := .string ⟨#[]⟩) (b := .int .i64 0) (c := .string ⟨#[]⟩) (t := 29)) hb1 (by rw [World.size_alloc]; omega)
  have f0 := there_free ht 0 (by omega)
  have f1 := there_free ht 1 (by omega)
  have f2 := there_free ht 2 (by omega)
  have HB1 := Lib.hid hB1
  have HT := Lib.hid ht
  clear ki hb1 hB1 ht
  go_wp2
  refine bodyPost_ret (results_agg3 rfl _ _ w.heap.size [.string ⟨#[]⟩, .int .i64 0, .string ⟨#[]⟩] _ rfl (World.rangeAt_setCells_same w1 w.heap.size 0 [.string ⟨#[]⟩, .int .i64 0, .string ⟨#[]⟩] HT.out) Tryz.underlying29 rfl (by kernel_rfl)) rfl ?_
  exact OnePost.mk ⟨⟨#[]⟩, 0, ⟨#[]⟩⟩ ⟨#[]⟩ false rfl (.inr ⟨rfl, HNONE.out⟩) ⟨Nat.zero_le _, Nat.zero_le _⟩ (Nat.zero_le _) (below_puts (g := w.heap.size) (o := 0) HB1.out (Nat.le_refl _) [.string ⟨#[]⟩, .int .i64 0, .string ⟨#[]⟩])
 | true =>
  obtain ⟨k, hk⟩ : ∃ k, ((B s).takeWhile fun c => !signB c).length = k := ⟨_, rfl⟩
  have hidx : idxS (B s) = (k : Int) := by unfold idxS; rw [hany, if_pos rfl, hk]
  have HT := Lib.hid (take_len_while (B s) fun c => !signB c)
  have HD := Lib.hid (drop_len_while (B s) fun c => !signB c)
  rw [hk] at HT HD
  have hks : k ≤ s.size := by
   have := congrArg List.length (List.takeWhile_append_dropWhile (p := fun c => !signB c) (l := B s))
   rw [List.length_append, hk, len_B] at this
   omega
  rw [hidx] at ki
  clear hba hany hidx hk
  have hk0 : ¬ ((k : Int) < 0) := by omega
  have hk0' : decide ((k : Int) < 0) = false := decide_eq_false hk0
  have hk1 : (0 : Int) ≤ (k : Int) := by omega
  have hk2 : (k : Int) ≤ (s.size : Int) := by omega
  go_enter Tryz.func52, Tryz.ntmps52
  go_wp2_with fail
  refine ki.mono ?_
  rintro e w1 ⟨rfl, hb1⟩
  have HO := Lib.hid (OneSt.new (nm := s.extract 0 k) hb1)
  clear ki hb1
  go_upto_region 5 with fail
  refine wp_forgetB (fun W => OneSt w W w.heap.size w1.heap.size (s.extract 0 k) 0 ⟨#[]⟩) HO.out (fun w2 hw2 => ?_)
  have kw := words_any w2
  have HO2 := Lib.hid hw2
  clear HO hw2
  go_wp2_with fail
  refine kw.mono ?_
  rintro e w3 ⟨rfl, hb3⟩
  have HO3 := Lib.hid (HO2.out.later hb3)
  generalize w1.heap.size = q at *
  clear kw HO2 hb3
  have HTE : Hid (B (s.extract k s.size) = (B s).dropWhile fun c => !signB c) := Lib.hid (by rw [B_extract, HD.out])
  have HNM : Hid (B (s.extract 0 k) = (B s).takeWhile fun c => !signB c) := Lib.hid (by rw [B_take, HT.out])
  have hxz : (s.extract k s.size).size ≤ s.size := by first | (simp; done) | (simp; omega)
  have hnz : (s.extract 0 k).size ≤ s.size := by first | (simp; done) | (simp; omega)
  clear HT HD
  go_wp2_with fail
  go_loopw [24] (fun v wr => ∃ i : Nat, v = .int .i64 i ∧ i ≤ 4 ∧ Hid (∀ o : Int, 0 ≤ o → o < i → ¬ prefO ((B s).dropWhile fun c => !signB c) o) ∧ Hid (OneSt w wr w.heap.size q (s.extract 0 k) 0 ⟨#[]⟩)) (fun v _ => 5 - (intOf v).toNat)
  case atStart => exact ⟨0, rfl, by omega, Lib.hid (fun o h0 h1 => by omega), HO3⟩
  case round =>
   clear HO3
   obtain ⟨i, rfl, hi4, HP, HO⟩ := hrel
   by_cases hi : i < 4
   ·have hi0 : (i : Int) < 4 := by omega
    have hidx := run_index_words (i : Int) (by omega) (by omega)
    have hwz := wordS_size (i : Int)
    have z1 : ¬ 9223372036854775807 < (wordS (i : Int)).size + 1 := by omega
    have kc := fun W => Tryz.strings_CutPrefix (s.extract k s.size) (wordS (i : Int) ++ ⟨#[34]⟩) W
    have e1 : (s.extract k s.size).data.toList = (B s).dropWhile fun c => !signB c := HTE.out
    have e2 : (wordS (i : Int) ++ ⟨#[34]⟩ : ByteArray).data.toList = wordB (i : Int) ++ [34] := by
     simp [wordS]
    rw [e1, e2] at kc
    clear e1 e2
    cases hp : Lib.hasPrefix ((B s).dropWhile fun c => !signB c) (wordB (i : Int) ++ [34]) with
    | false =>
     have HN : Hid (¬ prefO ((B s).dropWhile fun c => !signB c) (i : Int)) := Lib.hid (fun h => by rw [(hasPref_iff _ _).2 h] at hp; exact absurd hp (by decide))
     rw [hp] at kc
     clear hp
     go_wp2_with fail
     refine (kc _).mono ?_
     rintro e w5 ⟨rfl, rfl⟩
     clear kc
     go_wp2
     go_roundw
     case rel => exact ⟨i + 1, by go_num, by omega, Lib.hid (fun o h0 h1 => by
      by_cases e : o = (i : Int)
      ·subst e; exact HN.out
      ·exact HP.out o h0 (by omega)), HO⟩
     case measure => (simp [intOf]; try omega)
    | true =>
     obtain ⟨r, hr⟩ := (hasPref_iff _ _).1 hp
     have HR := Lib.hid hr
     rw [hp, hr, trimPref] at kc
     have hrz : (⟨r.toArray⟩ : ByteArray).size ≤ s.size := by
      have h1 := congrArg List.length hr
      have h2 := congrArg List.length HTE.out
      rw [len_B] at h2
      simp only [List.length_append, List.length_cons] at h1
      show r.toArray.size ≤ _
      simp
      omega
     clear hp hr
     have q1 := HO.out.q1
     have f1 := there_free HO.out.tq 1 (by omega)
     go_wp2_with fail
     refine (kc _).mono ?_
     rintro e w5 ⟨rfl, rfl⟩
     clear kc
     have kv := fun W => mvalue_any ⟨r.toArray⟩ W (by omega)
     go_upto_region 11 with fail
     refine wp_forgetB (fun W => OneSt w W w.heap.size q (s.extract 0 k) i ⟨#[]⟩) (HO.out.setOp i) (fun w6 hw6 => ?_)
     have HO6 := Lib.hid hw6
     clear hw6 q1 f1 HO
     go_wp2_with fail
     refine (kv _).mono ?_
     rintro e w7 ⟨va, vb, ok, rfl, hvp, hb7⟩
     have HO7 := Lib.hid (HO6.out.later hb7)
     have HVP := Lib.hid hvp
     have q2 := HO7.out.q2
     have f2 := there_free HO7.out.tq 2 (by omega)
     clear kv hb7 hvp HO6
     go_upto_region 13 with fail
     refine wp_forgetB (fun W => OneSt w W w.heap.size q (s.extract 0 k) i va) (HO7.out.setVal va) (fun w8 hw8 => ?_)
     have HO8 := Lib.hid hw8
     clear hw8 q2 f2 HO7
     have HOP := Lib.hid (op_word (show (0 : Int) ≤ (i : Int) by omega) (show (i : Int) ≤ 3 by omega) r)
     rw [← HR.out] at HOP
     have HMK : Hid (oneR (B s) = match valB r with
       | none => none
       | some (v, q) => if fineM ⟨s.extract 0 k, (i : Int), ⟨v.toArray⟩⟩ then some (⟨s.extract 0 k, (i : Int), ⟨v.toArray⟩⟩, q) else none) := Lib.hid (by
      unfold oneR
      rw [HOP.out]
      simp only []
      rw [← HNM.out, mk_B]
      cases valB r <;> rfl)
     have SK : Hid (∀ W, Below w8.heap.size w8 W → W.cell? ⟨q, 0, none⟩ = some (.string (s.extract 0 k)) ∧ W.cell? ⟨q, 1, none⟩ = some (.int .i64 i) ∧ W.cell? ⟨q, 2, none⟩ = some (.string va)) := Lib.hid (fun W h => ⟨(HO8.out.later h).q0, (HO8.out.later h).q1, (HO8.out.later h).q2⟩)
     cases ok with
     | false =>
      refine wp_region_held_drew (S := (fun W => W.cell? ⟨q, 0, none⟩ = some (.string (s.extract 0 k)) ∧ W.cell? ⟨q, 1, none⟩ = some (.int .i64 i) ∧ W.cell? ⟨q, 2, none⟩ = some (.string va))) (by kernel_rfl) (SK.out _ ((Below.refl _ _).drew)) (fun hHeld => ?_)
      have hbd : Below w8.heap.size w8 w8.drew := (Below.refl _ _).drew
      have HBD := Lib.hid hbd
      clear hbd
      generalize w8.drew = wd at *
      have HOE := Lib.hid (HO8.out.later HBD.out)
      refine plIn [0, 1, 2, 3] ?_
      iterate 4
       refine hP (v := ?_) rfl rfl hHeld ?_ ?_
       rotate_left
       ·rintro wh ⟨z0, z1, z2⟩
        go_simp
        (try with_reducible rfl)
       simp only [Act.put, List.setIfInBounds_toArray, List.set_cons_zero, List.set_cons_succ]
      refine plOut ?_
      refine plIn [4, 5] ?_
      iterate 2
       refine hK rfl rfl hHeld ?_
       simp only [Act.put, List.setIfInBounds_toArray, List.set_cons_zero, List.set_cons_succ]
      refine plOut ?_
      refine hT (i := 6) (v := ?_) rfl rfl hHeld ?_ ?_
      rotate_left
      ·rintro wh ⟨z0, z1, z2⟩
       go_simp
       (try with_reducible rfl)
      simp only [Act.put, List.setIfInBounds_toArray, List.set_cons_zero, List.set_cons_succ]
      refine held_step (i := 7) rfl (by kernel_rfl) (fun K hK => ?_)
      have d0 := HOE.out.p0; have d1 := HOE.out.p1; have d2 := HOE.out.p2; have f0 := there_free HOE.out.tp 0 (by omega); have f1 := there_free HOE.out.tp 1 (by omega); have f2 := there_free HOE.out.tp 2 (by omega); go_simp; clear d0 d1 d2 f0 f1 f2
      refine hK.out _ _ (HOE.out.putP [.string (s.extract 0 k), .int .i64 i, .string va]) (fun hHeld => ?_)
      clear hK K
      (try simp only [Act.put, List.setIfInBounds_toArray])
      refine plIn [8, 9] ?_
      iterate 2
       refine hP (v := ?_) rfl rfl hHeld ?_ ?_
       rotate_left
       ·rintro wh ⟨z0, z1, z2⟩
        go_simp
        (try with_reducible rfl)
       simp only [Act.put, List.setIfInBounds_toArray, List.set_cons_zero, List.set_cons_succ]
      refine plOut ?_
      refine wpAnyH_done (by kernel_rfl) ?_ _
      go_wp2
      refine bodyPost_ret (results_agg3 rfl _ _ w.heap.size [.string (s.extract 0 k), .int .i64 i, .string va] _ rfl (World.rangeAt_setCells_same wd w.heap.size 0 [.string (s.extract 0 k), .int .i64 i, .string va] HOE.out.tp) Tryz.underlying29 rfl (by kernel_rfl)) rfl ?_
      have hvp := HVP.out
      rcases hvp with ⟨_, hn, hv1, hv2⟩ | ⟨h, _⟩
      ·rw [B_mk] at hn
       exact OnePost.mk ⟨s.extract 0 k, i, va⟩ vb false rfl (.inr ⟨rfl, by rw [HMK.out, hn]⟩) ⟨by unfold maxLen; show (s.extract 0 k).size ≤ _; omega, by rw [hv1]; exact Nat.zero_le _⟩ (by rw [hv2]; exact Nat.zero_le _) (below_puts (g := w.heap.size) (o := 0) HOE.out.bl (Nat.le_refl _) [.string (s.extract 0 k), .int .i64 i, .string va])
      ·cases h
     | true =>
      have hvp := HVP.out
      rcases hvp with ⟨h, _⟩ | ⟨_, hv⟩
      ·cases h
      rw [B_mk] at hv
      have hes := esc_val _ _ _ _ (Nat.le_refl _) hv
      have hzz : va.size ≤ s.size ∧ vb.size ≤ s.size := by
       have h1 := congrArg List.length hes
       have h2 := escB_ge (B va)
       simp only [List.length_append, List.length_cons] at h1
       rw [len_B] at h1 h2
       have h3 : (⟨r.toArray⟩ : ByteArray).size = r.length := by show r.toArray.size = _; simp
       rw [h3] at hrz
       constructor <;> omega
      have kf := fun W => mfine_any ⟨s.extract 0 k, i, va⟩ W ⟨by unfold maxLen; show (s.extract 0 k).size ≤ _; omega, by unfold maxLen; show va.size ≤ _; omega⟩
      obtain ⟨F, hF⟩ : ∃ F, fineM ⟨s.extract 0 k, i, va⟩ = F := ⟨_, rfl⟩
      rw [hF] at kf
      have HF := Lib.hid hF
      have HV := Lib.hid hv
      have HZ := Lib.hid hzz
      clear hes hv hzz hF
      refine wp_region_held_drew (S := (fun W => W.cell? ⟨q, 0, none⟩ = some (.string (s.extract 0 k)) ∧ W.cell? ⟨q, 1, none⟩ = some (.int .i64 i) ∧ W.cell? ⟨q, 2, none⟩ = some (.string va))) (by kernel_rfl) (SK.out _ ((Below.refl _ _).drew)) (fun hHeld => ?_)
      have hbd : Below w8.heap.size w8 w8.drew := (Below.refl _ _).drew
      have HBD := Lib.hid hbd
      clear hbd
      generalize w8.drew = wd at *
      refine plIn [0, 1, 2, 3, 4] ?_
      iterate 5
       refine hP (v := ?_) rfl rfl hHeld ?_ ?_
       rotate_left
       ·rintro wh ⟨z0, z1, z2⟩
        go_simp
        (try with_reducible rfl)
       simp only [Act.put, List.setIfInBounds_toArray, List.set_cons_zero, List.set_cons_succ]
      refine plOut ?_
      refine held_call (i := 5) rfl (by kernel_rfl) (by rfl) (fun K hK => ?_)
      go_simp; refine (kf _).mono ?_; rintro e w9 ⟨rfl, hb9⟩; have HB9 := Lib.hid (HBD.out.trans (hb9.mono HBD.out.size)); have HOE := Lib.hid (HO8.out.later HB9.out); clear hb9
      refine hK.out _ _ (SK.out _ HB9.out) (fun hHeld => ?_)
      clear hK K
      (try simp only [Act.put, List.setIfInBounds_toArray, List.set_cons_zero, List.set_cons_succ])
      refine hT (i := 6) (v := ?_) rfl rfl hHeld ?_ ?_
      rotate_left
      ·rintro wh ⟨z0, z1, z2⟩
       go_simp
       (try with_reducible rfl)
      simp only [Act.put, List.setIfInBounds_toArray, List.set_cons_zero, List.set_cons_succ]
      refine held_step (i := 7) rfl (by kernel_rfl) (fun K hK => ?_)
      have d0 := HOE.out.p0; have d1 := HOE.out.p1; have d2 := HOE.out.p2; have f0 := there_free HOE.out.tp 0 (by omega); have f1 := there_free HOE.out.tp 1 (by omega); have f2 := there_free HOE.out.tp 2 (by omega); go_simp; clear d0 d1 d2 f0 f1 f2
      refine hK.out _ _ (HOE.out.putP [.string (s.extract 0 k), .int .i64 i, .string va]) (fun hHeld => ?_)
      clear hK K
      (try simp only [Act.put, List.setIfInBounds_toArray])
      refine plIn [8, 9] ?_
      iterate 2
       refine hP (v := ?_) rfl rfl hHeld ?_ ?_
       rotate_left
       ·rintro wh ⟨z0, z1, z2⟩
        go_simp
        (try with_reducible rfl)
       simp only [Act.put, List.setIfInBounds_toArray, List.set_cons_zero, List.set_cons_succ]
      refine plOut ?_
      refine wpAnyH_done (by kernel_rfl) ?_ _
      go_wp2
      refine bodyPost_ret (results_agg3 rfl _ _ w.heap.size [.string (s.extract 0 k), .int .i64 i, .string va] _ rfl (World.rangeAt_setCells_same w9 w.heap.size 0 [.string (s.extract 0 k), .int .i64 i, .string va] HOE.out.tp) Tryz.underlying29 rfl (by kernel_rfl)) rfl ?_
      have hfin : OneP s ⟨s.extract 0 k, i, va⟩ vb F := by
       cases F with
       | true => exact .inl ⟨rfl, by rw [HMK.out, HV.out]; simp only []; rw [mk_B, if_pos HF.out]⟩
       | false => exact .inr ⟨rfl, by rw [HMK.out, HV.out]; simp only []; rw [mk_B, if_neg (by rw [HF.out]; decide)]⟩
      exact OnePost.mk ⟨s.extract 0 k, i, va⟩ vb F rfl hfin ⟨by unfold maxLen; show (s.extract 0 k).size ≤ _; omega, by have := HZ.out.1; unfold maxLen; show va.size ≤ _; omega⟩ HZ.out.2 (below_puts (g := w.heap.size) (o := 0) HOE.out.bl (Nat.le_refl _) [.string (s.extract 0 k), .int .i64 i, .string va])
   ·obtain rfl : i = 4 := by omega
    have HN := Lib.hid (opB_none (fun o h0 h3 => HP.out o h0 (by omega)))
    have HNONE : Hid (oneR (B s) = none) := Lib.hid (by unfold oneR; rw [HN.out])
    have c0 := HO.out.q0
    have c1 := HO.out.q1
    have c2 := HO.out.q2
    have d0 := HO.out.p0
    have d1 := HO.out.p1
    have d2 := HO.out.p2
    have f0 := there_free HO.out.tp 0 (by omega)
    have f1 := there_free HO.out.tp 1 (by omega)
    have f2 := there_free HO.out.tp 2 (by omega)
    go_wp2
    refine bodyPost_ret (results_agg3 rfl _ _ w.heap.size [.string (s.extract 0 k), .int .i64 0, .string ⟨#[]⟩] _ rfl (World.rangeAt_setCells_same wr w.heap.size 0 [.string (s.extract 0 k), .int .i64 0, .string ⟨#[]⟩] HO.out.tp) Tryz.underlying29 rfl (by kernel_rfl)) rfl ?_
    exact OnePost.mk ⟨s.extract 0 k, 0, ⟨#[]⟩⟩ ⟨#[]⟩ false rfl (.inr ⟨rfl, HNONE.out⟩) ⟨by unfold maxLen; show (s.extract 0 k).size ≤ _; omega, Nat.zero_le _⟩ (Nat.zero_le _) (below_puts (g := w.heap.size) (o := 0) HO.out.bl (Nat.le_refl _) [.string (s.extract 0 k), .int .i64 0, .string ⟨#[]⟩])
end Go.Proofs.YtgbapkechngnmaaGreat
/- match.Read: a contract. -/
namespace Go.Proofs.YtgbapkechngnmaaGreat
open Go.RowKit
/-! plain -/
theorem rd_nil (k : Nat) : rdB k [] = some [] := by rw [rdB_eq, if_pos rfl]
theorem rd_zero {s : List UInt8} (h : s ≠ []) : rdB 0 s = none := by rw [rdB_eq, if_neg h]
theorem rd_bad {k : Nat} {s : List UInt8} (h : s ≠ []) (h1 : oneR s = none) : rdB k s = none := by
 rw [rdB_eq, if_neg h]
 cases k with
 | zero => rfl
 | succ k => simp only [h1]
theorem rd_last {k : Nat} {s : List UInt8} {m : Mt} (h : s ≠ []) (h1 : oneR s = some (m, [])) : rdB (k + 1) s = (rdB k []).map (m :: ·) := by
 rw [rdB_eq, if_neg h, rd_nil]
 simp only [h1]
 rfl
theorem rd_more {k : Nat} {s q : List UInt8} {m : Mt} (h : s ≠ []) (h1 : oneR s = some (m, 44 :: q)) (hq : q ≠ []) : rdB (k + 1) s = (rdB k q).map (m :: ·) := by
 rw [rdB_eq, if_neg h]
 simp only [h1]
 rw [if_pos ⟨trivial, hq⟩]
theorem rd_odd {k : Nat} {s q : List UInt8} {m : Mt} {c : UInt8} (h : s ≠ []) (h1 : oneR s = some (m, c :: q)) (hq : c ≠ 44 ∨ q = []) : rdB k s = none := by
 rw [rdB_eq, if_neg h]
 cases k with
 | zero => rfl
 | succ k =>
  simp only [h1]
  rw [if_neg (fun e => hq.elim (fun h => h e.1) e.2)]
def sizeS : Value → Nat
 | .string s => s.size
 | _ => 0
def ReadPost6 (s : ByteArray) (w : World) (e : Ending) (w' : World) : Prop := ∃ (v : Value) (n : Int), e = .returned (.tuple #[v, .int .i64 n]) ∧ Below w.heap.size w w' ∧
 ((n = 0 ∧ ∃ l, rdB 12 (B s) = some l ∧ MtsAt w' v l ∧ MtsFit l) ∨ (n = 2 ∧ rdB 12 (B s) = none ∧ v = .slice none 0 0))
theorem info_mt : (Tryz.prog.info? 29).map (fun i => (i.zero, i.size, i.bytes)) = some (some (.agg #[.string ⟨#[]⟩, .int .i64 0, .string ⟨#[]⟩]), 3, 40) := by kernel_rfl
theorem row_mt (w : World) (m : Mt) : RdAt (w.alloc (.cells #[.string m.nm, .int .i64 m.op, .string m.val] 29)) (.slice (some ⟨w.heap.size, 0, none⟩) 1 1) 1 3 [.string m.nm, .int .i64 m.op, .string m.val] :=
 RdAt.mk rfl (Nat.le_refl _) (by rw [World.size_alloc]; omega) (fun j x hj => by
  rw [Nat.zero_add, cell_of_row _ _ _ _ _ _ (heap_alloc_new _ _)]
  simpa using hj)
theorem mt1_cells (m : Mt) : ∀ y ∈ ([.string m.nm, .int .i64 m.op, .string m.val] : List Value), y.oneCell' = true := by
 intro y hy
 simp at hy
 rcases hy with rfl | rfl | rfl <;> rfl
theorem toList_ne {s : ByteArray} (h : B s ≠ []) : s.toList.isEmpty = false := by
 rw [toList_B]
 cases hb : B s with
 | nil => exact absurd hb h
 | cons _ _ => rfl
set_option maxHeartbeats 1600000 in
set_option maxRecDepth 100000 in
theorem mread_any (s : ByteArray) (w : World) (hs : s.size ≤ 900000) : Calls Tryz.prog 21 #[.string s] w (ReadPost6 s w) := by
 obtain ⟨i0, hi0, hz0, hz1, hz2⟩ := info_parts info_mt
 go_enter Tryz.func21, Tryz.ntmps21
 go_wp2
 go_loopw [4, 5] (fun v4 v5 wr => ∃ (lv : Value) (rest : ByteArray) (ms : List Mt), lv = v4 ∧ v5 = .string rest ∧ rest.size ≤ s.size ∧ ms.length ≤ 12 ∧ Hid (MtsFit ms) ∧ Hid (wr.ownsRow w.heap.size 29 3 lv ms.length (mtCells ms)) ∧ Hid (rdB 12 (B s) = (rdB (12 - ms.length) (B rest)).map (ms ++ ·)) ∧ Hid (Below w.heap.size w wr)) (fun _ v _ => sizeS v)
 case atStart => exact ⟨_, s, [], rfl, rfl, Nat.le_refl _, Nat.zero_le _, Lib.hid (fun _ h => by cases h), Lib.hid (World.ownsRow_nil _ _ _ _), Lib.hid (by simp), Lib.hid (Below.refl _ _)⟩
 case round =>
  obtain ⟨lv, rest, ms, rfl, rfl, hrz, hml, HFIT, HOW, HRD, HB⟩ := hrel
  obtain ⟨la, lc, rfl, _, _⟩ := RdAt.shape (RdAt.own HOW.out)
  by_cases h0 : B rest = []
  ·have h0' : rest.toList = [] := by rw [toList_B]; exact h0
   have HQ : Hid (rdB 12 (B s) = some ms) := Lib.hid (by rw [HRD.out, h0, rd_nil]; simp)
   clear h0
   go_wp2
   go_ret2
   exact ⟨_, _, rfl, HB.out, .inl ⟨rfl, ms, HQ.out, RdAt.own HOW.out, HFIT.out⟩⟩
  ·have h0' := toList_ne h0
   have HNE := Lib.hid h0
   have k1 := mone_any rest wr (by omega)
   have hrp : 0 < rest.size := by rw [← len_B]; exact List.length_pos_iff.2 h0
   clear h0
   go_wp2_with fail
   refine k1.mono ?_
   rintro e w1 ⟨m, a, ok, rfl, hP, hMF, haz, hb1⟩
   have HMF := Lib.hid hMF
   have HP := Lib.hid hP
   have HB1 := Lib.hid (HB.out.trans (hb1.mono HB.out.size))
   have HOW1 := Lib.hid (own_later HOW.out hb1)
   have kc := fun W => Tryz.strings_CutPrefix a ⟨#[44]⟩ W
   have ea : a.data.toList = B a := rfl
   have ec : (⟨#[44]⟩ : ByteArray).data.toList = [44] := rfl
   rw [ea, ec] at kc
   clear k1 hP hMF hb1 ea ec HOW HB
   have hba := alloc_below w1 (.cells #[.string m.nm, .int .i64 m.op, .string m.val] 29)
   have m0 : (w1.alloc (.cells #[.string m.nm, .int .i64 m.op, .string m.val] 29)).cell? ⟨w1.heap.size, 0, none⟩ = some (.string m.nm) := World.cell?_alloc_at _ _ _ _ rfl
   have m1 : (w1.alloc (.cells #[.string m.nm, .int .i64 m.op, .string m.val] 29)).cell? ⟨w1.heap.size, 1, none⟩ = some (.int .i64 m.op) := World.cell?_alloc_at _ _ _ _ rfl
   have m2 : (w1.alloc (.cells #[.string m.nm, .int .i64 m.op, .string m.val] 29)).cell? ⟨w1.heap.size, 2, none⟩ = some (.string m.val) := World.cell?_alloc_at _ _ _ _ rfl
   have hown2 := own_later HOW1.out hba
   have HB2 := Lib.hid (HB1.out.trans (hba.mono HB1.out.size))
   go_upto_region 5 with fail
   change Code.wp _ _ _ _ (w1.alloc (.cells #[.string m.nm, .int .i64 m.op, .string m.val] 29))
   generalize w1.alloc (.cells #[.string m.nm, .int .i64 m.op, .string m.val] 29) = w2 at *
   have HOW2 := Lib.hid hown2
   generalize w1.heap.size = gm at *
   clear hba hown2 HB1 HOW1
   cases ok with
   | false =>
    have HN : Hid (rdB 12 (B s) = none) := Lib.hid (by
     rcases HP.out with ⟨h, _⟩ | ⟨_, h⟩
     ·cases h
     ·rw [HRD.out, rd_bad HNE.out h]; rfl)
    go_wp2_with fail
    refine (kc _).mono ?_
    rintro e w3 ⟨rfl, rfl⟩
    clear kc
    go_wp2
    go_ret2
    exact ⟨_, _, rfl, HB2.out, .inr ⟨rfl, HN.out, rfl⟩⟩
   | true =>
    have hone : oneR (B rest) = some (m, B a) := by
     rcases HP.out with ⟨_, h⟩ | ⟨h, _⟩
     ·exact h
     ·cases h
    have HONE := Lib.hid hone
    clear hone HP
    by_cases h12 : ms.length = 12
    ·have HN : Hid (rdB 12 (B s) = none) := Lib.hid (by rw [HRD.out, h12, rd_zero HNE.out]; rfl)
     have hb12 : ((ms.length : Int) == 12) = true := by rw [beq_iff_eq]; omega
     clear h12
     go_wp2_with fail
     refine (kc _).mono ?_
     rintro e w3 ⟨rfl, rfl⟩
     clear kc
     go_wp2
     go_ret2
     exact ⟨_, _, rfl, HB2.out, .inr ⟨rfl, HN.out, rfl⟩⟩
    ·have hb12 : ((ms.length : Int) == 12) = false := by rw [beq_eq_false_iff_ne]; omega
     have hlt12 : ms.length < 12 := by omega
     clear h12
     cases hBa : B a with
     | nil =>
      rw [hBa] at kc HONE
      have hal : a.toList = [] := by rw [toList_B]; exact hBa
      have e1 : Lib.hasPrefix [] [44] = false := rfl
      have e2 : Lib.trimPrefix [] [44] = [] := rfl
      rw [e1, e2] at kc
      clear e1 e2 hBa
      go_wp2_with fail
      refine (kc _).mono ?_
      rintro e w3 ⟨rfl, rfl⟩
      have hown := own_later HOW2.out (alloc_below w3 (.cells #[.string m.nm, .int .i64 m.op, .string m.val] 29))
      have hrow := row_mt w3 m
      have HBX := Lib.hid (HB2.out.trans ((alloc_below w3 (.cells #[.string m.nm, .int .i64 m.op, .string m.val] 29)).mono HB2.out.size))
      have hbase := HBX.out.size
      clear kc
      go_wp2_with (at_builtin; (refine wpList_append_rd rfl (.tmp 47) (.tmp 49) 23 rfl w.heap.size 29 i0 (.agg #[.string ⟨#[]⟩, .int .i64 0, .string ⟨#[]⟩]) 3 40 Tryz.underlying23 hi0 hz0 hz1 hz2 rfl (by decide) (.slice la ms.length lc) ms.length (mtCells ms) rfl hown _ 1 _ rfl hrow (mt1_cells m) (by unfold maxLen; omega) (by omega) hbase ?_); intro v' w6 hown6 hgrow6; have HO6 := Lib.hid hown6; have HB6 := Lib.hid (HBX.out.grown hgrow6 hbase (fun q hq => (hown.lt q hq).1)); clear hown6 hgrow6)
      go_roundw
      case rel => exact ⟨v', ⟨#[]⟩, ms ++ [m], rfl, rfl, Nat.zero_le _, by rw [List.length_append]; simp only [List.length_cons, List.length_nil]; omega, Lib.hid (fun x hx => by rcases List.mem_append.1 hx with h | h; exact HFIT.out x h; rw [List.mem_singleton.1 h]; exact HMF.out), Lib.hid (by rw [List.length_append, mtCells_append]; exact HO6.out), Lib.hid (by rw [HRD.out, show 12 - ms.length = (12 - (ms ++ [m]).length) + 1 by rw [List.length_append]; simp only [List.length_cons, List.length_nil]; omega, rd_last HNE.out HONE.out, show B (⟨#[]⟩ : ByteArray) = [] from rfl, Option.map_map]; congr 1; funext x; simp), HB6⟩
      case measure => exact hrp
     | cons c q =>
      rw [hBa] at kc HONE
      have hal : a.toList.isEmpty = false := toList_ne (by rw [hBa]; simp)
      have haq : q.length + 1 ≤ rest.size := by
       have := congrArg List.length hBa
       rw [len_B] at this
       simp only [List.length_cons] at this
       omega
      by_cases hc : c = 44
      ·subst hc
       have e1 : Lib.hasPrefix (44 :: q) [44] = true := by simp [Lib.hasPrefix]
       have e2 : Lib.trimPrefix (44 :: q) [44] = q := by unfold Lib.trimPrefix; rw [e1]; rfl
       rw [e1, e2] at kc
       obtain ⟨mo, hmo⟩ : ∃ t : ByteArray, (⟨q.toArray⟩ : ByteArray) = t := ⟨_, rfl⟩
       rw [hmo] at kc
       have hBq : B mo = q := by rw [← hmo, B_mk]
       clear e1 e2 hBa hmo
       by_cases hq : q = []
       ·have HN : Hid (rdB 12 (B s) = none) := Lib.hid (by rw [HRD.out, rd_odd HNE.out HONE.out (.inr hq)]; rfl)
        have hql : mo.toList = [] := by rw [toList_B, hBq]; exact hq
        clear hq hBq
        go_wp2_with fail
        refine (kc _).mono ?_
        rintro e w3 ⟨rfl, rfl⟩
        clear kc
        go_wp2
        go_ret2
        exact ⟨_, _, rfl, HB2.out, .inr ⟨rfl, HN.out, rfl⟩⟩
       ·have hql : mo.toList.isEmpty = false := toList_ne (by rw [hBq]; exact hq)
        have hqz : mo.size = q.length := by rw [← len_B, hBq]
        have HBQ := Lib.hid hBq
        have HQ := Lib.hid hq
        have HQZ := Lib.hid hqz
        clear hq hqz hBq
        go_wp2_with fail
        refine (kc _).mono ?_
        rintro e w3 ⟨rfl, rfl⟩
        have hown := own_later HOW2.out (alloc_below w3 (.cells #[.string m.nm, .int .i64 m.op, .string m.val] 29))
        have hrow := row_mt w3 m
        have HBX := Lib.hid (HB2.out.trans ((alloc_below w3 (.cells #[.string m.nm, .int .i64 m.op, .string m.val] 29)).mono HB2.out.size))
        have hbase := HBX.out.size
        clear kc
        go_wp2_with (at_builtin; (refine wpList_append_rd rfl (.tmp 47) (.tmp 49) 23 rfl w.heap.size 29 i0 (.agg #[.string ⟨#[]⟩, .int .i64 0, .string ⟨#[]⟩]) 3 40 Tryz.underlying23 hi0 hz0 hz1 hz2 rfl (by decide) (.slice la ms.length lc) ms.length (mtCells ms) rfl hown _ 1 _ rfl hrow (mt1_cells m) (by unfold maxLen; omega) (by omega) hbase ?_); intro v' w6 hown6 hgrow6; have HO6 := Lib.hid hown6; have HB6 := Lib.hid (HBX.out.grown hgrow6 hbase (fun q hq => (hown.lt q hq).1)); clear hown6 hgrow6)
        go_roundw
        case rel => exact ⟨v', mo, ms ++ [m], rfl, rfl, by rw [HQZ.out]; omega, by rw [List.length_append]; simp only [List.length_cons, List.length_nil]; omega, Lib.hid (fun x hx => by rcases List.mem_append.1 hx with h | h; exact HFIT.out x h; rw [List.mem_singleton.1 h]; exact HMF.out), Lib.hid (by rw [List.length_append, mtCells_append]; exact HO6.out), Lib.hid (by rw [HRD.out, show 12 - ms.length = (12 - (ms ++ [m]).length) + 1 by rw [List.length_append]; simp only [List.length_cons, List.length_nil]; omega, rd_more HNE.out HONE.out HQ.out, HBQ.out, Option.map_map]; congr 1; funext x; simp), HB6⟩
        case measure => (show mo.size < rest.size; rw [HQZ.out]; omega)
      ·have e1 : Lib.hasPrefix (c :: q) [44] = false := by
        simp only [Lib.hasPrefix, List.isPrefixOf]
        have : ((44 : UInt8) == c) = false := by rw [beq_eq_false_iff_ne]; exact fun e => hc e.symm
        rw [this]; rfl
       have HN : Hid (rdB 12 (B s) = none) := Lib.hid (by rw [HRD.out, rd_odd HNE.out HONE.out (.inl hc)]; rfl)
       rw [e1] at kc
       clear e1 hBa hc
       go_wp2_with fail
       refine (kc _).mono ?_
       rintro e w3 ⟨rfl, rfl⟩
       clear kc
       go_wp2
       go_ret2
       exact ⟨_, _, rfl, HB2.out, .inr ⟨rfl, HN.out, rfl⟩⟩
end Go.Proofs.YtgbapkechngnmaaGreat
/- The reference's reading of matchers, plainly: read leniently, then written again: the same as what is read strictly. -/
namespace Go.Proofs.YtgbapkechngnmaaGreat
open Go.RowKit
def valL : List UInt8 → Option (List UInt8 × List UInt8)
 | [] => none
 | c :: r =>
  if c = 34 then some ([], r)
  else if c = 92 then
   match r with
   | [] => none
   | d :: q => (valL q).map fun x => (d :: x.1, x.2)
  else (valL r).map fun x => (c :: x.1, x.2)
theorem valL_cons (c : UInt8) (r : List UInt8) : valL (c :: r) = if c = 34 then some ([], r)
  else if c = 92 then
   match r with
   | [] => none
   | d :: q => (valL q).map fun x => (d :: x.1, x.2)
  else (valL r).map fun x => (c :: x.1, x.2) := by rw [valL.eq_def]
theorem valL_esc (v r : List UInt8) : valL (escB v ++ 34 :: r) = some (v, r) := by
 induction v with
 | nil => rw [escB, List.nil_append, valL_cons, if_pos rfl]
 | cons c l ih =>
  unfold escB
  by_cases h : c = 34 ∨ c = 92
  ·rw [if_pos h]
   simp only [List.cons_append]
   rw [valL_cons, if_neg (by decide), if_pos rfl]
   show ((valL (escB l ++ 34 :: r)).map fun x => (c :: x.1, x.2)) = _
   rw [ih]
   rfl
  ·rw [if_neg h]
   simp only [List.cons_append]
   rw [valL_cons, if_neg (fun e => h (.inl e)), if_neg (fun e => h (.inr e)), ih]
   rfl
theorem valL_less : ∀ (n : Nat) (s v r : List UInt8), s.length ≤ n → valL s = some (v, r) → v.length + r.length < s.length
 | 0, s, v, r, hn, h => by
  have : s = [] := List.length_eq_zero_iff.1 (by omega)
  subst this
  simp [valL] at h
 | n + 1, [], v, r, hn, h => by simp [valL] at h
 | n + 1, c :: s, v, r, hn, h => by
  rw [valL_cons] at h
  split at h
  ·simp only [Option.some.injEq, Prod.mk.injEq] at h
   obtain ⟨rfl, rfl⟩ := h
   simp
  ·split at h
   ·split at h
    ·cases h
    ·rename_i d q
     cases hq : valL q with
     | none => rw [hq] at h; cases h
     | some x =>
      rw [hq] at h
      simp only [Option.map_some, Option.some.injEq, Prod.mk.injEq] at h
      obtain ⟨rfl, rfl⟩ := h
      have := valL_less n q x.1 x.2 (by simp at hn; omega) hq
      simp; omega
   ·cases hq : valL s with
    | none => rw [hq] at h; cases h
    | some x =>
     rw [hq] at h
     simp only [Option.map_some, Option.some.injEq, Prod.mk.injEq] at h
     obtain ⟨rfl, rfl⟩ := h
     have := valL_less n s x.1 x.2 (by simp at hn; omega) hq
     simp; omega
def opL (t : List UInt8) : Int × List UInt8 := match opB t with
 | some x => x
 | none => (-1, t)
def oneL (s : List UInt8) : Option (Mt × List UInt8) :=
 match valL (opL (s.dropWhile fun c => !signB c)).2 with
 | none => none
 | some (v, r) => some (⟨⟨(s.takeWhile fun c => !signB c).toArray⟩, (opL (s.dropWhile fun c => !signB c)).1, ⟨v.toArray⟩⟩, r)
def refP : Nat → Bool → List UInt8 → Option (List Mt)
 | k, first, s => if s = [] then some [] else match k with
  | 0 => none
  | k + 1 => match (if first then some s else if s.head? = some 44 then some s.tail else none) with
   | none => none
   | some t => match oneL t with
    | none => none
    | some (m, r) => (refP k false r).map (m :: ·)
theorem refP_eq (k : Nat) (first : Bool) (s : List UInt8) : refP k first s = if s = [] then some [] else match k with
  | 0 => none
  | k + 1 => match (if first then some s else if s.head? = some 44 then some s.tail else none) with
   | none => none
   | some t => match oneL t with
    | none => none
    | some (m, r) => (refP k false r).map (m :: ·) := by rw [refP.eq_def]
theorem oneL_oneB {m : Mt} (h : fineM m = true) (r : List UInt8) : oneL (oneB m ++ r) = some (m, r) := by
 obtain ⟨h1, h2, h3, _, _⟩ := fineM_true h
 obtain ⟨e1, e2⟩ := take_sign (o := m.op) (t := 34 :: (escB (B m.val) ++ 34 :: r)) (name_sign h1)
 have e : oneB m ++ r = B m.nm ++ (wordB m.op ++ 34 :: (escB (B m.val) ++ 34 :: r)) := by
  unfold oneB
  simp
 rw [e]
 unfold oneL opL
 simp only [e2, op_word h2 h3, valL_esc]
 rw [e1, mk_B, mk_B]
theorem opL_len (t : List UInt8) : (opL t).2.length ≤ t.length := by
 unfold opL
 cases h : opB t with
 | none => exact Nat.le_refl _
 | some x =>
  obtain ⟨e, _, _⟩ := word_op (o := x.1) (r := x.2) (t := t) (by rw [h])
  rw [e]
  simp; omega
theorem oneL_less {s r : List UInt8} {m : Mt} (h : oneL s = some (m, r)) : r.length < s.length := by
 unfold oneL at h
 split at h
 ·cases h
 ·rename_i v q hv
  simp only [Option.some.injEq, Prod.mk.injEq] at h
  obtain ⟨_, rfl⟩ := h
  have h1 := valL_less _ _ _ _ (Nat.le_refl _) hv
  have h2 := opL_len (s.dropWhile fun c => !signB c)
  have h3 : (s.dropWhile fun c => !signB c).length ≤ s.length := by
   have := congrArg List.length (List.takeWhile_append_dropWhile (p := fun c => !signB c) (l := s))
   rw [List.length_append] at this
   omega
  omega
def sepB (l : List Mt) : List UInt8 := match l with
 | [] => []
 | _ :: _ => 44 :: textB l
theorem textB_cons (m : Mt) (l : List Mt) : textB (m :: l) = oneB m ++ sepB l := by
 cases l <;> rfl
theorem ref_text : ∀ (l : List Mt) (k : Nat), l.length ≤ k → l.all fineM = true → refP k true (textB l) = some l ∧ ∀ r, r = textB l → r ≠ [] → refP k false (44 :: r) = some l
 | [], k, _, _ => ⟨by rw [textB, refP_eq, if_pos rfl], fun r h h0 => absurd h h0⟩
 | m :: l, 0, h, _ => by simp at h
 | m :: l, k + 1, h, ha => by
  rw [List.all_cons, Bool.and_eq_true] at ha
  have hk : l.length ≤ k := by simp at h; omega
  obtain ⟨i1, i2⟩ := ref_text l k hk ha.2
  have hrest : refP k false (sepB l) = some l := by
   cases l with
   | nil => rw [sepB, refP_eq, if_pos rfl]
   | cons n l =>
    refine i2 _ rfl ?_
    cases l with
    | nil => rw [textB_one]; exact oneB_ne
    | cons x l => rw [textB_more]; simp
  have hx : oneL (textB (m :: l)) = some (m, sepB l) := by
   rw [textB_cons]
   exact oneL_oneB ha.1 _
  have hne : textB (m :: l) ≠ [] := by
   rw [textB_cons]
   unfold oneB
   simp
  refine ⟨?_, ?_⟩
  ·rw [refP_eq, if_neg hne]
   simp only [if_true, hx, hrest]
   rfl
  ·rintro r rfl _
   rw [refP_eq, if_neg (by simp)]
   simp only [Bool.false_eq_true, if_false, List.head?_cons, if_true, List.tail_cons, hx, hrest]
   rfl
theorem refP_fuel : ∀ (k j : Nat) (first : Bool) (s : List UInt8), s.length ≤ k → s.length ≤ j → refP k first s = refP j first s
 | 0, j, first, s, h1, h2 => by
  have : s = [] := List.length_eq_zero_iff.1 (by omega)
  rw [refP_eq, refP_eq j, if_pos this, if_pos this]
 | k + 1, 0, first, s, h1, h2 => by
  have : s = [] := List.length_eq_zero_iff.1 (by omega)
  rw [refP_eq, refP_eq 0, if_pos this, if_pos this]
 | k + 1, j + 1, first, s, h1, h2 => by
  rw [refP_eq, refP_eq (j + 1)]
  by_cases h0 : s = []
  ·rw [if_pos h0, if_pos h0]
  rw [if_neg h0, if_neg h0]
  dsimp only
  cases ht : (if first = true then some s else if s.head? = some 44 then some s.tail else none) with
  | none => rfl
  | some t =>
   have htl : t.length ≤ s.length := by
    split at ht
    ·simp only [Option.some.injEq] at ht; rw [← ht]; exact Nat.le_refl _
    ·split at ht
     ·simp only [Option.some.injEq] at ht; rw [← ht, List.length_tail]; omega
     ·cases ht
   dsimp only
   cases ho : oneL t with
   | none => rfl
   | some x =>
    obtain ⟨m, r⟩ := x
    have := oneL_less ho
    dsimp only
    rw [refP_fuel k j false r (by omega) (by omega)]
theorem ref_rd (s : List UInt8) (k : Nat) (h : s.length ≤ k) : (match refP k true s with
  | none => none
  | some l => if mtsOk l = true ∧ textB l = s then some l else none) = rdB 12 s := by
 cases hr : rdB 12 s with
 | some l =>
  obtain ⟨h1, rfl⟩ := (rd_iff s l).1 hr
  have h2 := h1
  unfold mtsOk at h2
  rw [Bool.and_eq_true, decide_eq_true_eq] at h2
  have h3 := (ref_text l (max k l.length) (Nat.le_max_right _ _) h2.2).1
  rw [refP_fuel k (max k l.length) true _ h (Nat.le_trans h (Nat.le_max_left _ _)), h3]
  dsimp only
  rw [if_pos ⟨h1, rfl⟩]
 | none =>
  cases hp : refP k true s with
  | none => rfl
  | some l =>
   dsimp only
   rw [if_neg]
   intro hc
   rw [(rd_iff s l).2 hc] at hr
   cases hr
end Go.Proofs.YtgbapkechngnmaaGreat
/- Which texts fit a pattern that is known: reckoned. The example of the statements. No program in sight. -/
namespace Go.Proofs.YtgbapkechngnmaaGreat
def closN (sts : List St) : Nat → List Nat → List Nat
 | 0, l => l
 | n + 1, l => closN sts n (l ++ l.flatMap (frees sts)).eraseDups
def closedB (sts : List St) (l : List Nat) : Bool := l.all fun k => (frees sts k).all fun f => l.contains f
def runC (sts : List St) : List Nat → List Nat → List Nat
 | l, [] => l
 | l, c :: cs => runC sts (closN sts sts.length (goN sts c l)) cs
def chkC (sts : List St) : List Nat → List Nat → Bool
 | _, [] => true
 | l, c :: cs => closedB sts (closN sts sts.length (goN sts c l)) && chkC sts (closN sts sts.length (goN sts c l)) cs
theorem closN_sub (sts : List St) : ∀ (n : Nat) (l : List Nat) (k : Nat), k ∈ l → k ∈ closN sts n l
 | 0, _, _, h => h
 | n + 1, l, k, h => closN_sub sts n _ k (by rw [List.mem_eraseDups]; exact List.mem_append_left _ h)
theorem closN_cl (sts : List St) : ∀ (n : Nat) (l : List Nat) (k : Nat), k ∈ closN sts n l → Cl sts l k
 | 0, _, k, h => ⟨k, h, .refl _⟩
 | n + 1, l, k, h => by
  obtain ⟨j, hj, hr⟩ := closN_cl sts n _ k h
  rw [List.mem_eraseDups] at hj
  rcases List.mem_append.1 hj with h1 | h1
  ·exact ⟨j, h1, hr⟩
  ·obtain ⟨q, hq, h2⟩ := List.mem_flatMap.1 h1
   exact ⟨q, hq, .cons h2 hr⟩
theorem closN_iff {sts : List St} {n : Nat} {l : List Nat} (h : closedB sts (closN sts n l) = true) (k : Nat) : k ∈ closN sts n l ↔ Cl sts l k := by
 refine ⟨closN_cl sts n l k, ?_⟩
 rintro ⟨j, hj, hr⟩
 induction hr with
 | refl => exact closN_sub sts n l _ hj
 | step _ h2 ih =>
  have h3 := List.all_eq_true.1 (List.all_eq_true.1 h _ ih) _ h2
  simpa using h3
theorem runC_iff {sts : List St} {st : Nat} : ∀ (cs : List Nat) (l ws : List Nat), (∀ k, k ∈ l ↔ Rn sts st ws k) → chkC sts l cs = true → ∀ k, k ∈ runC sts l cs ↔ Rn sts st (ws ++ cs) k
 | [], l, ws, h, _, k => by rw [List.append_nil]; exact h k
 | c :: cs, l, ws, h, hc, k => by
  simp only [chkC, Bool.and_eq_true] at hc
  have h2 : ∀ k, k ∈ closN sts sts.length (goN sts c l) ↔ Rn sts st (ws ++ [c]) k := fun k => by rw [closN_iff hc.1, Rn_snoc h]
  have := runC_iff cs _ _ h2 hc.2 k
  rw [List.append_assoc, List.singleton_append] at this
  exact this
def fitC (sts : List St) (st en : Nat) (cs : List Nat) : Option Bool :=
 if closedB sts (closN sts sts.length [st]) && chkC sts (closN sts sts.length [st]) cs then some ((runC sts (closN sts sts.length [st]) cs).contains en) else none
theorem fitC_iff {sts : List St} {st en : Nat} {cs : List Nat} {b : Bool} (h : fitC sts st en cs = some b) : b = true ↔ Rn sts st cs en := by
 unfold fitC at h
 split at h
 ·rename_i hc
  simp only [Bool.and_eq_true] at hc
  have h0 : ∀ k, k ∈ closN sts sts.length [st] ↔ Rn sts st [] k := fun k => by rw [closN_iff hc.1, Rn_nil]
  have := runC_iff cs _ [] h0 hc.2 en
  rw [List.nil_append] at this
  rw [← this, ← Option.some.inj h]
  simp
 ·cases h
/-! the example -/
end Go.Proofs.YtgbapkechngnmaaGreat
/- lychgatelaw06's lives: the document's example. -/
namespace Go.Proofs.YtgbapkechngnmaaGreat
open Go.RowKit
def mT : Mt := ⟨⟨#[116, 101, 97, 109]⟩, 0, ⟨#[97]⟩⟩
def mH : Mt := ⟨⟨#[104, 111, 115, 116]⟩, 3, ⟨#[120, 46, 42]⟩⟩
def lvB : ByteArray := ⟨#[116, 101, 97, 109, 61, 34, 97, 34, 44, 104, 111, 115, 116, 33, 126, 34, 120, 46, 42, 34]⟩
theorem mT_fine : fineM mT = true := by kernel_rfl
theorem mH_fine : fineM mH = true := by kernel_rfl
theorem lv_text : textB [mT, mH] = B lvB := by kernel_rfl
theorem lv_ok : mtsOk [mT, mH] = true := by
 unfold mtsOk
 simp [mT_fine, mH_fine]
theorem lv_read : rdB 12 (B lvB) = some [mT, mH] := (rd_iff _ _).2 ⟨lv_ok, lv_text⟩
def lvF : List Fld := [(⟨#[104, 111, 115, 116]⟩, ⟨#[121]⟩), (⟨#[116, 101, 97, 109]⟩, ⟨#[97]⟩)]
theorem lv_no : fitB ⟨#[120, 46, 42]⟩ ⟨#[121]⟩ = false := by
 have h : fitC (endR ⟨#[120, 46, 42]⟩).sts (runR ⟨#[120, 46, 42]⟩).2.1 (runR ⟨#[120, 46, 42]⟩).2.2 [121] = some false := by kernel_rfl
 rw [← Bool.not_eq_true, fitB_iff]
 rintro ⟨_, h2⟩
 have := (fitC_iff h).2 h2
 cases this
theorem lv_v1 : valueF lvF mT.nm = ⟨#[97]⟩ := by unfold valueF; simp only [bytes_beq]; rfl
theorem lv_v2 : valueF lvF mH.nm = ⟨#[121]⟩ := by unfold valueF; simp only [bytes_beq]; rfl
theorem lv_all : allM lvF [mT, mH] = true := by
 have h1 : fitM lvF mT = true := by
  unfold fitM
  rw [mT_fine, lv_v1]
  unfold opM
  rw [if_pos (show mT.op = 0 from rfl), bytes_beq]
  rfl
 have h2 : fitM lvF mH = true := by
  unfold fitM
  rw [mH_fine, lv_v2]
  unfold opM
  rw [if_neg (by decide), if_neg (by decide), if_neg (by decide)]
  show (!(fitB ⟨#[120, 46, 42]⟩ ⟨#[121]⟩)) = true
  rw [lv_no]
  rfl
 unfold allM
 simp [h1, h2]
theorem lv_none : allM [] [mT, mH] = false := by
 have h1 : fitM [] mT = false := by
  unfold fitM
  rw [mT_fine]
  unfold opM
  rw [if_pos (show mT.op = 0 from rfl), bytes_beq]
  rfl
 unfold allM
 simp [h1]
theorem lv_fit : MtsFit [mT, mH] := by
 intro m hm
 simp at hm
 rcases hm with rfl | rfl <;> (unfold MtFit maxLen; decide)
theorem lvF_fit : FldsFit lvF := by
 intro f hf
 simp [lvF] at hf
 rcases hf with rfl | rfl <;> (constructor <;> (unfold maxLen; decide))
set_option maxHeartbeats 1600000 in
set_option maxRecDepth 100000 in
theorem lives6_any (w : World) : Calls Tryz.prog 11 #[] w fun e w' => e = .returned (.bool true) ∧ Below w.heap.size w w' := by
 have k1 := mread_any lvB w (by decide)
 unfold lvB at k1
 go_enter Tryz.func11, Tryz.ntmps11
 go_wp2_with fail
 refine k1.mono ?_
 rintro e w1 ⟨v, n, rfl, hb1, ⟨rfl, l, hl, hM, hF⟩ | ⟨_, hn, _⟩⟩
 rotate_left
 ·have := lv_read
  unfold lvB at this
  rw [this] at hn
  cases hn
 have hll : l = [mT, mH] := by
  have := lv_read
  unfold lvB at this
  rw [this] at hl
  exact (Option.some.inj hl).symm
 subst hll
 have k2 := mtext_any [mT, mH] v w1 hM hF (by decide)
 have HM := Lib.hid hM
 have HB1 := Lib.hid hb1
 obtain ⟨a, c, rfl, _, _⟩ := RdAt.shape hM
 clear k1 hl hM hF hb1
 go_wp2_with fail
 refine k2.mono ?_
 rintro e w2 ⟨s, n, rfl, hb2, ⟨_, rfl, hs⟩ | ⟨hno, _⟩⟩
 rotate_left
 ·rw [lv_ok] at hno; cases hno
 have hse : s = ⟨#[116, 101, 97, 109, 61, 34, 97, 34, 44, 104, 111, 115, 116, 33, 126, 34, 120, 46, 42, 34]⟩ := by
  have := hs.trans lv_text
  exact B_inj this
 subst hse
 have HM2 := Lib.hid (HM.out.later hb2)
 have HB2 := Lib.hid (HB1.out.trans (hb2.mono HB1.out.size))
 have ka := fun W (h : Below w2.heap.size w2 W) => all_any [] [mT, mH] (.slice none 0 0) _ W (RdAt.nil W 2) (Nat.zero_le _) (fun _ h => by cases h) (HM2.out.later h) (by decide) lv_fit
 have hrow : FldsAt (w2.alloc (.cells #[.string ⟨#[104, 111, 115, 116]⟩, .string ⟨#[121]⟩, .string ⟨#[116, 101, 97, 109]⟩, .string ⟨#[97]⟩] 46)) (.slice (some ⟨w2.heap.size, 0, none⟩) 2 2) lvF :=
  RdAt.mk rfl (Nat.le_refl _) (by rw [World.size_alloc]; omega) (fun j x hj => by
   rw [Nat.zero_add, cell_of_row _ _ _ _ _ _ (heap_alloc_new _ _)]
   simpa [lvF, fldCells] using hj)
 have hba := alloc_below w2 (.cells #[.string ⟨#[104, 111, 115, 116]⟩, .string ⟨#[121]⟩, .string ⟨#[116, 101, 97, 109]⟩, .string ⟨#[97]⟩] 46)
 have kb := all_any lvF [mT, mH] _ _ _ hrow (by decide) lvF_fit (HM2.out.later hba) (by decide) lv_fit
 have HBA := Lib.hid hba
 rw [lv_all] at kb
 simp only [lv_none] at ka
 clear k2 hs hb2 HM HB1 hrow hba
 go_wp2_with fail
 refine kb.mono ?_
 rintro e w4 ⟨rfl, hb4⟩
 have HB4 := Lib.hid (HBA.out.trans (hb4.mono HBA.out.size))
 have kc := ka w4 HB4.out
 clear ka kb hb4
 go_wp2_with fail
 refine kc.mono ?_
 rintro e w5 ⟨rfl, hb5⟩
 have HB5 := Lib.hid (HB2.out.trans ((HB4.out.trans (hb5.mono HB4.out.size)).mono HB2.out.size))
 clear kc hb5
 go_wp2
 go_ret
 exact ⟨rfl, HB5.out⟩
end Go.Proofs.YtgbapkechngnmaaGreat
/- lychgatelaw06.few: a contract. -/
namespace Go.Proofs.YtgbapkechngnmaaGreat
open Go.RowKit
def cutM (m : Mt) : Mt := ⟨m.nm, m.op, m.val.extract 0 (min (m.val.size : Int) 210).toNat⟩
def fewM (l : List Mt) : List Mt := (l.take 15).map cutM
theorem fewM_len (l : List Mt) : (fewM l).length = min 15 l.length := by unfold fewM; simp
theorem fewM_step {l : List Mt} {k : Nat} (hk : k < 15) (hl : k < l.length) : (fewM l).take (k + 1) = (fewM l).take k ++ [cutM l[k]] := by
 have h : k < (fewM l).length := by rw [fewM_len]; omega
 rw [List.take_succ_eq_append_getElem h]
 congr 2
 unfold fewM
 simp
theorem cutM_size (m : Mt) : (cutM m).val.size ≤ 210 := by unfold cutM; rw [ByteArray.size_extract]; omega
theorem fewM_fit {l : List Mt} (h : MtsFit l) : MtsFit (fewM l) := by
 intro m hm
 unfold fewM at hm
 obtain ⟨x, hx, rfl⟩ := List.mem_map.1 hm
 have := h x (List.mem_of_mem_take hx)
 exact ⟨this.1, by have := cutM_size x; unfold maxLen; omega⟩
theorem fewM_le (l : List Mt) : (fewM l).length ≤ 15 := by rw [fewM_len]; omega
set_option maxHeartbeats 1600000 in
set_option maxRecDepth 100000 in
theorem few6_any (l : List Mt) (v : Value) (w : World) (hm : MtsAt w v l) (hl : l.length ≤ maxLen) :
  Calls Tryz.prog 13 #[v] w fun e w' => ∃ v', e = .returned v' ∧ w'.ownsRow w.heap.size 29 3 v' (fewM l).length (mtCells (fewM l)) ∧ Below w.heap.size w w' := by
 obtain ⟨i0, hi0, hz0, hz1, hz2⟩ := info_parts info_mt
 obtain ⟨la, lc, rfl, hc, hr⟩ := RdAt.shape hm
 have HR := Lib.hid hr
 unfold maxLen at hl
 clear hr hm
 go_enter Tryz.func13, Tryz.ntmps13
 go_wp2
 go_loopw [4, 3] (fun vi vo wr => ∃ (k : Nat) (ov : Value), vi = .int .i64 k ∧ ov = vo ∧ k ≤ l.length ∧ k ≤ 15 ∧ Hid (wr.ownsRow w.heap.size 29 3 ov k (mtCells ((fewM l).take k))) ∧ Hid (Below w.heap.size w wr)) (fun v _ _ => 16 - (intOf v).toNat)
 case atStart => exact ⟨0, _, rfl, rfl, Nat.zero_le _, Nat.zero_le _, Lib.hid (World.ownsRow_nil _ _ _ _), Lib.hid (Below.refl _ _)⟩
 case round =>
  obtain ⟨k, ov, rfl, rfl, hk, hk15, HOW, HB⟩ := hrel
  by_cases hkl : k < l.length
  ·have hkl' : (k : Int) < (l.length : Int) := by omega
   by_cases h15 : k < 15
   ·have h15' : (k : Int) < 15 := by omega
    obtain ⟨g, o, rfl, hg, hcell⟩ := HR.out (by omega)
    obtain ⟨x, hx⟩ : ∃ x, l[k] = x := ⟨_, rfl⟩
    obtain ⟨q0, q1, q2⟩ := mtCells_at l k hkl
    rw [hx] at q0 q1 q2
    have p0 := keep_cell (hcell _ _ q0) HB.out hg
    have p1 := keep_cell (hcell _ _ q1) HB.out hg
    have p2 := keep_cell (hcell _ _ q2) HB.out hg
    rw [← Nat.add_assoc] at p1 p2
    have HST := Lib.hid (fewM_step h15 hkl)
    rw [hx] at HST
    have hk0 : (0 : Int) ≤ (k : Int) := by omega
    clear hx q0 q1 q2 hcell
    obtain ⟨nm, op, val⟩ := x
    dsimp only at *
    have hmin0 : (0 : Int) ≤ min (val.size : Int) 210 := by omega
    have hmin1 : min (val.size : Int) 210 ≤ (val.size : Int) := by omega
    go_upto_region 7 with fail
    change Code.wp _ _ _ _ (wr.alloc (.cells #[.string nm, .int .i64 op, .string (val.extract 0 (min (val.size : Int) 210).toNat)] 29))
    generalize hvx : val.extract 0 (min (val.size : Int) 210).toNat = vx at *
    have HST2 : Hid ((fewM l).take (k + 1) = (fewM l).take k ++ [⟨nm, op, vx⟩]) := Lib.hid (by rw [HST.out, ← hvx]; rfl)
    have hba := alloc_below wr (.cells #[.string nm, .int .i64 op, .string vx] 29)
    have m0 : (wr.alloc (.cells #[.string nm, .int .i64 op, .string vx] 29)).cell? ⟨wr.heap.size, 0, none⟩ = some (.string nm) := World.cell?_alloc_at _ _ _ _ rfl
    have m1 : (wr.alloc (.cells #[.string nm, .int .i64 op, .string vx] 29)).cell? ⟨wr.heap.size, 1, none⟩ = some (.int .i64 op) := World.cell?_alloc_at _ _ _ _ rfl
    have m2 : (wr.alloc (.cells #[.string nm, .int .i64 op, .string vx] 29)).cell? ⟨wr.heap.size, 2, none⟩ = some (.string vx) := World.cell?_alloc_at _ _ _ _ rfl
    clear p0 p1 p2 hvx HST hmin0 hmin1
    have HBA := Lib.hid (HB.out.trans (hba.mono HB.out.size))
    have HOA := Lib.hid (own_later HOW.out hba)
    generalize wr.alloc (.cells #[.string nm, .int .i64 op, .string vx] 29) = wa at *
    have hown := own_later HOA.out (alloc_below wa (.cells #[.string nm, .int .i64 op, .string vx] 29))
    have hrow := row_mt wa ⟨nm, op, vx⟩
    have HBX := Lib.hid (HBA.out.trans ((alloc_below wa (.cells #[.string nm, .int .i64 op, .string vx] 29)).mono HBA.out.size))
    have hbase := HBX.out.size
    clear hba HOW HB
    go_wp2_with (at_builtin; (refine wpList_append_rd rfl (.tmp 28) (.tmp 30) 23 rfl w.heap.size 29 i0 (.agg #[.string ⟨#[]⟩, .int .i64 0, .string ⟨#[]⟩]) 3 40 Tryz.underlying23 hi0 hz0 hz1 hz2 rfl (by decide) ov k (mtCells ((fewM l).take k)) rfl hown _ 1 _ rfl hrow (mt1_cells ⟨nm, op, vx⟩) (by unfold maxLen; omega) (by omega) hbase ?_); intro v' w6 hown6 hgrow6; have HO6 := Lib.hid hown6; have HB6 := Lib.hid (HBX.out.grown hgrow6 hbase (fun q hq => (hown.lt q hq).1)); clear hown6 hgrow6)
    go_roundw
    case rel => exact ⟨k + 1, v', by go_num, rfl, by omega, by omega, Lib.hid (by rw [HST2.out, mtCells_append]; exact HO6.out), HB6⟩
    case measure => (simp [intOf]; try omega)
   ·have h15' : ¬ (k : Int) < 15 := by omega
    have h15'' : decide ((k : Int) < 15) = false := decide_eq_false h15'
    have HF : Hid (k = (fewM l).length) := Lib.hid (by rw [fewM_len]; omega)
    go_wp2
    go_ret
    refine ⟨_, rfl, ?_, HB.out⟩
    have := HOW.out
    rw [HF.out, List.take_length] at this
    exact this
  ·have hkl' : ¬ (k : Int) < (l.length : Int) := by omega
   have hkl'' : decide ((k : Int) < (l.length : Int)) = false := decide_eq_false hkl'
   have HF : Hid (k = (fewM l).length) := Lib.hid (by rw [fewM_len]; omega)
   go_wp2
   go_ret
   refine ⟨_, rfl, ?_, HB.out⟩
   have := HOW.out
   rw [HF.out, List.take_length] at this
   exact this
end Go.Proofs.YtgbapkechngnmaaGreat
/- The arguments of chapter 09's laws: alerts, labels, numbers, policies. -/
namespace Go.Proofs.YtgbapkechngnmaaGreat
open Go.RowKit Go.WideShapes Go.ChangeShapes Go.Deep
theorem cell_ltA {w : World} {a : Addr} {v : Value} (h : w.cell? a = some v) : a.block < w.heap.size := by
 rcases Nat.lt_or_ge a.block w.heap.size with h' | h'
 ·exact h'
 ·simp [World.cell?, Array.getElem?_eq_none h'] at h
section
variable {H : Type} {enc : TypeId × Value → H} {P : Program} {w : World} {base : Nat} {spare : Nat → Bool} {held : Bool}
theorem open_slice_structs {t e : TypeId} {fs : Array Field} {fuel : Nat} {cs : List Value} {x : DataW H × List MemPlace} (ht : P.underlying t = some (.slice e)) (he : P.underlying e = some (.struct fs))
  (h : DataW.trod enc P w base spare held fuel t cs = some x) :
  cs = [.slice none 0 0] ∨
  ∃ (a : Addr) (len cap : Nat), cs = [.slice (some a) len cap] ∧ len ≤ cap ∧ cap ≤ maxLen ∧
   ∀ i, i < len → ∃ (es : List Value) (n : Nat), es.length = P.cellsOf e ∧ (∀ j, j < P.cellsOf e → w.cell? (a.add (i * P.cellsOf e + j)) = es[j]?) ∧
    ∀ (j : Nat) (f : Field), fs[j]? = some f → ∃ y, DataW.trod enc P w base spare held n f.type ((es.drop f.offset).take (P.cellsOf f.type)) = some y := by
 rcases open_slice ht h with ⟨h0, _⟩ | ⟨a, len, cap, m, n, D, Pl, hcs, hb, hl, hm, hmm, hx, hi⟩
 ·exact .inl h0
 ·refine .inr ⟨a, len, cap, hcs, hl, hm, fun i hil => ?_⟩
  obtain ⟨cs', hc, ht'⟩ := hi i (by rw [hmm]; split <;> omega)
  obtain ⟨ys, n', hn', hy, hlen, hyl, hf⟩ := DataW.trod_struct he ht'
  obtain ⟨_, hcl, hat⟩ := World.cells?_some hc
  refine ⟨cs', n', by omega, fun j hj => ?_, fun j f hj => ?_⟩
  ·rw [← Go.Deep.add_add]; exact hat j hj
  ·have hjl : j < fs.size := (Array.getElem?_eq_some_iff.1 hj).1
   have h1 := hf j f hj
   exact ⟨_, h1.trans (List.getElem?_eq_getElem (by omega))⟩
end
def ArgFlds (w : World) (v : Value) (fl : List Fld) : Prop := FldsAt w v fl ∧ fl.length ≤ maxLen ∧ FldsFit fl
theorem add_off {b o j : Nat} : (⟨b, o, none⟩ : Addr).add j = ⟨b, o + j, none⟩ := Go.WideShapes.add_plain ..
set_option maxRecDepth 100000 in
theorem flds_of_trod {H : Type} {enc : TypeId × Value → H} {W : World} {n : Nat} {v : Value} {x : DataW H × List MemPlace} (h : DataW.trod enc Tryz.prog W 0 (fun _ => true) true n 22 [v] = some x) : ∃ fl, ArgFlds W v fl := by
 have hC : Tryz.prog.cellsOf 46 = 2 := by kernel_rfl
 have hcs1 : Tryz.prog.cellsOf 9 = 1 := by kernel_rfl
 rcases open_slice_structs Tryz.underlying22 Tryz.underlying46 h with hcs | ⟨a, len, cap, hcs, hl, hm, hf⟩
 ·cases hcs
  exact ⟨[], RdAt.nil W 2, Nat.zero_le _, fun _ h => by cases h⟩
 ·cases hcs
  rw [hC] at hf
  have hone : ∀ i, i < len → ∃ s : Fld, W.cell? (a.add (i * 2)) = some (.string s.1) ∧ W.cell? (a.add (i * 2 + 1)) = some (.string s.2) ∧ s.1.size ≤ maxLen ∧ s.2.size ≤ maxLen := by
   intro i hi
   obtain ⟨es, n, hlen, hat, hfs⟩ := hf i hi
   match es, hlen with
   | [e0, e1], _ =>
    obtain ⟨y0, t0⟩ := hfs 0 _ rfl
    obtain ⟨y1, t1⟩ := hfs 1 _ rfl
    obtain ⟨s0, q0, _, z0⟩ := DataW.trod_string Tryz.underlying9 t0
    obtain ⟨s1, q1, _, z1⟩ := DataW.trod_string Tryz.underlying9 t1
    simp [hcs1] at q0 q1
    subst q0 q1
    exact ⟨(s0, s1), hat 0 (by omega), hat 1 (by omega), z0, z1⟩
  have hg : ∃ g : Nat → Fld, ∀ i, i < len → W.cell? (a.add (i * 2)) = some (.string (g i).1) ∧ W.cell? (a.add (i * 2 + 1)) = some (.string (g i).2) ∧ (g i).1.size ≤ maxLen ∧ (g i).2.size ≤ maxLen :=
   ⟨fun i => if h : i < len then Classical.choose (hone i h) else default, fun i h => by have := Classical.choose_spec (hone i h); simpa only [dif_pos h] using this⟩
  obtain ⟨g, hg⟩ := hg
  have hgl : ((List.range len).map g).length = len := by simp
  refine ⟨(List.range len).map g, ⟨fldCells_len _, .inr ⟨a, cap, by rw [hgl], by omega, fun hn => ?_⟩⟩, by rw [hgl]; omega, fun s hs => ?_⟩
  ·rw [hgl] at hn
   obtain ⟨b, off, spot⟩ := a
   have h0 := (hg 0 hn).1
   have hspot : spot = none := by simpa [Addr.add] using World.cell?_spot h0
   subst hspot
   refine ⟨b, off, rfl, by have := cell_ltA h0; simpa [Addr.add] using this, fun j x hj => ?_⟩
   have hjl := (List.getElem?_eq_some_iff.1 hj).1
   rw [fldCells_len, hgl] at hjl
   obtain ⟨m, r, hr2, rfl⟩ : ∃ m r, r < 2 ∧ j = m * 2 + r := ⟨j / 2, j % 2, Nat.mod_lt _ (by decide), by omega⟩
   obtain ⟨q0, q1⟩ := fldCells_at ((List.range len).map g) m (by rw [hgl]; omega)
   obtain ⟨h1, h2, _⟩ := hg m (by omega)
   simp only [List.getElem_map, List.getElem_range] at q0 q1
   rw [add_off] at h1 h2
   match r, hr2 with
   | 0, _ => rw [Nat.add_zero] at hj ⊢; rw [q0] at hj; rw [← Option.some.inj hj]; exact h1
   | 1, _ => rw [q1] at hj; rw [← Option.some.inj hj]; exact h2
  ·obtain ⟨i, hi, rfl⟩ := List.mem_map.1 hs
   exact (hg i (List.mem_range.1 hi)).2.2
end Go.Proofs.YtgbapkechngnmaaGreat
/- The arguments of chapter 06's laws: fields, matchers. (mts_of_trod: chapter 22's text.) -/
namespace Go.Proofs.YtgbapkechngnmaaGreat
open Go.RowKit Go.WideShapes Go.ChangeShapes Go.Deep
theorem row_cells {W : World} {a : Addr} {len size : Nat} {f : Nat → List Value} (h0 : 0 < size) (hlen : ∀ i, i < len → (f i).length = size) (hat : ∀ i, i < len → ∀ j, j < size → W.cell? (a.add (i * size + j)) = (f i)[j]?) (hp : 0 < len) :
  ∃ b o, a = ⟨b, o, none⟩ ∧ b < W.heap.size ∧ ∀ i, i < len → ∀ j x, (f i)[j]? = some x → W.cell? ⟨b, o + (i * size + j), none⟩ = some x := by
 obtain ⟨b, off, spot⟩ := a
 obtain ⟨x0, hx0⟩ : ∃ x, (f 0)[0]? = some x := ⟨_, List.getElem?_eq_getElem (by rw [hlen 0 hp]; exact h0)⟩
 have hc := hat 0 hp 0 h0
 rw [hx0] at hc
 have hspot : spot = none := by simpa [Addr.add] using World.cell?_spot hc
 subst hspot
 refine ⟨b, off, rfl, by have := cell_ltA hc; simpa [Addr.add] using this, fun i hi j x hx => ?_⟩
 have hj : j < size := by have := (List.getElem?_eq_some_iff.1 hx).1; rw [hlen i hi] at this; exact this
 have := hat i hi j hj
 rw [add_off, hx] at this
 exact this
set_option maxRecDepth 100000 in
theorem mts_of_trod {H : Type} {enc : TypeId × Value → H} {W : World} {n : Nat} {v : Value} {x : DataW H × List MemPlace} (h : DataW.trod enc Tryz.prog W 0 (fun _ => true) true n 23 [v] = some x) : ∃ l, MtsAt W v l ∧ l.length ≤ maxLen ∧ MtsFit l := by
 have hC : Tryz.prog.cellsOf 29 = 3 := by kernel_rfl
 have hcs1 : Tryz.prog.cellsOf 9 = 1 := by kernel_rfl
 have hci : Tryz.prog.cellsOf 3 = 1 := by kernel_rfl
 rcases open_slice_structs Tryz.underlying23 Tryz.underlying29 h with hcs | ⟨a, len, cap, hcs, hl, hm, hf⟩
 ·cases hcs
  exact ⟨[], RdAt.nil W 3, Nat.zero_le _, fun _ h => by cases h⟩
 ·cases hcs
  rw [hC] at hf
  have hone : ∀ i, i < len → ∃ s : Mt, (∀ j, j < 3 → W.cell? (a.add (i * 3 + j)) = (mtC s)[j]?) ∧ MtFit s := by
   intro i hi
   obtain ⟨es, n, hlen, hat, hfs⟩ := hf i hi
   match es, hlen with
   | [e0, e1, e2], _ =>
    obtain ⟨y0, t0⟩ := hfs 0 _ rfl
    obtain ⟨y1, t1⟩ := hfs 1 _ rfl
    obtain ⟨y2, t2⟩ := hfs 2 _ rfl
    obtain ⟨s0, q0, _, z0⟩ := DataW.trod_string Tryz.underlying9 t0
    obtain ⟨k1, q1, _, _⟩ := DataW.trod_int Tryz.underlying3 t1
    obtain ⟨s2, q2, _, z2⟩ := DataW.trod_string Tryz.underlying9 t2
    simp [hcs1] at q0 q2
    simp [hci] at q1
    subst q0 q1 q2
    exact ⟨⟨s0, k1, s2⟩, hat, z0, z2⟩
  have hg : ∃ g : Nat → Mt, ∀ i, i < len → (∀ j, j < 3 → W.cell? (a.add (i * 3 + j)) = (mtC (g i))[j]?) ∧ MtFit (g i) :=
   ⟨fun i => if h : i < len then Classical.choose (hone i h) else default, fun i h => by have := Classical.choose_spec (hone i h); simpa only [dif_pos h] using this⟩
  obtain ⟨g, hg⟩ := hg
  have hgl : ((List.range len).map g).length = len := by simp
  refine ⟨(List.range len).map g, ⟨mtCells_len _, .inr ⟨a, cap, by rw [hgl], by omega, fun hn => ?_⟩⟩, by rw [hgl]; omega, fun s hs => ?_⟩
  ·rw [hgl] at hn
   obtain ⟨b, o, rfl, hlt, hcell⟩ := row_cells (f := fun i => mtC (g i)) (size := 3) (by decide) (fun _ _ => rfl) (fun i hi => (hg i hi).1) hn
   refine ⟨b, o, rfl, hlt, fun j x hj => ?_⟩
   have hjl := (List.getElem?_eq_some_iff.1 hj).1
   rw [mtCells_len, hgl] at hjl
   obtain ⟨m, r, hr3, rfl⟩ : ∃ m r, r < 3 ∧ j = m * 3 + r := ⟨j / 3, j % 3, Nat.mod_lt _ (by decide), by omega⟩
   obtain ⟨q0, q1, q2⟩ := mtCells_at ((List.range len).map g) m (by rw [hgl]; omega)
   simp only [List.getElem_map, List.getElem_range] at q0 q1 q2
   refine hcell m (by omega) r x ?_
   match r, hr3 with
   | 0, _ => rw [Nat.add_zero, q0] at hj; exact hj
   | 1, _ => rw [q1] at hj; exact hj
   | 2, _ => rw [q2] at hj; exact hj
  ·obtain ⟨i, hi, rfl⟩ := List.mem_map.1 hs
   exact (hg i (List.mem_range.1 hi)).2
set_option maxRecDepth 100000 in
theorem flds_of_arg {H : Type} {enc : TypeId × Value → H} {W : World} {base : Nat} {v : Value} {d : DataW H} {p : List MemPlace} (hval : Value.okWide Tryz.prog W .any base 22 v) (h : DataW.Trod enc Tryz.prog W 0 (fun _ => true) true 22 v d p) : ∃ l, ArgFlds W v l := by
 obtain ⟨a0, len, cap, rfl⟩ := okWide_slice Tryz.underlying22 hval
 obtain ⟨fuel, hf⟩ := h
 exact flds_of_trod hf
def ArgMts (w : World) (v : Value) (l : List Mt) : Prop := MtsAt w v l ∧ l.length ≤ maxLen ∧ MtsFit l
set_option maxRecDepth 100000 in
theorem mts_of_arg {H : Type} {enc : TypeId × Value → H} {W : World} {base : Nat} {v : Value} {d : DataW H} {p : List MemPlace} (hval : Value.okWide Tryz.prog W .any base 23 v) (h : DataW.Trod enc Tryz.prog W 0 (fun _ => true) true 23 v d p) : ∃ l, ArgMts W v l := by
 obtain ⟨a0, len, cap, rfl⟩ := okWide_slice Tryz.underlying23 hval
 obtain ⟨fuel, hf⟩ := h
 exact mts_of_trod hf
end Go.Proofs.YtgbapkechngnmaaGreat
/- Several parts in one: lychgateref06.With: a contract. lychgateref06.Good: a contract: fields that may be. lychgateref09.Good: a contract. -/
namespace Go.Proofs.YtgbapkechngnmaaGreat
open Go.RowKit
theorem fit_snoc {L : List Fld} {x y : ByteArray} (h : FldsFit L) (hx : x.size ≤ maxLen) (hy : y.size ≤ maxLen) : FldsFit (L ++ [(x, y)]) := fun f hf => by
 rcases List.mem_append.1 hf with h' | h'
 ·exact h f h'
 ·simp only [List.mem_singleton] at h'
  subst h'
  exact ⟨hx, hy⟩
def withS (nm val : ByteArray) (s : List Fld × Bool) (f : Fld) : List Fld × Bool :=
 let s1 := if !s.2 && !ltS f.1 nm then (s.1 ++ [(nm, val)], true) else s
 if f.1 = nm then s1 else (s1.1 ++ [f], s1.2)
def withK (l : List Fld) (nm val : ByteArray) (k : Nat) : List Fld × Bool := (l.take k).foldl (withS nm val) ([], false)
def withL (l : List Fld) (nm val : ByteArray) : List Fld := if (withK l nm val l.length).2 then (withK l nm val l.length).1 else (withK l nm val l.length).1 ++ [(nm, val)]
theorem withK_step {l : List Fld} {nm val : ByteArray} {k : Nat} (h : k < l.length) : withK l nm val (k + 1) = withS nm val (withK l nm val k) l[k] := by
 unfold withK
 rw [List.take_succ_eq_append_getElem h, List.foldl_append]
 rfl
theorem rd_fld (w : World) (x y : ByteArray) (t : TypeId) : RdAt (w.alloc (.cells #[.string x, .string y] t)) (.slice (some ⟨w.heap.size, 0, none⟩) 1 1) 1 2 [.string x, .string y] := by
 refine RdAt.mk rfl (Nat.le_refl _) (by simp) (fun j v hj => ?_)
 rw [Nat.zero_add]
 exact (World.cell?_alloc_at _ _ _ _ rfl).trans (by
  match j, hj with
  | 0, hj => exact hj
  | 1, hj => exact hj
  | j + 2, hj => simp at hj)
set_option maxHeartbeats 1600000 in
set_option maxRecDepth 100000 in
theorem rwith_any (l : List Fld) (nm val : ByteArray) (w : World) (v : Value) (hv : FldsAt w v l) (hf : FldsFit l) (hl : l.length ≤ 1000) (hnm : nm.size ≤ maxLen) (hval : val.size ≤ maxLen) :
  Calls Tryz.prog 35 #[v, .string nm, .string val] w fun e w' => ∃ v', e = .returned v' ∧ FldsAt w' v' (withL l nm val) ∧ FldsFit (withL l nm val) ∧ (withL l nm val).length ≤ 2 * l.length + 1 ∧ (∀ q, v'.ownBlock = some q → w.heap.size ≤ q) ∧ Below w.heap.size w w' := by
 obtain ⟨i0, hi, hz0, hz1, hz2⟩ := info_parts info_fld
 obtain ⟨a, c, rfl, hc, hr⟩ := RdAt.shape hv
 have HR := Lib.hid hr
 have HF := Lib.hid hf
 clear hr hv hf
 go_enter Tryz.func35, Tryz.ntmps35
 go_wp2
 go_loopw [7, 8, 9] (fun s7 s8 i wr => ∃ (k : Nat) (L : List Fld) (d : Bool), s8 = .bool d ∧ i = .int .i64 k ∧ k ≤ l.length ∧ wr.ownsRow w.heap.size 46 2 s7 L.length (fldCells L) ∧ FldsFit L ∧ L.length ≤ 2 * k ∧ Hid (withK l nm val k = (L, d)) ∧ Below w.heap.size w wr) (fun _ _ i _ => l.length - (intOf i).toNat)
 case atStart => exact ⟨0, [], false, rfl, rfl, Nat.zero_le _, World.ownsRow_nil _ _ _ _, (fun _ h => by cases h), Nat.zero_le _, Lib.hid rfl, Below.refl _ _⟩
 case round =>
  obtain ⟨k, L, d, rfl, rfl, hk, hown, hfit, hlen, HWK, hbr⟩ := hrel
  obtain ⟨va, vc, rfl, _, _⟩ := RdAt.shape (RdAt.own hown)
  by_cases hkl : k < l.length
  ·obtain ⟨b, o, rfl, hb, hcell⟩ := HR.out (by omega)
   obtain ⟨x, hxe⟩ : ∃ x, l[k].1 = x := ⟨_, rfl⟩
   obtain ⟨y, hye⟩ : ∃ y, l[k].2 = y := ⟨_, rfl⟩
   have hfs := HF.out _ (List.getElem_mem hkl)
   rw [hxe, hye] at hfs
   obtain ⟨hx0, hy0⟩ := fldCells_at l k hkl
   rw [hxe] at hx0
   rw [hye] at hy0
   have hq0 : ∀ W, Below w.heap.size w W → W.cell? ⟨b, o + k * 2, none⟩ = some (.string x) := fun W h => keep_cell (hcell _ _ hx0) h hb
   have hq1 : ∀ W, Below w.heap.size w W → W.cell? ⟨b, o + k * 2 + 1, none⟩ = some (.string y) := fun W h => keep_cell (by have := hcell _ _ hy0; rwa [← Nat.add_assoc] at this) h hb
   have HQ0 := Lib.hid hq0
   have HQ1 := Lib.hid hq1
   have HFX := Lib.hid hfs
   have hws := withK_step (nm := nm) (val := val) hkl
   rw [show l[k] = (x, y) by rw [← hxe, ← hye], HWK.out] at hws
   have HWS := Lib.hid hws
   clear hcell hx0 hy0 hxe hye hq0 hq1 hfs hws
   have hah := fun W => rahead_any x nm W HFX.out.1
   obtain ⟨lt, hlt⟩ : ∃ lt, ltS x nm = lt := ⟨_, rfl⟩
   simp only [hlt] at hah
   have HLT := Lib.hid hlt
   have a0 := HQ0.out wr hbr
   have HO := Lib.hid hown
   have HB := Lib.hid hbr
   clear hlt hown hbr
   go_upto_region 6 with fail
   go_cut [27] (fun s27 wx => s27 = .bool (!d && !lt) ∧ wx.ownsRow w.heap.size 46 2 (.slice va L.length vc) L.length (fldCells L) ∧ Below w.heap.size w wx)
   case first =>
    cases d
    ·go_wp2_with fail
     refine (hah _).mono ?_
     rintro e w1 ⟨rfl, hb1⟩
     cases lt
     ·go_wp2
      go_meet
      exact ⟨rfl, own_later HO.out hb1, HB.out.trans (hb1.mono HB.out.size)⟩
     ·go_wp2
      go_meet
      exact ⟨rfl, own_later HO.out hb1, HB.out.trans (hb1.mono HB.out.size)⟩
    ·clear hah
     go_wp2
     go_meet
     exact ⟨rfl, HO.out, HB.out⟩
   case rest =>
    obtain ⟨rfl, hown, hbr⟩ := hcut
    clear a0 hah HO HB
    obtain ⟨q, hq⟩ : ∃ q, (!d && !lt) = q := ⟨_, rfl⟩
    have HQQ := Lib.hid hq
    rw [hq]
    clear hq
    have HO := Lib.hid hown
    have HB := Lib.hid hbr
    clear hown hbr
    go_upto_if 27 with fail
    go_cut [7, 8] (fun s7 s8 wx => ∃ (L2 : List Fld) (d2 : Bool), s8 = .bool d2 ∧ wx.ownsRow w.heap.size 46 2 s7 L2.length (fldCells L2) ∧ FldsFit L2 ∧ L2.length ≤ L.length + 1 ∧ Hid ((if q then (L ++ [(nm, val)], true) else (L, d)) = (L2, d2)) ∧ Below w.heap.size w wx)
    case first =>
     cases q
     ·go_wp2
      go_meet
      exact ⟨L, d, rfl, HO.out, hfit, Nat.le_succ _, Lib.hid rfl, HB.out⟩
     ·have hown9 := HO.out.alloc (.cells #[.string nm, .string val] 46)
      have hrd := rd_fld wc nm val 46
      go_wp2_with (at_builtin; (refine wpList_append_rd rfl (.tmp 28) (.tmp 32) 22 rfl w.heap.size 46 i0 (.agg #[.string ⟨#[]⟩, .string ⟨#[]⟩]) 2 32 Tryz.underlying22 hi hz0 hz1 hz2 rfl (by decide) _ _ _ rfl hown9 _ 1 [.string nm, .string val] rfl hrd (by simp [Value.oneCell']) (by unfold maxLen; omega) (by omega) (by have := HB.out.size; simp; omega) ?_); intro v' w8 hown' hg8)
      have hB8 : Below w.heap.size w w8 := (HB.out.alloc HB.out.size _).grown hg8 (by have := HB.out.size; simp; omega) (fun j e => (hown9.lt j e).1)
      go_wp2
      go_meet
      exact ⟨L ++ [(nm, val)], true, rfl, by rw [List.length_append, fldCells_append]; exact hown', fit_snoc hfit hnm hval, by simp, Lib.hid rfl, hB8⟩
    case rest =>
     obtain ⟨L2, d2, rfl, hown, hfit2, hlen2, HIF, hbr⟩ := hcut
     have HWN : Hid (withK l nm val (k + 1) = (if x = nm then (L2, d2) else (L2 ++ [(x, y)], d2))) := by
      show _ = _
      rw [HWS.out]
      unfold withS
      simp only [HLT.out, HQQ.out, HIF.out]
     clear HIF HWS
     clear HO HB
     obtain ⟨vb, vd, rfl, _, _⟩ := RdAt.shape (RdAt.own hown)
     have a0 := HQ0.out _ hbr
     have a1 := HQ1.out _ hbr
     have HO := Lib.hid hown
     have HB := Lib.hid hbr
     clear hown hbr
     by_cases hxn : x = nm
     ·have hbq : (x.toList == nm.toList) = true := bytes_eq_iff.2 hxn
      rw [if_pos hxn] at HWN
      clear hxn
      go_wp2
      go_roundw
      case rel => exact ⟨k + 1, L2, d2, rfl, by go_num, by omega, HO.out, hfit2, by omega, HWN, HB.out⟩
      case measure => (simp [intOf]; try omega)
     ·have hbq : (x.toList == nm.toList) = false := by rw [bytes_beq]; exact decide_eq_false hxn
      rw [if_neg hxn] at HWN
      clear hxn
      have hown9 := HO.out.alloc (.cells #[.string x, .string y] 46)
      have hrd := rd_fld wc x y 46
      go_wp2_with (at_builtin; (refine wpList_append_rd rfl (.tmp 41) (.tmp 46) 22 rfl w.heap.size 46 i0 (.agg #[.string ⟨#[]⟩, .string ⟨#[]⟩]) 2 32 Tryz.underlying22 hi hz0 hz1 hz2 rfl (by decide) _ _ _ rfl hown9 _ 1 [.string x, .string y] rfl hrd (by simp [Value.oneCell']) (by unfold maxLen; omega) (by omega) (by have := HB.out.size; simp; omega) ?_); intro v' w8 hown' hg8)
      have hB8 : Below w.heap.size w w8 := (HB.out.alloc HB.out.size _).grown hg8 (by have := HB.out.size; simp; omega) (fun j e => (hown9.lt j e).1)
      go_wp2
      go_roundw
      case rel => exact ⟨k + 1, L2 ++ [(x, y)], d2, rfl, by go_num, by omega, by rw [List.length_append, fldCells_append]; exact hown', fit_snoc hfit2 HFX.out.1 HFX.out.2, by simp; omega, HWN, hB8⟩
      case measure => (simp [intOf]; try omega)
  ·obtain rfl : k = l.length := by omega
   have HWL : Hid (withL l nm val = (if d then L else L ++ [(nm, val)])) := by show _ = _; unfold withL; rw [HWK.out]
   have HO := Lib.hid hown
   have HB := Lib.hid hbr
   clear hown hbr
   cases d
   ·have hown9 := HO.out.alloc (.cells #[.string nm, .string val] 46)
    have hrd := rd_fld wr nm val 46
    go_wp2_with (at_builtin; (refine wpList_append_rd rfl (.tmp 50) (.tmp 54) 22 rfl w.heap.size 46 i0 (.agg #[.string ⟨#[]⟩, .string ⟨#[]⟩]) 2 32 Tryz.underlying22 hi hz0 hz1 hz2 rfl (by decide) _ _ _ rfl hown9 _ 1 [.string nm, .string val] rfl hrd (by simp [Value.oneCell']) (by unfold maxLen; omega) (by omega) (by have := HB.out.size; simp; omega) ?_); intro v' w8 hown' hg8)
    have hB8 : Below w.heap.size w w8 := (HB.out.alloc HB.out.size _).grown hg8 (by have := HB.out.size; simp; omega) (fun j e => (hown9.lt j e).1)
    go_wp2
    go_ret
    have hr8 := RdAt.own hown'
    rw [show (1 : Nat) = [(nm, val)].length from rfl, ← List.length_append] at hr8
    refine ⟨_, rfl, ?_⟩
    rw [HWL.out]
    exact ⟨by simp only [Bool.false_eq_true, if_false]; unfold FldsAt; rw [fldCells_append]; exact hr8, fit_snoc hfit hnm hval, by simp; omega, fun q hq => (hown'.lt q hq).1, hB8⟩
   ·go_wp2
    go_ret
    refine ⟨_, rfl, ?_⟩
    rw [HWL.out]
    exact ⟨RdAt.own HO.out, hfit, by simp; omega, fun q hq => (HO.out.lt q hq).1, HB.out⟩
end Go.Proofs.YtgbapkechngnmaaGreat
namespace Go.Proofs.YtgbapkechngnmaaGreat
open Go.RowKit
theorem rightF_nil : rightF [] = true := by decide
theorem rightF_len {L : List Fld} (h : rightF L = true) : L.length ≤ 8 := by
 unfold rightF at h
 simp only [Bool.and_eq_true, decide_eq_true_eq] at h
 exact h.1
def goodS (out : List Fld) (f : Fld) : List Fld := if rightF (withL out f.1 (f.2.extract 0 (min f.2.size 30))) then withL out f.1 (f.2.extract 0 (min f.2.size 30)) else out
def goodK (l : List Fld) (k : Nat) : List Fld := (l.take k).foldl goodS []
def goodF (l : List Fld) : List Fld := goodK l 12
theorem goodK_step {l : List Fld} {k : Nat} (h : k < l.length) : goodK l (k + 1) = goodS (goodK l k) l[k] := by
 unfold goodK
 rw [List.take_succ_eq_append_getElem h, List.foldl_append]
 rfl
theorem goodK_end {l : List Fld} {k : Nat} (h : k ≤ 12) (h2 : 12 ≤ k ∨ l.length ≤ k) : goodF l = goodK l k := by
 unfold goodF goodK
 rcases h2 with h2 | h2
 ·rw [show k = 12 by omega]
 ·rw [List.take_of_length_le h2, List.take_of_length_le (Nat.le_trans h2 h)]
set_option maxHeartbeats 1600000 in
set_option maxRecDepth 100000 in
theorem rgood6_any (l : List Fld) (w : World) (v : Value) (hv : FldsAt w v l) (hf : FldsFit l) (hl : l.length ≤ maxLen) :
  Calls Tryz.prog 12 #[v] w fun e w' => ∃ v', e = .returned v' ∧ FldsAt w' v' (goodF l) ∧ FldsFit (goodF l) ∧ rightF (goodF l) = true ∧ (∀ q, v'.ownBlock = some q → w.heap.size ≤ q) ∧ Below w.heap.size w w' := by
 obtain ⟨a, c, rfl, hc, hr⟩ := RdAt.shape hv
 have HR := Lib.hid hr
 have HF := Lib.hid hf
 have hl63 : l.length < 9223372036854775808 := by unfold maxLen at hl; omega
 clear hr hv hf hl
 go_enter Tryz.func12, Tryz.ntmps12
 go_wp2
 go_loopw [3, 4] (fun s3 i wr => ∃ (k : Nat) (L : List Fld), i = .int .i64 k ∧ k ≤ l.length ∧ k ≤ 12 ∧ Hid (goodK l k = L) ∧ FldsAt wr s3 L ∧ FldsFit L ∧ rightF L = true ∧ (∀ q, s3.ownBlock = some q → w.heap.size ≤ q) ∧ Below w.heap.size w wr) (fun _ i _ => l.length - (intOf i).toNat)
 case atStart => exact ⟨0, [], rfl, Nat.zero_le _, Nat.zero_le _, Lib.hid rfl, RdAt.nil _ _, (fun _ h => by cases h), rightF_nil, (fun q hq => by simp [Value.ownBlock] at hq), Below.refl _ _⟩
 case round =>
  obtain ⟨k, L, rfl, hk, hk12, HGK, hL, hfit, hright, hown, hbr⟩ := hrel
  obtain ⟨va, vc, rfl, _, _⟩ := RdAt.shape hL
  have HL := Lib.hid hL
  have HRT := Lib.hid hright
  have HFT := Lib.hid hfit
  have HOW := Lib.hid hown
  clear hL hright hfit hown
  by_cases hkl : k < l.length
  ·by_cases h12 : k < 12
   ·obtain ⟨b, o, rfl, hb, hcell⟩ := HR.out (by omega)
    obtain ⟨x, hxe⟩ : ∃ x, l[k].1 = x := ⟨_, rfl⟩
    obtain ⟨y, hye⟩ : ∃ y, l[k].2 = y := ⟨_, rfl⟩
    have hfs := HF.out _ (List.getElem_mem hkl)
    rw [hxe, hye] at hfs
    obtain ⟨hx0, hy0⟩ := fldCells_at l k hkl
    rw [hxe] at hx0
    rw [hye] at hy0
    have a0 : wr.cell? ⟨b, o + k * 2, none⟩ = some (.string x) := keep_cell (hcell _ _ hx0) hbr hb
    have a1 : wr.cell? ⟨b, o + k * 2 + 1, none⟩ = some (.string y) := keep_cell (by have := hcell _ _ hy0; rwa [← Nat.add_assoc] at this) hbr hb
    have hwb : b < wr.heap.size := Nat.lt_of_lt_of_le hb hbr.size
    have HFX := Lib.hid hfs
    have hys : y.size ≤ 9223372036854775807 := by have := hfs.2; unfold maxLen at this; omega
    obtain ⟨m, hm, hm1, hm2, hm3⟩ : ∃ m : Nat, min y.size 30 = m ∧ m ≤ 30 ∧ m ≤ y.size ∧ min (y.size : Int) 30 = (m : Int) := ⟨min y.size 30, rfl, by omega, by omega, by omega⟩
    have HGS : Hid (goodK l (k + 1) = if rightF (withL L x (y.extract 0 m)) then withL L x (y.extract 0 m) else L) := by
     show _ = _
     rw [goodK_step hkl, HGK.out, show l[k] = (x, y) by rw [← hxe, ← hye]]
     unfold goodS
     simp only [hm]
    clear hm HGK
    have hwith : ∀ (val : ByteArray) W, val.size ≤ maxLen → Below wr.heap.size wr W → Calls Tryz.prog 35 #[.slice va L.length vc, .string x, .string val] W fun e w' => ∃ v', e = .returned v' ∧ FldsAt w' v' (withL L x val) ∧ FldsFit (withL L x val) ∧ (withL L x val).length ≤ 2 * L.length + 1 ∧ (∀ q, v'.ownBlock = some q → W.heap.size ≤ q) ∧ Below W.heap.size W w' := fun val W hval h =>
     rwith_any L x val W _ (HL.out.later h) HFT.out (by have := rightF_len HRT.out; omega) HFX.out.1 hval
    have HWI := Lib.hid hwith
    have HB := Lib.hid hbr
    clear hcell hx0 hy0 hxe hye hfs hwith hbr
    go_upto_region 5 with fail
    refine wp_region_held_drew (S := (fun W => W.cell? ⟨b, o + k * 2, none⟩ = some (.string x) ∧ W.cell? ⟨b, o + k * 2 + 1, none⟩ = some (.string y))) (by kernel_rfl) ⟨a0, a1⟩ (fun hHeld => ?_)
    refine plIn [0, 1, 2, 3, 4, 5, 6, 7, 8, 9, 10, 11, 12, 13, 14, 15, 16, 17, 18] ?_
    iterate 19
     refine hP (v := ?_) rfl rfl hHeld ?_ ?_
     rotate_left
     ·rintro wh ⟨z0, z1⟩
      go_simp
      (try with_reducible rfl)
     simp only [Act.put, List.setIfInBounds_toArray, List.set_cons_zero, List.set_cons_succ]
    refine plOut ?_
    refine held_call (i := 19) rfl (by kernel_rfl) (by rfl) (fun K hK => ?_)
    (go_simp; go_at_call 35; refine (HWI.out _ _ ?_ (Below.refl _ wr).drew).mono ?_; (· rw [ByteArray.size_extract]; unfold maxLen; omega); rintro e w1 ⟨v1, rfl, hF1, hfit1, hlen1, hown1, hb1⟩; have hB1 : Below wr.heap.size wr w1 := ((Below.refl _ _).drew).trans hb1)
    refine hK.out _ _ ⟨keep_cell a0 hB1 hwb, keep_cell a1 hB1 hwb⟩ (fun hHeld => ?_)
    clear hK K
    (try simp only [Act.put, List.setIfInBounds_toArray, List.set_cons_zero, List.set_cons_succ])
    refine hT (i := 20) (v := ?_) rfl rfl hHeld ?_ ?_
    rotate_left
    ·rintro wh ⟨z0, z1⟩
     go_simp
     (try with_reducible rfl)
    simp only [Act.put, List.setIfInBounds_toArray, List.set_cons_zero, List.set_cons_succ]
    refine wpAnyH_done (by kernel_rfl) ?_ _
    have HB1 := Lib.hid (HB.out.trans (hB1.mono HB.out.size))
    generalize withL L x (y.extract 0 m) = L1 at *
    have hL1 := HL.out.later hB1
    have hlen17 := rightF_len HRT.out
    have kr := rright6_any L1 w1 v1 hF1 hfit1 (by unfold maxLen; omega)
    obtain ⟨q, hq⟩ : ∃ q, rightF L1 = q := ⟨_, rfl⟩
    rw [hq] at kr
    obtain ⟨vb, vd, rfl, _, _⟩ := RdAt.shape hF1
    have HF1 := Lib.hid hF1
    have HO1 : Hid (∀ q, (Value.slice vb L1.length vd).ownBlock = some q → w.heap.size ≤ q) := Lib.hid (fun q hq => Nat.le_trans HB.out.size (hown1 q hq))
    clear hown1
    have HFT1 := Lib.hid hfit1
    have HQ := Lib.hid hq
    have HL1 := Lib.hid hL1
    clear hB1 hb1 hF1 hfit1 hlen1 hq hL1 hlen17 a0 a1 HWI HB hm1 hm2 hm3 hys
    go_wp2_with fail
    refine kr.mono ?_
    rintro e w2 ⟨rfl, hb2⟩
    have HF2 := Lib.hid (HF1.out.later hb2)
    have HL2 := Lib.hid (HL1.out.later hb2)
    have HB2 := Lib.hid (HB1.out.trans (hb2.mono HB1.out.size))
    clear kr hb2 HF1 HL1 HB1
    cases q
    ·go_wp2
     go_roundw
     case rel => exact ⟨k + 1, L, by go_num, by omega, by omega, Lib.hid (by rw [HGS.out, HQ.out]; rfl), HL2.out, HFT.out, HRT.out, HOW.out, HB2.out⟩
     case measure => (simp [intOf]; try omega)
    ·go_wp2
     go_roundw
     case rel => exact ⟨k + 1, L1, by go_num, by omega, by omega, Lib.hid (by rw [HGS.out, HQ.out]; rfl), HF2.out, HFT1.out, HQ.out, HO1.out, HB2.out⟩
     case measure => (simp [intOf]; try omega)
   ·have h12' : (12 : Int) ≤ (k : Int) := by omega
    have HE : Hid (goodF l = L) := by show _ = _; rw [goodK_end hk12 (.inl (by omega)), HGK.out]
    go_wp2
    go_ret
    exact ⟨_, rfl, by rw [HE.out]; exact HL.out, by rw [HE.out]; exact HFT.out, by rw [HE.out]; exact HRT.out, HOW.out, hbr⟩
  ·obtain rfl : k = l.length := by omega
   have HE : Hid (goodF l = L) := by show _ = _; rw [goodK_end hk12 (.inr (Nat.le_refl _)), HGK.out]
   go_wp2
   go_ret
   exact ⟨_, rfl, by rw [HE.out]; exact HL.out, by rw [HE.out]; exact HFT.out, by rw [HE.out]; exact HRT.out, HOW.out, hbr⟩
end Go.Proofs.YtgbapkechngnmaaGreat
namespace Go.Proofs.YtgbapkechngnmaaGreat
open Go.RowKit
theorem rd_puts' {w : World} {v : Value} {n k : Nat} {xs : List Value} (h : RdAt w v n k xs) {g o : Nat} (hg : 0 < n → ∀ q, v.ownBlock = some q → q ≠ g) (vs : List Value) : RdAt (w.setCells g o vs) v n k xs := by
 refine ⟨h.1, ?_⟩
 rcases h.2 with h | ⟨a, c, rfl, hc, hr⟩
 ·exact .inl h
 ·refine .inr ⟨a, c, rfl, hc, fun hn => ?_⟩
  obtain ⟨b, o', rfl, hlt, hcell⟩ := hr hn
  have hne := hg hn b rfl
  refine ⟨b, o', rfl, Nat.lt_of_lt_of_le hlt (below_puts_base (g := g) (o := o) (Below.refl 0 w) (Nat.zero_le _) vs).size, fun j x hx => ?_⟩
  rw [World.cell?_setCells_out _ _ _ _ _ (fun hb _ => absurd hb hne)]
  exact hcell j x hx
structure GSt (w : World) (go : Nat) (src : ByteArray) (fa : Value) (lv : Int) (c : Nat) (fr til : Int) (vo : Value) (L : List Fld) (s' : ByteArray) (l' f' t' : Int) (W : World) : Prop where
 a : C6 w.heap.size (.string src) fa (.int .i64 lv) (.int .u32 c) (.int .i64 fr) (.int .i64 til) W
 o : C6 go (.string s') vo (.int .i64 l') (.int .u32 c) (.int .i64 f') (.int .i64 t') W
 oth : W.there go 0 6
 rth : W.there (w.heap.size + 1) 0 6
 f : FldsAt W vo L
 far : 0 < L.length → ∀ q, vo.ownBlock = some q → q ≠ go ∧ q ≠ w.heap.size + 1 ∧ w.heap.size ≤ q
 ge : w.heap.size + 2 ≤ go
 lt : go < W.heap.size
 below : Below w.heap.size w W
theorem GSt.later {w W W' : World} {go : Nat} {src : ByteArray} {fa : Value} {lv : Int} {c : Nat} {fr til : Int} {vo : Value} {L : List Fld} {s' : ByteArray} {l' f' t' : Int} (h : GSt w go src fa lv c fr til vo L s' l' f' t' W) (hb : Below W.heap.size W W') : GSt w go src fa lv c fr til vo L s' l' f' t' W' := by
 have h1 := h.lt
 have h2 := h.ge
 exact ⟨h.a.later hb (by omega), h.o.later hb h1, there_later h.oth hb h1, there_later h.rth hb (by omega), h.f.later hb, h.far, h2, Nat.lt_of_lt_of_le h1 hb.size, h.below.trans (hb.mono h.below.size)⟩
section
variable {w W : World} {go : Nat} {src : ByteArray} {fa : Value} {lv : Int} {c : Nat} {fr til : Int} {vo : Value} {L : List Fld} {s' : ByteArray} {l' f' t' : Int}
theorem GSt.put (h : GSt w go src fa lv c fr til vo L s' l' f' t' W) (j : Nat) (x : Value) {s2 : ByteArray} {l2 f2 t2 : Int} (ho : C6 go (.string s2) vo (.int .i64 l2) (.int .u32 c) (.int .i64 f2) (.int .i64 t2) (W.setCells go j [x])) : GSt w go src fa lv c fr til vo L s2 l2 f2 t2 (W.setCells go j [x]) := by
 have h2 := h.ge
 exact ⟨c6_out h.a (by omega) j [x], ho, World.there_setCells h.oth go j [x], World.there_setCells h.rth go j [x], rd_puts' h.f (fun h0 q hq => (h.far h0 q hq).1) [x], h.far, h2,
  Nat.lt_of_lt_of_le h.lt (below_puts_base (g := go) (o := j) (Below.refl 0 W) (Nat.zero_le _) [x]).size, below_puts h.below (by omega) [x]⟩
end
end Go.Proofs.YtgbapkechngnmaaGreat
/- Fields with one, without one, of some names, plainly. -/
namespace Go.Proofs.YtgbapkechngnmaaGreat
open Go.RowKit
/-! ### texts in their order -/
theorem lessW_trans : ∀ (a b c : List UInt8), Op.bytesLess a b = true → Op.bytesLess b c = true → Op.bytesLess a c = true
 | _, b, [], _, h => by cases b <;> simp [Op.bytesLess] at h
 | a, [], _ :: _, h, _ => by cases a <;> simp [Op.bytesLess] at h
 | [], _ :: _, _ :: _, _, _ => rfl
 | x :: a, y :: b, z :: c, h1, h2 => by
  simp only [Op.bytesLess, Bool.or_eq_true, Bool.and_eq_true, beq_iff_eq, decide_eq_true_eq] at h1 h2 ⊢
  rcases h1 with h1 | ⟨rfl, h1⟩
  ·rcases h2 with h2 | ⟨rfl, h2⟩
   ·exact .inl (UInt8.lt_trans h1 h2)
   ·exact .inl h1
  ·rcases h2 with h2 | ⟨rfl, h2⟩
   ·exact .inl h2
   ·exact .inr ⟨rfl, lessW_trans a b c h1 h2⟩
theorem ltW_trans {a b c : ByteArray} (h1 : ltS a b = true) (h2 : ltS b c = true) : ltS a c = true := lessW_trans _ _ _ h1 h2
def SortF (l : List Fld) : Prop := l.Pairwise fun a b => ltS a.1 b.1 = true
/-! ### right fields -/
theorem rightW_ok {l : List Fld} (h : rightF l = true) {j : Nat} (hj : j < l.length) : fldOk l j = true := by
 unfold rightF at h
 simp only [Bool.and_eq_true, List.all_eq_true, List.mem_range] at h
 exact h.2 j hj
theorem right_iff (l : List Fld) : rightF l = true ↔ l.length ≤ 8 ∧ SortF l ∧ ∀ f ∈ l, nameL (B f.1) = true ∧ f.2.size ≤ 200 := by
 constructor
 ·intro h
  have h8 : l.length ≤ 8 := by
   unfold rightF at h
   simp only [Bool.and_eq_true, decide_eq_true_eq] at h
   exact h.1
  have hok : ∀ j (hj : j < l.length), nameL (B l[j].1) = true ∧ l[j].2.size ≤ 200 ∧ (j = 0 ∨ ltS (l.getD (j - 1) default).1 l[j].1 = true) := fun j hj => by
   have := rightW_ok h hj
   unfold fldOk at this
   simp only [Bool.and_eq_true, Bool.or_eq_true, decide_eq_true_eq, List.getD_eq_getElem?_getD, List.getElem?_eq_getElem hj, Option.getD_some] at this
   exact ⟨this.1.1, this.1.2, by rw [List.getD_eq_getElem?_getD]; exact this.2⟩
  refine ⟨h8, ?_, fun f hf => ?_⟩
  ·have step : ∀ j (hj : j + 1 < l.length), ltS l[j].1 l[j + 1].1 = true := fun j hj => by
    rcases (hok (j + 1) hj).2.2 with h0 | h1
    ·omega
    ·rwa [Nat.add_sub_cancel, List.getD_eq_getElem?_getD, List.getElem?_eq_getElem (show j < l.length by omega)] at h1
   refine List.pairwise_iff_getElem.2 (fun i j hi hj hij => ?_)
   clear h8 hok h
   induction j with
   | zero => omega
   | succ j ih =>
    rcases Nat.lt_or_ge i j with h' | h'
    ·exact ltW_trans (ih (by omega) h') (step j hj)
    ·obtain rfl : i = j := by omega
     exact step i hj
  ·obtain ⟨j, hj, rfl⟩ := List.getElem_of_mem hf
   exact ⟨(hok j hj).1, (hok j hj).2.1⟩
 ·rintro ⟨h8, hs, hf⟩
  rw [rightF_good (fun j hj => ?_), decide_eq_true h8]
  unfold fldOk
  simp only [Bool.and_eq_true, Bool.or_eq_true, decide_eq_true_eq, List.getD_eq_getElem?_getD, List.getElem?_eq_getElem hj, Option.getD_some]
  refine ⟨⟨(hf _ (List.getElem_mem hj)).1, (hf _ (List.getElem_mem hj)).2⟩, ?_⟩
  by_cases h0 : j = 0
  ·exact .inl h0
  ·right
   rw [List.getElem?_eq_getElem (show j - 1 < l.length by omega), Option.getD_some]
   exact List.pairwise_iff_getElem.1 hs (j - 1) j (by omega) hj (by omega)
/-! ### the fields of some names -/
end Go.Proofs.YtgbapkechngnmaaGreat
