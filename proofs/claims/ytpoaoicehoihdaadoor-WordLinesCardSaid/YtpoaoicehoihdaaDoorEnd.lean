/- word.end and its closure, word.blank: contracts. -/
import Derived.Test.YtpoaoicehoihdaaDoorRows
import Derived.Test.YtpoaoicehoihdaaDoorBase
import Derived.WalkKit
import Derived.WalkSpells
import Derived.WalkLawsBesides
import Derived.Lib.Hide
namespace Go.Proofs.YtpoaoicehoihdaaDoor
open Go.RowKit

/-- the byte is n: in the walk's own spelling -/
abbrev isB (c : UInt8) (n : Int) : Bool := (c.toNat : Int) == n
theorem isB_eq (c : UInt8) (n : UInt8) : isB c (n.toNat : Int) = (c == n) := by
  rw [Bool.eq_iff_iff, beq_iff_eq, beq_iff_eq, ← UInt8.toNat_inj]
  omega
def blankB (c : UInt8) : Bool := isB c 32 || isB c 9
/-- what a byte makes of (within quotes, skipped) -/
def stepE (i s : Bool) (c : UInt8) : Bool × Bool := if s then (i, false) else if i && isB c 92 then (i, true) else if isB c 34 then (!i, s) else (i, s)
def stopE (i s : Bool) (c : UInt8) : Bool := !(stepE i s c).1 && !(stepE i s c).2 && blankB c

set_option maxHeartbeats 400000 in
theorem blank_any (c : UInt8) (w : World) :
    Calls Tryd.prog 43 #[.int .u8 c.toNat] w fun e w' => e = .returned (.bool (blankB c)) ∧ w = w' := by
  have H : Hid (blankB c = (((c.toNat : Int) == 32) || ((c.toNat : Int) == 9))) := rfl
  cases h3 : ((c.toNat : Int) == 32) <;> cases h4 : ((c.toNat : Int) == 9)
  all_goals
    go_enter Tryd.func43, Tryd.ntmps43
    go_wp2
    go_ret
    exact ⟨by rw [H.out, h3, h4]; rfl, rfl⟩

set_option maxHeartbeats 400000 in
theorem end1_any (base : Nat) (c : UInt8) (i s : Bool) (a b : Nat) (w : World) (hab : a ≠ b) (ha : base ≤ a) (hb : base ≤ b)
    (hs : w.cell? ⟨a, 0, none⟩ = some (.bool s)) (hi : w.cell? ⟨b, 0, none⟩ = some (.bool i))
    (fs : w.frozen? ⟨a, 0, none⟩ = false) (fi : w.frozen? ⟨b, 0, none⟩ = false) :
    Calls Tryd.prog 42 #[.int .u8 c.toNat, .pointer (some ⟨a, 0, none⟩), .pointer (some ⟨b, 0, none⟩)] w fun e w' => e = .returned (.bool (stopE i s c)) ∧
      w'.cell? ⟨a, 0, none⟩ = some (.bool (stepE i s c).2) ∧ w'.cell? ⟨b, 0, none⟩ = some (.bool (stepE i s c).1) ∧
      w'.frozen? ⟨a, 0, none⟩ = false ∧ w'.frozen? ⟨b, 0, none⟩ = false ∧ w'.heap.size = w.heap.size ∧ Below base w w' := by
  cases s <;> cases i
  all_goals
    go_enter Tryd.func42, Tryd.ntmps42
    go_wp2_with (go_at_call 43; refine (blank_any _ _).mono ?_; rintro e w' ⟨rfl, rfl⟩)
    all_goals (go_ret; refine ⟨?_, ?_, ?_, ?_, ?_, ?_, ?_⟩)
    all_goals first
      | rfl
      | (simp [stopE, stepE, isB, *]; done)
      | (simp [go_sem, stepE, isB, *]; done)
      | (simp [go_sem, stepE, isB, hab.symm, *]; done)
      | (simp [World.setCell]; done)
      | exact ((Below.refl base w).setCell ha _).setCell hb _
      | exact ((Below.refl base w).setCell hb _)
      | exact (Below.refl base w)
      | exact ((Below.refl base w).setCell ha _)
      | skip

/-- where the word ends: how far, and whether within quotes there -/
def endF : Bool → Bool → List UInt8 → Nat × Bool
  | i, _, [] => (0, i)
  | i, s, c :: l => if stopE i s c then (0, false) else ((endF (stepE i s c).1 (stepE i s c).2 l).1 + 1, (endF (stepE i s c).1 (stepE i s c).2 l).2)
def endR (l : List UInt8) : Int := if (endF false false l).2 then -1 else (endF false false l).1
theorem endF_le : ∀ (l : List UInt8) (i s : Bool), (endF i s l).1 ≤ l.length
  | [], _, _ => Nat.le_refl _
  | c :: l, i, s => by
    unfold endF
    split
    · exact Nat.zero_le _
    · have := endF_le l (stepE i s c).1 (stepE i s c).2
      simp; omega
theorem drop_B (s : ByteArray) (k : Nat) (h : k < s.size) : (B s).drop k = s[k] :: (B s).drop (k + 1) := by
  rw [List.drop_eq_getElem_cons (by rw [len_B]; exact h)]; rfl
theorem drop_all_B (s : ByteArray) : (B s).drop s.size = [] := List.drop_of_length_le (Nat.le_of_eq (len_B s))

/-- the state of the walk at byte k -/
structure EndAt (s : ByteArray) (k : Nat) (i sk : Bool) : Prop where
  far : (endF false false (B s)).1 = k + (endF i sk ((B s).drop k)).1
  quo : (endF false false (B s)).2 = (endF i sk ((B s).drop k)).2
theorem EndAt.start (s : ByteArray) : EndAt s 0 false false := ⟨by simp, by simp⟩
theorem EndAt.stop {s : ByteArray} {k : Nat} {i sk : Bool} (h : EndAt s k i sk) (hk : k < s.size) (hs : stopE i sk s[k] = true) : endR (B s) = k := by
  have h1 := h.far
  have h2 := h.quo
  rw [drop_B s k hk, endF, if_pos hs] at h1 h2
  simp [endR, h1, h2]
theorem EndAt.step {s : ByteArray} {k : Nat} {i sk : Bool} (h : EndAt s k i sk) (hk : k < s.size) (hs : stopE i sk s[k] = false) : EndAt s (k + 1) (stepE i sk s[k]).1 (stepE i sk s[k]).2 := by
  have h1 := h.far
  have h2 := h.quo
  rw [drop_B s k hk, endF, if_neg (by simp [hs])] at h1 h2
  exact ⟨by rw [h1]; simp; omega, h2⟩
theorem EndAt.done {s : ByteArray} {i sk : Bool} (h : EndAt s s.size i sk) : endR (B s) = if i then -1 else (s.size : Int) := by
  have h1 := h.far
  have h2 := h.quo
  rw [drop_all_B, endF] at h1 h2
  simp [endR, h1, h2]

set_option maxHeartbeats 400000 in
theorem end_any (s : ByteArray) (w : World) (hs : s.size ≤ maxLen) :
    Calls Tryd.prog 29 #[.string s] w fun e w' => e = .returned (.int .i64 (endR (B s))) ∧ Below w.heap.size w w' := by
  unfold maxLen at hs
  go_enter Tryd.func29, Tryd.ntmps29
  go_wp2
  go_loopw [10] (fun x wr => ∃ (k : Nat) (i sk : Bool), k ≤ s.size ∧ x = .int .i64 k ∧ EndAt s k i sk ∧ w.heap.size + 2 ≤ wr.heap.size ∧
      wr.cell? ⟨w.heap.size + 1, 0, none⟩ = some (.bool sk) ∧ wr.cell? ⟨w.heap.size, 0, none⟩ = some (.bool i) ∧
      wr.frozen? ⟨w.heap.size + 1, 0, none⟩ = false ∧ wr.frozen? ⟨w.heap.size, 0, none⟩ = false ∧ Below w.heap.size w wr) (fun x _ => s.size - (intOf x).toNat)
  case atStart =>
    refine ⟨0, false, false, Nat.zero_le _, rfl, EndAt.start s, ?_, ?_, ?_, ?_, ?_, ?_⟩
    · simp
    · go_simp
    · go_simp
    · go_simp
    · go_simp
    · exact ((Below.refl _ _).alloc (Nat.le_refl _) _).alloc (by simp) _
  case round =>
    obtain ⟨k, i, sk, hk, rfl, hE, hz, hcs, hci, hfs, hfi, hb⟩ := hrel
    by_cases hlt : k < s.size
    · cases hst : stopE i sk s[k]
      · have hE' := hE.step hlt hst
        have HE := Lib.hid hE'
        clear hE hE'
        have H := end1_any w.heap.size s[k] i sk (w.heap.size + 1) w.heap.size wr (by omega) (by omega) (Nat.le_refl _) hcs hci hfs hfi
        rw [hst] at H
        go_wp2_with (go_at_call 42; refine H.mono ?_; rintro e w1 ⟨rfl, hcs1, hci1, hfs1, hfi1, hz1, hb1⟩)
        go_roundw
        case rel => exact ⟨k + 1, _, _, by omega, by go_num, HE.out, by omega, hcs1, hci1, hfs1, hfi1, hb.trans hb1⟩
        case measure => simp [intOf]; omega
      · have hE' := hE.stop hlt hst
        have HE := Lib.hid hE'
        clear hE hE'
        have H := end1_any w.heap.size s[k] i sk (w.heap.size + 1) w.heap.size wr (by omega) (by omega) (Nat.le_refl _) hcs hci hfs hfi
        rw [hst] at H
        go_wp2_with (go_at_call 42; refine H.mono ?_; rintro e w1 ⟨rfl, hcs1, hci1, hfs1, hfi1, hz1, hb1⟩)
        go_ret
        exact ⟨by rw [HE.out]; rfl, hb.trans hb1⟩
    · obtain rfl : k = s.size := by omega
      have hE' := hE.done
      have HE := Lib.hid hE'
      clear hE hE'
      cases i
      all_goals
        go_wp2
        go_ret
        exact ⟨by rw [HE.out]; rfl, hb⟩
end Go.Proofs.YtpoaoicehoihdaaDoor
