/- match.Name: a contract. -/
import Derived.Test.YtgbapkechngnmaaGreatRows
import Derived.Test.YtgbapkechngnmaaGreatRunes
import Derived.Test.YtgbapkechngnmaaGreatShelf
import Derived.WalkSpells
import Derived.Lib.Hide
namespace Go.Proofs.YtgbapkechngnmaaGreat
open Go.RowKit

/-- a rune that no name holds -/
def oddN (x : Nat) : Bool := ((x : Int) != 95) && (decide ((x : Int) < 97) || decide (122 < (x : Int))) && (decide ((x : Int) < 48) || decide (57 < (x : Int)))
def digN (x : Nat) : Bool := decide (48 ≤ (x : Int)) && decide ((x : Int) ≤ 57)
/-- a name -/
def nameL (l : List UInt8) : Bool := !l.isEmpty && decide (l.length ≤ 12) && !(l.head?.any fun c => digN c.toNat) && !(l.any fun c => oddN c.toNat)

set_option maxHeartbeats 400000 in
theorem nodd_any (x : Nat) (hx : x ≤ 1114111) (w : World) :
    Calls Tryz.prog 56 #[.int .i32 x] w fun e w' => e = .returned (.bool (oddN x)) ∧ ∃ q, w' = w.drewN q := by
  have H : Hid (oddN x = (((x : Int) != 95) && (decide ((x : Int) < 97) || decide (122 < (x : Int))) && (decide ((x : Int) < 48) || decide (57 < (x : Int))))) := rfl
  cases h1 : ((x : Int) != 95)
  · go_enter Tryz.func56, Tryz.ntmps56
    go_wp2
    go_ret
    exact ⟨by rw [H.out, h1]; rfl, 0, rfl⟩
  · rcases (show (x : Int) < 48 ∨ (48 ≤ (x : Int) ∧ (x : Int) ≤ 57) ∨ (57 < (x : Int) ∧ (x : Int) < 97) ∨ (97 ≤ (x : Int) ∧ (x : Int) ≤ 122) ∨ 122 < (x : Int) by omega) with h | ⟨h, h'⟩ | ⟨h, h'⟩ | ⟨h, h'⟩ | h
    all_goals
      go_enter Tryz.func56, Tryz.ntmps56
      go_wp2
      go_ret
      refine ⟨?_, 0, rfl⟩
      rw [H.out, h1]
      first
        | (rw [decide_eq_true (show (x : Int) < 97 by omega), decide_eq_true (show (x : Int) < 48 by omega)]; rfl)
        | (rw [decide_eq_true (show (x : Int) < 97 by omega), decide_eq_false (show ¬ (x : Int) < 48 by omega), decide_eq_false (show ¬ 57 < (x : Int) by omega)]; rfl)
        | (rw [decide_eq_true (show (x : Int) < 97 by omega), decide_eq_false (show ¬ (x : Int) < 48 by omega), decide_eq_true (show 57 < (x : Int) by omega)]; rfl)
        | (rw [decide_eq_false (show ¬ (x : Int) < 97 by omega), decide_eq_false (show ¬ 122 < (x : Int) by omega)]; rfl)
        | (rw [decide_eq_false (show ¬ (x : Int) < 97 by omega), decide_eq_true (show 122 < (x : Int) by omega), decide_eq_false (show ¬ (x : Int) < 48 by omega), decide_eq_true (show 57 < (x : Int) by omega)]; rfl)
theorem name_odd (s : ByteArray) (w : World) :
    Calls Tryz.prog 55 #[.string s, .func (.func 56) #[] #[]] w fun e w' => e = .returned (.bool ((B s).any fun c => oddN c.toNat)) ∧ Below w.heap.size w w' := by
  have h := Tryz.strings_ContainsFunc_runes 56 #[] (enters_of Tryz.func56 (by kernel_rfl) rfl) oddN s w (fun W x hx _ => nodd_any x hx W)
  rw [idxFunc_bytes oddN true (fun x hx => by
    have h1 : ((x : Int) != 95) = true := by rw [bne_iff_ne]; omega
    have h2 : decide (122 < (x : Int)) = true := by rw [decide_eq_true_eq]; omega
    have h3 : decide (57 < (x : Int)) = true := by rw [decide_eq_true_eq]; omega
    rw [oddN, h1, h2, h3]; simp) s] at h
  exact h

set_option maxHeartbeats 400000 in
theorem name_any (s : ByteArray) (w : World) (hs : s.size ≤ maxLen) :
    Calls Tryz.prog 25 #[.string s] w fun e w' => e = .returned (.bool (nameL (B s))) ∧ Below w.heap.size w w' := by
  unfold maxLen at hs
  by_cases h0 : s.toList = []
  · have HR : Hid (nameL (B s) = false) := by
      show _ = _
      rw [← toList_B, h0]; rfl
    go_enter Tryz.func25, Tryz.ntmps25
    go_wp2
    go_ret
    exact ⟨by rw [HR.out]; rfl, Below.refl _ _⟩
  have h0' : s.toList.isEmpty = false := by simpa using h0
  have hpos : 0 < s.size := by rw [← len_B, ← toList_B]; exact List.length_pos_iff.2 h0
  by_cases h12 : 12 < s.size
  · have HR : Hid (nameL (B s) = false) := by
      show _ = _
      rw [nameL, decide_eq_false (by rw [len_B]; omega)]
      simp
    clear h0
    go_enter Tryz.func25, Tryz.ntmps25
    go_wp2
    go_ret
    exact ⟨by rw [HR.out]; rfl, Below.refl _ _⟩
  have hh : (B s).head? = some s[0] := by rw [List.head?_eq_getElem?]; exact List.getElem?_eq_getElem (by rw [len_B]; exact hpos)
  by_cases hd : (48 : Int) ≤ (s[0].toNat : Int) ∧ (s[0].toNat : Int) ≤ 57
  · obtain ⟨hd1, hd2⟩ := hd
    have HR : Hid (nameL (B s) = false) := by
      show _ = _
      have e2 : digN s[0].toNat = true := by
        simp only [digN, Bool.and_eq_true, decide_eq_true_eq]; omega
      rw [nameL, hh]
      simp [e2]
    clear h0 hh
    go_enter Tryz.func25, Tryz.ntmps25
    go_wp2
    go_ret
    exact ⟨by rw [HR.out]; rfl, Below.refl _ _⟩
  · have HR : Hid (nameL (B s) = !((B s).any fun c => oddN c.toNat)) := by
      show _ = _
      have e1 : (B s).isEmpty = false := by rw [← toList_B]; exact h0'
      have e2 : digN s[0].toNat = false := by
        simp only [digN, Bool.and_eq_false_iff, decide_eq_false_iff_not]; omega
      rw [nameL, hh, e1, decide_eq_true (by rw [len_B]; omega)]
      simp [e2]
    have hodd := name_odd s w
    generalize ((B s).any fun c => oddN c.toNat) = o at *
    clear h0 hh
    rcases (show (s[0].toNat : Int) < 48 ∨ ((48 : Int) ≤ (s[0].toNat : Int) ∧ 57 < (s[0].toNat : Int)) by omega) with h | ⟨h, h'⟩
    all_goals
      clear hd
      go_enter Tryz.func25, Tryz.ntmps25
      go_wp2_with (go_at_call 55; refine hodd.mono ?_; rintro e w' ⟨rfl, hb⟩)
      go_ret
      exact ⟨by rw [HR.out]; rfl, hb⟩
end Go.Proofs.YtgbapkechngnmaaGreat
