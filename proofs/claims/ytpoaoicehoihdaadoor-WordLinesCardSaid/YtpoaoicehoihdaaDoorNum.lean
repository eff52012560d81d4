/- word.Number: a contract. -/
import Derived.Test.YtpoaoicehoihdaaDoorRows
import Derived.Test.YtpoaoicehoihdaaDoorBase
import Derived.WalkKit
import Derived.WalkSpells
import Derived.WalkLawsBesides
import Derived.Lib.Hide
import Derived.Lib.ConvBytes
namespace Go.Proofs.YtpoaoicehoihdaaDoor
open Go.RowKit

/-- a byte is a digit -/
def digB (c : UInt8) : Bool := decide (48 ≤ (c.toNat : Int)) && decide ((c.toNat : Int) ≤ 57)
/-- the number of digits -/
def numV (l : List UInt8) : Int := l.foldl (fun n c => 10 * n + ((c.toNat : Int) - 48)) 0
def numGood (l : List UInt8) : Bool := !l.isEmpty && decide (l.length ≤ 9) && !(l.head? == some 48 && !(l == [48])) && l.all digB
/-- what word.Number gives -/
def numR (l : List UInt8) : Int × Int := if numGood l then (numV l, 0) else (0, 2)

theorem numR_bad {l : List UInt8} (h : numGood l = false) : numR l = (0, 2) := by simp [numR, h]
theorem numR_good {l : List UInt8} (h : numGood l = true) : numR l = (numV l, 0) := by simp [numR, h]
theorem numV_snoc (l : List UInt8) (c : UInt8) : numV (l ++ [c]) = 10 * numV l + ((c.toNat : Int) - 48) := by simp [numV]
theorem numV_bd (l : List UInt8) : l.all digB = true → 0 ≤ numV l ∧ numV l < 10 ^ l.length := by
  induction l using snocInd with
  | h0 => simp [numV]
  | h1 l c ih =>
    intro h
    simp only [List.all_append, Bool.and_eq_true, List.all_cons, List.all_nil, and_true] at h
    have := ih h.1
    have hc := h.2
    simp only [digB, Bool.and_eq_true, decide_eq_true_eq] at hc
    rw [numV_snoc, List.length_append, List.length_singleton, Int.pow_succ]
    omega
theorem numV_bd9 (l : List UInt8) (h : l.all digB = true) (h9 : l.length ≤ 8) : 0 ≤ numV l ∧ numV l < 100000000 := by
  have := numV_bd l h
  have : (10 : Int) ^ l.length ≤ 10 ^ 8 := by exact_mod_cast Nat.pow_le_pow_right (by omega : 10 > 0) h9
  omega
theorem numGood_digs {s : ByteArray} {k : Nat} (h : k < s.size) (hd : digB s[k] = false) : numGood (B s) = false := by
  have : (B s).all digB = false := by
    rw [List.all_eq_false]
    exact ⟨s[k], Array.mem_toList_iff.2 (Array.getElem_mem h), by simp [hd]⟩
  simp [numGood, this]

set_option maxHeartbeats 400000 in
theorem number_any (s : ByteArray) (w : World) (hs : s.size ≤ maxLen) :
    Calls Tryd.prog 11 #[.string s] w fun e w' => e = .returned (.tuple #[.int .i64 (numR (B s)).1, .int .i64 (numR (B s)).2]) ∧ Below w.heap.size w w' := by
  unfold maxLen at hs
  by_cases h0 : s.toList = []
  · have hR : Hid (numR (B s) = (0, 2)) := numR_bad (by rw [toList_B] at h0; simp [numGood, h0])
    go_enter Tryd.func11, Tryd.ntmps11
    go_wp2
    go_ret2
    exact ⟨by rw [hR.out]; rfl, Below.refl _ _⟩
  have h0' : s.toList.isEmpty = false := by simpa using h0
  have hpos : 0 < s.size := by
    rw [← len_B, ← toList_B]; exact List.length_pos_iff.2 h0
  by_cases h9 : 9 < s.size
  · have hR : Hid (numR (B s) = (0, 2)) := numR_bad (by have := len_B s; simp [numGood]; omega)
    go_enter Tryd.func11, Tryd.ntmps11
    go_wp2
    go_ret2
    exact ⟨by rw [hR.out]; rfl, Below.refl _ _⟩
  have hh : (B s).head? = some s[0] := by rw [List.head?_eq_getElem?]; exact List.getElem?_eq_getElem (by rw [len_B]; exact hpos)
  by_cases hz : (s[0].toNat : Int) = 48 ∧ (!s.toList == [48]) = true
  · obtain ⟨hz1, hz2⟩ := hz
    have hR : Hid (numR (B s) = (0, 2)) := numR_bad (by 
      have e : s[0] = 48 := by apply UInt8.toNat_inj.1; simpa using (by omega : s[0].toNat = 48)
      rw [toList_B] at hz2
      simp only [numGood, hh, e]
      simp only [Bool.not_eq_true'] at hz2
      simp [hz2])
    clear hh
    go_enter Tryd.func11, Tryd.ntmps11
    go_wp2
    go_ret2
    exact ⟨by rw [hR.out]; rfl, Below.refl _ _⟩
  have hz' : ((s[0].toNat : Int) == 48 && !s.toList == [48]) = false := by
    rw [Bool.and_eq_false_iff]
    by_cases hz1 : (s[0].toNat : Int) = 48
    · exact Or.inr (by simpa using fun h => hz ⟨hz1, h⟩)
    · exact Or.inl (by simpa using hz1)
  have hcv := fun w => Lib.run_convert_string_bytes (P := Tryd.prog) w 9 44 5 s Tryd.underlying9 Tryd.underlying44 Tryd.underlying5
  have hcell : ∀ j (h : j < s.size), (Lib.bytesWorld w 5 s).cell? ⟨w.heap.size, j, none⟩ = some (.int .u8 s[j].toNat) := by
    intro j h
    rw [Lib.bytesWorld_cell w 5 s j h]
    simp only [List.getD, List.getElem?_eq_getElem (l := s.data.toList) (i := j) (by simpa using h)]
    rfl
  have HC := Lib.hid hcell
  clear hcell
  have hgood : (B s).all digB = true → numGood (B s) = true := by
    intro hd
    have e1 : (B s).length = s.size := len_B s
    have e2 : (B s).isEmpty = false := by rw [← toList_B]; exact h0'
    have e3 : ((B s).head? == some 48 && !(B s == [48])) = false := by
      rw [Bool.and_eq_false_iff]
      by_cases hz1 : (s[0].toNat : Int) = 48
      · refine Or.inr ?_
        by_cases hz2 : (!s.toList == [48]) = true
        · exact absurd ⟨hz1, hz2⟩ hz
        · rw [toList_B] at hz2; simpa using hz2
      · refine Or.inl ?_
        rw [hh, beq_eq_false_iff_ne]
        intro e
        have : s[0] = 48 := by simpa using e
        rw [this] at hz1
        exact hz1 rfl
    have e4 : decide ((B s).length ≤ 9) = true := by rw [e1]; exact decide_eq_true (by omega)
    rw [numGood, hd, e2, e3, e4]; rfl
  have HG := Lib.hid hgood
  clear hgood hh h0
  have hbel : Below w.heap.size w (Lib.bytesWorld w 5 s) := ⟨rfl, rfl, rfl, by rw [Lib.bytesWorld_size]; omega, fun k hk => Lib.bytesWorld_at_old w 5 s k hk⟩
  have HB := Lib.hid hbel
  clear hbel
  by_cases hz1 : (s[0].toNat : Int) = 48
  all_goals
    try have hz2 : (!s.toList == [48]) = false := Bool.eq_false_iff.2 fun h => hz ⟨hz1, h⟩
    clear hz
    go_enter Tryd.func11, Tryd.ntmps11
    go_wp2
    go_loop [4, 26] (fun n i => ∃ k : Nat, k ≤ s.size ∧ i = .int .i64 k ∧ n = .int .i64 (numV ((B s).take k)) ∧ ((B s).take k).all digB = true) (fun _ i => s.size - (intOf i).toNat)
    case atStart => exact ⟨0, Nat.zero_le _, rfl, rfl, rfl⟩
    case round =>
      obtain ⟨k, hk, rfl, rfl, hd⟩ := hrel
      have HD := Lib.hid hd
      clear hd
      by_cases hlt : k < s.size
      · have hcx := HC.out k hlt
        have hb := numV_bd9 ((B s).take k) HD.out (by rw [List.length_take, len_B]; omega)
        have HT : Hid ((B s).take (k + 1) = (B s).take k ++ [s[k]]) := take_succ_B s k hlt
        by_cases hdg : digB s[k] = true
        · have h48 : 48 ≤ (s[k].toNat : Int) ∧ (s[k].toNat : Int) ≤ 57 := by simpa [digB] using hdg
          obtain ⟨h48, h57⟩ := h48
          have HDG := Lib.hid hdg
          clear hdg
          go_wp2
          go_round
          case rel =>
            refine ⟨k + 1, by omega, by go_num, ?_, ?_⟩
            · rw [HT.out, numV_snoc]
            · rw [HT.out, List.all_append, HD.out]; simp [HDG.out]
          case measure => simp [intOf]; omega
        · have hR : Hid (numR (B s) = (0, 2)) := numR_bad (numGood_digs hlt (by simpa using hdg))
          have h48 : ¬ (48 ≤ (s[k].toNat : Int) ∧ (s[k].toNat : Int) ≤ 57) := by simpa [digB] using hdg
          clear hdg
          go_wp2
          all_goals first | omega | (go_ret2; exact ⟨by rw [hR.out]; rfl, HB.out⟩)
      · have hks : k = s.size := by omega
        have hR : Hid (numR (B s) = (numV ((B s).take k), 0)) := by
          have e : (B s).take k = B s := by rw [hks]; exact take_all_B s
          have := HD.out
          rw [e] at this ⊢
          exact numR_good (HG.out this)
        clear hks
        go_wp2
        go_ret2
        exact ⟨by rw [hR.out]; rfl, HB.out⟩
end Go.Proofs.YtpoaoicehoihdaaDoor
