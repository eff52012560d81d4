/- A value with each " and \ behind a \, plainly: its length, piece by piece. -/
import Derived.Test.YtgbapkechngnmaaGreatAppRd
namespace Go.Proofs.YtgbapkechngnmaaGreat
open Go.RowKit

/-- a value, each " and \ behind a \ -/
def escB : List UInt8 → List UInt8
  | [] => []
  | c :: l => if c = 34 ∨ c = 92 then 92 :: c :: escB l else c :: escB l

def oddE (c : UInt8) : Bool := c == 34 || c == 92
theorem oddE_iff {c : UInt8} : oddE c = true ↔ c = 34 ∨ c = 92 := by unfold oddE; simp
theorem escB_append (a b : List UInt8) : escB (a ++ b) = escB a ++ escB b := by
  induction a with
  | nil => rfl
  | cons c l ih =>
    simp only [List.cons_append, escB]
    split <;> simp [ih]
theorem escB_snoc (a : List UInt8) (c : UInt8) : escB (a ++ [c]) = escB a ++ (if oddE c then [92, c] else [c]) := by
  rw [escB_append]
  congr 1
  by_cases h : oddE c = true
  · rw [if_pos h, escB, if_pos (oddE_iff.1 h)]; rfl
  · rw [if_neg h, escB, if_neg (fun e => h (oddE_iff.2 e))]; rfl
theorem escB_len (l : List UInt8) : (escB l).length = l.length + l.count 92 + l.count 34 := by
  induction l with
  | nil => rfl
  | cons c l ih =>
    rw [escB, List.count_cons, List.count_cons]
    by_cases h1 : c = 34
    · subst h1
      rw [if_pos (.inl rfl)]
      simp only [List.length_cons, ih]
      rw [show ((34 : UInt8) == 92) = false from rfl, show ((34 : UInt8) == 34) = true from rfl]
      simp; omega
    · by_cases h2 : c = 92
      · subst h2
        rw [if_pos (.inr rfl)]
        simp only [List.length_cons, ih]
        rw [show ((92 : UInt8) == 92) = true from rfl, show ((92 : UInt8) == 34) = false from rfl]
        simp; omega
      · rw [if_neg (fun e => e.elim h1 h2)]
        simp only [List.length_cons, ih]
        rw [beq_eq_false_iff_ne.2 h1, beq_eq_false_iff_ne.2 h2]
        simp; omega
theorem escB_plain : ∀ {l : List UInt8}, l.any oddE = false → escB l = l
  | [], _ => rfl
  | c :: l, h => by
    rw [List.any_cons, Bool.or_eq_false_iff] at h
    rw [escB, if_neg (fun e => by rw [oddE_iff.2 e] at h; cases h.1), escB_plain h.2]
theorem any_count (l : List UInt8) : l.any oddE = (decide (0 < l.count 92) || decide (0 < l.count 34)) := by
  rw [Bool.eq_iff_iff, List.any_eq_true, Bool.or_eq_true, decide_eq_true_eq, decide_eq_true_eq, List.count_pos_iff, List.count_pos_iff]
  constructor
  · rintro ⟨c, hc, h⟩
    rcases oddE_iff.1 h with rfl | rfl
    · exact .inr hc
    · exact .inl hc
  · rintro (h | h)
    · exact ⟨_, h, rfl⟩
    · exact ⟨_, h, rfl⟩
theorem escB_take_len (l : List UInt8) (k : Nat) (h : k < l.length) : (escB (l.take (k + 1))).length = (escB (l.take k)).length + (if oddE l[k] then 2 else 1) := by
  rw [List.take_succ_eq_append_getElem h, escB_snoc, List.length_append]
  split <;> rfl
theorem escB_take_le (l : List UInt8) (k : Nat) : (escB (l.take k)).length ≤ (escB l).length := by
  conv => rhs; rw [← List.take_append_drop k l, escB_append]
  rw [List.length_append]; omega
theorem escB_bound (l : List UInt8) : (escB l).length ≤ 2 * l.length := by
  induction l with
  | nil => exact Nat.le_refl _
  | cons c l ih => rw [escB]; split <;> (simp only [List.length_cons]; omega)
end Go.Proofs.YtgbapkechngnmaaGreat
