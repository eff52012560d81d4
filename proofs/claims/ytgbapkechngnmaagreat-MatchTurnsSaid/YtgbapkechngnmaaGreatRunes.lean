/- Runes of a text, and its bytes: a predicate that holds of ASCII alone is found at a rune where it is found at a byte. No program in sight. -/
import Derived.Test.YtgbapkechngnmaaGreatBase
import Derived.Shelf.GgClosure.StringsIndexFunc
namespace Go.Proofs.YtgbapkechngnmaaGreat
open Go.RowKit

theorem get!_B (s : ByteArray) (j : Nat) (h : j < s.size) : s.get! j = s[j] := by
  simp [ByteArray.get!, h, getElem!_pos]; rfl

/-- a rune that begins at a byte beyond ASCII is no ASCII rune, and all of its bytes are beyond ASCII -/
theorem decode_high (s : ByteArray) (pos : Nat) (h : pos < s.size) (ha : 128 ≤ (s[pos]'h).toNat) :
    128 ≤ (Utf8.decode s pos).1 ∧ 1 ≤ (Utf8.decode s pos).2 ∧ pos + (Utf8.decode s pos).2 ≤ s.size ∧
    ∀ j (hj : j < s.size), pos ≤ j → j < pos + (Utf8.decode s pos).2 → 128 ≤ (s[j]'hj).toNat := by
  have g0 : (s.get! (pos + 0)).toNat = (s[pos]'h).toNat := by rw [Nat.add_zero, get!_B s pos h]
  have one : ∀ r : Nat, 128 ≤ r → 128 ≤ ((r, 1) : Nat × Nat).1 ∧ 1 ≤ ((r, 1) : Nat × Nat).2 ∧ pos + ((r, 1) : Nat × Nat).2 ≤ s.size ∧
      ∀ j (hj : j < s.size), pos ≤ j → j < pos + ((r, 1) : Nat × Nat).2 → 128 ≤ (s[j]'hj).toNat := by
    intro r hr
    refine ⟨hr, Nat.le_refl _, h, fun j hj h1 h2 => ?_⟩
    obtain rfl : j = pos := by simp at h2; omega
    exact ha
  have cc : ∀ k, (decide (pos + k < s.size) && ((s.get! (pos + k)).toNat / 64 == 2)) = true → ∃ hk : pos + k < s.size, 128 ≤ (s[pos + k]'hk).toNat := by
    intro k hk
    simp only [Bool.and_eq_true, decide_eq_true_eq, beq_iff_eq] at hk
    refine ⟨hk.1, ?_⟩
    rw [← get!_B s (pos + k) hk.1]
    omega
  unfold Utf8.decode
  simp only [g0]
  rw [if_neg (by omega)]
  split
  · rename_i h2
    simp only [Bool.and_eq_true] at h2
    obtain ⟨k1, c1⟩ := cc 1 (by simpa using h2.2)
    split
    · refine ⟨by assumption, by simp, by simp; omega, fun j hj h1 h2 => ?_⟩
      simp at h2
      rcases (show j = pos ∨ j = pos + 1 by omega) with rfl | rfl
      · exact ha
      · exact c1
    · exact one _ (by decide)
  split
  · rename_i h2
    simp only [Bool.and_eq_true] at h2
    obtain ⟨k1, c1⟩ := cc 1 (by simpa using h2.1.2)
    obtain ⟨k2, c2⟩ := cc 2 (by simpa using h2.2)
    split
    · rename_i h3
      simp only [Bool.and_eq_true, decide_eq_true_eq] at h3
      refine ⟨by have := h3.1; simp at this ⊢; omega, by simp, by simp; omega, fun j hj h1 h2 => ?_⟩
      simp at h2
      rcases (show j = pos ∨ j = pos + 1 ∨ j = pos + 2 by omega) with rfl | rfl | rfl
      · exact ha
      · exact c1
      · exact c2
    · exact one _ (by decide)
  split
  · rename_i h2
    simp only [Bool.and_eq_true] at h2
    obtain ⟨k1, c1⟩ := cc 1 (by simpa using h2.1.1.2)
    obtain ⟨k2, c2⟩ := cc 2 (by simpa using h2.1.2)
    obtain ⟨k3, c3⟩ := cc 3 (by simpa using h2.2)
    split
    · rename_i h3
      simp only [Bool.and_eq_true, decide_eq_true_eq] at h3
      refine ⟨by have := h3.1; simp at this ⊢; omega, by simp, by simp; omega, fun j hj h1 h2 => ?_⟩
      simp at h2
      rcases (show j = pos ∨ j = pos + 1 ∨ j = pos + 2 ∨ j = pos + 3 by omega) with rfl | rfl | rfl | rfl
      · exact ha
      · exact c1
      · exact c2
      · exact c3
    · exact one _ (by decide)
  · exact one _ (by decide)

/-- p: a predicate of runes that says one thing of all beyond ASCII -/
theorem idxFuncFrom_bytes (p : Nat → Bool) (d : Bool) (hp : ∀ x, 128 ≤ x → p x = d) (s : ByteArray) : ∀ (f pos : Nat), s.size ≤ pos + f →
    (decide (0 ≤ Lib.idxFuncFrom p true s f pos)) = ((B s).drop pos).any (fun c => p c.toNat)
  | 0, pos, h => by
    rw [List.drop_of_length_le (by rw [len_B]; omega)]
    rfl
  | f + 1, pos, h => by
    unfold Lib.idxFuncFrom
    by_cases hps : pos < s.size
    · rw [if_pos hps]
      by_cases ha : (s[pos]'hps).toNat < 128
      · rw [decode_ascii s pos hps ha]
        have ed : (B s).drop pos = s[pos] :: (B s).drop (pos + 1) := by
          rw [List.drop_eq_getElem_cons (by rw [len_B]; exact hps)]; rfl
        rw [ed, List.any_cons]
        by_cases hpp : p (s[pos]).toNat = true
        · rw [if_pos hpp, hpp]; simp
        · rw [if_neg hpp, idxFuncFrom_bytes p d hp s f (pos + 1) (by omega)]
          simp [Bool.eq_false_iff.2 hpp]
      · obtain ⟨d1, d2, d3, d4⟩ := decode_high s pos hps (by omega)
        cases d
        case true =>
          rw [if_pos (hp _ d1)]
          have ed : (B s).drop pos = s[pos] :: (B s).drop (pos + 1) := by
            rw [List.drop_eq_getElem_cons (by rw [len_B]; exact hps)]; rfl
          rw [ed, List.any_cons, hp _ (by omega)]
          simp
        rw [if_neg (by rw [hp _ d1]; decide), idxFuncFrom_bytes p false hp s f _ (by omega)]
        generalize (Utf8.decode s pos).2 = w at *
        have ed : (B s).drop pos = ((B s).drop pos).take w ++ (B s).drop (pos + w) := by
          rw [← List.drop_drop]; exact (List.take_append_drop _ _).symm
        rw [ed, List.any_append]
        have : (((B s).drop pos).take w).any (fun c => p c.toNat) = false := by
          rw [List.any_eq_false]
          intro x hx
          obtain ⟨i, hi, rfl⟩ := List.getElem_of_mem hx
          simp only [List.getElem_take, List.getElem_drop]
          have hi' : i < w := by rw [List.length_take] at hi; omega
          have := d4 (pos + i) (by omega) (by omega) (by omega)
          rw [Bool.not_eq_true]; exact hp _ this
        rw [this]; rfl
    · rw [if_neg hps, List.drop_of_length_le (by rw [len_B]; omega)]
      rfl
theorem idxFunc_bytes (p : Nat → Bool) (d : Bool) (hp : ∀ x, 128 ≤ x → p x = d) (s : ByteArray) :
    (decide (0 ≤ Lib.idxFunc p true s)) = (B s).any (fun c => p c.toNat) := by
  rw [Lib.idxFunc, idxFuncFrom_bytes p d hp s s.size 0 (by omega)]; rfl
end Go.Proofs.YtgbapkechngnmaaGreat
