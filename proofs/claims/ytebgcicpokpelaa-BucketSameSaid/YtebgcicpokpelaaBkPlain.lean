/- The laws of buckets, said plainly. No program in sight. -/
import Derived.Test.YtebgcicpokpelaaBucketLaw
namespace Go.Proofs.Ytebgcicpokpelaa

/-- the counts of a bucket: from, to, is there one -/
def rangeOk (l : List Int) (k : Int) : Bool := fineL l && decide (0 ≤ k) && decide (k ≤ l.length)
theorem cnt_mono (l : List Int) {n m : Int} (h : n ≤ m) : cntL l n ≤ cntL l m := List.countP_mono_left (fun x _ h => by simp at h ⊢; omega)
theorem ofL_le (l : List Int) (n : Int) : ofL l n ≤ l.length := by
  unfold ofL
  split
  · exact cnt_le l n
  · exact Nat.zero_le _
theorem ofL_mono (l : List Int) {n m : Int} (h : n ≤ m) : ofL l n ≤ ofL l m := by
  unfold ofL
  split
  · exact cnt_mono l h
  · exact Nat.le_refl _
theorem ofL_bad {l : List Int} (h : fineL l = false) (n : Int) : ofL l n = 0 := by unfold ofL; rw [if_neg (by rw [h]; simp)]
theorem loL_zero (l : List Int) : loL l 0 = 0 := by simp [loL]
theorem loL_pos {l : List Int} {k : Nat} (h : 0 < k) (hk : k ≤ l.length) : loL l k = l[k - 1] := by
  unfold loL; rw [if_neg (by omega), List.getD_eq_getElem?_getD, List.getElem?_eq_getElem (by omega)]; rfl
theorem hiL_lt {l : List Int} {k : Nat} (hk : k < l.length) : hiL l k = l[k] - 1 := by
  unfold hiL; rw [if_pos hk, List.getD_eq_getElem?_getD, List.getElem?_eq_getElem hk]; rfl
theorem hiL_end (l : List Int) : hiL l l.length = 1099511627776 := by unfold hiL; rw [if_neg (by omega)]
theorem loL_nonneg {l : List Int} (hf : fineL l = true) {k : Nat} (hk : k ≤ l.length) : 0 ≤ loL l k := by
  obtain ⟨_, _, _, h4⟩ := fineL_iff.1 hf
  rcases Nat.eq_zero_or_pos k with rfl | h0
  · rw [loL_zero]; exact Int.le_refl _
  · rw [loL_pos h0 hk]; have := (h4 _ (List.getElem_mem (l := l) (n := k - 1) (by omega))).1; omega
theorem lo_le_hi {l : List Int} (hf : fineL l = true) {k : Nat} (hk : k ≤ l.length) : loL l k ≤ hiL l k := by
  obtain ⟨_, _, h3, h4⟩ := fineL_iff.1 hf
  rcases Nat.eq_zero_or_pos k with rfl | h0
  · rw [loL_zero]
    rcases Nat.lt_or_ge 0 l.length with h | h
    · rw [hiL_lt h]; have := (h4 _ (List.getElem_mem h)).1; omega
    · have : l.length = 0 := by omega
      have e := hiL_end l
      rw [this] at e; rw [e]; omega
  · rw [loL_pos h0 hk]
    rcases Nat.lt_or_ge k l.length with h | h
    · rw [hiL_lt h]
      have := List.pairwise_iff_getElem.1 h3 (k - 1) k (by omega) h (by omega)
      omega
    · obtain rfl : k = l.length := by omega
      rw [hiL_end]
      exact (h4 _ (List.getElem_mem (l := l) (n := l.length - 1) (by omega))).2
theorem ofL_lo {l : List Int} (hf : fineL l = true) {k : Nat} (hk : k ≤ l.length) : ofL l (loL l k) = k := by
  have := lo_le_hi hf hk
  exact (ofL_range hf k hk (loL_nonneg hf hk)).2 ⟨Int.le_refl _, .inl this⟩
theorem ofL_hi {l : List Int} (hf : fineL l = true) {k : Nat} (hk : k ≤ l.length) : ofL l (hiL l k) = k := by
  have h1 := lo_le_hi hf hk
  have h2 := loL_nonneg hf hk
  exact (ofL_range hf k hk (by omega)).2 ⟨h1, .inl (Int.le_refl _)⟩
/-- the buckets lie one behind the other -/
theorem lo_next {l : List Int} {k : Nat} (hk : k < l.length) : loL l (k + 1) = hiL l k + 1 := by
  rw [loL_pos (Nat.succ_pos k) hk, hiL_lt hk]; simp
theorem mergeL_bad {a b : List Int} (h : fineL a = false ∨ fineL b = false) : mergeL a b = [] := by
  unfold mergeL
  rcases h with h | h
  · rw [h]; rfl
  · rw [h, Bool.and_false]; rfl
theorem mergeL_empty {a b : List Int} (h : (mergeL a b).length = 0) : fineL a = false ∨ fineL b = false := by
  cases ha : fineL a
  · exact .inl rfl
  · cases hb : fineL b
    · exact .inr rfl
    · have := (fineL_iff.1 (mergeL_fine ha hb)).1
      omega
theorem mergeL_some {a b : List Int} (h : (mergeL a b).length ≠ 0) : fineL a = true ∧ fineL b = true := by
  cases ha : fineL a
  · rw [mergeL_bad (.inl ha)] at h; exact absurd rfl h
  · cases hb : fineL b
    · rw [mergeL_bad (.inr hb)] at h; exact absurd rfl h
    · exact ⟨rfl, rfl⟩
theorem mergeL_len (a b : List Int) : (mergeL a b).length ≤ 20 := by
  unfold mergeL
  split
  · rw [List.length_take]; omega
  · simp
end Go.Proofs.Ytebgcicpokpelaa
