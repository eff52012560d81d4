/- Several parts in one: Buckets, said plainly. No program in sight. The laws of buckets, said plainly. No program in sight. -/
import Derived.Test.YtcfococinllcmaaGreatIdsLaw
namespace Go.Proofs.YtcfococinllcmaaGreat

/-- bounds that may be -/
def fineL (l : List Int) : Bool := decide (1 ≤ l.length ∧ l.length ≤ 20) && decide (Rising l) && l.all fun x => decide (1 ≤ x ∧ x ≤ 1099511627776)
theorem fineL_iff {l : List Int} : fineL l = true ↔ 1 ≤ l.length ∧ l.length ≤ 20 ∧ Rising l ∧ ∀ x ∈ l, 1 ≤ x ∧ x ≤ 1099511627776 := by
  simp only [fineL, Bool.and_eq_true, decide_eq_true_eq, List.all_eq_true, and_assoc]
def cntL (l : List Int) (n : Int) : Nat := l.countP fun x => decide (x ≤ n)
/-- a count's bucket -/
def ofL (l : List Int) (n : Int) : Nat := if fineL l then cntL l n else 0
def loL (l : List Int) (k : Nat) : Int := if k = 0 then 0 else l.getD (k - 1) 0
def hiL (l : List Int) (k : Nat) : Int := if k < l.length then l.getD k 0 - 1 else 1099511627776
/-- the bounds of both -/
def mergeL (a b : List Int) : List Int := if fineL a && fineL b then (setL (a ++ b)).take 20 else []
theorem cnt_le (l : List Int) (n : Int) : cntL l n ≤ l.length := List.countP_le_length
theorem cnt_zero {l : List Int} {n : Int} (h : ∀ x ∈ l, n < x) : cntL l n = 0 := by
  unfold cntL
  rw [List.countP_eq_zero]
  intro x hx
  have := h x hx
  simp; omega
theorem cnt_at {l : List Int} (hr : Rising l) (n : Int) : ∀ j (h : j < l.length), l[j] ≤ n ↔ j < cntL l n := by
  induction l with
  | nil => intro j h; cases h
  | cons y l ih =>
    have hr' := List.pairwise_cons.1 hr
    intro j h
    unfold cntL
    rw [List.countP_cons]
    by_cases hy : y ≤ n
    · simp only [hy, decide_true, if_true]
      cases j with
      | zero => simp [hy]
      | succ j =>
        have := ih hr'.2 j (by simpa using h)
        simp only [List.getElem_cons_succ]
        rw [this]; unfold cntL; omega
    · have hz : List.countP (fun x => decide (x ≤ n)) l = 0 := cnt_zero (fun x hx => by have := hr'.1 x hx; omega)
      simp only [hy, decide_false, hz]
      constructor
      · intro hj
        cases j with
        | zero => simp at hj; omega
        | succ j =>
          simp only [List.getElem_cons_succ] at hj
          have := hr'.1 _ (List.getElem_mem (l := l) (n := j) (by simpa using h))
          omega
      · intro hj; simp at hj
theorem cnt_self {l : List Int} (hr : Rising l) (j : Nat) (h : j < l.length) : cntL l l[j] = j + 1 := by
  have h1 := (cnt_at hr l[j] j h).1 (Int.le_refl _)
  rcases Nat.lt_or_ge (j + 1) (cntL l l[j]) with h2 | h2
  · have hl := cnt_le l l[j]
    have h3 := (cnt_at hr l[j] (j + 1) (by omega)).2 h2
    have := List.pairwise_iff_getElem.1 hr j (j + 1) h (by omega) (by omega)
    omega
  · omega
/-- counts that are told apart -/
theorem cnt_apart {l : List Int} {n m : Int} (hnm : n ≤ m) : cntL l n ≠ cntL l m ↔ ∃ x ∈ l, n < x ∧ x ≤ m := by
  induction l with
  | nil => simp [cntL]
  | cons y l ih =>
    have hle : cntL l n ≤ cntL l m := by
      unfold cntL
      exact List.countP_mono_left (fun x _ h => by simp at h ⊢; omega)
    unfold cntL at ih hle ⊢
    rw [List.countP_cons, List.countP_cons]
    by_cases h1 : y ≤ n
    · have h2 : y ≤ m := by omega
      simp only [h1, h2, decide_true, if_true]
      constructor
      · intro h
        obtain ⟨x, hx, h3⟩ := ih.1 (by omega)
        exact ⟨x, List.mem_cons_of_mem _ hx, h3⟩
      · rintro ⟨x, hx, h3, h4⟩
        rcases List.mem_cons.1 hx with rfl | hx
        · omega
        · have := ih.2 ⟨x, hx, h3, h4⟩; omega
    · by_cases h2 : y ≤ m
      · simp only [h1, h2, decide_true, decide_false, if_true]
        constructor
        · intro _; exact ⟨y, by simp, by omega, h2⟩
        · intro _; simp; omega
      · simp only [h1, h2, decide_false]
        constructor
        · intro h
          obtain ⟨x, hx, h3⟩ := ih.1 (by simpa using h)
          exact ⟨x, List.mem_cons_of_mem _ hx, h3⟩
        · rintro ⟨x, hx, h3, h4⟩
          rcases List.mem_cons.1 hx with rfl | hx
          · omega
          · have := ih.2 ⟨x, hx, h3, h4⟩; simpa using this
theorem mergeL_mem {a b : List Int} (ha : fineL a = true) (hb : fineL b = true) (hl : a.length + b.length ≤ 20) : mergeL a b = setL (a ++ b) := by
  unfold mergeL
  rw [ha, hb]
  exact List.take_of_length_le (by have := setL_len (a ++ b); rw [List.length_append] at this; omega)
theorem mergeL_fine {a b : List Int} (ha : fineL a = true) (hb : fineL b = true) : fineL (mergeL a b) = true := by
  obtain ⟨a1, a2, a3, a4⟩ := fineL_iff.1 ha
  obtain ⟨b1, b2, b3, b4⟩ := fineL_iff.1 hb
  have hm : ∀ x ∈ setL (a ++ b), 1 ≤ x ∧ x ≤ 1099511627776 := fun x hx => by
    rcases List.mem_append.1 (mem_setL.1 hx) with h | h
    · exact a4 x h
    · exact b4 x h
  have hne : setL (a ++ b) ≠ [] := fun h => by
    have := setL_nil.1 h
    rw [List.append_eq_nil_iff] at this
    rw [this.1] at a1; simp at a1
  have hpos : 0 < (setL (a ++ b)).length := List.length_pos_iff.2 hne
  unfold mergeL
  rw [ha, hb]
  refine fineL_iff.2 ⟨?_, ?_, (rising_setL _).sublist (List.take_sublist _ _), fun x hx => hm x (List.mem_of_mem_take hx)⟩
  · simp only [Bool.and_self, if_true, List.length_take]; omega
  · simp only [Bool.and_self, if_true, List.length_take]; omega
theorem mergeL_self {a : List Int} (ha : fineL a = true) : mergeL a a = a := by
  obtain ⟨a1, a2, a3, _⟩ := fineL_iff.1 ha
  have e : setL (a ++ a) = a := (setL_of a3 (fun z => by simp)).symm
  unfold mergeL
  rw [ha, e]
  exact List.take_of_length_le a2
theorem ofL_more {a b : List Int} (ha : fineL a = true) (hb : fineL b = true) (hl : a.length + b.length ≤ 20) (n m : Int) :
    (ofL a n ≠ ofL a m ∨ ofL b n ≠ ofL b m) ↔ ofL (mergeL a b) n ≠ ofL (mergeL a b) m := by
  have key : ∀ n m : Int, n ≤ m → ((ofL a n ≠ ofL a m ∨ ofL b n ≠ ofL b m) ↔ ofL (mergeL a b) n ≠ ofL (mergeL a b) m) := by
    intro n m hnm
    unfold ofL
    rw [if_pos ha, if_pos ha, if_pos hb, if_pos hb, if_pos (mergeL_fine ha hb), if_pos (mergeL_fine ha hb), cnt_apart hnm, cnt_apart hnm, cnt_apart hnm, mergeL_mem ha hb hl]
    constructor
    · rintro (⟨x, hx, h⟩ | ⟨x, hx, h⟩)
      · exact ⟨x, mem_setL.2 (List.mem_append_left _ hx), h⟩
      · exact ⟨x, mem_setL.2 (List.mem_append_right _ hx), h⟩
    · rintro ⟨x, hx, h⟩
      rcases List.mem_append.1 (mem_setL.1 hx) with hx | hx
      · exact .inl ⟨x, hx, h⟩
      · exact .inr ⟨x, hx, h⟩
  rcases Int.le_total n m with h | h
  · exact key n m h
  · have := key m n h
    constructor
    · rintro (h1 | h1)
      · exact fun e => (this.1 (.inl fun e' => h1 e'.symm)) e.symm
      · exact fun e => (this.1 (.inr fun e' => h1 e'.symm)) e.symm
    · intro h1
      rcases this.2 (fun e => h1 e.symm) with h2 | h2
      · exact .inl fun e => h2 e.symm
      · exact .inr fun e => h2 e.symm
/-- a bucket's counts are those of its range -/
theorem ofL_range {l : List Int} (hf : fineL l = true) {m : Int} (k : Nat) (hk : k ≤ l.length) (hm : 0 ≤ m) : ofL l m = k ↔ loL l k ≤ m ∧ (m ≤ hiL l k ∨ k = l.length) := by
  obtain ⟨l1, l2, hr, l4⟩ := fineL_iff.1 hf
  have hc := cnt_le l m
  unfold ofL loL hiL
  rw [if_pos hf]
  constructor
  · intro h
    refine ⟨?_, ?_⟩
    · split
      · exact hm
      · next h0 =>
        have := (cnt_at hr m (k - 1) (by omega)).2 (by omega)
        rw [List.getD_eq_getElem?_getD, List.getElem?_eq_getElem (by omega)]; exact this
    · by_cases hkl : k < l.length
      · left
        rw [if_pos hkl, List.getD_eq_getElem?_getD, List.getElem?_eq_getElem hkl]
        have := fun h' => (cnt_at hr m k hkl).1 h'
        rcases Int.lt_or_le m l[k] with h1 | h1
        · show m ≤ l[k] - 1; omega
        · have := this h1; omega
      · right; omega
  · rintro ⟨h1, h2⟩
    have hge : k ≤ cntL l m := by
      rcases Nat.eq_zero_or_pos k with h0 | h0
      · omega
      · rw [if_neg (by omega), List.getD_eq_getElem?_getD, List.getElem?_eq_getElem (by omega)] at h1
        have := (cnt_at hr m (k - 1) (by omega)).1 h1
        omega
    by_cases hkl : k < l.length
    · rcases h2 with h2 | h2
      · rw [if_pos hkl, List.getD_eq_getElem?_getD, List.getElem?_eq_getElem hkl] at h2
        have h3 : m ≤ l[k] - 1 := h2
        rcases Nat.lt_or_ge k (cntL l m) with h4 | h4
        · have := (cnt_at hr m k hkl).2 h4; omega
        · omega
      · omega
    · omega
end Go.Proofs.YtcfococinllcmaaGreat
namespace Go.Proofs.YtcfococinllcmaaGreat

/-- the counts of a bucket: from, to, is there one -/
def rangeOk (l : List Int) (k : Int) : Bool := fineL l && decide (0 ≤ k) && decide (k ≤ l.length)
theorem cnt_mono (l : List Int) {n m : Int} (h : n ≤ m) : cntL l n ≤ cntL l m := List.countP_mono_left (fun x _ h => by simp at h ⊢; omega)
theorem ofL_le (l : List Int) (n : Int) : ofL l n ≤ l.length := by
  unfold ofL
  split
  · exact cnt_le l n
  · exact Nat.zero_le _
theorem ofL_mono (l : List Int) {n m : Int} (h : n ≤ m) : ofL l n ≤ ofL l m := by
  unfold ofL
  split
  · exact cnt_mono l h
  · exact Nat.le_refl _
theorem ofL_bad {l : List Int} (h : fineL l = false) (n : Int) : ofL l n = 0 := by unfold ofL; rw [if_neg (by rw [h]; simp)]
theorem loL_zero (l : List Int) : loL l 0 = 0 := by simp [loL]
theorem loL_pos {l : List Int} {k : Nat} (h : 0 < k) (hk : k ≤ l.length) : loL l k = l[k - 1] := by
  unfold loL; rw [if_neg (by omega), List.getD_eq_getElem?_getD, List.getElem?_eq_getElem (by omega)]; rfl
theorem hiL_lt {l : List Int} {k : Nat} (hk : k < l.length) : hiL l k = l[k] - 1 := by
  unfold hiL; rw [if_pos hk, List.getD_eq_getElem?_getD, List.getElem?_eq_getElem hk]; rfl
theorem hiL_end (l : List Int) : hiL l l.length = 1099511627776 := by unfold hiL; rw [if_neg (by omega)]
theorem loL_nonneg {l : List Int} (hf : fineL l = true) {k : Nat} (hk : k ≤ l.length) : 0 ≤ loL l k := by
  obtain ⟨_, _, _, h4⟩ := fineL_iff.1 hf
  rcases Nat.eq_zero_or_pos k with rfl | h0
  · rw [loL_zero]; exact Int.le_refl _
  · rw [loL_pos h0 hk]; have := (h4 _ (List.getElem_mem (l := l) (n := k - 1) (by omega))).1; omega
theorem lo_le_hi {l : List Int} (hf : fineL l = true) {k : Nat} (hk : k ≤ l.length) : loL l k ≤ hiL l k := by
  obtain ⟨_, _, h3, h4⟩ := fineL_iff.1 hf
  rcases Nat.eq_zero_or_pos k with rfl | h0
  · rw [loL_zero]
    rcases Nat.lt_or_ge 0 l.length with h | h
    · rw [hiL_lt h]; have := (h4 _ (List.getElem_mem h)).1; omega
    · have : l.length = 0 := by omega
      have e := hiL_end l
      rw [this] at e; rw [e]; omega
  · rw [loL_pos h0 hk]
    rcases Nat.lt_or_ge k l.length with h | h
    · rw [hiL_lt h]
      have := List.pairwise_iff_getElem.1 h3 (k - 1) k (by omega) h (by omega)
      omega
    · obtain rfl : k = l.length := by omega
      rw [hiL_end]
      exact (h4 _ (List.getElem_mem (l := l) (n := l.length - 1) (by omega))).2
theorem ofL_lo {l : List Int} (hf : fineL l = true) {k : Nat} (hk : k ≤ l.length) : ofL l (loL l k) = k := by
  have := lo_le_hi hf hk
  exact (ofL_range hf k hk (loL_nonneg hf hk)).2 ⟨Int.le_refl _, .inl this⟩
theorem ofL_hi {l : List Int} (hf : fineL l = true) {k : Nat} (hk : k ≤ l.length) : ofL l (hiL l k) = k := by
  have h1 := lo_le_hi hf hk
  have h2 := loL_nonneg hf hk
  exact (ofL_range hf k hk (by omega)).2 ⟨h1, .inl (Int.le_refl _)⟩
/-- the buckets lie one behind the other -/
theorem lo_next {l : List Int} {k : Nat} (hk : k < l.length) : loL l (k + 1) = hiL l k + 1 := by
  rw [loL_pos (Nat.succ_pos k) hk, hiL_lt hk]; simp
theorem mergeL_bad {a b : List Int} (h : fineL a = false ∨ fineL b = false) : mergeL a b = [] := by
  unfold mergeL
  rcases h with h | h
  · rw [h]; rfl
  · rw [h, Bool.and_false]; rfl
theorem mergeL_empty {a b : List Int} (h : (mergeL a b).length = 0) : fineL a = false ∨ fineL b = false := by
  cases ha : fineL a
  · exact .inl rfl
  · cases hb : fineL b
    · exact .inr rfl
    · have := (fineL_iff.1 (mergeL_fine ha hb)).1
      omega
theorem mergeL_some {a b : List Int} (h : (mergeL a b).length ≠ 0) : fineL a = true ∧ fineL b = true := by
  cases ha : fineL a
  · rw [mergeL_bad (.inl ha)] at h; exact absurd rfl h
  · cases hb : fineL b
    · rw [mergeL_bad (.inr hb)] at h; exact absurd rfl h
    · exact ⟨rfl, rfl⟩
theorem mergeL_len (a b : List Int) : (mergeL a b).length ≤ 20 := by
  unfold mergeL
  split
  · rw [List.length_take]; omega
  · simp
end Go.Proofs.YtcfococinllcmaaGreat
