/- Sets of numbers as rising lists: no program in sight. -/
import Derived.Test.YtcfococinllcmaaGreatRd
import Derived.Lib.SlicesCompact
namespace Go.Proofs.YtcfococinllcmaaGreat

/-- x laid into a rising list -/
def insU (x : Int) : List Int → List Int
  | [] => [x]
  | y :: l => if x < y then x :: y :: l else if x = y then y :: l else y :: insU x l
/-- each number once, rising -/
def setL (ids : List Int) : List Int := ids.foldl (fun l x => insU x l) []
abbrev Rising (l : List Int) : Prop := l.Pairwise (· < ·)

theorem mem_insU {x z : Int} {l : List Int} : z ∈ insU x l ↔ z = x ∨ z ∈ l := by
  induction l with
  | nil => simp [insU]
  | cons y l ih =>
    unfold insU
    split
    · simp
    · split
      · next h => subst h; simp
      · simp only [List.mem_cons, ih]
        constructor
        · rintro (h | h | h) <;> simp [h]
        · rintro (h | h | h) <;> simp [h]
theorem rising_insU {x : Int} {l : List Int} (h : Rising l) : Rising (insU x l) := by
  induction l with
  | nil => simp [insU]
  | cons y l ih =>
    have h' := List.pairwise_cons.1 h
    unfold insU
    split
    · next hx =>
      refine List.pairwise_cons.2 ⟨fun z hz => ?_, h⟩
      rcases List.mem_cons.1 hz with rfl | hz
      · exact hx
      · exact Int.lt_trans hx (h'.1 z hz)
    · split
      · exact h
      · next h1 h2 =>
        refine List.pairwise_cons.2 ⟨fun z hz => ?_, ih h'.2⟩
        rcases mem_insU.1 hz with rfl | hz
        · omega
        · exact h'.1 z hz
theorem rising_eq {a b : List Int} (ha : Rising a) (hb : Rising b) (h : ∀ z, z ∈ a ↔ z ∈ b) : a = b := by
  induction a generalizing b with
  | nil => cases b with
    | nil => rfl
    | cons y b => exact absurd ((h y).2 (by simp)) (by simp)
  | cons x a ih =>
    cases b with
    | nil => exact absurd ((h x).1 (by simp)) (by simp)
    | cons y b =>
      have ha' := List.pairwise_cons.1 ha
      have hb' := List.pairwise_cons.1 hb
      have hxy : x = y := by
        have h1 := (h x).1 (by simp)
        have h2 := (h y).2 (by simp)
        rcases List.mem_cons.1 h1 with h1 | h1
        · exact h1
        · rcases List.mem_cons.1 h2 with h2 | h2
          · exact h2.symm
          · have := ha'.1 y h2; have := hb'.1 x h1; omega
      subst hxy
      rw [ih ha'.2 hb'.2 (fun z => ?_)]
      constructor
      · intro hz
        have hlt := ha'.1 z hz
        rcases List.mem_cons.1 ((h z).1 (by simp [hz])) with h1 | h1
        · omega
        · exact h1
      · intro hz
        have hlt := hb'.1 z hz
        rcases List.mem_cons.1 ((h z).2 (by simp [hz])) with h1 | h1
        · omega
        · exact h1
theorem fold_insU (ids : List Int) : ∀ l, Rising l → Rising (ids.foldl (fun l x => insU x l) l) ∧ ∀ z, z ∈ ids.foldl (fun l x => insU x l) l ↔ z ∈ l ∨ z ∈ ids := by
  induction ids with
  | nil => intro l h; exact ⟨h, by simp⟩
  | cons x ids ih =>
    intro l h
    obtain ⟨h1, h2⟩ := ih (insU x l) (rising_insU h)
    refine ⟨h1, fun z => ?_⟩
    rw [List.foldl_cons, h2, mem_insU, List.mem_cons]
    constructor
    · rintro ((h | h) | h) <;> simp [h]
    · rintro (h | h | h) <;> simp [h]
theorem rising_setL (ids : List Int) : Rising (setL ids) := (fold_insU ids [] List.Pairwise.nil).1
theorem mem_setL {ids : List Int} {z : Int} : z ∈ setL ids ↔ z ∈ ids := by
  have h := (fold_insU ids [] List.Pairwise.nil).2 z
  show z ∈ ids.foldl (fun l x => insU x l) [] ↔ z ∈ ids
  rw [h]; simp
theorem setL_of {ids l : List Int} (h : Rising l) (hm : ∀ z, z ∈ l ↔ z ∈ ids) : l = setL ids := rising_eq h (rising_setL ids) (fun z => by rw [hm, mem_setL])
theorem setL_same {a b : List Int} (h : ∀ z, z ∈ a ↔ z ∈ b) : setL a = setL b := rising_eq (rising_setL a) (rising_setL b) (fun z => by rw [mem_setL, mem_setL, h])
theorem setL_nil {ids : List Int} : setL ids = [] ↔ ids = [] := by
  constructor
  · intro h
    cases ids with
    | nil => rfl
    | cons x l => have := (mem_setL (ids := x :: l) (z := x)).2 (by simp); rw [h] at this; simp at this
  · rintro rfl; rfl
theorem setL_snoc (l : List Int) (x : Int) : setL (l ++ [x]) = insU x (setL l) := by simp [setL, List.foldl_append]
theorem insU_len (x : Int) (l : List Int) : (insU x l).length ≤ l.length + 1 := by
  induction l with
  | nil => simp [insU]
  | cons y l ih => unfold insU; split <;> (try split) <;> simp <;> omega
theorem setL_len (ids : List Int) : (setL ids).length ≤ ids.length := by
  have : ∀ r : List Int, (setL r.reverse).length ≤ r.length := by
    intro r
    induction r with
    | nil => simp [setL]
    | cons x r ih => rw [List.reverse_cons, setL_snoc]; have := insU_len x (setL r.reverse); simp; omega
  have h := this ids.reverse
  simpa using h
/-- laid at its place -/
theorem insU_at {x : Int} {l : List Int} {k : Nat} (hr : Rising l) (hk : k ≤ l.length) (hhi : ∀ j (h : j < l.length), k ≤ j → x < l[j]) (hlo : ∀ h : 0 < k, l[k - 1]'(by omega) ≤ x) :
    insU x l = if k = 0 ∨ (∃ h : 0 < k, l[k - 1]'(by omega) ≠ x) then l.take k ++ [x] ++ l.drop k else l := by
  have hpre : ∀ j (h : j < l.length), j < k → l[j] ≤ x := by
    intro j h hj
    have hk0 : 0 < k := by omega
    have := hlo hk0
    rcases Nat.lt_or_ge j (k - 1) with h1 | h1
    · have := List.pairwise_iff_getElem.1 hr j (k - 1) (by omega) (by omega) h1
      omega
    · have e : j = k - 1 := by omega
      subst e; exact this
  split
  · next hc =>
    have hpre' : ∀ j (h : j < l.length), j < k → l[j] < x := by
      intro j h hj
      rcases hc with rfl | ⟨hk0, hne⟩
      · omega
      · have := hlo hk0
        rcases Nat.lt_or_ge j (k - 1) with h1 | h1
        · have := List.pairwise_iff_getElem.1 hr j (k - 1) (by omega) (by omega) h1
          omega
        · have e : j = k - 1 := by omega
          subst e; omega
    refine rising_eq (rising_insU hr) ?_ (fun z => ?_)
    · refine List.pairwise_append.2 ⟨List.pairwise_append.2 ⟨hr.sublist (List.take_sublist _ _), by simp, ?_⟩, hr.sublist (List.drop_sublist _ _), ?_⟩
      · intro a ha b hb
        rw [List.mem_singleton] at hb; subst hb
        obtain ⟨j, hj, rfl⟩ := List.getElem_of_mem ha
        rw [List.length_take] at hj
        rw [List.getElem_take]
        exact hpre' j (by omega) (by omega)
      · intro a ha b hb
        obtain ⟨i, hi, rfl⟩ := List.getElem_of_mem hb
        rw [List.length_drop] at hi
        rw [List.getElem_drop]
        rcases List.mem_append.1 ha with ha | ha
        · obtain ⟨j, hj, rfl⟩ := List.getElem_of_mem ha
          rw [List.length_take] at hj
          rw [List.getElem_take]
          exact List.pairwise_iff_getElem.1 hr j (k + i) (by omega) (by omega) (by omega)
        · rw [List.mem_singleton] at ha; subst ha
          exact hhi (k + i) (by omega) (by omega)
    · rw [mem_insU, List.mem_append, List.mem_append, List.mem_singleton]
      constructor
      · rintro (h | h)
        · exact .inl (.inr h)
        · rw [← List.take_append_drop k l, List.mem_append] at h
          rcases h with h | h
          · exact .inl (.inl h)
          · exact .inr h
      · rintro ((h | h) | h)
        · exact .inr (List.mem_of_mem_take h)
        · exact .inl h
        · exact .inr (List.mem_of_mem_drop h)
  · next hc =>
    have hk0 : 0 < k := by rcases Nat.eq_zero_or_pos k with h | h; exact absurd (.inl h) hc; exact h
    have hx : l[k - 1]'(by omega) = x := by
      by_cases h : l[k - 1]'(by omega) = x
      · exact h
      · exact absurd (.inr ⟨hk0, h⟩) hc
    refine rising_eq (rising_insU hr) hr (fun z => ?_)
    rw [mem_insU]
    constructor
    · rintro (rfl | h)
      · rw [← hx]; exact List.getElem_mem _
      · exact h
    · exact .inr

open Go.Lib in
theorem compact_up (d : Array Int) (hs : ∀ i j, i < j → j < d.size → d[i]! ≤ d[j]!) : ∀ m, m ≤ d.size → Rising (compactUpTo d m) ∧ ∀ z, z ∈ compactUpTo d m ↔ ∃ j, j < m ∧ z = d[j]! := by
  intro m
  induction m with
  | zero => intro _; exact ⟨by simp [compactUpTo], by simp [compactUpTo]⟩
  | succ m ih =>
    intro hm
    obtain ⟨h1, h2⟩ := ih (by omega)
    rw [compactUpTo_succ]
    by_cases hk : keeps d m = true
    · rw [if_pos hk]
      refine ⟨List.pairwise_append.2 ⟨h1, by simp, fun a ha b hb => ?_⟩, fun z => ?_⟩
      · rw [List.mem_singleton] at hb; subst hb
        obtain ⟨j, hj, rfl⟩ := (h2 a).1 ha
        have hk' : m = 0 ∨ d[m]! ≠ d[m - 1]! := by simpa [keeps] using hk
        have hne : d[m]! ≠ d[m - 1]! := by rcases hk' with h | h; omega; exact h
        have hle := hs (m - 1) m (by omega) (by omega)
        rcases Nat.lt_or_ge j (m - 1) with h | h
        · have := hs j (m - 1) h (by omega); omega
        · have e : j = m - 1 := by omega
          subst e; omega
      · rw [List.mem_append, h2, List.mem_singleton]
        constructor
        · rintro (⟨j, hj, h⟩ | h)
          · exact ⟨j, by omega, h⟩
          · exact ⟨m, by omega, h⟩
        · rintro ⟨j, hj, h⟩
          rcases Nat.lt_or_ge j m with h' | h'
          · exact .inl ⟨j, h', h⟩
          · have e : j = m := by omega
            subst e; exact .inr h
    · rw [if_neg hk, List.append_nil]
      refine ⟨h1, fun z => ?_⟩
      rw [h2]
      have hk' : ¬ (m = 0 ∨ d[m]! ≠ d[m - 1]!) := by simpa [keeps] using hk
      have hm0 : ¬ m = 0 := fun h => hk' (.inl h)
      have heq : d[m]! = d[m - 1]! := Classical.byContradiction fun h => hk' (.inr h)
      constructor
      · rintro ⟨j, hj, h⟩; exact ⟨j, by omega, h⟩
      · rintro ⟨j, hj, h⟩
        rcases Nat.lt_or_ge j m with h' | h'
        · exact ⟨j, h', h⟩
        · have e : j = m := by omega
          exact ⟨m - 1, by omega, by rw [h, e, heq]⟩
/-- sorted, then each once -/
theorem compact_sorted (ids : List Int) : Go.Lib.compactUpTo (ids.mergeSort fun x y => decide (x ≤ y)).toArray ids.length = setL ids := by
  have hl : (ids.mergeSort fun x y => decide (x ≤ y)).length = ids.length := List.length_mergeSort ids
  have hp : (ids.mergeSort fun x y => decide (x ≤ y)).Pairwise (fun x y => decide (x ≤ y) = true) := List.pairwise_mergeSort (fun a b c h1 h2 => by simp at *; omega) (fun a b => by simp; omega) ids
  obtain ⟨h1, h2⟩ := compact_up (ids.mergeSort fun x y => decide (x ≤ y)).toArray (fun i j hij hj => by
    have hj' : j < (ids.mergeSort fun x y => decide (x ≤ y)).length := by simpa using hj
    have := List.pairwise_iff_getElem.1 hp i j (by omega) hj' hij
    rw [getElem!_pos _ i (by simp; omega), getElem!_pos _ j (by simpa using hj)]
    simpa using this) ids.length (by simp)
  refine setL_of h1 (fun z => ?_)
  rw [h2]
  constructor
  · rintro ⟨j, hj, rfl⟩
    rw [getElem!_pos _ j (by simpa using hj)]
    have : (ids.mergeSort fun x y => decide (x ≤ y)).toArray[j]'(by simpa using hj) ∈ (ids.mergeSort fun x y => decide (x ≤ y)) := by simp
    exact List.mem_mergeSort.1 this
  · intro hz
    have hz' : z ∈ (ids.mergeSort fun x y => decide (x ≤ y)) := List.mem_mergeSort.2 hz
    obtain ⟨j, hj, rfl⟩ := List.getElem_of_mem hz'
    refine ⟨j, by omega, ?_⟩
    rw [getElem!_pos _ j (by simpa using hj)]
    simp
end Go.Proofs.YtcfococinllcmaaGreat
