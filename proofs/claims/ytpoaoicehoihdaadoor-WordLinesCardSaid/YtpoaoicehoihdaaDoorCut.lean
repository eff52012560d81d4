/- A text cut at a byte: the library's word for strings.Split is the plain one. No program in sight. -/
import Derived.Test.YtpoaoicehoihdaaDoorBase
import Derived.Lib.Split
namespace Go.Proofs.YtpoaoicehoihdaaDoor
open Go.RowKit

/-- the pieces between the bytes d -/
def cutB (d : UInt8) : List UInt8 → List (List UInt8)
  | [] => [[]]
  | c :: l => if c = d then [] :: cutB d l else match cutB d l with
    | [] => [[c]]
    | x :: r => (c :: x) :: r
theorem cutB_ne (d : UInt8) : ∀ l : List UInt8, cutB d l ≠ []
  | [] => by simp [cutB]
  | c :: l => by
    unfold cutB
    split
    · simp
    · split <;> simp
theorem cutB_none {d : UInt8} : ∀ {p : List UInt8}, d ∉ p → cutB d p = [p]
  | [], _ => rfl
  | c :: l, h => by
    rw [List.mem_cons, not_or] at h
    rw [cutB, if_neg (fun e => h.1 e.symm), cutB_none h.2]
theorem cutB_at {d : UInt8} : ∀ {p : List UInt8} (q : List UInt8), d ∉ p → cutB d (p ++ d :: q) = p :: cutB d q
  | [], q, _ => by rw [List.nil_append, cutB, if_pos rfl]
  | c :: l, q, h => by
    rw [List.mem_cons, not_or] at h
    rw [List.cons_append, cutB, if_neg (fun e => h.1 e.symm), cutB_at q h.2]
theorem occ_byte (s : List UInt8) (d : UInt8) (i : Nat) : Lib.occAt s [d] i = true ↔ s[i]? = some d := by
  unfold Lib.occAt
  rw [← List.head?_drop]
  cases h : s.drop i with
  | nil => simp
  | cons x r =>
    simp only [List.isPrefixOf, Bool.and_true, List.head?_cons, Option.some.injEq, beq_iff_eq]
    exact eq_comm
/-- the library's cut at one byte -/
theorem split_cut (d : UInt8) : ∀ (n : Nat) (s : List UInt8), s.length ≤ n → Lib.splitK [d] 0 (Lib.count s [d]) s = cutB d s ∧ (cutB d s).length = Lib.count s [d] + 1
  | 0, s, hn => by
    obtain rfl : s = [] := List.length_eq_zero_iff.1 (by omega)
    exact ⟨rfl, rfl⟩
  | n + 1, s, hn => by
    rcases Lib.index_spec s [d] with ⟨hi, hno⟩ | ⟨i, hi, hle, ho, hno⟩
    · rw [Lib.count_miss hi]
      have : d ∉ s := by
        intro hm
        obtain ⟨j, hj, e⟩ := List.getElem_of_mem hm
        have := hno j (by omega)
        rw [(occ_byte s d j).2 (by rw [List.getElem?_eq_getElem hj, e])] at this
        cases this
      rw [cutB_none this]
      exact ⟨rfl, rfl⟩
    · have hd := (occ_byte s d i).1 ho
      have hlt : i < s.length := (List.getElem?_eq_some_iff.1 hd).1
      have hs : s = s.take i ++ d :: s.drop (i + 1) := by
        have : s.drop i = d :: s.drop (i + 1) := by
          rw [List.drop_eq_getElem_cons hlt]
          congr 1
          exact (List.getElem?_eq_some_iff.1 hd).2
        rw [← this, List.take_append_drop]
      have hnp : d ∉ s.take i := by
        intro hm
        obtain ⟨j, hj, e⟩ := List.getElem_of_mem hm
        rw [List.length_take] at hj
        have := hno j (by omega)
        rw [List.getElem_take] at e
        rw [(occ_byte s d j).2 (by rw [List.getElem?_eq_getElem (by omega), e])] at this
        cases this
      have hc := cutB_at (s.drop (i + 1)) hnp
      rw [← hs] at hc
      rw [Lib.count_hit (by simp) hi, hc]
      obtain ⟨e1, e2⟩ := split_cut d n (s.drop (i + 1)) (by rw [List.length_drop]; omega)
      simp only [List.length_singleton]
      refine ⟨?_, by rw [List.length_cons, e2]; omega⟩
      rw [show 1 + Lib.count (s.drop (i + 1)) [d] = Lib.count (s.drop (i + 1)) [d] + 1 by omega, Lib.splitK, hi]
      simp only [List.length_singleton]
      rw [if_neg (by rw [beq_iff_eq]; omega), Int.toNat_natCast, e1]
      rfl
theorem splitB_cut (d : UInt8) (s : ByteArray) : (Lib.splitB ⟨#[d]⟩ 0 (Lib.countB s ⟨#[d]⟩) s).map B = cutB d (B s) := by
  have h := Lib.splitB_data ⟨#[d]⟩ 0 (Lib.countB s ⟨#[d]⟩) s
  have e : Lib.countB s ⟨#[d]⟩ = Lib.count (B s) [d] := rfl
  rw [e] at h ⊢
  exact h.trans (split_cut d _ (B s) (Nat.le_refl _)).1
theorem splitB_len (d : UInt8) (s : ByteArray) : (Lib.splitB ⟨#[d]⟩ 0 (Lib.countB s ⟨#[d]⟩) s).length = Lib.countB s ⟨#[d]⟩ + 1 := by
  have h := congrArg List.length (splitB_cut d s)
  rw [List.length_map] at h
  rw [h]
  exact (split_cut d _ (B s) (Nat.le_refl _)).2
theorem cutB_len (d : UInt8) (s : List UInt8) : (cutB d s).length ≤ s.length + 1 := by
  induction s with
  | nil => simp [cutB]
  | cons c l ih =>
    unfold cutB
    split
    · simp only [List.length_cons]; omega
    · split
      · simp
      · rename_i h; rw [h] at ih; simp only [List.length_cons] at *; omega
theorem cutB_mem_len (d : UInt8) : ∀ (s : List UInt8) (x : List UInt8), x ∈ cutB d s → x.length ≤ s.length
  | [], x, h => by simp [cutB] at h; simp [h]
  | c :: l, x, h => by
    unfold cutB at h
    split at h
    · rcases List.mem_cons.1 h with rfl | h
      · simp
      · have := cutB_mem_len d l x h; simp only [List.length_cons]; omega
    · split at h
      · rw [List.mem_singleton] at h; subst h; simp
      · rename_i y r hc
        rcases List.mem_cons.1 h with rfl | h
        · have := cutB_mem_len d l y (by rw [hc]; exact List.mem_cons_self ..)
          simp only [List.length_cons]; omega
        · have := cutB_mem_len d l x (by rw [hc]; exact List.mem_cons_of_mem _ h)
          simp only [List.length_cons]; omega
end Go.Proofs.YtpoaoicehoihdaaDoor
