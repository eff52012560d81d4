/- A line's words, plainly: no program in sight. -/
import Derived.Test.YtpoaoicehoihdaaDoorEnd
namespace Go.Proofs.YtpoaoicehoihdaaDoor
open Go.RowKit

/-- a byte that no line holds -/
def ctlB (c : UInt8) : Bool := decide ((c.toNat : Int) < 32) && !isB c 9
/-- the words of a line without such bytes; f: how many more at most -/
def splitF : Nat → List UInt8 → Option (List (List UInt8))
  | 0, _ => some []
  | f + 1, l =>
    match l.dropWhile blankB with
    | [] => some []
    | c :: r => if isB c 35 then some []
      else if (endF false false (c :: r)).2 then none
      else (splitF f ((c :: r).drop (endF false false (c :: r)).1)).map ((c :: r).take (endF false false (c :: r)).1 :: ·)
def splitL (l : List UInt8) : Option (List (List UInt8)) := if l.any ctlB then none else splitF (l.length + 1) l

theorem blank_stop {c : UInt8} (h : blankB c = false) (i s : Bool) : stopE i s c = false := by simp [stopE, h]
theorem endF_pos {c : UInt8} (h : blankB c = false) (r : List UInt8) : 1 ≤ (endF false false (c :: r)).1 := by
  rw [endF, if_neg (by rw [blank_stop h]; decide)]; simp
theorem dropWhile_head {l : List UInt8} {c : UInt8} {r : List UInt8} (h : l.dropWhile blankB = c :: r) : blankB c = false := by
  induction l with
  | nil => cases h
  | cons x l ih =>
    rw [List.dropWhile_cons] at h
    split at h
    · exact ih h
    · rename_i hx; cases h; simpa using hx
theorem dropWhile_len (l : List UInt8) : (l.dropWhile blankB).length ≤ l.length := (List.dropWhile_suffix _).length_le
/-- more rounds than bytes change nothing -/
theorem splitF_more : ∀ (f g : Nat) (l : List UInt8), l.length < f → l.length < g → splitF f l = splitF g l
  | 0, _, _, h, _ => absurd h (Nat.not_lt_zero _)
  | _, 0, _, _, h => absurd h (Nat.not_lt_zero _)
  | f + 1, g + 1, l, hf, hg => by
    unfold splitF
    split
    · rfl
    · rename_i c r he
      have h1 := endF_pos (dropWhile_head he) r
      have h2 := dropWhile_len l
      rw [he] at h2
      have h3 : ((c :: r).drop (endF false false (c :: r)).1).length < (c :: r).length := by
        rw [List.length_drop]; simp only [List.length_cons] at *; omega
      rw [splitF_more f g _ (by omega) (by omega)]
theorem splitF_nil {f : Nat} {l : List UInt8} (h : l.dropWhile blankB = []) : splitF (f + 1) l = some [] := by rw [splitF, h]
theorem splitF_hash {f : Nat} {l : List UInt8} {c : UInt8} {r : List UInt8} (h : l.dropWhile blankB = c :: r) (hc : isB c 35 = true) : splitF (f + 1) l = some [] := by
  rw [splitF, h]; exact if_pos hc
theorem splitF_bad {f : Nat} {l : List UInt8} {c : UInt8} {r : List UInt8} (h : l.dropWhile blankB = c :: r) (hc : isB c 35 = false) (he : endR (c :: r) < 0) : splitF (f + 1) l = none := by
  rw [splitF, h]
  have : (endF false false (c :: r)).2 = true := by
    unfold endR at he
    split at he
    · assumption
    · omega
  simp [hc, this]
theorem splitF_word {f : Nat} {l : List UInt8} {c : UInt8} {r : List UInt8} (h : l.dropWhile blankB = c :: r) (hc : isB c 35 = false) (he : 0 ≤ endR (c :: r)) :
    splitF (f + 1) l = (splitF f ((c :: r).drop (endR (c :: r)).toNat)).map ((c :: r).take (endR (c :: r)).toNat :: ·) ∧ 1 ≤ (endR (c :: r)).toNat ∧ (endR (c :: r)).toNat ≤ (c :: r).length := by
  have : (endF false false (c :: r)).2 = false := by
    unfold endR at he
    split at he
    · omega
    · rename_i hx; simpa using hx
  have e : (endR (c :: r)).toNat = (endF false false (c :: r)).1 := by simp [endR, this]
  rw [e]
  refine ⟨?_, endF_pos (dropWhile_head h) r, endF_le _ _ _⟩
  rw [splitF, h]
  simp [hc, this]
theorem splitF_len : ∀ (f : Nat) (l : List UInt8) (ws : List (List UInt8)), splitF f l = some ws → ws.length ≤ l.length
  | 0, _, ws, h => by cases h; exact Nat.zero_le _
  | f + 1, l, ws, h => by
    unfold splitF at h
    have h2 := dropWhile_len l
    split at h
    · cases h; exact Nat.zero_le _
    · rename_i c r he
      have h1 := endF_pos (dropWhile_head he) r
      rw [he] at h2
      split at h
      · cases h; exact Nat.zero_le _
      split at h
      · cases h
      obtain ⟨us, hu, rfl⟩ := Option.map_eq_some_iff.1 h
      have := splitF_len f _ us hu
      rw [List.length_drop] at this
      simp only [List.length_cons] at *
      omega
theorem splitL_len {l : List UInt8} {ws : List (List UInt8)} (h : splitL l = some ws) : ws.length ≤ l.length := by
  unfold splitL at h
  split at h
  · cases h
  · exact splitF_len _ _ _ h
end Go.Proofs.YtpoaoicehoihdaaDoor
