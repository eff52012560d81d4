/- Which texts fit a pattern that is known: reckoned. The example of the statements. No program in sight. -/
import Derived.Test.YtlepnnbgecneeaaPatO
import Derived.Tactics
namespace Go.Proofs.Ytlepnnbgecneeaa

def closN (sts : List St) : Nat → List Nat → List Nat
  | 0, l => l
  | n + 1, l => closN sts n (l ++ l.flatMap (frees sts)).eraseDups
def closedB (sts : List St) (l : List Nat) : Bool := l.all fun k => (frees sts k).all fun f => l.contains f
def runC (sts : List St) : List Nat → List Nat → List Nat
  | l, [] => l
  | l, c :: cs => runC sts (closN sts sts.length (goN sts c l)) cs
def chkC (sts : List St) : List Nat → List Nat → Bool
  | _, [] => true
  | l, c :: cs => closedB sts (closN sts sts.length (goN sts c l)) && chkC sts (closN sts sts.length (goN sts c l)) cs
theorem closN_sub (sts : List St) : ∀ (n : Nat) (l : List Nat) (k : Nat), k ∈ l → k ∈ closN sts n l
  | 0, _, _, h => h
  | n + 1, l, k, h => closN_sub sts n _ k (by rw [List.mem_eraseDups]; exact List.mem_append_left _ h)
theorem closN_cl (sts : List St) : ∀ (n : Nat) (l : List Nat) (k : Nat), k ∈ closN sts n l → Cl sts l k
  | 0, _, k, h => ⟨k, h, .refl _⟩
  | n + 1, l, k, h => by
    obtain ⟨j, hj, hr⟩ := closN_cl sts n _ k h
    rw [List.mem_eraseDups] at hj
    rcases List.mem_append.1 hj with h1 | h1
    · exact ⟨j, h1, hr⟩
    · obtain ⟨q, hq, h2⟩ := List.mem_flatMap.1 h1
      exact ⟨q, hq, .cons h2 hr⟩
theorem closN_iff {sts : List St} {n : Nat} {l : List Nat} (h : closedB sts (closN sts n l) = true) (k : Nat) : k ∈ closN sts n l ↔ Cl sts l k := by
  refine ⟨closN_cl sts n l k, ?_⟩
  rintro ⟨j, hj, hr⟩
  induction hr with
  | refl => exact closN_sub sts n l _ hj
  | step _ h2 ih =>
    have h3 := List.all_eq_true.1 (List.all_eq_true.1 h _ ih) _ h2
    simpa using h3
theorem runC_iff {sts : List St} {st : Nat} : ∀ (cs : List Nat) (l ws : List Nat), (∀ k, k ∈ l ↔ Rn sts st ws k) → chkC sts l cs = true → ∀ k, k ∈ runC sts l cs ↔ Rn sts st (ws ++ cs) k
  | [], l, ws, h, _, k => by rw [List.append_nil]; exact h k
  | c :: cs, l, ws, h, hc, k => by
    simp only [chkC, Bool.and_eq_true] at hc
    have h2 : ∀ k, k ∈ closN sts sts.length (goN sts c l) ↔ Rn sts st (ws ++ [c]) k := fun k => by rw [closN_iff hc.1, Rn_snoc h]
    have := runC_iff cs _ _ h2 hc.2 k
    rw [List.append_assoc, List.singleton_append] at this
    exact this
/-- does it fit? (none: not reckoned) -/
def fitC (sts : List St) (st en : Nat) (cs : List Nat) : Option Bool :=
  if closedB sts (closN sts sts.length [st]) && chkC sts (closN sts sts.length [st]) cs then some ((runC sts (closN sts sts.length [st]) cs).contains en) else none
theorem fitC_iff {sts : List St} {st en : Nat} {cs : List Nat} {b : Bool} (h : fitC sts st en cs = some b) : b = true ↔ Rn sts st cs en := by
  unfold fitC at h
  split at h
  · rename_i hc
    simp only [Bool.and_eq_true] at hc
    have h0 : ∀ k, k ∈ closN sts sts.length [st] ↔ Rn sts st [] k := fun k => by rw [closN_iff hc.1, Rn_nil]
    have := runC_iff cs _ [] h0 hc.2 en
    rw [List.nil_append] at this
    rw [← this, ← Option.some.inj h]
    simp
  · cases h
/-! the example -/
def livS : ByteArray := ⟨#[97, 124, 98, 91, 48, 45, 57, 93, 42]⟩
def livT : List St := (endR livS).sts
def livA : Nat := (runR livS).2.1
def livE : Nat := (runR livS).2.2
theorem liv_err : errM livS = 0 := by kernel_rfl
theorem liv_a : fitC livT livA livE [97] = some true := by kernel_rfl
theorem liv_b : fitC livT livA livE [98] = some true := by kernel_rfl
theorem liv_b7 : fitC livT livA livE [98, 55] = some true := by kernel_rfl
theorem liv_ab : fitC livT livA livE [97, 98] = some false := by kernel_rfl
theorem liv_no : fitC livT livA livE [] = some false := by kernel_rfl
theorem liv_low : ((List.range 97).all fun c => fitC livT livA livE [c] == some false) = true := by kernel_rfl
theorem liv_open : errM ⟨#[40]⟩ = 2 := by kernel_rfl
theorem liv_least {ws : List Nat} (h : LeastP livT livA livE ws) : ws = [97] := by
  obtain ⟨h1, h2⟩ := h
  obtain ⟨h3, h4⟩ := h2 [97] (by simp) ((fitC_iff liv_a).1 rfl)
  match ws, h1, h3, h4 with
  | [], h1, _, _ => exact absurd ((fitC_iff liv_no).2 h1) (by simp)
  | [c], h1, _, h4 =>
    rcases h4 rfl with h5 | ⟨p, x, y, r, s, h5, h6, h7⟩
    · exact h5
    · have hp : p = [] := by
        match p, h5 with
        | [], _ => rfl
        | a :: p, h5 => simp at h5
      subst hp
      simp at h5 h6
      obtain ⟨rfl, _⟩ := h5
      obtain ⟨rfl, _⟩ := h6
      have := List.all_eq_true.1 liv_low c (List.mem_range.2 h7)
      have h8 : fitC livT livA livE [c] = some false := by simpa using this
      exact absurd ((fitC_iff h8).2 h1) (by simp)
  | _ :: _ :: _, _, h3, _ => simp at h3
end Go.Proofs.Ytlepnnbgecneeaa
