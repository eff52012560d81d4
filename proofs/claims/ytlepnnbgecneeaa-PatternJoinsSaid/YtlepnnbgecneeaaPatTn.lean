/- A byte with a postfix: which texts fit. No program in sight. -/
import Derived.Test.YtlepnnbgecneeaaPatTm
namespace Go.Proofs.Ytlepnnbgecneeaa

abbrev ShT := List (Bool × Nat × List Nat)
def frT (T : ShT) (k : Nat) : List Nat := match T[k]? with
  | some x => x.2.2
  | none => []
def hitT (T : ShT) (l : List Nat) : List Nat := l.flatMap fun k => match T[k]? with
  | some x => if x.1 = true then [x.2.1] else []
  | none => []
def closT (T : ShT) : Nat → List Nat → List Nat
  | 0, l => l
  | n + 1, l => closT T n (l ++ l.flatMap (frT T)).eraseDups
def closedT (T : ShT) (l : List Nat) : Bool := l.all fun k => (frT T k).all fun f => l.contains f
theorem frees_T {sts : List St} {T : ShT} (h : shapeOf sts = T) (k : Nat) : frees sts k = frT T k := by
  unfold frees frT
  rw [← h]
  unfold shapeOf
  rw [List.getElem?_map]
  cases sts[k]? <;> rfl
theorem closT_eq {sts : List St} {T : ShT} (h : shapeOf sts = T) : ∀ (n : Nat) (l : List Nat), closT T n l = closN sts n l
  | 0, _ => rfl
  | n + 1, l => by
    have e : frees sts = frT T := funext (frees_T h)
    rw [closT, closN, closT_eq h n, e]
theorem closedT_eq {sts : List St} {T : ShT} (h : shapeOf sts = T) (l : List Nat) : closedT T l = closedB sts l := by
  have e : frees sts = frT T := funext (frees_T h)
  unfold closedT closedB; rw [e]
theorem goN_hit {sts : List St} {T : ShT} {c : Nat} (h : shapeOf sts = T) (hs : setIs sts c = true) (hc : c < 256) (l : List Nat) : goN sts c l = hitT T l := by
  unfold goN hitT
  congr 1
  funext k
  unfold go1
  rw [← h]
  unfold shapeOf
  rw [List.getElem?_map]
  cases hx : sts[k]? with
  | none => rfl
  | some x =>
    have h1 := List.all_eq_true.1 hs x (List.mem_of_getElem? hx)
    simp only [Option.map_some]
    unfold goB
    cases hf : x.set with
    | none => simp
    | some f =>
      rw [hf] at h1
      have h2 := List.all_eq_true.1 h1 c (List.mem_range.2 hc)
      simp only [Option.isSome_some, if_true]
      have : f c = true := by simpa using h2
      rw [if_pos this]
theorem goN_miss {sts : List St} {c d : Nat} (hs : setIs sts c = true) (hd : d < 256) (hne : d ≠ c) (l : List Nat) : goN sts d l = [] := by
  unfold goN
  rw [List.flatMap_eq_nil_iff]
  intro k _
  unfold go1
  cases hx : sts[k]? with
  | none => rfl
  | some x =>
    have h1 := List.all_eq_true.1 hs x (List.mem_of_getElem? hx)
    simp only
    unfold goB
    cases hf : x.set with
    | none => simp
    | some f =>
      rw [hf] at h1
      have h2 := List.all_eq_true.1 h1 d (List.mem_range.2 hd)
      have : f d = false := by simpa [hne] using h2
      exact if_neg (fun e => by rw [show f d = true from e] at this; cases this)
/-- three sets: behind nothing, behind one, behind more -/
structure Three (T : ShT) (st : Nat) (S0 S1 S2 : List Nat) : Prop where
  e0 : closT T T.length [st] = S0 ∧ closedT T S0 = true
  e1 : closT T T.length (hitT T S0) = S1 ∧ closedT T S1 = true
  e2 : closT T T.length (hitT T S1) = S2 ∧ closedT T S2 = true
  e3 : closT T T.length (hitT T S2) = S2
def setAt (S0 S1 S2 : List Nat) : Nat → List Nat
  | 0 => S0
  | 1 => S1
  | _ => S2
theorem three_rn {sts : List St} {T : ShT} {st c : Nat} {S0 S1 S2 : List Nat} (h : shapeOf sts = T) (hs : setIs sts c = true) (hc : c < 256) (ht : Three T st S0 S1 S2) (cs : List Nat) (hb : ∀ d ∈ cs, d < 256) :
    ∀ k, Rn sts st cs k ↔ (∀ d ∈ cs, d = c) ∧ k ∈ setAt S0 S1 S2 cs.length := by
  have hcl : ∀ (l S : List Nat), closT T T.length l = S → closedT T S = true → ∀ k, k ∈ S ↔ Cl sts l k := fun l S h1 h2 k => by
    have h3 : closN sts T.length l = S := by rw [← closT_eq h]; exact h1
    have := closN_iff (sts := sts) (n := T.length) (l := l) (by rw [h3, ← closedT_eq h]; exact h2) k
    rw [h3] at this; exact this
  induction cs using snocInd with
  | h0 => intro k; rw [Rn_nil, ← hcl _ _ ht.e0.1 ht.e0.2 k]; simp [setAt]
  | h1 l d ih =>
    intro k
    have ih' := ih (fun q hq => hb q (List.mem_append_left _ hq))
    have hd : d < 256 := hb d (by simp)
    by_cases hall : ∀ q ∈ l, q = c
    · have hl : ∀ k, k ∈ setAt S0 S1 S2 l.length ↔ Rn sts st l k := fun k => by rw [ih' k]; exact ⟨fun h => ⟨hall, h⟩, fun h => h.2⟩
      rw [Rn_snoc hl]
      by_cases hdc : d = c
      · subst hdc
        rw [goN_hit h hs hc]
        have hnext : ∀ m k, k ∈ setAt S0 S1 S2 (m + 1) ↔ Cl sts (hitT T (setAt S0 S1 S2 m)) k := fun m k => by
          match m with
          | 0 => exact hcl _ _ ht.e1.1 ht.e1.2 k
          | 1 => exact hcl _ _ ht.e2.1 ht.e2.2 k
          | m + 2 => exact hcl _ _ ht.e3 ht.e2.2 k
        rw [← hnext, List.length_append]
        refine ⟨fun h => ⟨fun q hq => ?_, h⟩, fun h => h.2⟩
        rcases List.mem_append.1 hq with h1 | h1
        · exact hall q h1
        · exact List.mem_singleton.1 h1
      · rw [goN_miss hs hd hdc]
        refine ⟨fun ⟨j, hj, _⟩ => (by cases hj), fun h => absurd (h.1 d (by simp)) hdc⟩
    · have hl : ∀ k, k ∈ ([] : List Nat) ↔ Rn sts st l k := fun k => by rw [ih' k]; exact ⟨fun h => (by cases h), fun h => absurd h.1 hall⟩
      rw [Rn_snoc hl]
      refine ⟨fun ⟨j, hj, _⟩ => (by cases hj), fun h => absurd (fun q hq => h.1 q (List.mem_append_left _ hq)) hall⟩
def s0T (pf : Nat) : List Nat := closT (pfT pf) (pfT pf).length [pfA pf]
def s1T (pf : Nat) : List Nat := closT (pfT pf) (pfT pf).length (hitT (pfT pf) (s0T pf))
def s2T (pf : Nat) : List Nat := closT (pfT pf) (pfT pf).length (hitT (pfT pf) (s1T pf))
def threeB (pf : Nat) : Bool := closedT (pfT pf) (s0T pf) && closedT (pfT pf) (s1T pf) && closedT (pfT pf) (s2T pf) && decide (closT (pfT pf) (pfT pf).length (hitT (pfT pf) (s2T pf)) = s2T pf)
theorem three_of {pf : Nat} (h : threeB pf = true) : Three (pfT pf) (pfA pf) (s0T pf) (s1T pf) (s2T pf) := by
  simp only [threeB, Bool.and_eq_true, decide_eq_true_eq] at h
  exact ⟨⟨rfl, h.1.1.1⟩, ⟨rfl, h.1.1.2⟩, ⟨rfl, h.1.2⟩, h.2⟩
/-- is the end in the sets? -/
def endsB (pf : Nat) : Bool × Bool × Bool := ((s0T pf).contains (pfE pf), (s1T pf).contains (pfE pf), (s2T pf).contains (pfE pf))
theorem star_three : threeB 42 = true ∧ endsB 42 = (true, true, true) := ⟨by kernel_rfl, by kernel_rfl⟩
theorem plus_three : threeB 43 = true ∧ endsB 43 = (false, true, true) := ⟨by kernel_rfl, by kernel_rfl⟩
theorem ques_three : threeB 63 = true ∧ endsB 63 = (true, true, false) := ⟨by kernel_rfl, by kernel_rfl⟩
def pickB (b0 b1 b2 : Bool) : Nat → Bool
  | 0 => b0
  | 1 => b1
  | _ => b2
theorem pick_star : ∀ n, pickB true true true n = true
  | 0 => rfl
  | 1 => rfl
  | _ + 2 => rfl
theorem pick_plus : ∀ n, pickB false true true n = decide (0 < n)
  | 0 => rfl
  | 1 => rfl
  | n + 2 => by simp [pickB]
theorem pick_ques : ∀ n, pickB true true false n = decide (n < 2)
  | 0 => rfl
  | 1 => rfl
  | n + 2 => by simp [pickB]
/-- which texts fit a byte with a postfix -/
theorem one_fits {pf c : Nat} {b0 b1 b2 : Bool} (hc : c < 256) (hck : chkOne pf (pfT pf) (pfA pf) (pfE pf) c = true) (h3 : threeB pf = true ∧ endsB pf = (b0, b1, b2)) (t : ByteArray) :
    FitsP (onePat c pf) t ↔ (∀ d ∈ bytesN t, d = c) ∧ pickB b0 b1 b2 t.size = true := by
  simp only [chkOne, Bool.and_eq_true, decide_eq_true_eq] at hck
  obtain ⟨⟨⟨he, hsh⟩, hse⟩, hset⟩ := hck
  have h1 := three_rn hsh hset hc (three_of h3.1) (bytesN t) (fun d hd => bytesN_lt hd) (pfE pf)
  unfold FitsP
  rw [hse]
  have e := h3.2
  simp only [endsB, Prod.mk.injEq] at e
  obtain ⟨e0, e1, e2⟩ := e
  have h4 : pfE pf ∈ setAt (s0T pf) (s1T pf) (s2T pf) (bytesN t).length ↔ pickB b0 b1 b2 t.size = true := by
    rw [bytesN_len]
    match t.size with
    | 0 => simp only [setAt, pickB]; rw [← e0]; simp
    | 1 => simp only [setAt, pickB]; rw [← e1]; simp
    | n + 2 => simp only [setAt, pickB]; rw [← e2]; simp
  rw [← h4]
  exact ⟨fun h => h1.1 h.2, fun h => ⟨he, h1.2 h⟩⟩
end Go.Proofs.Ytlepnnbgecneeaa
