/- A pattern within another one, behind a bracket: what is read is the same. No program in sight. -/
import Derived.Test.YtlepnnbgecneeaaPatQl
namespace Go.Proofs.Ytlepnnbgecneeaa

/-! errors stay -/
theorem failM_keep {b : Bs} {e : Int} (h : b.err ≠ 0) : failM b e = b := by unfold failM; rw [if_neg h]
theorem failM_new {b : Bs} {e : Int} (h : b.err = 0) : (failM b e).err = e := by unfold failM; rw [if_pos h]
theorem signM_keep {s : ByteArray} {b : Bs} (h : b.err ≠ 0) : (signM s b).1.err = b.err := by
  unfold signM
  rw [peek_err h]
  dsimp only
  rw [failM_keep (b := stepM b) h]; rfl
theorem rangeM_keep {s : ByteArray} {b : Bs} {lo : Nat} (h : b.err ≠ 0) : (rangeM s b lo).1.err = b.err := by
  unfold rangeM
  split
  · exact signM_keep (b := stepM b) h
  · rfl
theorem loopM_keep {s : ByteArray} {n : Nat} : ∀ {first : Bool} {b : Bs} {S : Nat → Bool}, b.err ≠ 0 → (loopM s n first b S).1.err = b.err := by
  induction n with
  | zero => intros; rfl
  | succ n ih =>
    intro first b S h
    rw [loopM, peek_err h]
    dsimp only
    rw [failM_keep h]
theorem classM_keep {s : ByteArray} {b : Bs} (h : b.err ≠ 0) : (classM s b).1.err = b.err := by
  unfold classM
  rw [peek_err h]
  rw [if_neg (by simp)]
  exact loopM_keep h
theorem timesM_keep {s : ByteArray} {b : Bs} {x : Nat × Nat} : (timesM s b x).1.err = b.err := by
  unfold timesM
  split
  · rfl
  · split
    · have e : ∀ b f t, (freeM b f t).err = b.err := fun _ _ _ => rfl
      dsimp only
      split <;> split <;> simp only [e, nodeM, stepM]
    · rfl
theorem closeM_keep {s : ByteArray} {b : Bs} (h : b.err ≠ 0) : (closeM s b).err = b.err := by
  unfold closeM
  split
  · rfl
  · rw [failM_keep h]; rfl
theorem oneM_err (b : Bs) (S : Nat → Bool) : (oneM b S).1.err = b.err := rfl
theorem runM_keep (s : ByteArray) (n : Nat) : ∀ (md : Md) (d : Nat) (b : Bs), b.err ≠ 0 → (runM s n md d b).1.err = b.err := by
  induction n with
  | zero => intros; rfl
  | succ n ih =>
    intro md d b h
    cases md with
    | either => rw [runM]; exact ih _ _ _ h
    | alts p =>
      have h1 := ih .row d b h
      have h2 : (freeM (freeM (runM s n .row d b).1 p.1 (runM s n .row d b).2.1) (runM s n .row d b).2.2 p.2).err = b.err := h1
      rw [runM]
      rw [peek_err (by rw [h2]; exact h), if_neg (by simp)]
      exact h1
    | row => rw [runM]; exact ih _ _ _ h
    | parts p => rw [runM, peek_err h]
    | atom =>
      rw [runM]
      dsimp only
      have hs : (stepM b).err ≠ 0 := h
      split
      · split
        · rw [oneM_err, failM_keep hs]; rfl
        · have := ih .either (d + 1) (stepM b) hs
          dsimp only
          rw [closeM_keep (by rw [this]; exact hs), this]; rfl
      · split
        · rw [oneM_err, classM_keep hs]; rfl
        · split
          · rfl
          · split
            · rw [peek_err hs]
              dsimp only
              rw [oneM_err, failM_keep hs]; rfl
            · split
              · rw [oneM_err, failM_keep hs]; rfl
              · rfl
theorem zero_of {a b : Int} (h : a ≠ 0 → b = a) (hb : b = 0) : a = 0 := by
  rcases Decidable.em (a = 0) with h1 | h1
  · exact h1
  · rw [h h1] at hb; exact hb
/-- a text within another one, a closing bracket behind it -/
structure Sub (s s' : ByteArray) (off : Nat) : Prop where
  same : ∀ k, k < s.size → byteM s' (k + off) = byteM s k
  shut : byteM s' (s.size + off) = 41
  long : s.size + off < s'.size
structure At (b b' : Bs) (off : Nat) : Prop where
  pos : b'.pos = b.pos + off
  e : b.err = 0
  e' : b'.err = 0
theorem At.step {b b' : Bs} {off : Nat} (h : At b b' off) : At (stepM b) (stepM b') off := ⟨by simp only [stepM]; have := h.pos; omega, h.e, h.e'⟩
theorem Sub.peek {s s' : ByteArray} {off : Nat} (hs : Sub s s' off) {b b' : Bs} (h : At b b' off) {c : Nat} (hp : peekM s b = some c) : peekM s' b' = some c := by
  obtain ⟨_, h2, h3⟩ := peekM_some hp
  have := hs.long
  have := h.pos
  unfold peekM
  rw [if_pos ⟨h.e', by omega⟩, h.pos, hs.same _ h2, h3]
theorem Sub.peek_end {s s' : ByteArray} {off : Nat} (hs : Sub s s' off) {b b' : Bs} (h : At b b' off) (hb : b.pos ≤ s.size) (hp : peekM s b = none) : peekM s' b' = some 41 ∧ b.pos = s.size := by
  have h1 : b.pos = s.size := by
    rcases Nat.lt_or_ge b.pos s.size with h1 | h1
    · unfold peekM at hp; rw [if_pos ⟨h.e, h1⟩] at hp; cases hp
    · omega
  have := hs.long
  have := h.pos
  unfold peekM
  rw [if_pos ⟨h.e', by omega⟩, h.pos, h1, hs.shut]
  exact ⟨rfl, rfl⟩
theorem sign_ok {s : ByteArray} {b : Bs} (h : (signM s b).1.err = 0) : (∃ c, peekM s b = some c ∧ c ≠ 92 ∧ signM s b = (stepM b, c)) ∨ ∃ d, peekM s b = some 92 ∧ peekM s (stepM b) = some d ∧ signM s b = (stepM (stepM b), d) := by
  unfold signM at h ⊢
  cases hp : peekM s b with
  | none =>
    rw [hp] at h
    dsimp only at h
    exact absurd h (failM_err (by decide))
  | some c =>
    rw [hp] at h
    dsimp only at h ⊢
    by_cases hc : c = 92
    · rw [if_pos hc] at h ⊢
      cases hq : peekM s (stepM b) with
      | none =>
        rw [hq] at h
        exact absurd h (failM_err (by decide))
      | some d => exact .inr ⟨d, by rw [hc], rfl, rfl⟩
    · rw [if_neg hc] at h ⊢
      exact .inl ⟨c, rfl, hc, rfl⟩
theorem Sub.sign {s s' : ByteArray} {off : Nat} (hs : Sub s s' off) {b b' : Bs} (h : At b b' off) (hok : (signM s b).1.err = 0) : At (signM s b).1 (signM s' b').1 off ∧ (signM s' b').2 = (signM s b).2 ∧ (signM s b).1.pos ≤ s.size ∧ b.pos < (signM s b).1.pos := by
  rcases sign_ok hok with ⟨c, h1, h2, h3⟩ | ⟨d, h1, h2, h3⟩
  · have e : signM s' b' = (stepM b', c) := by
      unfold signM
      rw [hs.peek h h1]
      dsimp only
      rw [if_neg h2]
    rw [h3, e]
    exact ⟨h.step, rfl, by have := (peekM_some h1).2.1; simp only [stepM]; omega, by simp only [stepM]; omega⟩
  · have e : signM s' b' = (stepM (stepM b'), d) := by
      unfold signM
      rw [hs.peek h h1]
      dsimp only
      rw [if_pos rfl, hs.peek h.step h2]
    rw [h3, e]
    exact ⟨h.step.step, rfl, by have := (peekM_some h2).2.1; simp only [stepM] at this ⊢; omega, by simp only [stepM]; omega⟩
/-- a class that ends: where its end stands -/
theorem loop_end {s : ByteArray} {n : Nat} : ∀ {first : Bool} {b : Bs} {S : Nat → Bool}, s.size - b.pos + 1 ≤ n → b.err = 0 → (loopM s n first b S).1.err = 0 → ∃ q, b.pos ≤ q ∧ q < s.size ∧ byteM s q = 93 := by
  induction n with
  | zero => intro _ _ _ h; omega
  | succ n ih =>
    intro first b S hn he h
    rw [loopM] at h
    cases hp : peekM s b with
    | none =>
      rw [hp] at h
      exact absurd h (failM_err (by decide))
    | some d =>
      obtain ⟨_, h2, h3⟩ := peekM_some hp
      rw [hp] at h
      dsimp only at h
      by_cases hd : d = 93
      · exact ⟨b.pos, Nat.le_refl _, h2, by rw [← h3]; exact hd⟩
      · rw [if_neg hd] at h
        have hz := zero_of (fun hne => loopM_keep hne) h
        have hp1 := signM_pos s b h2
        have hp2 := rangeM_pos s (signM s b).1 (signM s b).2
        have hpos : ∀ x : Bs × Nat, (if x.2 < (signM s b).2 then failM x.1 2 else x.1).pos = x.1.pos := fun x => by split <;> simp [failM_pos]
        obtain ⟨q, q1, q2, q3⟩ := ih (by rw [hpos]; omega) hz h
        rw [hpos] at q1
        exact ⟨q, by omega, q2, q3⟩
theorem Sub.loop {s s' : ByteArray} {off : Nat} (hs : Sub s s' off) {n : Nat} : ∀ {n' : Nat} {first : Bool} {b b' : Bs} {S : Nat → Bool}, s.size - b.pos + 1 ≤ n → s'.size - b'.pos + 1 ≤ n' → At b b' off → (loopM s n first b S).1.err = 0 →
    At (loopM s n first b S).1 (loopM s' n' first b' S).1 off ∧ (loopM s' n' first b' S).2 = (loopM s n first b S).2 ∧ (loopM s n first b S).1.pos ≤ s.size := by
  induction n with
  | zero => intro _ _ _ _ _ h; omega
  | succ n ih =>
    intro n' first b b' S hn hn' hat h
    obtain ⟨n', rfl⟩ : ∃ m, n' = m + 1 := ⟨n' - 1, by omega⟩
    have hend := loop_end hn hat.e h
    rw [loopM] at h
    rw [loopM, loopM]
    cases hp : peekM s b with
    | none =>
      rw [hp] at h
      exact absurd h (failM_err (by decide))
    | some d =>
      obtain ⟨_, h2, h3⟩ := peekM_some hp
      rw [hp] at h
      rw [hs.peek hat hp]
      dsimp only at h ⊢
      by_cases hd : d = 93
      · rw [if_pos hd] at h ⊢
        rw [if_pos hd]
        cases first with
        | true => exact absurd h (failM_err (by decide))
        | false => exact ⟨hat.step, rfl, by simp only [Bool.false_eq_true, if_false, stepM]; omega⟩
      · rw [if_neg hd] at h ⊢
        rw [if_neg hd]
        have hz := zero_of (fun hne => loopM_keep hne) h
        have hz2 : (rangeM s (signM s b).1 (signM s b).2).1.err = 0 ∧ ¬ (rangeM s (signM s b).1 (signM s b).2).2 < (signM s b).2 := by
          by_cases hlt : (rangeM s (signM s b).1 (signM s b).2).2 < (signM s b).2
          · rw [if_pos hlt] at hz; exact absurd hz (failM_err (by decide))
          · rw [if_neg hlt] at hz; exact ⟨hz, hlt⟩
        have hz3 := zero_of (fun hne => rangeM_keep hne) hz2.1
        obtain ⟨g1, g2, g3, g4⟩ := hs.sign hat hz3
        -- where the class ends
        rw [if_neg hz2.2] at h ⊢
        have hp1 := signM_pos s b h2
        have hp2 := rangeM_pos s (signM s b).1 (signM s b).2
        obtain ⟨q, q1, q2, q3⟩ := loop_end (by omega) hz2.1 h
        have key : At (rangeM s (signM s b).1 (signM s b).2).1 (rangeM s' (signM s' b').1 (signM s' b').2).1 off ∧ (rangeM s' (signM s' b').1 (signM s' b').2).2 = (rangeM s (signM s b).1 (signM s b).2).2 := by
          rw [g2]
          by_cases hr : rangeB s (signM s b).1 = true
          · have hr2 := hr
            unfold rangeB at hr2
            simp only [Bool.and_eq_true, decide_eq_true_eq, Bool.not_eq_true', decide_eq_false_iff_not] at hr2
            have hr' : rangeB s' (signM s' b').1 = true := by
              unfold rangeB
              simp only [Bool.and_eq_true, decide_eq_true_eq, Bool.not_eq_true', decide_eq_false_iff_not]
              refine ⟨hs.peek g1 hr2.1, by have := hs.long; have := g1.pos; omega, ?_⟩
              rw [g1.pos, show (signM s b).1.pos + off + 1 = (signM s b).1.pos + 1 + off from by omega, hs.same _ hr2.2.1]
              exact hr2.2.2
            have hz4 := hz2.1
            unfold rangeM at hz4 ⊢
            rw [if_pos hr] at hz4
            rw [if_pos hr, if_pos hr']
            obtain ⟨k1, k2, _⟩ := hs.sign g1.step hz4
            exact ⟨k1, k2⟩
          · have hr' : ¬ rangeB s' (signM s' b').1 = true := by
              intro hr'
              unfold rangeB at hr'
              simp only [Bool.and_eq_true, decide_eq_true_eq, Bool.not_eq_true', decide_eq_false_iff_not] at hr'
              obtain ⟨r1, r2, r3⟩ := hr'
              have hrs : (rangeM s (signM s b).1 (signM s b).2).1 = (signM s b).1 := by unfold rangeM; rw [if_neg hr]
              rw [hrs] at q1
              have hlt : (signM s b).1.pos < s.size := by omega
              have hpk : peekM s (signM s b).1 = some 45 := by
                have hx : peekM s (signM s b).1 = some (byteM s (signM s b).1.pos) := by unfold peekM; rw [if_pos ⟨g1.e, hlt⟩]
                have hy := hs.peek g1 hx
                rw [r1] at hy
                rw [hx, ← Option.some.inj hy]
              have h45 : byteM s (signM s b).1.pos = 45 := (peekM_some hpk).2.2.symm
              have hq : (signM s b).1.pos ≠ q := fun e => by rw [e, q3] at h45; cases h45
              apply hr
              unfold rangeB
              simp only [Bool.and_eq_true, decide_eq_true_eq, Bool.not_eq_true', decide_eq_false_iff_not]
              refine ⟨hpk, by omega, ?_⟩
              rw [← hs.same _ (by omega), show (signM s b).1.pos + 1 + off = (signM s b).1.pos + off + 1 from by omega, ← g1.pos]
              exact r3
            unfold rangeM
            rw [if_neg hr, if_neg hr']
            exact ⟨g1, rfl⟩
        obtain ⟨k1, k2⟩ := key
        rw [g2] at k1 k2
        rw [g2, k2]
        rw [if_neg hz2.2]
        have hpos' := k1.pos
        have hl := hs.long
        exact ih (by omega) (by have := hat.pos; omega) k1 h
theorem Sub.class {s s' : ByteArray} {off : Nat} (hs : Sub s s' off) {b b' : Bs} (hat : At b b' off) (hb : b.pos ≤ s.size) (h : (classM s b).1.err = 0) :
    At (classM s b).1 (classM s' b').1 off ∧ (classM s' b').2 = (classM s b).2 ∧ (classM s b).1.pos ≤ s.size := by
  unfold classM at h ⊢
  by_cases hc : peekM s b = some 94
  · rw [if_pos hc] at h ⊢
    rw [if_pos (hs.peek hat hc)]
    dsimp only at h ⊢
    have hst : (stepM b).pos = b.pos + 1 := rfl
    have hst' : (stepM b').pos = b'.pos + 1 := rfl
    obtain ⟨h1, h2, h3⟩ := hs.loop (n' := s'.size + 1) (by omega) (by omega) hat.step h
    exact ⟨h1, by rw [h2], h3⟩
  · have hc' : ¬ peekM s' b' = some 94 := by
      intro hc'
      cases hp : peekM s b with
      | none => rw [(hs.peek_end hat hb hp).1] at hc'; cases hc'
      | some d => rw [hs.peek hat hp] at hc'; rw [hp] at hc; exact hc hc'
    rw [if_neg hc] at h ⊢
    rw [if_neg hc']
    exact hs.loop (by omega) (by omega) hat h
/-- with what stands behind it -/
theorem Sub.times {s s' : ByteArray} {off : Nat} (hs : Sub s s' off) {b b' : Bs} (hat : At b b' off) (hb : b.pos ≤ s.size) (x x' : Nat × Nat) (a : Re) :
    At (timesM s b x).1 (timesM s' b' x').1 off ∧ timesR s' b' a = timesR s b a ∧ (timesM s b x).1.pos ≤ s.size := by
  have e : ∀ b f t, (freeM b f t).pos = b.pos := fun _ _ _ => rfl
  have e2 : ∀ b f t, (freeM b f t).err = b.err := fun _ _ _ => rfl
  have hp' := hat.pos
  cases hp : peekM s b with
  | none =>
    have h1 : timesM s' b' x' = (b', x') := by unfold timesM; rw [(hs.peek_end hat hb hp).1]; exact if_neg (by decide)
    have h2 : timesM s b x = (b, x) := by unfold timesM; rw [hp]
    have h3 : timesR s' b' a = a := by unfold timesR; rw [(hs.peek_end hat hb hp).1]; rfl
    have h4 : timesR s b a = a := by unfold timesR; rw [hp]
    rw [h1, h2, h3, h4]
    exact ⟨hat, rfl, hb⟩
  | some c =>
    have hps := (peekM_some hp).2.1
    have h3 : timesR s' b' a = timesR s b a := by unfold timesR; rw [hp, hs.peek hat hp]
    refine ⟨?_, h3, ?_⟩
    · refine ⟨?_, by rw [timesM_keep]; exact hat.e, by rw [timesM_keep]; exact hat.e'⟩
      unfold timesM
      rw [hp, hs.peek hat hp]
      dsimp only
      split
      · split <;> split <;> simp only [e, nodeM, stepM] <;> omega
      · exact hp'
    · unfold timesM
      rw [hp]
      dsimp only
      split
      · split <;> split <;> simp only [e, nodeM, stepM] <;> omega
      · exact hb
def Like : Md → Md → Prop
  | .either, .either => True
  | .alts _, .alts _ => True
  | .row, .row => True
  | .parts _, .parts _ => True
  | .atom, .atom => True
  | _, _ => False
/-- one bracket more: is it too deep? -/
def deepM (s : ByteArray) : Nat → Md → Nat → Bs → Bool
  | 0, _, _, _ => false
  | n + 1, .either, d, b => deepM s n (.alts (b.sts.length, b.sts.length + 1)) d (nodeM (nodeM b))
  | n + 1, .alts p, d, b =>
    let r := runM s n .row d b
    let b2 := freeM (freeM r.1 p.1 r.2.1) r.2.2 p.2
    deepM s n .row d b || (if peekM s b2 = some 124 then deepM s n (.alts p) d (stepM b2) else false)
  | n + 1, .row, d, b => deepM s n (.parts (b.sts.length, b.sts.length)) d (nodeM b)
  | n + 1, .parts p, d, b =>
    match peekM s b with
    | none => false
    | some c => if c = 124 ∨ c = 41 then false else
      let r := runM s n .atom d b
      let t := timesM s r.1 r.2
      deepM s n .atom d b || deepM s n (.parts (p.1, t.2.2)) d (freeM t.1 p.2 t.2.1)
  | n + 1, .atom, d, b =>
    if byteM s b.pos = 40 then (if d + 1 = 8 then true else deepM s n .either (d + 1) (stepM b)) else false
theorem Sub.run {s s' : ByteArray} {off : Nat} (hs : Sub s s' off) (n : Nat) : ∀ (n' : Nat) (md md' : Md) (acc : Re) (d : Nat) (b b' : Bs), Like md md' → fuelM s b md ≤ n → fuelM s' b' md' ≤ n' → d + 1 ≤ 8 → At b b' off → b.pos ≤ s.size → (md = .atom → b.pos < s.size) → (runM s n md d b).1.err = 0 →
    ((runM s' n' md' (d + 1) b').1.err = 3 ∧ deepM s n md d b = true) ∨ (At (runM s n md d b).1 (runM s' n' md' (d + 1) b').1 off ∧ reM s' n' md' acc (d + 1) b' = reM s n md acc d b ∧ (runM s n md d b).1.pos ≤ s.size ∧ deepM s n md d b = false) := by
  induction n with
  | zero => intro _ md _ _ _ _ _ _ hn; cases md <;> simp [fuelM] at hn
  | succ n ih =>
    intro n' md md' acc d b b' hl hn hn' hd hat hb ha h
    obtain ⟨n', rfl⟩ : ∃ m, n' = m + 1 := ⟨n' - 1, by cases md' <;> simp [fuelM] at hn' <;> omega⟩
    have hlong := hs.long
    have hpos := hat.pos
    cases md with
    | either =>
      cases md' <;> try exact hl.elim
      simp only [fuelM] at hn hn'
      rw [runM] at h
      rw [runM, reM, runM, reM, deepM]
      exact ih n' _ _ .no d _ _ trivial (by simp only [fuelM, nodeM]; omega) (by simp only [fuelM, nodeM]; omega) hd ⟨hat.pos, hat.e, hat.e'⟩ hb (fun h => by cases h) h
    | alts p =>
      cases md' <;> try exact hl.elim
      rename_i p'
      simp only [fuelM] at hn hn'
      rw [runM] at h
      have hr0 : (runM s n .row d b).1.err = 0 := by
        split at h
        · exact zero_of (a := (runM s n .row d b).1.err) (fun hne => (runM_keep s n (.alts p) d (stepM (freeM (freeM (runM s n .row d b).1 p.1 (runM s n .row d b).2.1) (runM s n .row d b).2.2 p.2)) hne)) h
        · exact h
      rw [runM, reM, runM, reM, deepM]
      rcases ih n' .row .row .no d b b' trivial (by simp only [fuelM]; omega) (by simp only [fuelM]; omega) hd hat hb (fun h => by cases h) hr0 with ⟨h3, hdp⟩ | ⟨h1, h2, h3, hdp⟩
      · left
        rw [hdp, Bool.true_or]
        have h4 : (freeM (freeM (runM s' n' .row (d + 1) b').1 p'.1 (runM s' n' .row (d + 1) b').2.1) (runM s' n' .row (d + 1) b').2.2 p'.2).err = 3 := h3
        rw [peek_err (by rw [h4]; decide), if_neg (by simp)]
        exact ⟨h3, rfl⟩
      · rw [hdp, Bool.false_or]
        have h1' : At (freeM (freeM (runM s n .row d b).1 p.1 (runM s n .row d b).2.1) (runM s n .row d b).2.2 p.2) (freeM (freeM (runM s' n' .row (d + 1) b').1 p'.1 (runM s' n' .row (d + 1) b').2.1) (runM s' n' .row (d + 1) b').2.2 p'.2) off := ⟨h1.pos, h1.e, h1.e'⟩
        have h3' : (freeM (freeM (runM s n .row d b).1 p.1 (runM s n .row d b).2.1) (runM s n .row d b).2.2 p.2).pos ≤ s.size := h3
        have hgd := (runM_ok s n .row d b (by omega) (by omega) (fun h => by cases h) trivial (by simp only [fuelM]; omega)).gd.pos
        have hgd' := (runM_ok s' n' .row (d + 1) b' (by omega) (by omega) (fun h => by cases h) trivial (by simp only [fuelM]; omega)).gd.pos
        have hgp : (freeM (freeM (runM s n .row d b).1 p.1 (runM s n .row d b).2.1) (runM s n .row d b).2.2 p.2).pos = (runM s n .row d b).1.pos := rfl
        have hgp' : (freeM (freeM (runM s' n' .row (d + 1) b').1 p'.1 (runM s' n' .row (d + 1) b').2.1) (runM s' n' .row (d + 1) b').2.2 p'.2).pos = (runM s' n' .row (d + 1) b').1.pos := rfl
        rw [h2]
        generalize (freeM (freeM (runM s n .row d b).1 p.1 (runM s n .row d b).2.1) (runM s n .row d b).2.2 p.2) = c at *
        generalize (freeM (freeM (runM s' n' .row (d + 1) b').1 p'.1 (runM s' n' .row (d + 1) b').2.1) (runM s' n' .row (d + 1) b').2.2 p'.2) = c' at *
        by_cases hp : peekM s c = some 124
        · have hps := (peekM_some hp).2.1
          rw [if_pos hp] at h ⊢
          rw [if_pos hp, if_pos (hs.peek h1' hp), if_pos (hs.peek h1' hp), if_pos hp]
          exact ih n' (.alts p) (.alts p') _ d (stepM c) (stepM c') trivial (by simp only [fuelM, stepM]; omega) (by simp only [fuelM, stepM]; omega) hd h1'.step (by simp only [stepM]; omega) (fun h => by cases h) h
        · have hp' : ¬ peekM s' c' = some 124 := by
            intro hp'
            cases hq : peekM s c with
            | none => rw [(hs.peek_end h1' h3' hq).1] at hp'; cases hp'
            | some e => rw [hs.peek h1' hq] at hp'; rw [hq] at hp; exact hp hp'
          rw [if_neg hp, if_neg hp, if_neg hp', if_neg hp', if_neg hp]
          exact .inr ⟨h1', rfl, h3', rfl⟩
    | row =>
      cases md' <;> try exact hl.elim
      simp only [fuelM] at hn hn'
      rw [runM] at h
      rw [runM, reM, runM, reM, deepM]
      exact ih n' _ _ .eps d _ _ trivial (by simp only [fuelM, nodeM]; omega) (by simp only [fuelM, nodeM]; omega) hd ⟨hat.pos, hat.e, hat.e'⟩ hb (fun h => by cases h) h
    | parts p =>
      cases md' <;> try exact hl.elim
      rename_i p'
      simp only [fuelM] at hn hn'
      rw [runM] at h
      rw [runM, reM, runM, reM, deepM]
      cases hp : peekM s b with
      | none =>
        rw [(hs.peek_end hat hb hp).1]
        exact .inr ⟨hat, rfl, hb, rfl⟩
      | some c =>
        have hps := (peekM_some hp).2.1
        rw [hs.peek hat hp]
        rw [hp] at h
        dsimp only at h ⊢
        by_cases hc : c = 124 ∨ c = 41
        · rw [if_pos hc, if_pos hc, if_pos hc, if_pos hc, if_pos hc]
          exact .inr ⟨hat, rfl, hb, rfl⟩
        · rw [if_neg hc] at h
          rw [if_neg hc, if_neg hc, if_neg hc, if_neg hc, if_neg hc]
          have hz1 := zero_of (fun hne => runM_keep s n _ d _ hne) h
          have hz2 : (runM s n .atom d b).1.err = 0 := by rw [← timesM_keep (s := s) (x := (runM s n .atom d b).2)]; exact hz1
          rcases ih n' .atom .atom .no d b b' trivial (by simp only [fuelM]; omega) (by simp only [fuelM]; omega) hd hat hb (fun _ => hps) hz2 with ⟨h3, hdp⟩ | ⟨h1, h2, h3, hdp⟩
          · left
            rw [hdp, Bool.true_or]
            have h4 : (timesM s' (runM s' n' .atom (d + 1) b').1 (runM s' n' .atom (d + 1) b').2).1.err = 3 := by rw [timesM_keep]; exact h3
            rw [runM_keep _ _ _ _ _ (by show (timesM s' (runM s' n' .atom (d + 1) b').1 (runM s' n' .atom (d + 1) b').2).1.err ≠ 0; rw [h4]; decide)]
            exact ⟨h4, rfl⟩
          · rw [hdp, Bool.false_or]
            obtain ⟨k1, k2, k3⟩ := hs.times h1 h3 (runM s n .atom d b).2 (runM s' n' .atom (d + 1) b').2 (reM s n .atom .no d b)
            have o1 := (runM_ok s n .atom d b (by omega) (by omega) (fun _ => hps) trivial (by simp only [fuelM]; omega)).more rfl
            have o2 := (runM_ok s' n' .atom (d + 1) b' (by omega) (by omega) (fun _ => by omega) trivial (by simp only [fuelM]; omega)).more rfl
            have g1 := (gd_times s (runM s n .atom d b).1 (runM s n .atom d b).2).pos
            have g2 := (gd_times s' (runM s' n' .atom (d + 1) b').1 (runM s' n' .atom (d + 1) b').2).pos
            rw [h2, k2]
            exact ih n' _ _ _ d _ _ trivial (by simp only [fuelM, freeM]; omega) (by simp only [fuelM, freeM]; omega) hd ⟨k1.pos, k1.e, k1.e'⟩ k3 (fun h => by cases h) h
    | atom =>
      cases md' <;> try exact hl.elim
      simp only [fuelM] at hn hn'
      have hps := ha rfl
      have hby : byteM s' b'.pos = byteM s b.pos := by rw [hpos]; exact hs.same _ hps
      have hst : (stepM b).pos = b.pos + 1 := rfl
      have hst' : (stepM b').pos = b'.pos + 1 := rfl
      rw [runM] at h
      rw [runM, reM, runM, reM, deepM]
      dsimp only at h ⊢
      rw [hby]
      by_cases c1 : byteM s b.pos = 40
      · rw [if_pos c1] at h
        rw [if_pos c1, if_pos c1, if_pos c1, if_pos c1, if_pos c1]
        by_cases d1 : d = 8
        · omega
        · rw [if_neg d1] at h
          rw [if_neg d1, if_neg d1]
          by_cases d2 : d + 1 = 8
          · left
            rw [if_pos d2, if_pos d2, oneM_err, failM_new (b := stepM b') hat.e']
            exact ⟨rfl, rfl⟩
          · rw [if_neg d2, if_neg d2, if_neg d2]
            dsimp only at h ⊢
            have hz := zero_of (fun hne => closeM_keep hne) h
            rcases ih n' .either .either .no (d + 1) (stepM b) (stepM b') trivial (by simp only [fuelM]; omega) (by simp only [fuelM]; omega) (by omega) hat.step (by omega) (fun h => by cases h) hz with ⟨h3, hdp⟩ | ⟨h1, h2, h3, hdp⟩
            · left
              rw [closeM_keep (by rw [h3]; decide)]
              exact ⟨h3, hdp⟩
            · right
              have hp : peekM s (runM s n .either (d + 1) (stepM b)).1 = some 41 := by
                rcases Decidable.em (peekM s (runM s n .either (d + 1) (stepM b)).1 = some 41) with h5 | h5
                · exact h5
                · unfold closeM at h
                  rw [if_neg h5] at h
                  exact absurd h (failM_err (by decide))
              refine ⟨?_, h2, ?_, hdp⟩
              · unfold closeM
                rw [if_pos hp, if_pos (hs.peek h1 hp)]
                exact h1.step
              · rw [closeM_pos]
                have := (peekM_some hp).2.1
                omega
      · rw [if_neg c1] at h
        rw [if_neg c1, if_neg c1, if_neg c1, if_neg c1, if_neg c1]
        by_cases c2 : byteM s b.pos = 91
        · rw [if_pos c2] at h
          rw [if_pos c2, if_pos c2, if_pos c2, if_pos c2]
          obtain ⟨k1, k2, k3⟩ := hs.class hat.step (by omega) h
          exact .inr ⟨⟨k1.pos, k1.e, k1.e'⟩, by rw [k2], k3, rfl⟩
        · rw [if_neg c2] at h
          rw [if_neg c2, if_neg c2, if_neg c2, if_neg c2]
          by_cases c3 : byteM s b.pos = 46
          · rw [if_pos c3, if_pos c3, if_pos c3, if_pos c3]
            exact .inr ⟨⟨hat.step.pos, hat.e, hat.e'⟩, rfl, by show b.pos + 1 ≤ _; omega, rfl⟩
          · rw [if_neg c3] at h
            rw [if_neg c3, if_neg c3, if_neg c3, if_neg c3]
            by_cases c4 : byteM s b.pos = 92
            · rw [if_pos c4] at h
              rw [if_pos c4, if_pos c4, if_pos c4, if_pos c4]
              cases hp : peekM s (stepM b) with
              | none =>
                rw [hp] at h
                exact absurd h (failM_err (b := stepM b) (by decide))
              | some e =>
                have := (peekM_some hp).2.1
                rw [hs.peek hat.step hp]
                exact .inr ⟨⟨hat.step.step.pos, hat.e, hat.e'⟩, rfl, by show (stepM b).pos + 1 ≤ _; omega, rfl⟩
            · rw [if_neg c4] at h
              rw [if_neg c4, if_neg c4, if_neg c4, if_neg c4]
              by_cases c5 : oddB (byteM s b.pos) = true
              · rw [if_pos c5] at h
                exact absurd h (failM_err (b := stepM b) (by decide))
              · rw [if_neg c5, if_neg c5]
                exact .inr ⟨⟨hat.step.pos, hat.e, hat.e'⟩, rfl, by show b.pos + 1 ≤ _; omega, rfl⟩
end Go.Proofs.Ytlepnnbgecneeaa
