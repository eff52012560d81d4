/- How far states are from the end, said plainly. No program in sight. -/
import Derived.Test.YtlepnnbgecneeaaPatG
namespace Go.Proofs.Ytlepnnbgecneeaa

/-- from a state to the end by so many bytes -/
inductive Pn (sts : List St) (en : Nat) : Nat → Nat → Prop
  | done : Pn sts en en 0
  | free {k f m : Nat} : f ∈ frees sts k → Pn sts en f m → Pn sts en k m
  | byte {k c m : Nat} {x : St} : sts[k]? = some x → c < 256 → goB x c = true → Pn sts en x.next m → Pn sts en k (m + 1)
/-- what d holds -/
structure NJ (sts : List St) (en : Nat) (d : List Nat) : Prop where
  len : d.length = sts.length
  e0 : d.getD en 0 = 0
  ok : ∀ k, k < sts.length → d.getD k 0 ≤ 301 ∧ (d.getD k 0 = 301 ∨ Pn sts en k (d.getD k 0))
def FixAt (sts : List St) (d : List Nat) (k : Nat) : Prop := ∀ x, sts[k]? = some x → (∀ f ∈ x.free, d.getD k 0 ≤ d.getD f 0) ∧ ∀ c, c < 256 → goB x c = true → d.getD k 0 ≤ d.getD x.next 0 + 1
/-- the best so far -/
structure Best (sts : List St) (en : Nat) (d : List Nat) (k j b : Nat) (l : List Nat) : Prop where
  le : b ≤ d.getD k 0
  fr : ∀ f ∈ l.take j, b ≤ d.getD f 0
  pn : b = 301 ∨ Pn sts en k b
theorem getD_set {d : List Nat} {k j v : Nat} (hk : k < d.length) : (d.set k v).getD j 0 = if j = k then v else d.getD j 0 := by
  rw [List.getD_eq_getElem?_getD, List.getD_eq_getElem?_getD, List.getElem?_set]
  by_cases h : k = j
  · subst h; simp [hk]
  · rw [if_neg h, if_neg (fun e => h e.symm)]
theorem Best.start {sts : List St} {en : Nat} {d : List Nat} (h : NJ sts en d) {k : Nat} (hk : k < sts.length) (l : List Nat) : Best sts en d k 0 (d.getD k 0) l :=
  ⟨Nat.le_refl _, fun f hf => by simp at hf, (h.ok k hk).2⟩
theorem Best.next {sts : List St} {en : Nat} {d : List Nat} (h : NJ sts en d) (hw : SWf sts) {k j b : Nat} {x : St} (hx : sts[k]? = some x) (hb : Best sts en d k j b x.free) (hj : j < x.free.length) : Best sts en d k (j + 1) (min b (d.getD x.free[j] 0)) x.free := by
  have hf : x.free[j] ∈ x.free := List.getElem_mem hj
  have hlt : x.free[j] < sts.length := (hw x (List.mem_of_getElem? hx)).1 _ hf
  refine ⟨Nat.le_trans (Nat.min_le_left _ _) hb.le, fun f h1 => ?_, ?_⟩
  · rw [List.take_succ_eq_append_getElem hj] at h1
    rcases List.mem_append.1 h1 with h2 | h2
    · exact Nat.le_trans (Nat.min_le_left _ _) (hb.fr f h2)
    · rw [List.mem_singleton.1 h2]; exact Nat.min_le_right _ _
  · rcases Nat.le_total b (d.getD x.free[j] 0) with h2 | h2
    · rw [Nat.min_eq_left h2]; exact hb.pn
    · rw [Nat.min_eq_right h2]
      rcases (h.ok _ hlt).2 with h3 | h3
      · exact .inl h3
      · refine .inr (.free ?_ h3)
        unfold frees; rw [hx]; exact hf
/-- the best of all that is reached without a byte, or with one -/
structure Full (sts : List St) (en : Nat) (d : List Nat) (k b : Nat) (x : St) : Prop where
  le : b ≤ d.getD k 0
  fr : ∀ f ∈ x.free, b ≤ d.getD f 0
  by1 : ∀ c, c < 256 → goB x c = true → b ≤ d.getD x.next 0 + 1
  pn : b = 301 ∨ Pn sts en k b
theorem Best.none {sts : List St} {en : Nat} {d : List Nat} {k b : Nat} {x : St} (hb : Best sts en d k x.free.length b x.free) (hn : ∀ c, c < 256 → goB x c = false) : Full sts en d k b x :=
  ⟨hb.le, fun f hf => hb.fr f (by rw [List.take_length]; exact hf), (fun c hc hg => by rw [hn c hc] at hg; cases hg), hb.pn⟩
theorem Best.some {sts : List St} {en : Nat} {d : List Nat} (h : NJ sts en d) (hw : SWf sts) {k b : Nat} {x : St} (hx : sts[k]? = .some x) (hb : Best sts en d k x.free.length b x.free) {c : Nat} (hc : c < 256) (hg : goB x c = true) (h301 : b ≤ 301) : Full sts en d k (min b (d.getD x.next 0 + 1)) x := by
  refine ⟨Nat.le_trans (Nat.min_le_left _ _) hb.le, fun f hf => Nat.le_trans (Nat.min_le_left _ _) (hb.fr f (by rw [List.take_length]; exact hf)), fun c hc hg => Nat.min_le_right _ _, ?_⟩
  have hn := h.ok _ (hw x (List.mem_of_getElem? hx)).2
  rcases Nat.le_total b (d.getD x.next 0 + 1) with h2 | h2
  · rw [Nat.min_eq_left h2]; exact hb.pn
  · rw [Nat.min_eq_right h2]
    rcases hn.2 with h3 | h3
    · omega
    · exact .inr (.byte hx hc hg h3)
theorem Full.keep {sts : List St} {en : Nat} {d : List Nat} {k b : Nat} {x : St} (hx : sts[k]? = some x) (hf : Full sts en d k b x) (hb : ¬ b < d.getD k 0) : FixAt sts d k := by
  have he : b = d.getD k 0 := by have := hf.le; omega
  intro y hy
  rw [hx] at hy
  obtain rfl := Option.some.inj hy
  rw [← he]
  exact ⟨hf.fr, hf.by1⟩
theorem Full.put {sts : List St} {en : Nat} {d : List Nat} (h : NJ sts en d) {k b : Nat} {x : St} (hk : k < sts.length) (hf : Full sts en d k b x) (hb : b < d.getD k 0) : NJ sts en (d.set k b) := by
  have hkd : k < d.length := by rw [h.len]; exact hk
  refine ⟨by rw [List.length_set]; exact h.len, ?_, fun j hj => ?_⟩
  · rw [getD_set hkd]
    split
    · rename_i e; subst e; rw [h.e0] at hb; omega
    · exact h.e0
  · rw [getD_set hkd]
    split
    · rename_i e
      subst e
      exact ⟨by have := (h.ok j hj).1; omega, hf.pn⟩
    · exact h.ok j hj
theorem sum_set : ∀ {d : List Nat} {k b : Nat}, k < d.length → b < d.getD k 0 → (d.set k b).sum < d.sum
  | [], _, _, h, _ => by simp at h
  | x :: l, 0, b, _, h => by simp at h; simp; omega
  | x :: l, k + 1, b, hk, h => by
    have := sum_set (d := l) (k := k) (b := b) (by simpa using hk) (by simpa using h)
    simp; omega
theorem NJ.start {sts : List St} {en n : Nat} (hn : n = sts.length) (he : en < sts.length) : NJ sts en ((List.replicate n 301).set en 0) := by
  subst hn
  have hl : en < (List.replicate sts.length 301).length := by simpa using he
  refine ⟨by simp, by rw [getD_set hl, if_pos rfl], fun k hk => ?_⟩
  rw [getD_set hl]
  split
  · rename_i e; subst e; exact ⟨by omega, .inr .done⟩
  · have : (List.replicate sts.length 301).getD k 0 = 301 := by rw [List.getD_eq_getElem?_getD, List.getElem?_replicate_of_lt hk]; rfl
    rw [this]; exact ⟨Nat.le_refl _, .inl rfl⟩
/-- what near hands back -/
def Near (sts : List St) (en : Nat) (d : List Nat) : Prop := NJ sts en d ∧ ∀ k, k < sts.length → FixAt sts d k
theorem Near.le {sts : List St} {en : Nat} {d : List Nat} (h : Near sts en d) (hw : SWf sts) {k m : Nat} (hp : Pn sts en k m) (hk : k < sts.length) : d.getD k 0 ≤ m := by
  induction hp with
  | done => rw [h.1.e0]; omega
  | @free k' f m hf _ ih =>
    have hx : sts[k']? = .some sts[k'] := List.getElem?_eq_getElem hk
    have hm : f ∈ sts[k'].free := by unfold frees at hf; rw [hx] at hf; exact hf
    exact Nat.le_trans ((h.2 k' hk _ hx).1 f hm) (ih (frees_lt hw hf))
  | @byte k' c m x hx hc hg _ ih => exact Nat.le_trans ((h.2 _ hk _ hx).2 _ hc hg) (Nat.succ_le_succ (ih (hw _ (List.mem_of_getElem? hx)).2))
/-- is there a byte in it? -/
theorem words_zero {f : Nat → Bool} {ws : List Nat} (h : WordsOf f ws) : ws = [0, 0, 0, 0] ↔ ∀ c, c < 256 → f c = false := by
  obtain ⟨h1, h2, h3⟩ := h
  constructor
  · rintro rfl c hc
    rw [← h3 c hc]
    have : c / 64 = 0 ∨ c / 64 = 1 ∨ c / 64 = 2 ∨ c / 64 = 3 := by omega
    rcases this with e | e | e | e <;> rw [e] <;> simp
  · intro h
    have hz : ∀ j, j < 4 → ws.getD j 0 = 0 := by
      intro j hj
      apply Nat.eq_of_testBit_eq
      intro i
      rw [Nat.zero_testBit]
      by_cases hi : i < 64
      · have := h3 (64 * j + i) (by omega)
        rw [h _ (by omega), show (64 * j + i) / 64 = j by omega, show (64 * j + i) % 64 = i by omega] at this
        exact this
      · have hlt : ws.getD j 0 < 18446744073709551616 := by
          rw [List.getD_eq_getElem?_getD, List.getElem?_eq_getElem (by omega)]
          exact h2 _ (List.getElem_mem _)
        exact Nat.testBit_lt_two_pow (Nat.lt_of_lt_of_le hlt (by
          have : (2 : Nat) ^ 64 ≤ 2 ^ i := Nat.pow_le_pow_right (by omega) (by omega)
          simpa using this))
    match ws, h1 with
    | [a, b, c, d], _ =>
      have e0 := hz 0 (by omega)
      have e1 := hz 1 (by omega)
      have e2 := hz 2 (by omega)
      have e3 := hz 3 (by omega)
      simp at e0 e1 e2 e3
      rw [e0, e1, e2, e3]
end Go.Proofs.Ytlepnnbgecneeaa
