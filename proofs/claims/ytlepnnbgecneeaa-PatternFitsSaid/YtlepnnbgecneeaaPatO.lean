/- The least text that fits, said plainly. No program in sight. -/
import Derived.Test.YtlepnnbgecneeaaPatJ
namespace Go.Proofs.Ytlepnnbgecneeaa

/-- by some bytes from a state to another one -/
inductive Pl (sts : List St) : Nat → List Nat → Nat → Prop
  | nil {k : Nat} : Pl sts k [] k
  | free {k f e : Nat} {cs : List Nat} : f ∈ frees sts k → Pl sts f cs e → Pl sts k cs e
  | byte {k c e : Nat} {cs : List Nat} {x : St} : sts[k]? = some x → c < 256 → goB x c = true → Pl sts x.next cs e → Pl sts k (c :: cs) e
theorem Pl.one {sts : List St} {k e f : Nat} {cs : List Nat} (h : Pl sts k cs e) (hf : f ∈ frees sts e) : Pl sts k cs f := by
  induction h with
  | nil => exact .free hf .nil
  | free h1 _ ih => exact .free h1 (ih hf)
  | byte h1 h2 h3 _ ih => exact .byte h1 h2 h3 (ih hf)
theorem Pl.fr {sts : List St} {k e f : Nat} {cs : List Nat} (h : Pl sts k cs e) (hf : FR sts e f) : Pl sts k cs f := by
  induction hf with
  | refl => exact h
  | step _ h2 ih => exact ih.one h2
theorem Pl.snoc {sts : List St} {k e c : Nat} {cs : List Nat} {x : St} (h : Pl sts k cs e) (hx : sts[e]? = some x) (hc : c < 256) (hg : goB x c = true) : Pl sts k (cs ++ [c]) x.next := by
  induction h with
  | nil => exact .byte hx hc hg .nil
  | free h1 _ ih => exact .free h1 (ih hx)
  | byte h1 h2 h3 _ ih => exact .byte h1 h2 h3 (ih hx)
theorem Pl.pn {sts : List St} {k e : Nat} {cs : List Nat} (h : Pl sts k cs e) : Pn sts e k cs.length := by
  induction h with
  | nil => exact .done
  | free h1 _ ih => exact .free h1 ih
  | byte h1 h2 h3 _ ih => exact .byte h1 h2 h3 ih
theorem FR.trans {sts : List St} {a b c : Nat} (h : FR sts a b) (h' : FR sts b c) : FR sts a c := by
  induction h' with
  | refl => exact h
  | step _ h2 ih => exact .step ih h2
theorem FR.cons {sts : List St} {a b c : Nat} (h : b ∈ frees sts a) (h' : FR sts b c) : FR sts a c := FR.trans (.step (.refl a) h) h'
theorem Rn.fr {sts : List St} {st k f : Nat} {cs : List Nat} (h : Rn sts st cs k) (hf : FR sts k f) : Rn sts st cs f := by
  cases h with
  | start h1 => exact .start (h1.trans hf)
  | byte h1 h2 h3 h4 => exact .byte h1 h2 h3 (h4.trans hf)
theorem Rn_inv {sts : List St} {st c k : Nat} {cs : List Nat} (h : Rn sts st (cs ++ [c]) k) : ∃ j x, Rn sts st cs j ∧ sts[j]? = some x ∧ goB x c = true ∧ FR sts x.next k := by
  generalize hg : cs ++ [c] = l at h
  cases h with
  | start h => simp at hg
  | byte h1 h2 h3 h4 =>
    rename_i cs' c' j x
    obtain ⟨h5, h6⟩ := List.append_inj' hg rfl
    subst h5
    simp only [List.cons.injEq, and_true] at h6
    subst h6
    exact ⟨j, x, h1, h2, h3, h4⟩
theorem Rn_split {sts : List St} {st : Nat} {ws : List Nat} : ∀ (ds : List Nat) (e : Nat), (∀ c ∈ ds, c < 256) → Rn sts st (ws ++ ds) e → ∃ k, Rn sts st ws k ∧ Pl sts k ds e := by
  intro ds
  induction ds using snocInd with
  | h0 => intro e _ h; exact ⟨e, by simpa using h, .nil⟩
  | h1 l c ih =>
    intro e hb h
    rw [← List.append_assoc] at h
    obtain ⟨j, x, h1, h2, h3, h4⟩ := Rn_inv h
    obtain ⟨k, h5, h6⟩ := ih j (fun q hq => hb q (List.mem_append_left _ hq)) h1
    exact ⟨k, h5, (h6.snoc h2 (hb c (by simp)) h3).fr h4⟩
theorem Pn_zero {sts : List St} {en k m : Nat} (h : Pn sts en k m) : m = 0 → FR sts k en := by
  induction h with
  | done => intro _; exact .refl _
  | free h1 _ ih => intro e; exact .cons h1 (ih e)
  | byte => intro e; cases e
theorem Pn_succ {sts : List St} {en k n : Nat} (h : Pn sts en k n) : ∀ m, n = m + 1 → ∃ j x c, FR sts k j ∧ sts[j]? = some x ∧ c < 256 ∧ goB x c = true ∧ Pn sts en x.next m := by
  induction h with
  | done => intro m e; cases e
  | free h1 _ ih =>
    intro m e
    obtain ⟨j, x, c, h2, h3⟩ := ih m e
    exact ⟨j, x, c, .cons h1 h2, h3⟩
  | byte h1 h2 h3 h4 _ =>
    intro m e
    obtain rfl := Nat.succ.inj e
    exact ⟨_, _, _, .refl _, h1, h2, h3, h4⟩
theorem Near.fr {sts : List St} {en : Nat} {d : List Nat} (h : Near sts en d) (hw : SWf sts) {j k : Nat} (hf : FR sts j k) (hj : j < sts.length) : d.getD j 0 ≤ d.getD k 0 := by
  induction hf with
  | refl => exact Nat.le_refl _
  | @step k' f h1 h2 ih =>
    have hk : k' < sts.length := FR_lt hw h1 hj
    refine Nat.le_trans ih ?_
    have hx : sts[k']? = some sts[k'] := List.getElem?_eq_getElem hk
    have hm : f ∈ sts[k'].free := by unfold frees at h2; rw [hx] at h2; exact h2
    exact (h.2 k' hk _ hx).1 f hm
/-! the order of texts of one length -/
def LexLt (a b : List Nat) : Prop := ∃ p x y r s, a = p ++ x :: r ∧ b = p ++ y :: s ∧ x < y
def LexLe (a b : List Nat) : Prop := a = b ∨ LexLt a b
theorem LexLt.app {a b : List Nat} (h : LexLt a b) (u v : List Nat) : LexLt (a ++ u) (b ++ v) := by
  obtain ⟨p, x, y, r, s, rfl, rfl, h⟩ := h
  exact ⟨p, x, y, r ++ u, s ++ v, by simp, by simp, h⟩
/-- what Least carries -/
structure LI (sts : List St) (st en : Nat) (d ws : List Nat) (left : Nat) (out : List Nat) : Prop where
  mem : ∀ k, k ∈ out ↔ Rn sts st ws k
  ex : ∃ k ∈ out, d.getD k 0 = left
  ge : ∀ k ∈ out, left ≤ d.getD k 0
  mn : ∀ cs, (∀ c ∈ cs, c < 256) → Rn sts st cs en → ws.length + left ≤ cs.length ∧ (cs.length = ws.length + left → LexLe ws (cs.take ws.length))
theorem LI.start {sts : List St} {st en : Nat} {d out : List Nat} (hn : Near sts en d) (hw : SWf sts) (hs : st < sts.length) (ho : ∀ k, k ∈ out ↔ Rn sts st [] k) : LI sts st en d [] (d.getD st 0) out := by
  refine ⟨ho, ⟨st, (ho st).2 (.start (.refl _)), rfl⟩, fun k hk => ?_, fun cs hb hr => ?_⟩
  · obtain ⟨j, hj, hr⟩ := Rn_nil.1 ((ho k).1 hk)
    rw [List.mem_singleton.1 hj] at hr
    exact hn.fr hw hr hs
  · obtain ⟨k, h1, h2⟩ := Rn_split (ws := []) cs en hb (by simpa using hr)
    obtain ⟨j, hj, hr⟩ := Rn_nil.1 h1
    rw [List.mem_singleton.1 hj] at hr
    have := hn.fr hw hr hs
    have := hn.le hw h2.pn (FR_lt hw hr hs)
    exact ⟨by rw [List.length_nil]; omega, fun _ => .inl (by rw [List.length_nil, List.take_zero])⟩
theorem LI.near {sts : List St} {st en : Nat} {d ws out : List Nat} {left c k : Nat} (hn : Near sts en d) (hw : SWf sts) (hs : st < sts.length) (h : LI sts st en d ws (left + 1) out) (hc : c < 256) (hk : Cl sts (goN sts c out) k) : left ≤ d.getD k 0 ∧ k < sts.length := by
  obtain ⟨j, hj, hr⟩ := hk
  obtain ⟨q, hq, h1⟩ := List.mem_flatMap.1 hj
  have hql : q < sts.length := Rn_lt hw hs ((h.mem q).1 hq)
  have hjl := goN_lt hw hj
  have h2 := h.ge q hq
  have h3 := hn.fr hw hr hjl
  unfold go1 at h1
  split at h1
  · rename_i x hx
    split at h1
    · rename_i hg
      have h4 := (hn.2 q hql x hx).2 c hc hg
      rw [List.mem_singleton.1 h1] at h3
      exact ⟨by omega, FR_lt hw hr hjl⟩
    · cases h1
  · cases h1
theorem LI.step {sts : List St} {st en : Nat} {d ws out nxt : List Nat} {left c : Nat} (hn : Near sts en d) (hw : SWf sts) (hs : st < sts.length) (h : LI sts st en d ws (left + 1) out) (hc : c < 256)
    (hx : ∀ k, k ∈ nxt ↔ Cl sts (goN sts c out) k) (hex : ∃ k ∈ nxt, d.getD k 0 = left) (hno : ∀ c', c' < c → ∀ k, Cl sts (goN sts c' out) k → d.getD k 0 ≠ left) : LI sts st en d (ws ++ [c]) left nxt := by
  refine ⟨fun k => by rw [hx k, Rn_snoc h.mem], hex, fun k hk => (h.near hn hw hs hc ((hx k).1 hk)).1, fun cs hb hr => ?_⟩
  obtain ⟨h1, h2⟩ := h.mn cs hb hr
  rw [List.length_append, List.length_cons, List.length_nil]
  refine ⟨by omega, fun he => ?_⟩
  have hlt : ws.length < cs.length := by omega
  rw [List.take_succ_eq_append_getElem hlt]
  rcases h2 (by omega) with h3 | h3
  · have hcs : cs = ws ++ cs[ws.length] :: cs.drop (ws.length + 1) := by
      conv => lhs; rw [← List.take_append_drop ws.length cs, ← h3, List.drop_eq_getElem_cons hlt]
    generalize hcc : cs[ws.length] = c'' at *
    rw [← h3]
    have hr2 : Rn sts st ((ws ++ [c'']) ++ cs.drop (ws.length + 1)) en := by
      rw [List.append_assoc, List.singleton_append, ← hcs]; exact hr
    have hc2 : c'' < 256 := by rw [← hcc]; exact hb _ (List.getElem_mem _)
    obtain ⟨k, h4, h5⟩ := Rn_split _ en (fun q hq => hb q (List.mem_of_mem_drop hq)) hr2
    have h6 := (Rn_snoc h.mem).1 h4
    obtain ⟨h7, h8⟩ := h.near hn hw hs hc2 h6
    have h9 := hn.le hw h5.pn h8
    rw [List.length_drop] at h9
    rcases Nat.lt_trichotomy c'' c with h10 | h10 | h10
    · exact absurd (by omega) (hno c'' h10 k h6)
    · rw [h10]; exact .inl rfl
    · exact .inr ⟨ws, c, c'', [], [], rfl, rfl, h10⟩
  · exact .inr (h3.app _ _)
theorem LI.found {sts : List St} {st en : Nat} {d ws out : List Nat} {left : Nat} (hn : Near sts en d) (hw : SWf sts) (hs : st < sts.length) (h : LI sts st en d ws (left + 1) out) (hl : left + 1 ≤ 300) : ∃ c, c < 256 ∧ ∃ k, Cl sts (goN sts c out) k ∧ d.getD k 0 = left := by
  obtain ⟨k, hk, hd⟩ := h.ex
  have hkr := (h.mem k).1 hk
  have hkl := Rn_lt hw hs hkr
  rcases (hn.1.ok k hkl).2 with h1 | h1
  · omega
  · rw [hd] at h1
    obtain ⟨j, x, c, h2, h3, h4, h5, h6⟩ := Pn_succ h1 left rfl
    have hj : j ∈ out := (h.mem j).2 (hkr.fr h2)
    have hcl : Cl sts (goN sts c out) x.next := by
      refine ⟨x.next, List.mem_flatMap.2 ⟨j, hj, ?_⟩, .refl _⟩
      unfold go1; rw [h3]; simp [h5]
    have h7 := h.near hn hw hs h4 hcl
    have h8 := hn.le hw h6 h7.2
    exact ⟨c, h4, x.next, hcl, by omega⟩
/-- the least one -/
def LeastP (sts : List St) (st en : Nat) (ws : List Nat) : Prop := Rn sts st ws en ∧ ∀ cs, (∀ c ∈ cs, c < 256) → Rn sts st cs en → ws.length ≤ cs.length ∧ (cs.length = ws.length → LexLe ws cs)
theorem LI.done {sts : List St} {st en : Nat} {d ws out : List Nat} (hn : Near sts en d) (hw : SWf sts) (hs : st < sts.length) (h : LI sts st en d ws 0 out) : LeastP sts st en ws := by
  obtain ⟨k, hk, hd⟩ := h.ex
  have hkr := (h.mem k).1 hk
  refine ⟨?_, fun cs hb hr => ?_⟩
  · rcases (hn.1.ok k (Rn_lt hw hs hkr)).2 with h1 | h1
    · omega
    · exact hkr.fr (Pn_zero h1 hd)
  · obtain ⟨h1, h2⟩ := h.mn cs hb hr
    refine ⟨by omega, fun he => ?_⟩
    have := h2 (by omega)
    rwa [← he, List.take_length] at this
end Go.Proofs.Ytlepnnbgecneeaa
