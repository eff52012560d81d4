/- What is quoted fits itself alone. No program in sight. -/
import Derived.Test.YtlepnnbgecneeaaPatRf
import Derived.Test.YtlepnnbgecneeaaPatQuote
namespace Go.Proofs.Ytlepnnbgecneeaa

theorem byteM_bytesN {q : ByteArray} {k c : Nat} {l : List Nat} (h : (bytesN q).drop k = c :: l) : k < q.size ∧ byteM q k = c ∧ (bytesN q).drop (k + 1) = l := by
  have hk : k < (bytesN q).length := by
    rcases Nat.lt_or_ge k (bytesN q).length with h1 | h1
    · exact h1
    · rw [List.drop_eq_nil_of_le h1] at h; cases h
  have hk' : k < q.size := by rw [← bytesN_len]; exact hk
  rw [List.drop_eq_getElem_cons hk] at h
  injection h with h1 h2
  refine ⟨hk', ?_, h2⟩
  rw [← h1]
  unfold byteM
  rw [dif_pos hk']
  simp [bytesN, B]
  rfl
theorem peekM_at {q : ByteArray} {b : Bs} {c : Nat} {l : List Nat} (he : b.err = 0) (h : (bytesN q).drop b.pos = c :: l) : peekM q b = some c := by
  obtain ⟨h1, h2, _⟩ := byteM_bytesN h
  unfold peekM
  rw [if_pos ⟨he, h1⟩, h2]
theorem peekM_end {q : ByteArray} {b : Bs} (h : (bytesN q).drop b.pos = []) : peekM q b = none := by
  have h1 := List.drop_eq_nil_iff.1 h
  rw [bytesN_len] at h1
  unfold peekM
  rw [if_neg (by omega)]
theorem oneS_iff {c d : Nat} : oneS c d = true ↔ d = c := by
  simp only [oneS, addS, noS, Bool.false_or, Bool.and_eq_true, decide_eq_true_eq]; omega
theorem oddB_false {c : Nat} (h : oddB c = false) : postB c = false ∧ c ≠ 124 ∧ c ≠ 40 ∧ c ≠ 41 ∧ c ≠ 91 ∧ c ≠ 93 ∧ c ≠ 92 ∧ c ≠ 46 := by
  simp only [oddB, Bool.or_eq_false_iff, decide_eq_false_iff_not] at h
  obtain ⟨⟨⟨⟨⟨⟨⟨h0, h1⟩, h2⟩, h3⟩, h4⟩, h5⟩, h6⟩, h7⟩ := h
  exact ⟨h0, h1, h2, h3, h4, h5, h6, h7⟩
/-- ahead of what is quoted stands no postfix, no end -/
theorem quote_head (l : List Nat) : quoteM l = [] ∨ ∃ c r, quoteM l = c :: r ∧ postB c = false ∧ c ≠ 124 := by
  cases l with
  | nil => exact .inl rfl
  | cons c l =>
    right
    unfold quoteM
    rw [List.flatMap_cons]
    cases h : oddB c with
    | true => exact ⟨92, _, rfl, by decide, by decide⟩
    | false => exact ⟨c, _, rfl, (oddB_false h).1, (oddB_false h).2.1⟩
theorem times_quote {q : ByteArray} {b : Bs} {l : List Nat} (he : b.err = 0) (h : (bytesN q).drop b.pos = quoteM l) (x : Nat × Nat) (a : Re) : timesM q b x = (b, x) ∧ timesR q b a = a := by
  rcases quote_head l with h1 | ⟨c, r, h1, h2, _⟩
  · rw [h1] at h
    have := peekM_end h
    unfold timesM timesR
    rw [this]
    exact ⟨rfl, rfl⟩
  · rw [h1] at h
    have := peekM_at he h
    unfold timesM timesR
    rw [this]
    have h3 : c ≠ 42 ∧ c ≠ 43 ∧ c ≠ 63 := by simp only [postB, Bool.or_eq_false_iff, decide_eq_false_iff_not] at h2; omega
    refine ⟨if_neg (by rw [h2]; simp), ?_⟩
    dsimp only
    rw [if_neg h3.1, if_neg h3.2.1, if_neg h3.2.2]
/-- an atom that is quoted -/
theorem atom_quote {q : ByteArray} {n d : Nat} {b : Bs} {c : Nat} {l : List Nat} (he : b.err = 0) (h : (bytesN q).drop b.pos = quoteM (c :: l)) :
    ∃ k sts p, runM q (n + 1) .atom d b = (⟨k, 0, sts⟩, p) ∧ (bytesN q).drop k = quoteM l ∧ k ≤ q.size ∧ b.pos < k ∧ reM q (n + 1) .atom .no d b = .set (oneS c) ∧ ∃ e, peekM q b = some e ∧ e ≠ 124 ∧ e ≠ 41 := by
  have e : quoteM (c :: l) = (if oddB c = true then [92, c] else [c]) ++ quoteM l := by unfold quoteM; rw [List.flatMap_cons]
  rw [e] at h
  obtain ⟨pos, err, sts⟩ := b
  dsimp only at he h
  subst he
  cases ho : oddB c with
  | true =>
    rw [ho, if_pos rfl] at h
    obtain ⟨h1, h2, h3⟩ := byteM_bytesN (q := q) h
    obtain ⟨h4, h5, h6⟩ := byteM_bytesN (q := q) h3
    have hp : peekM q ⟨pos, 0, sts⟩ = some 92 := peekM_at rfl h
    have hp2 : peekM q (stepM ⟨pos, 0, sts⟩) = some c := peekM_at (b := stepM ⟨pos, 0, sts⟩) rfl h3
    rw [runM, reM]
    dsimp only
    rw [h2]
    rw [if_neg (by decide), if_neg (by decide), if_neg (by decide), if_pos rfl, if_neg (by decide), if_neg (by decide), if_neg (by decide), if_pos rfl, hp2]
    exact ⟨_, _, _, rfl, h6, h4, by show pos < pos + 1 + 1; omega, rfl, 92, hp, by decide, by decide⟩
  | false =>
    rw [ho, if_neg (by decide)] at h
    obtain ⟨h1, h2, h3⟩ := byteM_bytesN (q := q) h
    obtain ⟨o1, o2, o3, o4, o5, o6, o7, o8⟩ := oddB_false ho
    have hp : peekM q ⟨pos, 0, sts⟩ = some c := peekM_at rfl h
    rw [runM, reM]
    dsimp only
    rw [h2]
    rw [if_neg o3, if_neg o5, if_neg o8, if_neg o7, if_neg (by rw [ho]; decide), if_neg o3, if_neg o5, if_neg o8, if_neg o7, if_neg (by rw [ho]; decide)]
    exact ⟨_, _, _, rfl, h3, h1, by show pos < pos + 1; omega, rfl, c, hp, o2, o4⟩
theorem parts_quote {q : ByteArray} : ∀ (l : List Nat) (n d : Nat) (b : Bs) (p : Nat × Nat) (acc : Re), b.err = 0 → b.pos ≤ q.size → (bytesN q).drop b.pos = quoteM l → l.length + 2 ≤ n →
    (runM q n (.parts p) d b).1.pos = q.size ∧ (runM q n (.parts p) d b).1.err = 0 ∧ ∀ cs, Lr (reM q n (.parts p) acc d b) cs ↔ ∃ x, Lr acc x ∧ cs = x ++ l
  | [], n, d, b, p, acc, he, hk, h, hn => by
    obtain ⟨n, rfl⟩ : ∃ m, n = m + 1 := ⟨n - 1, by omega⟩
    have hp := peekM_end h
    have hq : q.size ≤ b.pos := by have := List.drop_eq_nil_iff.1 h; rwa [bytesN_len] at this
    rw [runM, reM, hp]
    exact ⟨by dsimp only; omega, he, fun cs => ⟨fun h => ⟨cs, h, (List.append_nil cs).symm⟩, fun ⟨x, h, e⟩ => by rw [e, List.append_nil]; exact h⟩⟩
  | c :: l, n, d, b, p, acc, he, hk, h, hn => by
    obtain ⟨n, rfl⟩ : ∃ m, n = m + 2 := ⟨n - 2, by simp at hn; omega⟩
    obtain ⟨k, sts, pp, h1, h2, h3, h3', h4, e, h5, h6, h7⟩ := atom_quote (n := n) (d := d) he h
    have ht := fun x a => times_quote (b := ⟨k, 0, sts⟩) rfl h2 x a
    have ih := parts_quote l (n + 1) d (freeM ⟨k, 0, sts⟩ p.2 pp.1) (p.1, pp.2) (.cat acc (.set (oneS c))) rfl h3 h2 (by simp at hn; omega)
    rw [runM, reM, h5]
    dsimp only
    rw [if_neg (by omega), if_neg (by omega), h1, h4]
    dsimp only
    rw [(ht pp (.set (oneS c))).1, (ht pp (.set (oneS c))).2]
    refine ⟨ih.1, ih.2.1, fun cs => (ih.2.2 cs).trans ⟨?_, ?_⟩⟩
    · rintro ⟨x, h8, rfl⟩
      cases h8 with
      | cat h8 h9 =>
        cases h9 with
        | set h9 =>
          rename_i y d'
          rw [oneS_iff.1 h9]
          exact ⟨y, h8, by simp⟩
    · rintro ⟨x, h8, rfl⟩
      exact ⟨x ++ [c], .cat h8 (.set (oneS_iff.2 rfl)), by simp⟩
theorem bytes_quote (s : ByteArray) : bytesN (quoteB s) = quoteM (bytesN s) := quoteB_bytes s
theorem bytesN_le_quote (l : List Nat) : l.length ≤ (quoteM l).length := by
  induction l with
  | nil => exact Nat.le_refl _
  | cons c l ih =>
    unfold quoteM at ih ⊢
    rw [List.flatMap_cons, List.length_append, List.length_cons]
    split
    · simp only [List.length_cons, List.length_nil]; omega
    · simp only [List.length_cons, List.length_nil]; omega
theorem quote_run (s : ByteArray) : (runR (quoteB s)).1.pos = (quoteB s).size ∧ (runR (quoteB s)).1.err = 0 ∧ ∀ cs, Lr (reT (quoteB s)) cs ↔ cs = bytesN s := by
  have hq := bytes_quote s
  have hl : (bytesN s).length ≤ (quoteB s).size := by rw [← bytesN_len (quoteB s), hq]; exact bytesN_le_quote _
  unfold runR reT
  generalize hqe : quoteB s = q at *
  obtain ⟨n, hn⟩ : ∃ n, 8 * q.size + 5 = n + 3 := ⟨8 * q.size + 2, rfl⟩
  rw [hn]
  have hb : (nodeM (nodeM bs0)).err = 0 := rfl
  have h := parts_quote (q := q) (bytesN s) n 0 (nodeM (nodeM (nodeM bs0))) ((nodeM (nodeM bs0)).sts.length, (nodeM (nodeM bs0)).sts.length) .eps rfl (Nat.zero_le _) (by rw [show (nodeM (nodeM (nodeM bs0))).pos = 0 from rfl, List.drop_zero]; exact hq) (by omega)
  obtain ⟨h1, h2, h3⟩ := h
  have hpk : ∀ f t f' t', peekM q (freeM (freeM (runM q n (.parts ((nodeM (nodeM bs0)).sts.length, (nodeM (nodeM bs0)).sts.length)) 0 (nodeM (nodeM (nodeM bs0)))).1 f t) f' t') = none := fun f t f' t' => by
    unfold peekM
    rw [if_neg (by simp only [freeM]; omega)]
  have r1 : runM q (n + 1) .row 0 (nodeM (nodeM bs0)) = runM q n (.parts ((nodeM (nodeM bs0)).sts.length, (nodeM (nodeM bs0)).sts.length)) 0 (nodeM (nodeM (nodeM bs0))) := by rw [runM]
  have r2 : reM q (n + 1) .row .no 0 (nodeM (nodeM bs0)) = reM q n (.parts ((nodeM (nodeM bs0)).sts.length, (nodeM (nodeM bs0)).sts.length)) .eps 0 (nodeM (nodeM (nodeM bs0))) := by rw [reM]
  rw [runM, reM, runM, reM, r1, r2]
  dsimp only
  rw [hpk]
  refine ⟨?_, ?_, fun cs => ?_⟩
  · rw [if_neg (by simp)]; exact h1
  · rw [if_neg (by simp)]; exact h2
  · rw [if_neg (by simp)]
    constructor
    · intro h4
      cases h4 with
      | altl h5 => cases h5
      | altr h5 =>
        obtain ⟨x, h6, rfl⟩ := (h3 _).1 h5
        cases h6
        rfl
    · rintro rfl
      exact .altr ((h3 _).2 ⟨[], .eps, rfl⟩)
theorem quote_err (s : ByteArray) : errM (quoteB s) = if 100 < (quoteB s).size then 4 else 0 := by
  obtain ⟨h1, h2, _⟩ := quote_run s
  unfold errM
  split
  · rfl
  · unfold endR
    rw [if_neg (by omega)]
    exact h2
theorem quote_fits (s t : ByteArray) (h : (quoteB s).size ≤ 100) : FitsP (quoteB s) t ↔ bytesN t = bytesN s := by
  rw [fits_re, (quote_run s).2.2, quote_err, if_neg (by omega)]
  exact ⟨fun h => h.2, fun h => ⟨rfl, h⟩⟩
theorem quote_size (s : ByteArray) : (quoteB s).size ≤ 2 * s.size := by
  rw [← bytesN_len (quoteB s), bytes_quote, ← bytesN_len s]
  exact quoteM_len _
end Go.Proofs.Ytlepnnbgecneeaa
