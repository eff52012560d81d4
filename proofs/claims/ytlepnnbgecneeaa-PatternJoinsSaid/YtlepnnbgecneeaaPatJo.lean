/- Two patterns in brackets, side by side, one behind the other, with a postfix: their texts. No program in sight. -/
import Derived.Test.YtlepnnbgecneeaaPatSh
namespace Go.Proofs.Ytlepnnbgecneeaa

def postD : List Nat → List Nat
  | c :: l => if postB c = true then l else c :: l
  | [] => []
def postT : List Nat → Re → Re
  | c :: _, a => if c = 42 then .star a else if c = 43 then .plus a else if c = 63 then .opt a else a
  | [], a => a
theorem bytesN_app (a b : ByteArray) : bytesN (a ++ b) = bytesN a ++ bytesN b := by
  unfold bytesN B
  rw [ByteArray.data_append]
  simp
theorem err_zero {p : ByteArray} (h : errM p = 0) : (runR p).1.err = 0 ∧ p.size ≤ (runR p).1.pos := by
  unfold errM at h
  split at h
  · cases h
  · unfold endR at h
    split at h
    · exact absurd h (failM_err (by decide))
    · exact ⟨h, by omega⟩
theorem sub_of {s p : ByteArray} {k : Nat} {post : List Nat} (h : (bytesN s).drop k = 40 :: (bytesN p ++ 41 :: post)) : Sub p s (k + 1) ∧ (bytesN s).drop (k + p.size + 2) = post ∧ byteM s k = 40 ∧ k < s.size := by
  obtain ⟨h1, h2, h3⟩ := byteM_bytesN h
  have hl : (bytesN p).length = p.size := bytesN_len p
  have g : ∀ j c l, (bytesN p ++ 41 :: post).drop j = c :: l → byteM s (j + (k + 1)) = c ∧ j + (k + 1) < s.size := fun j c l hj => by
    have : (bytesN s).drop (j + (k + 1)) = c :: l := by rw [← hj, ← h3, List.drop_drop]; congr 1; omega
    obtain ⟨a1, a2, _⟩ := byteM_bytesN this
    exact ⟨a2, a1⟩
  refine ⟨⟨fun j hj => ?_, ?_, ?_⟩, ?_, h2, h1⟩
  · have hj' : j < (bytesN p).length := by omega
    have e : (bytesN p).drop j = (bytesN p)[j] :: (bytesN p).drop (j + 1) := List.drop_eq_getElem_cons hj'
    have e2 : (bytesN p ++ 41 :: post).drop j = (bytesN p)[j] :: ((bytesN p).drop (j + 1) ++ 41 :: post) := by
      rw [List.drop_append_of_le_length (by omega), e]; rfl
    rw [(g j _ _ e2).1, (byteM_bytesN e).2.1]
  · exact (g p.size 41 post (by rw [List.drop_append_of_le_length (by omega), List.drop_eq_nil_of_le (by omega)]; rfl)).1
  · exact (g p.size 41 post (by rw [List.drop_append_of_le_length (by omega), List.drop_eq_nil_of_le (by omega)]; rfl)).2
  · have : (bytesN s).drop (k + p.size + 2) = ((bytesN s).drop (k + 1)).drop (p.size + 1) := by rw [List.drop_drop]; congr 1; omega
    rw [this, h3, List.drop_append, List.drop_eq_nil_of_le (by omega)]
    simp [hl]
def deepT (p : ByteArray) : Bool := deepM p (8 * p.size + 5) .either 0 bs0
/-- a pattern in brackets is an atom -/
theorem atom_group {s p : ByteArray} {post : List Nat} (hp : errM p = 0) {b : Bs} {n : Nat} (he : b.err = 0) (hd : (bytesN s).drop b.pos = 40 :: (bytesN p ++ 41 :: post)) (hn : fuelM s b .atom ≤ n) :
    ((runM s n .atom 0 b).1.err = 3 ∧ deepT p = true) ∨ ((runM s n .atom 0 b).1.err = 0 ∧ (runM s n .atom 0 b).1.pos = b.pos + p.size + 2 ∧ reM s n .atom .no 0 b = reT p ∧ deepT p = false) := by
  obtain ⟨hs, _, h40, hlt⟩ := sub_of hd
  obtain ⟨e1, e2⟩ := err_zero hp
  simp only [fuelM] at hn
  obtain ⟨n, rfl⟩ : ∃ m, n = m + 1 := ⟨n - 1, by omega⟩
  have hst : (stepM b).pos = b.pos + 1 := rfl
  rw [runM, reM]
  dsimp only
  rw [if_pos h40, if_pos h40, if_neg (by decide), if_neg (by decide)]
  dsimp only
  rcases hs.run (8 * p.size + 5) n .either .either .no 0 bs0 (stepM b) trivial (by simp [fuelM, bs0]) (by simp only [fuelM]; omega) (by omega) ⟨by show b.pos + 1 = 0 + (b.pos + 1); omega, rfl, he⟩ (Nat.zero_le _) (fun h => by cases h) e1 with ⟨h3, hdp⟩ | ⟨h1, h2, h3, hdp⟩
  · left
    rw [closeM_keep (by rw [h3]; decide)]
    exact ⟨h3, hdp⟩
  · right
    change At (runR p).1 _ _ at h1
    change _ = reT p at h2
    change (runR p).1.pos ≤ _ at h3
    have hpos := h1.pos
    have hl := hs.long
    have hpk : peekM s (runM s n .either (0 + 1) (stepM b)).1 = some 41 := by
      unfold peekM
      rw [if_pos ⟨h1.e', by omega⟩, hpos, show (runR p).1.pos = p.size by omega, hs.shut]
    refine ⟨?_, ?_, h2, hdp⟩
    · unfold closeM
      rw [if_pos hpk]
      exact h1.e'
    · rw [closeM_pos]; omega
theorem times_post {s : ByteArray} {b : Bs} {l : List Nat} (he : b.err = 0) (h : (bytesN s).drop b.pos = l) (x : Nat × Nat) (a : Re) :
    (timesM s b x).1.err = 0 ∧ (bytesN s).drop (timesM s b x).1.pos = postD l ∧ timesR s b a = postT l a ∧ b.pos ≤ (timesM s b x).1.pos := by
  refine ⟨by rw [timesM_keep]; exact he, ?_, ?_, (gd_times s b x).pos⟩
  · unfold timesM
    have e : ∀ b f t, (freeM b f t).pos = b.pos := fun _ _ _ => rfl
    cases l with
    | nil => rw [peekM_end h]; exact h
    | cons c l =>
      rw [peekM_at he h]
      dsimp only [postD]
      split
      · have h2 := (byteM_bytesN h).2.2
        split <;> split <;> simp only [e, nodeM, stepM] <;> exact h2
      · exact h
  · unfold timesR
    cases l with
    | nil => rw [peekM_end h]; rfl
    | cons c l => rw [peekM_at he h]; rfl
/-- one more part: a pattern in brackets -/
theorem parts_group {s p : ByteArray} {post : List Nat} (hp : errM p = 0) {b : Bs} {n : Nat} {p0 : Nat × Nat} (he : b.err = 0) (hd : (bytesN s).drop b.pos = 40 :: (bytesN p ++ 41 :: post)) (hn : fuelM s b (.parts p0) ≤ n) :
    ((runM s n (.parts p0) 0 b).1.err = 3 ∧ deepT p = true) ∨ ∃ n2 b2 p2, deepT p = false ∧ b2.err = 0 ∧ (bytesN s).drop b2.pos = postD post ∧ fuelM s b2 (.parts p2) ≤ n2 ∧ runM s n (.parts p0) 0 b = runM s n2 (.parts p2) 0 b2 ∧
      (∀ acc, reM s n (.parts p0) acc 0 b = reM s n2 (.parts p2) (.cat acc (postT post (reT p))) 0 b2) ∧ b.pos < b2.pos := by
  simp only [fuelM] at hn
  obtain ⟨n, rfl⟩ : ∃ m, n = m + 1 := ⟨n - 1, by omega⟩
  have hpk := peekM_at he hd
  have hlt := (sub_of hd).2.2.2
  have hr : ∀ acc, reM s (n + 1) (.parts p0) acc 0 b = reM s n (.parts (p0.1, (timesM s (runM s n .atom 0 b).1 (runM s n .atom 0 b).2).2.2)) (.cat acc (timesR s (runM s n .atom 0 b).1 (reM s n .atom .no 0 b))) 0 (freeM (timesM s (runM s n .atom 0 b).1 (runM s n .atom 0 b).2).1 p0.2 (timesM s (runM s n .atom 0 b).1 (runM s n .atom 0 b).2).2.1) := fun acc => by
    rw [reM, hpk]
    dsimp only
    rw [if_neg (by decide)]
  have hr2 : runM s (n + 1) (.parts p0) 0 b = runM s n (.parts (p0.1, (timesM s (runM s n .atom 0 b).1 (runM s n .atom 0 b).2).2.2)) 0 (freeM (timesM s (runM s n .atom 0 b).1 (runM s n .atom 0 b).2).1 p0.2 (timesM s (runM s n .atom 0 b).1 (runM s n .atom 0 b).2).2.1) := by
    rw [runM, hpk]
    dsimp only
    rw [if_neg (by decide)]
  rcases atom_group hp he hd (n := n) (by simp only [fuelM]; omega) with ⟨h3, hdp⟩ | ⟨h1, h2, h3, hdp⟩
  · left
    have h4 : (freeM (timesM s (runM s n .atom 0 b).1 (runM s n .atom 0 b).2).1 p0.2 (timesM s (runM s n .atom 0 b).1 (runM s n .atom 0 b).2).2.1).err = 3 := by
      show (timesM s (runM s n .atom 0 b).1 (runM s n .atom 0 b).2).1.err = 3
      rw [timesM_keep]; exact h3
    rw [hr2, runM_keep _ _ _ _ _ (by rw [h4]; decide)]
    exact ⟨h4, hdp⟩
  · right
    obtain ⟨t1, t2, t3, t4⟩ := times_post (s := s) (l := post) h1 (by rw [h2]; exact (sub_of hd).2.1) (runM s n .atom 0 b).2 (reM s n .atom .no 0 b)
    refine ⟨n, (freeM (timesM s (runM s n .atom 0 b).1 (runM s n .atom 0 b).2).1 p0.2 (timesM s (runM s n .atom 0 b).1 (runM s n .atom 0 b).2).2.1), _, hdp, t1, t2, ?_, hr2, fun acc => ?_, ?_⟩
    · simp only [fuelM, freeM]; omega
    · rw [hr acc, t3, h3]
    · show b.pos < (timesM s (runM s n .atom 0 b).1 (runM s n .atom 0 b).2).1.pos
      omega
theorem parts_halt {s : ByteArray} {b : Bs} {n : Nat} {p0 : Nat × Nat} (he : b.err = 0) (hd : (bytesN s).drop b.pos = [] ∨ ∃ l, (bytesN s).drop b.pos = 124 :: l) (hn : fuelM s b (.parts p0) ≤ n) :
    runM s n (.parts p0) 0 b = (b, p0) ∧ ∀ acc, reM s n (.parts p0) acc 0 b = acc := by
  simp only [fuelM] at hn
  obtain ⟨n, rfl⟩ : ∃ m, n = m + 1 := ⟨n - 1, by omega⟩
  rcases hd with hd | ⟨l, hd⟩
  · have := peekM_end hd
    refine ⟨by rw [runM, this], fun acc => by rw [reM, this]⟩
  · have := peekM_at he hd
    refine ⟨?_, fun acc => ?_⟩
    · rw [runM, this]; dsimp only; rw [if_pos (.inl rfl)]
    · rw [reM, this]; dsimp only; rw [if_pos (.inl rfl)]
/-- a row, and what stands behind it -/
theorem alts_last {s : ByteArray} {b : Bs} {n : Nat} {p0 : Nat × Nat} {acc : Re} (he : (runM s n .row 0 b).1.err = 0) (hd : (bytesN s).drop (runM s n .row 0 b).1.pos = []) :
    (runM s (n + 1) (.alts p0) 0 b).1.err = 0 ∧ s.size ≤ (runM s (n + 1) (.alts p0) 0 b).1.pos ∧ reM s (n + 1) (.alts p0) acc 0 b = .alt acc (reM s n .row .no 0 b) := by
  have h := peekM_end (b := freeM (freeM (runM s n .row 0 b).1 p0.1 (runM s n .row 0 b).2.1) (runM s n .row 0 b).2.2 p0.2) hd
  have hq : s.size ≤ (runM s n .row 0 b).1.pos := by have := List.drop_eq_nil_iff.1 hd; rwa [bytesN_len] at this
  rw [runM, reM, h, if_neg (by simp), if_neg (by simp)]
  exact ⟨he, hq, rfl⟩
theorem alts_bad {s : ByteArray} {b : Bs} {n : Nat} {p0 : Nat × Nat} (he : (runM s n .row 0 b).1.err = 3) : (runM s (n + 1) (.alts p0) 0 b).1.err = 3 := by
  have h4 : (freeM (freeM (runM s n .row 0 b).1 p0.1 (runM s n .row 0 b).2.1) (runM s n .row 0 b).2.2 p0.2).err = 3 := he
  rw [runM, peek_err (by rw [h4]; decide), if_neg (by simp)]
  exact he
def Alts (s : ByteArray) (R : Bs × (Nat × Nat)) (r : Re) (D : Bool) (L : List Nat → Prop) : Prop := (R.1.err = 3 ∧ D = true) ∨ (D = false ∧ R.1.err = 0 ∧ s.size ≤ R.1.pos ∧ ∀ cs, Lr r cs ↔ L cs)
theorem run_alts {s : ByteArray} {D : Bool} {L : List Nat → Prop} (h : ∀ n, 8 * s.size + 4 ≤ n → Alts s (runM s n (.alts (0, 1)) 0 (nodeM (nodeM bs0))) (reM s n (.alts (0, 1)) .no 0 (nodeM (nodeM bs0))) D L) (hs : s.size ≤ 100) :
    (errM s = 3 ∧ D = true) ∨ (D = false ∧ errM s = 0 ∧ ∀ cs, Lr (reT s) cs ↔ L cs) := by
  have h1 := h (8 * s.size + 4) (Nat.le_refl _)
  have e1 : runR s = runM s (8 * s.size + 4) (.alts (0, 1)) 0 (nodeM (nodeM bs0)) := by
    unfold runR
    rw [runM]; rfl
  have e2 : reT s = reM s (8 * s.size + 4) (.alts (0, 1)) .no 0 (nodeM (nodeM bs0)) := by
    unfold reT
    rw [reM]; rfl
  unfold Alts at h1
  rw [← e1, ← e2] at h1
  unfold errM endR
  rw [if_neg (by omega)]
  rcases h1 with ⟨h1, hD⟩ | ⟨hD, h1, h2, h3⟩
  · left
    split
    · rw [failM_keep (by rw [h1]; decide)]; exact ⟨h1, hD⟩
    · exact ⟨h1, hD⟩
  · right
    rw [if_neg (by omega)]
    exact ⟨hD, h1, h3⟩
theorem row_parts (s : ByteArray) (n : Nat) (b : Bs) : runM s (n + 1) .row 0 b = runM s n (.parts (b.sts.length, b.sts.length)) 0 (nodeM b) ∧ reM s (n + 1) .row .no 0 b = reM s n (.parts (b.sts.length, b.sts.length)) .eps 0 (nodeM b) := ⟨by rw [runM], by rw [reM]⟩
/-- p in brackets, a postfix or none behind it -/
theorem one_join {s p : ByteArray} (hp : errM p = 0) (post : List Nat) (hd : bytesN s = 40 :: (bytesN p ++ 41 :: post)) (hpo : postD post = []) (hs : s.size ≤ 100) :
    (errM s = 3 ∧ deepT p = true) ∨ (deepT p = false ∧ errM s = 0 ∧ ∀ cs, Lr (reT s) cs ↔ Lr (postT post (reT p)) cs) := by
  refine run_alts (fun n hn => ?_) hs
  obtain ⟨n, rfl⟩ : ∃ m, n = m + 2 := ⟨n - 2, by omega⟩
  obtain ⟨q1, q2⟩ := row_parts s n (nodeM (nodeM bs0))
  have g := parts_group (s := s) hp (b := nodeM (nodeM (nodeM bs0))) (n := n) (p0 := ((nodeM (nodeM bs0)).sts.length, (nodeM (nodeM bs0)).sts.length)) rfl (show (bytesN s).drop 0 = _ by rw [List.drop_zero]; exact hd) (by simp only [fuelM]; show 8 * (s.size - 0) + 2 ≤ n; omega)
  rcases g with ⟨g, hdp⟩ | ⟨n2, b2, p2, hdp, g1, g2, g3, g4, g5, _⟩
  · exact .inl ⟨alts_bad (by rw [q1]; exact g), hdp⟩
  · rw [hpo] at g2
    obtain ⟨k1, k2⟩ := parts_halt g1 (.inl g2) g3
    have e1 : runM s (n + 1) .row 0 (nodeM (nodeM bs0)) = (b2, p2) := by rw [q1, g4, k1]
    obtain ⟨a1, a2, a3⟩ := alts_last (s := s) (b := nodeM (nodeM bs0)) (n := n + 1) (p0 := (0, 1)) (acc := .no) (by rw [e1]; exact g1) (by rw [e1]; exact g2)
    refine .inr ⟨hdp, a1, a2, fun cs => ?_⟩
    rw [a3, q2, g5, k2]
    constructor
    · intro h
      cases h with
      | altl h => cases h
      | altr h =>
        cases h with
        | cat h1 h2 => cases h1; exact h2
    · intro h
      exact .altr (.cat .eps h)
/-- one behind the other -/
theorem two_join {s p q : ByteArray} (hp : errM p = 0) (hq : errM q = 0) (hd : bytesN s = 40 :: (bytesN p ++ 41 :: 40 :: (bytesN q ++ [41]))) (hs : s.size ≤ 100) :
    (errM s = 3 ∧ (deepT p || deepT q) = true) ∨ ((deepT p || deepT q) = false ∧ errM s = 0 ∧ ∀ cs, Lr (reT s) cs ↔ ∃ x y, cs = x ++ y ∧ Lr (reT p) x ∧ Lr (reT q) y) := by
  refine run_alts (fun n hn => ?_) hs
  obtain ⟨n, rfl⟩ : ∃ m, n = m + 2 := ⟨n - 2, by omega⟩
  obtain ⟨q1, q2⟩ := row_parts s n (nodeM (nodeM bs0))
  have g := parts_group (s := s) hp (b := nodeM (nodeM (nodeM bs0))) (n := n) (p0 := ((nodeM (nodeM bs0)).sts.length, (nodeM (nodeM bs0)).sts.length)) rfl (show (bytesN s).drop 0 = _ by rw [List.drop_zero]; exact hd) (by simp only [fuelM]; show 8 * (s.size - 0) + 2 ≤ n; omega)
  rcases g with ⟨g, hdp⟩ | ⟨n2, b2, p2, hdp, g1, g2, g3, g4, g5, _⟩
  · exact .inl ⟨alts_bad (by rw [q1]; exact g), by rw [hdp]; rfl⟩
  · have g' := parts_group (s := s) (post := []) hq g1 (g2.trans rfl) g3
    rcases g' with ⟨g', hdq⟩ | ⟨n3, b3, p3, hdq, k1, k2, k3, k4, k5, _⟩
    · exact .inl ⟨alts_bad (by rw [q1, g4]; exact g'), by rw [hdq, Bool.or_true]⟩
    · obtain ⟨l1, l2⟩ := parts_halt k1 (.inl k2) k3
      have e1 : runM s (n + 1) .row 0 (nodeM (nodeM bs0)) = (b3, p3) := by rw [q1, g4, k4, l1]
      obtain ⟨a1, a2, a3⟩ := alts_last (s := s) (b := nodeM (nodeM bs0)) (n := n + 1) (p0 := (0, 1)) (acc := .no) (by rw [e1]; exact k1) (by rw [e1]; exact k2)
      refine .inr ⟨by rw [hdp, hdq]; rfl, a1, a2, fun cs => ?_⟩
      rw [a3, q2, g5, k5, l2]
      constructor
      · intro h
        cases h with
        | altl h => cases h
        | altr h =>
          cases h with
          | cat h1 h2 =>
            cases h1 with
            | cat h1 h3 =>
              cases h1
              exact ⟨_, _, rfl, h3, h2⟩
      · rintro ⟨x, y, rfl, h1, h2⟩
        have := Lr.cat (Lr.cat .eps h1) h2
        exact .altr this
/-- either -/
theorem alt_join {s p q : ByteArray} (hp : errM p = 0) (hq : errM q = 0) (hd : bytesN s = 40 :: (bytesN p ++ 41 :: 124 :: 40 :: (bytesN q ++ [41]))) (hs : s.size ≤ 100) :
    (errM s = 3 ∧ (deepT p || deepT q) = true) ∨ ((deepT p || deepT q) = false ∧ errM s = 0 ∧ ∀ cs, Lr (reT s) cs ↔ Lr (reT p) cs ∨ Lr (reT q) cs) := by
  refine run_alts (fun n hn => ?_) hs
  obtain ⟨n, rfl⟩ : ∃ m, n = m + 2 := ⟨n - 2, by omega⟩
  obtain ⟨q1, q2⟩ := row_parts s n (nodeM (nodeM bs0))
  have g := parts_group (s := s) hp (b := nodeM (nodeM (nodeM bs0))) (n := n) (p0 := ((nodeM (nodeM bs0)).sts.length, (nodeM (nodeM bs0)).sts.length)) rfl (show (bytesN s).drop 0 = _ by rw [List.drop_zero]; exact hd) (by simp only [fuelM]; show 8 * (s.size - 0) + 2 ≤ n; omega)
  rcases g with ⟨g, hdp⟩ | ⟨n2, b2, p2, hdp, g1, g2, g3, g4, g5, g6⟩
  · exact .inl ⟨alts_bad (by rw [q1]; exact g), by rw [hdp]; rfl⟩
  · change (bytesN s).drop b2.pos = 124 :: 40 :: (bytesN q ++ [41]) at g2
    obtain ⟨k1, k2⟩ := parts_halt g1 (.inr ⟨_, g2⟩) g3
    have e1 : runM s (n + 1) .row 0 (nodeM (nodeM bs0)) = (b2, p2) := by rw [q1, g4, k1]
    have e2 : ∃ B, B.err = 0 ∧ B.pos = b2.pos + 1 ∧ runM s (n + 2) (.alts (0, 1)) 0 (nodeM (nodeM bs0)) = runM s (n + 1) (.alts (0, 1)) 0 B ∧ reM s (n + 2) (.alts (0, 1)) .no 0 (nodeM (nodeM bs0)) = reM s (n + 1) (.alts (0, 1)) (.alt .no (.cat .eps (reT p))) 0 B := by
      have hpk := peekM_at (b := freeM (freeM b2 0 p2.1) p2.2 1) g1 g2
      refine ⟨stepM (freeM (freeM b2 0 p2.1) p2.2 1), g1, rfl, ?_, ?_⟩
      · rw [runM, e1]
        dsimp only
        rw [hpk, if_pos rfl]
      · rw [reM, e1, q2, g5, k2]
        dsimp only
        rw [hpk, if_pos rfl]
        rfl
    obtain ⟨B, B1, B2, B3, B4⟩ := e2
    obtain ⟨_, _, hB⟩ := byteM_bytesN g2
    rw [← B2] at hB
    have g3' := g3
    simp only [fuelM] at g3'
    have hB0 : 0 < b2.pos := by have : (nodeM (nodeM (nodeM bs0))).pos = 0 := rfl; omega
    obtain ⟨n, rfl⟩ : ∃ m, n = m + 1 := ⟨n - 1, by omega⟩
    obtain ⟨q3, q4⟩ := row_parts s n B
    have hsz : 0 < s.size := by have := List.drop_eq_nil_iff (l := bytesN s) (i := b2.pos); rw [g2, bytesN_len] at this; omega
    have g' := parts_group (s := s) (post := []) hq (b := nodeM B) (n := n) (p0 := (B.sts.length, B.sts.length)) B1 hB (by simp only [fuelM]; show 8 * (s.size - B.pos) + 2 ≤ n; omega)
    unfold Alts
    rw [B3, B4]
    rcases g' with ⟨g', hdq⟩ | ⟨n3, b3, p3, hdq, k1', k2', k3', k4', k5', _⟩
    · exact .inl ⟨alts_bad (by rw [q3]; exact g'), by rw [hdq, Bool.or_true]⟩
    · obtain ⟨l1, l2⟩ := parts_halt k1' (.inl k2') k3'
      have e1' : runM s (n + 1) .row 0 B = (b3, p3) := by rw [q3, k4', l1]
      obtain ⟨a1, a2, a3⟩ := alts_last (s := s) (b := B) (n := n + 1) (p0 := (0, 1)) (acc := .alt .no (.cat .eps (reT p))) (by rw [e1']; exact k1') (by rw [e1']; exact k2')
      refine .inr ⟨by rw [hdp, hdq]; rfl, a1, a2, fun cs => ?_⟩
      rw [a3, q4, k5', l2]
      constructor
      · intro h
        cases h with
        | altl h =>
          cases h with
          | altl h => cases h
          | altr h =>
            cases h with
            | cat h1 h2 => cases h1; exact .inl h2
        | altr h =>
          cases h with
          | cat h1 h2 => cases h1; exact .inr h2
      · rintro (h | h)
        · exact .altl (.altr (.cat .eps h))
        · exact .altr (.cat .eps h)
end Go.Proofs.Ytlepnnbgecneeaa
