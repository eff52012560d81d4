/- Words that are split and joined, plainly: no program in sight. -/
import Derived.Test.YtpoaoicehoihdaaDoorSplitLaw
import Derived.Lib.Join
namespace Go.Proofs.YtpoaoicehoihdaaDoor
open Go.RowKit

/-- skipping is within quotes -/
theorem stepE_inv {i s : Bool} (h : s = true → i = true) (c : UInt8) : (stepE i s c).2 = true → (stepE i s c).1 = true := by
  unfold stepE
  split
  · intro h'; cases h'
  split
  · rename_i h2; intro _; simp only [Bool.and_eq_true] at h2; exact h2.1
  split
  · rename_i h1 _ _; intro h'; exact absurd h' h1
  · exact h
theorem stop_out {i s : Bool} (h : s = true → i = true) {c : UInt8} (hs : stopE i s c = true) : i = false ∧ s = false ∧ blankB c = true := by
  cases s with
  | true => rw [h rfl] at hs; simp [stopE, stepE] at hs
  | false =>
    simp only [stopE, Bool.and_eq_true, Bool.not_eq_true'] at hs
    obtain ⟨⟨h1, h2⟩, h3⟩ := hs
    have hb : (c.toNat : Int) = 32 ∨ (c.toNat : Int) = 9 := by simpa [blankB, isB] using h3
    have e1 : isB c 92 = false := by simp [isB]; omega
    have e2 : isB c 34 = false := by simp [isB]; omega
    simp [stepE, e1, e2] at h1
    exact ⟨h1, rfl, h3⟩
/-- the state behind some bytes -/
def stateE (i s : Bool) : List UInt8 → Bool × Bool
  | [] => (i, s)
  | c :: l => stateE (stepE i s c).1 (stepE i s c).2 l
theorem stateE_inv : ∀ (l : List UInt8) (i s : Bool), (s = true → i = true) → (stateE i s l).2 = true → (stateE i s l).1 = true
  | [], _, _, h => h
  | c :: l, _, _, h => stateE_inv l _ _ (stepE_inv h c)
/-- a text that ends no word inside, and ends outside quotes -/
theorem endF_whole : ∀ (l : List UInt8) (i s : Bool), endF i s l = (l.length, false) → (stateE i s l).1 = false ∧ ∀ r, endF i s (l ++ r) = (l.length + (endF (stateE i s l).1 (stateE i s l).2 r).1, (endF (stateE i s l).1 (stateE i s l).2 r).2)
  | [], i, _, h => by
    have : i = false := by simpa [endF] using h
    exact ⟨this, fun r => by simp [stateE]⟩
  | c :: l, i, s, h => by
    have hn : stopE i s c = false := by
      cases hs : stopE i s c
      · rfl
      · rw [endF, if_pos hs] at h; simp at h
    rw [endF, if_neg (by simp [hn])] at h
    have h' : endF (stepE i s c).1 (stepE i s c).2 l = (l.length, false) := by
      simp only [List.length_cons, Prod.mk.injEq, Nat.add_right_cancel_iff] at h
      exact Prod.ext h.1 h.2
    obtain ⟨e1, e2⟩ := endF_whole l _ _ h'
    refine ⟨e1, fun r => ?_⟩
    rw [List.cons_append, endF, if_neg (by simp [hn]), e2 r]
    simp only [stateE, List.length_cons, Prod.mk.injEq, and_true]
    omega
/-- what stands ahead of a word's end is a whole word -/
theorem endF_take : ∀ (l : List UInt8) (i s : Bool), (s = true → i = true) → (endF i s l).2 = false → endF i s (l.take (endF i s l).1) = ((l.take (endF i s l).1).length, false)
  | [], i, s, _, h => by
    have : i = false := by simpa [endF] using h
    simp [endF, this]
  | c :: l, i, s, hi, h => by
    cases hs : stopE i s c
    · rw [endF, if_neg (by simp [hs])] at h ⊢
      have := endF_take l _ _ (stepE_inv hi c) h
      rw [List.take_succ_cons, endF, if_neg (by simp [hs]), this]
      simp
    · rw [endF, if_pos hs]
      simp [endF, (stop_out hi hs).1]

/-- a word -/
structure WordOk (w : List UInt8) : Prop where
  ne : w ≠ []
  clean : w.any ctlB = false
  head : ∀ c r, w = c :: r → blankB c = false ∧ isB c 35 = false
  whole : endF false false w = (w.length, false)
theorem any_sub {p : UInt8 → Bool} {l m : List UInt8} (h : ∀ x ∈ l, x ∈ m) (hm : m.any p = false) : l.any p = false := by
  rw [List.any_eq_false] at *
  exact fun x hx => hm x (h x hx)
theorem splitF_ok : ∀ (f : Nat) (l : List UInt8) (ws : List (List UInt8)), l.any ctlB = false → splitF f l = some ws → ∀ w ∈ ws, WordOk w
  | 0, _, ws, _, h => by cases h; intro w hw; cases hw
  | f + 1, l, ws, hc, h => by
    unfold splitF at h
    split at h
    · cases h; intro w hw; cases hw
    · rename_i c r he
      have hcr : (c :: r).any ctlB = false := any_sub (fun x hx => (List.dropWhile_suffix (p := blankB)).subset (by rw [he]; exact hx)) hc
      have hb := dropWhile_head he
      split at h
      · cases h; intro w hw; cases hw
      rename_i h35
      split at h
      · cases h
      rename_i hq
      obtain ⟨us, hu, rfl⟩ := Option.map_eq_some_iff.1 h
      intro w hw
      rcases List.mem_cons.1 hw with rfl | hw
      · have hp := endF_pos hb r
        refine ⟨?_, any_sub (fun x hx => List.mem_of_mem_take hx) hcr, ?_, endF_take _ _ _ (by simp) (by simpa using hq)⟩
        · obtain ⟨k, hk⟩ : ∃ k, (endF false false (c :: r)).1 = k + 1 := ⟨(endF false false (c :: r)).1 - 1, by omega⟩
          rw [hk]; simp
        · intro c' r' e
          obtain ⟨k, hk⟩ : ∃ k, (endF false false (c :: r)).1 = k + 1 := ⟨(endF false false (c :: r)).1 - 1, by omega⟩
          rw [hk, List.take_succ_cons] at e
          cases e
          exact ⟨hb, by simpa using h35⟩
      · exact splitF_ok f _ us (any_sub (fun x hx => List.mem_of_mem_drop hx) hcr) hu w hw
theorem splitL_ok {l : List UInt8} {ws : List (List UInt8)} (h : splitL l = some ws) : ∀ w ∈ ws, WordOk w := by
  unfold splitL at h
  split at h
  · cases h
  · rename_i hc
    exact splitF_ok _ _ _ (by simpa using hc) h

/-- what may stand behind the last word: nothing, or a blank and no word more -/
structure PostOk (p : List UInt8) : Prop where
  blank : ∀ c r, p = c :: r → blankB c = true
  none : ∀ c r, p.dropWhile blankB = c :: r → isB c 35 = true
theorem PostOk.nil : PostOk [] := ⟨(fun _ _ h => by cases h), (fun _ _ h => by cases h)⟩
/-- a tail of words: a blank ahead of each -/
def tailW (ws : List (List UInt8)) (post : List UInt8) : List UInt8 := (ws.map (32 :: ·)).flatten ++ post
theorem tailW_cons (x : List UInt8) (r : List (List UInt8)) (post : List UInt8) : tailW (x :: r) post = 32 :: (x ++ tailW r post) := by simp [tailW]
theorem tailW_blank {ws : List (List UInt8)} {post : List UInt8} (hp : PostOk post) : ∀ c r, tailW ws post = c :: r → blankB c = true := by
  intro c r h
  cases ws with
  | nil => exact hp.blank c r (by simpa [tailW] using h)
  | cons x ws =>
    rw [tailW_cons] at h
    cases h
    decide
theorem endF_word {x : List UInt8} (hx : WordOk x) {r : List UInt8} (hr : ∀ c r', r = c :: r' → blankB c = true) : endF false false (x ++ r) = (x.length, false) := by
  obtain ⟨h1, h2⟩ := endF_whole x false false hx.whole
  have h3 := stateE_inv x false false (by simp)
  rw [h2 r]
  rw [h1] at h3 ⊢
  have h4 : (stateE false false x).2 = false := by
    cases h : (stateE false false x).2
    · rfl
    · exact absurd (h3 h) (by simp)
  rw [h4]
  cases r with
  | nil => simp [endF]
  | cons c r' =>
    have hb := hr c r' rfl
    have hb' : (c.toNat : Int) = 32 ∨ (c.toNat : Int) = 9 := by simpa [blankB, isB] using hb
    have e1 : isB c 34 = false := by simp [isB]; omega
    have : stopE false false c = true := by simp [stopE, stepE, e1, hb]
    rw [endF, if_pos this]
    simp
theorem splitF_tail {post : List UInt8} (hp : PostOk post) : ∀ (ws : List (List UInt8)) (f : Nat) (l : List UInt8), (∀ w ∈ ws, WordOk w) → l.dropWhile blankB = (tailW ws post).dropWhile blankB → l.length < f →
    (tailW ws post).length ≤ l.length → splitF f l = some ws
  | [], 0, _, _, _, h, _ => absurd h (Nat.not_lt_zero _)
  | [], f + 1, l, _, hl, _, _ => by
    have e : tailW [] post = post := by simp [tailW]
    rw [e] at hl
    cases h : l.dropWhile blankB with
    | nil => exact splitF_nil h
    | cons c r => exact splitF_hash h (hp.none c r (by rw [← hl, h]))
  | _ :: _, 0, _, _, _, h, _ => absurd h (Nat.not_lt_zero _)
  | x :: ws, f + 1, l, hw, hl, hf, hle => by
    have hx := hw x (List.mem_cons_self ..)
    obtain ⟨c, r, rfl⟩ : ∃ c r, x = c :: r := List.exists_cons_of_ne_nil hx.ne
    obtain ⟨hb, h35⟩ := hx.head c r rfl
    have e : (tailW ((c :: r) :: ws) post).dropWhile blankB = c :: (r ++ tailW ws post) := by
      rw [tailW_cons, List.dropWhile_cons_of_pos (by decide), List.cons_append, List.dropWhile_cons_of_neg (by simp [hb])]
    rw [e] at hl
    have he := endF_word hx (tailW_blank (ws := ws) hp)
    rw [List.cons_append] at he
    rw [splitF, hl]
    simp only [h35, he]
    have hlen := hle
    rw [tailW_cons] at hlen
    simp only [List.length_cons, List.length_append] at hlen
    have ed : (c :: (r ++ tailW ws post)).drop (c :: r).length = tailW ws post := by rw [← List.cons_append]; exact List.drop_left
    have et : (c :: (r ++ tailW ws post)).take (c :: r).length = c :: r := by rw [← List.cons_append]; exact List.take_left
    rw [ed, et, splitF_tail hp ws f _ (fun w h => hw w (List.mem_cons_of_mem _ h)) rfl (by omega) (Nat.le_refl _)]
    rfl
theorem join_tail (ws : List (List UInt8)) : (ws = [] ∧ Lib.join ws [32] = []) ∨ 32 :: Lib.join ws [32] = tailW ws [] := by
  cases ws with
  | nil => exact .inl ⟨rfl, rfl⟩
  | cons x r =>
    right
    rw [Lib.join_cons, tailW_cons]
    simp [tailW, Lib.joinTail]
/-- words that may be, with blanks ahead, and no word behind -/
theorem splitL_around {ws : List (List UInt8)} (hw : ∀ w ∈ ws, WordOk w) (pre post : List UInt8) (hpre : ∀ c ∈ pre, blankB c = true) (hp : PostOk post) (hc : post.any ctlB = false) :
    splitL (pre ++ (Lib.join ws [32] ++ post)) = some ws := by
  have hj : (Lib.join ws [32] ++ post).dropWhile blankB = (tailW ws post).dropWhile blankB ∧ (tailW ws post).length ≤ (Lib.join ws [32] ++ post).length + 1 ∧ (Lib.join ws [32]).any ctlB = false := by
    rcases join_tail ws with ⟨rfl, h⟩ | h
    · rw [h]; refine ⟨rfl, ?_, rfl⟩
      simp [tailW]
    · have e : tailW ws post = 32 :: (Lib.join ws [32] ++ post) := by
        have : tailW ws post = tailW ws [] ++ post := by simp [tailW]
        rw [this, ← h]; rfl
      refine ⟨?_, by rw [e]; simp, ?_⟩
      · rw [e, List.dropWhile_cons_of_pos (by decide)]
      · have h2 : (tailW ws []).any ctlB = false := by
          simp only [tailW, List.append_nil]
          rw [List.any_eq_false]
          intro x hx
          obtain ⟨l, hl, hxl⟩ := List.mem_flatten.1 hx
          obtain ⟨w, hww, rfl⟩ := List.mem_map.1 hl
          rcases List.mem_cons.1 hxl with rfl | hxw
          · decide
          · exact List.any_eq_false.1 (hw w hww).clean x hxw
        rw [← h, List.any_cons] at h2
        simp only [Bool.or_eq_false_iff] at h2
        exact h2.2
  have hd : (pre ++ (Lib.join ws [32] ++ post)).dropWhile blankB = (tailW ws post).dropWhile blankB := by
    rw [← hj.1]
    clear hj
    induction pre with
    | nil => rfl
    | cons c pre ih =>
      rw [List.cons_append, List.dropWhile_cons_of_pos (hpre c (List.mem_cons_self ..))]
      exact ih (fun x hx => hpre x (List.mem_cons_of_mem _ hx))
  have hpc : pre.any ctlB = false := by
    rw [List.any_eq_false]
    intro x hx
    have : (x.toNat : Int) = 32 ∨ (x.toNat : Int) = 9 := by simpa [blankB, isB] using hpre x hx
    simp [ctlB, isB]; omega
  unfold splitL
  rw [if_neg (by rw [List.any_append, List.any_append, hpc, hj.2.2, hc]; decide)]
  have hmore : splitF ((pre ++ (Lib.join ws [32] ++ post)).length + 1) (pre ++ (Lib.join ws [32] ++ post)) = splitF ((pre ++ (Lib.join ws [32] ++ post)).length + 2) (32 :: (pre ++ (Lib.join ws [32] ++ post))) := by
    rw [splitF_more _ ((pre ++ (Lib.join ws [32] ++ post)).length + 2) _ (by omega) (by omega)]
    rw [splitF, splitF, List.dropWhile_cons_of_pos (by decide)]
  rw [hmore]
  refine splitF_tail hp ws _ _ hw ?_ (by simp) ?_
  · rw [List.dropWhile_cons_of_pos (by decide)]; exact hd
  · have := hj.2.1; simp only [List.length_cons, List.length_append] at *; omega
theorem splitL_join {ws : List (List UInt8)} (hw : ∀ w ∈ ws, WordOk w) : splitL (Lib.join ws [32]) = some ws := by
  have := splitL_around hw [] [] (by simp) PostOk.nil rfl
  simpa using this
theorem splitF_sum : ∀ (f : Nat) (l : List UInt8) (ws : List (List UInt8)), splitF f l = some ws → (ws.map List.length).sum ≤ l.length
  | 0, _, ws, h => by cases h; exact Nat.zero_le _
  | f + 1, l, ws, h => by
    unfold splitF at h
    have h2 := dropWhile_len l
    split at h
    · cases h; exact Nat.zero_le _
    · rename_i c r he
      rw [he] at h2
      split at h
      · cases h; exact Nat.zero_le _
      split at h
      · cases h
      obtain ⟨us, hu, rfl⟩ := Option.map_eq_some_iff.1 h
      have h3 := splitF_sum f _ us hu
      have h4 := endF_le (c :: r) false false
      rw [List.length_drop] at h3
      rw [List.map_cons, List.sum_cons, List.length_take]
      omega
theorem splitL_sum {l : List UInt8} {ws : List (List UInt8)} (h : splitL l = some ws) : (ws.map List.length).sum ≤ l.length := by
  unfold splitL at h
  split at h
  · cases h
  · exact splitF_sum _ _ _ h
theorem join_len (ws : List (List UInt8)) : (Lib.join ws [32]).length ≤ (ws.map List.length).sum + ws.length := by
  have ht : (tailW ws []).length = (ws.map List.length).sum + ws.length := by
    simp only [tailW, List.append_nil]
    induction ws with
    | nil => rfl
    | cons x r ih => simp only [List.map_cons, List.flatten_cons, List.length_append, List.length_cons, List.sum_cons] at *; omega
  rcases join_tail ws with ⟨rfl, h⟩ | h
  · rw [h]; exact Nat.zero_le _
  · rw [← ht, ← h]; simp
theorem PostOk.hash (p q : List UInt8) (hb : ∀ c ∈ p, blankB c = true) (hp : p ≠ []) : PostOk (p ++ 35 :: q) := by
  refine ⟨fun c r h => ?_, fun c r h => ?_⟩
  · cases p with
    | nil => exact absurd rfl hp
    | cons x p => rw [List.cons_append] at h; cases h; exact hb _ (List.mem_cons_self ..)
  · have : (p ++ 35 :: q).dropWhile blankB = 35 :: q := by
      clear hp h
      induction p with
      | nil => rw [List.nil_append, List.dropWhile_cons_of_neg (by decide)]
      | cons x p ih => rw [List.cons_append, List.dropWhile_cons_of_pos (hb x (List.mem_cons_self ..))]; exact ih (fun c hc => hb c (List.mem_cons_of_mem _ hc))
    rw [this] at h
    cases h
    decide
end Go.Proofs.YtpoaoicehoihdaaDoor
