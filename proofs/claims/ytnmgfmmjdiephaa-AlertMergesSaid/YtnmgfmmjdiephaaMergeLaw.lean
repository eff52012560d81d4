/- Two as one: the plain law. No walk. -/
import Derived.Test.YtnmgfmmjdiephaaRefD
import Derived.Test.YtnmgfmmjdiephaaApPlain
namespace Go.Proofs.Ytnmgfmmjdiephaa
open Go.RowKit

/-! ### texts in their order -/
theorem less_irrefl : ∀ (a : List UInt8), Op.bytesLess a a = false
  | [] => rfl
  | x :: a => by simp [Op.bytesLess, less_irrefl a]
theorem less_trans : ∀ (a b c : List UInt8), Op.bytesLess a b = true → Op.bytesLess b c = true → Op.bytesLess a c = true
  | _, b, [], _, h => by cases b <;> simp [Op.bytesLess] at h
  | a, [], _ :: _, h, _ => by cases a <;> simp [Op.bytesLess] at h
  | [], _ :: _, _ :: _, _, _ => rfl
  | x :: a, y :: b, z :: c, h1, h2 => by
    simp only [Op.bytesLess, Bool.or_eq_true, Bool.and_eq_true, beq_iff_eq, decide_eq_true_eq] at h1 h2 ⊢
    rcases h1 with h1 | ⟨rfl, h1⟩
    · rcases h2 with h2 | ⟨rfl, h2⟩
      · exact .inl (UInt8.lt_trans h1 h2)
      · exact .inl h1
    · rcases h2 with h2 | ⟨rfl, h2⟩
      · exact .inl h2
      · exact .inr ⟨rfl, less_trans a b c h1 h2⟩
theorem ltS_trans {a b c : ByteArray} (h1 : ltS a b = true) (h2 : ltS b c = true) : ltS a c = true := less_trans _ _ _ h1 h2
theorem ltS_ne {a b : ByteArray} (h : ltS a b = true) : a ≠ b := by
  rintro rfl
  unfold ltS at h
  rw [less_irrefl] at h
  cases h
theorem ltS_asym {a b : ByteArray} (h : ltS a b = true) : ltS b a = false := by
  cases hb : ltS b a with
  | false => rfl
  | true => exact absurd rfl (ltS_ne (ltS_trans h hb))
/-! ### With at the end, Good twice -/
theorem withK_end {l : List Fld} {nm val : ByteArray} (h : ∀ f ∈ l, ltS f.1 nm = true) : ∀ k, k ≤ l.length → withK l nm val k = (l.take k, false) := by
  intro k
  induction k with
  | zero => intro _; rfl
  | succ k ih =>
    intro hk
    rw [withK_step (by omega), ih (by omega)]
    have hf := h l[k] (List.getElem_mem (by omega))
    unfold withS
    simp only [hf, Bool.not_true, Bool.and_false, Bool.false_eq_true, if_false, if_neg (ltS_ne hf)]
    rw [List.take_succ_eq_append_getElem (by omega)]
theorem withL_end {l : List Fld} {nm val : ByteArray} (h : ∀ f ∈ l, ltS f.1 nm = true) : withL l nm val = l ++ [(nm, val)] := by
  unfold withL
  rw [withK_end h _ (Nat.le_refl _), List.take_length]
  simp
theorem rightF_ok {l : List Fld} (h : rightF l = true) {j : Nat} (hj : j < l.length) : fldOk l j = true := by
  unfold rightF at h
  simp only [Bool.and_eq_true, List.all_eq_true, List.mem_range] at h
  exact h.2 j hj
theorem rightF_step {l : List Fld} (h : rightF l = true) {j : Nat} (hj : j + 1 < l.length) : ltS l[j].1 l[j + 1].1 = true := by
  have := rightF_ok h hj
  unfold fldOk at this
  simp only [Bool.and_eq_true, Bool.or_eq_true, decide_eq_true_eq] at this
  rcases this.2 with h0 | h1
  · omega
  · rw [Nat.add_sub_cancel, List.getD_eq_getElem?_getD, List.getD_eq_getElem?_getD, List.getElem?_eq_getElem (show j < l.length by omega), List.getElem?_eq_getElem hj] at h1
    exact h1
theorem rightF_lt {l : List Fld} (h : rightF l = true) {k : Nat} : ∀ {j : Nat} (hj : j < k) (hk : k < l.length), ltS l[j].1 l[k].1 = true := by
  induction k with
  | zero => intro j hj; omega
  | succ k ih =>
    intro j hj hk
    rcases Nat.lt_or_ge j k with h' | h'
    · exact ltS_trans (ih h' (by omega)) (rightF_step h hk)
    · obtain rfl : j = k := by omega
      exact rightF_step h hk
theorem rightF_take {l : List Fld} (h : rightF l = true) (k : Nat) : rightF (l.take k) = true := by
  have h8 := rightF_len h
  rw [rightF_good (fun j hj => ?_), decide_eq_true (by rw [List.length_take]; omega)]
  rw [List.length_take] at hj
  have := rightF_ok h (show j < l.length by omega)
  have e : ∀ i, i ≤ j → (l.take k).getD i default = l.getD i default := fun i hi => by
    rw [List.getD_eq_getElem?_getD, List.getD_eq_getElem?_getD, List.getElem?_take_of_lt (by omega)]
  unfold fldOk at this ⊢
  rw [e j (Nat.le_refl _), e (j - 1) (by omega)]
  exact this
def ShortF (l : List Fld) : Prop := ∀ f ∈ l, f.2.size ≤ 30
theorem extract_all {y : ByteArray} (h : y.size ≤ 30) : y.extract 0 (min y.size 30) = y := by
  rw [show min y.size 30 = y.size by omega]
  exact ByteArray.extract_zero_size
theorem goodK_same {l : List Fld} (h : rightF l = true) (hs : ShortF l) : ∀ k, k ≤ l.length → goodK l k = l.take k := by
  intro k
  induction k with
  | zero => intro _; rfl
  | succ k ih =>
    intro hk
    rw [goodK_step (by omega), ih (by omega)]
    have hf := hs l[k] (List.getElem_mem (by omega))
    have hw : withL (l.take k) l[k].1 l[k].2 = l.take (k + 1) := by
      rw [withL_end (fun f hf => ?_), List.take_succ_eq_append_getElem (by omega)]
      obtain ⟨j, hj, rfl⟩ := List.getElem_of_mem hf
      rw [List.length_take] at hj
      rw [List.getElem_take]
      exact rightF_lt h (by omega) (by omega)
    unfold goodS
    rw [extract_all hf, hw, if_pos (rightF_take h _)]
theorem goodF_same {l : List Fld} (h : rightF l = true) (hs : ShortF l) : goodF l = l := by
  have h8 := rightF_len h
  rw [goodK_end (k := l.length) (by omega) (.inr (Nat.le_refl _)), goodK_same h hs _ (Nat.le_refl _), List.take_length]
theorem withS_short {nm val : ByteArray} (hv : val.size ≤ 30) {s : List Fld × Bool} {f : Fld} (hs : ShortF s.1) (hf : f.2.size ≤ 30) : ShortF (withS nm val s f).1 := by
  have h1 : ShortF (if !s.2 && !ltS f.1 nm then (s.1 ++ [(nm, val)], true) else s).1 := by
    split
    · intro g hg
      rcases List.mem_append.1 hg with h | h
      · exact hs g h
      · rw [List.mem_singleton] at h; subst h; exact hv
    · exact hs
  unfold withS
  dsimp only
  split
  · exact h1
  · intro g hg
    rcases List.mem_append.1 hg with h | h
    · exact h1 g h
    · rw [List.mem_singleton] at h; subst h; exact hf
theorem withK_short {l : List Fld} {nm val : ByteArray} (hv : val.size ≤ 30) (hl : ShortF l) : ∀ k, k ≤ l.length → ShortF (withK l nm val k).1 := by
  intro k
  induction k with
  | zero => intro _ f hf; cases hf
  | succ k ih =>
    intro hk
    rw [withK_step (by omega)]
    exact withS_short hv (ih (by omega)) (hl _ (List.getElem_mem (by omega)))
theorem withL_short {l : List Fld} {nm val : ByteArray} (hv : val.size ≤ 30) (hl : ShortF l) : ShortF (withL l nm val) := by
  have h := withK_short (nm := nm) hv hl _ (Nat.le_refl _)
  unfold withL
  split
  · exact h
  · intro g hg
    rcases List.mem_append.1 hg with h' | h'
    · exact h g h'
    · rw [List.mem_singleton] at h'; subst h'; exact hv
theorem goodK_short (l : List Fld) : ∀ k, k ≤ l.length → ShortF (goodK l k) := by
  intro k
  induction k with
  | zero => intro _ f hf; cases hf
  | succ k ih =>
    intro hk
    rw [goodK_step (by omega)]
    unfold goodS
    split
    · exact withL_short (by rw [ByteArray.size_extract]; omega) (ih (by omega))
    · exact ih (by omega)
theorem goodF_short (l : List Fld) : ShortF (goodF l) := by
  rcases Nat.le_total 12 l.length with h | h
  · exact goodK_short l 12 h
  · rw [goodK_end (k := l.length) h (.inr (Nat.le_refl _))]
    exact goodK_short l _ (Nat.le_refl _)
theorem goodF_twice {l : List Fld} (h : rightF (goodF l) = true) : goodF (goodF l) = goodF l := goodF_same h (goodF_short l)
theorem gSrc_name (s : ByteArray) : nameL (B (gSrc s)) = true := by
  unfold gSrc
  split
  · assumption
  · decide
theorem gSrc_twice (s : ByteArray) : gSrc (gSrc s) = gSrc s := by
  rw [show gSrc (gSrc s) = if nameL (B (gSrc s)) then gSrc s else _ from rfl, if_pos (gSrc_name s)]
theorem gSrc_size {s : ByteArray} (h : s.size ≤ maxLen) : (gSrc s).size ≤ maxLen := by
  unfold gSrc
  split
  · exact h
  · decide
theorem gLv_right (l : Int) : rightL (gLv l) = true := by
  unfold gLv
  split
  · assumption
  · decide
theorem gTil_in (f t : Int) : gTil f t = 0 ∨ (gFr f < gTil f t ∧ gTil f t ≤ 2000) := by
  unfold gTil
  split
  · exact .inl rfl
  · have h1 := gFr_in f
    have h : 0 ≤ IntKind.u64.wrap t := by simp only [IntKind.wrap, IntKind.bits, IntKind.signed]; simp; omega
    rw [Int.tmod_eq_emod_of_nonneg h]
    omega
/-- a good alert -/
def goodAl (x : Al) : Al := ⟨gSrc x.src, goodF x.fl, gLv x.lv, x.c, gFr x.fr, gTil x.fr x.til⟩
theorem goodAl_right {x : Al} (h : 0 < (goodF x.fl).length) (hr : rightF (goodF x.fl) = true) : rightA (goodAl x) = true := by
  have h1 := gFr_in x.fr
  have h2 := gTil_in x.fr x.til
  unfold rightA whoA beginsA endsA goodAl
  simp only [gSrc_name, hr, gLv_right, decide_eq_true h, Bool.and_self, Bool.true_and, Bool.and_eq_true, Bool.or_eq_true, decide_eq_true_eq]
  omega
/-! ### two as one -/
def mTil (a b : Int) : Int := if a = 0 ∨ b = 0 then 0 else max a b
def mergeA (x y : Al) : Al := ⟨x.src, x.fl, (joinL (x.lv, x.c) (y.lv, y.c)).1, (joinL (x.lv, x.c) (y.lv, y.c)).2, min x.fr y.fr, mTil x.til y.til⟩
def mergeOk (x y : Al) : Bool := rightA x && rightA y && decide (idA x = idA y)
def sameAl (x y : Al) : Bool := sameA x.src y.src x.fl y.fl x.lv x.c x.fr x.til y.lv y.c y.fr y.til
theorem orN_comm (c d : Nat) : orN c d = orN d c := by unfold orN; rw [BitVec.or_comm]
theorem orN_self {c : Nat} (h : c < 4294967296) : orN c c = c := by unfold orN; simp; omega
theorem joinL_comm (a b : Int × Nat) : joinL a b = joinL b a := by
  unfold joinL
  rw [Bool.and_comm, Int.max_comm, orN_comm]
theorem joinL_self {a : Int × Nat} (h : rightL a.1 = true) (hc : a.2 < 4294967296) : joinL a a = a := by
  unfold joinL
  rw [h]
  simp [orN_self hc]
theorem mTil_comm (a b : Int) : mTil a b = mTil b a := by
  unfold mTil
  split <;> split <;> omega
theorem mTil_self (a : Int) : mTil a a = a := by unfold mTil; split <;> omega
theorem merge_same {x y : Al} (hs : x.src = y.src) (hf : x.fl = y.fl) : sameAl (mergeA x y) (mergeA y x) = true := by
  unfold sameAl sameA mergeA
  simp only [hs, hf, joinL_comm (x.lv, x.c) (y.lv, y.c), mTil_comm x.til y.til, Int.min_comm x.fr y.fr, decide_true, Bool.and_self]
theorem merge_self {x : Al} (h : rightL x.lv = true) (hc : x.c < 4294967296) : sameAl (mergeA x x) x = true := by
  unfold sameAl sameA mergeA
  simp only [joinL_self (a := (x.lv, x.c)) h hc, mTil_self, Int.min_self, decide_true, Bool.and_self]
theorem merge_fires {x y : Al} (now : Int) (h : (firesA x now || firesA y now) = true) : firesA (mergeA x y) now = true := by
  unfold firesA mergeA mTil at *
  simp only [Bool.or_eq_true, Bool.and_eq_true, decide_eq_true_eq] at *
  split <;> omega
theorem orN_sub (c d : Nat) : subB c (orN c d) = true := by
  unfold subB
  rw [List.all_eq_true]
  intro k hk
  rw [List.mem_range] at hk
  unfold orN
  rw [BitVec.toNat_or, Nat.testBit_or]
  have : (BitVec.ofNat 32 c).toNat.testBit k = c.testBit k := by
    rw [BitVec.toNat_ofNat, Nat.testBit_mod_two_pow]
    simp [hk]
  rw [this]
  cases c.testBit k <;> simp
theorem join_flows {a b : Int × Nat} (h1 : rightL a.1 = true) (h2 : rightL b.1 = true) : flowsL a.1 a.2 (joinL a b).1 (joinL a b).2 = true := by
  have hr := (joinL_right a b).1
  unfold flowsL
  rw [h1, hr]
  have h : joinL a b = (max a.1 b.1, orN a.2 b.2) := by unfold joinL; rw [h1, h2]; rfl
  rw [h]
  simp only [orN_sub, Bool.and_self, Bool.true_and, Bool.and_true, decide_eq_true_eq]
  omega
theorem join_flows' {a b : Int × Nat} (h1 : rightL a.1 = true) (h2 : rightL b.1 = true) : flowsL b.1 b.2 (joinL a b).1 (joinL a b).2 = true := by
  rw [joinL_comm]
  exact join_flows h2 h1
theorem rightA_parts {x : Al} (h : rightA x = true) : nameL (B x.src) = true ∧ 0 < x.fl.length ∧ rightF x.fl = true ∧ rightL x.lv = true ∧ 0 ≤ x.fr ∧ x.fr ≤ 1099511627776 ∧ (x.til = 0 ∨ (x.fr < x.til ∧ x.til ≤ 1099511627776)) := by
  unfold rightA whoA beginsA endsA at h
  simp only [Bool.and_eq_true, Bool.or_eq_true, decide_eq_true_eq] at h
  exact ⟨h.1.1.1.1.1, h.1.1.1.1.2, h.1.1.1.2, h.1.1.2, h.1.2.1, h.1.2.2, h.2⟩
theorem merge_right {x y : Al} (hx : rightA x = true) (hy : rightA y = true) : rightA (mergeA x y) = true := by
  obtain ⟨a1, a2, a3, a4, a5, a6, a7⟩ := rightA_parts hx
  obtain ⟨b1, b2, b3, b4, b5, b6, b7⟩ := rightA_parts hy
  have hj := (joinL_right (x.lv, x.c) (y.lv, y.c)).1
  unfold rightA whoA beginsA endsA mergeA mTil
  simp only [a1, a3, hj, decide_eq_true a2, Bool.and_self, Bool.true_and, Bool.and_eq_true, Bool.or_eq_true, decide_eq_true_eq]
  refine ⟨by omega, ?_⟩
  split
  · exact .inl rfl
  · right; omega
end Go.Proofs.Ytnmgfmmjdiephaa
