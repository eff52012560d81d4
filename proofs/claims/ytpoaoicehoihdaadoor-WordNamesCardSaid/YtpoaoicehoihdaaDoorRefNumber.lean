/- lychgateref01.Digits and lychgateref07.Number: contracts. -/
import Derived.Test.YtpoaoicehoihdaaDoorNum
import Derived.Test.YtpoaoicehoihdaaDoorStrs
import Derived.Test.YtpoaoicehoihdaaDoorSplit
namespace Go.Proofs.YtpoaoicehoihdaaDoor.refNumber
open Go.RowKit

/-! the plain part: a number's digits -/
def dg (n : Nat) : UInt8 := UInt8.ofNat (48 + n)
theorem dg_nat {n : Nat} (h : n < 10) : (dg n).toNat = 48 + n := UInt8.toNat_ofNat_of_lt' (by have : UInt8.size = 256 := rfl; omega)
theorem dg_dig {n : Nat} (h : n < 10) : digB (dg n) = true := by simp only [digB, dg_nat h]; simp; omega
def decF : Nat → Nat → List UInt8
  | 0, _ => []
  | f + 1, n => if n < 10 then [dg n] else decF f (n / 10) ++ [dg (n % 10)]
theorem decF_more : ∀ (f g n : Nat), n < 10 ^ f → n < 10 ^ g → 0 < f → 0 < g → decF f n = decF g n
  | 0, _, _, _, _, h, _ => absurd h (Nat.lt_irrefl _)
  | _, 0, _, _, _, _, h => absurd h (Nat.lt_irrefl _)
  | f + 1, g + 1, n, hf, hg, _, _ => by
    unfold decF
    split
    · rfl
    · rename_i h
      rw [Nat.pow_succ] at hf hg
      have e1 : 0 < f := by
        rcases Nat.eq_zero_or_pos f with h0 | h0
        · subst h0; simp at hf; omega
        · exact h0
      have e2 : 0 < g := by
        rcases Nat.eq_zero_or_pos g with h0 | h0
        · subst h0; simp at hg; omega
        · exact h0
      rw [decF_more f g (n / 10) (by omega) (by omega) e1 e2]
/-- the digits of a number below 10^12 -/
def dec (n : Nat) : List UInt8 := decF 12 n
theorem dec_small {n : Nat} (h : n < 10) : dec n = [dg n] := by rw [dec, decF, if_pos h]
theorem dec_great {n : Nat} (h : ¬ n < 10) (hn : n < 10 ^ 12) : dec n = dec (n / 10) ++ [dg (n % 10)] := by
  rw [dec, decF, if_neg h, dec, decF_more 11 12 (n / 10) (by omega) (by omega) (by decide) (by decide)]
theorem decF_good : ∀ (f n : Nat), n < 10 ^ f → 0 < f → (decF f n).length ≤ f ∧ decF f n ≠ [] ∧ (decF f n).all digB = true ∧ numV (decF f n) = n ∧ ((decF f n).head? = some 48 → decF f n = [48])
  | 0, _, _, h => absurd h (Nat.lt_irrefl _)
  | f + 1, n, hf, _ => by
    unfold decF
    split
    · rename_i h
      have hd := dg_nat h
      refine ⟨by simp, by simp, by simp [dg_dig h], ?_, fun he => ?_⟩
      · simp [numV, hd]; omega
      · simp only [List.head?_cons, Option.some.injEq] at he; rw [he]
    · rename_i h
      rw [Nat.pow_succ] at hf
      have e1 : 0 < f := by
        rcases Nat.eq_zero_or_pos f with h0 | h0
        · subst h0; simp at hf; omega
        · exact h0
      obtain ⟨h1, h2, h3, h4, h5⟩ := decF_good f (n / 10) (by omega) e1
      have hd := dg_nat (show n % 10 < 10 by omega)
      refine ⟨by simp; omega, by simp, by simp [h3, dg_dig (show n % 10 < 10 by omega)], ?_, fun he => ?_⟩
      · rw [numV_snoc, h4, hd]; omega
      · exfalso
        obtain ⟨c, r, hc⟩ := List.exists_cons_of_ne_nil h2
        rw [hc] at he
        simp only [List.cons_append, List.head?_cons, Option.some.injEq] at he
        have := h5 (by rw [hc, List.head?_cons, he])
        rw [this] at h4
        have : n / 10 = 0 := by
          have : numV [48] = 0 := by decide
          rw [this] at h4; omega
        omega
theorem dec_good {n : Nat} (h : n < 1000000000) : numGood (dec n) = true ∧ numV (dec n) = n := by
  have e : dec n = decF 9 n := decF_more 12 9 n (by omega) (by omega) (by decide) (by decide)
  obtain ⟨h1, h2, h3, h4, h5⟩ := decF_good 9 n (by omega) (by decide)
  rw [e]
  refine ⟨?_, h4⟩
  have e1 : (decF 9 n).isEmpty = false := by simpa using h2
  have e2 : ((decF 9 n).head? == some 48 && !(decF 9 n == [48])) = false := by
    rw [Bool.and_eq_false_iff]
    by_cases hh : (decF 9 n).head? = some 48
    · right; rw [h5 hh]; rfl
    · left; simpa using hh
  rw [numGood, e1, e2, h3, decide_eq_true h1]
  rfl
theorem numV_cons (c : UInt8) (s : List UInt8) : numV (c :: s) = ((c.toNat : Int) - 48) * 10 ^ s.length + numV s := by
  induction s using snocInd with
  | h0 => simp [numV]
  | h1 l d ih =>
    rw [← List.cons_append, numV_snoc, numV_snoc, ih, List.length_append, List.length_singleton, Int.pow_succ, Int.mul_add, Int.mul_comm 10, Int.mul_assoc]
    omega
theorem numV_ge (x : UInt8) (r : List UInt8) (h : (x :: r).all digB = true) : ((x.toNat : Int) - 48) * 10 ^ r.length ≤ numV (x :: r) := by
  rw [List.all_cons, Bool.and_eq_true] at h
  have := numV_bd r h.2
  rw [numV_cons]
  omega
/-- digits with no nought ahead are those of their number -/
theorem dec_back (l : List UInt8) : ∀ f, l.all digB = true → l ≠ [] → (2 ≤ l.length → l.head? ≠ some 48) → l.length ≤ f → decF f (numV l).toNat = l := by
  induction l using snocInd with
  | h0 => intro _ _ h; exact absurd rfl h
  | h1 l c ih =>
    intro f hd _ hh hf
    rw [List.all_append, Bool.and_eq_true] at hd
    have hc : digB c = true := by simpa using hd.2
    have hcI : (48 : Int) ≤ (c.toNat : Int) ∧ (c.toNat : Int) ≤ 57 := by simpa [digB] using hc
    rw [List.length_append, List.length_singleton] at hf hh
    obtain ⟨f, rfl⟩ : ∃ g, f = g + 1 := ⟨f - 1, by omega⟩
    have hdc : dg (c.toNat - 48) = c := by
      apply UInt8.toNat_inj.1
      rw [dg_nat (by omega)]; omega
    rw [numV_snoc]
    by_cases hl : l = []
    · subst hl
      have e : (10 * numV [] + ((c.toNat : Int) - 48)).toNat = c.toNat - 48 := by simp [numV]; omega
      rw [e, decF, if_pos (by omega), hdc]; rfl
    · obtain ⟨x, r, rfl⟩ := List.exists_cons_of_ne_nil hl
      have hx48 : x ≠ 48 := by
        intro e
        exact hh (by simp) (by rw [e]; rfl)
      have hxd : digB x = true := by
        have := hd.1
        simp only [List.all_cons, Bool.and_eq_true] at this
        exact this.1
      have hb := numV_bd (x :: r) hd.1
      have hpos : 1 ≤ numV (x :: r) := by
        have h1 := numV_ge x r hd.1
        have hxI : (48 : Int) ≤ (x.toNat : Int) ∧ (x.toNat : Int) ≤ 57 := by simpa [digB] using hxd
        have : x.toNat ≠ 48 := fun e => hx48 (UInt8.toNat_inj.1 (by simpa using e))
        have hp : (1 : Int) ≤ 10 ^ r.length := Int.pow_pos (by decide)
        have : (1 : Int) * 1 ≤ ((x.toNat : Int) - 48) * 10 ^ r.length := Int.mul_le_mul (by omega) hp (by decide) (by omega)
        omega
      have e1 : (10 * numV (x :: r) + ((c.toNat : Int) - 48)).toNat / 10 = (numV (x :: r)).toNat := by omega
      have e2 : (10 * numV (x :: r) + ((c.toNat : Int) - 48)).toNat % 10 = c.toNat - 48 := by omega
      rw [decF, if_neg (by omega), e1, e2, hdc, ih f hd.1 hl (fun h2 => by simp [hx48]) (by omega)]

/-! lychgateref01.Digits -/
theorem digit_at (d : Nat) (h : d < 10) : B ((⟨#[48, 49, 50, 51, 52, 53, 54, 55, 56, 57]⟩ : ByteArray).extract d (d + 1)) = [dg d] := by
  have : ∀ d : Fin 10, B ((⟨#[48, 49, 50, 51, 52, 53, 54, 55, 56, 57]⟩ : ByteArray).extract d.val (d.val + 1)) = [dg d.val] := by decide +kernel
  exact this ⟨d, h⟩
theorem dec_len {n : Nat} (h : n < 10 ^ 12) : (dec n).length ≤ 12 := (decF_good 12 n h (by decide)).1
structure DSt (N k : Nat) (s : List UInt8) : Prop where
  eq : dec N = (if k = 0 then [] else dec k) ++ s
  small : k < 10 ^ 12
theorem DSt.start {N : Nat} (h : N < 10 ^ 12) : DSt N (N / 10) [dg (N % 10)] := by
  refine ⟨?_, by omega⟩
  by_cases h10 : N < 10
  · rw [dec_small h10, if_pos (by omega)]
    rw [Nat.mod_eq_of_lt h10]; rfl
  · rw [dec_great h10 h, if_neg (by omega)]
theorem DSt.step {N k : Nat} {s : List UInt8} (h : DSt N k s) (hk : 0 < k) : DSt N (k / 10) (dg (k % 10) :: s) := by
  refine ⟨?_, by have := h.small; omega⟩
  rw [h.eq, if_neg (by omega)]
  by_cases h10 : k < 10
  · rw [dec_small h10, if_pos (by omega), Nat.mod_eq_of_lt h10]; rfl
  · rw [dec_great h10 h.small, if_neg (by omega)]
    simp
theorem DSt.len {N k : Nat} {s : List UInt8} (h : DSt N k s) (hN : N < 10 ^ 12) : s.length ≤ 12 := by
  have h1 := dec_len hN
  rw [h.eq, List.length_append] at h1
  omega
theorem DSt.done {N : Nat} {s : List UInt8} (h : DSt N 0 s) : dec N = s := by rw [h.eq]; rfl

set_option maxHeartbeats 400000 in
set_option maxRecDepth 100000 in
theorem digits_any (N : Nat) (w : World) (hN : N ≤ 1000000000) :
    Calls Tryd.prog 36 #[.int .i64 (N : Int)] w fun e w' => ∃ s : ByteArray, e = .returned (.string s) ∧ B s = dec N ∧ w = w' := by
  have hst : DSt N (N / 10) (B ((⟨#[48, 49, 50, 51, 52, 53, 54, 55, 56, 57]⟩ : ByteArray).extract (N % 10) (N % 10 + 1))) := by
    rw [digit_at _ (by omega)]; exact DSt.start (by omega)
  have hN12 : Hid (N < 10 ^ 12) := by show N < 10 ^ 12; omega
  have hN2 : N ≤ 2147483647 := by omega
  clear hN
  go_enter Tryd.func36, Tryd.ntmps36
  go_wp2
  go_loop [0, 3] (fun y x => ∃ (k : Nat) (s : ByteArray), x = .string s ∧ y = .int .i64 k ∧ k ≤ 2147483647 ∧ Hid (DSt N k (B s))) (fun y _ => (intOf y).toNat)
  case atStart => exact ⟨N / 10, _, rfl, by go_num, by omega, hst⟩
  case round =>
    obtain ⟨k, s, rfl, rfl, hk, HS⟩ := hrel
    clear hst
    have hsz : s.size ≤ 12 := by rw [← len_B]; exact HS.out.len hN12.out
    have HZ := Lib.hid hsz
    clear hsz
    by_cases hk0 : 0 < (k : Int)
    · have HN : Hid (DSt N (k / 10) (B ((⟨#[48, 49, 50, 51, 52, 53, 54, 55, 56, 57]⟩ : ByteArray).extract (k % 10) (k % 10 + 1) ++ s))) := by
        show DSt _ _ _
        rw [B_append, digit_at _ (by omega)]
        exact HS.out.step (by omega)
      clear hN12
      go_wp2
      case isTrue =>
        have h9 : 9223372036854775807 < min (k % 10 + 1) 10 - k % 10 + s.size := by assumption
        have hl := HZ.out
        omega
      go_round
      case rel => exact ⟨k / 10, _, rfl, by go_num, by omega, HN⟩
      case measure => simp only [intOf]; omega
    · obtain rfl : k = 0 := by omega
      have HR := Lib.hid HS.out.done
      clear hN12
      go_wp2
      go_ret
      exact ⟨s, rfl, HR.out.symm, rfl⟩

/-! lychgateref07.Number -/
def numA (l : List UInt8) : Int := l.foldl (fun n c => if digB c then 10 * n + ((c.toNat : Int) - 48) else n) 0
theorem numA_snoc (l : List UInt8) (c : UInt8) : numA (l ++ [c]) = if digB c then 10 * numA l + ((c.toNat : Int) - 48) else numA l := by simp [numA]
theorem numA_bd (l : List UInt8) : 0 ≤ numA l ∧ numA l < 10 ^ l.length := by
  induction l using snocInd with
  | h0 => simp [numA]
  | h1 l c ih =>
    rw [numA_snoc, List.length_append, List.length_singleton, Int.pow_succ]
    split
    · rename_i hc
      have : (48 : Int) ≤ (c.toNat : Int) ∧ (c.toNat : Int) ≤ 57 := by simpa [digB] using hc
      omega
    · omega
theorem numA_digs (l : List UInt8) (h : l.all digB = true) : numA l = numV l := by
  induction l using snocInd with
  | h0 => rfl
  | h1 l c ih =>
    rw [List.all_append, Bool.and_eq_true] at h
    have hc : digB c = true := by simpa using h.2
    rw [numA_snoc, numV_snoc, ih h.1, if_pos hc]
theorem numA_bd10 (l : List UInt8) (k : Nat) (hk : k ≤ 9) : 0 ≤ numA (l.take k) ∧ numA (l.take k) ≤ 1000000000 := by
  have := numA_bd (l.take k)
  have h1 : (l.take k).length ≤ 9 := by rw [List.length_take]; omega
  have h2 : (10 : Int) ^ (l.take k).length ≤ 10 ^ 9 := by exact_mod_cast Nat.pow_le_pow_right (by omega : 10 > 0) h1
  omega
/-- the two ways of the reference -/
theorem numR_ref_bad {l : List UInt8} (h : 999999999 < numA (l.take 10) ∨ dec (numA (l.take 10)).toNat ≠ l) : numR l = (0, 2) := by
  refine numR_bad ?_
  rw [Bool.eq_false_iff]
  intro hg
  have hg' := hg
  simp only [numGood, Bool.and_eq_true, decide_eq_true_eq] at hg
  obtain ⟨⟨⟨h1, h2⟩, h3⟩, h4⟩ := hg
  have ht : l.take 10 = l := List.take_of_length_le (by omega)
  rw [ht, numA_digs l h4] at h
  have hb := numV_bd l h4
  have hp : (10 : Int) ^ l.length ≤ 10 ^ 9 := by exact_mod_cast Nat.pow_le_pow_right (by omega : 10 > 0) h2
  rcases h with h | h
  · omega
  · apply h
    refine dec_back l 12 h4 (by simpa using h1) (fun hl hh => ?_) (by omega)
    rw [hh] at h3
    have : l = [48] := by simpa using h3
    rw [this] at hl
    simp at hl
theorem numR_ref_good {l : List UInt8} (h : numA (l.take 10) ≤ 999999999) (he : dec (numA (l.take 10)).toNat = l) : numR l = (numA (l.take 10), 0) := by
  have hb := (numA_bd (l.take 10)).1
  obtain ⟨h1, h2⟩ := dec_good (n := (numA (l.take 10)).toNat) (by omega)
  rw [he] at h1 h2
  rw [numR_good h1, h2, Int.toNat_of_nonneg hb]

set_option maxHeartbeats 400000 in
set_option maxRecDepth 100000 in
theorem number_any (s : ByteArray) (w : World) (_hs : s.size ≤ maxLen) :
    Calls Tryd.prog 22 #[.string s] w fun e w' => e = .returned (.tuple #[.int .i64 (numR (B s)).1, .int .i64 (numR (B s)).2]) ∧ w = w' := by
  unfold maxLen at _hs
  go_enter Tryd.func22, Tryd.ntmps22
  go_wp2
  go_loop [4, 5] (fun y x => ∃ k : Nat, k ≤ s.size ∧ k ≤ 10 ∧ x = .int .i64 k ∧ y = .int .i64 (numA ((B s).take k))) (fun _ x => 10 - (intOf x).toNat)
  case atStart => exact ⟨0, Nat.zero_le _, Nat.zero_le _, rfl, rfl⟩
  case round =>
    obtain ⟨k, hk, hk10, rfl, rfl⟩ := hrel
    by_cases hgo : k < s.size ∧ k < 10
    · obtain ⟨hlt, hlt10⟩ := hgo
      have hT1 := take_succ_B s k hlt
      have hsn := numA_snoc ((B s).take k) s[k]
      rw [← hT1] at hsn
      have HSN := Lib.hid hsn
      have hb := numA_bd10 (B s) k (by omega)
      obtain ⟨hb0, hb1⟩ := hb
      clear hT1 hsn
      generalize numA ((B s).take k) = n at *
      by_cases hdg : digB s[k] = true
      · have HN : Hid (numA ((B s).take (k + 1)) = 10 * n + ((s[k].toNat : Int) - 48)) := by show _ = _; rw [HSN.out, if_pos hdg]
        have h48 : (48 : Int) ≤ (s[k].toNat : Int) ∧ (s[k].toNat : Int) ≤ 57 := by simpa [digB] using hdg
        obtain ⟨h48, h57⟩ := h48
        clear hdg
        go_wp2
        go_round
        case rel => exact ⟨k + 1, by omega, by omega, by go_num, by rw [HN.out]⟩
        case measure => simp [intOf]; omega
      · have HN : Hid (numA ((B s).take (k + 1)) = n) := by show _ = _; rw [HSN.out, if_neg hdg]
        have h48 : ¬ ((48 : Int) ≤ (s[k].toNat : Int) ∧ (s[k].toNat : Int) ≤ 57) := by simpa [digB] using hdg
        clear hdg
        rcases (show (s[k].toNat : Int) < 48 ∨ ((48 : Int) ≤ (s[k].toNat : Int) ∧ 57 < (s[k].toNat : Int)) by omega) with h | ⟨h, h'⟩
        all_goals
          clear h48
          go_wp2
          go_round
          case rel => exact ⟨k + 1, by omega, by omega, by go_num, by rw [HN.out]⟩
          case measure => simp [intOf]; omega
    · have htk : (B s).take k = (B s).take 10 := by
        rcases (show k = 10 ∨ k = s.size by omega) with h | h
        · rw [h]
        · rw [h, take_all_B, List.take_of_length_le (by rw [len_B]; omega)]
      rw [htk]
      have hb0 := (numA_bd ((B s).take 10)).1
      have HBAD : Hid ((999999999 < numA ((B s).take 10) ∨ dec (numA ((B s).take 10)).toNat ≠ B s) → numR (B s) = (0, 2)) := numR_ref_bad
      have HGOOD : Hid (numA ((B s).take 10) ≤ 999999999 → dec (numA ((B s).take 10)).toNat = B s → numR (B s) = (numA ((B s).take 10), 0)) := numR_ref_good
      clear htk
      generalize numA ((B s).take 10) = n at *
      obtain ⟨N, rfl⟩ := Int.eq_ofNat_of_zero_le hb0
      rw [Int.toNat_natCast] at HBAD HGOOD
      clear hb0
      rcases (show s.size ≤ k ∨ (k < s.size ∧ 10 ≤ k) by omega) with hx | ⟨hx, hx'⟩
      all_goals
        clear hgo
        by_cases hbig : (999999999 : Int) < (N : Int)
        · have HR := Lib.hid (HBAD.out (.inl hbig))
          clear HBAD HGOOD
          go_wp2
          go_ret2
          exact ⟨by rw [HR.out]; rfl, rfl⟩
        · have hD := digits_any N w (by omega)
          by_cases he : dec N = B s
          · have HR := Lib.hid (HGOOD.out (by omega) he)
            have HE := Lib.hid he
            clear HBAD HGOOD he
            go_wp2_with fail
            refine hD.mono ?_
            rintro e w' ⟨s2, rfl, hs2, rfl⟩
            have hq : (s2.toList == s.toList) = true := bytes_eq_iff.2 (B_inj (hs2.trans HE.out))
            clear hs2 hD
            go_wp2
            go_ret2
            exact ⟨by rw [HR.out]; rfl, rfl⟩
          · have HR := Lib.hid (HBAD.out (.inr he))
            have HE := Lib.hid he
            clear HBAD HGOOD he
            go_wp2_with fail
            refine hD.mono ?_
            rintro e w' ⟨s2, rfl, hs2, rfl⟩
            have hq : (s2.toList == s.toList) = false := by
              rw [bytes_beq, decide_eq_false_iff_not]
              intro e
              exact HE.out (by rw [← hs2, e])
            clear hs2 hD
            go_wp2
            go_ret2
            exact ⟨by rw [HR.out]; rfl, rfl⟩
end Go.Proofs.YtpoaoicehoihdaaDoor.refNumber
