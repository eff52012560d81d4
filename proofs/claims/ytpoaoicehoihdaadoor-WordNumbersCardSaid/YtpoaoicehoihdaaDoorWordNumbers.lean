/- WordNumbers: the walk. -/
import Derived.Test.YtpoaoicehoihdaaDoorLives
namespace Go.Proofs.YtpoaoicehoihdaaDoor.lawNumbers
open Go.RowKit

/- the plain part -/
def digits : ByteArray := ⟨#[48, 49, 50, 51, 52, 53, 54, 55, 56, 57]⟩
theorem numV_cons (c : UInt8) (s : List UInt8) : numV (c :: s) = ((c.toNat : Int) - 48) * 10 ^ s.length + numV s := by
  induction s using snocInd with
  | h0 => simp [numV]
  | h1 l d ih =>
    rw [← List.cons_append, numV_snoc, numV_snoc, ih, List.length_append, List.length_singleton, Int.pow_succ, Int.mul_add, Int.mul_comm 10, Int.mul_assoc]
    omega
/-- the loop's state: k is to come, s stands -/
structure St (N k : Nat) (s : List UInt8) : Prop where
  val : numV s + (k : Int) * 10 ^ s.length = N
  digs : s.all digB = true
  len : s.length ≤ 9
  room : k < 10 ^ (9 - s.length)
  head : k = 0 → s ≠ [] → (s.head? == some 48 && !(s == [48])) = false
theorem St.start {N : Nat} (h : N < 1000000000) : St N N [] := ⟨by simp [numV], rfl, Nat.zero_le _, by simpa using h, fun _ h => absurd rfl h⟩
theorem St.step {N k : Nat} {s : List UInt8} (h : St N k s) (hk : 0 < k ∨ s = []) : St N (k / 10) (UInt8.ofNat (48 + k % 10) :: s) := by
  have hd : (UInt8.ofNat (48 + k % 10)).toNat = 48 + k % 10 := UInt8.toNat_ofNat_of_lt' (by have : UInt8.size = 256 := rfl; omega)
  have hlen : s.length ≤ 8 := by
    rcases hk with hk | hk
    · have h1 := h.room
      have h2 := h.len
      rcases Nat.lt_or_ge s.length 9 with h3 | h3
      · omega
      · have : s.length = 9 := by omega
        rw [this] at h1
        simp at h1; omega
    · subst hk; simp
  refine ⟨?_, ?_, ?_, ?_, ?_⟩
  · rw [numV_cons, hd, List.length_cons, Int.pow_succ, ← h.val]
    have e : (k : Int) = ((k / 10 : Nat) : Int) * 10 + ((k % 10 : Nat) : Int) := by omega
    generalize (10 : Int) ^ s.length = p
    have e2 : (((48 + k % 10 : Nat) : Int) - 48) = ((k % 10 : Nat) : Int) := by omega
    rw [e2]
    generalize hq : ((k / 10 : Nat) : Int) = q at *
    generalize hr : ((k % 10 : Nat) : Int) = r at *
    rw [e, Int.add_mul, Int.mul_assoc q 10 p, Int.mul_comm p 10]
    omega
  · rw [List.all_cons, h.digs, Bool.and_true]
    simp only [digB, hd]
    simp
    omega
  · simp; omega
  · have h1 := h.room
    have e : 9 - s.length = (9 - (s.length + 1)) + 1 := by omega
    rw [e, Nat.pow_succ] at h1
    simp only [List.length_cons]
    omega
  · intro h0 _
    by_cases hkz : k = 0
    · have hs : s = [] := by rcases hk with hk | hk
                             · omega
                             · exact hk
      subst hs hkz
      decide
    · have : UInt8.ofNat (48 + k % 10) ≠ 48 := by
        intro e
        have := congrArg UInt8.toNat e
        rw [hd] at this
        have : k % 10 = 0 := by simpa using this
        omega
      rw [Bool.and_eq_false_iff, List.head?_cons, beq_eq_false_iff_ne]
      exact .inl fun e => this (Option.some.inj e)
theorem St.done {N : Nat} {s : List UInt8} (h : St N 0 s) (hs : s ≠ []) : numR s = ((N : Int), 0) := by
  have hv := h.val
  simp at hv
  have : numGood s = true := by
    have e : s.isEmpty = false := by simpa using hs
    rw [numGood, e, h.digs, h.head rfl hs, decide_eq_true h.len]
    rfl
  rw [numR_good this, hv]
theorem bad_digit {l : List UInt8} (c : UInt8) (h : c ∈ l) (hc : digB c = false) : numR l = (0, 2) := by
  refine numR_bad ?_
  have : l.all digB = false := List.all_eq_false.2 ⟨c, h, by simp [hc]⟩
  rw [numGood, this, Bool.and_false]
theorem bad_len {l : List UInt8} (h : 9 < l.length) : numR l = (0, 2) := by
  refine numR_bad ?_
  rw [numGood, decide_eq_false (by omega)]
  simp
theorem bad_zero {l : List UInt8} (h : l ≠ []) : numR (48 :: l) = (0, 2) := by
  refine numR_bad ?_
  have : ((48 :: l).head? == some 48 && !(48 :: l == [48])) = true := by
    rw [List.head?_cons]
    simpa using h
  rw [numGood, this]
  simp
/-- the six that are none -/
def odds (s : ByteArray) : List ByteArray := [⟨#[48]⟩ ++ s, ⟨#[45]⟩ ++ s, s ++ ⟨#[32]⟩, s ++ ⟨#[120]⟩, ⟨#[49, 48, 48, 48, 48, 48, 48, 48, 48, 48]⟩ ++ s, ⟨#[]⟩]
theorem B_append (a b : ByteArray) : B (a ++ b) = B a ++ B b := by simp [B]
theorem odds_bad (s : ByteArray) (h : B s ≠ []) : ∀ x ∈ odds s, numR (B x) = (0, 2) := by
  intro x hx
  simp only [odds, List.mem_cons, List.mem_nil_iff, or_false] at hx
  rcases hx with rfl | rfl | rfl | rfl | rfl | rfl
  · rw [B_append]; exact bad_zero h
  · rw [B_append]; exact bad_digit 45 (List.mem_append_left _ (by simp [B])) (by decide)
  · rw [B_append]; exact bad_digit 32 (List.mem_append_right _ (by simp [B])) (by decide)
  · rw [B_append]; exact bad_digit 120 (List.mem_append_right _ (by simp [B])) (by decide)
  · rw [B_append]; exact bad_len (by have := List.length_pos_iff.2 h; rw [List.length_append]; show 9 < 10 + _; omega)
  · exact numR_bad rfl

theorem odds_size (s : ByteArray) : ∀ x ∈ odds s, x.size ≤ s.size + 10 := by
  intro x hx
  simp only [odds, List.mem_cons, List.mem_nil_iff, or_false] at hx
  rcases hx with rfl | rfl | rfl | rfl | rfl | rfl
  all_goals (rw [← len_B])
  all_goals (first | (rw [B_append, List.length_append, len_B, len_B]) | (rw [len_B]))
  all_goals first | (show 1 + s.size ≤ _; omega) | (show s.size + 1 ≤ _; omega) | (show 10 + s.size ≤ _; omega) | (show 0 ≤ _; omega)
theorem digit_at (d : Nat) (h : d < 10) : B ((⟨#[48, 49, 50, 51, 52, 53, 54, 55, 56, 57]⟩ : ByteArray).extract d (d + 1)) = [UInt8.ofNat (48 + d)] := by
  have : ∀ d : Fin 10, B ((⟨#[48, 49, 50, 51, 52, 53, 54, 55, 56, 57]⟩ : ByteArray).extract d.val (d.val + 1)) = [UInt8.ofNat (48 + d.val)] := by decide +kernel
  exact this ⟨d, h⟩

theorem St.klt {N k : Nat} {s : List UInt8} (h : St N k s) : k ≤ 2147483647 :=
  Nat.le_trans (Nat.le_of_lt (Nat.lt_of_lt_of_le h.room (Nat.pow_le_pow_right (by omega) (Nat.sub_le 9 _)))) (by decide)
theorem St.step' {N k : Nat} {s : ByteArray} (h : St N k (B s)) (hk : 0 < k ∨ B s = []) : St N (k / 10) (B ((⟨#[48, 49, 50, 51, 52, 53, 54, 55, 56, 57]⟩ : ByteArray).extract (k % 10) (k % 10 + 1) ++ s)) ∧ s.size ≤ 8 := by
  have hs := h.step hk
  refine ⟨?_, ?_⟩
  · rw [B_append, digit_at _ (by omega)]
    exact hs
  · have := hs.len
    rw [List.length_cons, len_B] at this
    omega

set_option maxHeartbeats 400000 in
set_option maxRecDepth 100000 in
theorem walk (n : Int) (w : World) (_hsh : w.ShapedOpen Tryd.prog) :
    Calls Tryd.prog 3 #[.int .i64 n] w fun e w' => e = .returned (.bool true) ∧ Below w.heap.size w w' := by
  obtain ⟨N, hN, hlt⟩ := uintMod n 1000000000 (by omega) (by omega)
  have HN := Lib.hid hN
  have hst : St N N (B ⟨#[]⟩) := St.start (by omega)
  clear hN hlt
  go_enter Tryd.func3, Tryd.ntmps3
  go_wp2_with (go_at_call 10; refine (lives_any _).mono ?_; rintro e w1 ⟨rfl, hb1⟩)
  rw [HN.out]
  clear HN
  generalize (IntKind.u64.wrap n).tmod 1000000000 = z1
  generalize IntKind.u64.wrap n = z2
  go_loop [3, 4] (fun x y => ∃ (s : ByteArray) (k : Nat), x = .string s ∧ y = .int .i64 k ∧ St N k (B s)) (fun x y => (10 - strLen x) + (intOf y).toNat)
  case atStart => exact ⟨⟨#[]⟩, N, rfl, rfl, hst⟩
  clear hst
  case round =>
    obtain ⟨s, k, rfl, rfl, hS⟩ := hrel
    have hk9 := hS.klt
    by_cases hgo : 0 < k ∨ B s = []
    · obtain ⟨hS', hl⟩ := hS.step' hgo
      have HS := Lib.hid hS'
      clear hS hS'
      have hsz : ((⟨#[48, 49, 50, 51, 52, 53, 54, 55, 56, 57]⟩ : ByteArray).extract (k % 10) (k % 10 + 1) ++ s).size = s.size + 1 := by
        rw [← len_B, B_append, digit_at _ (by omega), List.length_append, len_B]; simp; omega
      have HZ := Lib.hid hsz
      clear hsz
      by_cases hk : 0 < (k : Int)
      · clear hgo
        have HLs := Lib.hid hl
        clear hl
        go_wp2
        case isTrue =>
          have h9 : 9223372036854775807 < min (k % 10 + 1) 10 - k % 10 + s.size := by assumption
          have hl := HLs.out
          omega
        go_round
        case rel => exact ⟨_, k / 10, rfl, by go_num, HS.out⟩
        case measure =>
          have hl := HLs.out
          simp only [strLen, HZ.out, intOf]; omega
      · obtain rfl : k = 0 := by omega
        have he : s.toList.isEmpty = true := by
          rw [toList_B]; rcases hgo with h | h
          · omega
          · rw [h]; rfl
        have hz : s.size = 0 := by rw [← len_B, ← toList_B]; simpa using he
        clear hgo
        go_wp2
        go_round
        case rel => exact ⟨_, 0, rfl, rfl, HS.out⟩
        case measure =>
          have hz1 := HZ.out
          simp only [Nat.zero_mod, Nat.zero_add] at hz1
          simp only [strLen, hz1, intOf]; omega
    · have hk0 : k = 0 := by omega
      clear hk9
      subst hk0
      have hne : B s ≠ [] := fun h => hgo (.inr h)
      have hR := hS.done hne
      have hO := odds_bad s hne
      have he : s.toList.isEmpty = false := by rw [toList_B]; simpa using hne
      have hl : s.size ≤ 9 := by rw [← len_B]; exact hS.len
      clear hS hgo
      have hn := number_any s w1 (by unfold maxLen; omega)
      rw [hR] at hn
      clear hR
      go_wp2_with (go_at_call 11; refine hn.mono ?_; rintro e w2 ⟨rfl, hb2⟩)
      have hb12 := hb1.trans (hb2.mono hb1.size)
      have HO := Lib.hid hO
      clear hO hn hb1 hb2
      go_loopw [8] (fun x wr => ∃ i : Nat, i ≤ 6 ∧ x = .int .i64 i ∧ w2.heap.size < wr.heap.size ∧ Below w.heap.size w wr ∧ Hid (∀ j, j < 6 → wr.cell? ⟨w2.heap.size, j, none⟩ = some (.string ((odds s).getD j ByteArray.empty)))) (fun x _ => 6 - (intOf x).toNat)
      case atStart =>
        refine ⟨0, by omega, rfl, by simp, (hb12.alloc hb12.size _), ?_⟩
        intro j hj
        match j, hj with
        | 0, _ => go_simp; rfl
        | 1, _ => go_simp; rfl
        | 2, _ => go_simp; rfl
        | 3, _ => go_simp; rfl
        | 4, _ => go_simp; rfl
        | 5, _ => go_simp; rfl
      case round =>
        obtain ⟨i, hi, rfl, hsz, hbr, HC⟩ := hrel
        by_cases hlt : i < 6
        · have hc := HC.out i hlt
          obtain ⟨x, hx⟩ : ∃ x, (odds s).getD i ByteArray.empty = x := ⟨_, rfl⟩
          have hxm : x ∈ odds s := by
            rw [← hx, List.getD, List.getElem?_eq_getElem (by simpa [odds] using hlt)]
            exact List.getElem_mem _
          rw [hx] at hc
          have hx0 := HO.out x hxm
          have hn := number_any x wr (by have := odds_size s x hxm; unfold maxLen; omega)
          rw [hx0] at hn
          clear hx0 hx
          go_wp2_with (go_at_call 11; refine hn.mono ?_; rintro e w3 ⟨rfl, hb3⟩)
          go_roundw
          case rel => exact ⟨i + 1, by omega, by go_num, Nat.lt_of_lt_of_le hsz hb3.size, hbr.trans (hb3.mono hbr.size), fun j hj => (hb3.cell (p := ⟨w2.heap.size, j, none⟩) hsz).trans (HC.out j hj)⟩
          case measure => simp [intOf]; omega
        · go_wp2
          go_ret
          exact ⟨rfl, hbr⟩
end Go.Proofs.YtpoaoicehoihdaaDoor.lawNumbers
