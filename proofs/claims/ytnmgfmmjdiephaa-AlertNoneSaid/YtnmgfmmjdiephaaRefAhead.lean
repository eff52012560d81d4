/- lychgateref06.Ahead, Right: contracts, the same as match's. -/
import Derived.Test.YtnmgfmmjdiephaaRefName
import Derived.Test.YtnmgfmmjdiephaaRefB
namespace Go.Proofs.Ytnmgfmmjdiephaa
open Go.RowKit

theorem less_at {a b : List UInt8} : ∀ (k : Nat) (ha : k < a.length) (hb : k < b.length), a.take k = b.take k → a[k] ≠ b[k] → Op.bytesLess a b = decide (a[k] < b[k]) := by
  intro k
  induction k generalizing a b with
  | zero =>
    intro ha hb _ hne
    obtain ⟨x, a, rfl⟩ := List.exists_cons_of_length_pos ha
    obtain ⟨y, b, rfl⟩ := List.exists_cons_of_length_pos hb
    simp only [List.getElem_cons_zero] at hne ⊢
    have h1 : (x == y) = false := by rw [beq_eq_false_iff_ne]; exact hne
    simp [Op.bytesLess, h1]
  | succ k ih =>
    intro ha hb ht hne
    obtain ⟨x, a, rfl⟩ := List.exists_cons_of_length_pos (Nat.lt_of_le_of_lt (Nat.zero_le _) ha)
    obtain ⟨y, b, rfl⟩ := List.exists_cons_of_length_pos (Nat.lt_of_le_of_lt (Nat.zero_le _) hb)
    simp only [List.take_succ_cons, List.cons.injEq] at ht
    obtain ⟨rfl, ht⟩ := ht
    simp only [List.getElem_cons_succ] at hne ⊢
    have := ih (by simpa using ha) (by simpa using hb) ht hne
    simp [Op.bytesLess, this]
theorem less_end {a b : List UInt8} : ∀ (k : Nat), a.take k = b.take k → (k = a.length ∧ k ≤ b.length ∨ k = b.length ∧ k ≤ a.length) → Op.bytesLess a b = decide (a.length < b.length) := by
  intro k
  induction k generalizing a b with
  | zero =>
    intro _ h
    rcases h with ⟨h, _⟩ | ⟨h, _⟩
    · have : a = [] := List.length_eq_zero_iff.1 h.symm
      subst this
      cases b <;> simp [Op.bytesLess]
    · have : b = [] := List.length_eq_zero_iff.1 h.symm
      subst this
      cases a <;> simp [Op.bytesLess]
  | succ k ih =>
    intro ht h
    have ha : 0 < a.length := by omega
    have hb : 0 < b.length := by omega
    obtain ⟨x, a, rfl⟩ := List.exists_cons_of_length_pos ha
    obtain ⟨y, b, rfl⟩ := List.exists_cons_of_length_pos hb
    simp only [List.take_succ_cons, List.cons.injEq] at ht
    obtain ⟨rfl, ht⟩ := ht
    simp only [List.length_cons] at h ⊢
    have := ih ht (by omega)
    simp [Op.bytesLess, this]
theorem B_at (s : ByteArray) (k : Nat) (h : k < s.size) (h' : k < (B s).length) : (B s)[k] = s[k] := by
  have h1 := take_succ_B s k h
  rw [List.take_succ_eq_append_getElem h'] at h1
  have := List.append_cancel_left h1
  simpa using this
set_option maxHeartbeats 1600000 in
set_option maxRecDepth 100000 in
theorem rahead_any (a b : ByteArray) (w : World) (ha : a.size ≤ maxLen) :
    Calls Try.prog 71 #[.string a, .string b] w fun e w' => e = .returned (.bool (ltS a b)) ∧ Below w.heap.size w w' := by
  unfold maxLen at ha
  have HL : Hid (ltS a b = Op.bytesLess (B a) (B b)) := by show _ = _; unfold ltS; rw [toList_B, toList_B]
  go_enter Try.func71, Try.ntmps71
  go_wp2
  go_loopw [5] (fun i wr => ∃ k : Nat, k ≤ a.size ∧ k ≤ b.size ∧ i = .int .i64 k ∧ Hid ((B a).take k = (B b).take k) ∧ Below w.heap.size w wr) (fun i _ => a.size - (intOf i).toNat)
  case atStart => exact ⟨0, Nat.zero_le _, Nat.zero_le _, rfl, Lib.hid rfl, Below.refl _ _⟩
  case round =>
    obtain ⟨k, hk1, hk2, rfl, HT, hbr⟩ := hrel
    by_cases h1 : k < a.size
    · by_cases h2 : k < b.size
      · obtain ⟨x, hx⟩ : ∃ x, a[k] = x := ⟨_, rfl⟩
        obtain ⟨y, hy⟩ : ∃ y, b[k] = y := ⟨_, rfl⟩
        have l1 : k < (B a).length := by rw [len_B]; exact h1
        have l2 : k < (B b).length := by rw [len_B]; exact h2
        by_cases hxy : x = y
        · have HN : Hid ((B a).take (k + 1) = (B b).take (k + 1)) := take_step HT.out l1 l2 (by rw [B_at a k h1 l1, B_at b k h2 l2, hx, hy, hxy])
          have hne : ((x.toNat : Int) != (y.toNat : Int)) = false := by rw [hxy]; simp
          clear l1 l2 hxy
          go_wp2
          go_quiet (fail)
          have hb2 : Below w.heap.size w (wr.drewN nq) := bl_drewN hbr nq
          generalize wr.drewN nq = wq at *
          go_wp2
          go_roundw
          case rel => exact ⟨k + 1, by omega, by omega, by go_num, HN, hb2⟩
          case measure => simp [intOf]; omega
        · have hr : ltS a b = decide (x < y) := by
            rw [HL.out, less_at k l1 l2 HT.out (by rw [B_at a k h1 l1, B_at b k h2 l2, hx, hy]; exact hxy), B_at a k h1 l1, B_at b k h2 l2, hx, hy]
          have HR := Lib.hid hr
          have hne : ((x.toNat : Int) != (y.toNat : Int)) = true := by
            rw [bne_iff_ne]; intro h; exact hxy (UInt8.toNat_inj.1 (by omega))
          clear l1 l2 hxy hr
          go_wp2
          go_quiet (fail)
          have hb2 : Below w.heap.size w (wr.drewN nq) := bl_drewN hbr nq
          generalize wr.drewN nq = wq at *
          clear nq
          go_wp2
          go_quiet (fail)
          have hb3 : Below w.heap.size w (wq.drewN nq) := bl_drewN hb2 nq
          generalize wq.drewN nq = wz at *
          go_wp2
          go_ret
          exact ⟨by rw [HR.out]; simp [UInt8.lt_iff_toNat_lt], hb3⟩
      · obtain rfl : k = b.size := by omega
        have hr : ltS a b = decide ((B a).length < (B b).length) := by rw [HL.out]; exact less_end b.size HT.out (.inr ⟨(len_B b).symm, by rw [len_B]; exact hk1⟩)
        rw [len_B, len_B] at hr
        have HR := Lib.hid hr
        clear hr
        go_wp2
        go_ret
        exact ⟨by rw [HR.out]; simp, hbr⟩
    · obtain rfl : k = a.size := by omega
      have hr : ltS a b = decide ((B a).length < (B b).length) := by rw [HL.out]; exact less_end a.size HT.out (.inl ⟨(len_B a).symm, by rw [len_B]; exact hk2⟩)
      rw [len_B, len_B] at hr
      have HR := Lib.hid hr
      clear hr
      go_wp2
      go_ret
      exact ⟨by rw [HR.out]; simp, hbr⟩
end Go.Proofs.Ytnmgfmmjdiephaa
