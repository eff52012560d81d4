/- pattern's sets of bytes: add, turn, has: contracts. -/
import Derived.Test.YtcfococinllcmaaGreatPatE
import Derived.Defers
namespace Go.Proofs.YtcfococinllcmaaGreat
open Go.RowKit

theorem and63 : ∀ c : Nat, c < 256 → bits BinOp.and IntKind.i64 (c : Int) 63 = ((c % 64 : Nat) : Int) := by decide +kernel
theorem bits_or64 (x m : Nat) (hx : x < 18446744073709551616) (hm : m < 64) : bits BinOp.or IntKind.u64 (x : Int) (IntKind.u64.wrap (2 ^ m)) = ((x ||| 2 ^ m : Nat) : Int) := by
  have h2 : 2 ^ m < 2 ^ 64 := Nat.pow_lt_pow_right (by decide) hm
  have hw : IntKind.u64.wrap (2 ^ m) = ((2 ^ m : Nat) : Int) := by
    have : ((2 : Int) ^ m) = ((2 ^ m : Nat) : Int) := by simp
    rw [IntKind.wrap_u64, this]
    generalize 2 ^ m = p at *
    omega
  rw [hw]
  show IntKind.u64.wrap ((BitVec.ofInt 64 (x : Int) ||| BitVec.ofInt 64 ((2 ^ m : Nat) : Int)).toNat : Int) = _
  rw [BitVec.ofInt_natCast, BitVec.ofInt_natCast, IntKind.wrap_u64]
  have h3 := (BitVec.ofNat 64 x ||| BitVec.ofNat 64 (2 ^ m)).isLt
  have h4 : (BitVec.ofNat 64 x ||| BitVec.ofNat 64 (2 ^ m)).toNat = x ||| 2 ^ m := by
    rw [BitVec.toNat_or, BitVec.toNat_ofNat, BitVec.toNat_ofNat, Nat.mod_eq_of_lt hx, Nat.mod_eq_of_lt h2]
  rw [h4] at h3 ⊢
  omega
theorem words_add {f : Nat → Bool} {ws : List Nat} {c : Nat} (h : WordsOf f ws) (hc : c < 256) (x : Nat) (hx : ws.getD (c / 64) 0 = x) : WordsOf (fun j => f j || decide (j = c)) (ws.set (c / 64) (x ||| 2 ^ (c % 64))) := by
  obtain ⟨h1, h2, h3⟩ := h
  have hl : c / 64 < ws.length := by omega
  have hx' : ws[c / 64] = x := by rw [← hx, List.getD_eq_getElem?_getD, List.getElem?_eq_getElem hl]; rfl
  refine ⟨by rw [List.length_set]; exact h1, ?_, ?_⟩
  · intro y hy
    rcases List.mem_or_eq_of_mem_set hy with h | rfl
    · exact h2 y h
    · have hxl := h2 x (hx' ▸ List.getElem_mem hl)
      have h2' : 2 ^ (c % 64) < 2 ^ 64 := Nat.pow_lt_pow_right (by decide) (Nat.mod_lt _ (by decide))
      exact Nat.or_lt_two_pow (n := 64) hxl h2'
  · intro j hj
    have h3j := h3 j hj
    dsimp only
    rw [← h3j, List.getD_eq_getElem?_getD, List.getElem?_set, List.getD_eq_getElem?_getD]
    by_cases he : c / 64 = j / 64
    · rw [if_pos he, if_pos hl, Option.getD_some, ← he, List.getElem?_eq_getElem hl, Option.getD_some, hx', Nat.testBit_or, Nat.testBit_two_pow]
      congr 1
      rw [Bool.eq_iff_iff, decide_eq_true_eq, decide_eq_true_eq]
      omega
    · rw [if_neg he, decide_eq_false (fun e => he (by rw [e])), Bool.or_false]
theorem SetAt.congr {w : World} {k : Nat} {f f' : Nat → Bool} (h : SetAt w k f) (hf : ∀ c, c < 256 → f c = f' c) : SetAt w k f' := by
  obtain ⟨ws, ⟨h1, h2, h3⟩, h4⟩ := h
  exact ⟨ws, ⟨h1, h2, fun c hc => (h3 c hc).trans (hf c hc)⟩, h4⟩
set_option maxHeartbeats 3200000 in
set_option maxRecDepth 100000 in
theorem add_is (w : World) (k : Nat) (f : Nat → Bool) (lo hi : Nat) (h : SetAt w k f) (hlo : lo < 256) (hhi : hi < 256) :
    Calls Tryz.prog 178 #[.pointer (some ⟨k, 0, none⟩), .int .u8 lo, .int .u8 hi] w fun e w' => e = .returned (.tuple #[]) ∧ SetAt w' k (addS f lo hi) ∧ Keep (fun j => j = k) w w' := by
  have HS := Lib.hid h
  clear h
  go_enter Tryz.func178, Tryz.ntmps178
  go_wp2
  go_loopw [6] (fun i wr => ∃ c : Nat, lo ≤ c ∧ c ≤ max lo (hi + 1) ∧ i = .int .i64 c ∧ Hid (SetAt wr k (fun x => f x || (decide (lo ≤ x) && decide (x < c)))) ∧ Keep (fun j => j = k) w wr) (fun i _ => 256 - (intOf i).toNat)
  case atStart =>
    exact ⟨lo, Nat.le_refl _, by omega, rfl, Lib.hid (HS.out.congr (fun c _ => by by_cases hc : lo ≤ c <;> simp [hc]; exact fun h => absurd h (by omega))), Keep.refl _ _⟩
  case round =>
    obtain ⟨c, hc1, hc2, rfl, HC, hk⟩ := hrel
    by_cases hch : c ≤ hi
    · obtain ⟨ws, ⟨hw1, hw2, hw3⟩, hb⟩ := HC.out
      go_wp2
      have hwl : c / 64 < ws.length := by omega
      obtain ⟨x, hx⟩ : ∃ x, ws[c / 64] = x := ⟨_, rfl⟩
      have hcell : wr.cell? ⟨k, c / 64, none⟩ = some (.int .u64 x) := by
        rw [cell_of_row _ _ _ _ _ _ hb, List.getElem?_toArray, List.getElem?_map, List.getElem?_eq_getElem hwl, hx]; rfl
      have hfz := frozen_of_row wr k (c / 64) _ _ hb
      have hi0 : (0 : Int) ≤ (c : Int) / 64 := by omega
      have hi4 : (c : Int) / 64 < 4 := by omega
      have hnat : ((c : Int) / 64).toNat = c / 64 := by omega
      have hand := and63 c (by omega)
      obtain ⟨m, hm⟩ : ∃ m, c % 64 = m := ⟨_, rfl⟩
      rw [hm] at hand
      have hm64 : m < 64 := by omega
      have HM := Lib.hid hm
      clear hm
      have hxl : x < 18446744073709551616 := hw2 x (hx ▸ List.getElem_mem hwl)
      have hor := bits_or64 x m hxl hm64
      obtain ⟨y, hy⟩ : ∃ y, x ||| 2 ^ m = y := ⟨_, rfl⟩
      rw [hy] at hor
      have HN : Hid (SetAt (wr.drew.setCell ⟨k, c / 64, none⟩ (.int .u64 y)) k (fun x => f x || (decide (lo ≤ x) && decide (x < c + 1)))) := Lib.hid (by
        have hw := words_add ⟨hw1, hw2, hw3⟩ (c := c) (by omega) x (by rw [List.getD_eq_getElem?_getD, List.getElem?_eq_getElem hwl, hx]; rfl)
        rw [HM.out, hy] at hw
        refine SetAt.congr ⟨_, hw, ?_⟩ ?_
        · rw [heap_setCell_same wr.drew k (c / 64) _ _ _ hb, List.setIfInBounds_toArray, List.map_set]
        · intro j _
          rw [Bool.eq_iff_iff]
          simp only [Bool.or_eq_true, Bool.and_eq_true, decide_eq_true_eq]
          by_cases hf : f j = true
          · simp [hf]
          · simp [hf]; omega)
      have hkk := (hk.drew).setCell (p := ⟨k, c / 64, none⟩) rfl (.int .u64 y)
      clear hy hxl hb hw2 hw3 hx
      go_still_tail 12, (by kernel_rfl)
      change wpList _ _ _ _ _ wr.drew
      have hcd : wr.drew.cell? ⟨k, c / 64, none⟩ = some (.int .u64 x) := hcell
      have hfd : wr.drew.frozen? ⟨k, c / 64, none⟩ = false := hfz
      clear hcell hfz HC hk
      generalize wr.drew = wd at *
      go_wp2
      go_roundw
      case rel => exact ⟨c + 1, by omega, by omega, by go_num, HN, hkk⟩
      case measure => simp [intOf]; omega
    · go_wp2
      go_end0
      refine ⟨rfl, HC.out.congr (fun x _ => ?_), hk⟩
      unfold addS
      congr 1
      rw [Bool.eq_iff_iff]
      simp only [Bool.and_eq_true, decide_eq_true_eq]
      omega
theorem bits_xor64 (x : Nat) (hx : x < 18446744073709551616) : bits BinOp.xor IntKind.u64 (if IntKind.u64.signed = true then -1 else IntKind.u64.max) (x : Int) = ((18446744073709551615 - x : Nat) : Int) := by
  have e : (if IntKind.u64.signed = true then -1 else IntKind.u64.max : Int) = ((18446744073709551615 : Nat) : Int) := by decide
  rw [e]
  show IntKind.u64.wrap ((BitVec.ofInt 64 ((18446744073709551615 : Nat) : Int) ^^^ BitVec.ofInt 64 (x : Int)).toNat : Int) = _
  rw [BitVec.ofInt_natCast, BitVec.ofInt_natCast, IntKind.wrap_u64]
  have h4 : (BitVec.ofNat 64 18446744073709551615 ^^^ BitVec.ofNat 64 x).toNat = 18446744073709551615 - x := by
    have h1 : BitVec.ofNat 64 18446744073709551615 = BitVec.allOnes 64 := by decide
    rw [h1, BitVec.allOnes_xor, BitVec.toNat_not, BitVec.toNat_ofNat, Nat.mod_eq_of_lt hx]
  rw [h4]
  omega
theorem bits_has (x m : Nat) (hx : x < 18446744073709551616) : (bits BinOp.and IntKind.u64 ((x : Int) / 2 ^ m) 1 == 1) = x.testBit m := by
  have e : ((x : Int) / 2 ^ m) = ((x / 2 ^ m : Nat) : Int) := by simp
  have hl : x / 2 ^ m < 18446744073709551616 := Nat.lt_of_le_of_lt (Nat.div_le_self _ _) hx
  rw [e, Nat.testBit_eq_decide_div_mod_eq]
  generalize x / 2 ^ m = y at *
  have h : bits BinOp.and IntKind.u64 (y : Int) 1 = ((y % 2 : Nat) : Int) := by
    show IntKind.u64.wrap ((BitVec.ofInt 64 (y : Int) &&& BitVec.ofInt 64 ((1 : Nat) : Int)).toNat : Int) = _
    rw [BitVec.ofInt_natCast, BitVec.ofInt_natCast, IntKind.wrap_u64]
    have h4 : (BitVec.ofNat 64 y &&& BitVec.ofNat 64 1).toNat = y % 2 := by
      rw [BitVec.toNat_and, BitVec.toNat_ofNat, BitVec.toNat_ofNat, Nat.mod_eq_of_lt hl]
      exact Nat.and_one_is_mod y
    rw [h4]; omega
  rw [h, Bool.eq_iff_iff, beq_iff_eq, decide_eq_true_eq]
  omega
theorem xor64 (x : Nat) (hx : x < 18446744073709551616) : ∀ j, j < 64 → (18446744073709551615 - x).testBit j = !x.testBit j := by
  intro j hj
  have h := Nat.testBit_two_pow_sub_succ (n := 64) (x := x) hx j
  rw [show 18446744073709551615 - x = 2 ^ 64 - (x + 1) by omega, h]
  simp [hj]
set_option maxHeartbeats 3200000 in
set_option maxRecDepth 100000 in
theorem turn_is (w : World) (k : Nat) (f : Nat → Bool) (h : SetAt w k f) :
    Calls Tryz.prog 177 #[.pointer (some ⟨k, 0, none⟩)] w fun e w' => e = .returned (.tuple #[]) ∧ SetAt w' k (turnS f) ∧ Keep (fun j => j = k) w w' := by
  have HS := Lib.hid h
  clear h
  go_enter Tryz.func177, Tryz.ntmps177
  go_wp2
  go_loopw [3] (fun i wr => ∃ c : Nat, c ≤ 4 ∧ i = .int .i64 c ∧ Hid (SetAt wr k (fun x => if x < 64 * c then !f x else f x)) ∧ Keep (fun j => j = k) w wr) (fun i _ => 4 - (intOf i).toNat)
  case atStart =>
    exact ⟨0, Nat.zero_le _, rfl, Lib.hid (HS.out.congr (fun c _ => by simp)), Keep.refl _ _⟩
  case round =>
    obtain ⟨c, hc, rfl, HC, hk⟩ := hrel
    by_cases hch : c < 4
    · obtain ⟨ws, ⟨hw1, hw2, hw3⟩, hb⟩ := HC.out
      have hwl : c < ws.length := by omega
      obtain ⟨x, hx⟩ : ∃ x, ws[c] = x := ⟨_, rfl⟩
      have hcell : wr.cell? ⟨k, c, none⟩ = some (.int .u64 x) := by
        rw [cell_of_row _ _ _ _ _ _ hb, List.getElem?_toArray, List.getElem?_map, List.getElem?_eq_getElem hwl, hx]; rfl
      have hfz := frozen_of_row wr k c _ _ hb
      have hi4 : (c : Int) < 4 := by omega
      have hi0 : (0 : Int) ≤ (c : Int) := by omega
      have hxl : x < 18446744073709551616 := hw2 x (hx ▸ List.getElem_mem hwl)
      have HN : Hid (SetAt (wr.drew.setCell ⟨k, c, none⟩ (.int .u64 ((18446744073709551615 - x : Nat) : Int))) k (fun x => if x < 64 * (c + 1) then !f x else f x)) := Lib.hid (by
        refine ⟨ws.set c (18446744073709551615 - x), ⟨by rw [List.length_set]; exact hw1, ?_, ?_⟩, ?_⟩
        · intro y hy
          rcases List.mem_or_eq_of_mem_set hy with h | rfl
          · exact hw2 y h
          · omega
        · intro j hj
          have h3 := hw3 j hj
          dsimp only at h3 ⊢
          rw [List.getD_eq_getElem?_getD, List.getElem?_set]
          rw [List.getD_eq_getElem?_getD] at h3
          by_cases he : c = j / 64
          · rw [if_pos he, if_pos hwl, Option.getD_some, xor64 x hxl _ (Nat.mod_lt _ (by decide))]
            rw [← he, List.getElem?_eq_getElem hwl, Option.getD_some, hx, if_neg (by omega)] at h3
            rw [h3, if_pos (by omega)]
          · rw [if_neg he, h3]
            by_cases h1 : j < 64 * c
            · rw [if_pos h1, if_pos (by omega)]
            · rw [if_neg h1, if_neg (by omega)]
        · rw [heap_setCell_same wr.drew k c _ _ _ hb, List.setIfInBounds_toArray, List.map_set])
      have hkk := (hk.drew).setCell (p := ⟨k, c, none⟩) rfl (.int .u64 ((18446744073709551615 - x : Nat) : Int))
      have hxor := bits_xor64 x hxl
      generalize 18446744073709551615 - x = y at *
      clear hxl hb hw2 hw3 hx
      go_wp2
      go_still_tail 10, (by kernel_rfl)
      change wpList _ _ _ _ _ wr.drew
      have hcd : wr.drew.cell? ⟨k, c, none⟩ = some (.int .u64 x) := hcell
      have hfd : wr.drew.frozen? ⟨k, c, none⟩ = false := hfz
      clear hcell hfz HC hk
      generalize wr.drew = wd at *
      go_wp2
      go_roundw
      case rel => exact ⟨c + 1, by omega, by go_num, HN, hkk⟩
      case measure => simp [intOf]; omega
    · go_wp2
      go_end0
      refine ⟨rfl, HC.out.congr (fun x hx => ?_), hk⟩
      rw [if_pos (by omega)]; rfl
set_option maxHeartbeats 3200000 in
set_option maxRecDepth 100000 in
theorem turn_d (u : FrameMode) (w : World) (k : Nat) (f : Nat → Bool) (h : SetAt w k f) :
    CallsD Tryz.prog 177 #[.pointer (some ⟨k, 0, none⟩)] u w fun e u' w' => u' = u ∧ e = .returned (.tuple #[]) ∧ SetAt w' k (turnS f) ∧ Keep (fun j => j = k) w w' := by
  have HS := Lib.hid h
  clear h
  go_enter_d Tryz.func177, Tryz.ntmps177
  go_wp2
  go_loopw [3] (fun i wr => ∃ c : Nat, c ≤ 4 ∧ i = .int .i64 c ∧ Hid (SetAt wr k (fun x => if x < 64 * c then !f x else f x)) ∧ Keep (fun j => j = k) w wr) (fun i _ => 4 - (intOf i).toNat)
  case atStart =>
    exact ⟨0, Nat.zero_le _, rfl, Lib.hid (HS.out.congr (fun c _ => by simp)), Keep.refl _ _⟩
  case round =>
    obtain ⟨c, hc, rfl, HC, hk⟩ := hrel
    by_cases hch : c < 4
    · obtain ⟨ws, ⟨hw1, hw2, hw3⟩, hb⟩ := HC.out
      have hwl : c < ws.length := by omega
      obtain ⟨x, hx⟩ : ∃ x, ws[c] = x := ⟨_, rfl⟩
      have hcell : wr.cell? ⟨k, c, none⟩ = some (.int .u64 x) := by
        rw [cell_of_row _ _ _ _ _ _ hb, List.getElem?_toArray, List.getElem?_map, List.getElem?_eq_getElem hwl, hx]; rfl
      have hfz := frozen_of_row wr k c _ _ hb
      have hi4 : (c : Int) < 4 := by omega
      have hi0 : (0 : Int) ≤ (c : Int) := by omega
      have hxl : x < 18446744073709551616 := hw2 x (hx ▸ List.getElem_mem hwl)
      have HN : Hid (SetAt (wr.drew.setCell ⟨k, c, none⟩ (.int .u64 ((18446744073709551615 - x : Nat) : Int))) k (fun x => if x < 64 * (c + 1) then !f x else f x)) := Lib.hid (by
        refine ⟨ws.set c (18446744073709551615 - x), ⟨by rw [List.length_set]; exact hw1, ?_, ?_⟩, ?_⟩
        · intro y hy
          rcases List.mem_or_eq_of_mem_set hy with h | rfl
          · exact hw2 y h
          · omega
        · intro j hj
          have h3 := hw3 j hj
          dsimp only at h3 ⊢
          rw [List.getD_eq_getElem?_getD, List.getElem?_set]
          rw [List.getD_eq_getElem?_getD] at h3
          by_cases he : c = j / 64
          · rw [if_pos he, if_pos hwl, Option.getD_some, xor64 x hxl _ (Nat.mod_lt _ (by decide))]
            rw [← he, List.getElem?_eq_getElem hwl, Option.getD_some, hx, if_neg (by omega)] at h3
            rw [h3, if_pos (by omega)]
          · rw [if_neg he, h3]
            by_cases h1 : j < 64 * c
            · rw [if_pos h1, if_pos (by omega)]
            · rw [if_neg h1, if_neg (by omega)]
        · rw [heap_setCell_same wr.drew k c _ _ _ hb, List.setIfInBounds_toArray, List.map_set])
      have hkk := (hk.drew).setCell (p := ⟨k, c, none⟩) rfl (.int .u64 ((18446744073709551615 - x : Nat) : Int))
      have hxor := bits_xor64 x hxl
      generalize 18446744073709551615 - x = y at *
      clear hxl hb hw2 hw3 hx
      go_wp2
      go_still_tail 10, (by kernel_rfl)
      change wpList _ _ _ _ _ wr.drew
      have hcd : wr.drew.cell? ⟨k, c, none⟩ = some (.int .u64 x) := hcell
      have hfd : wr.drew.frozen? ⟨k, c, none⟩ = false := hfz
      clear hcell hfz HC hk
      generalize wr.drew = wd at *
      go_wp2
      go_roundw
      case rel => exact ⟨c + 1, by omega, by go_num, HN, hkk⟩
      case measure => simp [intOf]; omega
    · go_wp2
      go_end0
      refine ⟨rfl, HC.out.congr (fun x hx => ?_), hk⟩
      rw [if_pos (by omega)]; rfl
set_option maxHeartbeats 1600000 in
set_option maxRecDepth 100000 in
theorem has_is (w : World) (k : Nat) (f : Nat → Bool) (c : Nat) (h : SetAt w k f) (hc : c < 256) :
    Calls Tryz.prog 172 #[.pointer (some ⟨k, 0, none⟩), .int .u8 c] w fun e w' => e = .returned (.bool (f c)) ∧ w' = w := by
  obtain ⟨ws, ⟨hw1, hw2, hw3⟩, hb⟩ := h
  have hwl : c / 64 < ws.length := by omega
  obtain ⟨x, hx⟩ : ∃ x, ws[c / 64] = x := ⟨_, rfl⟩
  have hcell : w.cell? ⟨k, c / 64, none⟩ = some (.int .u64 x) := by
    rw [cell_of_row _ _ _ _ _ _ hb, List.getElem?_toArray, List.getElem?_map, List.getElem?_eq_getElem hwl, hx]; rfl
  have hi0 : (0 : Int) ≤ (c : Int) / 64 := by omega
  have hi4 : (c : Int) / 64 < 4 := by omega
  have hnat : ((c : Int) / 64).toNat = c / 64 := by omega
  have h3 := hw3 c hc
  rw [List.getD_eq_getElem?_getD, List.getElem?_eq_getElem hwl, Option.getD_some, hx] at h3
  have hbh := bits_has x (c % 64) (hw2 x (hx ▸ List.getElem_mem hwl))
  rw [h3] at hbh
  have HBH := Lib.hid hbh
  clear hw3 hb hw2 hx hw1 hwl h3 hbh
  go_enter Tryz.func172, Tryz.ntmps172
  go_wp2
  go_ret
  exact ⟨by rw [← HBH.out]; rfl, rfl⟩
end Go.Proofs.YtcfococinllcmaaGreat
