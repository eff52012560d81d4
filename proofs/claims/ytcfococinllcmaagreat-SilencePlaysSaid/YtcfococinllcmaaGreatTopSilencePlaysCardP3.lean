/- SilencePlays: the card: whatever the arguments, the law returns true and its arguments read as they did. No condition. -/
import Derived.Test.YtcfococinllcmaaGreatTopSilencePlaysCardP2
import Derived.Test.YtcfococinllcmaaGreatShelf
import Derived.Shelf.SlicesQ.IndexFunc
import Derived.Maps.Ext
import Derived.Maps.OwnOps
import Derived.Maps.RangeWalk
import Derived.Lib.SlMapFilter
import Derived.Lib.SlKeysI
import Derived.WalkKit
import Derived.Laws.IdiomRangeMap
import Derived.Deep.LoopGhost
import Derived.Maps.OwnSet
import Derived.Test.YtcfococinllcmaaGreatShB
import Derived.Shelf.SlIterI.Nil
import Derived.Shelf.AbstractIn
import Derived.Lib.Walk

/- Several parts in one: lychgateref06.Name: a contract, the same as match.Name's. lychgateref06.Ahead, Right: contracts, the same as match's. lychgateref06.Right: a contract, the same as match.Right's. -/
namespace Go.Proofs.YtcfococinllcmaaGreat.refName
open Go.RowKit
def clB (l : List UInt8) : Bool := !(l.head?.any fun c => digN c.toNat) && !(l.any fun c => oddN c.toNat)
theorem nameL_clB (l : List UInt8) : nameL l = (decide (1 ≤ l.length) && decide (l.length ≤ 12) && clB l) := by
  cases l with
  | nil => rfl
  | cons c l => simp [nameL, clB, Bool.and_assoc]
theorem clB_one (c : UInt8) : clB [c] = (!digN c.toNat && !oddN c.toNat) := by simp [clB]
theorem clB_snoc {l : List UInt8} (h : l ≠ []) (c : UInt8) : clB (l ++ [c]) = (clB l && !oddN c.toNat) := by
  obtain ⟨d, r, rfl⟩ := List.exists_cons_of_ne_nil h
  simp [clB, Bool.and_assoc]
theorem clB_bad {l : List UInt8} (k : Nat) (h : clB (l.take k) = false) : clB l = false := by
  cases l with
  | nil => simpa using h
  | cons c l =>
    cases k with
    | zero => cases h
    | succ k =>
      rw [List.take_succ_cons] at h
      simp only [clB, List.head?_cons, Bool.and_eq_false_iff, Bool.not_eq_false'] at *
      rcases h with h | h
      · exact .inl h
      · right
        rw [List.any_eq_true] at *
        obtain ⟨x, hx, hp⟩ := h
        refine ⟨x, ?_, hp⟩
        rcases List.mem_cons.1 hx with rfl | hx
        · exact List.mem_cons_self ..
        · exact List.mem_cons_of_mem _ (List.mem_of_mem_take hx)
set_option maxHeartbeats 1600000 in
theorem name_any (s : ByteArray) (w : World) (hs : s.size ≤ maxLen) :
    Calls Tryz.prog 55 #[.string s] w fun e w' => e = .returned (.bool (nameL (B s))) ∧ w = w' := by
  unfold maxLen at hs
  have HNL : Hid (nameL (B s) = (decide (1 ≤ s.size) && decide (s.size ≤ 12) && clB (B s))) := by show _ = _; rw [nameL_clB, len_B]
  go_enter Tryz.func55, Tryz.ntmps55
  go_wp2
  go_loop [3] (fun x => ∃ k : Nat, k ≤ s.size ∧ x = .int .i64 k ∧ Hid (clB ((B s).take k) = true)) (fun x => s.size - (intOf x).toNat)
  case atStart => exact ⟨0, Nat.zero_le _, rfl, rfl⟩
  case round =>
    obtain ⟨k, hk, rfl, HC⟩ := hrel
    by_cases hlt : k < s.size
    · have HT1 : Hid ((B s).take (k + 1) = (B s).take k ++ [s[k]]) := take_succ_B s k hlt
      have hstep : clB ((B s).take (k + 1)) = (!(oddN s[k].toNat) && !(decide (k = 0) && digN s[k].toNat)) := by
        rw [HT1.out]
        by_cases h0 : k = 0
        · subst h0
          rw [List.take_zero, List.nil_append, clB_one]
          simp [Bool.and_comm]
        · rw [clB_snoc (by
            intro e
            have := congrArg List.length e
            rw [List.length_take, len_B, List.length_nil] at this
            omega), HC.out]
          simp [h0]
      have HST := Lib.hid hstep
      clear hstep
      rcases (show (s[k].toNat : Int) < 48 ∨ ((48 : Int) ≤ (s[k].toNat : Int) ∧ (s[k].toNat : Int) ≤ 57) ∨ (57 < (s[k].toNat : Int) ∧ (s[k].toNat : Int) < 95) ∨ (s[k].toNat : Int) = 95 ∨ (s[k].toNat : Int) = 96 ∨ ((97 : Int) ≤ (s[k].toNat : Int) ∧ (s[k].toNat : Int) ≤ 122) ∨ 122 < (s[k].toNat : Int) by omega) with h | ⟨h, h'⟩ | ⟨h, h'⟩ | h | h | ⟨h, h'⟩ | h
      · have ho : oddN s[k].toNat = true := by simp [oddN]; omega
        have hd : digN s[k].toNat = false := by simp [digN]; omega
        have HO := Lib.hid ho
        have HD := Lib.hid hd
        clear ho hd
        have HR : Hid (nameL (B s) = false) := by
          show _ = _
          rw [HNL.out, clB_bad (k + 1) (by rw [HST.out, HO.out]; simp), Bool.and_false]
        clear HNL
        have e1 : ((s[k].toNat : Int) != 95) = true := by rw [bne_iff_ne]; omega
        go_wp2
        go_ret
        exact ⟨by rw [HR.out]; rfl, rfl⟩
      · have ho : oddN s[k].toNat = false := by simp [oddN]; omega
        have hd : digN s[k].toNat = true := by simp [digN]; omega
        have HO := Lib.hid ho
        have HD := Lib.hid hd
        clear ho hd
        by_cases h0 : k = 0
        · subst h0
          have HR : Hid (nameL (B s) = false) := by
            show _ = _
            rw [HNL.out, clB_bad (0 + 1) (by rw [HST.out, HO.out, HD.out]; simp), Bool.and_false]
          clear HNL
          have e1 : ((s[0].toNat : Int) != 95) = true := by rw [bne_iff_ne]; omega
          go_wp2
          go_ret
          exact ⟨by rw [HR.out]; rfl, rfl⟩
        · have hk0 : 0 < k := by omega
          have HN : Hid (clB ((B s).take (k + 1)) = true) := by show _ = _; rw [HST.out, HO.out]; simp [h0]
          have e1 : ((s[k].toNat : Int) != 95) = true := by rw [bne_iff_ne]; omega
          clear h0
          go_wp2
          go_round
          case rel => exact ⟨k + 1, by omega, by go_num, HN⟩
          case measure => simp [intOf]; omega
      · have ho : oddN s[k].toNat = true := by simp [oddN]; omega
        have hd : digN s[k].toNat = false := by simp [digN]; omega
        have HO := Lib.hid ho
        have HD := Lib.hid hd
        clear ho hd
        have HR : Hid (nameL (B s) = false) := by
          show _ = _
          rw [HNL.out, clB_bad (k + 1) (by rw [HST.out, HO.out]; simp), Bool.and_false]
        clear HNL
        have e1 : ((s[k].toNat : Int) != 95) = true := by rw [bne_iff_ne]; omega
        go_wp2
        go_ret
        exact ⟨by rw [HR.out]; rfl, rfl⟩
      · have ho : oddN s[k].toNat = false := by simp [oddN]; omega
        have hd : digN s[k].toNat = false := by simp [digN]; omega
        have HO := Lib.hid ho
        have HD := Lib.hid hd
        clear ho hd
        have HN : Hid (clB ((B s).take (k + 1)) = true) := by show _ = _; rw [HST.out, HO.out, HD.out]; simp
        have e1 : ((s[k].toNat : Int) != 95) = false := by rw [bne_eq_false_iff_eq]; omega
        have e2 : (s[k].toNat : Int) < 97 := by omega
        clear h
        go_wp2
        go_round
        case rel => exact ⟨k + 1, by omega, by go_num, HN⟩
        case measure => simp [intOf]; omega
      · have ho : oddN s[k].toNat = true := by simp [oddN]; omega
        have hd : digN s[k].toNat = false := by simp [digN]; omega
        have HO := Lib.hid ho
        have HD := Lib.hid hd
        clear ho hd
        have HR : Hid (nameL (B s) = false) := by
          show _ = _
          rw [HNL.out, clB_bad (k + 1) (by rw [HST.out, HO.out]; simp), Bool.and_false]
        clear HNL
        have e1 : ((s[k].toNat : Int) != 95) = true := by rw [bne_iff_ne]; omega
        have e2 : (s[k].toNat : Int) < 97 := by omega
        have e3 : 57 < (s[k].toNat : Int) := by omega
        clear h
        go_wp2
        go_ret
        exact ⟨by rw [HR.out]; rfl, rfl⟩
      · have ho : oddN s[k].toNat = false := by simp [oddN]; omega
        have hd : digN s[k].toNat = false := by simp [digN]; omega
        have HO := Lib.hid ho
        have HD := Lib.hid hd
        clear ho hd
        have HN : Hid (clB ((B s).take (k + 1)) = true) := by show _ = _; rw [HST.out, HO.out, HD.out]; simp
        go_wp2
        go_round
        case rel => exact ⟨k + 1, by omega, by go_num, HN⟩
        case measure => simp [intOf]; omega
      · have ho : oddN s[k].toNat = true := by simp [oddN]; omega
        have hd : digN s[k].toNat = false := by simp [digN]; omega
        have HO := Lib.hid ho
        have HD := Lib.hid hd
        clear ho hd
        have HR : Hid (nameL (B s) = false) := by
          show _ = _
          rw [HNL.out, clB_bad (k + 1) (by rw [HST.out, HO.out]; simp), Bool.and_false]
        clear HNL
        have e1 : ((s[k].toNat : Int) != 95) = true := by rw [bne_iff_ne]; omega
        have e4 : decide ((s[k].toNat : Int) ≤ 122) = false := by rw [decide_eq_false_iff_not]; omega
        go_wp2
        go_ret
        exact ⟨by rw [HR.out]; rfl, rfl⟩
    · obtain rfl : k = s.size := by omega
      have HC' : Hid (clB (B s) = true) := by
        have := HC.out
        rw [take_all_B] at this
        exact this
      clear HC
      by_cases h1 : 1 ≤ (s.size : Int)
      · by_cases h2 : (s.size : Int) ≤ 12
        · have HR : Hid (nameL (B s) = true) := by
            show _ = _
            rw [HNL.out, HC'.out, decide_eq_true (by omega), decide_eq_true (by omega)]; rfl
          clear HNL
          go_wp2
          go_ret
          exact ⟨by rw [HR.out]; rfl, rfl⟩
        · have HR : Hid (nameL (B s) = false) := by
            show _ = _
            rw [HNL.out, decide_eq_false (p := s.size ≤ 12) (by omega)]; simp
          clear HNL
          go_wp2
          go_ret
          exact ⟨by rw [HR.out]; rfl, rfl⟩
      · have HR : Hid (nameL (B s) = false) := by
          show _ = _
          rw [HNL.out, decide_eq_false (p := 1 ≤ s.size) (by omega)]; simp
        clear HNL
        go_wp2
        go_ret
        exact ⟨by rw [HR.out]; rfl, rfl⟩
end Go.Proofs.YtcfococinllcmaaGreat.refName
namespace Go.Proofs.YtcfococinllcmaaGreat
open Go.RowKit
theorem less_at {a b : List UInt8} : ∀ (k : Nat) (ha : k < a.length) (hb : k < b.length), a.take k = b.take k → a[k] ≠ b[k] → Op.bytesLess a b = decide (a[k] < b[k]) := by
  intro k
  induction k generalizing a b with
  | zero =>
    intro ha hb _ hne
    obtain ⟨x, a, rfl⟩ := List.exists_cons_of_length_pos ha
    obtain ⟨y, b, rfl⟩ := List.exists_cons_of_length_pos hb
    simp only [List.getElem_cons_zero] at hne ⊢
    have h1 : (x == y) = false := by rw [beq_eq_false_iff_ne]; exact hne
    simp [Op.bytesLess, h1]
  | succ k ih =>
    intro ha hb ht hne
    obtain ⟨x, a, rfl⟩ := List.exists_cons_of_length_pos (Nat.lt_of_le_of_lt (Nat.zero_le _) ha)
    obtain ⟨y, b, rfl⟩ := List.exists_cons_of_length_pos (Nat.lt_of_le_of_lt (Nat.zero_le _) hb)
    simp only [List.take_succ_cons, List.cons.injEq] at ht
    obtain ⟨rfl, ht⟩ := ht
    simp only [List.getElem_cons_succ] at hne ⊢
    have := ih (by simpa using ha) (by simpa using hb) ht hne
    simp [Op.bytesLess, this]
theorem less_end {a b : List UInt8} : ∀ (k : Nat), a.take k = b.take k → (k = a.length ∧ k ≤ b.length ∨ k = b.length ∧ k ≤ a.length) → Op.bytesLess a b = decide (a.length < b.length) := by
  intro k
  induction k generalizing a b with
  | zero =>
    intro _ h
    rcases h with ⟨h, _⟩ | ⟨h, _⟩
    · have : a = [] := List.length_eq_zero_iff.1 h.symm
      subst this
      cases b <;> simp [Op.bytesLess]
    · have : b = [] := List.length_eq_zero_iff.1 h.symm
      subst this
      cases a <;> simp [Op.bytesLess]
  | succ k ih =>
    intro ht h
    have ha : 0 < a.length := by omega
    have hb : 0 < b.length := by omega
    obtain ⟨x, a, rfl⟩ := List.exists_cons_of_length_pos ha
    obtain ⟨y, b, rfl⟩ := List.exists_cons_of_length_pos hb
    simp only [List.take_succ_cons, List.cons.injEq] at ht
    obtain ⟨rfl, ht⟩ := ht
    simp only [List.length_cons] at h ⊢
    have := ih ht (by omega)
    simp [Op.bytesLess, this]
theorem B_at (s : ByteArray) (k : Nat) (h : k < s.size) (h' : k < (B s).length) : (B s)[k] = s[k] := by
  have h1 := take_succ_B s k h
  rw [List.take_succ_eq_append_getElem h'] at h1
  have := List.append_cancel_left h1
  simpa using this
set_option maxHeartbeats 1600000 in
set_option maxRecDepth 100000 in
theorem rahead_any (a b : ByteArray) (w : World) (ha : a.size ≤ maxLen) :
    Calls Tryz.prog 125 #[.string a, .string b] w fun e w' => e = .returned (.bool (ltS a b)) ∧ Below w.heap.size w w' := by
  unfold maxLen at ha
  have HL : Hid (ltS a b = Op.bytesLess (B a) (B b)) := by show _ = _; unfold ltS; rw [toList_B, toList_B]
  go_enter Tryz.func125, Tryz.ntmps125
  go_wp2
  go_loopw [5] (fun i wr => ∃ k : Nat, k ≤ a.size ∧ k ≤ b.size ∧ i = .int .i64 k ∧ Hid ((B a).take k = (B b).take k) ∧ Below w.heap.size w wr) (fun i _ => a.size - (intOf i).toNat)
  case atStart => exact ⟨0, Nat.zero_le _, Nat.zero_le _, rfl, Lib.hid rfl, Below.refl _ _⟩
  case round =>
    obtain ⟨k, hk1, hk2, rfl, HT, hbr⟩ := hrel
    by_cases h1 : k < a.size
    · by_cases h2 : k < b.size
      · obtain ⟨x, hx⟩ : ∃ x, a[k] = x := ⟨_, rfl⟩
        obtain ⟨y, hy⟩ : ∃ y, b[k] = y := ⟨_, rfl⟩
        have l1 : k < (B a).length := by rw [len_B]; exact h1
        have l2 : k < (B b).length := by rw [len_B]; exact h2
        by_cases hxy : x = y
        · have HN : Hid ((B a).take (k + 1) = (B b).take (k + 1)) := take_step HT.out l1 l2 (by rw [B_at a k h1 l1, B_at b k h2 l2, hx, hy, hxy])
          have hne : ((x.toNat : Int) != (y.toNat : Int)) = false := by rw [hxy]; simp
          clear l1 l2 hxy
          go_wp2
          go_quiet (fail)
          have hb2 : Below w.heap.size w (wr.drewN nq) := bl_drewN hbr nq
          generalize wr.drewN nq = wq at *
          go_wp2
          go_roundw
          case rel => exact ⟨k + 1, by omega, by omega, by go_num, HN, hb2⟩
          case measure => simp [intOf]; omega
        · have hr : ltS a b = decide (x < y) := by
            rw [HL.out, less_at k l1 l2 HT.out (by rw [B_at a k h1 l1, B_at b k h2 l2, hx, hy]; exact hxy), B_at a k h1 l1, B_at b k h2 l2, hx, hy]
          have HR := Lib.hid hr
          have hne : ((x.toNat : Int) != (y.toNat : Int)) = true := by
            rw [bne_iff_ne]; intro h; exact hxy (UInt8.toNat_inj.1 (by omega))
          clear l1 l2 hxy hr
          go_wp2
          go_quiet (fail)
          have hb2 : Below w.heap.size w (wr.drewN nq) := bl_drewN hbr nq
          generalize wr.drewN nq = wq at *
          clear nq
          go_wp2
          go_quiet (fail)
          have hb3 : Below w.heap.size w (wq.drewN nq) := bl_drewN hb2 nq
          generalize wq.drewN nq = wz at *
          go_wp2
          go_ret
          exact ⟨by rw [HR.out]; simp [UInt8.lt_iff_toNat_lt], hb3⟩
      · obtain rfl : k = b.size := by omega
        have hr : ltS a b = decide ((B a).length < (B b).length) := by rw [HL.out]; exact less_end b.size HT.out (.inr ⟨(len_B b).symm, by rw [len_B]; exact hk1⟩)
        rw [len_B, len_B] at hr
        have HR := Lib.hid hr
        clear hr
        go_wp2
        go_ret
        exact ⟨by rw [HR.out]; simp, hbr⟩
    · obtain rfl : k = a.size := by omega
      have hr : ltS a b = decide ((B a).length < (B b).length) := by rw [HL.out]; exact less_end a.size HT.out (.inl ⟨(len_B a).symm, by rw [len_B]; exact hk2⟩)
      rw [len_B, len_B] at hr
      have HR := Lib.hid hr
      clear hr
      go_wp2
      go_ret
      exact ⟨by rw [HR.out]; simp, hbr⟩
end Go.Proofs.YtcfococinllcmaaGreat
namespace Go.Proofs.YtcfococinllcmaaGreat
open Go.RowKit
set_option maxHeartbeats 3200000 in
set_option maxRecDepth 100000 in
theorem rright6_any (l : List Fld) (w : World) (v : Value) (hv : FldsAt w v l) (hf : FldsFit l) (hl : l.length ≤ maxLen) :
    Calls Tryz.prog 103 #[v] w fun e w' => e = .returned (.bool (rightF l)) ∧ Below w.heap.size w w' := by
  unfold maxLen at hl
  obtain ⟨a, c, rfl, hc, hr⟩ := RdAt.shape hv
  have HR := Lib.hid hr
  have HF := Lib.hid hf
  clear hr hv hf
  go_enter Tryz.func103, Tryz.ntmps103
  go_wp2
  go_loopw [3] (fun i wr => ∃ k : Nat, k ≤ l.length ∧ i = .int .i64 k ∧ Hid (∀ j, j < k → fldOk l j = true) ∧ Below w.heap.size w wr) (fun i _ => l.length - (intOf i).toNat)
  case atStart => exact ⟨0, Nat.zero_le _, rfl, Lib.hid (fun j hj => absurd hj (Nat.not_lt_zero j)), Below.refl _ _⟩
  case round =>
    obtain ⟨k, hk, rfl, HT, hbr⟩ := hrel
    by_cases hkl : k < l.length
    · obtain ⟨b, o, rfl, hb, hcell⟩ := HR.out (by omega)
      obtain ⟨x, hxe⟩ : ∃ x, l[k].1 = x := ⟨_, rfl⟩
      obtain ⟨y, hye⟩ : ∃ y, l[k].2 = y := ⟨_, rfl⟩
      have hfs := HF.out _ (List.getElem_mem hkl)
      rw [hxe, hye] at hfs
      obtain ⟨hx0, hy0⟩ := fldCells_at l k hkl
      rw [hxe] at hx0
      rw [hye] at hy0
      have a0 : wr.cell? ⟨b, o + k * 2, none⟩ = some (.string x) := keep_cell (hcell _ _ hx0) hbr hb
      have a1 : wr.cell? ⟨b, o + k * 2 + 1, none⟩ = some (.string y) := keep_cell (by have := hcell _ _ hy0; rwa [← Nat.add_assoc] at this) hbr hb
      have hwb : b < wr.heap.size := Nat.lt_of_lt_of_le hb hbr.size
      have hall : ∀ j v, (fldCells l)[j]? = some v → wr.cell? ⟨b, o + j, none⟩ = some v := fun j v hj => keep_cell (hcell _ _ hj) hbr hb
      have hn : ∀ W, Calls Tryz.prog 55 #[.string x] W fun e w' => e = .returned (.bool (nameL (B x))) ∧ w' = W := fun W => (refName.name_any x W hfs.1).mono (by rintro e w' ⟨h1, h2⟩; exact ⟨h1, h2.symm⟩)
      have hys : y.size ≤ 9223372036854775807 := by have := hfs.2; unfold maxLen at this; omega
      have hstep : fldOk l k = true → Hid (∀ j, j < k + 1 → fldOk l j = true) := fun h => Lib.hid (fun j hj => by
        rcases Nat.lt_or_ge j k with h' | h'
        · exact HT.out j h'
        · obtain rfl : j = k := by omega
          exact h)
      have hbad : fldOk l k = false → Hid (rightF l = false) := fun h => rightF_bad hkl h
      have hgx : l.getD k default = (x, y) := by rw [List.getD_eq_getElem?_getD, List.getElem?_eq_getElem hkl]; show l[k] = _; rw [← hxe, ← hye]
      unfold fldOk at hstep hbad
      rw [hgx] at hstep hbad
      clear hcell hx0 hy0 hxe hye hgx HT
      cases hnm : nameL (B x)
      · have HZ := hbad (by rw [hnm]; rfl)
        rw [hnm] at hn
        clear hstep hbad hall hnm hfs
        go_upto_region 4 with fail
        refine wp_region_held_drew (S := (fun W => W.cell? ⟨b, o + k * 2, none⟩ = some (.string x) ∧ W.cell? ⟨b, o + k * 2 + 1, none⟩ = some (.string y))) (by kernel_rfl) ⟨a0, a1⟩ (fun hHeld => ?_)
        refine held_take (i := 0) (v := ?_) rfl rfl (by kernel_rfl) (by kernel_rfl) (by kernel_rfl) (fun _ _ _ h => h) (by rfl) hHeld ?_ ?_
        rotate_left
        · rintro wh ⟨z0, z1⟩
          go_simp
          (try with_reducible rfl)
        simp only [Act.put, List.setIfInBounds_toArray, List.set_cons_zero, List.set_cons_succ]
        refine held_take (i := 1) (v := ?_) rfl rfl (by kernel_rfl) (by kernel_rfl) (by kernel_rfl) (fun _ _ _ h => h) (by rfl) hHeld ?_ ?_
        rotate_left
        · rintro wh ⟨z0, z1⟩
          go_simp
          (try with_reducible rfl)
        simp only [Act.put, List.setIfInBounds_toArray, List.set_cons_zero, List.set_cons_succ]
        refine held_take (i := 2) (v := ?_) rfl rfl (by kernel_rfl) (by kernel_rfl) (by kernel_rfl) (fun _ _ _ h => h) (by rfl) hHeld ?_ ?_
        rotate_left
        · rintro wh ⟨z0, z1⟩
          go_simp
          (try with_reducible rfl)
        simp only [Act.put, List.setIfInBounds_toArray, List.set_cons_zero, List.set_cons_succ]
        refine held_take (i := 3) (v := ?_) rfl rfl (by kernel_rfl) (by kernel_rfl) (by kernel_rfl) (fun _ _ _ h => h) (by rfl) hHeld ?_ ?_
        rotate_left
        · rintro wh ⟨z0, z1⟩
          go_simp
          (try with_reducible rfl)
        simp only [Act.put, List.setIfInBounds_toArray, List.set_cons_zero, List.set_cons_succ]
        refine held_take (i := 4) (v := ?_) rfl rfl (by kernel_rfl) (by kernel_rfl) (by kernel_rfl) (fun _ _ _ h => h) (by rfl) hHeld ?_ ?_
        rotate_left
        · rintro wh ⟨z0, z1⟩
          go_simp
          (try with_reducible rfl)
        simp only [Act.put, List.setIfInBounds_toArray, List.set_cons_zero, List.set_cons_succ]
        refine held_call (i := 5) rfl (by kernel_rfl) (by rfl) (fun K hK => ?_)
        (go_simp; go_at_call 55; refine (hn _).mono ?_; rintro e w1 ⟨rfl, rfl⟩; have hB1 : Below wr.heap.size wr wr.drew := (Below.refl _ _).drew)
        refine hK.out _ _ ⟨keep_cell a0 hB1 hwb, keep_cell a1 hB1 hwb⟩ (fun hHeld => ?_)
        clear hK K
        (try simp only [Act.put, List.setIfInBounds_toArray, List.set_cons_zero, List.set_cons_succ])
        refine held_take (i := 6) (v := ?_) rfl rfl (by kernel_rfl) (by kernel_rfl) (by kernel_rfl) (fun _ _ _ h => h) (by rfl) hHeld ?_ ?_
        rotate_left
        · rintro wh ⟨z0, z1⟩
          go_simp
          (try with_reducible rfl)
        simp only [Act.put, List.setIfInBounds_toArray, List.set_cons_zero, List.set_cons_succ]
        refine held_take (i := 7) (v := ?_) rfl rfl (by kernel_rfl) (by kernel_rfl) (by kernel_rfl) (fun _ _ _ h => h) (by rfl) hHeld ?_ ?_
        rotate_left
        · rintro wh ⟨z0, z1⟩
          go_simp
          (try with_reducible rfl)
        simp only [Act.put, List.setIfInBounds_toArray, List.set_cons_zero, List.set_cons_succ]
        refine held_skip (i := 8) rfl rfl (by kernel_rfl) (by kernel_rfl) (by kernel_rfl) (fun _ _ _ h => h) (by rfl) hHeld ?_
        simp only [Act.put, List.setIfInBounds_toArray, List.set_cons_zero, List.set_cons_succ]
        refine held_skip (i := 9) rfl rfl (by kernel_rfl) (by kernel_rfl) (by kernel_rfl) (fun _ _ _ h => h) (by rfl) hHeld ?_
        simp only [Act.put, List.setIfInBounds_toArray, List.set_cons_zero, List.set_cons_succ]
        refine held_skip (i := 10) rfl rfl (by kernel_rfl) (by kernel_rfl) (by kernel_rfl) (fun _ _ _ h => h) (by rfl) hHeld ?_
        simp only [Act.put, List.setIfInBounds_toArray, List.set_cons_zero, List.set_cons_succ]
        refine held_skip (i := 11) rfl rfl (by kernel_rfl) (by kernel_rfl) (by kernel_rfl) (fun _ _ _ h => h) (by rfl) hHeld ?_
        simp only [Act.put, List.setIfInBounds_toArray, List.set_cons_zero, List.set_cons_succ]
        refine held_skip (i := 12) rfl rfl (by kernel_rfl) (by kernel_rfl) (by kernel_rfl) (fun _ _ _ h => h) (by rfl) hHeld ?_
        simp only [Act.put, List.setIfInBounds_toArray, List.set_cons_zero, List.set_cons_succ]
        refine held_skip (i := 13) rfl rfl (by kernel_rfl) (by kernel_rfl) (by kernel_rfl) (fun _ _ _ h => h) (by rfl) hHeld ?_
        simp only [Act.put, List.setIfInBounds_toArray, List.set_cons_zero, List.set_cons_succ]
        refine held_skip (i := 14) rfl rfl (by kernel_rfl) (by kernel_rfl) (by kernel_rfl) (fun _ _ _ h => h) (by rfl) hHeld ?_
        simp only [Act.put, List.setIfInBounds_toArray, List.set_cons_zero, List.set_cons_succ]
        refine held_take (i := 15) (v := ?_) rfl rfl (by kernel_rfl) (by kernel_rfl) (by kernel_rfl) (fun _ _ _ h => h) (by rfl) hHeld ?_ ?_
        rotate_left
        · rintro wh ⟨z0, z1⟩
          go_simp
          (try with_reducible rfl)
        simp only [Act.put, List.setIfInBounds_toArray, List.set_cons_zero, List.set_cons_succ]
        refine held_take (i := 16) (v := ?_) rfl rfl (by kernel_rfl) (by kernel_rfl) (by kernel_rfl) (fun _ _ _ h => h) (by rfl) hHeld ?_ ?_
        rotate_left
        · rintro wh ⟨z0, z1⟩
          go_simp
          (try with_reducible rfl)
        simp only [Act.put, List.setIfInBounds_toArray, List.set_cons_zero, List.set_cons_succ]
        refine held_skip (i := 17) rfl rfl (by kernel_rfl) (by kernel_rfl) (by kernel_rfl) (fun _ _ _ h => h) (by rfl) hHeld ?_
        simp only [Act.put, List.setIfInBounds_toArray, List.set_cons_zero, List.set_cons_succ]
        refine held_skip (i := 18) rfl rfl (by kernel_rfl) (by kernel_rfl) (by kernel_rfl) (fun _ _ _ h => h) (by rfl) hHeld ?_
        simp only [Act.put, List.setIfInBounds_toArray, List.set_cons_zero, List.set_cons_succ]
        refine held_skip (i := 19) rfl rfl (by kernel_rfl) (by kernel_rfl) (by kernel_rfl) (fun _ _ _ h => h) (by rfl) hHeld ?_
        simp only [Act.put, List.setIfInBounds_toArray, List.set_cons_zero, List.set_cons_succ]
        refine held_skip (i := 20) rfl rfl (by kernel_rfl) (by kernel_rfl) (by kernel_rfl) (fun _ _ _ h => h) (by rfl) hHeld ?_
        simp only [Act.put, List.setIfInBounds_toArray, List.set_cons_zero, List.set_cons_succ]
        refine held_skip (i := 21) rfl rfl (by kernel_rfl) (by kernel_rfl) (by kernel_rfl) (fun _ _ _ h => h) (by rfl) hHeld ?_
        simp only [Act.put, List.setIfInBounds_toArray, List.set_cons_zero, List.set_cons_succ]
        refine held_skip (i := 22) rfl rfl (by kernel_rfl) (by kernel_rfl) (by kernel_rfl) (fun _ _ _ h => h) (by rfl) hHeld ?_
        simp only [Act.put, List.setIfInBounds_toArray, List.set_cons_zero, List.set_cons_succ]
        refine held_skip (i := 23) rfl rfl (by kernel_rfl) (by kernel_rfl) (by kernel_rfl) (fun _ _ _ h => h) (by rfl) hHeld ?_
        simp only [Act.put, List.setIfInBounds_toArray, List.set_cons_zero, List.set_cons_succ]
        refine held_skip (i := 24) rfl rfl (by kernel_rfl) (by kernel_rfl) (by kernel_rfl) (fun _ _ _ h => h) (by rfl) hHeld ?_
        simp only [Act.put, List.setIfInBounds_toArray, List.set_cons_zero, List.set_cons_succ]
        refine held_skip (i := 25) rfl rfl (by kernel_rfl) (by kernel_rfl) (by kernel_rfl) (fun _ _ _ h => h) (by rfl) hHeld ?_
        simp only [Act.put, List.setIfInBounds_toArray, List.set_cons_zero, List.set_cons_succ]
        refine held_skip (i := 26) rfl rfl (by kernel_rfl) (by kernel_rfl) (by kernel_rfl) (fun _ _ _ h => h) (by rfl) hHeld ?_
        simp only [Act.put, List.setIfInBounds_toArray, List.set_cons_zero, List.set_cons_succ]
        refine held_skip (i := 27) rfl rfl (by kernel_rfl) (by kernel_rfl) (by kernel_rfl) (fun _ _ _ h => h) (by rfl) hHeld ?_
        simp only [Act.put, List.setIfInBounds_toArray, List.set_cons_zero, List.set_cons_succ]
        refine held_skip (i := 28) rfl rfl (by kernel_rfl) (by kernel_rfl) (by kernel_rfl) (fun _ _ _ h => h) (by rfl) hHeld ?_
        simp only [Act.put, List.setIfInBounds_toArray, List.set_cons_zero, List.set_cons_succ]
        refine held_skip (i := 29) rfl rfl (by kernel_rfl) (by kernel_rfl) (by kernel_rfl) (fun _ _ _ h => h) (by rfl) hHeld ?_
        simp only [Act.put, List.setIfInBounds_toArray, List.set_cons_zero, List.set_cons_succ]
        refine held_skip (i := 30) rfl rfl (by kernel_rfl) (by kernel_rfl) (by kernel_rfl) (fun _ _ _ h => h) (by rfl) hHeld ?_
        simp only [Act.put, List.setIfInBounds_toArray, List.set_cons_zero, List.set_cons_succ]
        refine held_skip (i := 31) rfl rfl (by kernel_rfl) (by kernel_rfl) (by kernel_rfl) (fun _ _ _ h => h) (by rfl) hHeld ?_
        simp only [Act.put, List.setIfInBounds_toArray, List.set_cons_zero, List.set_cons_succ]
        refine held_skip (i := 32) rfl rfl (by kernel_rfl) (by kernel_rfl) (by kernel_rfl) (fun _ _ _ h => h) (by rfl) hHeld ?_
        simp only [Act.put, List.setIfInBounds_toArray, List.set_cons_zero, List.set_cons_succ]
        refine held_skip (i := 33) rfl rfl (by kernel_rfl) (by kernel_rfl) (by kernel_rfl) (fun _ _ _ h => h) (by rfl) hHeld ?_
        simp only [Act.put, List.setIfInBounds_toArray, List.set_cons_zero, List.set_cons_succ]
        refine held_take (i := 34) (v := ?_) rfl rfl (by kernel_rfl) (by kernel_rfl) (by kernel_rfl) (fun _ _ _ h => h) (by rfl) hHeld ?_ ?_
        rotate_left
        · rintro wh ⟨z0, z1⟩
          go_simp
          (try with_reducible rfl)
        simp only [Act.put, List.setIfInBounds_toArray, List.set_cons_zero, List.set_cons_succ]
        refine wpAnyH_done (by kernel_rfl) ?_ _
        have hbn : Below w.heap.size w wr.drew := hbr.trans (hB1.mono hbr.size)
        clear hB1 hn
        generalize wr.drew = wq at *
        go_wp2
        go_ret
        exact ⟨by rw [HZ.out]; rfl, hbn⟩
      · rw [hnm] at hn
        by_cases hy2 : y.size ≤ 200
        · have g1 : decide ((200 : Int) < (y.size : Int)) = false := decide_eq_false (by omega)
          rcases Nat.eq_zero_or_pos k with hk0 | hk0
          · have HN := hstep (by rw [hnm, decide_eq_true hy2, decide_eq_true hk0]; rfl)
            subst hk0
            rw [Nat.zero_mul, Nat.add_zero] at a0 a1
            clear hstep hbad hall hnm hy2 hfs
            go_upto_region 4 with fail
            refine wp_region_held_drew (S := (fun W => W.cell? ⟨b, o, none⟩ = some (.string x) ∧ W.cell? ⟨b, o + 1, none⟩ = some (.string y))) (by kernel_rfl) ⟨a0, a1⟩ (fun hHeld => ?_)
            refine held_take (i := 0) (v := ?_) rfl rfl (by kernel_rfl) (by kernel_rfl) (by kernel_rfl) (fun _ _ _ h => h) (by rfl) hHeld ?_ ?_
            rotate_left
            · rintro wh ⟨z0, z1⟩
              go_simp
              (try with_reducible rfl)
            simp only [Act.put, List.setIfInBounds_toArray, List.set_cons_zero, List.set_cons_succ]
            refine held_take (i := 1) (v := ?_) rfl rfl (by kernel_rfl) (by kernel_rfl) (by kernel_rfl) (fun _ _ _ h => h) (by rfl) hHeld ?_ ?_
            rotate_left
            · rintro wh ⟨z0, z1⟩
              go_simp
              (try with_reducible rfl)
            simp only [Act.put, List.setIfInBounds_toArray, List.set_cons_zero, List.set_cons_succ]
            refine held_take (i := 2) (v := ?_) rfl rfl (by kernel_rfl) (by kernel_rfl) (by kernel_rfl) (fun _ _ _ h => h) (by rfl) hHeld ?_ ?_
            rotate_left
            · rintro wh ⟨z0, z1⟩
              go_simp
              (try with_reducible rfl)
            simp only [Act.put, List.setIfInBounds_toArray, List.set_cons_zero, List.set_cons_succ]
            refine held_take (i := 3) (v := ?_) rfl rfl (by kernel_rfl) (by kernel_rfl) (by kernel_rfl) (fun _ _ _ h => h) (by rfl) hHeld ?_ ?_
            rotate_left
            · rintro wh ⟨z0, z1⟩
              go_simp
              (try with_reducible rfl)
            simp only [Act.put, List.setIfInBounds_toArray, List.set_cons_zero, List.set_cons_succ]
            refine held_take (i := 4) (v := ?_) rfl rfl (by kernel_rfl) (by kernel_rfl) (by kernel_rfl) (fun _ _ _ h => h) (by rfl) hHeld ?_ ?_
            rotate_left
            · rintro wh ⟨z0, z1⟩
              go_simp
              (try with_reducible rfl)
            simp only [Act.put, List.setIfInBounds_toArray, List.set_cons_zero, List.set_cons_succ]
            refine held_call (i := 5) rfl (by kernel_rfl) (by rfl) (fun K hK => ?_)
            (go_simp; go_at_call 55; refine (hn _).mono ?_; rintro e w1 ⟨rfl, rfl⟩; have hB1 : Below wr.heap.size wr wr.drew := (Below.refl _ _).drew)
            refine hK.out _ _ ⟨keep_cell a0 hB1 hwb, keep_cell a1 hB1 hwb⟩ (fun hHeld => ?_)
            clear hK K
            (try simp only [Act.put, List.setIfInBounds_toArray, List.set_cons_zero, List.set_cons_succ])
            refine held_take (i := 6) (v := ?_) rfl rfl (by kernel_rfl) (by kernel_rfl) (by kernel_rfl) (fun _ _ _ h => h) (by rfl) hHeld ?_ ?_
            rotate_left
            · rintro wh ⟨z0, z1⟩
              go_simp
              (try with_reducible rfl)
            simp only [Act.put, List.setIfInBounds_toArray, List.set_cons_zero, List.set_cons_succ]
            refine held_take (i := 7) (v := ?_) rfl rfl (by kernel_rfl) (by kernel_rfl) (by kernel_rfl) (fun _ _ _ h => h) (by rfl) hHeld ?_ ?_
            rotate_left
            · rintro wh ⟨z0, z1⟩
              go_simp
              (try with_reducible rfl)
            simp only [Act.put, List.setIfInBounds_toArray, List.set_cons_zero, List.set_cons_succ]
            refine held_take (i := 8) (v := ?_) rfl rfl (by kernel_rfl) (by kernel_rfl) (by kernel_rfl) (fun _ _ _ h => h) (by rfl) hHeld ?_ ?_
            rotate_left
            · rintro wh ⟨z0, z1⟩
              go_simp
              (try with_reducible rfl)
            simp only [Act.put, List.setIfInBounds_toArray, List.set_cons_zero, List.set_cons_succ]
            refine held_take (i := 9) (v := ?_) rfl rfl (by kernel_rfl) (by kernel_rfl) (by kernel_rfl) (fun _ _ _ h => h) (by rfl) hHeld ?_ ?_
            rotate_left
            · rintro wh ⟨z0, z1⟩
              go_simp
              (try with_reducible rfl)
            simp only [Act.put, List.setIfInBounds_toArray, List.set_cons_zero, List.set_cons_succ]
            refine held_take (i := 10) (v := ?_) rfl rfl (by kernel_rfl) (by kernel_rfl) (by kernel_rfl) (fun _ _ _ h => h) (by rfl) hHeld ?_ ?_
            rotate_left
            · rintro wh ⟨z0, z1⟩
              go_simp
              (try with_reducible rfl)
            simp only [Act.put, List.setIfInBounds_toArray, List.set_cons_zero, List.set_cons_succ]
            refine held_take (i := 11) (v := ?_) rfl rfl (by kernel_rfl) (by kernel_rfl) (by kernel_rfl) (fun _ _ _ h => h) (by rfl) hHeld ?_ ?_
            rotate_left
            · rintro wh ⟨z0, z1⟩
              go_simp
              (try with_reducible rfl)
            simp only [Act.put, List.setIfInBounds_toArray, List.set_cons_zero, List.set_cons_succ]
            refine held_take (i := 12) (v := ?_) rfl rfl (by kernel_rfl) (by kernel_rfl) (by kernel_rfl) (fun _ _ _ h => h) (by rfl) hHeld ?_ ?_
            rotate_left
            · rintro wh ⟨z0, z1⟩
              go_simp
              (try with_reducible rfl)
            simp only [Act.put, List.setIfInBounds_toArray, List.set_cons_zero, List.set_cons_succ]
            refine held_take (i := 13) (v := ?_) rfl rfl (by kernel_rfl) (by kernel_rfl) (by kernel_rfl) (fun _ _ _ h => h) (by rfl) hHeld ?_ ?_
            rotate_left
            · rintro wh ⟨z0, z1⟩
              go_simp
              (try with_reducible rfl)
            simp only [Act.put, List.setIfInBounds_toArray, List.set_cons_zero, List.set_cons_succ]
            refine held_take (i := 14) (v := ?_) rfl rfl (by kernel_rfl) (by kernel_rfl) (by kernel_rfl) (fun _ _ _ h => h) (by rfl) hHeld ?_ ?_
            rotate_left
            · rintro wh ⟨z0, z1⟩
              go_simp
              (try with_reducible rfl)
            simp only [Act.put, List.setIfInBounds_toArray, List.set_cons_zero, List.set_cons_succ]
            refine held_take (i := 15) (v := ?_) rfl rfl (by kernel_rfl) (by kernel_rfl) (by kernel_rfl) (fun _ _ _ h => h) (by rfl) hHeld ?_ ?_
            rotate_left
            · rintro wh ⟨z0, z1⟩
              go_simp
              (try with_reducible rfl)
            simp only [Act.put, List.setIfInBounds_toArray, List.set_cons_zero, List.set_cons_succ]
            refine held_take (i := 16) (v := ?_) rfl rfl (by kernel_rfl) (by kernel_rfl) (by kernel_rfl) (fun _ _ _ h => h) (by rfl) hHeld ?_ ?_
            rotate_left
            · rintro wh ⟨z0, z1⟩
              go_simp
              (try with_reducible rfl)
            simp only [Act.put, List.setIfInBounds_toArray, List.set_cons_zero, List.set_cons_succ]
            refine held_take (i := 17) (v := ?_) rfl rfl (by kernel_rfl) (by kernel_rfl) (by kernel_rfl) (fun _ _ _ h => h) (by rfl) hHeld ?_ ?_
            rotate_left
            · rintro wh ⟨z0, z1⟩
              go_simp
              (try with_reducible rfl)
            simp only [Act.put, List.setIfInBounds_toArray, List.set_cons_zero, List.set_cons_succ]
            refine held_take (i := 18) (v := ?_) rfl rfl (by kernel_rfl) (by kernel_rfl) (by kernel_rfl) (fun _ _ _ h => h) (by rfl) hHeld ?_ ?_
            rotate_left
            · rintro wh ⟨z0, z1⟩
              go_simp
              (try with_reducible rfl)
            simp only [Act.put, List.setIfInBounds_toArray, List.set_cons_zero, List.set_cons_succ]
            refine held_take (i := 19) (v := ?_) rfl rfl (by kernel_rfl) (by kernel_rfl) (by kernel_rfl) (fun _ _ _ h => h) (by rfl) hHeld ?_ ?_
            rotate_left
            · rintro wh ⟨z0, z1⟩
              go_simp
              (try with_reducible rfl)
            simp only [Act.put, List.setIfInBounds_toArray, List.set_cons_zero, List.set_cons_succ]
            refine held_skip (i := 20) rfl rfl (by kernel_rfl) (by kernel_rfl) (by kernel_rfl) (fun _ _ _ h => h) (by rfl) hHeld ?_
            simp only [Act.put, List.setIfInBounds_toArray, List.set_cons_zero, List.set_cons_succ]
            refine held_skip (i := 21) rfl rfl (by kernel_rfl) (by kernel_rfl) (by kernel_rfl) (fun _ _ _ h => h) (by rfl) hHeld ?_
            simp only [Act.put, List.setIfInBounds_toArray, List.set_cons_zero, List.set_cons_succ]
            refine held_skip (i := 22) rfl rfl (by kernel_rfl) (by kernel_rfl) (by kernel_rfl) (fun _ _ _ h => h) (by rfl) hHeld ?_
            simp only [Act.put, List.setIfInBounds_toArray, List.set_cons_zero, List.set_cons_succ]
            refine held_skip (i := 23) rfl rfl (by kernel_rfl) (by kernel_rfl) (by kernel_rfl) (fun _ _ _ h => h) (by rfl) hHeld ?_
            simp only [Act.put, List.setIfInBounds_toArray, List.set_cons_zero, List.set_cons_succ]
            refine held_skip (i := 24) rfl rfl (by kernel_rfl) (by kernel_rfl) (by kernel_rfl) (fun _ _ _ h => h) (by rfl) hHeld ?_
            simp only [Act.put, List.setIfInBounds_toArray, List.set_cons_zero, List.set_cons_succ]
            refine held_skip (i := 25) rfl rfl (by kernel_rfl) (by kernel_rfl) (by kernel_rfl) (fun _ _ _ h => h) (by rfl) hHeld ?_
            simp only [Act.put, List.setIfInBounds_toArray, List.set_cons_zero, List.set_cons_succ]
            refine held_skip (i := 26) rfl rfl (by kernel_rfl) (by kernel_rfl) (by kernel_rfl) (fun _ _ _ h => h) (by rfl) hHeld ?_
            simp only [Act.put, List.setIfInBounds_toArray, List.set_cons_zero, List.set_cons_succ]
            refine held_skip (i := 27) rfl rfl (by kernel_rfl) (by kernel_rfl) (by kernel_rfl) (fun _ _ _ h => h) (by rfl) hHeld ?_
            simp only [Act.put, List.setIfInBounds_toArray, List.set_cons_zero, List.set_cons_succ]
            refine held_skip (i := 28) rfl rfl (by kernel_rfl) (by kernel_rfl) (by kernel_rfl) (fun _ _ _ h => h) (by rfl) hHeld ?_
            simp only [Act.put, List.setIfInBounds_toArray, List.set_cons_zero, List.set_cons_succ]
            refine held_skip (i := 29) rfl rfl (by kernel_rfl) (by kernel_rfl) (by kernel_rfl) (fun _ _ _ h => h) (by rfl) hHeld ?_
            simp only [Act.put, List.setIfInBounds_toArray, List.set_cons_zero, List.set_cons_succ]
            refine held_skip (i := 30) rfl rfl (by kernel_rfl) (by kernel_rfl) (by kernel_rfl) (fun _ _ _ h => h) (by rfl) hHeld ?_
            simp only [Act.put, List.setIfInBounds_toArray, List.set_cons_zero, List.set_cons_succ]
            refine held_skip (i := 31) rfl rfl (by kernel_rfl) (by kernel_rfl) (by kernel_rfl) (fun _ _ _ h => h) (by rfl) hHeld ?_
            simp only [Act.put, List.setIfInBounds_toArray, List.set_cons_zero, List.set_cons_succ]
            refine held_skip (i := 32) rfl rfl (by kernel_rfl) (by kernel_rfl) (by kernel_rfl) (fun _ _ _ h => h) (by rfl) hHeld ?_
            simp only [Act.put, List.setIfInBounds_toArray, List.set_cons_zero, List.set_cons_succ]
            refine held_take (i := 33) (v := ?_) rfl rfl (by kernel_rfl) (by kernel_rfl) (by kernel_rfl) (fun _ _ _ h => h) (by rfl) hHeld ?_ ?_
            rotate_left
            · rintro wh ⟨z0, z1⟩
              go_simp
              (try with_reducible rfl)
            simp only [Act.put, List.setIfInBounds_toArray, List.set_cons_zero, List.set_cons_succ]
            refine held_take (i := 34) (v := ?_) rfl rfl (by kernel_rfl) (by kernel_rfl) (by kernel_rfl) (fun _ _ _ h => h) (by rfl) hHeld ?_ ?_
            rotate_left
            · rintro wh ⟨z0, z1⟩
              go_simp
              (try with_reducible rfl)
            simp only [Act.put, List.setIfInBounds_toArray, List.set_cons_zero, List.set_cons_succ]
            refine wpAnyH_done (by kernel_rfl) ?_ _
            have hbn : Below w.heap.size w wr.drew := hbr.trans (hB1.mono hbr.size)
            clear hB1 hn
            generalize wr.drew = wq at *
            go_wp2
            go_roundw
            case rel => exact ⟨0 + 1, by omega, by go_num, HN, hbn⟩
            case measure => (simp [intOf]; try omega)
          · obtain ⟨m, hm⟩ : ∃ m, k = m + 1 := ⟨k - 1, by omega⟩
            have hml : m < l.length := by omega
            obtain ⟨z, hze⟩ : ∃ z, l[m].1 = z := ⟨_, rfl⟩
            have hfz := (HF.out _ (List.getElem_mem hml)).1
            rw [hze] at hfz
            obtain ⟨hz0, _⟩ := fldCells_at l m hml
            rw [hze] at hz0
            have az : wr.cell? ⟨b, o + m * 2, none⟩ = some (.string z) := hall _ _ hz0
            have hgz : (l.getD (k - 1) default).1 = z := by
              rw [hm, Nat.add_sub_cancel, List.getD_eq_getElem?_getD, List.getElem?_eq_getElem hml]; exact hze
            have hkz : decide (k = 0) = false := decide_eq_false (by omega)
            rw [hgz, hnm, decide_eq_true hy2, hkz] at hstep hbad
            have k0 : (0 : Int) < (k : Int) := by omega
            have hw1 : IntKind.i64.wrap ((k : Int) - 1) = (m : Int) := by rw [IntKind.wrap_i64]; omega
            have hI1 : (m : Int) < (l.length : Int) := by omega
            have hah := fun W => rahead_any z x W hfz
            obtain ⟨lt, hlt⟩ : ∃ lt, ltS z x = lt := ⟨_, rfl⟩
            rw [hlt] at hstep hbad
            simp only [hlt] at hah
            have HM := Lib.hid hm
            clear hnm hy2 hze hkz hall hz0 hgz hfz hfs hlt hm
            cases lt
            · have HZ := hbad rfl
              clear hstep hbad
              go_upto_region 4 with fail
              refine wp_region_held_drew (S := (fun W => W.cell? ⟨b, o + k * 2, none⟩ = some (.string x) ∧ W.cell? ⟨b, o + k * 2 + 1, none⟩ = some (.string y) ∧ W.cell? ⟨b, o + m * 2, none⟩ = some (.string z))) (by kernel_rfl) ⟨a0, a1, az⟩ (fun hHeld => ?_)
              refine held_take (i := 0) (v := ?_) rfl rfl (by kernel_rfl) (by kernel_rfl) (by kernel_rfl) (fun _ _ _ h => h) (by rfl) hHeld ?_ ?_
              rotate_left
              · rintro wh ⟨z0, z1, z2⟩
                go_simp
                (try with_reducible rfl)
              simp only [Act.put, List.setIfInBounds_toArray, List.set_cons_zero, List.set_cons_succ]
              refine held_take (i := 1) (v := ?_) rfl rfl (by kernel_rfl) (by kernel_rfl) (by kernel_rfl) (fun _ _ _ h => h) (by rfl) hHeld ?_ ?_
              rotate_left
              · rintro wh ⟨z0, z1, z2⟩
                go_simp
                (try with_reducible rfl)
              simp only [Act.put, List.setIfInBounds_toArray, List.set_cons_zero, List.set_cons_succ]
              refine held_take (i := 2) (v := ?_) rfl rfl (by kernel_rfl) (by kernel_rfl) (by kernel_rfl) (fun _ _ _ h => h) (by rfl) hHeld ?_ ?_
              rotate_left
              · rintro wh ⟨z0, z1, z2⟩
                go_simp
                (try with_reducible rfl)
              simp only [Act.put, List.setIfInBounds_toArray, List.set_cons_zero, List.set_cons_succ]
              refine held_take (i := 3) (v := ?_) rfl rfl (by kernel_rfl) (by kernel_rfl) (by kernel_rfl) (fun _ _ _ h => h) (by rfl) hHeld ?_ ?_
              rotate_left
              · rintro wh ⟨z0, z1, z2⟩
                go_simp
                (try with_reducible rfl)
              simp only [Act.put, List.setIfInBounds_toArray, List.set_cons_zero, List.set_cons_succ]
              refine held_take (i := 4) (v := ?_) rfl rfl (by kernel_rfl) (by kernel_rfl) (by kernel_rfl) (fun _ _ _ h => h) (by rfl) hHeld ?_ ?_
              rotate_left
              · rintro wh ⟨z0, z1, z2⟩
                go_simp
                (try with_reducible rfl)
              simp only [Act.put, List.setIfInBounds_toArray, List.set_cons_zero, List.set_cons_succ]
              refine held_call (i := 5) rfl (by kernel_rfl) (by rfl) (fun K hK => ?_)
              (go_simp; go_at_call 55; refine (hn _).mono ?_; rintro e w1 ⟨rfl, rfl⟩; have hB1 : Below wr.heap.size wr wr.drew := (Below.refl _ _).drew)
              refine hK.out _ _ ⟨keep_cell a0 hB1 hwb, keep_cell a1 hB1 hwb, keep_cell az hB1 hwb⟩ (fun hHeld => ?_)
              clear hK K
              (try simp only [Act.put, List.setIfInBounds_toArray, List.set_cons_zero, List.set_cons_succ])
              refine held_take (i := 6) (v := ?_) rfl rfl (by kernel_rfl) (by kernel_rfl) (by kernel_rfl) (fun _ _ _ h => h) (by rfl) hHeld ?_ ?_
              rotate_left
              · rintro wh ⟨z0, z1, z2⟩
                go_simp
                (try with_reducible rfl)
              simp only [Act.put, List.setIfInBounds_toArray, List.set_cons_zero, List.set_cons_succ]
              refine held_take (i := 7) (v := ?_) rfl rfl (by kernel_rfl) (by kernel_rfl) (by kernel_rfl) (fun _ _ _ h => h) (by rfl) hHeld ?_ ?_
              rotate_left
              · rintro wh ⟨z0, z1, z2⟩
                go_simp
                (try with_reducible rfl)
              simp only [Act.put, List.setIfInBounds_toArray, List.set_cons_zero, List.set_cons_succ]
              refine held_take (i := 8) (v := ?_) rfl rfl (by kernel_rfl) (by kernel_rfl) (by kernel_rfl) (fun _ _ _ h => h) (by rfl) hHeld ?_ ?_
              rotate_left
              · rintro wh ⟨z0, z1, z2⟩
                go_simp
                (try with_reducible rfl)
              simp only [Act.put, List.setIfInBounds_toArray, List.set_cons_zero, List.set_cons_succ]
              refine held_take (i := 9) (v := ?_) rfl rfl (by kernel_rfl) (by kernel_rfl) (by kernel_rfl) (fun _ _ _ h => h) (by rfl) hHeld ?_ ?_
              rotate_left
              · rintro wh ⟨z0, z1, z2⟩
                go_simp
                (try with_reducible rfl)
              simp only [Act.put, List.setIfInBounds_toArray, List.set_cons_zero, List.set_cons_succ]
              refine held_take (i := 10) (v := ?_) rfl rfl (by kernel_rfl) (by kernel_rfl) (by kernel_rfl) (fun _ _ _ h => h) (by rfl) hHeld ?_ ?_
              rotate_left
              · rintro wh ⟨z0, z1, z2⟩
                go_simp
                (try with_reducible rfl)
              simp only [Act.put, List.setIfInBounds_toArray, List.set_cons_zero, List.set_cons_succ]
              refine held_take (i := 11) (v := ?_) rfl rfl (by kernel_rfl) (by kernel_rfl) (by kernel_rfl) (fun _ _ _ h => h) (by rfl) hHeld ?_ ?_
              rotate_left
              · rintro wh ⟨z0, z1, z2⟩
                go_simp
                (try with_reducible rfl)
              simp only [Act.put, List.setIfInBounds_toArray, List.set_cons_zero, List.set_cons_succ]
              refine held_take (i := 12) (v := ?_) rfl rfl (by kernel_rfl) (by kernel_rfl) (by kernel_rfl) (fun _ _ _ h => h) (by rfl) hHeld ?_ ?_
              rotate_left
              · rintro wh ⟨z0, z1, z2⟩
                go_simp
                (try with_reducible rfl)
              simp only [Act.put, List.setIfInBounds_toArray, List.set_cons_zero, List.set_cons_succ]
              refine held_take (i := 13) (v := ?_) rfl rfl (by kernel_rfl) (by kernel_rfl) (by kernel_rfl) (fun _ _ _ h => h) (by rfl) hHeld ?_ ?_
              rotate_left
              · rintro wh ⟨z0, z1, z2⟩
                go_simp
                (try with_reducible rfl)
              simp only [Act.put, List.setIfInBounds_toArray, List.set_cons_zero, List.set_cons_succ]
              refine held_take (i := 14) (v := ?_) rfl rfl (by kernel_rfl) (by kernel_rfl) (by kernel_rfl) (fun _ _ _ h => h) (by rfl) hHeld ?_ ?_
              rotate_left
              · rintro wh ⟨z0, z1, z2⟩
                go_simp
                (try with_reducible rfl)
              simp only [Act.put, List.setIfInBounds_toArray, List.set_cons_zero, List.set_cons_succ]
              refine held_take (i := 15) (v := ?_) rfl rfl (by kernel_rfl) (by kernel_rfl) (by kernel_rfl) (fun _ _ _ h => h) (by rfl) hHeld ?_ ?_
              rotate_left
              · rintro wh ⟨z0, z1, z2⟩
                go_simp
                (try with_reducible rfl)
              simp only [Act.put, List.setIfInBounds_toArray, List.set_cons_zero, List.set_cons_succ]
              refine held_take (i := 16) (v := ?_) rfl rfl (by kernel_rfl) (by kernel_rfl) (by kernel_rfl) (fun _ _ _ h => h) (by rfl) hHeld ?_ ?_
              rotate_left
              · rintro wh ⟨z0, z1, z2⟩
                go_simp
                (try with_reducible rfl)
              simp only [Act.put, List.setIfInBounds_toArray, List.set_cons_zero, List.set_cons_succ]
              refine held_take (i := 17) (v := ?_) rfl rfl (by kernel_rfl) (by kernel_rfl) (by kernel_rfl) (fun _ _ _ h => h) (by rfl) hHeld ?_ ?_
              rotate_left
              · rintro wh ⟨z0, z1, z2⟩
                go_simp
                (try with_reducible rfl)
              simp only [Act.put, List.setIfInBounds_toArray, List.set_cons_zero, List.set_cons_succ]
              refine held_take (i := 18) (v := ?_) rfl rfl (by kernel_rfl) (by kernel_rfl) (by kernel_rfl) (fun _ _ _ h => h) (by rfl) hHeld ?_ ?_
              rotate_left
              · rintro wh ⟨z0, z1, z2⟩
                go_simp
                (try with_reducible rfl)
              simp only [Act.put, List.setIfInBounds_toArray, List.set_cons_zero, List.set_cons_succ]
              refine held_take (i := 19) (v := ?_) rfl rfl (by kernel_rfl) (by kernel_rfl) (by kernel_rfl) (fun _ _ _ h => h) (by rfl) hHeld ?_ ?_
              rotate_left
              · rintro wh ⟨z0, z1, z2⟩
                go_simp
                (try with_reducible rfl)
              simp only [Act.put, List.setIfInBounds_toArray, List.set_cons_zero, List.set_cons_succ]
              refine held_take (i := 20) (v := ?_) rfl rfl (by kernel_rfl) (by kernel_rfl) (by kernel_rfl) (fun _ _ _ h => h) (by rfl) hHeld ?_ ?_
              rotate_left
              · rintro wh ⟨z0, z1, z2⟩
                go_simp
                (try with_reducible rfl)
              simp only [Act.put, List.setIfInBounds_toArray, List.set_cons_zero, List.set_cons_succ]
              refine held_take (i := 21) (v := ?_) rfl rfl (by kernel_rfl) (by kernel_rfl) (by kernel_rfl) (fun _ _ _ h => h) (by rfl) hHeld ?_ ?_
              rotate_left
              · rintro wh ⟨z0, z1, z2⟩
                go_simp
                (try with_reducible rfl)
              simp only [Act.put, List.setIfInBounds_toArray, List.set_cons_zero, List.set_cons_succ]
              refine held_take (i := 22) (v := ?_) rfl rfl (by kernel_rfl) (by kernel_rfl) (by kernel_rfl) (fun _ _ _ h => h) (by rfl) hHeld ?_ ?_
              rotate_left
              · rintro wh ⟨z0, z1, z2⟩
                go_simp
                (try with_reducible rfl)
              simp only [Act.put, List.setIfInBounds_toArray, List.set_cons_zero, List.set_cons_succ]
              refine held_take (i := 23) (v := ?_) rfl rfl (by kernel_rfl) (by kernel_rfl) (by kernel_rfl) (fun _ _ _ h => h) (by rfl) hHeld ?_ ?_
              rotate_left
              · rintro wh ⟨z0, z1, z2⟩
                go_simp
                (try with_reducible rfl)
              simp only [Act.put, List.setIfInBounds_toArray, List.set_cons_zero, List.set_cons_succ]
              refine held_take (i := 24) (v := ?_) rfl rfl (by kernel_rfl) (by kernel_rfl) (by kernel_rfl) (fun _ _ _ h => h) (by rfl) hHeld ?_ ?_
              rotate_left
              · rintro wh ⟨z0, z1, z2⟩
                go_simp
                (try with_reducible rfl)
              simp only [Act.put, List.setIfInBounds_toArray, List.set_cons_zero, List.set_cons_succ]
              refine held_take (i := 25) (v := ?_) rfl rfl (by kernel_rfl) (by kernel_rfl) (by kernel_rfl) (fun _ _ _ h => h) (by rfl) hHeld ?_ ?_
              rotate_left
              · rintro wh ⟨z0, z1, z2⟩
                go_simp
                (try with_reducible rfl)
              simp only [Act.put, List.setIfInBounds_toArray, List.set_cons_zero, List.set_cons_succ]
              refine held_take (i := 26) (v := ?_) rfl rfl (by kernel_rfl) (by kernel_rfl) (by kernel_rfl) (fun _ _ _ h => h) (by rfl) hHeld ?_ ?_
              rotate_left
              · rintro wh ⟨z0, z1, z2⟩
                go_simp
                (try with_reducible rfl)
              simp only [Act.put, List.setIfInBounds_toArray, List.set_cons_zero, List.set_cons_succ]
              refine held_take (i := 27) (v := ?_) rfl rfl (by kernel_rfl) (by kernel_rfl) (by kernel_rfl) (fun _ _ _ h => h) (by rfl) hHeld ?_ ?_
              rotate_left
              · rintro wh ⟨z0, z1, z2⟩
                go_simp
                (try with_reducible rfl)
              simp only [Act.put, List.setIfInBounds_toArray, List.set_cons_zero, List.set_cons_succ]
              refine held_take (i := 28) (v := ?_) rfl rfl (by kernel_rfl) (by kernel_rfl) (by kernel_rfl) (fun _ _ _ h => h) (by rfl) hHeld ?_ ?_
              rotate_left
              · rintro wh ⟨z0, z1, z2⟩
                go_simp
                (try with_reducible rfl)
              simp only [Act.put, List.setIfInBounds_toArray, List.set_cons_zero, List.set_cons_succ]
              refine held_take (i := 29) (v := ?_) rfl rfl (by kernel_rfl) (by kernel_rfl) (by kernel_rfl) (fun _ _ _ h => h) (by rfl) hHeld ?_ ?_
              rotate_left
              · rintro wh ⟨z0, z1, z2⟩
                go_simp
                (try with_reducible rfl)
              simp only [Act.put, List.setIfInBounds_toArray, List.set_cons_zero, List.set_cons_succ]
              refine held_take (i := 30) (v := ?_) rfl rfl (by kernel_rfl) (by kernel_rfl) (by kernel_rfl) (fun _ _ _ h => h) (by rfl) hHeld ?_ ?_
              rotate_left
              · rintro wh ⟨z0, z1, z2⟩
                go_simp
                (try with_reducible rfl)
              simp only [Act.put, List.setIfInBounds_toArray, List.set_cons_zero, List.set_cons_succ]
              refine held_call (i := 31) rfl (by kernel_rfl) (by rfl) (fun K hK => ?_)
              (go_simp; go_at_call 125; refine (hah _).mono ?_; rintro e w2 ⟨rfl, hb2⟩; have hB2 : Below wr.heap.size wr w2 := hB1.trans hb2)
              refine hK.out _ _ ⟨keep_cell a0 hB2 hwb, keep_cell a1 hB2 hwb, keep_cell az hB2 hwb⟩ (fun hHeld => ?_)
              clear hK K
              (try simp only [Act.put, List.setIfInBounds_toArray, List.set_cons_zero, List.set_cons_succ])
              refine held_take (i := 32) (v := ?_) rfl rfl (by kernel_rfl) (by kernel_rfl) (by kernel_rfl) (fun _ _ _ h => h) (by rfl) hHeld ?_ ?_
              rotate_left
              · rintro wh ⟨z0, z1, z2⟩
                go_simp
                (try with_reducible rfl)
              simp only [Act.put, List.setIfInBounds_toArray, List.set_cons_zero, List.set_cons_succ]
              refine held_take (i := 33) (v := ?_) rfl rfl (by kernel_rfl) (by kernel_rfl) (by kernel_rfl) (fun _ _ _ h => h) (by rfl) hHeld ?_ ?_
              rotate_left
              · rintro wh ⟨z0, z1, z2⟩
                go_simp
                (try with_reducible rfl)
              simp only [Act.put, List.setIfInBounds_toArray, List.set_cons_zero, List.set_cons_succ]
              refine held_take (i := 34) (v := ?_) rfl rfl (by kernel_rfl) (by kernel_rfl) (by kernel_rfl) (fun _ _ _ h => h) (by rfl) hHeld ?_ ?_
              rotate_left
              · rintro wh ⟨z0, z1, z2⟩
                go_simp
                (try with_reducible rfl)
              simp only [Act.put, List.setIfInBounds_toArray, List.set_cons_zero, List.set_cons_succ]
              refine wpAnyH_done (by kernel_rfl) ?_ _
              have hbn : Below w.heap.size w w2 := hbr.trans (hB2.mono hbr.size)
              clear hB1 hB2 hb2 hn hah
              go_wp2
              go_ret
              exact ⟨by rw [HZ.out]; rfl, hbn⟩
            · have HN := hstep rfl
              clear hstep hbad
              go_upto_region 4 with fail
              refine wp_region_held_drew (S := (fun W => W.cell? ⟨b, o + k * 2, none⟩ = some (.string x) ∧ W.cell? ⟨b, o + k * 2 + 1, none⟩ = some (.string y) ∧ W.cell? ⟨b, o + m * 2, none⟩ = some (.string z))) (by kernel_rfl) ⟨a0, a1, az⟩ (fun hHeld => ?_)
              refine held_take (i := 0) (v := ?_) rfl rfl (by kernel_rfl) (by kernel_rfl) (by kernel_rfl) (fun _ _ _ h => h) (by rfl) hHeld ?_ ?_
              rotate_left
              · rintro wh ⟨z0, z1, z2⟩
                go_simp
                (try with_reducible rfl)
              simp only [Act.put, List.setIfInBounds_toArray, List.set_cons_zero, List.set_cons_succ]
              refine held_take (i := 1) (v := ?_) rfl rfl (by kernel_rfl) (by kernel_rfl) (by kernel_rfl) (fun _ _ _ h => h) (by rfl) hHeld ?_ ?_
              rotate_left
              · rintro wh ⟨z0, z1, z2⟩
                go_simp
                (try with_reducible rfl)
              simp only [Act.put, List.setIfInBounds_toArray, List.set_cons_zero, List.set_cons_succ]
              refine held_take (i := 2) (v := ?_) rfl rfl (by kernel_rfl) (by kernel_rfl) (by kernel_rfl) (fun _ _ _ h => h) (by rfl) hHeld ?_ ?_
              rotate_left
              · rintro wh ⟨z0, z1, z2⟩
                go_simp
                (try with_reducible rfl)
              simp only [Act.put, List.setIfInBounds_toArray, List.set_cons_zero, List.set_cons_succ]
              refine held_take (i := 3) (v := ?_) rfl rfl (by kernel_rfl) (by kernel_rfl) (by kernel_rfl) (fun _ _ _ h => h) (by rfl) hHeld ?_ ?_
              rotate_left
              · rintro wh ⟨z0, z1, z2⟩
                go_simp
                (try with_reducible rfl)
              simp only [Act.put, List.setIfInBounds_toArray, List.set_cons_zero, List.set_cons_succ]
              refine held_take (i := 4) (v := ?_) rfl rfl (by kernel_rfl) (by kernel_rfl) (by kernel_rfl) (fun _ _ _ h => h) (by rfl) hHeld ?_ ?_
              rotate_left
              · rintro wh ⟨z0, z1, z2⟩
                go_simp
                (try with_reducible rfl)
              simp only [Act.put, List.setIfInBounds_toArray, List.set_cons_zero, List.set_cons_succ]
              refine held_call (i := 5) rfl (by kernel_rfl) (by rfl) (fun K hK => ?_)
              (go_simp; go_at_call 55; refine (hn _).mono ?_; rintro e w1 ⟨rfl, rfl⟩; have hB1 : Below wr.heap.size wr wr.drew := (Below.refl _ _).drew)
              refine hK.out _ _ ⟨keep_cell a0 hB1 hwb, keep_cell a1 hB1 hwb, keep_cell az hB1 hwb⟩ (fun hHeld => ?_)
              clear hK K
              (try simp only [Act.put, List.setIfInBounds_toArray, List.set_cons_zero, List.set_cons_succ])
              refine held_take (i := 6) (v := ?_) rfl rfl (by kernel_rfl) (by kernel_rfl) (by kernel_rfl) (fun _ _ _ h => h) (by rfl) hHeld ?_ ?_
              rotate_left
              · rintro wh ⟨z0, z1, z2⟩
                go_simp
                (try with_reducible rfl)
              simp only [Act.put, List.setIfInBounds_toArray, List.set_cons_zero, List.set_cons_succ]
              refine held_take (i := 7) (v := ?_) rfl rfl (by kernel_rfl) (by kernel_rfl) (by kernel_rfl) (fun _ _ _ h => h) (by rfl) hHeld ?_ ?_
              rotate_left
              · rintro wh ⟨z0, z1, z2⟩
                go_simp
                (try with_reducible rfl)
              simp only [Act.put, List.setIfInBounds_toArray, List.set_cons_zero, List.set_cons_succ]
              refine held_take (i := 8) (v := ?_) rfl rfl (by kernel_rfl) (by kernel_rfl) (by kernel_rfl) (fun _ _ _ h => h) (by rfl) hHeld ?_ ?_
              rotate_left
              · rintro wh ⟨z0, z1, z2⟩
                go_simp
                (try with_reducible rfl)
              simp only [Act.put, List.setIfInBounds_toArray, List.set_cons_zero, List.set_cons_succ]
              refine held_take (i := 9) (v := ?_) rfl rfl (by kernel_rfl) (by kernel_rfl) (by kernel_rfl) (fun _ _ _ h => h) (by rfl) hHeld ?_ ?_
              rotate_left
              · rintro wh ⟨z0, z1, z2⟩
                go_simp
                (try with_reducible rfl)
              simp only [Act.put, List.setIfInBounds_toArray, List.set_cons_zero, List.set_cons_succ]
              refine held_take (i := 10) (v := ?_) rfl rfl (by kernel_rfl) (by kernel_rfl) (by kernel_rfl) (fun _ _ _ h => h) (by rfl) hHeld ?_ ?_
              rotate_left
              · rintro wh ⟨z0, z1, z2⟩
                go_simp
                (try with_reducible rfl)
              simp only [Act.put, List.setIfInBounds_toArray, List.set_cons_zero, List.set_cons_succ]
              refine held_take (i := 11) (v := ?_) rfl rfl (by kernel_rfl) (by kernel_rfl) (by kernel_rfl) (fun _ _ _ h => h) (by rfl) hHeld ?_ ?_
              rotate_left
              · rintro wh ⟨z0, z1, z2⟩
                go_simp
                (try with_reducible rfl)
              simp only [Act.put, List.setIfInBounds_toArray, List.set_cons_zero, List.set_cons_succ]
              refine held_take (i := 12) (v := ?_) rfl rfl (by kernel_rfl) (by kernel_rfl) (by kernel_rfl) (fun _ _ _ h => h) (by rfl) hHeld ?_ ?_
              rotate_left
              · rintro wh ⟨z0, z1, z2⟩
                go_simp
                (try with_reducible rfl)
              simp only [Act.put, List.setIfInBounds_toArray, List.set_cons_zero, List.set_cons_succ]
              refine held_take (i := 13) (v := ?_) rfl rfl (by kernel_rfl) (by kernel_rfl) (by kernel_rfl) (fun _ _ _ h => h) (by rfl) hHeld ?_ ?_
              rotate_left
              · rintro wh ⟨z0, z1, z2⟩
                go_simp
                (try with_reducible rfl)
              simp only [Act.put, List.setIfInBounds_toArray, List.set_cons_zero, List.set_cons_succ]
              refine held_take (i := 14) (v := ?_) rfl rfl (by kernel_rfl) (by kernel_rfl) (by kernel_rfl) (fun _ _ _ h => h) (by rfl) hHeld ?_ ?_
              rotate_left
              · rintro wh ⟨z0, z1, z2⟩
                go_simp
                (try with_reducible rfl)
              simp only [Act.put, List.setIfInBounds_toArray, List.set_cons_zero, List.set_cons_succ]
              refine held_take (i := 15) (v := ?_) rfl rfl (by kernel_rfl) (by kernel_rfl) (by kernel_rfl) (fun _ _ _ h => h) (by rfl) hHeld ?_ ?_
              rotate_left
              · rintro wh ⟨z0, z1, z2⟩
                go_simp
                (try with_reducible rfl)
              simp only [Act.put, List.setIfInBounds_toArray, List.set_cons_zero, List.set_cons_succ]
              refine held_take (i := 16) (v := ?_) rfl rfl (by kernel_rfl) (by kernel_rfl) (by kernel_rfl) (fun _ _ _ h => h) (by rfl) hHeld ?_ ?_
              rotate_left
              · rintro wh ⟨z0, z1, z2⟩
                go_simp
                (try with_reducible rfl)
              simp only [Act.put, List.setIfInBounds_toArray, List.set_cons_zero, List.set_cons_succ]
              refine held_take (i := 17) (v := ?_) rfl rfl (by kernel_rfl) (by kernel_rfl) (by kernel_rfl) (fun _ _ _ h => h) (by rfl) hHeld ?_ ?_
              rotate_left
              · rintro wh ⟨z0, z1, z2⟩
                go_simp
                (try with_reducible rfl)
              simp only [Act.put, List.setIfInBounds_toArray, List.set_cons_zero, List.set_cons_succ]
              refine held_take (i := 18) (v := ?_) rfl rfl (by kernel_rfl) (by kernel_rfl) (by kernel_rfl) (fun _ _ _ h => h) (by rfl) hHeld ?_ ?_
              rotate_left
              · rintro wh ⟨z0, z1, z2⟩
                go_simp
                (try with_reducible rfl)
              simp only [Act.put, List.setIfInBounds_toArray, List.set_cons_zero, List.set_cons_succ]
              refine held_take (i := 19) (v := ?_) rfl rfl (by kernel_rfl) (by kernel_rfl) (by kernel_rfl) (fun _ _ _ h => h) (by rfl) hHeld ?_ ?_
              rotate_left
              · rintro wh ⟨z0, z1, z2⟩
                go_simp
                (try with_reducible rfl)
              simp only [Act.put, List.setIfInBounds_toArray, List.set_cons_zero, List.set_cons_succ]
              refine held_take (i := 20) (v := ?_) rfl rfl (by kernel_rfl) (by kernel_rfl) (by kernel_rfl) (fun _ _ _ h => h) (by rfl) hHeld ?_ ?_
              rotate_left
              · rintro wh ⟨z0, z1, z2⟩
                go_simp
                (try with_reducible rfl)
              simp only [Act.put, List.setIfInBounds_toArray, List.set_cons_zero, List.set_cons_succ]
              refine held_take (i := 21) (v := ?_) rfl rfl (by kernel_rfl) (by kernel_rfl) (by kernel_rfl) (fun _ _ _ h => h) (by rfl) hHeld ?_ ?_
              rotate_left
              · rintro wh ⟨z0, z1, z2⟩
                go_simp
                (try with_reducible rfl)
              simp only [Act.put, List.setIfInBounds_toArray, List.set_cons_zero, List.set_cons_succ]
              refine held_take (i := 22) (v := ?_) rfl rfl (by kernel_rfl) (by kernel_rfl) (by kernel_rfl) (fun _ _ _ h => h) (by rfl) hHeld ?_ ?_
              rotate_left
              · rintro wh ⟨z0, z1, z2⟩
                go_simp
                (try with_reducible rfl)
              simp only [Act.put, List.setIfInBounds_toArray, List.set_cons_zero, List.set_cons_succ]
              refine held_take (i := 23) (v := ?_) rfl rfl (by kernel_rfl) (by kernel_rfl) (by kernel_rfl) (fun _ _ _ h => h) (by rfl) hHeld ?_ ?_
              rotate_left
              · rintro wh ⟨z0, z1, z2⟩
                go_simp
                (try with_reducible rfl)
              simp only [Act.put, List.setIfInBounds_toArray, List.set_cons_zero, List.set_cons_succ]
              refine held_take (i := 24) (v := ?_) rfl rfl (by kernel_rfl) (by kernel_rfl) (by kernel_rfl) (fun _ _ _ h => h) (by rfl) hHeld ?_ ?_
              rotate_left
              · rintro wh ⟨z0, z1, z2⟩
                go_simp
                (try with_reducible rfl)
              simp only [Act.put, List.setIfInBounds_toArray, List.set_cons_zero, List.set_cons_succ]
              refine held_take (i := 25) (v := ?_) rfl rfl (by kernel_rfl) (by kernel_rfl) (by kernel_rfl) (fun _ _ _ h => h) (by rfl) hHeld ?_ ?_
              rotate_left
              · rintro wh ⟨z0, z1, z2⟩
                go_simp
                (try with_reducible rfl)
              simp only [Act.put, List.setIfInBounds_toArray, List.set_cons_zero, List.set_cons_succ]
              refine held_take (i := 26) (v := ?_) rfl rfl (by kernel_rfl) (by kernel_rfl) (by kernel_rfl) (fun _ _ _ h => h) (by rfl) hHeld ?_ ?_
              rotate_left
              · rintro wh ⟨z0, z1, z2⟩
                go_simp
                (try with_reducible rfl)
              simp only [Act.put, List.setIfInBounds_toArray, List.set_cons_zero, List.set_cons_succ]
              refine held_take (i := 27) (v := ?_) rfl rfl (by kernel_rfl) (by kernel_rfl) (by kernel_rfl) (fun _ _ _ h => h) (by rfl) hHeld ?_ ?_
              rotate_left
              · rintro wh ⟨z0, z1, z2⟩
                go_simp
                (try with_reducible rfl)
              simp only [Act.put, List.setIfInBounds_toArray, List.set_cons_zero, List.set_cons_succ]
              refine held_take (i := 28) (v := ?_) rfl rfl (by kernel_rfl) (by kernel_rfl) (by kernel_rfl) (fun _ _ _ h => h) (by rfl) hHeld ?_ ?_
              rotate_left
              · rintro wh ⟨z0, z1, z2⟩
                go_simp
                (try with_reducible rfl)
              simp only [Act.put, List.setIfInBounds_toArray, List.set_cons_zero, List.set_cons_succ]
              refine held_take (i := 29) (v := ?_) rfl rfl (by kernel_rfl) (by kernel_rfl) (by kernel_rfl) (fun _ _ _ h => h) (by rfl) hHeld ?_ ?_
              rotate_left
              · rintro wh ⟨z0, z1, z2⟩
                go_simp
                (try with_reducible rfl)
              simp only [Act.put, List.setIfInBounds_toArray, List.set_cons_zero, List.set_cons_succ]
              refine held_take (i := 30) (v := ?_) rfl rfl (by kernel_rfl) (by kernel_rfl) (by kernel_rfl) (fun _ _ _ h => h) (by rfl) hHeld ?_ ?_
              rotate_left
              · rintro wh ⟨z0, z1, z2⟩
                go_simp
                (try with_reducible rfl)
              simp only [Act.put, List.setIfInBounds_toArray, List.set_cons_zero, List.set_cons_succ]
              refine held_call (i := 31) rfl (by kernel_rfl) (by rfl) (fun K hK => ?_)
              (go_simp; go_at_call 125; refine (hah _).mono ?_; rintro e w2 ⟨rfl, hb2⟩; have hB2 : Below wr.heap.size wr w2 := hB1.trans hb2)
              refine hK.out _ _ ⟨keep_cell a0 hB2 hwb, keep_cell a1 hB2 hwb, keep_cell az hB2 hwb⟩ (fun hHeld => ?_)
              clear hK K
              (try simp only [Act.put, List.setIfInBounds_toArray, List.set_cons_zero, List.set_cons_succ])
              refine held_take (i := 32) (v := ?_) rfl rfl (by kernel_rfl) (by kernel_rfl) (by kernel_rfl) (fun _ _ _ h => h) (by rfl) hHeld ?_ ?_
              rotate_left
              · rintro wh ⟨z0, z1, z2⟩
                go_simp
                (try with_reducible rfl)
              simp only [Act.put, List.setIfInBounds_toArray, List.set_cons_zero, List.set_cons_succ]
              refine held_take (i := 33) (v := ?_) rfl rfl (by kernel_rfl) (by kernel_rfl) (by kernel_rfl) (fun _ _ _ h => h) (by rfl) hHeld ?_ ?_
              rotate_left
              · rintro wh ⟨z0, z1, z2⟩
                go_simp
                (try with_reducible rfl)
              simp only [Act.put, List.setIfInBounds_toArray, List.set_cons_zero, List.set_cons_succ]
              refine held_take (i := 34) (v := ?_) rfl rfl (by kernel_rfl) (by kernel_rfl) (by kernel_rfl) (fun _ _ _ h => h) (by rfl) hHeld ?_ ?_
              rotate_left
              · rintro wh ⟨z0, z1, z2⟩
                go_simp
                (try with_reducible rfl)
              simp only [Act.put, List.setIfInBounds_toArray, List.set_cons_zero, List.set_cons_succ]
              refine wpAnyH_done (by kernel_rfl) ?_ _
              have hbn : Below w.heap.size w w2 := hbr.trans (hB2.mono hbr.size)
              clear hB1 hB2 hb2 hn hah
              go_wp2
              go_roundw
              case rel => exact ⟨k + 1, by omega, by go_num, HN, hbn⟩
              case measure => (simp [intOf]; try omega)
        · have g1 : (200 : Int) < (y.size : Int) := by omega
          have HZ := hbad (by rw [hnm, decide_eq_false hy2]; rfl)
          clear hstep hbad hall hnm hy2 hfs
          go_upto_region 4 with fail
          refine wp_region_held_drew (S := (fun W => W.cell? ⟨b, o + k * 2, none⟩ = some (.string x) ∧ W.cell? ⟨b, o + k * 2 + 1, none⟩ = some (.string y))) (by kernel_rfl) ⟨a0, a1⟩ (fun hHeld => ?_)
          refine held_take (i := 0) (v := ?_) rfl rfl (by kernel_rfl) (by kernel_rfl) (by kernel_rfl) (fun _ _ _ h => h) (by rfl) hHeld ?_ ?_
          rotate_left
          · rintro wh ⟨z0, z1⟩
            go_simp
            (try with_reducible rfl)
          simp only [Act.put, List.setIfInBounds_toArray, List.set_cons_zero, List.set_cons_succ]
          refine held_take (i := 1) (v := ?_) rfl rfl (by kernel_rfl) (by kernel_rfl) (by kernel_rfl) (fun _ _ _ h => h) (by rfl) hHeld ?_ ?_
          rotate_left
          · rintro wh ⟨z0, z1⟩
            go_simp
            (try with_reducible rfl)
          simp only [Act.put, List.setIfInBounds_toArray, List.set_cons_zero, List.set_cons_succ]
          refine held_take (i := 2) (v := ?_) rfl rfl (by kernel_rfl) (by kernel_rfl) (by kernel_rfl) (fun _ _ _ h => h) (by rfl) hHeld ?_ ?_
          rotate_left
          · rintro wh ⟨z0, z1⟩
            go_simp
            (try with_reducible rfl)
          simp only [Act.put, List.setIfInBounds_toArray, List.set_cons_zero, List.set_cons_succ]
          refine held_take (i := 3) (v := ?_) rfl rfl (by kernel_rfl) (by kernel_rfl) (by kernel_rfl) (fun _ _ _ h => h) (by rfl) hHeld ?_ ?_
          rotate_left
          · rintro wh ⟨z0, z1⟩
            go_simp
            (try with_reducible rfl)
          simp only [Act.put, List.setIfInBounds_toArray, List.set_cons_zero, List.set_cons_succ]
          refine held_take (i := 4) (v := ?_) rfl rfl (by kernel_rfl) (by kernel_rfl) (by kernel_rfl) (fun _ _ _ h => h) (by rfl) hHeld ?_ ?_
          rotate_left
          · rintro wh ⟨z0, z1⟩
            go_simp
            (try with_reducible rfl)
          simp only [Act.put, List.setIfInBounds_toArray, List.set_cons_zero, List.set_cons_succ]
          refine held_call (i := 5) rfl (by kernel_rfl) (by rfl) (fun K hK => ?_)
          (go_simp; go_at_call 55; refine (hn _).mono ?_; rintro e w1 ⟨rfl, rfl⟩; have hB1 : Below wr.heap.size wr wr.drew := (Below.refl _ _).drew)
          refine hK.out _ _ ⟨keep_cell a0 hB1 hwb, keep_cell a1 hB1 hwb⟩ (fun hHeld => ?_)
          clear hK K
          (try simp only [Act.put, List.setIfInBounds_toArray, List.set_cons_zero, List.set_cons_succ])
          refine held_take (i := 6) (v := ?_) rfl rfl (by kernel_rfl) (by kernel_rfl) (by kernel_rfl) (fun _ _ _ h => h) (by rfl) hHeld ?_ ?_
          rotate_left
          · rintro wh ⟨z0, z1⟩
            go_simp
            (try with_reducible rfl)
          simp only [Act.put, List.setIfInBounds_toArray, List.set_cons_zero, List.set_cons_succ]
          refine held_take (i := 7) (v := ?_) rfl rfl (by kernel_rfl) (by kernel_rfl) (by kernel_rfl) (fun _ _ _ h => h) (by rfl) hHeld ?_ ?_
          rotate_left
          · rintro wh ⟨z0, z1⟩
            go_simp
            (try with_reducible rfl)
          simp only [Act.put, List.setIfInBounds_toArray, List.set_cons_zero, List.set_cons_succ]
          refine held_take (i := 8) (v := ?_) rfl rfl (by kernel_rfl) (by kernel_rfl) (by kernel_rfl) (fun _ _ _ h => h) (by rfl) hHeld ?_ ?_
          rotate_left
          · rintro wh ⟨z0, z1⟩
            go_simp
            (try with_reducible rfl)
          simp only [Act.put, List.setIfInBounds_toArray, List.set_cons_zero, List.set_cons_succ]
          refine held_take (i := 9) (v := ?_) rfl rfl (by kernel_rfl) (by kernel_rfl) (by kernel_rfl) (fun _ _ _ h => h) (by rfl) hHeld ?_ ?_
          rotate_left
          · rintro wh ⟨z0, z1⟩
            go_simp
            (try with_reducible rfl)
          simp only [Act.put, List.setIfInBounds_toArray, List.set_cons_zero, List.set_cons_succ]
          refine held_take (i := 10) (v := ?_) rfl rfl (by kernel_rfl) (by kernel_rfl) (by kernel_rfl) (fun _ _ _ h => h) (by rfl) hHeld ?_ ?_
          rotate_left
          · rintro wh ⟨z0, z1⟩
            go_simp
            (try with_reducible rfl)
          simp only [Act.put, List.setIfInBounds_toArray, List.set_cons_zero, List.set_cons_succ]
          refine held_take (i := 11) (v := ?_) rfl rfl (by kernel_rfl) (by kernel_rfl) (by kernel_rfl) (fun _ _ _ h => h) (by rfl) hHeld ?_ ?_
          rotate_left
          · rintro wh ⟨z0, z1⟩
            go_simp
            (try with_reducible rfl)
          simp only [Act.put, List.setIfInBounds_toArray, List.set_cons_zero, List.set_cons_succ]
          refine held_take (i := 12) (v := ?_) rfl rfl (by kernel_rfl) (by kernel_rfl) (by kernel_rfl) (fun _ _ _ h => h) (by rfl) hHeld ?_ ?_
          rotate_left
          · rintro wh ⟨z0, z1⟩
            go_simp
            (try with_reducible rfl)
          simp only [Act.put, List.setIfInBounds_toArray, List.set_cons_zero, List.set_cons_succ]
          refine held_take (i := 13) (v := ?_) rfl rfl (by kernel_rfl) (by kernel_rfl) (by kernel_rfl) (fun _ _ _ h => h) (by rfl) hHeld ?_ ?_
          rotate_left
          · rintro wh ⟨z0, z1⟩
            go_simp
            (try with_reducible rfl)
          simp only [Act.put, List.setIfInBounds_toArray, List.set_cons_zero, List.set_cons_succ]
          refine held_take (i := 14) (v := ?_) rfl rfl (by kernel_rfl) (by kernel_rfl) (by kernel_rfl) (fun _ _ _ h => h) (by rfl) hHeld ?_ ?_
          rotate_left
          · rintro wh ⟨z0, z1⟩
            go_simp
            (try with_reducible rfl)
          simp only [Act.put, List.setIfInBounds_toArray, List.set_cons_zero, List.set_cons_succ]
          refine held_take (i := 15) (v := ?_) rfl rfl (by kernel_rfl) (by kernel_rfl) (by kernel_rfl) (fun _ _ _ h => h) (by rfl) hHeld ?_ ?_
          rotate_left
          · rintro wh ⟨z0, z1⟩
            go_simp
            (try with_reducible rfl)
          simp only [Act.put, List.setIfInBounds_toArray, List.set_cons_zero, List.set_cons_succ]
          refine held_take (i := 16) (v := ?_) rfl rfl (by kernel_rfl) (by kernel_rfl) (by kernel_rfl) (fun _ _ _ h => h) (by rfl) hHeld ?_ ?_
          rotate_left
          · rintro wh ⟨z0, z1⟩
            go_simp
            (try with_reducible rfl)
          simp only [Act.put, List.setIfInBounds_toArray, List.set_cons_zero, List.set_cons_succ]
          refine held_skip (i := 17) rfl rfl (by kernel_rfl) (by kernel_rfl) (by kernel_rfl) (fun _ _ _ h => h) (by rfl) hHeld ?_
          simp only [Act.put, List.setIfInBounds_toArray, List.set_cons_zero, List.set_cons_succ]
          refine held_skip (i := 18) rfl rfl (by kernel_rfl) (by kernel_rfl) (by kernel_rfl) (fun _ _ _ h => h) (by rfl) hHeld ?_
          simp only [Act.put, List.setIfInBounds_toArray, List.set_cons_zero, List.set_cons_succ]
          refine held_skip (i := 19) rfl rfl (by kernel_rfl) (by kernel_rfl) (by kernel_rfl) (fun _ _ _ h => h) (by rfl) hHeld ?_
          simp only [Act.put, List.setIfInBounds_toArray, List.set_cons_zero, List.set_cons_succ]
          refine held_skip (i := 20) rfl rfl (by kernel_rfl) (by kernel_rfl) (by kernel_rfl) (fun _ _ _ h => h) (by rfl) hHeld ?_
          simp only [Act.put, List.setIfInBounds_toArray, List.set_cons_zero, List.set_cons_succ]
          refine held_skip (i := 21) rfl rfl (by kernel_rfl) (by kernel_rfl) (by kernel_rfl) (fun _ _ _ h => h) (by rfl) hHeld ?_
          simp only [Act.put, List.setIfInBounds_toArray, List.set_cons_zero, List.set_cons_succ]
          refine held_skip (i := 22) rfl rfl (by kernel_rfl) (by kernel_rfl) (by kernel_rfl) (fun _ _ _ h => h) (by rfl) hHeld ?_
          simp only [Act.put, List.setIfInBounds_toArray, List.set_cons_zero, List.set_cons_succ]
          refine held_skip (i := 23) rfl rfl (by kernel_rfl) (by kernel_rfl) (by kernel_rfl) (fun _ _ _ h => h) (by rfl) hHeld ?_
          simp only [Act.put, List.setIfInBounds_toArray, List.set_cons_zero, List.set_cons_succ]
          refine held_skip (i := 24) rfl rfl (by kernel_rfl) (by kernel_rfl) (by kernel_rfl) (fun _ _ _ h => h) (by rfl) hHeld ?_
          simp only [Act.put, List.setIfInBounds_toArray, List.set_cons_zero, List.set_cons_succ]
          refine held_skip (i := 25) rfl rfl (by kernel_rfl) (by kernel_rfl) (by kernel_rfl) (fun _ _ _ h => h) (by rfl) hHeld ?_
          simp only [Act.put, List.setIfInBounds_toArray, List.set_cons_zero, List.set_cons_succ]
          refine held_skip (i := 26) rfl rfl (by kernel_rfl) (by kernel_rfl) (by kernel_rfl) (fun _ _ _ h => h) (by rfl) hHeld ?_
          simp only [Act.put, List.setIfInBounds_toArray, List.set_cons_zero, List.set_cons_succ]
          refine held_skip (i := 27) rfl rfl (by kernel_rfl) (by kernel_rfl) (by kernel_rfl) (fun _ _ _ h => h) (by rfl) hHeld ?_
          simp only [Act.put, List.setIfInBounds_toArray, List.set_cons_zero, List.set_cons_succ]
          refine held_skip (i := 28) rfl rfl (by kernel_rfl) (by kernel_rfl) (by kernel_rfl) (fun _ _ _ h => h) (by rfl) hHeld ?_
          simp only [Act.put, List.setIfInBounds_toArray, List.set_cons_zero, List.set_cons_succ]
          refine held_skip (i := 29) rfl rfl (by kernel_rfl) (by kernel_rfl) (by kernel_rfl) (fun _ _ _ h => h) (by rfl) hHeld ?_
          simp only [Act.put, List.setIfInBounds_toArray, List.set_cons_zero, List.set_cons_succ]
          refine held_skip (i := 30) rfl rfl (by kernel_rfl) (by kernel_rfl) (by kernel_rfl) (fun _ _ _ h => h) (by rfl) hHeld ?_
          simp only [Act.put, List.setIfInBounds_toArray, List.set_cons_zero, List.set_cons_succ]
          refine held_skip (i := 31) rfl rfl (by kernel_rfl) (by kernel_rfl) (by kernel_rfl) (fun _ _ _ h => h) (by rfl) hHeld ?_
          simp only [Act.put, List.setIfInBounds_toArray, List.set_cons_zero, List.set_cons_succ]
          refine held_skip (i := 32) rfl rfl (by kernel_rfl) (by kernel_rfl) (by kernel_rfl) (fun _ _ _ h => h) (by rfl) hHeld ?_
          simp only [Act.put, List.setIfInBounds_toArray, List.set_cons_zero, List.set_cons_succ]
          refine held_skip (i := 33) rfl rfl (by kernel_rfl) (by kernel_rfl) (by kernel_rfl) (fun _ _ _ h => h) (by rfl) hHeld ?_
          simp only [Act.put, List.setIfInBounds_toArray, List.set_cons_zero, List.set_cons_succ]
          refine held_take (i := 34) (v := ?_) rfl rfl (by kernel_rfl) (by kernel_rfl) (by kernel_rfl) (fun _ _ _ h => h) (by rfl) hHeld ?_ ?_
          rotate_left
          · rintro wh ⟨z0, z1⟩
            go_simp
            (try with_reducible rfl)
          simp only [Act.put, List.setIfInBounds_toArray, List.set_cons_zero, List.set_cons_succ]
          refine wpAnyH_done (by kernel_rfl) ?_ _
          have hbn : Below w.heap.size w wr.drew := hbr.trans (hB1.mono hbr.size)
          clear hB1 hn
          generalize wr.drew = wq at *
          go_wp2
          go_ret
          exact ⟨by rw [HZ.out]; rfl, hbn⟩
    · obtain rfl : k = l.length := by omega
      have HG : Hid (rightF l = decide (l.length ≤ 8)) := rightF_good HT.out
      clear HT
      by_cases h8 : l.length ≤ 8
      · have h8' : ((l.length : Int) ≤ 8) := by omega
        go_wp2
        go_ret
        exact ⟨by rw [HG.out]; simp; omega, hbr⟩
      · have h8' : (8 : Int) < (l.length : Int) := by omega
        go_wp2
        go_ret
        exact ⟨by rw [HG.out]; simp; omega, hbr⟩
end Go.Proofs.YtcfococinllcmaaGreat

/- Several parts in one: Matchers: what lies in memory; match.Fine, Value, is, not: contracts. slices.IndexFunc and ContainsFunc at matchers and at fields, whatever the closure: contracts; match.Value. -/
namespace Go.Proofs.YtcfococinllcmaaGreat
open Go.RowKit
structure Mt where
  nm : ByteArray
  op : Int
  val : ByteArray
instance : Inhabited Mt := ⟨⟨⟨#[]⟩, 0, ⟨#[]⟩⟩⟩
def mtC (m : Mt) : List Value := [.string m.nm, .int .i64 m.op, .string m.val]
abbrev mtV (m : Mt) : Value := .agg #[.string m.nm, .int .i64 m.op, .string m.val]
def mtCells : List Mt → List Value
  | [] => []
  | m :: l => .string m.nm :: .int .i64 m.op :: .string m.val :: mtCells l
theorem mtCells_len (l : List Mt) : (mtCells l).length = l.length * 3 := by
  induction l with
  | nil => rfl
  | cons s l ih => simp [mtCells, ih]; omega
theorem mtCells_at (l : List Mt) (i : Nat) (h : i < l.length) : (mtCells l)[i * 3]? = some (.string l[i].nm) ∧ (mtCells l)[i * 3 + 1]? = some (.int .i64 l[i].op) ∧ (mtCells l)[i * 3 + 2]? = some (.string l[i].val) := by
  induction l generalizing i with
  | nil => cases h
  | cons s l ih =>
    cases i with
    | zero => simp [mtCells]
    | succ i =>
      obtain ⟨h1, h2, h3⟩ := ih i (by simpa using h)
      have e : (i + 1) * 3 = i * 3 + 3 := by omega
      rw [e]
      simp only [mtCells, List.getElem_cons_succ]
      refine ⟨?_, ?_, ?_⟩
      · rw [show i * 3 + 3 = i * 3 + 1 + 1 + 1 by omega]; simpa using h1
      · rw [show i * 3 + 3 + 1 = i * 3 + 1 + 1 + 1 + 1 by omega]; simpa using h2
      · rw [show i * 3 + 3 + 2 = i * 3 + 2 + 1 + 1 + 1 by omega]; simpa using h3
def MtsAt (w : World) (v : Value) (l : List Mt) : Prop := RdAt w v l.length 3 (mtCells l)
theorem MtsAt.later {w w' : World} {v : Value} {l : List Mt} (h : MtsAt w v l) (hb : Below w.heap.size w w') : MtsAt w' v l := RdAt.later h hb
def MtFit (m : Mt) : Prop := m.nm.size ≤ maxLen ∧ m.val.size ≤ maxLen
def MtsFit (l : List Mt) : Prop := ∀ m ∈ l, MtFit m
def fineM (m : Mt) : Bool := nameL (B m.nm) && decide (0 ≤ m.op) && decide (m.op ≤ 3) && decide (m.val.size ≤ 200) && (decide (m.op < 2) || decide (errM m.val = 0))
theorem fineM_true {m : Mt} (h : fineM m = true) : nameL (B m.nm) = true ∧ 0 ≤ m.op ∧ m.op ≤ 3 ∧ m.val.size ≤ 200 ∧ (m.op < 2 ∨ errM m.val = 0) := by
  unfold fineM at h
  simp only [Bool.and_eq_true, Bool.or_eq_true, decide_eq_true_eq] at h
  obtain ⟨⟨⟨⟨h1, h2⟩, h3⟩, h4⟩, h5⟩ := h
  exact ⟨h1, h2, h3, h4, h5⟩
theorem box3m {w W : World} {a b c : Value} {t : TypeId} (hb : Below (w.alloc (.cells #[a, b, c] t)).heap.size (w.alloc (.cells #[a, b, c] t)) W) :
    (W.cell? ⟨w.heap.size, 0, none⟩ = some a ∧ W.cell? ⟨w.heap.size, 1, none⟩ = some b ∧ W.cell? ⟨w.heap.size, 2, none⟩ = some c) ∧ w.heap.size < W.heap.size ∧ Below w.heap.size w W := by
  obtain ⟨h, h2, h3⟩ := box_cells hb
  exact ⟨⟨h 0 _ rfl, h 1 _ rfl, h 2 _ rfl⟩, h2, h3⟩
set_option maxHeartbeats 1600000 in
set_option maxRecDepth 100000 in
theorem mfine_any (m : Mt) (w : World) (hf : MtFit m) : Calls Tryz.prog 49 #[.agg #[.string m.nm, .int .i64 m.op, .string m.val]] w fun e w' => e = .returned (.bool (fineM m)) ∧ Below w.heap.size w w' := by
  have kn := fun W => name_any m.nm W hf.1
  have kr := fun W => right_is m.val W
  have hz := hf.2
  have HF : Hid (fineM m = (nameL (B m.nm) && decide (0 ≤ m.op) && decide (m.op ≤ 3) && decide (m.val.size ≤ 200) && (decide (m.op < 2) || decide (errM m.val = 0)))) := Lib.hid rfl
  obtain ⟨nm, op, val⟩ := m
  dsimp only at *
  generalize fineM ⟨nm, op, val⟩ = R at *
  generalize nameL (B nm) = N at *
  have HR := Lib.hid kr
  unfold maxLen at hz
  clear hf kr
  have kn0 := kn (w.alloc (.cells #[.string nm, .int .i64 op, .string val] 108))
  clear kn
  go_enter Tryz.func49, Tryz.ntmps49
  go_wp2_with fail
  refine kn0.mono ?_
  rintro e w1 ⟨rfl, hb1⟩
  obtain ⟨⟨x0, x1, x2⟩, hlt, hB1⟩ := box3m hb1
  have HB := Lib.hid hB1
  clear kn0 hb1 hB1
  cases N with
  | false =>
    go_wp2
    go_ret
    exact ⟨by rw [HF.out]; rfl, HB.out⟩
  | true =>
    by_cases h0 : op < 0
    · rw [show decide (0 ≤ op) = false from decide_eq_false (by omega)] at HF
      go_wp2
      go_ret
      exact ⟨by rw [HF.out]; rfl, HB.out⟩
    · rw [show decide (0 ≤ op) = true from decide_eq_true (by omega)] at HF
      by_cases h3 : 3 < op
      · rw [show decide (op ≤ 3) = false from decide_eq_false (by omega)] at HF
        go_wp2
        go_ret
        exact ⟨by rw [HF.out]; rfl, HB.out⟩
      · rw [show decide (op ≤ 3) = true from decide_eq_true (by omega)] at HF
        by_cases hs : 200 < val.size
        · rw [show decide (val.size ≤ 200) = false from decide_eq_false (by omega)] at HF
          go_wp2
          go_ret
          exact ⟨by rw [HF.out]; rfl, HB.out⟩
        · rw [show decide (val.size ≤ 200) = true from decide_eq_true (by omega)] at HF
          by_cases h2 : op < 2
          · rw [show decide (op < 2) = true from decide_eq_true h2] at HF
            go_wp2
            go_ret
            exact ⟨by rw [HF.out]; rfl, HB.out⟩
          · rw [show decide (op < 2) = false from decide_eq_false h2] at HF
            have kr := HR.out w1
            have hde : Hid ((errM val == 0) = decide (errM val = 0)) := Lib.hid (by rw [Bool.eq_iff_iff]; simp)
            generalize errM val = E at *
            go_wp2_with fail
            refine kr.mono ?_
            rintro e w2 ⟨rfl, hb2⟩
            clear kr
            go_wp2
            go_ret
            exact ⟨by show Ending.returned (.bool (decide (op < 2) || E == 0)) = _; rw [HF.out, ← hde.out, decide_eq_false (show ¬ op < 2 by omega)]; rfl, HB.out.trans (hb2.mono HB.out.size)⟩
theorem is_any (a b : ByteArray) (w : World) : Calls Tryz.prog 116 #[.string a, .string b] w fun e w' => e = .returned (.bool (b.toList == a.toList)) ∧ Below w.heap.size w w' := by
  go_enter Tryz.func116, Tryz.ntmps116
  go_wp2
  go_ret
  exact ⟨rfl, Below.refl _ _⟩
end Go.Proofs.YtcfococinllcmaaGreat
namespace Go.Proofs.YtcfococinllcmaaGreat
open Go.RowKit
theorem idx_findM {α : Type} (p : α → Bool) (x : α) : ∀ (l : List α) (i : Nat),
    (∃ k, ∃ h : k < l.length, Lib.idxByFrom (fun _ y => p y) x l i = ((i + k : Nat) : Int) ∧ l.find? p = some l[k] ∧ l.any p = true) ∨
    (Lib.idxByFrom (fun _ y => p y) x l i = -1 ∧ l.find? p = none ∧ l.any p = false)
  | [], i => .inr ⟨rfl, rfl, rfl⟩
  | y :: r, i => by
    by_cases h : p y = true
    · exact .inl ⟨0, Nat.succ_pos _, by simp [Lib.idxByFrom, h], by simp [h], by simp [h]⟩
    · have h' : p y = false := by simpa using h
      rcases idx_findM p x r (i + 1) with ⟨k, hk, h1, h2, h3⟩ | ⟨h1, h2, h3⟩
      · refine .inl ⟨k + 1, by simpa using hk, ?_, by simp [h', h2], by simp [h', h3]⟩
        simp only [Lib.idxByFrom, h']
        rw [show (if false = true then (i : Int) else Lib.idxByFrom (fun _ y => p y) x r (i + 1)) = Lib.idxByFrom (fun _ y => p y) x r (i + 1) from rfl, h1]
        congr 1; omega
      · refine .inr ⟨?_, by simp [h', h2], by simp [h', h3]⟩
        simp only [Lib.idxByFrom, h']
        rw [show (if false = true then (i : Int) else Lib.idxByFrom (fun _ y => p y) x r (i + 1)) = Lib.idxByFrom (fun _ y => p y) x r (i + 1) from rfl, h1]
abbrev MtF := { m : Mt // MtFit m }
instance : Inhabited MtF := ⟨⟨⟨⟨#[]⟩, 0, ⟨#[]⟩⟩, by unfold MtFit maxLen; decide⟩⟩
theorem mtF_list : ∀ l : List Mt, MtsFit l → ∃ l' : List MtF, l'.map Subtype.val = l
  | [], _ => ⟨[], rfl⟩
  | m :: l, h => by
    obtain ⟨l', h'⟩ := mtF_list l (fun x hx => h x (List.mem_cons_of_mem _ hx))
    exact ⟨⟨m, h m List.mem_cons_self⟩ :: l', by rw [List.map_cons, h']⟩
theorem mtC_at (l : List Mt) (j : Nat) (h : j < l.length) (i : Nat) (v : Value) (hi : (mtC l[j])[i]? = some v) : (mtCells l)[j * 3 + i]? = some v := by
  obtain ⟨h1, h2, h3⟩ := mtCells_at l j h
  match i, hi with
  | 0, hi => rw [Nat.add_zero, h1]; exact hi
  | 1, hi => rw [h2]; exact hi
  | 2, hi => rw [h3]; exact hi
  | i + 3, hi => simp [mtC] at hi
theorem idxm_empty (a : Option Addr) (c : Nat) (f : Value) (w : World) :
    Calls Tryz.prog 87 #[.slice a 0 c, f] w fun e w' => e = .returned (.int .i64 (-1)) ∧ w' = w := by
  go_enter Tryz.func87, Tryz.ntmps87
  go_wp2
  refine wp_loop_rounds 1 ?_
  rw [rounds_succ]
  go_wp2
  go_ret
  exact ⟨rfl, rfl⟩
theorem idxm_gen (l : List Mt) (hfit : MtsFit l) (p : Mt → Bool) (g : Nat) (lb : Array Value) (eg : ∀ args w, (callFunc g args).run Tryz.prog w = .ok (.enter g args) w) (v : Value) (w : World) (hv : MtsAt w v l) (hl : l.length ≤ 1000000000000)
    (hp : ∀ W m, MtFit m → Below w.heap.size w W → Calls Tryz.prog g (#[mtV m] ++ lb) W fun e w' => e = .returned (.bool (p m)) ∧ Below W.heap.size W w') :
    Calls Tryz.prog 87 #[v, .func (.func g) #[] lb] w fun e w' => ∃ i : Int, e = .returned (.int .i64 i) ∧ decide (0 ≤ i) = l.any p ∧ Below w.heap.size w w' := by
  obtain ⟨a, c, rfl, hc, hr⟩ := RdAt.shape hv
  rcases Nat.eq_zero_or_pos l.length with h0 | h0
  · have hnil : l = [] := List.length_eq_zero_iff.1 h0
    subst hnil
    refine (idxm_empty _ _ _ _).mono ?_
    rintro e w' ⟨rfl, rfl⟩
    exact ⟨_, rfl, rfl, Below.refl _ _⟩
  · obtain ⟨gb, o, rfl, hg, hcell⟩ := hr h0
    obtain ⟨l', hl'⟩ : ∃ l' : List MtF, l'.map Subtype.val = l := mtF_list l hfit
    have hlen : l'.length = l.length := by rw [← hl', List.length_map]
    have hpb : PredBelow Tryz.prog g lb (fun x : MtF => .agg (mtC x.1).toArray) (fun x => p x.1) w := fun W x hW => by
      refine Calls.mono (hp W x.1 x.2 hW) ?_
      rintro e w' ⟨rfl, hb⟩
      exact ⟨rfl, hW.trans (hb.mono hW.size)⟩
    have h := AnyQ.slices_IndexFunc (α := MtF) Tryz.laysIdxM 3 Tryz.isAgg108 Tryz.sizeOf108 (fun x => mtC x.1) (fun _ => rfl) (fun x => p x.1) g lb eg gb o l.length c l' w hpb (by omega) (by omega) hg (fun j hj i x hx => by
        have hj' : j < l'.length := by omega
        have he : l[j]'(by omega) = (l'[j]'hj').1 := by
          have : (l'.map Subtype.val)[j]'(by rw [List.length_map]; exact hj') = (l'[j]'hj').1 := List.getElem_map ..
          rw [← this]; congr 1; exact hl'.symm
        have := hcell (j * 3 + i) x (mtC_at l j (by omega) i x (by rw [he]; rw [List.getElem!_eq_getElem?_getD, List.getElem?_eq_getElem hj'] at hx; exact hx))
        rw [show o + j * 3 + i = o + (j * 3 + i) by omega]
        exact this)
    rw [← hlen, List.take_length] at h
    rw [hlen] at h
    refine h.mono ?_
    rintro e w' ⟨rfl, hb⟩
    refine ⟨_, rfl, ?_, hb⟩
    have ha : l.any p = l'.any (fun x => p x.1) := by rw [← hl', List.any_map]; rfl
    rw [ha]
    unfold Lib.idxBy
    rcases idx_findM (fun x : MtF => p x.1) default l' 0 with ⟨k, _, h1, _, h3⟩ | ⟨h1, _, h3⟩
    · rw [h1, h3]; simp
    · rw [h1, h3]; decide
set_option maxHeartbeats 800000 in
theorem hasm_gen (l : List Mt) (hfit : MtsFit l) (p : Mt → Bool) (g : Nat) (lb : Array Value) (eg : ∀ args w, (callFunc g args).run Tryz.prog w = .ok (.enter g args) w) (v : Value) (w : World) (hv : MtsAt w v l) (hl : l.length ≤ 1000000000000)
    (hp : ∀ W m, MtFit m → Below w.heap.size w W → Calls Tryz.prog g (#[mtV m] ++ lb) W fun e w' => e = .returned (.bool (p m)) ∧ Below W.heap.size W w') :
    Calls Tryz.prog 52 #[v, .func (.func g) #[] lb] w fun e w' => e = .returned (.bool (l.any p)) ∧ Below w.heap.size w w' := by
  have hk := idxm_gen l hfit p g lb eg v w hv hl hp
  generalize l.any p = R at *
  obtain ⟨a, c, rfl, hc, hr⟩ := RdAt.shape hv
  clear hfit eg hv hp hr
  go_enter Tryz.func52, Tryz.ntmps52
  go_wp2_with fail
  refine hk.mono ?_
  rintro e w1 ⟨i, rfl, hi, hb1⟩
  have HI := Lib.hid hi
  clear hk hi
  go_wp2
  go_ret
  exact ⟨by rw [← HI.out]; rfl, hb1⟩
/-! fields -/
theorem fldC_at' (l : List Fld) (j : Nat) (h : j < l.length) (i : Nat) (v : Value) (hi : ([Value.string l[j].1, Value.string l[j].2])[i]? = some v) : (fldCells l)[j * 2 + i]? = some v := by
  obtain ⟨h1, h2⟩ := fldCells_at l j h
  match i, hi with
  | 0, hi => rw [Nat.add_zero, h1]; exact hi
  | 1, hi => rw [h2]; exact hi
  | i + 2, hi => simp at hi
theorem idxf_empty (a : Option Addr) (c : Nat) (f : Value) (w : World) :
    Calls Tryz.prog 131 #[.slice a 0 c, f] w fun e w' => e = .returned (.int .i64 (-1)) ∧ w' = w := by
  go_enter Tryz.func131, Tryz.ntmps131
  go_wp2
  refine wp_loop_rounds 1 ?_
  rw [rounds_succ]
  go_wp2
  go_ret
  exact ⟨rfl, rfl⟩
theorem idxf_gen (l : List Fld) (p : Fld → Bool) (g : Nat) (lb : Array Value) (eg : ∀ args w, (callFunc g args).run Tryz.prog w = .ok (.enter g args) w) (v : Value) (w : World) (hv : FldsAt w v l) (hl : l.length ≤ 1000000000000)
    (hp : ∀ W (x : Fld), Below w.heap.size w W → Calls Tryz.prog g (#[.agg #[.string x.1, .string x.2]] ++ lb) W fun e w' => e = .returned (.bool (p x)) ∧ Below W.heap.size W w') :
    Calls Tryz.prog 131 #[v, .func (.func g) #[] lb] w fun e w' =>
      e = .returned (.int .i64 (Lib.idxByFrom (fun _ (y : Fld) => p y) default l 0)) ∧ Below w.heap.size w w' := by
  obtain ⟨a, c, rfl, hc, hr⟩ := RdAt.shape hv
  rcases Nat.eq_zero_or_pos l.length with h0 | h0
  · have hnil : l = [] := List.length_eq_zero_iff.1 h0
    subst hnil
    refine (idxf_empty _ _ _ _).mono ?_
    rintro e w' ⟨rfl, rfl⟩
    exact ⟨rfl, Below.refl _ _⟩
  · obtain ⟨gb, o, rfl, hg, hcell⟩ := hr h0
    have hpb : PredBelow Tryz.prog g lb (fun x : Fld => .agg [Value.string x.1, Value.string x.2].toArray) p w := fun W x hW => by
      refine Calls.mono (hp W x hW) ?_
      rintro e w' ⟨rfl, hb⟩
      exact ⟨rfl, hW.trans (hb.mono hW.size)⟩
    have h := AnyQ.slices_IndexFunc (α := Fld) Tryz.laysIdxF 2 Tryz.isAgg103 Tryz.sizeOf103 (fun x => [Value.string x.1, Value.string x.2]) (fun _ => rfl) p g lb eg gb o l.length c l w hpb (Nat.le_refl _) (by omega) hg (fun j hj i x hx => by
        have := hcell (j * 2 + i) x (fldC_at' l j hj i x (by rw [List.getElem!_eq_getElem?_getD, List.getElem?_eq_getElem hj] at hx; exact hx))
        rw [show o + j * 2 + i = o + (j * 2 + i) by omega]
        exact this)
    rw [List.take_length] at h
    exact h
theorem valclos (x : Fld) (b : Nat) (n : ByteArray) (w : World) (hn : w.cell? ⟨b, 0, none⟩ = some (.string n)) (hlt : b < w.heap.size) :
    Calls Tryz.prog 136 #[.agg #[.string x.1, .string x.2], .pointer (some ⟨b, 0, none⟩)] w fun e w' => e = .returned (.bool (x.1.toList == n.toList)) ∧ Below w.heap.size w w' := by
  have h1 := keep_cell hn (alloc_below w (.cells #[.string x.1, .string x.2] 103)) hlt
  go_enter Tryz.func136, Tryz.ntmps136
  go_wp2
  go_ret
  exact ⟨rfl, alloc_below _ _⟩
def valueF (l : List Fld) (name : ByteArray) : ByteArray := match l.find? fun f => f.1.toList == name.toList with
  | some f => f.2
  | none => ⟨#[]⟩
set_option maxHeartbeats 1600000 in
set_option maxRecDepth 100000 in
theorem value_any (l : List Fld) (n : ByteArray) (w : World) (v : Value) (hv : FldsAt w v l) (hl : l.length ≤ 1000000000000) :
    Calls Tryz.prog 119 #[v, .string n] w fun e w' => e = .returned (.string (valueF l n)) ∧ Below w.heap.size w w' := by
  have hb0 := alloc_below w (.cells #[.string n] 9)
  have hv0 := FldsAt.later hv hb0
  have hlt0 : w.heap.size < (w.alloc (.cells #[.string n] 9)).heap.size := by rw [World.size_alloc]; omega
  have hn0 : (w.alloc (.cells #[.string n] 9)).cell? ⟨w.heap.size, 0, none⟩ = some (.string n) := by rw [cell_of_row _ _ _ _ _ _ (heap_alloc_new w _)]; rfl
  have kc := idxf_gen l (fun f => f.1.toList == n.toList) 136 #[.pointer (some ⟨w.heap.size, 0, none⟩)] (enters_of Tryz.func136 (by kernel_rfl) rfl) v _ hv0 hl
    (fun W x hW => valclos x w.heap.size n W (keep_cell hn0 hW hlt0) (Nat.lt_of_lt_of_le hlt0 hW.size))
  have HV := Lib.hid hv0
  obtain ⟨a, c, rfl, hc, hr⟩ := RdAt.shape hv
  clear hr hv hv0
  go_enter Tryz.func119, Tryz.ntmps119
  go_wp2_with fail
  refine kc.mono ?_
  rintro e w1 ⟨rfl, hb1⟩
  have B1 := Lib.hid (hb0.trans (hb1.mono (Nat.le_of_lt hlt0)))
  have HV1 := Lib.hid (HV.out.later hb1)
  clear kc hb0 hb1 hn0 hlt0 HV
  rcases idx_findM (fun f : Fld => f.1.toList == n.toList) default l 0 with ⟨k, hk, h1, h2, _⟩ | ⟨h1, h2, _⟩
  · have HR : Hid (valueF l n = l[k].2) := Lib.hid (by unfold valueF; rw [h2])
    rw [h1, Nat.zero_add]
    obtain ⟨_, _, he, _, hr⟩ := RdAt.shape HV1.out
    obtain ⟨gb, o, hab, hg, hcell⟩ := hr (by omega)
    simp only [Value.slice.injEq] at he
    obtain ⟨rfl, _, rfl⟩ := he
    subst hab
    have hc2 := hcell (k * 2 + 1) _ (fldCells_at l k hk).2
    have hk0 : (0 : Int) ≤ (k : Int) := by omega
    have hk1 : (k : Int) < (l.length : Int) := by omega
    clear h1 h2 hr hcell
    rw [← Nat.add_assoc] at hc2
    go_wp2
    go_ret
    exact ⟨by rw [HR.out]; rfl, B1.out⟩
  · have HR : Hid (valueF l n = ⟨#[]⟩) := Lib.hid (by unfold valueF; rw [h2])
    rw [h1]
    clear h1 h2
    go_wp2
    go_ret
    exact ⟨by rw [HR.out]; rfl, B1.out⟩
end Go.Proofs.YtcfococinllcmaaGreat

/- match.Fits: a contract. -/
namespace Go.Proofs.YtcfococinllcmaaGreat
open Go.RowKit
noncomputable def fitB (p t : ByteArray) : Bool := @decide (FitsP p t) (Classical.propDecidable _)
theorem fitB_iff {p t : ByteArray} : fitB p t = true ↔ FitsP p t := @decide_eq_true_iff _ (Classical.propDecidable _)
theorem fits_b (p t : ByteArray) (W : World) (ht : t.size ≤ maxLen) : Calls Tryz.prog 118 #[.string p, .string t] W fun e w' => e = .returned (.bool (fitB p t)) ∧ Below W.heap.size W w' := by
  refine (tfits_is p t W ht).mono ?_
  rintro e w' ⟨b, rfl, h1, h2⟩
  have : b = fitB p t := by rw [Bool.eq_iff_iff, fitB_iff]; exact h1
  rw [this]
  exact ⟨rfl, h2⟩
noncomputable def opM (m : Mt) (v : ByteArray) : Bool :=
  if m.op = 0 then v.toList == m.val.toList else if m.op = 1 then !(v.toList == m.val.toList) else if m.op = 2 then fitB m.val v else !(fitB m.val v)
noncomputable def fitM (l : List Fld) (m : Mt) : Bool := fineM m && opM m (valueF l m.nm)
theorem valueF_size {l : List Fld} (hf : FldsFit l) (n : ByteArray) : (valueF l n).size ≤ maxLen := by
  unfold valueF
  split
  · rename_i f h
    exact (hf f (List.mem_of_find?_eq_some h)).2
  · exact Nat.zero_le _
theorem not_fn (g : Nat) (w : World) : Calls Tryz.prog 117 #[.func (.func g) #[] #[]] w fun e w' => e = .returned (.func (.func 134) #[] #[.pointer (some ⟨w.heap.size, 0, none⟩)]) ∧ w' = w.alloc (.cells #[.func (.func g) #[] #[]] 179) := by
  go_enter Tryz.func117, Tryz.ntmps117
  go_wp2
  go_ret
  exact ⟨rfl, rfl⟩
theorem not_is (a v : ByteArray) (b : Nat) (w : World) (hc : w.cell? ⟨b, 0, none⟩ = some (.func (.func 116) #[] #[])) : Calls Tryz.prog 134 #[.string a, .string v, .pointer (some ⟨b, 0, none⟩)] w fun e w' => e = .returned (.bool (!(v.toList == a.toList))) ∧ Below w.heap.size w w' := by
  have k := is_any a v w
  go_enter Tryz.func134, Tryz.ntmps134
  go_wp2_with fail
  refine k.mono ?_
  rintro e w1 ⟨rfl, hb⟩
  clear k
  go_wp2
  go_ret
  exact ⟨rfl, hb⟩
theorem not_fits (a v : ByteArray) (b : Nat) (w : World) (hv : v.size ≤ maxLen) (hc : w.cell? ⟨b, 0, none⟩ = some (.func (.func 118) #[] #[])) : Calls Tryz.prog 134 #[.string a, .string v, .pointer (some ⟨b, 0, none⟩)] w fun e w' => e = .returned (.bool (!(fitB a v))) ∧ Below w.heap.size w w' := by
  have k := fits_b a v w hv
  generalize fitB a v = r at *
  go_enter Tryz.func134, Tryz.ntmps134
  go_wp2_with fail
  refine k.mono ?_
  rintro e w1 ⟨rfl, hb⟩
  clear k
  go_wp2
  go_ret
  exact ⟨rfl, hb⟩
structure FitBox (w : World) (nm : ByteArray) (op : Int) (val : ByteArray) (W : World) : Prop where
  b : Below w.heap.size w W
  z : w.heap.size + 2 < W.heap.size
  a0 : W.cell? ⟨w.heap.size, 0, none⟩ = some (.string nm)
  a1 : W.cell? ⟨w.heap.size, 1, none⟩ = some (.int .i64 op)
  a2 : W.cell? ⟨w.heap.size, 2, none⟩ = some (.string val)
  f1 : W.cell? ⟨w.heap.size + 1, 0, none⟩ = some (.func (.func 116) #[] #[])
  f2 : W.cell? ⟨w.heap.size + 2, 0, none⟩ = some (.func (.func 118) #[] #[])
theorem FitBox.later {w : World} {nm : ByteArray} {op : Int} {val : ByteArray} {W W' : World} (h : FitBox w nm op val W) (hb : Below W.heap.size W W') : FitBox w nm op val W' := by
  obtain ⟨b, z, a0, a1, a2, f1, f2⟩ := h
  exact ⟨b.trans (hb.mono b.size), Nat.lt_of_lt_of_le z hb.size, keep_cell a0 hb (by omega), keep_cell a1 hb (by omega), keep_cell a2 hb (by omega), keep_cell f1 hb (by omega), keep_cell f2 hb (by omega)⟩
theorem FitBox.mk3 (w : World) (nm : ByteArray) (op : Int) (val : ByteArray) (t u : TypeId) : FitBox w nm op val (((w.alloc (.cells #[.string nm, .int .i64 op, .string val] t)).alloc (.cells #[.func (.func 116) #[] #[]] u)).alloc (.cells #[.func (.func 118) #[] #[]] u)) := by
  have b1 := alloc_below w (.cells #[.string nm, .int .i64 op, .string val] t)
  have s1 := World.size_alloc w (.cells #[.string nm, .int .i64 op, .string val] t)
  have x1 := heap_alloc_new w (.cells #[.string nm, .int .i64 op, .string val] t)
  generalize w.alloc (.cells #[.string nm, .int .i64 op, .string val] t) = w1 at *
  have b2 := alloc_below w1 (.cells #[.func (.func 116) #[] #[]] u)
  have s2 := World.size_alloc w1 (.cells #[.func (.func 116) #[] #[]] u)
  have x2 := heap_alloc_new w1 (.cells #[.func (.func 116) #[] #[]] u)
  generalize w1.alloc (.cells #[.func (.func 116) #[] #[]] u) = w2 at *
  have b3 := alloc_below w2 (.cells #[.func (.func 118) #[] #[]] u)
  have s3 := World.size_alloc w2 (.cells #[.func (.func 118) #[] #[]] u)
  have x3 := heap_alloc_new w2 (.cells #[.func (.func 118) #[] #[]] u)
  generalize w2.alloc (.cells #[.func (.func 118) #[] #[]] u) = w3 at *
  rw [s1] at x2
  rw [show w2.heap.size = w.heap.size + 2 by omega] at x3
  have k : ∀ i v, w1.cell? ⟨w.heap.size, i, none⟩ = some v → w3.cell? ⟨w.heap.size, i, none⟩ = some v := fun i v h => keep_cell (keep_cell h b2 (by omega)) b3 (by omega)
  refine ⟨(b1.trans (b2.mono (by omega))).trans (b3.mono (by omega)), by omega, k _ _ ?_, k _ _ ?_, k _ _ ?_, keep_cell ?_ b3 (by omega), ?_⟩
  · rw [cell_of_row _ _ _ _ _ _ x1]; rfl
  · rw [cell_of_row _ _ _ _ _ _ x1]; rfl
  · rw [cell_of_row _ _ _ _ _ _ x1]; rfl
  · rw [cell_of_row _ _ _ _ _ _ x2]; rfl
  · rw [cell_of_row _ _ _ _ _ _ x3]; rfl
theorem store_row_step {P : Program} {W : World} {g j : Nat} {arr : Array Value} {t : TypeId} {v : Value} (hg : W.heap[g]? = some (.cells arr t (0, 0))) (hj : j < arr.size) (h1 : v.oneCell' = true) :
    ∃ W', (store ⟨g, j, none⟩ v).run P W = .ok () W' ∧ W'.heap[g]? = some (.cells (arr.setIfInBounds j v) t (0, 0)) ∧ Below g W W' := by
  have hc : W.cell? ⟨g, j, none⟩ = some arr[j] := by rw [cell_of_row _ _ _ _ _ _ hg]; exact Array.getElem?_eq_getElem hj
  have hf : W.frozen? ⟨g, j, none⟩ = false := by simp [World.frozen?, hg]
  refine ⟨W.setCell ⟨g, j, none⟩ v, ?_, ?_, ?_⟩
  · rw [run_store P W _ v _ h1, hc, hf]; rfl
  · simp [World.setCell, Array.getElem?_modify, hg]
  · refine ⟨rfl, rfl, rfl, by simp [World.setCell], fun k hk => ?_⟩
    have : g ≠ k := by omega
    simp [World.setCell, Array.getElem?_modify, this]
set_option maxHeartbeats 3200000 in
set_option maxRecDepth 100000 in
theorem fits_any (l : List Fld) (m : Mt) (w : World) (v : Value) (hv : FldsAt w v l) (hl : l.length ≤ 1000000000000) (hfit : FldsFit l) (hf : MtFit m) :
    Calls Tryz.prog 94 #[v, .agg #[.string m.nm, .int .i64 m.op, .string m.val]] w fun e w' => e = .returned (.bool (fitM l m)) ∧ Below w.heap.size w w' := by
  have kn := fun W => not_fn 116 W
  have kp := fun W => not_fn 118 W
  have kf := fun W => mfine_any m W hf
  have kv := fun W (hW : Below w.heap.size w W) => value_any l m.nm W v (hv.later hW) hl
  have hvs := valueF_size hfit m.nm
  have HM : Hid (fitM l m = (fineM m && opM m (valueF l m.nm))) := Lib.hid rfl
  have HO : Hid (∀ u, opM m u = if m.op = 0 then u.toList == m.val.toList else if m.op = 1 then !(u.toList == m.val.toList) else if m.op = 2 then fitB m.val u else !(fitB m.val u)) := Lib.hid (fun _ => rfl)
  have HT : Hid (fineM m = true → 0 ≤ m.op ∧ m.op ≤ 3) := Lib.hid (fun h => ⟨(fineM_true h).2.1, (fineM_true h).2.2.1⟩)
  obtain ⟨fa, fc, rfl, _, _⟩ := RdAt.shape hv
  generalize l.length = fn at *
  generalize valueF l m.nm = u at *
  generalize fitM l m = R at *
  generalize fineM m = N at *
  have HOU := Lib.hid (HO.out u)
  clear HO
  generalize opM m u = OU at *
  obtain ⟨nm, op, val⟩ := m
  dsimp only at *
  have HN := Lib.hid kn
  have HP := Lib.hid kp
  have HFI := Lib.hid kf
  have HV := Lib.hid kv
  clear hv hfit hf kn kp kf kv
  have kn := HN.out (w.alloc (.cells #[.string nm, .int .i64 op, .string val] 108))
  go_enter Tryz.func94, Tryz.ntmps94
  go_wp2_with fail
  refine kn.mono ?_
  rintro e w1 ⟨rfl, hw1⟩
  clear kn
  obtain rfl := hw1.symm
  clear hw1
  have kp := HP.out ((w.alloc (.cells #[.string nm, .int .i64 op, .string val] 108)).alloc (.cells #[.func (.func 116) #[] #[]] 179))
  go_wp2_with fail
  refine kp.mono ?_
  rintro e w2 ⟨rfl, hw2⟩
  clear kp
  have FB : FitBox w nm op val w2 := by rw [hw2]; exact FitBox.mk3 w nm op val _ _
  clear hw2
  have HFB := Lib.hid FB
  clear FB
  rw [World.size_alloc]
  have hx := heap_alloc_new w2 (.cells #[.nilFunc, .nilFunc, .nilFunc, .nilFunc] 181)
  have hba := alloc_below w2 (.cells #[.nilFunc, .nilFunc, .nilFunc, .nilFunc] 181)
  obtain ⟨s1, hs1, hx1, hb1⟩ := store_row_step (P := Tryz.prog) (j := 0) (v := .func (.func 116) #[] #[]) hx (by simp) rfl
  obtain ⟨s2, hs2, hx2, hb2⟩ := store_row_step (P := Tryz.prog) (j := 1) (v := .func (.func 134) #[] #[.pointer (some ⟨w.heap.size + 1, 0, none⟩)]) hx1 (by simp) rfl
  obtain ⟨s3, hs3, hx3, hb3⟩ := store_row_step (P := Tryz.prog) (j := 2) (v := .func (.func 118) #[] #[]) hx2 (by simp) rfl
  obtain ⟨s4, hs4, hx4, hb4⟩ := store_row_step (P := Tryz.prog) (j := 3) (v := .func (.func 134) #[] #[.pointer (some ⟨w.heap.size + 1 + 1, 0, none⟩)]) hx3 (by simp) rfl
  have FB := HFB.out.later ((((hba.trans hb1).trans hb2).trans hb3).trans hb4)
  have hz4 : w2.heap.size < s4.heap.size := (Array.getElem?_eq_some_iff.1 hx4).1
  have D0 : s4.cell? ⟨w2.heap.size, 0, none⟩ = some (.func (.func 116) #[] #[]) := by rw [cell_of_row _ _ _ _ _ _ hx4]; rfl
  have D1 : s4.cell? ⟨w2.heap.size, 1, none⟩ = some (.func (.func 134) #[] #[.pointer (some ⟨w.heap.size + 1, 0, none⟩)]) := by rw [cell_of_row _ _ _ _ _ _ hx4]; rfl
  have D2 : s4.cell? ⟨w2.heap.size, 2, none⟩ = some (.func (.func 118) #[] #[]) := by rw [cell_of_row _ _ _ _ _ _ hx4]; rfl
  have D3 : s4.cell? ⟨w2.heap.size, 3, none⟩ = some (.func (.func 134) #[] #[.pointer (some ⟨w.heap.size + 1 + 1, 0, none⟩)]) := by rw [cell_of_row _ _ _ _ _ _ hx4]; rfl
  clear hx hx1 hx2 hx3 hx4 hba hb1 hb2 hb3 hb4 HFB
  go_upto_region 2 with fail
  obtain ⟨fb, fz, a0, a1, a2, f1, f2⟩ := FB
  have y0 : w.heap.size < s4.heap.size := by omega
  have y1 : w.heap.size + 1 < s4.heap.size := by omega
  have y2 : w.heap.size + 1 + 1 < s4.heap.size := by omega
  have F1 := Lib.hid f1
  have F2 := Lib.hid f2
  have FBB := Lib.hid fb
  clear f1 f2 fb fz hs1 hs2 hs3 hs4
  cases N with
  | false =>
    refine wp_region_held_drew (S := (fun W' => W'.cell? ⟨w.heap.size, 0, none⟩ = some (.string nm) ∧ W'.cell? ⟨w.heap.size, 1, none⟩ = some (.int .i64 op) ∧ W'.cell? ⟨w.heap.size, 2, none⟩ = some (.string val))) (by kernel_rfl) ⟨a0, a1, a2⟩ (fun hHeld => ?_)
    refine held_take (i := 0) (v := ?_) rfl rfl (by kernel_rfl) (by kernel_rfl) (by kernel_rfl) (fun _ _ _ h => h) (by rfl) hHeld ?_ ?_
    rotate_left
    · rintro wh ⟨z0, z1, z2⟩
      go_simp
      (try with_reducible rfl)
    simp only [Act.put, List.setIfInBounds_toArray, List.set_cons_zero, List.set_cons_succ]
    refine held_call (i := 1) rfl (by kernel_rfl) (by rfl) (fun K hK => ?_)
    (go_simp; go_at_call 49; refine (HFI.out _).mono ?_; rintro e w5 ⟨rfl, hb5⟩; have hB5 : Below s4.heap.size s4 w5 := ((Below.refl _ _).drew).trans hb5)
    refine hK.out _ _ ⟨keep_cell a0 hB5 y0, keep_cell a1 hB5 y0, keep_cell a2 hB5 y0⟩ (fun hHeld => ?_)
    clear hK K
    (try simp only [Act.put, List.setIfInBounds_toArray, List.set_cons_zero, List.set_cons_succ])
    refine held_take (i := 2) (v := ?_) rfl rfl (by kernel_rfl) (by kernel_rfl) (by kernel_rfl) (fun _ _ _ h => h) (by rfl) hHeld ?_ ?_
    rotate_left
    · rintro wh ⟨z0, z1, z2⟩
      go_simp
      (try with_reducible rfl)
    simp only [Act.put, List.setIfInBounds_toArray, List.set_cons_zero, List.set_cons_succ]
    refine held_skip (i := 3) rfl rfl (by kernel_rfl) (by kernel_rfl) (by kernel_rfl) (fun _ _ _ h => h) (by rfl) hHeld ?_
    simp only [Act.put, List.setIfInBounds_toArray, List.set_cons_zero, List.set_cons_succ]
    refine held_skip (i := 4) rfl rfl (by kernel_rfl) (by kernel_rfl) (by kernel_rfl) (fun _ _ _ h => h) (by rfl) hHeld ?_
    simp only [Act.put, List.setIfInBounds_toArray, List.set_cons_zero, List.set_cons_succ]
    refine held_skip (i := 5) rfl rfl (by kernel_rfl) (by kernel_rfl) (by kernel_rfl) (fun _ _ _ h => h) (by rfl) hHeld ?_
    simp only [Act.put, List.setIfInBounds_toArray, List.set_cons_zero, List.set_cons_succ]
    refine held_skip (i := 6) rfl rfl (by kernel_rfl) (by kernel_rfl) (by kernel_rfl) (fun _ _ _ h => h) (by rfl) hHeld ?_
    simp only [Act.put, List.setIfInBounds_toArray, List.set_cons_zero, List.set_cons_succ]
    refine held_skip (i := 7) rfl rfl (by kernel_rfl) (by kernel_rfl) (by kernel_rfl) (fun _ _ _ h => h) (by rfl) hHeld ?_
    simp only [Act.put, List.setIfInBounds_toArray, List.set_cons_zero, List.set_cons_succ]
    refine held_skip (i := 8) rfl rfl (by kernel_rfl) (by kernel_rfl) (by kernel_rfl) (fun _ _ _ h => h) (by rfl) hHeld ?_
    simp only [Act.put, List.setIfInBounds_toArray, List.set_cons_zero, List.set_cons_succ]
    refine held_skip (i := 9) rfl rfl (by kernel_rfl) (by kernel_rfl) (by kernel_rfl) (fun _ _ _ h => h) (by rfl) hHeld ?_
    simp only [Act.put, List.setIfInBounds_toArray, List.set_cons_zero, List.set_cons_succ]
    refine held_skip (i := 10) rfl rfl (by kernel_rfl) (by kernel_rfl) (by kernel_rfl) (fun _ _ _ h => h) (by rfl) hHeld ?_
    simp only [Act.put, List.setIfInBounds_toArray, List.set_cons_zero, List.set_cons_succ]
    refine held_skip (i := 11) rfl rfl (by kernel_rfl) (by kernel_rfl) (by kernel_rfl) (fun _ _ _ h => h) (by rfl) hHeld ?_
    simp only [Act.put, List.setIfInBounds_toArray, List.set_cons_zero, List.set_cons_succ]
    refine held_skip (i := 12) rfl rfl (by kernel_rfl) (by kernel_rfl) (by kernel_rfl) (fun _ _ _ h => h) (by rfl) hHeld ?_
    simp only [Act.put, List.setIfInBounds_toArray, List.set_cons_zero, List.set_cons_succ]
    refine held_skip (i := 13) rfl rfl (by kernel_rfl) (by kernel_rfl) (by kernel_rfl) (fun _ _ _ h => h) (by rfl) hHeld ?_
    simp only [Act.put, List.setIfInBounds_toArray, List.set_cons_zero, List.set_cons_succ]
    refine held_take (i := 14) (v := ?_) rfl rfl (by kernel_rfl) (by kernel_rfl) (by kernel_rfl) (fun _ _ _ h => h) (by rfl) hHeld ?_ ?_
    rotate_left
    · rintro wh ⟨z0, z1, z2⟩
      go_simp
      (try with_reducible rfl)
    simp only [Act.put, List.setIfInBounds_toArray, List.set_cons_zero, List.set_cons_succ]
    refine held_take (i := 15) (v := ?_) rfl rfl (by kernel_rfl) (by kernel_rfl) (by kernel_rfl) (fun _ _ _ h => h) (by rfl) hHeld ?_ ?_
    rotate_left
    · rintro wh ⟨z0, z1, z2⟩
      go_simp
      (try with_reducible rfl)
    simp only [Act.put, List.setIfInBounds_toArray, List.set_cons_zero, List.set_cons_succ]
    refine wpAnyH_done (by kernel_rfl) ?_ _
    have HB := Lib.hid (FBB.out.trans (hB5.mono FBB.out.size))
    go_wp2
    go_ret
    exact ⟨by rw [HM.out]; rfl, HB.out⟩
  | true =>
    have ht := HT.out rfl
    rcases (show op = 0 ∨ op = 1 ∨ op = 2 ∨ op = 3 by omega) with rfl | rfl | rfl | rfl
    · clear ht
      rw [if_pos rfl] at HOU
      refine wp_region_held_drew (S := (fun W' => W'.cell? ⟨w.heap.size, 0, none⟩ = some (.string nm) ∧ W'.cell? ⟨w.heap.size, 1, none⟩ = some (.int .i64 0) ∧ W'.cell? ⟨w.heap.size, 2, none⟩ = some (.string val) ∧ W'.cell? ⟨w2.heap.size, 0, none⟩ = some (.func (.func 116) #[] #[]))) (by kernel_rfl) ⟨a0, a1, a2, D0⟩ (fun hHeld => ?_)
      refine held_take (i := 0) (v := ?_) rfl rfl (by kernel_rfl) (by kernel_rfl) (by kernel_rfl) (fun _ _ _ h => h) (by rfl) hHeld ?_ ?_
      rotate_left
      · rintro wh ⟨z0, z1, z2, z3⟩
        go_simp
        (try with_reducible rfl)
      simp only [Act.put, List.setIfInBounds_toArray, List.set_cons_zero, List.set_cons_succ]
      refine held_call (i := 1) rfl (by kernel_rfl) (by rfl) (fun K hK => ?_)
      (go_simp; go_at_call 49; refine (HFI.out _).mono ?_; rintro e w5 ⟨rfl, hb5⟩; have hB5 : Below s4.heap.size s4 w5 := ((Below.refl _ _).drew).trans hb5)
      refine hK.out _ _ ⟨keep_cell a0 hB5 y0, keep_cell a1 hB5 y0, keep_cell a2 hB5 y0, keep_cell D0 hB5 hz4⟩ (fun hHeld => ?_)
      clear hK K
      (try simp only [Act.put, List.setIfInBounds_toArray, List.set_cons_zero, List.set_cons_succ])
      refine held_take (i := 2) (v := ?_) rfl rfl (by kernel_rfl) (by kernel_rfl) (by kernel_rfl) (fun _ _ _ h => h) (by rfl) hHeld ?_ ?_
      rotate_left
      · rintro wh ⟨z0, z1, z2, z3⟩
        go_simp
        (try with_reducible rfl)
      simp only [Act.put, List.setIfInBounds_toArray, List.set_cons_zero, List.set_cons_succ]
      refine held_take (i := 3) (v := ?_) rfl rfl (by kernel_rfl) (by kernel_rfl) (by kernel_rfl) (fun _ _ _ h => h) (by rfl) hHeld ?_ ?_
      rotate_left
      · rintro wh ⟨z0, z1, z2, z3⟩
        go_simp
        (try with_reducible rfl)
      simp only [Act.put, List.setIfInBounds_toArray, List.set_cons_zero, List.set_cons_succ]
      refine held_take (i := 4) (v := ?_) rfl rfl (by kernel_rfl) (by kernel_rfl) (by kernel_rfl) (fun _ _ _ h => h) (by rfl) hHeld ?_ ?_
      rotate_left
      · rintro wh ⟨z0, z1, z2, z3⟩
        go_simp
        (try with_reducible rfl)
      simp only [Act.put, List.setIfInBounds_toArray, List.set_cons_zero, List.set_cons_succ]
      refine held_take (i := 5) (v := ?_) rfl rfl (by kernel_rfl) (by kernel_rfl) (by kernel_rfl) (fun _ _ _ h => h) (by rfl) hHeld ?_ ?_
      rotate_left
      · rintro wh ⟨z0, z1, z2, z3⟩
        go_simp
        (try with_reducible rfl)
      simp only [Act.put, List.setIfInBounds_toArray, List.set_cons_zero, List.set_cons_succ]
      refine held_take (i := 6) (v := ?_) rfl rfl (by kernel_rfl) (by kernel_rfl) (by kernel_rfl) (fun _ _ _ h => h) (by rfl) hHeld ?_ ?_
      rotate_left
      · rintro wh ⟨z0, z1, z2, z3⟩
        go_simp
        (try with_reducible rfl)
      simp only [Act.put, List.setIfInBounds_toArray, List.set_cons_zero, List.set_cons_succ]
      refine held_take (i := 7) (v := ?_) rfl rfl (by kernel_rfl) (by kernel_rfl) (by kernel_rfl) (fun _ _ _ h => h) (by rfl) hHeld ?_ ?_
      rotate_left
      · rintro wh ⟨z0, z1, z2, z3⟩
        go_simp
        (try with_reducible rfl)
      simp only [Act.put, List.setIfInBounds_toArray, List.set_cons_zero, List.set_cons_succ]
      refine held_take (i := 8) (v := ?_) rfl rfl (by kernel_rfl) (by kernel_rfl) (by kernel_rfl) (fun _ _ _ h => h) (by rfl) hHeld ?_ ?_
      rotate_left
      · rintro wh ⟨z0, z1, z2, z3⟩
        go_simp
        (try with_reducible rfl)
      simp only [Act.put, List.setIfInBounds_toArray, List.set_cons_zero, List.set_cons_succ]
      refine held_take (i := 9) (v := ?_) rfl rfl (by kernel_rfl) (by kernel_rfl) (by kernel_rfl) (fun _ _ _ h => h) (by rfl) hHeld ?_ ?_
      rotate_left
      · rintro wh ⟨z0, z1, z2, z3⟩
        go_simp
        (try with_reducible rfl)
      simp only [Act.put, List.setIfInBounds_toArray, List.set_cons_zero, List.set_cons_succ]
      refine held_take (i := 10) (v := ?_) rfl rfl (by kernel_rfl) (by kernel_rfl) (by kernel_rfl) (fun _ _ _ h => h) (by rfl) hHeld ?_ ?_
      rotate_left
      · rintro wh ⟨z0, z1, z2, z3⟩
        go_simp
        (try with_reducible rfl)
      simp only [Act.put, List.setIfInBounds_toArray, List.set_cons_zero, List.set_cons_succ]
      refine held_take (i := 11) (v := ?_) rfl rfl (by kernel_rfl) (by kernel_rfl) (by kernel_rfl) (fun _ _ _ h => h) (by rfl) hHeld ?_ ?_
      rotate_left
      · rintro wh ⟨z0, z1, z2, z3⟩
        go_simp
        (try with_reducible rfl)
      simp only [Act.put, List.setIfInBounds_toArray, List.set_cons_zero, List.set_cons_succ]
      refine held_call (i := 12) rfl (by kernel_rfl) (by rfl) (fun K hK => ?_)
      (go_simp; go_at_call 119; refine (HV.out _ (FBB.out.trans (hB5.mono FBB.out.size))).mono ?_; rintro e w6 ⟨rfl, hb6⟩; have hB6 : Below s4.heap.size s4 w6 := hB5.trans (hb6.mono hB5.size))
      refine hK.out _ _ ⟨keep_cell a0 hB6 y0, keep_cell a1 hB6 y0, keep_cell a2 hB6 y0, keep_cell D0 hB6 hz4⟩ (fun hHeld => ?_)
      clear hK K
      (try simp only [Act.put, List.setIfInBounds_toArray, List.set_cons_zero, List.set_cons_succ])
      refine held_call (i := 13) rfl (by kernel_rfl) (by rfl) (fun K hK => ?_)
      (go_simp; go_at_call 116; refine (is_any _ _ _).mono ?_; rintro e w7 ⟨rfl, hb7⟩; have hB7 : Below s4.heap.size s4 w7 := hB6.trans (hb7.mono hB6.size))
      refine hK.out _ _ ⟨keep_cell a0 hB7 y0, keep_cell a1 hB7 y0, keep_cell a2 hB7 y0, keep_cell D0 hB7 hz4⟩ (fun hHeld => ?_)
      clear hK K
      (try simp only [Act.put, List.setIfInBounds_toArray, List.set_cons_zero, List.set_cons_succ])
      refine held_take (i := 14) (v := ?_) rfl rfl (by kernel_rfl) (by kernel_rfl) (by kernel_rfl) (fun _ _ _ h => h) (by rfl) hHeld ?_ ?_
      rotate_left
      · rintro wh ⟨z0, z1, z2, z3⟩
        go_simp
        (try with_reducible rfl)
      simp only [Act.put, List.setIfInBounds_toArray, List.set_cons_zero, List.set_cons_succ]
      refine held_take (i := 15) (v := ?_) rfl rfl (by kernel_rfl) (by kernel_rfl) (by kernel_rfl) (fun _ _ _ h => h) (by rfl) hHeld ?_ ?_
      rotate_left
      · rintro wh ⟨z0, z1, z2, z3⟩
        go_simp
        (try with_reducible rfl)
      simp only [Act.put, List.setIfInBounds_toArray, List.set_cons_zero, List.set_cons_succ]
      refine wpAnyH_done (by kernel_rfl) ?_ _
      have HB := Lib.hid (FBB.out.trans (hB7.mono FBB.out.size))
      go_wp2
      go_ret
      exact ⟨by rw [HM.out, HOU.out]; rfl, HB.out⟩
    · clear ht
      rw [if_neg (by decide), if_pos rfl] at HOU
      refine wp_region_held_drew (S := (fun W' => W'.cell? ⟨w.heap.size, 0, none⟩ = some (.string nm) ∧ W'.cell? ⟨w.heap.size, 1, none⟩ = some (.int .i64 1) ∧ W'.cell? ⟨w.heap.size, 2, none⟩ = some (.string val) ∧ W'.cell? ⟨w2.heap.size, 1, none⟩ = some (.func (.func 134) #[] #[.pointer (some ⟨w.heap.size + 1, 0, none⟩)]))) (by kernel_rfl) ⟨a0, a1, a2, D1⟩ (fun hHeld => ?_)
      refine held_take (i := 0) (v := ?_) rfl rfl (by kernel_rfl) (by kernel_rfl) (by kernel_rfl) (fun _ _ _ h => h) (by rfl) hHeld ?_ ?_
      rotate_left
      · rintro wh ⟨z0, z1, z2, z3⟩
        go_simp
        (try with_reducible rfl)
      simp only [Act.put, List.setIfInBounds_toArray, List.set_cons_zero, List.set_cons_succ]
      refine held_call (i := 1) rfl (by kernel_rfl) (by rfl) (fun K hK => ?_)
      (go_simp; go_at_call 49; refine (HFI.out _).mono ?_; rintro e w5 ⟨rfl, hb5⟩; have hB5 : Below s4.heap.size s4 w5 := ((Below.refl _ _).drew).trans hb5)
      refine hK.out _ _ ⟨keep_cell a0 hB5 y0, keep_cell a1 hB5 y0, keep_cell a2 hB5 y0, keep_cell D1 hB5 hz4⟩ (fun hHeld => ?_)
      clear hK K
      (try simp only [Act.put, List.setIfInBounds_toArray, List.set_cons_zero, List.set_cons_succ])
      refine held_take (i := 2) (v := ?_) rfl rfl (by kernel_rfl) (by kernel_rfl) (by kernel_rfl) (fun _ _ _ h => h) (by rfl) hHeld ?_ ?_
      rotate_left
      · rintro wh ⟨z0, z1, z2, z3⟩
        go_simp
        (try with_reducible rfl)
      simp only [Act.put, List.setIfInBounds_toArray, List.set_cons_zero, List.set_cons_succ]
      refine held_take (i := 3) (v := ?_) rfl rfl (by kernel_rfl) (by kernel_rfl) (by kernel_rfl) (fun _ _ _ h => h) (by rfl) hHeld ?_ ?_
      rotate_left
      · rintro wh ⟨z0, z1, z2, z3⟩
        go_simp
        (try with_reducible rfl)
      simp only [Act.put, List.setIfInBounds_toArray, List.set_cons_zero, List.set_cons_succ]
      refine held_take (i := 4) (v := ?_) rfl rfl (by kernel_rfl) (by kernel_rfl) (by kernel_rfl) (fun _ _ _ h => h) (by rfl) hHeld ?_ ?_
      rotate_left
      · rintro wh ⟨z0, z1, z2, z3⟩
        go_simp
        (try with_reducible rfl)
      simp only [Act.put, List.setIfInBounds_toArray, List.set_cons_zero, List.set_cons_succ]
      refine held_take (i := 5) (v := ?_) rfl rfl (by kernel_rfl) (by kernel_rfl) (by kernel_rfl) (fun _ _ _ h => h) (by rfl) hHeld ?_ ?_
      rotate_left
      · rintro wh ⟨z0, z1, z2, z3⟩
        go_simp
        (try with_reducible rfl)
      simp only [Act.put, List.setIfInBounds_toArray, List.set_cons_zero, List.set_cons_succ]
      refine held_take (i := 6) (v := ?_) rfl rfl (by kernel_rfl) (by kernel_rfl) (by kernel_rfl) (fun _ _ _ h => h) (by rfl) hHeld ?_ ?_
      rotate_left
      · rintro wh ⟨z0, z1, z2, z3⟩
        go_simp
        (try with_reducible rfl)
      simp only [Act.put, List.setIfInBounds_toArray, List.set_cons_zero, List.set_cons_succ]
      refine held_take (i := 7) (v := ?_) rfl rfl (by kernel_rfl) (by kernel_rfl) (by kernel_rfl) (fun _ _ _ h => h) (by rfl) hHeld ?_ ?_
      rotate_left
      · rintro wh ⟨z0, z1, z2, z3⟩
        go_simp
        (try with_reducible rfl)
      simp only [Act.put, List.setIfInBounds_toArray, List.set_cons_zero, List.set_cons_succ]
      refine held_take (i := 8) (v := ?_) rfl rfl (by kernel_rfl) (by kernel_rfl) (by kernel_rfl) (fun _ _ _ h => h) (by rfl) hHeld ?_ ?_
      rotate_left
      · rintro wh ⟨z0, z1, z2, z3⟩
        go_simp
        (try with_reducible rfl)
      simp only [Act.put, List.setIfInBounds_toArray, List.set_cons_zero, List.set_cons_succ]
      refine held_take (i := 9) (v := ?_) rfl rfl (by kernel_rfl) (by kernel_rfl) (by kernel_rfl) (fun _ _ _ h => h) (by rfl) hHeld ?_ ?_
      rotate_left
      · rintro wh ⟨z0, z1, z2, z3⟩
        go_simp
        (try with_reducible rfl)
      simp only [Act.put, List.setIfInBounds_toArray, List.set_cons_zero, List.set_cons_succ]
      refine held_take (i := 10) (v := ?_) rfl rfl (by kernel_rfl) (by kernel_rfl) (by kernel_rfl) (fun _ _ _ h => h) (by rfl) hHeld ?_ ?_
      rotate_left
      · rintro wh ⟨z0, z1, z2, z3⟩
        go_simp
        (try with_reducible rfl)
      simp only [Act.put, List.setIfInBounds_toArray, List.set_cons_zero, List.set_cons_succ]
      refine held_take (i := 11) (v := ?_) rfl rfl (by kernel_rfl) (by kernel_rfl) (by kernel_rfl) (fun _ _ _ h => h) (by rfl) hHeld ?_ ?_
      rotate_left
      · rintro wh ⟨z0, z1, z2, z3⟩
        go_simp
        (try with_reducible rfl)
      simp only [Act.put, List.setIfInBounds_toArray, List.set_cons_zero, List.set_cons_succ]
      refine held_call (i := 12) rfl (by kernel_rfl) (by rfl) (fun K hK => ?_)
      (go_simp; go_at_call 119; refine (HV.out _ (FBB.out.trans (hB5.mono FBB.out.size))).mono ?_; rintro e w6 ⟨rfl, hb6⟩; have hB6 : Below s4.heap.size s4 w6 := hB5.trans (hb6.mono hB5.size))
      refine hK.out _ _ ⟨keep_cell a0 hB6 y0, keep_cell a1 hB6 y0, keep_cell a2 hB6 y0, keep_cell D1 hB6 hz4⟩ (fun hHeld => ?_)
      clear hK K
      (try simp only [Act.put, List.setIfInBounds_toArray, List.set_cons_zero, List.set_cons_succ])
      refine held_call (i := 13) rfl (by kernel_rfl) (by rfl) (fun K hK => ?_)
      (go_simp; go_at_call 134; refine (not_is _ _ _ _ (keep_cell F1.out hB6 y1)).mono ?_; rintro e w7 ⟨rfl, hb7⟩; have hB7 : Below s4.heap.size s4 w7 := hB6.trans (hb7.mono hB6.size))
      refine hK.out _ _ ⟨keep_cell a0 hB7 y0, keep_cell a1 hB7 y0, keep_cell a2 hB7 y0, keep_cell D1 hB7 hz4⟩ (fun hHeld => ?_)
      clear hK K
      (try simp only [Act.put, List.setIfInBounds_toArray, List.set_cons_zero, List.set_cons_succ])
      refine held_take (i := 14) (v := ?_) rfl rfl (by kernel_rfl) (by kernel_rfl) (by kernel_rfl) (fun _ _ _ h => h) (by rfl) hHeld ?_ ?_
      rotate_left
      · rintro wh ⟨z0, z1, z2, z3⟩
        go_simp
        (try with_reducible rfl)
      simp only [Act.put, List.setIfInBounds_toArray, List.set_cons_zero, List.set_cons_succ]
      refine held_take (i := 15) (v := ?_) rfl rfl (by kernel_rfl) (by kernel_rfl) (by kernel_rfl) (fun _ _ _ h => h) (by rfl) hHeld ?_ ?_
      rotate_left
      · rintro wh ⟨z0, z1, z2, z3⟩
        go_simp
        (try with_reducible rfl)
      simp only [Act.put, List.setIfInBounds_toArray, List.set_cons_zero, List.set_cons_succ]
      refine wpAnyH_done (by kernel_rfl) ?_ _
      have HB := Lib.hid (FBB.out.trans (hB7.mono FBB.out.size))
      go_wp2
      go_ret
      exact ⟨by rw [HM.out, HOU.out]; rfl, HB.out⟩
    · clear ht
      rw [if_neg (by decide), if_neg (by decide), if_pos rfl] at HOU
      refine wp_region_held_drew (S := (fun W' => W'.cell? ⟨w.heap.size, 0, none⟩ = some (.string nm) ∧ W'.cell? ⟨w.heap.size, 1, none⟩ = some (.int .i64 2) ∧ W'.cell? ⟨w.heap.size, 2, none⟩ = some (.string val) ∧ W'.cell? ⟨w2.heap.size, 2, none⟩ = some (.func (.func 118) #[] #[]))) (by kernel_rfl) ⟨a0, a1, a2, D2⟩ (fun hHeld => ?_)
      refine held_take (i := 0) (v := ?_) rfl rfl (by kernel_rfl) (by kernel_rfl) (by kernel_rfl) (fun _ _ _ h => h) (by rfl) hHeld ?_ ?_
      rotate_left
      · rintro wh ⟨z0, z1, z2, z3⟩
        go_simp
        (try with_reducible rfl)
      simp only [Act.put, List.setIfInBounds_toArray, List.set_cons_zero, List.set_cons_succ]
      refine held_call (i := 1) rfl (by kernel_rfl) (by rfl) (fun K hK => ?_)
      (go_simp; go_at_call 49; refine (HFI.out _).mono ?_; rintro e w5 ⟨rfl, hb5⟩; have hB5 : Below s4.heap.size s4 w5 := ((Below.refl _ _).drew).trans hb5)
      refine hK.out _ _ ⟨keep_cell a0 hB5 y0, keep_cell a1 hB5 y0, keep_cell a2 hB5 y0, keep_cell D2 hB5 hz4⟩ (fun hHeld => ?_)
      clear hK K
      (try simp only [Act.put, List.setIfInBounds_toArray, List.set_cons_zero, List.set_cons_succ])
      refine held_take (i := 2) (v := ?_) rfl rfl (by kernel_rfl) (by kernel_rfl) (by kernel_rfl) (fun _ _ _ h => h) (by rfl) hHeld ?_ ?_
      rotate_left
      · rintro wh ⟨z0, z1, z2, z3⟩
        go_simp
        (try with_reducible rfl)
      simp only [Act.put, List.setIfInBounds_toArray, List.set_cons_zero, List.set_cons_succ]
      refine held_take (i := 3) (v := ?_) rfl rfl (by kernel_rfl) (by kernel_rfl) (by kernel_rfl) (fun _ _ _ h => h) (by rfl) hHeld ?_ ?_
      rotate_left
      · rintro wh ⟨z0, z1, z2, z3⟩
        go_simp
        (try with_reducible rfl)
      simp only [Act.put, List.setIfInBounds_toArray, List.set_cons_zero, List.set_cons_succ]
      refine held_take (i := 4) (v := ?_) rfl rfl (by kernel_rfl) (by kernel_rfl) (by kernel_rfl) (fun _ _ _ h => h) (by rfl) hHeld ?_ ?_
      rotate_left
      · rintro wh ⟨z0, z1, z2, z3⟩
        go_simp
        (try with_reducible rfl)
      simp only [Act.put, List.setIfInBounds_toArray, List.set_cons_zero, List.set_cons_succ]
      refine held_take (i := 5) (v := ?_) rfl rfl (by kernel_rfl) (by kernel_rfl) (by kernel_rfl) (fun _ _ _ h => h) (by rfl) hHeld ?_ ?_
      rotate_left
      · rintro wh ⟨z0, z1, z2, z3⟩
        go_simp
        (try with_reducible rfl)
      simp only [Act.put, List.setIfInBounds_toArray, List.set_cons_zero, List.set_cons_succ]
      refine held_take (i := 6) (v := ?_) rfl rfl (by kernel_rfl) (by kernel_rfl) (by kernel_rfl) (fun _ _ _ h => h) (by rfl) hHeld ?_ ?_
      rotate_left
      · rintro wh ⟨z0, z1, z2, z3⟩
        go_simp
        (try with_reducible rfl)
      simp only [Act.put, List.setIfInBounds_toArray, List.set_cons_zero, List.set_cons_succ]
      refine held_take (i := 7) (v := ?_) rfl rfl (by kernel_rfl) (by kernel_rfl) (by kernel_rfl) (fun _ _ _ h => h) (by rfl) hHeld ?_ ?_
      rotate_left
      · rintro wh ⟨z0, z1, z2, z3⟩
        go_simp
        (try with_reducible rfl)
      simp only [Act.put, List.setIfInBounds_toArray, List.set_cons_zero, List.set_cons_succ]
      refine held_take (i := 8) (v := ?_) rfl rfl (by kernel_rfl) (by kernel_rfl) (by kernel_rfl) (fun _ _ _ h => h) (by rfl) hHeld ?_ ?_
      rotate_left
      · rintro wh ⟨z0, z1, z2, z3⟩
        go_simp
        (try with_reducible rfl)
      simp only [Act.put, List.setIfInBounds_toArray, List.set_cons_zero, List.set_cons_succ]
      refine held_take (i := 9) (v := ?_) rfl rfl (by kernel_rfl) (by kernel_rfl) (by kernel_rfl) (fun _ _ _ h => h) (by rfl) hHeld ?_ ?_
      rotate_left
      · rintro wh ⟨z0, z1, z2, z3⟩
        go_simp
        (try with_reducible rfl)
      simp only [Act.put, List.setIfInBounds_toArray, List.set_cons_zero, List.set_cons_succ]
      refine held_take (i := 10) (v := ?_) rfl rfl (by kernel_rfl) (by kernel_rfl) (by kernel_rfl) (fun _ _ _ h => h) (by rfl) hHeld ?_ ?_
      rotate_left
      · rintro wh ⟨z0, z1, z2, z3⟩
        go_simp
        (try with_reducible rfl)
      simp only [Act.put, List.setIfInBounds_toArray, List.set_cons_zero, List.set_cons_succ]
      refine held_take (i := 11) (v := ?_) rfl rfl (by kernel_rfl) (by kernel_rfl) (by kernel_rfl) (fun _ _ _ h => h) (by rfl) hHeld ?_ ?_
      rotate_left
      · rintro wh ⟨z0, z1, z2, z3⟩
        go_simp
        (try with_reducible rfl)
      simp only [Act.put, List.setIfInBounds_toArray, List.set_cons_zero, List.set_cons_succ]
      refine held_call (i := 12) rfl (by kernel_rfl) (by rfl) (fun K hK => ?_)
      (go_simp; go_at_call 119; refine (HV.out _ (FBB.out.trans (hB5.mono FBB.out.size))).mono ?_; rintro e w6 ⟨rfl, hb6⟩; have hB6 : Below s4.heap.size s4 w6 := hB5.trans (hb6.mono hB5.size))
      refine hK.out _ _ ⟨keep_cell a0 hB6 y0, keep_cell a1 hB6 y0, keep_cell a2 hB6 y0, keep_cell D2 hB6 hz4⟩ (fun hHeld => ?_)
      clear hK K
      (try simp only [Act.put, List.setIfInBounds_toArray, List.set_cons_zero, List.set_cons_succ])
      refine held_call (i := 13) rfl (by kernel_rfl) (by rfl) (fun K hK => ?_)
      (go_simp; go_at_call 118; refine (fits_b _ _ _ hvs).mono ?_; rintro e w7 ⟨rfl, hb7⟩; have hB7 : Below s4.heap.size s4 w7 := hB6.trans (hb7.mono hB6.size))
      refine hK.out _ _ ⟨keep_cell a0 hB7 y0, keep_cell a1 hB7 y0, keep_cell a2 hB7 y0, keep_cell D2 hB7 hz4⟩ (fun hHeld => ?_)
      clear hK K
      (try simp only [Act.put, List.setIfInBounds_toArray, List.set_cons_zero, List.set_cons_succ])
      refine held_take (i := 14) (v := ?_) rfl rfl (by kernel_rfl) (by kernel_rfl) (by kernel_rfl) (fun _ _ _ h => h) (by rfl) hHeld ?_ ?_
      rotate_left
      · rintro wh ⟨z0, z1, z2, z3⟩
        go_simp
        (try with_reducible rfl)
      simp only [Act.put, List.setIfInBounds_toArray, List.set_cons_zero, List.set_cons_succ]
      refine held_take (i := 15) (v := ?_) rfl rfl (by kernel_rfl) (by kernel_rfl) (by kernel_rfl) (fun _ _ _ h => h) (by rfl) hHeld ?_ ?_
      rotate_left
      · rintro wh ⟨z0, z1, z2, z3⟩
        go_simp
        (try with_reducible rfl)
      simp only [Act.put, List.setIfInBounds_toArray, List.set_cons_zero, List.set_cons_succ]
      refine wpAnyH_done (by kernel_rfl) ?_ _
      have HB := Lib.hid (FBB.out.trans (hB7.mono FBB.out.size))
      go_wp2
      go_ret
      exact ⟨by rw [HM.out, HOU.out]; rfl, HB.out⟩
    · clear ht
      rw [if_neg (by decide), if_neg (by decide), if_neg (by decide)] at HOU
      refine wp_region_held_drew (S := (fun W' => W'.cell? ⟨w.heap.size, 0, none⟩ = some (.string nm) ∧ W'.cell? ⟨w.heap.size, 1, none⟩ = some (.int .i64 3) ∧ W'.cell? ⟨w.heap.size, 2, none⟩ = some (.string val) ∧ W'.cell? ⟨w2.heap.size, 3, none⟩ = some (.func (.func 134) #[] #[.pointer (some ⟨w.heap.size + 1 + 1, 0, none⟩)]))) (by kernel_rfl) ⟨a0, a1, a2, D3⟩ (fun hHeld => ?_)
      refine held_take (i := 0) (v := ?_) rfl rfl (by kernel_rfl) (by kernel_rfl) (by kernel_rfl) (fun _ _ _ h => h) (by rfl) hHeld ?_ ?_
      rotate_left
      · rintro wh ⟨z0, z1, z2, z3⟩
        go_simp
        (try with_reducible rfl)
      simp only [Act.put, List.setIfInBounds_toArray, List.set_cons_zero, List.set_cons_succ]
      refine held_call (i := 1) rfl (by kernel_rfl) (by rfl) (fun K hK => ?_)
      (go_simp; go_at_call 49; refine (HFI.out _).mono ?_; rintro e w5 ⟨rfl, hb5⟩; have hB5 : Below s4.heap.size s4 w5 := ((Below.refl _ _).drew).trans hb5)
      refine hK.out _ _ ⟨keep_cell a0 hB5 y0, keep_cell a1 hB5 y0, keep_cell a2 hB5 y0, keep_cell D3 hB5 hz4⟩ (fun hHeld => ?_)
      clear hK K
      (try simp only [Act.put, List.setIfInBounds_toArray, List.set_cons_zero, List.set_cons_succ])
      refine held_take (i := 2) (v := ?_) rfl rfl (by kernel_rfl) (by kernel_rfl) (by kernel_rfl) (fun _ _ _ h => h) (by rfl) hHeld ?_ ?_
      rotate_left
      · rintro wh ⟨z0, z1, z2, z3⟩
        go_simp
        (try with_reducible rfl)
      simp only [Act.put, List.setIfInBounds_toArray, List.set_cons_zero, List.set_cons_succ]
      refine held_take (i := 3) (v := ?_) rfl rfl (by kernel_rfl) (by kernel_rfl) (by kernel_rfl) (fun _ _ _ h => h) (by rfl) hHeld ?_ ?_
      rotate_left
      · rintro wh ⟨z0, z1, z2, z3⟩
        go_simp
        (try with_reducible rfl)
      simp only [Act.put, List.setIfInBounds_toArray, List.set_cons_zero, List.set_cons_succ]
      refine held_take (i := 4) (v := ?_) rfl rfl (by kernel_rfl) (by kernel_rfl) (by kernel_rfl) (fun _ _ _ h => h) (by rfl) hHeld ?_ ?_
      rotate_left
      · rintro wh ⟨z0, z1, z2, z3⟩
        go_simp
        (try with_reducible rfl)
      simp only [Act.put, List.setIfInBounds_toArray, List.set_cons_zero, List.set_cons_succ]
      refine held_take (i := 5) (v := ?_) rfl rfl (by kernel_rfl) (by kernel_rfl) (by kernel_rfl) (fun _ _ _ h => h) (by rfl) hHeld ?_ ?_
      rotate_left
      · rintro wh ⟨z0, z1, z2, z3⟩
        go_simp
        (try with_reducible rfl)
      simp only [Act.put, List.setIfInBounds_toArray, List.set_cons_zero, List.set_cons_succ]
      refine held_take (i := 6) (v := ?_) rfl rfl (by kernel_rfl) (by kernel_rfl) (by kernel_rfl) (fun _ _ _ h => h) (by rfl) hHeld ?_ ?_
      rotate_left
      · rintro wh ⟨z0, z1, z2, z3⟩
        go_simp
        (try with_reducible rfl)
      simp only [Act.put, List.setIfInBounds_toArray, List.set_cons_zero, List.set_cons_succ]
      refine held_take (i := 7) (v := ?_) rfl rfl (by kernel_rfl) (by kernel_rfl) (by kernel_rfl) (fun _ _ _ h => h) (by rfl) hHeld ?_ ?_
      rotate_left
      · rintro wh ⟨z0, z1, z2, z3⟩
        go_simp
        (try with_reducible rfl)
      simp only [Act.put, List.setIfInBounds_toArray, List.set_cons_zero, List.set_cons_succ]
      refine held_take (i := 8) (v := ?_) rfl rfl (by kernel_rfl) (by kernel_rfl) (by kernel_rfl) (fun _ _ _ h => h) (by rfl) hHeld ?_ ?_
      rotate_left
      · rintro wh ⟨z0, z1, z2, z3⟩
        go_simp
        (try with_reducible rfl)
      simp only [Act.put, List.setIfInBounds_toArray, List.set_cons_zero, List.set_cons_succ]
      refine held_take (i := 9) (v := ?_) rfl rfl (by kernel_rfl) (by kernel_rfl) (by kernel_rfl) (fun _ _ _ h => h) (by rfl) hHeld ?_ ?_
      rotate_left
      · rintro wh ⟨z0, z1, z2, z3⟩
        go_simp
        (try with_reducible rfl)
      simp only [Act.put, List.setIfInBounds_toArray, List.set_cons_zero, List.set_cons_succ]
      refine held_take (i := 10) (v := ?_) rfl rfl (by kernel_rfl) (by kernel_rfl) (by kernel_rfl) (fun _ _ _ h => h) (by rfl) hHeld ?_ ?_
      rotate_left
      · rintro wh ⟨z0, z1, z2, z3⟩
        go_simp
        (try with_reducible rfl)
      simp only [Act.put, List.setIfInBounds_toArray, List.set_cons_zero, List.set_cons_succ]
      refine held_take (i := 11) (v := ?_) rfl rfl (by kernel_rfl) (by kernel_rfl) (by kernel_rfl) (fun _ _ _ h => h) (by rfl) hHeld ?_ ?_
      rotate_left
      · rintro wh ⟨z0, z1, z2, z3⟩
        go_simp
        (try with_reducible rfl)
      simp only [Act.put, List.setIfInBounds_toArray, List.set_cons_zero, List.set_cons_succ]
      refine held_call (i := 12) rfl (by kernel_rfl) (by rfl) (fun K hK => ?_)
      (go_simp; go_at_call 119; refine (HV.out _ (FBB.out.trans (hB5.mono FBB.out.size))).mono ?_; rintro e w6 ⟨rfl, hb6⟩; have hB6 : Below s4.heap.size s4 w6 := hB5.trans (hb6.mono hB5.size))
      refine hK.out _ _ ⟨keep_cell a0 hB6 y0, keep_cell a1 hB6 y0, keep_cell a2 hB6 y0, keep_cell D3 hB6 hz4⟩ (fun hHeld => ?_)
      clear hK K
      (try simp only [Act.put, List.setIfInBounds_toArray, List.set_cons_zero, List.set_cons_succ])
      refine held_call (i := 13) rfl (by kernel_rfl) (by rfl) (fun K hK => ?_)
      (go_simp; go_at_call 134; refine (not_fits _ _ _ _ hvs (keep_cell F2.out hB6 y2)).mono ?_; rintro e w7 ⟨rfl, hb7⟩; have hB7 : Below s4.heap.size s4 w7 := hB6.trans (hb7.mono hB6.size))
      refine hK.out _ _ ⟨keep_cell a0 hB7 y0, keep_cell a1 hB7 y0, keep_cell a2 hB7 y0, keep_cell D3 hB7 hz4⟩ (fun hHeld => ?_)
      clear hK K
      (try simp only [Act.put, List.setIfInBounds_toArray, List.set_cons_zero, List.set_cons_succ])
      refine held_take (i := 14) (v := ?_) rfl rfl (by kernel_rfl) (by kernel_rfl) (by kernel_rfl) (fun _ _ _ h => h) (by rfl) hHeld ?_ ?_
      rotate_left
      · rintro wh ⟨z0, z1, z2, z3⟩
        go_simp
        (try with_reducible rfl)
      simp only [Act.put, List.setIfInBounds_toArray, List.set_cons_zero, List.set_cons_succ]
      refine held_take (i := 15) (v := ?_) rfl rfl (by kernel_rfl) (by kernel_rfl) (by kernel_rfl) (fun _ _ _ h => h) (by rfl) hHeld ?_ ?_
      rotate_left
      · rintro wh ⟨z0, z1, z2, z3⟩
        go_simp
        (try with_reducible rfl)
      simp only [Act.put, List.setIfInBounds_toArray, List.set_cons_zero, List.set_cons_succ]
      refine wpAnyH_done (by kernel_rfl) ?_ _
      have HB := Lib.hid (FBB.out.trans (hB7.mono FBB.out.size))
      go_wp2
      go_ret
      exact ⟨by rw [HM.out, HOU.out]; rfl, HB.out⟩
end Go.Proofs.YtcfococinllcmaaGreat

/- match.All: a contract. -/
namespace Go.Proofs.YtcfococinllcmaaGreat
open Go.RowKit
noncomputable def allM (l : List Fld) (ms : List Mt) : Bool := ms.all fun m => fitM l m
theorem allM_any (l : List Fld) (ms : List Mt) : (!(ms.any fun m => !(fitM l m))) = allM l ms := by
  unfold allM
  induction ms with
  | nil => rfl
  | cons m ms ih => rw [List.any_cons, List.all_cons, ← ih]; cases fitM l m <;> simp
set_option maxHeartbeats 1600000 in
theorem allclos (l : List Fld) (m : Mt) (b : Nat) (v : Value) (w : World) (hv : FldsAt w v l) (hl : l.length ≤ 1000000000000) (hfit : FldsFit l) (hf : MtFit m) (hc : w.cell? ⟨b, 0, none⟩ = some v) (hlt : b < w.heap.size) :
    Calls Tryz.prog 93 #[.agg #[.string m.nm, .int .i64 m.op, .string m.val], .pointer (some ⟨b, 0, none⟩)] w fun e w' => e = .returned (.bool (!(fitM l m))) ∧ Below w.heap.size w w' := by
  have hb := alloc_below w (.cells #[.string m.nm, .int .i64 m.op, .string m.val] 108)
  have hz := World.size_alloc w (.cells #[.string m.nm, .int .i64 m.op, .string m.val] 108)
  have k := fits_any l m _ v (hv.later hb) hl hfit hf
  have h1 := keep_cell hc hb hlt
  have HB := Lib.hid hb
  obtain ⟨fa, fc, rfl, _, _⟩ := RdAt.shape hv
  generalize fitM l m = R at *
  obtain ⟨nm, op, val⟩ := m
  dsimp only at *
  clear hv hfit hf hc hb hz
  go_enter Tryz.func93, Tryz.ntmps93
  go_wp2_with fail
  refine k.mono ?_
  rintro e w1 ⟨rfl, hb1⟩
  clear k
  go_wp2
  go_ret
  exact ⟨rfl, HB.out.trans (hb1.mono HB.out.size)⟩
set_option maxHeartbeats 1600000 in
theorem all_any (l : List Fld) (ms : List Mt) (v mv : Value) (w : World) (hv : FldsAt w v l) (hl : l.length ≤ 1000000000000) (hfit : FldsFit l) (hm : MtsAt w mv ms) (hml : ms.length ≤ 1000000000000) (hmf : MtsFit ms) :
    Calls Tryz.prog 66 #[v, mv] w fun e w' => e = .returned (.bool (allM l ms)) ∧ Below w.heap.size w w' := by
  obtain ⟨fa, fc, rfl, _, _⟩ := RdAt.shape hv
  obtain ⟨ma, mc, rfl, _, _⟩ := RdAt.shape hm
  have hb := alloc_below w (.cells #[.slice fa l.length fc] 48)
  have hlt : w.heap.size < (w.alloc (.cells #[.slice fa l.length fc] 48)).heap.size := by rw [World.size_alloc]; omega
  have hc : (w.alloc (.cells #[.slice fa l.length fc] 48)).cell? ⟨w.heap.size, 0, none⟩ = some (.slice fa l.length fc) := by rw [cell_of_row _ _ _ _ _ _ (heap_alloc_new w _)]; rfl
  have k := hasm_gen ms hmf (fun m => !(fitM l m)) 93 #[.pointer (some ⟨w.heap.size, 0, none⟩)] (enters_of Tryz.func93 (by kernel_rfl) rfl) _ _ (hm.later hb) hml
    (fun W m hmfit hW => allclos l m w.heap.size _ W ((hv.later hb).later hW) hl hfit hmfit (keep_cell hc hW hlt) (Nat.lt_of_lt_of_le hlt hW.size))
  have HA := Lib.hid (allM_any l ms)
  have HB := Lib.hid hb
  generalize (ms.any fun m => !(fitM l m)) = R at *
  generalize l.length = ln at *
  generalize ms.length = mn at *
  clear hv hm hfit hmf hb hlt hc
  go_enter Tryz.func66, Tryz.ntmps66
  go_wp2_with fail
  refine k.mono ?_
  rintro e w1 ⟨rfl, hb1⟩
  clear k
  go_wp2
  go_ret
  exact ⟨by rw [← HA.out]; rfl, HB.out.trans (hb1.mono HB.out.size)⟩
end Go.Proofs.YtcfococinllcmaaGreat

/- lychgateref06 on matchers: Fine, Value, Fits, All: contracts. -/
namespace Go.Proofs.YtcfococinllcmaaGreat
open Go.RowKit
theorem exec_loadN {o : Oper} {a : Act} {w : World} (x : Operand) (ho : o.op = .load 148 x) (b i : Nat) (hx : a.eval x = .pointer (some ⟨b, i, none⟩)) (cs : List Value) (hc : w.rangeAt b i cs) (hl : cs.length = 258) : (execOp a.eval o).run Tryz.prog w = .ok (.value (.agg cs.toArray)) w := by
  unfold execOp
  simp only [ho, hx]
  rw [Sem.run_bind, run_loadAt_mid w b i 148 cs _ hc Tryz.underlying148 rfl (by rw [hl]; exact node_size)]
  rfl
set_option maxHeartbeats 1600000 in
set_option maxRecDepth 100000 in
theorem fine6_any (m : Mt) (w : World) (hf : MtFit m) : Calls Tryz.prog 54 #[.agg #[.string m.nm, .int .i64 m.op, .string m.val]] w fun e w' => e = .returned (.bool (fineM m)) ∧ Below w.heap.size w w' := by
  have kr := fun W => rread_any m.val W
  have hz := hf.2
  have HF : Hid (fineM m = (nameL (B m.nm) && decide (0 ≤ m.op) && decide (m.op ≤ 3) && decide (m.val.size ≤ 200) && (decide (m.op < 2) || decide (errM m.val = 0)))) := Lib.hid rfl
  have kn0 := refName.name_any m.nm (w.alloc (.cells #[.string m.nm, .int .i64 m.op, .string m.val] 108)) hf.1
  obtain ⟨nm, op, val⟩ := m
  dsimp only at *
  generalize fineM ⟨nm, op, val⟩ = R at *
  generalize nameL (B nm) = N at *
  have HR := Lib.hid kr
  unfold maxLen at hz
  have hbx := box3m (Below.refl _ (w.alloc (.cells #[.string nm, .int .i64 op, .string val] 108)))
  clear hf kr
  go_enter Tryz.func54, Tryz.ntmps54
  go_wp2_with fail
  refine kn0.mono ?_
  rintro e w1 ⟨rfl, hw1⟩
  obtain ⟨⟨x0, x1, x2⟩, hlt, hB1⟩ := hbx
  rw [hw1] at x0 x1 x2 hlt hB1
  have HB := Lib.hid hB1
  clear kn0 hw1 hB1
  cases N with
  | false =>
    go_wp2
    go_ret
    exact ⟨by rw [HF.out]; rfl, HB.out⟩
  | true =>
    by_cases h0 : op < 0
    · rw [show decide (0 ≤ op) = false from decide_eq_false (by omega)] at HF
      go_wp2
      go_ret
      exact ⟨by rw [HF.out]; rfl, HB.out⟩
    · rw [show decide (0 ≤ op) = true from decide_eq_true (by omega)] at HF
      by_cases h3 : 3 < op
      · rw [show decide (op ≤ 3) = false from decide_eq_false (by omega)] at HF
        go_wp2
        go_ret
        exact ⟨by rw [HF.out]; rfl, HB.out⟩
      · rw [show decide (op ≤ 3) = true from decide_eq_true (by omega)] at HF
        by_cases hs : 200 < val.size
        · rw [show decide (val.size ≤ 200) = false from decide_eq_false (by omega)] at HF
          have hsi : (200 : Int) < (val.size : Int) := by omega
          go_wp2
          go_ret
          exact ⟨by rw [HF.out]; rfl, HB.out⟩
        · rw [show decide (val.size ≤ 200) = true from decide_eq_true (by omega)] at HF
          have hsi : (val.size : Int) ≤ 200 := by omega
          have kr := HR.out w1
          have hde : Hid ((errM val == 0) = decide (errM val = 0)) := Lib.hid (by rw [Bool.eq_iff_iff]; simp)
          generalize errM val = E at *
          go_wp2_with fail
          refine kr.mono ?_
          rintro e w2 ⟨cs, rfl, hl, hone, -, hb2⟩
          have hlt2 := hb2.size
          have y1 := keep_cell x1 hb2 hlt
          have HBN : Hid (Below w.heap.size w ((w2.alloc (.cells (zeroN 0) 148)).setCells w2.heap.size 0 cs)) := Lib.hid (by
            have h1 := HB.out.trans (hb2.mono HB.out.size)
            exact below_puts (h1.trans ((alloc_below w2 _).mono h1.size)) (by have := h1.size; omega) _)
          have HY1 : Hid (((w2.alloc (.cells (zeroN 0) 148)).setCells w2.heap.size 0 cs).cell? ⟨w.heap.size, 1, none⟩ = some (.int .i64 op)) := Lib.hid ((World.cell?_of_block (a := ⟨w.heap.size, 1, none⟩) (heap_setCells _ _ _ (by show w.heap.size ≠ w2.heap.size; omega) _ _)).trans (keep_cell y1 (alloc_below w2 _) (by omega)))
          have HTH := Lib.hid (there_new w2 0 148)
          clear kr x0 x1 x2 y1
          go_upto_region 4 with (first
            | (with_reducible refine wpList_allocN rfl rfl _ rfl w2.heap.size rfl ?_)
            | ((with_reducible refine wpList_storeN rfl _ _ rfl _ rfl w2.heap.size 0 cs ?hx ?hy ?ht hl hone ?_); (case hx => rfl); (case hy => rfl); (case ht => exact HTH.out)))
          (try simp only [Act.put, List.setIfInBounds_toArray, List.set_cons_zero, List.set_cons_succ])
          refine wp_forget3 (fun W => W.cell? ⟨w.heap.size, 1, none⟩ = some (.int .i64 op) ∧ Below w.heap.size w W) ⟨HY1.out, HBN.out⟩ (fun w3 hw3 => ?_)
          obtain ⟨y1, hB3⟩ := hw3
          have HB3 := Lib.hid hB3
          clear HBN HY1 HTH hB3 hb2
          by_cases h2 : op < 2
          · rw [show decide (op < 2) = true from decide_eq_true h2] at HF
            go_wp2
            go_ret
            exact ⟨by rw [HF.out]; rfl, HB3.out⟩
          · rw [show decide (op < 2) = false from decide_eq_false h2] at HF
            go_wp2
            go_ret
            exact ⟨by rw [HF.out, ← hde.out]; first | rfl | (simp), HB3.out⟩
theorem valueF_at {l : List Fld} {n : ByteArray} {i : Nat} (h : i < l.length) (hb : ∀ j (hj : j < l.length), j < i → (l[j].1.toList == n.toList) = false) (he : (l[i].1.toList == n.toList) = true) : valueF l n = l[i].2 := by
  unfold valueF
  have : (l.find? fun f => f.1.toList == n.toList) = some l[i] := by
    rw [List.find?_eq_some_iff_getElem]
    exact ⟨he, i, h, rfl, fun j hj => by rw [hb j (by omega) hj]; rfl⟩
  rw [this]
theorem valueF_no {l : List Fld} {n : ByteArray} (hb : ∀ j (hj : j < l.length), (l[j].1.toList == n.toList) = false) : valueF l n = ⟨#[]⟩ := by
  unfold valueF
  have : (l.find? fun f => f.1.toList == n.toList) = none := by
    rw [List.find?_eq_none]
    intro x hx
    obtain ⟨j, hj, rfl⟩ := List.getElem_of_mem hx
    rw [hb j hj]
    decide
  rw [this]
set_option maxHeartbeats 1600000 in
set_option maxRecDepth 100000 in
theorem val6_any (l : List Fld) (n : ByteArray) (w : World) (v : Value) (hv : FldsAt w v l) (hl : l.length ≤ 1000000) :
    Calls Tryz.prog 98 #[v, .string n] w fun e w' => e = .returned (.string (valueF l n)) ∧ Below w.heap.size w w' := by
  obtain ⟨a, c, rfl, hc, hr⟩ := RdAt.shape hv
  have HR := Lib.hid hr
  clear hr hv
  go_enter Tryz.func98, Tryz.ntmps98
  go_wp2
  go_loopw [5] (fun i wr => ∃ k : Nat, k ≤ l.length ∧ i = .int .i64 (k : Nat) ∧ Hid (∀ j (hj : j < l.length), j < k → (l[j].1.toList == n.toList) = false) ∧ Below w.heap.size w wr) (fun i _ => l.length + 1 - (intOf i).toNat)
  case atStart => exact ⟨0, Nat.zero_le _, rfl, Lib.hid (fun j _ hj => absurd hj (Nat.not_lt_zero j)), Below.refl _ _⟩
  case round =>
    obtain ⟨k, hk, rfl, HT, hbr⟩ := hrel
    by_cases hkl : k < l.length
    · obtain ⟨b, o, rfl, hb, hcell⟩ := HR.out (by omega)
      have HV := Lib.hid (fun he => valueF_at (n := n) hkl HT.out he)
      have HNO : Hid ((l[k].1.toList == n.toList) = false → ∀ j (hj : j < l.length), j < k + 1 → (l[j].1.toList == n.toList) = false) := Lib.hid (fun he j hj h2 => by
        by_cases e : j = k
        · subst e; exact he
        · exact HT.out j hj (by omega))
      obtain ⟨x, hxe⟩ : ∃ x, l[k].1 = x := ⟨_, rfl⟩
      obtain ⟨y, hye⟩ : ∃ y, l[k].2 = y := ⟨_, rfl⟩
      obtain ⟨hx0, hy0⟩ := fldCells_at l k hkl
      rw [hxe] at hx0 HV HNO
      rw [hye] at hy0 HV
      have a0 : wr.cell? ⟨b, o + k * 2, none⟩ = some (.string x) := keep_cell (hcell _ _ hx0) hbr hb
      have a1 : wr.cell? ⟨b, o + k * 2 + 1, none⟩ = some (.string y) := keep_cell (by have := hcell _ _ hy0; rwa [← Nat.add_assoc] at this) hbr hb
      have hi0 : (0 : Int) ≤ (k : Int) := by omega
      have hi1 : (k : Int) < (l.length : Int) := by omega
      have HBR := Lib.hid hbr
      clear hcell hx0 hy0 hbr hxe hye HT
      cases he : (x.toList == n.toList) with
      | true =>
        rw [he] at HV
        go_wp2
        go_ret
        exact ⟨by first | (rw [HV.out (by trivial)]; done) | (rw [HV.out (by trivial)]; rfl), HBR.out⟩
      | false =>
        rw [he] at HNO
        go_wp2
        go_roundw
        case rel => exact ⟨k + 1, by omega, by go_num, Lib.hid (HNO.out (by trivial)), HBR.out⟩
        case measure => (simp [intOf]; try omega)
    · have HV := Lib.hid (valueF_no (n := n) (fun j hj => HT.out j hj (by omega)))
      have hi1 : ¬ (k : Int) < (l.length : Int) := by omega
      have HBR := Lib.hid hbr
      clear HT hbr
      go_wp2
      go_ret
      exact ⟨by first | (rw [HV.out]; done) | (rw [HV.out]; rfl), HBR.out⟩
theorem opM_fit {m : Mt} {v : ByteArray} {b : Bool} (h0 : errM m.val = 0) (hb : b = true ↔ Lr (reT m.val) (bytesN v)) : b = fitB m.val v := by
  rw [Bool.eq_iff_iff, fitB_iff, fits_re, hb]
  exact ⟨fun h => ⟨h0, h⟩, fun h => h.2⟩
set_option maxHeartbeats 3200000 in
set_option maxRecDepth 100000 in
theorem fit6_any (l : List Fld) (m : Mt) (v : Value) (w : World) (hv : FldsAt w v l) (hl : l.length ≤ 1000000) (hvs : (valueF l m.nm).size ≤ 900) (hf : MtFit m) :
    Calls Tryz.prog 69 #[v, .agg #[.string m.nm, .int .i64 m.op, .string m.val]] w fun e w' => e = .returned (.bool (fitM l m)) ∧ Below w.heap.size w w' := by
  obtain ⟨fa, fc, rfl, _, _⟩ := RdAt.shape hv
  have hba := alloc_below w (.cells #[.string m.nm, .int .i64 m.op, .string m.val] 108)
  have kf := fine6_any m (w.alloc (.cells #[.string m.nm, .int .i64 m.op, .string m.val] 108)) hf
  have KV := Lib.hid (fun W (h : Below w.heap.size w W) => val6_any l m.nm W _ (hv.later h) hl)
  have KR := Lib.hid (fun W => rread_any m.val W)
  have HM : Hid (fitM l m = (fineM m && opM m (valueF l m.nm))) := Lib.hid rfl
  have HO : Hid (opM m (valueF l m.nm) = if m.op = 0 then (valueF l m.nm).toList == m.val.toList else if m.op = 1 then !((valueF l m.nm).toList == m.val.toList) else if m.op = 2 then fitB m.val (valueF l m.nm) else !(fitB m.val (valueF l m.nm))) := Lib.hid rfl
  have HFT := Lib.hid (fun h => @fineM_true m h)
  have HOF := Lib.hid (fun b h0 hb => @opM_fit m (valueF l m.nm) b h0 hb)
  have KF := Lib.hid (fun W P cs a h hl => rtree_any W P cs a (valueF l m.nm) h hl hvs)
  obtain ⟨nm, op, val⟩ := m
  dsimp only at *
  generalize fitM l ⟨nm, op, val⟩ = R at *
  generalize opM ⟨nm, op, val⟩ (valueF l nm) = OM at *
  generalize fineM ⟨nm, op, val⟩ = N at *
  generalize valueF l nm = vv at *
  generalize l.length = ln at *
  have HB0 := Lib.hid hba
  clear hv hba hf
  go_enter Tryz.func69, Tryz.ntmps69
  have hbx := box3m (Below.refl _ (w.alloc (.cells #[.string nm, .int .i64 op, .string val] 108)))
  obtain ⟨⟨x0, x1, x2⟩, hlt, -⟩ := hbx
  go_wp2_with fail
  refine kf.mono ?_
  rintro e w1 ⟨rfl, hb1⟩
  have hb0 := HB0.out.trans (hb1.mono HB0.out.size)
  have y0 := keep_cell x0 hb1 hlt
  have y1 := keep_cell x1 hb1 hlt
  have y2 := keep_cell x2 hb1 hlt
  have hlt1 : w.heap.size < w1.heap.size := by have := hb1.size; omega
  have HB1 := Lib.hid hb0
  clear kf hb1 x0 x1 x2 hlt hb0 HB0
  cases N with
  | false =>
    go_wp2
    go_ret
    exact ⟨by rw [HM.out]; rfl, HB1.out⟩
  | true =>
    obtain ⟨-, h0, h3, -, h5⟩ := HFT.out rfl
    have kv := KV.out w1 HB1.out
    clear HFT KV
    go_wp2_with fail
    refine kv.mono ?_
    rintro e w2 ⟨rfl, hb2⟩
    have z0 := keep_cell y0 hb2 hlt1
    have z1 := keep_cell y1 hb2 hlt1
    have z2 := keep_cell y2 hb2 hlt1
    have hlt2 : w.heap.size < w2.heap.size := by have := hb2.size; omega
    have HB2 := Lib.hid (HB1.out.trans (hb2.mono HB1.out.size))
    clear kv hb2 y0 y1 y2 hlt1 HB1
    by_cases h2 : op < 2
    · by_cases e0 : op = 0
      · subst e0
        have HO2 : Hid (OM = (vv.toList == val.toList)) := Lib.hid (by rw [HO.out, if_pos rfl])
        go_wp2
        go_ret
        exact ⟨by rw [HM.out, HO2.out, Bool.true_and]; rfl, HB2.out⟩
      · obtain rfl : op = 1 := by omega
        have HO2 : Hid (OM = !(vv.toList == val.toList)) := Lib.hid (by rw [HO.out, if_neg (by decide), if_pos rfl])
        go_wp2
        go_ret
        exact ⟨by rw [HM.out, HO2.out, Bool.true_and]; rfl, HB2.out⟩
    · have hE0 : errM val = 0 := by rcases h5 with h | h; (· exact absurd h h2); exact h
      have kr := KR.out w2
      have HE0 := Lib.hid hE0
      rw [hE0] at kr
      clear h5 hE0
      go_wp2_with fail
      refine kr.mono ?_
      rintro e w3 ⟨cs, rfl, hln, hone, hna, hb3⟩
      have hna := hna (by trivial)
      have u1 := keep_cell z1 hb3 hlt2
      have hlt3 : w.heap.size < w3.heap.size := by have := hb3.size; omega
      have hb3' := HB2.out.trans (hb3.mono HB2.out.size)
      have hnd : NdAt ((w3.alloc (.cells (zeroN 0) 148)).setCells w3.heap.size 0 cs) w3.heap.size cs := (NdAt.new w3 0 148).stored hln
      have HTH := Lib.hid (there_new w3 0 148)
      have HBN : Hid (Below w.heap.size w ((w3.alloc (.cells (zeroN 0) 148)).setCells w3.heap.size 0 cs)) := Lib.hid (below_puts (hb3'.trans ((alloc_below w3 _).mono hb3'.size)) (by omega) _)
      have HY1 : Hid (((w3.alloc (.cells (zeroN 0) 148)).setCells w3.heap.size 0 cs).cell? ⟨w.heap.size, 1, none⟩ = some (.int .i64 op)) := Lib.hid ((World.cell?_of_block (a := ⟨w.heap.size, 1, none⟩) (heap_setCells _ _ _ (by show w.heap.size ≠ w3.heap.size; omega) _ _)).trans (keep_cell u1 (alloc_below w3 _) (by omega)))
      have HNA : Hid (NA ((w3.alloc (.cells (zeroN 0) 148)).setCells w3.heap.size 0 cs) (fun q => w2.heap.size ≤ q ∧ q < w3.heap.size) 0 [cs] (reT val)) := Lib.hid ((hna.later (alloc_below w3 _)).keep (by rw [size_setCells]; exact Nat.le_refl _) (fun q hq _ => heap_setCells _ _ _ (by omega) _ _))
      have HND0 := Lib.hid hnd
      have HLN := Lib.hid hln
      have HON := Lib.hid hone
      clear kr z0 z1 z2 u1 hna hnd hb3 hb3' hln hone
      go_upto_region 7 with (first
        | (with_reducible refine wpList_allocN rfl rfl _ rfl w3.heap.size rfl ?_)
        | ((with_reducible refine wpList_storeN rfl _ _ rfl _ rfl w3.heap.size 0 cs ?hx ?hy ?ht HLN.out HON.out ?_); (case hx => rfl); (case hy => rfl); (case ht => exact HTH.out)))
      (try simp only [Act.put, List.setIfInBounds_toArray, List.set_cons_zero, List.set_cons_succ])
      have hsz4 : w.heap.size < ((w3.alloc (.cells (zeroN 0) 148)).setCells w3.heap.size 0 cs).heap.size := by rw [size_setCells, World.size_alloc]; omega
      clear HTH HB2
      generalize ((w3.alloc (.cells (zeroN 0) 148)).setCells w3.heap.size 0 cs) = w4 at *
      generalize w3.heap.size = nb at *
      have HND := HND0
      have HOP := HY1
      have HWL := Lib.hid hsz4
      clear HND0 HY1 hsz4
      rcases (show op = 2 ∨ op = 3 by omega) with rfl | rfl
      · have HO2 : Hid (OM = fitB val vv) := Lib.hid (by rw [HO.out]; rfl)
        refine wp_region_held_drew (S := (fun W => W.rangeAt nb 0 cs ∧ W.cell? ⟨w.heap.size, 1, none⟩ = some (.int .i64 2))) (by kernel_rfl) ⟨HND.out.at_, HOP.out⟩ (fun hHeld => ?_)
        refine held_take (i := 0) (v := ?_) rfl rfl (by kernel_rfl) (by kernel_rfl) (by kernel_rfl) (fun _ _ _ h => h) (by rfl) hHeld ?_ ?_
        rotate_left
        · rintro wh ⟨z0, -⟩
          refine exec_loadN (.tmp 6) ?_ nb 0 ?_ cs z0 HLN.out <;> rfl
        simp only [Act.put, List.setIfInBounds_toArray, List.set_cons_zero, List.set_cons_succ]
        refine held_take (i := 1) (v := ?_) rfl rfl (by kernel_rfl) (by kernel_rfl) (by kernel_rfl) (fun _ _ _ h => h) (by rfl) hHeld ?_ ?_
        rotate_left
        · rintro wh ⟨z0, z1⟩
          go_simp
          (try with_reducible rfl)
        simp only [Act.put, List.setIfInBounds_toArray, List.set_cons_zero, List.set_cons_succ]
        refine held_take (i := 3) (v := ?_) rfl rfl (by kernel_rfl) (by kernel_rfl) (by kernel_rfl) (fun _ _ _ h => h) (by rfl) hHeld ?_ ?_
        rotate_left
        · rintro wh ⟨z0, z1⟩
          go_simp
          (try with_reducible rfl)
        simp only [Act.put, List.setIfInBounds_toArray, List.set_cons_zero, List.set_cons_succ]
        refine held_take (i := 4) (v := ?_) rfl rfl (by kernel_rfl) (by kernel_rfl) (by kernel_rfl) (fun _ _ _ h => h) (by rfl) hHeld ?_ ?_
        rotate_left
        · rintro wh ⟨z0, z1⟩
          go_simp
          (try with_reducible rfl)
        simp only [Act.put, List.setIfInBounds_toArray, List.set_cons_zero, List.set_cons_succ]
        refine held_take (i := 5) (v := ?_) rfl rfl (by kernel_rfl) (by kernel_rfl) (by kernel_rfl) (fun _ _ _ h => h) (by rfl) hHeld ?_ ?_
        rotate_left
        · rintro wh ⟨z0, z1⟩
          go_simp
          (try with_reducible rfl)
        simp only [Act.put, List.setIfInBounds_toArray, List.set_cons_zero, List.set_cons_succ]
        refine held_step (i := 2) rfl (by kernel_rfl) (fun K hK => ?_)
        go_simp; refine (KF.out _ _ _ _ (HNA.out.later ((Below.refl w4.heap.size w4).drew)) HLN.out).mono ?_; rintro e w6 ⟨b, rfl, hb, hbl⟩; have HBB := Lib.hid hb; have HBL := Lib.hid (((Below.refl w4.heap.size w4).drew).trans (hbl.mono ((Below.refl w4.heap.size w4).drew).size)); clear hb hbl
        refine hK.out _ _ ⟨range_later HND.out.at_ HBL.out HND.out.lt, keep_cell HOP.out HBL.out HWL.out⟩ (fun hHeld => ?_)
        clear hK K
        (try simp only [Act.put, List.setIfInBounds_toArray])
        refine held_take (i := 6) (v := ?_) rfl rfl (by kernel_rfl) (by kernel_rfl) (by kernel_rfl) (fun _ _ _ h => h) (by rfl) hHeld ?_ ?_
        rotate_left
        · rintro wh ⟨z0, z1⟩
          go_simp
          (try with_reducible rfl)
        simp only [Act.put, List.setIfInBounds_toArray, List.set_cons_zero, List.set_cons_succ]
        refine held_take (i := 7) (v := ?_) rfl rfl (by kernel_rfl) (by kernel_rfl) (by kernel_rfl) (fun _ _ _ h => h) (by rfl) hHeld ?_ ?_
        rotate_left
        · rintro wh ⟨z0, z1⟩
          go_simp
          (try with_reducible rfl)
        simp only [Act.put, List.setIfInBounds_toArray, List.set_cons_zero, List.set_cons_succ]
        refine wpAnyH_done (by kernel_rfl) ?_ _
        have hb := HOF.out b HE0.out HBB.out
        clear HBB
        subst hb
        go_wp2
        go_ret
        exact ⟨by rw [HM.out, HO2.out]; cases fitB val vv <;> rfl, HBN.out.trans (HBL.out.mono HBN.out.size)⟩
      · have HO2 : Hid (OM = !(fitB val vv)) := Lib.hid (by rw [HO.out]; rfl)
        refine wp_region_held_drew (S := (fun W => W.rangeAt nb 0 cs ∧ W.cell? ⟨w.heap.size, 1, none⟩ = some (.int .i64 3))) (by kernel_rfl) ⟨HND.out.at_, HOP.out⟩ (fun hHeld => ?_)
        refine held_take (i := 0) (v := ?_) rfl rfl (by kernel_rfl) (by kernel_rfl) (by kernel_rfl) (fun _ _ _ h => h) (by rfl) hHeld ?_ ?_
        rotate_left
        · rintro wh ⟨z0, -⟩
          refine exec_loadN (.tmp 6) ?_ nb 0 ?_ cs z0 HLN.out <;> rfl
        simp only [Act.put, List.setIfInBounds_toArray, List.set_cons_zero, List.set_cons_succ]
        refine held_take (i := 1) (v := ?_) rfl rfl (by kernel_rfl) (by kernel_rfl) (by kernel_rfl) (fun _ _ _ h => h) (by rfl) hHeld ?_ ?_
        rotate_left
        · rintro wh ⟨z0, z1⟩
          go_simp
          (try with_reducible rfl)
        simp only [Act.put, List.setIfInBounds_toArray, List.set_cons_zero, List.set_cons_succ]
        refine held_take (i := 3) (v := ?_) rfl rfl (by kernel_rfl) (by kernel_rfl) (by kernel_rfl) (fun _ _ _ h => h) (by rfl) hHeld ?_ ?_
        rotate_left
        · rintro wh ⟨z0, z1⟩
          go_simp
          (try with_reducible rfl)
        simp only [Act.put, List.setIfInBounds_toArray, List.set_cons_zero, List.set_cons_succ]
        refine held_take (i := 4) (v := ?_) rfl rfl (by kernel_rfl) (by kernel_rfl) (by kernel_rfl) (fun _ _ _ h => h) (by rfl) hHeld ?_ ?_
        rotate_left
        · rintro wh ⟨z0, z1⟩
          go_simp
          (try with_reducible rfl)
        simp only [Act.put, List.setIfInBounds_toArray, List.set_cons_zero, List.set_cons_succ]
        refine held_take (i := 5) (v := ?_) rfl rfl (by kernel_rfl) (by kernel_rfl) (by kernel_rfl) (fun _ _ _ h => h) (by rfl) hHeld ?_ ?_
        rotate_left
        · rintro wh ⟨z0, z1⟩
          go_simp
          (try with_reducible rfl)
        simp only [Act.put, List.setIfInBounds_toArray, List.set_cons_zero, List.set_cons_succ]
        refine held_step (i := 2) rfl (by kernel_rfl) (fun K hK => ?_)
        go_simp; refine (KF.out _ _ _ _ (HNA.out.later ((Below.refl w4.heap.size w4).drew)) HLN.out).mono ?_; rintro e w6 ⟨b, rfl, hb, hbl⟩; have HBB := Lib.hid hb; have HBL := Lib.hid (((Below.refl w4.heap.size w4).drew).trans (hbl.mono ((Below.refl w4.heap.size w4).drew).size)); clear hb hbl
        refine hK.out _ _ ⟨range_later HND.out.at_ HBL.out HND.out.lt, keep_cell HOP.out HBL.out HWL.out⟩ (fun hHeld => ?_)
        clear hK K
        (try simp only [Act.put, List.setIfInBounds_toArray])
        refine held_take (i := 6) (v := ?_) rfl rfl (by kernel_rfl) (by kernel_rfl) (by kernel_rfl) (fun _ _ _ h => h) (by rfl) hHeld ?_ ?_
        rotate_left
        · rintro wh ⟨z0, z1⟩
          go_simp
          (try with_reducible rfl)
        simp only [Act.put, List.setIfInBounds_toArray, List.set_cons_zero, List.set_cons_succ]
        refine held_take (i := 7) (v := ?_) rfl rfl (by kernel_rfl) (by kernel_rfl) (by kernel_rfl) (fun _ _ _ h => h) (by rfl) hHeld ?_ ?_
        rotate_left
        · rintro wh ⟨z0, z1⟩
          go_simp
          (try with_reducible rfl)
        simp only [Act.put, List.setIfInBounds_toArray, List.set_cons_zero, List.set_cons_succ]
        refine wpAnyH_done (by kernel_rfl) ?_ _
        have hb := HOF.out b HE0.out HBB.out
        clear HBB
        subst hb
        go_wp2
        go_ret
        exact ⟨by rw [HM.out, HO2.out]; cases fitB val vv <;> rfl, HBN.out.trans (HBL.out.mono HBN.out.size)⟩
set_option maxHeartbeats 1600000 in
set_option maxRecDepth 100000 in
theorem all6_any (l : List Fld) (ms : List Mt) (v mv : Value) (w : World) (hv : FldsAt w v l) (hl : l.length ≤ 1000000) (hvs : ∀ m ∈ ms, (valueF l m.nm).size ≤ 900) (hm : MtsAt w mv ms) (hml : ms.length ≤ 1000000) (hmf : MtsFit ms) :
    Calls Tryz.prog 31 #[v, mv] w fun e w' => e = .returned (.bool (allM l ms)) ∧ Below w.heap.size w w' := by
  obtain ⟨ma, mc, rfl, _, hr⟩ := RdAt.shape hm
  obtain ⟨fa, fc, rfl, _, _⟩ := RdAt.shape hv
  have HR := Lib.hid hr
  have KF := Lib.hid (fun (m : Mt) (h : m ∈ ms) W (hW : Below w.heap.size w W) => fit6_any l m _ W (hv.later hW) hl (hvs m h) (hmf m h))
  clear hr hm hv hvs hmf
  go_enter Tryz.func31, Tryz.ntmps31
  go_wp2
  go_loopw [5] (fun i wr => ∃ k : Nat, k ≤ ms.length ∧ i = .int .i64 (k : Nat) ∧ Hid (allM l (ms.take k) = true) ∧ Hid (Below w.heap.size w wr)) (fun i _ => ms.length + 1 - (intOf i).toNat)
  case atStart => exact ⟨0, Nat.zero_le _, rfl, Lib.hid rfl, Lib.hid (Below.refl _ _)⟩
  case round =>
    obtain ⟨k, hk, rfl, HT, HBR⟩ := hrel
    by_cases hkl : k < ms.length
    · obtain ⟨b, o, rfl, hb, hcell⟩ := HR.out (by omega)
      have HTK : Hid (allM l (ms.take (k + 1)) = (allM l (ms.take k) && fitM l ms[k])) := Lib.hid (by unfold allM; rw [List.take_add_one, List.getElem?_eq_getElem hkl, List.all_append]; simp)
      have HNO : Hid (fitM l ms[k] = false → allM l ms = false) := Lib.hid (fun h => by unfold allM; rw [List.all_eq_false]; exact ⟨_, List.getElem_mem hkl, by rw [h]; decide⟩)
      have kf := KF.out ms[k] (List.getElem_mem hkl) wr HBR.out
      obtain ⟨h0, h1, h2⟩ := mtCells_at ms k hkl
      have a0 := keep_cell (hcell _ _ h0) HBR.out hb
      have a1 : wr.cell? ⟨b, o + k * 3 + 1, none⟩ = _ := keep_cell (by have := hcell _ _ h1; rwa [← Nat.add_assoc] at this) HBR.out hb
      have a2 : wr.cell? ⟨b, o + k * 3 + 2, none⟩ = _ := keep_cell (by have := hcell _ _ h2; rwa [← Nat.add_assoc] at this) HBR.out hb
      have hi0 : (0 : Int) ≤ (k : Int) := by omega
      have hi1 : (k : Int) < (ms.length : Int) := by omega
      clear hcell h0 h1 h2
      generalize ms[k] = m at *
      obtain ⟨nm, op, val⟩ := m
      dsimp only at *
      go_wp2_with fail
      refine kf.mono ?_
      rintro e w2 ⟨rfl, hb2⟩
      have HB2 := Lib.hid (HBR.out.trans (hb2.mono HBR.out.size))
      clear kf hb2 a0 a1 a2
      cases hfm : fitM l ⟨nm, op, val⟩ with
      | true =>
        rw [hfm] at HTK
        go_wp2
        go_roundw
        case rel => exact ⟨k + 1, by omega, by go_num, Lib.hid (by rw [HTK.out, HT.out]; rfl), HB2⟩
        case measure => (simp [intOf]; try omega)
      | false =>
        rw [hfm] at HNO
        go_wp2
        go_ret
        exact ⟨by first | (rw [HNO.out (by trivial)]; done) | (rw [HNO.out (by trivial)]; rfl), HB2.out⟩
    · obtain rfl : k = ms.length := by omega
      have hi1 : ¬ (ms.length : Int) < (ms.length : Int) := by omega
      have HA : Hid (allM l ms = true) := Lib.hid (by have := HT.out; rwa [List.take_length] at this)
      clear HT
      go_wp2
      go_ret
      exact ⟨by first | (rw [HA.out]; done) | (rw [HA.out]; rfl), HBR.out⟩
end Go.Proofs.YtcfococinllcmaaGreat

/- silences in a list's map: the model, the map's reading. -/
namespace Go.Proofs.YtcfococinllcmaaGreat
open Go.RowKit Go.Maps
structure Sil where
  id : Int
  mv : Option Addr × Nat × Nat
  ms : List Mt
  fr : Int
  til : Int
  lv : Int
  c : Nat
abbrev Sil.v (s : Sil) : Value := .agg #[.slice s.mv.1 s.mv.2.1 s.mv.2.2, .int .i64 s.fr, .int .i64 s.til, .int .i64 s.lv, .int .u32 s.c]
noncomputable def RV (v : Value) : Option (DataW Value × List MemPlace) := @ite _ (∃ s : Sil, v = s.v) (Classical.propDecidable _) (some (.held v, [])) none
theorem RV_sil (s : Sil) : RV s.v = some (.held s.v, []) := if_pos ⟨s, rfl⟩
theorem RV_inv {v : Value} {y : DataW Value × List MemPlace} (h : RV v = some y) : ∃ s : Sil, v = s.v ∧ y = (.held v, []) := by
  unfold RV at h
  split at h
  · rename_i hs
    obtain ⟨s, hs⟩ := hs
    exact ⟨s, hs, (Option.some.inj h).symm⟩
  · cases h
abbrev kI (x : Int) : Lit := .int .i64 x
def enS (s : Sil) : Lit × DataW Value := (kI s.id, .held s.v)
def DS (S : List Sil) : DataW Value := .map (S.map enS)
abbrev UpS (S : List Sil) : Prop := S.Pairwise (fun s t => s.id < t.id)
theorem DS_canon {S : List Sil} (h : UpS S) : Canon (DS S) :=
  ⟨_, rfl, List.pairwise_map.2 (h.imp fun {a b} hab => by simpa [enS, Lit.before] using hab), fun p hp => by
    obtain ⟨s, _, rfl⟩ := List.mem_map.1 hp
    trivial⟩
theorem DS_apart {S : List Sil} (h : UpS S) : (S.map enS).Pairwise (fun p q => p.1 ≠ q.1) :=
  List.pairwise_map.2 (h.imp fun {a b} hab e => by
    simp only [enS, kI, Lit.int.injEq, true_and] at e
    omega)
theorem DS_has (S : List Sil) (x : Int) : has (DS S) (kI x) = S.any fun s => s.id == x := by
  show (S.map enS).any _ = _
  rw [List.any_map]
  congr 1
  funext s
  simp only [Function.comp, enS, Lit.sameKey]
  rw [Bool.eq_iff_iff]
  simp
theorem DS_at {S : List Sil} (h : UpS S) {s : Sil} (hs : s ∈ S) (z : DataW Value) : (DS S).atKey (kI s.id) z = .held s.v :=
  WideAt.atKey_mem z (by trivial) (DS_apart h) (List.mem_map.2 ⟨s, hs, rfl⟩)
theorem DS_size (S : List Sil) : Maps.size (DS S) = S.length := by
  show (S.map enS).length = _
  simp
theorem DS_keys (S : List Sil) : intKeys (DS S) = S.map (·.id) := by
  show (S.map enS).map _ = _
  rw [List.map_map]
  rfl
theorem DS_none {S : List Sil} {x : Int} (hx : ∀ s ∈ S, s.id ≠ x) : has (DS S) (kI x) = false := by
  rw [DS_has, List.any_eq_false]
  intro s hs
  simpa using hx s hs
theorem DS_snoc {S : List Sil} {s : Sil} (h : UpS (S ++ [s])) (hc : Canon ((DS S).put (kI s.id) (.held s.v))) : (DS S).put (kI s.id) (.held s.v) = DS (S ++ [s]) := by
  have hS : UpS S := (List.pairwise_append.1 h).1
  have hm : IsMap (DS S) := ⟨_, rfl⟩
  have hne : ∀ t ∈ S, t.id ≠ s.id := fun t ht e => by
    have := (List.pairwise_append.1 h).2.2 t ht s (by simp)
    omega
  refine ext hc (DS_canon h) (fun k => ?_) (fun k z hk => ?_)
  · by_cases e : k = kI s.id
    · subst e
      rw [has_put_same hm (by trivial), DS_has]
      simp
    · rw [has_put_other e]
      show (S.map enS).any _ = ((S ++ [s]).map enS).any _
      rw [List.map_append, List.any_append]
      have : ([s].map enS).any (fun p => p.1.sameKey k) = false := by
        simp only [List.map_cons, List.map_nil, List.any_cons, List.any_nil, Bool.or_false]
        cases hh : (enS s).1.sameKey k
        · rfl
        · exact absurd (WideAt.sameKey_eq hh).symm e
      rw [this, Bool.or_false]
  · by_cases e : k = kI s.id
    · subst e
      rw [atKey_put_same hm (by trivial), DS_at h (by simp)]
    · rw [atKey_put_other e]
      rw [has_put_other e] at hk
      obtain ⟨p, hp, hpk⟩ := List.any_eq_true.1 hk
      obtain ⟨t, ht, rfl⟩ := List.mem_map.1 hp
      have := WideAt.sameKey_eq hpk
      rw [← this]
      show (DS S).atKey (kI t.id) z = (DS (S ++ [s])).atKey (kI t.id) z
      rw [DS_at hS ht, DS_at h (List.mem_append_left _ ht)]
def setS (S : List Sil) (s : Sil) : List Sil := S.map fun t => if t.id = s.id then s else t
theorem setS_ids (S : List Sil) (s : Sil) : (setS S s).map (·.id) = S.map (·.id) := by
  unfold setS
  rw [List.map_map]
  apply List.map_congr_left
  intro t _
  simp only [Function.comp]
  split
  · rename_i h; exact h.symm
  · rfl
theorem upS_ids {S T : List Sil} (h : S.map (·.id) = T.map (·.id)) (hT : UpS T) : UpS S := by
  have : (T.map (·.id)).Pairwise (· < ·) := List.pairwise_map.2 hT
  rw [← h] at this
  exact List.pairwise_map.1 this
theorem mem_setS {S : List Sil} {s t : Sil} (h : t ∈ setS S s) : t = s ∨ t ∈ S := by
  obtain ⟨u, hu, rfl⟩ := List.mem_map.1 h
  split
  · exact .inl rfl
  · exact .inr hu
theorem DS_set {S : List Sil} {s : Sil} (h : UpS S) (hs : ∃ t ∈ S, t.id = s.id) (hc : Canon ((DS S).put (kI s.id) (.held s.v))) : (DS S).put (kI s.id) (.held s.v) = DS (setS S s) := by
  have hU : UpS (setS S s) := upS_ids (setS_ids S s) h
  have hm : IsMap (DS S) := ⟨_, rfl⟩
  obtain ⟨t, ht, hti⟩ := hs
  have hin : s ∈ setS S s := List.mem_map.2 ⟨t, ht, by rw [if_pos hti]⟩
  have hk : ∀ k, has (DS (setS S s)) k = has (DS S) k := fun k => by
    show ((setS S s).map enS).any _ = (S.map enS).any _
    rw [List.any_map, List.any_map]
    unfold setS
    rw [List.any_map]
    congr 1
    funext u
    simp only [Function.comp]
    split
    · rename_i h; simp [enS, h]
    · rfl
  refine ext hc (DS_canon hU) (fun k => ?_) (fun k z hkk => ?_)
  · rw [hk]
    by_cases e : k = kI s.id
    · subst e
      rw [has_put_same hm (by trivial), DS_has]
      exact (List.any_eq_true.2 ⟨t, ht, by simpa using hti⟩).symm
    · rw [has_put_other e]
  · by_cases e : k = kI s.id
    · subst e
      rw [atKey_put_same hm (by trivial), DS_at hU hin]
    · rw [atKey_put_other e]
      rw [has_put_other e] at hkk
      obtain ⟨p, hp, hpk⟩ := List.any_eq_true.1 hkk
      obtain ⟨u, hu, rfl⟩ := List.mem_map.1 hp
      have := WideAt.sameKey_eq hpk
      rw [← this]
      have hne : u.id ≠ s.id := fun e1 => e (by rw [← this]; show kI u.id = _; rw [e1])
      show (DS S).atKey (kI u.id) z = (DS (setS S s)).atKey (kI u.id) z
      rw [DS_at h hu, DS_at hU (List.mem_map.2 ⟨u, hu, by rw [if_neg hne]⟩)]
theorem DS_del (S : List Sil) (x : Int) : (DS S).del (kI x) = DS (S.filter fun s => !(s.id == x)) := by
  show DataW.map ((S.map enS).filter fun p => !p.1.sameKey (kI x)) = DataW.map ((S.filter _).map enS)
  rw [List.filter_map]
  congr 2
  apply List.filter_congr
  intro s _
  simp only [Function.comp, enS, Lit.sameKey]
  rw [Bool.eq_iff_iff]
  simp
noncomputable def pdS (p : Sil → Bool) (_ : Lit) (d : DataW Value) : Bool := @decide (∃ s : Sil, d = .held s.v ∧ p s = true) (Classical.propDecidable _)
theorem DS_delf (S : List Sil) (p : Sil → Bool) (hp : ∀ s t : Sil, s.v = t.v → p s = p t) : Lib.deleteFuncD (pdS p) (DS S) = DS (S.filter fun s => !p s) := by
  show DataW.map ((S.map enS).filter _) = DataW.map ((S.filter _).map enS)
  rw [List.filter_map]
  congr 2
  apply List.filter_congr
  intro s _
  simp only [Function.comp, enS]
  congr 1
  unfold pdS
  rw [Bool.eq_iff_iff, @decide_eq_true_iff _ (Classical.propDecidable _)]
  constructor
  · rintro ⟨t, ht, h1⟩
    rw [hp s t (DataW.held.inj ht)]; exact h1
  · intro h
    exact ⟨s, rfl, h⟩
theorem pdS_held (p : Sil → Bool) (hp : ∀ s t : Sil, s.v = t.v → p s = p t) (k : Lit) (s : Sil) : pdS p k (.held s.v) = p s := by
  unfold pdS
  rw [Bool.eq_iff_iff, @decide_eq_true_iff _ (Classical.propDecidable _)]
  constructor
  · rintro ⟨t, ht, h1⟩
    rw [hp s t (DataW.held.inj ht)]; exact h1
  · intro h
    exact ⟨s, rfl, h⟩
structure Kp (lp m : Nat) (w w' : World) : Prop where
  os : w'.os = w.os
  tape : w'.tape = w.tape
  output : w'.output = w.output
  size : w.heap.size ≤ w'.heap.size
  block : ∀ b, b < w.heap.size → b ≠ lp → b ≠ m → w'.heap[b]? = w.heap[b]?
theorem Kp.refl (lp m : Nat) (w : World) : Kp lp m w w := ⟨rfl, rfl, rfl, Nat.le_refl _, fun _ _ _ _ => rfl⟩
theorem Kp.trans {lp m : Nat} {a b c : World} (h : Kp lp m a b) (k : Kp lp m b c) : Kp lp m a c :=
  ⟨k.os.trans h.os, k.tape.trans h.tape, k.output.trans h.output, Nat.le_trans h.size k.size, fun i hi h1 h2 => (k.block i (Nat.lt_of_lt_of_le hi h.size) h1 h2).trans (h.block i hi h1 h2)⟩
theorem Kp.of_below {lp m : Nat} {w w' : World} (h : Below w.heap.size w w') : Kp lp m w w' := ⟨h.os, h.tape, h.output, h.size, fun b hb _ _ => h.block b hb⟩
theorem Kp.of_map {lp m : Nat} {w w' : World} (h : w.grownBy w' (some m)) : Kp lp m w w' := ⟨h.os, h.tape, h.output, h.size, fun b hb _ h2 => h.block b hb (fun e => h2 (Option.some.inj e))⟩
theorem Kp.below {lp m base : Nat} {w w' : World} (h : Kp lp m w w') (h1 : base ≤ lp) (h2 : base ≤ m) (h3 : base ≤ w.heap.size) : Below base w w' :=
  ⟨h.os, h.tape, h.output, h.size, fun b hb => h.block b (Nat.lt_of_lt_of_le hb h3) (by omega) (by omega)⟩
theorem Kp.cell {lp m : Nat} {w w' : World} (h : Kp lp m w w') {b o : Nat} {v : Value} (hv : w.cell? ⟨b, o, none⟩ = some v) (h1 : b ≠ lp) (h2 : b ≠ m) : w'.cell? ⟨b, o, none⟩ = some v :=
  (World.cell?_of_block (a := ⟨b, o, none⟩) (h.block b (cell_lt hv) h1 h2)).trans hv
theorem Kp.rd {lp m : Nat} {w w' : World} (h : Kp lp m w w') {v : Value} {n k : Nat} {xs : List Value} (hv : RdAt w v n k xs) (hb : ∀ q, v.ownBlock = some q → q ≠ lp ∧ q ≠ m) : RdAt w' v n k xs := by
  refine ⟨hv.1, ?_⟩
  rcases hv.2 with h1 | ⟨a, c, rfl, hc, hr⟩
  · exact .inl h1
  · refine .inr ⟨a, c, rfl, hc, fun hn => ?_⟩
    obtain ⟨b, o, rfl, hlt, hcell⟩ := hr hn
    have := hb b rfl
    exact ⟨b, o, rfl, Nat.lt_of_lt_of_le hlt h.size, fun j x hx => h.cell (hcell j x hx) this.1 this.2⟩
theorem cell_keepS {w w' : World} {b o : Nat} {v : Value} {row : Option Nat} (h : w.cell? ⟨b, o, none⟩ = some v) (hg : w.grownBy w' row) (hr : row ≠ some b) : w'.cell? ⟨b, o, none⟩ = some v :=
  (World.cell?_of_block (a := ⟨b, o, none⟩) (hg.block b (cell_lt h) (fun e => hr e.symm))).trans h
theorem there_same {w w' : World} {g n : Nat} (h : w.there g 0 n) (hk : w'.heap[g]? = w.heap[g]?) : w'.there g 0 n := fun j hj => by
  obtain ⟨h1, h2⟩ := h j hj
  exact ⟨by rw [World.cell?_of_block (a := ⟨g, 0 + j, none⟩) hk]; exact h1, by rw [World.frozen?_of_block (a := ⟨g, 0 + j, none⟩) hk]; exact h2⟩
structure SlAt (w : World) (lp m n : Nat) (S : List Sil) (last : Int) : Prop where
  h0 : w.cell? ⟨lp, 0, none⟩ = some (.map (some m))
  h1 : w.cell? ⟨lp, 1, none⟩ = some (.int .i64 last)
  own : w.ownsMap Tryz.prog 3 RV m n (DS S)
  up : UpS S
  ids : ∀ s ∈ S, 1 ≤ s.id ∧ s.id ≤ last
  ms : ∀ s ∈ S, MtsAt w (SV s.mv) s.ms ∧ MtsFit s.ms ∧ s.ms.length ≤ 12 ∧ ∀ q, (SV s.mv).ownBlock = some q → q ≠ lp ∧ q ≠ m
  th : w.there lp 0 2
  few : last ≤ 1000000
  len : n ≤ 1000000
theorem SlAt.ne {w : World} {lp m n : Nat} {S : List Sil} {last : Int} (h : SlAt w lp m n S last) : lp ≠ m := fun e => by
  obtain ⟨es, clock, hb, _⟩ := h.own
  have := h.h0
  rw [e] at this
  simp [World.cell?, hb] at this
theorem SlAt.later {w w' : World} {lp m n : Nat} {S : List Sil} {last : Int} (h : SlAt w lp m n S last) (hb : Below w.heap.size w w') : SlAt w' lp m n S last :=
  ⟨keep_cell h.h0 hb (cell_lt h.h0), keep_cell h.h1 hb (cell_lt h.h1), h.own.kept (row := none) ⟨hb.os, hb.tape, hb.output, hb.size, fun k hk _ => hb.block k hk⟩ (by simp), h.up, h.ids, fun s hs => ⟨(h.ms s hs).1.later hb, (h.ms s hs).2⟩, there_later h.th hb (cell_lt h.h0), h.few, h.len⟩
theorem SlAt.wf {w : World} {lp m n : Nat} {S : List Sil} {last : Int} (h : SlAt w lp m n S last) {s : Sil} (hs : s ∈ S) : (Lit.int .i64 s.id).wf = true := by
  have := h.ids s hs
  have := h.few
  simp [Lit.wf, IntKind.min, IntKind.max, IntKind.signed, IntKind.bits]
  omega
end Go.Proofs.YtcfococinllcmaaGreat

/- silences: maps.DeleteFunc, Forget. -/
namespace Go.Proofs.YtcfococinllcmaaGreat
open Go.RowKit Go.Maps
theorem keyedI : Keyed Tryz.prog 3 := int_keyed Tryz.underlying3
theorem invKI (key : Value) (kl : Lit) (h : keyOf Tryz.prog 3 key = some kl) : ∃ x : Int, key = .int .i64 x := by
  obtain ⟨x, rfl, _⟩ := Maps.keyOf_int_inv Tryz.underlying3 h
  exact ⟨x, rfl⟩
theorem invVS (v : Value) (y : DataW Value × List MemPlace) (h : RV v = some y) : ∃ s : Sil, v = s.v := by
  obtain ⟨s, rfl, _⟩ := RV_inv h
  exact ⟨s, rfl⟩
abbrev endS (now : Int) (s : Sil) : Bool := decide (s.til ≤ now)
theorem endS_v (now : Int) (s t : Sil) (h : s.v = t.v) : endS now s = endS now t := by
  simp only [Sil.v, Value.agg.injEq, Array.mk.injEq, List.cons.injEq, Value.int.injEq, true_and, and_true] at h
  unfold endS
  rw [h.2.2.1]
set_option maxHeartbeats 1600000 in
theorem forclos (x : Int) (s : Sil) (now : Int) (b : Nat) (w : World) (hc : w.cell? ⟨b, 0, none⟩ = some (.int .i64 now)) :
    Calls Tryz.prog 76 #[.int .i64 x, s.v, .pointer (some ⟨b, 0, none⟩)] w fun e w' => e = .returned (.bool (endS now s)) ∧ w.grownBy w' none := by
  have hb := alloc_below w (.cells #[.slice s.mv.1 s.mv.2.1 s.mv.2.2, .int .i64 s.fr, .int .i64 s.til, .int .i64 s.lv, .int .u32 s.c] 67)
  have h2 := box_later (Below.refl _ (w.alloc (.cells #[.slice s.mv.1 s.mv.2.1 s.mv.2.2, .int .i64 s.fr, .int .i64 s.til, .int .i64 s.lv, .int .u32 s.c] 67))) (i := 2) (x := .int .i64 s.til) rfl
  have h1 := keep_cell hc hb (cell_lt hc)
  have HG := Lib.hid (below_grown hb none)
  unfold Sil.v endS
  obtain ⟨id, ⟨a, n, c'⟩, ms, fr, til, lv, c⟩ := s
  dsimp only at *
  clear hb hc
  go_enter Tryz.func76, Tryz.ntmps76
  go_wp2
  go_ret
  exact ⟨by first | rfl | simp, HG.out⟩
set_option maxHeartbeats 4000000 in
set_option maxRecDepth 100000 in
theorem mdel_any (m n : Nat) (S : List Sil) (hS : UpS S) (now : Int) (bx : Nat) (w : World) (hown : w.ownsMap Tryz.prog 3 RV m n (DS S)) (hc : w.cell? ⟨bx, 0, none⟩ = some (.int .i64 now)) (hne : bx ≠ m) :
    Calls Tryz.prog 75 #[.map (some m), .func (.func 76) #[] #[.pointer (some ⟨bx, 0, none⟩)]] w fun e w' =>
      e = .returned (.tuple #[]) ∧ w'.ownsMap Tryz.prog 3 RV m n (DS (S.filter fun s => !endS now s)) ∧ w.grownBy w' (some m) := by
  have eg : ∀ args w, (callFunc 76 args).run Tryz.prog w = .ok (.enter 76 args) w := enters_of Tryz.func76 (by kernel_rfl) rfl
  have K := keyedI
  have hkeys : ∀ p ∈ S.map enS, WideAt.IsKeyLit p.1 := fun p hp => by
    obtain ⟨s, _, rfl⟩ := List.mem_map.1 hp
    trivial
  have hap := DS_apart hS
  have HP := Lib.hid (DS_delf S (endS now) (endS_v now))
  have HQ := Lib.hid (fun k s => pdS_held (endS now) (endS_v now) k s)
  have hml := hown.lt
  have HO := Lib.hid hown
  have HC := Lib.hid (fun W (h : w.grownBy W (some m)) => cell_keepS hc h (fun e => hne (Option.some.inj e).symm))
  clear hc hown
  generalize hpd : pdS (endS now) = pd at *
  go_enter Tryz.func75, Tryz.ntmps75
  go_wp2_with (first
    | (at_range; refine wpList_range_own _ rfl _ 115 rfl 3 67 K Tryz.underlying115 RV m n _ rfl HO.out ?_; intro w0 hrg0 hg0 hs0)
    | go_in)
  go_frame
  have HB := Lib.hid (Fk_start (pd := pd) hkeys)
  have hap' : Hid _ := hap
  clear hap hkeys
  go_loopw [8] (fun _ wr => ∃ (left : Lit → Bool) (cnt : Nat), Hid (wr.ranges Tryz.prog 3 RV m w.heap.size n (Fk pd (S.map enS) left) left cnt) ∧ Hid (w.grownBy wr (some m)))
    (fun _ wr => wr.rangeLeft m w.heap.size)
  case atStart => exact ⟨_, _, Lib.hid (by rw [HB.out]; exact hrg0), Lib.hid (hg0.but _)⟩
  case round =>
    clear hrg0 hg0
    obtain ⟨left, cnt, HR, HW⟩ := hrel
    go_wp2_with (first
      | (at_next; refine wpList_next_ranges _ rfl _ rfl 3 K RV (fun x : Int => .int .i64 x) (fun s : Sil => s.v) invKI invVS m w.heap.size n _ _ _ rfl HR.out ?_ ?_)
      | go_in)
    · intro _ hl0
      have HL0 := Lib.hid hl0
      clear hl0
      go_wp2
      go_end0
      have hr := HR.out.owns
      rw [Fk_end HL0.out] at hr
      exact ⟨rfl, by rw [← HP.out]; exact hr, HW.out⟩
    · intro x s kl yd yp w1 cnt1 hkey hlx hv hat hrg1 hlt hg1 hs1 hen
      obtain ⟨s', hs', hy⟩ := RV_inv hv
      obtain rfl : yd = .held s.v := congrArg Prod.fst hy
      obtain ⟨x', ex, rfl, _⟩ := Maps.keyOf_int_inv Tryz.underlying3 hkey
      obtain rfl : x = x' := by simpa using ex
      have hgw1 := HW.out.andThen hg1 (fun j hj => by cases hj; exact Or.inl (Nat.le_refl _))
      have hba := World.grownBy_alloc w1 (.cells #[.slice s.mv.1 s.mv.2.1 s.mv.2.2, .int .i64 s.fr, .int .i64 s.til, .int .i64 s.lv, .int .u32 s.c] 67) none
      have hba' := alloc_below w1 (.cells #[.slice s.mv.1 s.mv.2.1 s.mv.2.2, .int .i64 s.fr, .int .i64 s.til, .int .i64 s.lv, .int .u32 s.c] 67)
      have hrg2 := hrg1.kept hba (by simp) (by simp)
      have hgw2 := hgw1.andThen hba (fun j hj => by cases hj)
      have hrefl := Below.refl (w1.alloc (.cells #[.slice s.mv.1 s.mv.2.1 s.mv.2.2, .int .i64 s.fr, .int .i64 s.til, .int .i64 s.lv, .int .u32 s.c] 67)).heap.size (w1.alloc (.cells #[.slice s.mv.1 s.mv.2.1 s.mv.2.2, .int .i64 s.fr, .int .i64 s.til, .int .i64 s.lv, .int .u32 s.c] 67))
      have y0 := box_later hrefl (i := 0) rfl
      have y1 := box_later hrefl (i := 1) rfl
      have y2 := box_later hrefl (i := 2) rfl
      have y3 := box_later hrefl (i := 3) rfl
      have y4 := box_later hrefl (i := 4) rfl
      rw [hs1] at y0 y1 y2 y3 y4
      have hcl := forclos x s now bx _ (HC.out _ hgw2)
      have HQ1 := Lib.hid (HQ.out (kI x) s)
      have HR2 := Lib.hid hrg2
      have HW2 := Lib.hid hgw2
      have HLX := Lib.hid hlx
      have HAT := Lib.hid hat
      have HHK := Lib.hid hkey
      have HLT := Lib.hid hlt
      unfold Sil.v at hen hcl
      clear hs' hy hv hkey hlx hat hrg1 hrg2 hlt hg1 hgw1 hgw2 hba hba' hrefl HC
      obtain ⟨id, ⟨a, sn, c'⟩, sms, fr, til, lv, c⟩ := s
      dsimp only at *
      go_upto_region 3 with fail
      change Code.wp _ _ _ _ (w1.alloc (.cells #[.slice a sn c', .int .i64 fr, .int .i64 til, .int .i64 lv, .int .u32 c] 67))
      generalize w1.alloc (.cells #[.slice a sn c', .int .i64 fr, .int .i64 til, .int .i64 lv, .int .u32 c] 67) = wa at *
      change Calls Tryz.prog 76 #[.int .i64 x, .agg #[.slice a sn c', .int .i64 fr, .int .i64 til, .int .i64 lv, .int .u32 c], .pointer (some ⟨bx, 0, none⟩)] wa (fun e w' => e = .returned (.bool (decide (til ≤ now))) ∧ wa.grownBy w' none) at hcl
      change Hid (pd (kI x) (.held (.agg #[.slice a sn c', .int .i64 fr, .int .i64 til, .int .i64 lv, .int .u32 c])) = decide (til ≤ now)) at HQ1
      obtain ⟨q, hq⟩ : ∃ q, decide (til ≤ now) = q := ⟨_, rfl⟩
      rw [hq] at hcl HQ1
      clear hq
      go_wp2_with fail
      refine hcl.mono ?_
      rintro e w2 ⟨rfl, hg2⟩
      have hrg3 := HR2.out.kept hg2 (by simp) (by simp)
      have HW3 := Lib.hid (HW2.out.andThen hg2 (fun j hj => by cases hj))
      have HR3 := Lib.hid hrg3
      clear hcl hg2 hrg3 y0 y1 y2 y3 y4
      cases q
      · go_wp2
        go_roundw
        case rel => exact ⟨_, cnt1, Lib.hid (by rw [← Fk_stays hap'.out (K.key HHK.out) HLX.out HQ1.out HAT.out]; exact HR3.out), HW3⟩
        case measure => rw [HR3.out.left_eq, HR.out.left_eq]; exact HLT.out
      · go_wp2_with (first
          | (at_delete; refine wpList_delete_ranges _ rfl _ _ 115 3 rfl 67 K Tryz.underlying115 RV m w.heap.size n _ _ _ rfl HR3.out _ _ rfl HHK.out ?_; intro w3 cnt3 hrg4 hle hturn; go_frame)
          | go_in)
        rw [strike_twice] at hrg4
        go_roundw
        case rel => exact ⟨_, cnt3, Lib.hid (by rw [← Fk_struck hap'.out (K.key HHK.out) HLX.out HQ1.out HAT.out]; exact hrg4), Lib.hid (HW3.out.andThen hturn.grown (fun j hj => by cases hj; exact Or.inr rfl))⟩
        case measure => rw [hrg4.left_eq, HR.out.left_eq]; have := HLT.out; omega
theorem count_split (S : List Sil) (now : Int) : (S.length : Int) - ((S.filter fun s => !endS now s).length : Int) = ((S.countP (endS now) : Nat) : Int) := by
  have h1 := List.length_eq_countP_add_countP (endS now) (l := S)
  have h2 : (S.filter fun s => !endS now s).length = S.countP (fun s => !endS now s) := List.countP_eq_length_filter.symm
  have h3 : S.countP (fun s => ¬ endS now s = true) = S.countP (fun s => !endS now s) := by
    congr 1
    funext s
    cases endS now s <;> simp
  omega
theorem SlAt.sub {w w' : World} {lp m n : Nat} {S : List Sil} {last : Int} (h : SlAt w lp m n S last) (p : Sil → Bool) (hk : Kp lp m w w') (h0 : w'.cell? ⟨lp, 0, none⟩ = some (.map (some m))) (h1 : w'.cell? ⟨lp, 1, none⟩ = some (.int .i64 last)) (ht : w'.there lp 0 2)
    (ho : w'.ownsMap Tryz.prog 3 RV m n (DS (S.filter p))) : SlAt w' lp m n (S.filter p) last :=
  ⟨h0, h1, ho, h.up.filter p, fun s hs => h.ids s ((List.mem_filter.1 hs).1), fun s hs => by
    obtain ⟨a, b, c, d⟩ := h.ms s ((List.mem_filter.1 hs).1)
    exact ⟨hk.rd a d, b, c, d⟩, ht, h.few, h.len⟩
set_option maxHeartbeats 1600000 in
set_option maxRecDepth 100000 in
theorem forget_any (lp m n : Nat) (S : List Sil) (last now : Int) (w : World) (h : SlAt w lp m n S last) :
    Calls Tryz.prog 41 #[.pointer (some ⟨lp, 0, none⟩), .int .i64 now] w fun e w' =>
      e = .returned (.int .i64 ((S.countP (endS now) : Nat) : Int)) ∧ SlAt w' lp m n (S.filter fun s => !endS now s) last ∧ Kp lp m w w' := by
  have hb := alloc_below w (.cells #[.int .i64 now] 3)
  have hz := World.size_alloc w (.cells #[.int .i64 now] 3)
  have y0 := box_later (Below.refl (w.alloc (.cells #[.int .i64 now] 3)).heap.size (w.alloc (.cells #[.int .i64 now] 3))) (i := 0) (x := .int .i64 now) rfl
  have h1 := h.later hb
  have hml := h.own.lt
  have k := mdel_any m n S h.up now w.heap.size _ h1.own y0 (by omega)
  have l0 := h1.h0
  have len1 := h1.own.len Tryz.underlying115
  rw [DS_size] at len1
  have H1 := Lib.hid h1
  have HK1 := Lib.hid (Kp.of_below hb (lp := lp) (m := m))
  have HN := Lib.hid h1.ne
  have HS := Lib.hid (count_split S now)
  have hSl : S.length ≤ 1000000 := by
    have := h1.own.size_le
    rw [DS_size] at this
    exact Nat.le_trans this h1.len
  have hSf : (S.filter fun s => !endS now s).length ≤ S.length := List.length_filter_le _ _
  clear h1 h hb y0
  go_enter Tryz.func41, Tryz.ntmps41
  go_upto_region 4 with fail
  change Code.wp _ _ _ _ (w.alloc (.cells #[.int .i64 now] 3))
  generalize w.alloc (.cells #[.int .i64 now] 3) = w1 at *
  go_wp2_with fail
  refine k.mono ?_
  rintro e w2 ⟨rfl, ho2, hg2⟩
  have l2 := cell_keepS l0 hg2 (fun e => HN.out (Option.some.inj e).symm)
  have l3 := cell_keepS H1.out.h1 hg2 (fun e => HN.out (Option.some.inj e).symm)
  have len2 := ho2.len Tryz.underlying115
  rw [DS_size] at len2
  have HF := Lib.hid (H1.out.sub (fun s => !endS now s) (Kp.of_map hg2) l2 l3 (there_same H1.out.th (hg2.block lp (cell_lt H1.out.h0) (fun e => HN.out (Option.some.inj e)))) ho2)
  have HK2 := Lib.hid (HK1.out.trans (Kp.of_map hg2))
  generalize (S.filter fun s => !endS now s).length = n2 at *
  generalize S.length = n1 at *
  clear k ho2 hg2 l3 len1 l0
  go_wp2
  go_ret
  refine ⟨?_, HF.out, HK2.out⟩
  rw [← HS.out]
  first | rfl | (rw [IntWalk.wrap64_in _ ⟨by omega, by omega⟩])
end Go.Proofs.YtcfococinllcmaaGreat

/- silences: Numbers. -/
namespace Go.Proofs.YtcfococinllcmaaGreat
open Go.RowKit Go.Maps Go.Sort Go.Shelf
theorem sortsS (m : Nat) : AnyZI.SortsIn Tryz.prog Tryz.sortedS_ren Fence.wide m :=
  ⟨fun blk off cap ss W hH hblk hsz => callsIn_wide.2 (Tryz.slices_Sort_int blk off cap ss W hH hblk hsz),
   fun p cap W => callsIn_wide.2 (Tryz.slices_Sort_int_none p cap W)⟩
theorem sorted_ids {S : List Sil} (h : UpS S) {ss : List Int} (hp : ss.Perm (intKeys (DS S))) : ss.mergeSort (fun x y => decide (x ≤ y)) = S.map (·.id) := by
  rw [DS_keys] at hp
  have h1 : (ss.mergeSort fun x y => decide (x ≤ y)).Pairwise (fun a b => decide (a ≤ b) = true) := List.pairwise_mergeSort (fun a b c h1 h2 => by simp at *; omega) (fun a b => by simp; omega) ss
  have h2 : (S.map (·.id)).Pairwise (fun a b => decide (a ≤ b) = true) := List.pairwise_map.2 (h.imp fun {a b} hab => by simp; omega)
  exact List.Perm.eq_of_pairwise (fun a b _ _ h1 h2 => by simp at h1 h2; omega) h1 h2 ((List.mergeSort_perm _ _).trans hp)
set_option maxHeartbeats 2000000 in
set_option maxRecDepth 100000 in
theorem num_any (lp m n : Nat) (S : List Sil) (last : Int) (w : World) (h : SlAt w lp m n S last) :
    Calls Tryz.prog 30 #[.pointer (some ⟨lp, 0, none⟩)] w fun e w' =>
      ∃ v, e = .returned v ∧ w'.ownsRow w.heap.size 3 1 v S.length ((S.map (·.id)).map I) ∧ Below w.heap.size w w' := by
  refine (callsIn_wide (n := 6)).1 ?_
  have hbl := h.own.lt
  have hown := h.own
  have hmax : Maps.size (DS S) ≤ maxLen := by have := hown.size_le; have := h.len; unfold maxLen; omega
  have hbytes : Maps.size (DS S) * 8 ≤ 140737488355328 := by have := hown.size_le; have := h.len; omega
  have hseq : SeqGives Fence.wide 2 Tryz.prog 97 #[.pointer (some ⟨w.heap.size, 0, none⟩)] encZ (fun ss => ss.Perm (intKeys (DS S))) (Maps.size (DS S)) (w.alloc (.cells #[.map (some m)] 115)) :=
    AnyZI.keys_gives (ρ := Tryz.keysS_ren) { Tryz.keysS with } Fence.wide _ trivial rfl (by omega) w.heap.size m n (DS S) _ (by simp) (by simp) (by
      obtain ⟨es, clock, hb, Ft, hs, hD⟩ := hown
      exact ⟨es, clock, (Below.heap_alloc _ _ m hbl).trans hb, Ft, hs, hD⟩)
  have cK : ∀ mb W, CallsIn Fence.wide 5 Tryz.prog 68 #[.map mb] W fun e w' => e = .returned (.func (.func 97) #[] #[.pointer (some ⟨W.heap.size, 0, none⟩)]) ∧ w' = W.alloc (.cells #[.map mb] 115) := fun mb W => AnyZI.keys_in Tryz.keysS Fence.wide 5 trivial rfl mb W
  have cS := AnyZI.sorted_in Tryz.sortedS Fence.wide 5 trivial trivial trivial trivial rfl (by omega) (sortsS _) (enters_of Tryz.func96 (by kernel_rfl) rfl) 97 #[.pointer (some ⟨w.heap.size, 0, none⟩)] trivial (enters_of Tryz.func97 (by kernel_rfl) rfl) _ _ hmax hbytes _ hseq
  change CallsIn _ _ Tryz.prog 67 _ _ _ at cS
  have hfK : Fence.wide.fn 68 := trivial
  have hfS : Fence.wide.fn 67 := trivial
  have l0 := h.h0
  have HU := Lib.hid h.up
  clear hseq hown hmax hbytes h
  refine callsIn_of_wp Tryz.func30 rfl trivial ?_ rfl
  simp only [Tryz.ntmps30, List.size_toArray, List.length_cons, List.length_nil, Nat.reduceAdd, Nat.reduceSub, Array.replicate_succ, Array.replicate_zero, List.push_toArray, List.append_toArray, List.nil_append, List.cons_append]
  gi_wp2_with (first
    | (gi_at_call 68; refine (cK _ _).mono ?_; rintro e w' ⟨rfl, rfl⟩)
    | (gi_at_call 67; refine cS.mono ?_; rintro e w' ⟨v, ss, rfl, hS, hrow, hnil, hb⟩))
  go_ret
  rw [sorted_ids HU.out hS] at hrow
  have hl : ss.length = S.length := by rw [hS.length_eq, DS_keys, List.length_map]
  rw [hl] at hrow
  exact ⟨v, rfl, ownsRow_base_a hrow (by simp), ((Below.refl _ w).alloc (Nat.le_refl _) _).trans (hb.mono (by simp))⟩
end Go.Proofs.YtcfococinllcmaaGreat

/- silences: Right. -/
namespace Go.Proofs.YtcfococinllcmaaGreat
open Go.RowKit
def C5 (p : Nat) (a b c d e : Value) (W : World) : Prop := W.cell? ⟨p, 0, none⟩ = some a ∧ W.cell? ⟨p, 1, none⟩ = some b ∧ W.cell? ⟨p, 2, none⟩ = some c ∧ W.cell? ⟨p, 3, none⟩ = some d ∧ W.cell? ⟨p, 4, none⟩ = some e
theorem C5.later {p : Nat} {a b c d e : Value} {W W' : World} (h : C5 p a b c d e W) (hb : Below W.heap.size W W') : C5 p a b c d e W' := by
  obtain ⟨h0, h1, h2, h3, h4⟩ := h
  exact ⟨keep_cell h0 hb (cell_lt h0), keep_cell h1 hb (cell_lt h1), keep_cell h2 hb (cell_lt h2), keep_cell h3 hb (cell_lt h3), keep_cell h4 hb (cell_lt h4)⟩
theorem alc5 (W : World) (a b c d e : Value) (t : TypeId) : C5 W.heap.size a b c d e (W.alloc (.cells #[a, b, c, d, e] t)) := by
  have hc : ∀ (i : Nat), (W.alloc (.cells #[a, b, c, d, e] t)).cell? ⟨W.heap.size, i, none⟩ = _ := fun i => World.cell?_alloc_at _ _ _ _ rfl
  exact ⟨hc 0, hc 1, hc 2, hc 3, hc 4⟩
def rightS (s : Sil) : Bool := decide (0 < s.ms.length) && decide (s.ms.length ≤ 12) && !(s.ms.any fun m => !fineM m) && decide (0 ≤ s.fr) && decide (s.fr < s.til) && decide (s.til ≤ 1099511627776) && rightL s.lv
set_option maxHeartbeats 800000 in
theorem sclos (m : Mt) (w : World) (hf : MtFit m) : Calls Tryz.prog 73 #[.agg #[.string m.nm, .int .i64 m.op, .string m.val]] w fun e w' => e = .returned (.bool (!(fineM m))) ∧ Below w.heap.size w w' := by
  have hb := alloc_below w (.cells #[.string m.nm, .int .i64 m.op, .string m.val] 108)
  have k := mfine_any m (w.alloc (.cells #[.string m.nm, .int .i64 m.op, .string m.val] 108)) hf
  have HB := Lib.hid hb
  generalize fineM m = R at *
  obtain ⟨nm, op, val⟩ := m
  dsimp only at *
  clear hf hb
  go_enter Tryz.func73, Tryz.ntmps73
  go_wp2_with fail
  refine k.mono ?_
  rintro e w1 ⟨rfl, hb1⟩
  clear k
  go_wp2
  go_ret
  exact ⟨rfl, HB.out.trans (hb1.mono HB.out.size)⟩
set_option maxHeartbeats 3200000 in
set_option maxRecDepth 100000 in
theorem sright_any (s : Sil) (w : World) (hm : MtsAt w (SV s.mv) s.ms) (hf : MtsFit s.ms) (hl : s.ms.length ≤ 1000000000000) :
    Calls Tryz.prog 36 #[s.v] w fun e w' => e = .returned (.bool (rightS s)) ∧ Below w.heap.size w w' := by
  have k4 := fun W (hW : Below w.heap.size w W) => hasm_gen s.ms hf (fun m => !(fineM m)) 73 #[] (enters_of Tryz.func73 (by kernel_rfl) rfl) (SV s.mv) W (hm.later hW) hl (fun W m hm _ => sclos m W hm)
  have HR : Hid (rightS s = (decide (0 < s.ms.length) && decide (s.ms.length ≤ 12) && !(s.ms.any fun m => !fineM m) && decide (0 ≤ s.fr) && decide (s.fr < s.til) && decide (s.til ≤ 1099511627776) && rightL s.lv)) := Lib.hid rfl
  obtain ⟨ma, mc, e, _, _⟩ := RdAt.shape hm
  have hb0 := alloc_below w (.cells #[.slice s.mv.1 s.mv.2.1 s.mv.2.2, .int .i64 s.fr, .int .i64 s.til, .int .i64 s.lv, .int .u32 s.c] 67)
  have x := alc5 w (.slice s.mv.1 s.mv.2.1 s.mv.2.2) (.int .i64 s.fr) (.int .i64 s.til) (.int .i64 s.lv) (.int .u32 s.c) 67
  unfold Sil.v
  simp only [SV] at e k4
  rw [e] at x hb0 k4 ⊢
  generalize rightS s = R at *
  generalize (s.ms.any fun m => !fineM m) = AN at *
  generalize s.ms.length = mn at *
  obtain ⟨id, mv, ms, fr, til, lv, c⟩ := s
  dsimp only at *
  have K4 := Lib.hid k4
  have X0 := Lib.hid x
  have HB0 := Lib.hid hb0
  have k5 := fun W => right_any lv c W
  have K5 := Lib.hid k5
  generalize rightL lv = RL at *
  clear hm hf k4 k5 x hb0 e
  go_enter Tryz.func36, Tryz.ntmps36
  go_upto_region 2 with fail
  change Code.wp _ _ _ _ (w.alloc (.cells #[.slice ma mn mc, .int .i64 fr, .int .i64 til, .int .i64 lv, .int .u32 c] 67))
  generalize w.alloc (.cells #[.slice ma mn mc, .int .i64 fr, .int .i64 til, .int .i64 lv, .int .u32 c] 67) = w1 at *
  have k4 := K4.out w1 HB0.out
  obtain ⟨x0, x1, x2, x3, x4⟩ := X0.out
  clear K4
  by_cases h0 : 0 < mn
  case neg =>
    rw [decide_eq_false h0] at HR
    obtain rfl : mn = 0 := by omega
    go_wp2
    go_ret
    exact ⟨by rw [HR.out]; rfl, HB0.out⟩
  rw [decide_eq_true h0] at HR
  by_cases h1 : mn ≤ 12
  case neg =>
    rw [decide_eq_false h1] at HR
    go_wp2
    go_ret
    exact ⟨by rw [HR.out]; rfl, HB0.out⟩
  rw [decide_eq_true h1] at HR
  go_wp2_with fail
  refine k4.mono ?_
  rintro e w4 ⟨rfl, hb4⟩
  have HB4 := Lib.hid (HB0.out.trans (hb4.mono HB0.out.size))
  have X4 := Lib.hid (X0.out.later hb4)
  clear k4 hb4 X0 x0 x1 x2 x3 x4 HB0
  obtain ⟨x0, x1, x2, x3, x4⟩ := X4.out
  cases AN with
  | true =>
    go_wp2
    go_ret
    exact ⟨by rw [HR.out]; rfl, HB4.out⟩
  | false =>
  by_cases h2 : 0 ≤ fr
  case neg =>
    rw [decide_eq_false h2] at HR
    go_wp2
    go_ret
    exact ⟨by rw [HR.out]; rfl, HB4.out⟩
  rw [decide_eq_true h2] at HR
  by_cases h3 : fr < til
  case neg =>
    rw [decide_eq_false h3] at HR
    go_wp2
    go_ret
    exact ⟨by rw [HR.out]; rfl, HB4.out⟩
  rw [decide_eq_true h3] at HR
  by_cases h4 : til ≤ 1099511627776
  case neg =>
    rw [decide_eq_false h4] at HR
    go_wp2
    go_ret
    exact ⟨by rw [HR.out]; rfl, HB4.out⟩
  rw [decide_eq_true h4] at HR
  have k5 := K5.out w4
  go_wp2_with fail
  refine k5.mono ?_
  rintro e w5 ⟨rfl, hb5⟩
  have HB5 := Lib.hid (HB4.out.trans (hb5.mono HB4.out.size))
  clear k5 hb5 x0 x1 x2 x3 x4
  go_wp2
  go_ret
  exact ⟨by rw [HR.out]; rfl, HB5.out⟩
end Go.Proofs.YtcfococinllcmaaGreat

/- silences: Clone at matchers, Lay. -/
namespace Go.Proofs.YtcfococinllcmaaGreat
open Go.RowKit Go.Maps
theorem mt_cells1 (l : List Mt) : ∀ y ∈ mtCells l, y.oneCell' = true := by
  induction l with
  | nil => intro y hy; cases hy
  | cons f l ih =>
    intro y hy
    simp only [mtCells, List.mem_cons] at hy
    rcases hy with rfl | rfl | rfl | h
    · rfl
    · rfl
    · rfl
    · exact ih y h
theorem info_mt : (Tryz.prog.info? 108).map (fun i => (i.zero, i.size, i.bytes)) = some (some (.agg #[.string ⟨#[]⟩, .int .i64 0, .string ⟨#[]⟩]), 3, 40) := by kernel_rfl
theorem own_empty3 (w : World) (t : TypeId) : (w.alloc (.cells #[] t)).ownsRow w.heap.size t 3 (.slice (some ⟨w.heap.size, 0, none⟩) 0 0) 0 [] :=
  ⟨rfl, .inr ⟨w.heap.size, 0, #[], rfl, Nat.le_refl _, heap_alloc_new _ _, Nat.le_refl _, by decide, rfl, rfl⟩⟩
set_option maxHeartbeats 800000 in
set_option maxRecDepth 100000 in
theorem cloneM_any (l : List Mt) (w : World) (v : Value) (h : MtsAt w v l) (hl : l.length ≤ 1000000000000) :
    Calls Tryz.prog 60 #[v] w fun e w' => ∃ v', e = .returned v' ∧ w'.ownsRow w.heap.size 108 3 v' l.length (mtCells l) ∧ Below w.heap.size w w' := by
  obtain ⟨i0, hi, hz0, hz1, hz2⟩ := info_parts info_mt
  have q22 : ∀ (w : World) (a : Option Addr) (n c n' c' : Nat), (binOp .eql 33 (.slice a n c) (.slice none n' c')).run Tryz.prog w = .ok (.bool a.isNone) w := fun w a n c n' c' => Lib.run_eql_slice_nil w _ _ a n c n' c' Tryz.underlying33
  rcases h.2 with ⟨rfl, h0⟩ | ⟨a, c, rfl, hc, hr⟩
  · have hnil : l = [] := List.length_eq_zero_iff.1 h0
    subst hnil
    go_enter Tryz.func60, Tryz.ntmps60
    go_wp2
    go_ret
    exact ⟨_, rfl, World.ownsRow_nil _ _ _ _, Below.refl _ _⟩
  · have h1 := RdAt.later h (alloc_below w (.cells #[] 108))
    have h2 := own_empty3 w 108
    have hb := alloc_below w (.cells #[] 108)
    go_enter Tryz.func60, Tryz.ntmps60
    go_wp2_with (at_builtin; (refine wpList_append_rd rfl (.tmp 5) (.tmp 6) 33 rfl w.heap.size 108 i0 (.agg #[.string ⟨#[]⟩, .int .i64 0, .string ⟨#[]⟩]) 3 40 Tryz.underlying33 hi hz0 hz1 hz2 rfl (by decide) _ 0 [] rfl h2 _ l.length (mtCells l) rfl h1 (mt_cells1 l) (by unfold maxLen; omega) (by omega) (by simp) ?_); intro v2 w2 hown2 hgrow2)
    go_ret
    refine ⟨_, rfl, ?_, hb.grown hgrow2 hb.size (fun k hk => (h2.lt k hk).1)⟩
    have e : 0 + l.length = l.length := Nat.zero_add _
    rw [e] at hown2
    exact hown2
def sameL (t s : Sil) : Bool := decide (t.lv = s.lv) && decide (t.c = s.c)
def cntS (S : List Sil) (s : Sil) (left : Lit → Bool) : Nat := S.countP fun t => sameL t s && !left (kI t.id)
theorem cnt_start (S : List Sil) (s : Sil) : cntS S s (has (DS S)) = 0 := by
  unfold cntS
  rw [List.countP_eq_zero]
  intro t ht
  have : has (DS S) (kI t.id) = true := by
    rw [DS_has]
    exact List.any_eq_true.2 ⟨t, ht, by simp⟩
  simp [this]
theorem cnt_end (S : List Sil) (s : Sil) {left : Lit → Bool} (h : ∀ k, left k = false) : cntS S s left = S.countP fun t => sameL t s := by
  unfold cntS
  congr 1
  funext t
  rw [h]; simp
theorem cnt_far {S : List Sil} {s : Sil} {left : Lit → Bool} {x : Int} (h : ∀ t ∈ S, t.id ≠ x) : cntS S s (fun z => left z && !z.sameKey (kI x)) = cntS S s left := by
  unfold cntS
  apply List.countP_congr
  intro t ht
  have : (kI t.id).sameKey (kI x) = false := by simpa [Lit.sameKey] using h t ht
  simp [this]
theorem cnt_step {S : List Sil} {s t : Sil} {left : Lit → Bool} (h : UpS S) (ht : t ∈ S) (hl : left (kI t.id) = true) :
    cntS S s (fun z => left z && !z.sameKey (kI t.id)) = cntS S s left + (if sameL t s = true then 1 else 0) := by
  induction S with
  | nil => cases ht
  | cons u S ih =>
    obtain ⟨h1, h2⟩ := List.pairwise_cons.1 h
    rcases List.mem_cons.1 ht with rfl | ht'
    · have e := cnt_far (S := S) (s := s) (left := left) (x := t.id) (fun u hu e => by have := h1 u hu; omega)
      unfold cntS at e ⊢
      rw [List.countP_cons, List.countP_cons, e]
      simp [hl, Lit.sameKey]
    · have e := ih h2 ht'
      have hne : u.id ≠ t.id := fun e => by have := h1 t ht'; omega
      unfold cntS at e ⊢
      rw [List.countP_cons, List.countP_cons, e]
      have : (kI u.id).sameKey (kI t.id) = false := by simpa [Lit.sameKey] using hne
      simp only [this, Bool.not_false, Bool.and_true]
      omega
def quoS (S : List Sil) (s : Sil) : Nat := S.countP fun t => sameL t s
def laysS (S : List Sil) (s : Sil) : Bool := rightS s && decide (quoS S s ≠ 10)
def layE (S : List Sil) (s : Sil) (last : Int) : Value := .tuple #[.int .i64 (if laysS S s = true then last + 1 else 0), .int .i64 (if rightS s = true then (if quoS S s = 10 then 7 else 0) else 1)]
inductive LayS (S : List Sil) (last : Int) (s : Sil) : List Sil → Int → Prop
  | no (h : laysS S s = false) : LayS S last s S last
  | yes (h : laysS S s = true) (mv : Option Addr × Nat × Nat) : LayS S last s (S ++ [{ s with id := last + 1, mv := mv }]) (last + 1)
theorem grown_setS (w : World) (p i : Nat) (v : Value) : w.grownBy (w.setCell ⟨p, i, none⟩ v) (some p) := ⟨rfl, rfl, rfl, by simp, fun k _ hne => Below.heap_setCell w ⟨p, i, none⟩ v k (fun e => hne (by rw [e]))⟩
theorem set_far {w : World} {p i b j : Nat} {v : Value} (h : ¬(p = b ∧ i = j)) : (w.setCell ⟨p, i, none⟩ v).cell? ⟨b, j, none⟩ = w.cell? ⟨b, j, none⟩ := by
  apply World.cell?_setCell_other
  intro e
  simp only [Addr.mk.injEq, and_true] at e
  exact h e
theorem there_set {w : World} {g n : Nat} (h : w.there g 0 n) (p i : Nat) (v : Value) : (w.setCell ⟨p, i, none⟩ v).there g 0 n := fun j hj => by
  obtain ⟨h1, h2⟩ := h j hj
  refine ⟨?_, ?_⟩
  · by_cases e : (⟨p, i, none⟩ : Addr) = ⟨g, 0 + j, none⟩
    · rw [e, World.cell?_setCell_same' _ _ _ h1]; rfl
    · rw [set_far (fun h => e (by rw [h.1, h.2]))]; exact h1
  · rw [World.frozen?_setCell]; exact h2
theorem rd_same {w w' : World} {v : Value} {n k : Nat} {xs : List Value} (hv : RdAt w v n k xs) (hs : w.heap.size ≤ w'.heap.size) (hb : ∀ q, v.ownBlock = some q → q < w.heap.size → w'.heap[q]? = w.heap[q]?) : RdAt w' v n k xs := by
  refine ⟨hv.1, ?_⟩
  rcases hv.2 with h1 | ⟨a, c, rfl, hc, hr⟩
  · exact .inl h1
  · refine .inr ⟨a, c, rfl, hc, fun hn => ?_⟩
    obtain ⟨b, o, rfl, hlt, hcell⟩ := hr hn
    exact ⟨b, o, rfl, Nat.lt_of_lt_of_le hlt hs, fun j x hx => (World.cell?_of_block (a := ⟨b, o + j, none⟩) (hb b rfl hlt)).trans (hcell j x hx)⟩
theorem lay_step {w w4 : World} {lp m n bx base : Nat} {S : List Sil} {last : Int} {s : Sil} (h : SlAt w lp m n S last) (hb : Below w.heap.size w w4) (h1 : w.heap.size ≤ bx) (h2 : bx < base) (h3 : bx < w4.heap.size) (hn : n < 1000000) (hla : last < 1000000) (hl0 : 0 ≤ last)
    (ho : w4.ownsRow base 108 3 (SV s.mv) s.ms.length (mtCells s.ms)) (hf : MtsFit s.ms) (hl : s.ms.length ≤ 12) (hid : s.id = last + 1) (hx : (w4.cell? ⟨bx, 0, none⟩).isSome = true) {b c d e : Value} (h4 : w4.cell? ⟨bx, 1, none⟩ = some b ∧ w4.cell? ⟨bx, 2, none⟩ = some c ∧ w4.cell? ⟨bx, 3, none⟩ = some d ∧ w4.cell? ⟨bx, 4, none⟩ = some e) :
    ∃ W5, (w4.setCell ⟨bx, 0, none⟩ (SV s.mv)).setCell ⟨lp, 1, none⟩ (.int .i64 (last + 1)) = W5 ∧ W5.cell? ⟨lp, 0, none⟩ = some (.map (some m)) ∧ W5.cell? ⟨lp, 1, none⟩ = some (.int .i64 (last + 1)) ∧ C5 bx (SV s.mv) b c d e W5 ∧
      ∃ W6, (Instr.mapUpdate 115 (.map (some m)) (.int .i64 (last + 1)) s.v).run Tryz.prog W5.drew = .ok () W6 ∧ SlAt W6 lp m (n + 1) (S ++ [s]) (last + 1) ∧ Kp lp m w W6 := by
  have hlp := cell_lt h.h0
  have hml := h.own.lt
  have hne := h.ne
  have h' := h.later hb
  have g1 := grown_setS w4 bx 0 (SV s.mv)
  have g2 := grown_setS (w4.setCell ⟨bx, 0, none⟩ (SV s.mv)) lp 1 (.int .i64 (last + 1))
  refine ⟨_, rfl, ?_, ?_, ?_, ?_⟩
  · rw [set_far (by omega), set_far (by omega)]
    exact h'.h0
  · rw [World.cell?_setCell_same' _ _ _ (by rw [set_far (by omega), h'.h1]; rfl)]
  · have e0 : ∀ i, ((w4.setCell ⟨bx, 0, none⟩ (SV s.mv)).setCell ⟨lp, 1, none⟩ (.int .i64 (last + 1))).cell? ⟨bx, i, none⟩ = (w4.setCell ⟨bx, 0, none⟩ (SV s.mv)).cell? ⟨bx, i, none⟩ := fun i => set_far (by omega)
    have e1 : ∀ i, 0 < i → (w4.setCell ⟨bx, 0, none⟩ (SV s.mv)).cell? ⟨bx, i, none⟩ = w4.cell? ⟨bx, i, none⟩ := fun i hi => set_far (by omega)
    exact ⟨by rw [e0, World.cell?_setCell_same' _ _ _ hx], by rw [e0, e1 1 (by omega)]; exact h4.1, by rw [e0, e1 2 (by omega)]; exact h4.2.1, by rw [e0, e1 3 (by omega)]; exact h4.2.2.1, by rw [e0, e1 4 (by omega)]; exact h4.2.2.2⟩
  · obtain ⟨W5, hW5⟩ : ∃ z, (w4.setCell ⟨bx, 0, none⟩ (SV s.mv)).setCell ⟨lp, 1, none⟩ (.int .i64 (last + 1)) = z := ⟨_, rfl⟩
    have ho5 := (h'.own.kept g1 (fun e => by have := Option.some.inj e; omega)).kept g2 (fun e => hne (Option.some.inj e).symm)
    have c0 : W5.cell? ⟨lp, 0, none⟩ = some (.map (some m)) := by
      rw [← hW5, set_far (by omega), set_far (by omega)]
      exact h'.h0
    have c1 : W5.cell? ⟨lp, 1, none⟩ = some (.int .i64 (last + 1)) := by
      rw [← hW5, World.cell?_setCell_same' _ _ _ (by rw [set_far (by omega), h'.h1]; rfl)]
    have t5 : W5.there lp 0 2 := by rw [← hW5]; exact there_set (there_set h'.th _ _ _) _ _ _
    have k5 : Kp lp m w W5 := by
      rw [← hW5]
      exact ⟨g2.os.trans (g1.os.trans hb.os), g2.tape.trans (g1.tape.trans hb.tape), g2.output.trans (g1.output.trans hb.output), Nat.le_trans hb.size (Nat.le_trans g1.size g2.size), fun i hi e1 e2 => by
        rw [g2.block i (by have := hb.size; have := g1.size; omega) (fun e => e1 (Option.some.inj e)), g1.block i (by have := hb.size; omega) (fun e => by have := Option.some.inj e; omega)]
        exact hb.block i hi⟩
    have hr5 : MtsAt W5 (SV s.mv) s.ms := by
      rw [← hW5]
      refine rd_same (RdAt.own ho) (Nat.le_trans g1.size g2.size) (fun q hq hlt => ?_)
      have := (ho.lt q hq).1
      have hlp4 := cell_lt h'.h0
      have hs := hb.size
      rw [g2.block q (by have := g1.size; omega) (fun e => by have := Option.some.inj e; omega), g1.block q (by omega) (fun e => by have := Option.some.inj e; omega)]
    rw [hW5] at ho5 ⊢
    obtain ⟨W6, hr, ho6, hg6⟩ := ho5.drew.update keyedI Tryz.underlying115 (by unfold maxLen; omega) (keyOf_int_mk Tryz.underlying3 (a := last + 1) (by simp [Lit.wf, IntKind.min, IntKind.max, IntKind.signed, IntKind.bits]; omega)) (RV_sil s)
    have k6 : Kp lp m W5 W6 := (⟨rfl, rfl, rfl, Nat.le_refl _, fun _ _ _ _ => rfl⟩ : Kp lp m W5 W5.drew).trans (Kp.of_map hg6)
    have hlp5 := cell_lt c0
    have hg5 : W5.grownBy W6 (some m) := ⟨hg6.os, hg6.tape, hg6.output, hg6.size, fun i hi h => hg6.block i hi h⟩
    have hup : UpS (S ++ [s]) := List.pairwise_append.2 ⟨h.up, by simp, fun t ht u hu => by
      rw [List.mem_singleton.1 hu, hid]
      have := h.ids t ht
      omega⟩
    have hcan := ho6.canon keyedI
    rw [show (Lit.int .i64 (last + 1)) = kI s.id by rw [hid]] at ho6 hcan
    rw [DS_snoc hup hcan] at ho6
    refine ⟨W6, hr, ⟨cell_keepS c0 hg5 (fun e => hne (Option.some.inj e).symm), cell_keepS c1 hg5 (fun e => hne (Option.some.inj e).symm), ho6, hup, fun t ht => ?_, fun t ht => ?_, there_same t5 (hg5.block lp hlp5 (fun e => hne (Option.some.inj e))), by omega, by omega⟩, k5.trans k6⟩
    · rcases List.mem_append.1 ht with h1 | h1
      · have := h.ids t h1; omega
      · rw [List.mem_singleton.1 h1, hid]; omega
    · rcases List.mem_append.1 ht with h1 | h1
      · obtain ⟨a1, a2, a3, a4⟩ := h.ms t h1
        exact ⟨k6.rd (k5.rd a1 a4) a4, a2, a3, a4⟩
      · rw [List.mem_singleton.1 h1]
        have hq : ∀ q, (SV s.mv).ownBlock = some q → q ≠ lp ∧ q ≠ m := fun q hq => by
          have := (ho.lt q hq).1
          omega
        exact ⟨k6.rd hr5 hq, hf, hl, hq⟩
theorem rightS_len {s : Sil} (h : rightS s = true) : s.ms.length ≤ 12 := by
  unfold rightS at h
  simp only [Bool.and_eq_true, decide_eq_true_eq] at h
  exact h.1.1.1.1.1.2
theorem layE_odd {S : List Sil} {s : Sil} {last : Int} (h : rightS s = false) : layE S s last = .tuple #[.int .i64 0, .int .i64 1] ∧ laysS S s = false := by
  unfold layE laysS
  rw [h]; exact ⟨rfl, rfl⟩
theorem layE_full {S : List Sil} {s : Sil} {last : Int} (h : rightS s = true) (hq : quoS S s = 10) : layE S s last = .tuple #[.int .i64 0, .int .i64 7] ∧ laysS S s = false := by
  unfold layE laysS
  rw [h, hq]; exact ⟨rfl, rfl⟩
theorem layE_ok {S : List Sil} {s : Sil} {last : Int} (h : rightS s = true) (hq : quoS S s ≠ 10) : layE S s last = .tuple #[.int .i64 (last + 1), .int .i64 0] ∧ laysS S s = true := by
  unfold layE laysS
  rw [h, decide_eq_true hq, if_neg hq]; exact ⟨rfl, rfl⟩
set_option maxHeartbeats 6400000 in
set_option maxRecDepth 100000 in
theorem lay_any (lp m n : Nat) (S : List Sil) (last : Int) (s : Sil) (w : World) (h : SlAt w lp m n S last) (hm : MtsAt w (SV s.mv) s.ms) (hf : MtsFit s.ms) (hl : s.ms.length ≤ 1000000000000) (hn : n < 1000000) (hla : last < 1000000) (hl0 : 0 ≤ last) :
    Calls Tryz.prog 25 #[.pointer (some ⟨lp, 0, none⟩), s.v] w fun e w' =>
      e = .returned (layE S s last) ∧ ∃ S' last' n', SlAt w' lp m n' S' last' ∧ LayS S last s S' last' ∧ n' ≤ n + 1 ∧ Kp lp m w w' ∧ ∀ s' ∈ S', s' ∈ S ∨ ∀ q, (SV s'.mv).ownBlock = some q → w.heap.size ≤ q := by
  have hb0 := alloc_below w (.cells #[.slice s.mv.1 s.mv.2.1 s.mv.2.2, .int .i64 s.fr, .int .i64 s.til, .int .i64 s.lv, .int .u32 s.c] 67)
  have x := alc5 w (.slice s.mv.1 s.mv.2.1 s.mv.2.2) (.int .i64 s.fr) (.int .i64 s.til) (.int .i64 s.lv) (.int .u32 s.c) 67
  have hz := World.size_alloc w (.cells #[.slice s.mv.1 s.mv.2.1 s.mv.2.2, .int .i64 s.fr, .int .i64 s.til, .int .i64 s.lv, .int .u32 s.c] 67)
  have ht := box_there (Below.refl _ (w.alloc (.cells #[.slice s.mv.1 s.mv.2.1 s.mv.2.2, .int .i64 s.fr, .int .i64 s.til, .int .i64 s.lv, .int .u32 s.c] 67)))
  have kr := sright_any s _ (hm.later hb0) hf hl
  have H := Lib.hid h
  have HM := Lib.hid hm
  have HF := Lib.hid hf
  have X0 := Lib.hid x
  have HB0 := Lib.hid hb0
  have HT0 := Lib.hid ht
  unfold Sil.v at kr ⊢
  obtain ⟨R, hR⟩ : ∃ R, rightS s = R := ⟨_, rfl⟩
  rw [hR] at kr
  have HR := Lib.hid hR
  clear hR
  clear h hm hf hb0 x ht
  obtain ⟨W1, hW1⟩ : ∃ z, w.alloc (.cells #[.slice s.mv.1 s.mv.2.1 s.mv.2.2, .int .i64 s.fr, .int .i64 s.til, .int .i64 s.lv, .int .u32 s.c] 67) = z := ⟨_, rfl⟩
  rw [hW1] at hz kr X0 HB0 HT0
  change Hid (W1.there w.heap.size 0 5) at HT0
  obtain ⟨x0, x1, x2, x3, x4⟩ := X0.out
  go_enter Tryz.func25, Tryz.ntmps25
  go_upto_region 1 with fail
  clear hW1
  go_wp2_with fail
  refine kr.mono ?_
  rintro e w2 ⟨rfl, hb2⟩
  have H2 := Lib.hid ((H.out.later (by have := HB0.out; exact this)).later hb2)
  have X2 := Lib.hid (X0.out.later hb2)
  have HT2 := Lib.hid (there_later HT0.out hb2 (by omega))
  have HB2 := Lib.hid (HB0.out.trans (hb2.mono HB0.out.size))
  have hlt2 : w.heap.size < w2.heap.size := by have := hb2.size; omega
  clear kr hb2 X0 HB0 HT0 x0 x1 x2 x3 x4
  obtain ⟨x0, x1, x2, x3, x4⟩ := X2.out
  have l0 := H2.out.h0
  cases R with
  | false =>
    go_wp2
    go_ret2
    exact ⟨by rw [(layE_odd HR.out).1]; rfl, S, last, n, H2.out, .no (layE_odd HR.out (last := last)).2, by omega, Kp.of_below HB2.out, fun s' h => .inl h⟩
  | true =>
  have K := keyedI
  go_wp2_with (first
    | (at_range; refine wpList_range_own _ rfl _ 115 rfl 3 67 K Tryz.underlying115 RV m n _ rfl H2.out.own ?_; intro w0 hrg0 hg0 hs0)
    | go_in)
  go_frame
  go_loopw [6] (fun v6 wr => ∃ (left : Lit → Bool) (cnt : Nat), v6 = .int .i64 ((cntS S s left : Nat) : Int) ∧ Hid (wr.ranges Tryz.prog 3 RV m w2.heap.size n (DS S) left cnt) ∧ Hid (Below w2.heap.size w2 wr))
    (fun _ wr => wr.rangeLeft m w2.heap.size)
  case atStart => exact ⟨_, _, by rw [cnt_start]; rfl, Lib.hid hrg0, Lib.hid ⟨hg0.os, hg0.tape, hg0.output, hg0.size, fun k hk => hg0.block k hk (by simp)⟩⟩
  case round =>
    clear hrg0 hg0
    obtain ⟨left, cnt, rfl, HG, HW⟩ := hrel
    go_wp2_with (first
      | (at_next; refine wpList_next_ranges _ rfl _ rfl 3 K RV (fun x : Int => .int .i64 x) (fun s : Sil => s.v) invKI invVS m w2.heap.size n _ _ _ rfl HG.out ?_ ?_)
      | go_in)
    · intro _ hl0
      have HQ := Lib.hid (cnt_end S s hl0)
      rw [cnt_end S s hl0]
      have HQ' : Hid ((S.countP fun t => sameL t s) = quoS S s) := Lib.hid rfl
      clear hl0
      generalize hq : (S.countP fun t => sameL t s) = q at *
      have HQ2 : Hid (quoS S s = q) := Lib.hid HQ'.out.symm
      clear HQ HQ' hq
      have H3 := Lib.hid (H2.out.later HW.out)
      have X3 := Lib.hid (X2.out.later HW.out)
      have HT3 := Lib.hid (there_later HT2.out HW.out hlt2)
      have hlt3 := Nat.lt_of_lt_of_le hlt2 HW.out.size
      have HB3 := Lib.hid (HB2.out.trans (HW.out.mono HB2.out.size))
      clear H2 X2 HB2 HT2 hlt2 x0 x1 x2 x3 x4 l0 HG HW
      obtain ⟨x0, x1, x2, x3, x4⟩ := X3.out
      have l0 := H3.out.h0
      have l1 := H3.out.h1
      by_cases hq10 : q = 10
      · subst hq10
        go_wp2
        go_ret2
        exact ⟨by rw [(layE_full HR.out HQ2.out).1]; rfl, S, last, n, H3.out, .no (layE_full HR.out HQ2.out (last := last)).2, by omega, Kp.of_below HB3.out, fun s' h => .inl h⟩
      have kc := cloneM_any s.ms wr (SV s.mv) (RdAt.later HM.out HB3.out) hl
      unfold SV at kc
      have hq11 : ((q : Int) == 10) = false := by rw [beq_eq_false_iff_ne]; omega
      go_wp2_with fail
      refine kc.mono ?_
      rintro e w4 ⟨v', rfl, hown, hb4⟩
      have H4 := Lib.hid (H3.out.later hb4)
      have X4 := Lib.hid (X3.out.later hb4)
      have HT4 := Lib.hid (there_later HT3.out hb4 hlt3)
      have hlt4 := Nat.lt_of_lt_of_le hlt3 hb4.size
      have HB4 := Lib.hid (HB3.out.trans (hb4.mono HB3.out.size))
      obtain ⟨ga, gc, rfl, _, _⟩ := RdAt.shape (RdAt.own hown)
      have HO := Lib.hid hown
      have HQ : Hid (∀ q, (Value.slice ga s.ms.length gc).ownBlock = some q → w.heap.size ≤ q) := Lib.hid (fun q hq => Nat.le_trans (Nat.le_of_lt hlt3) (hown.lt q hq).1)
      have hlt3' := hlt3
      clear kc H3 X3 HB3 HT3 hlt3 hown x0 x1 x2 x3 x4 l0 l1 hb4
      obtain ⟨x0, x1, x2, x3, x4⟩ := X4.out
      have l0 := H4.out.h0
      have l1 := H4.out.h1
      have f0 := there_free HT4.out 0 (by omega)
      have f1 := there_free H4.out.th 1 (by omega)
      have hw1 : wrap64 (last + 1) = last + 1 := IntWalk.wrap64_in _ ⟨by omega, by omega⟩
      obtain ⟨x40, x41, x42, x43, x44⟩ := X4.out
      obtain ⟨W5, hW5, c0, c1, cc, W6, hr, hS6, hK6⟩ := lay_step (s := { s with id := last + 1, mv := (ga, s.ms.length, gc) }) H.out HB4.out (Nat.le_refl _) hlt3' hlt4 hn hla hl0 HO.out HF.out (rightS_len HR.out) rfl (by rw [x40]; rfl) ⟨x41, x42, x43, x44⟩
      have HS6 := Lib.hid hS6
      have HK6 := Lib.hid hK6
      have HCC := Lib.hid cc
      have HC0 := Lib.hid c0
      have HC1 := Lib.hid c1
      have HRU := Lib.hid hr
      dsimp only [SV] at hW5
      clear hS6 hK6 cc c0 c1 hr x40 x41 x42 x43 x44
      go_upto_region 13 with fail
      clear hW5 x0 x1 x2 x3 x4 l0 l1 f0 f1
      have c0 := HC0.out
      have c1 := HC1.out
      obtain ⟨x0, x1, x2, x3, x4⟩ := HCC.out
      dsimp only [SV] at x0
      have hr := HRU.out
      unfold Sil.v at hr
      dsimp only at hr
      have d0 := HS6.out.h0
      have d1 := HS6.out.h1
      go_region
      clear c0 c1 x0 x1 x2 x3 x4 hr
      go_wp2
      go_ret2
      exact ⟨by rw [(layE_ok HR.out (by rw [HQ2.out]; exact hq10)).1]; rfl, _, _, _, HS6.out, .yes (layE_ok HR.out (by rw [HQ2.out]; exact hq10) (last := last)).2 _, Nat.le_refl _, HK6.out, fun s' h => by
        rcases List.mem_append.1 h with h | h
        · exact .inl h
        · rw [List.mem_singleton] at h
          subst h
          exact .inr HQ.out⟩
    · intro x t kl yd yp w1 cnt1 hkey hlx hv hat hrg1 hlt hg1 hs1 hen
      obtain ⟨t', ht', hy⟩ := RV_inv hv
      obtain rfl : yd = .held t.v := congrArg Prod.fst hy
      obtain ⟨x', ex, rfl, _⟩ := Maps.keyOf_int_inv Tryz.underlying3 hkey
      obtain rfl : x = x' := by simpa using ex
      have hmem : ∃ u ∈ S, u.id = x ∧ u.v = t.v := by
        have h1 : has (DS S) (kI x) = true := has_true_of_atKey hat
        rw [DS_has] at h1
        obtain ⟨u, hu, hux⟩ := List.any_eq_true.1 h1
        have hux : u.id = x := by simpa using hux
        refine ⟨u, hu, hux, ?_⟩
        have h2 := DS_at H2.out.up hu .nil
        rw [hux, hat .nil] at h2
        exact (DataW.held.inj h2).symm
      obtain ⟨u, hu, hux, huv⟩ := hmem
      have hsame : sameL u s = (decide (t.lv = s.lv) && decide (t.c = s.c)) := by
        simp only [Sil.v, Value.agg.injEq, Array.mk.injEq, List.cons.injEq, Value.int.injEq, true_and, and_true] at huv
        unfold sameL
        rw [huv.2.2.2.1, show u.c = t.c by exact_mod_cast huv.2.2.2.2]
      have HST := Lib.hid (cnt_step (s := s) (left := left) H2.out.up hu (by rw [hux]; exact hlx))
      have HSM := Lib.hid hsame
      have hHW1 : Below w2.heap.size w2 w1 := HW.out.grown hg1 HW.out.size (fun k e => by cases e; exact Nat.le_refl _)
      have hba := World.grownBy_alloc w1 (.cells #[.slice t.mv.1 t.mv.2.1 t.mv.2.2, .int .i64 t.fr, .int .i64 t.til, .int .i64 t.lv, .int .u32 t.c] 67) none
      have hba' := alloc_below w1 (.cells #[.slice t.mv.1 t.mv.2.1 t.mv.2.2, .int .i64 t.fr, .int .i64 t.til, .int .i64 t.lv, .int .u32 t.c] 67)
      have hrg2 := hrg1.kept hba (by simp) (by simp)
      have HW2 := Lib.hid (hHW1.trans (hba'.mono hHW1.size))
      have hrefl := Below.refl (w1.alloc (.cells #[.slice t.mv.1 t.mv.2.1 t.mv.2.2, .int .i64 t.fr, .int .i64 t.til, .int .i64 t.lv, .int .u32 t.c] 67)).heap.size (w1.alloc (.cells #[.slice t.mv.1 t.mv.2.1 t.mv.2.2, .int .i64 t.fr, .int .i64 t.til, .int .i64 t.lv, .int .u32 t.c] 67))
      have y3 := box_later hrefl (i := 3) rfl
      have y4 := box_later hrefl (i := 4) rfl
      rw [hs1] at y3 y4
      have HRG2 := Lib.hid hrg2
      have HLT := Lib.hid hlt
      have X3 := X2.out.later HW2.out
      obtain ⟨z0, z1, z2, z3, z4⟩ := X3
      unfold Sil.v at hen
      clear ht' hy hv hkey hlx hat hrg1 hrg2 hlt hg1 hba hba' hrefl hHW1 hsame huv x0 x1 x2 x3 x4 l0
      obtain ⟨id, ⟨a, sn, c'⟩, sms, fr, til, lv, c⟩ := t
      dsimp only at *
      go_upto_region 7 with fail
      change Code.wp _ _ _ _ (w1.alloc (.cells #[.slice a sn c', .int .i64 fr, .int .i64 til, .int .i64 lv, .int .u32 c] 67))
      generalize w1.alloc (.cells #[.slice a sn c', .int .i64 fr, .int .i64 til, .int .i64 lv, .int .u32 c] 67) = wa at *
      have hcs : (cntS S s left : Int) ≤ 1000000 := by
        have h1 : cntS S s left ≤ S.length := List.countP_le_length
        have h2 := H2.out.own.size_le
        rw [DS_size] at h2
        omega
      have hw2 : wrap64 ((cntS S s left : Int) + 1) = (cntS S s left : Int) + 1 := IntWalk.wrap64_in _ ⟨by omega, by omega⟩
      have HM1 : wa.rangeLeft m w2.heap.size < wr.rangeLeft m w2.heap.size := by rw [HRG2.out.left_eq, HG.out.left_eq]; exact HLT.out
      have HMM := Lib.hid HM1
      clear HM1
      have hst := HST.out
      rw [hux] at hst
      have HSU := Lib.hid hst
      have HWW := Lib.hid hw2
      clear hst hcs hw2
      by_cases e1 : lv = s.lv
      · by_cases e2 : c = s.c
        · have hs1 : sameL u s = true := by rw [HSM.out, decide_eq_true e1, decide_eq_true e2]; rfl
          have HS1 := Lib.hid hs1
          clear hs1
          subst e1
          subst e2
          go_wp2
          all_goals first
            | exact ⟨⟨_, cnt1, by rw [HSU.out, HS1.out, HWW.out]; simp, HRG2, HW2⟩, HMM.out⟩
            | (exfalso; simp_all)
        · have hs1 : sameL u s = false := by rw [HSM.out, decide_eq_true e1, decide_eq_false e2]; rfl
          have HS1 := Lib.hid hs1
          clear hs1
          go_wp2
          exact ⟨⟨_, cnt1, by rw [HSU.out, HS1.out]; rfl, HRG2, HW2⟩, HMM.out⟩
      · have hs1 : sameL u s = false := by rw [HSM.out, decide_eq_false e1]; rfl
        have HS1 := Lib.hid hs1
        clear hs1
        go_wp2
        exact ⟨⟨_, cnt1, by rw [HSU.out, HS1.out]; rfl, HRG2, HW2⟩, HMM.out⟩
end Go.Proofs.YtcfococinllcmaaGreat

/- silences: New, End; each at a list that isn't there. -/
namespace Go.Proofs.YtcfococinllcmaaGreat
open Go.RowKit Go.Maps
theorem new_any (w : World) : Calls Tryz.prog 21 #[] w fun e w' => ∃ lp m, e = .returned (.pointer (some ⟨lp, 0, none⟩)) ∧ SlAt w' lp m 0 [] 0 ∧ w.heap.size ≤ lp ∧ w.heap.size ≤ m ∧ Below w.heap.size w w' := by
  have hmm := @run_makeMap Tryz.prog
  go_enter Tryz.func21, Tryz.ntmps21
  go_wp2
  go_ret
  have hr := Below.refl ((w.alloc (.map #[] 0)).alloc (.cells #[.map (some w.heap.size), .int .i64 0] 117)).heap.size ((w.alloc (.map #[] 0)).alloc (.cells #[.map (some w.heap.size), .int .i64 0] 117))
  have e0 := box_later hr (i := 0) rfl
  have e1 := box_later hr (i := 1) rfl
  have et := box_there hr
  have hz : (w.alloc (.map #[] 0)).heap.size = w.heap.size + 1 := World.size_alloc _ _
  rw [hz] at e0 e1 et
  have ho := (World.ownsMap_made w Tryz.prog 3 RV).alloc (.cells #[.map (some w.heap.size), .int .i64 0] 117)
  exact ⟨_, w.heap.size, rfl, ⟨e0, e1, ho, List.Pairwise.nil, fun _ h => (by cases h), fun _ h => (by cases h), et, by omega, by omega⟩, by simp, Nat.le_refl _, (alloc_below _ _).trans ((alloc_below _ _).mono (by simp))⟩
def endE (S : List Sil) (id now : Int) : Int := match S.find? fun s => s.id == id with
  | none => 5
  | some s => if s.til ≤ now then 5 else 0
def endL (S : List Sil) (id now : Int) : List Sil := match S.find? fun s => s.id == id with
  | none => S
  | some s => if s.til ≤ now then S else if now ≤ s.fr then S.filter (fun s => !(s.id == id)) else setS S { s with til := now }
theorem look_none {w : World} {lp m n : Nat} {S : List Sil} {last : Int} (h : SlAt w lp m n S last) {id : Int} (hw : (Lit.int .i64 id).wf = true) (hn : (S.find? fun s => s.id == id) = none) :
    ∃ z : Sil, (Instr.lookup 115 (.map (some m)) (.int .i64 id) true).run Tryz.prog w = .ok (.tuple #[z.v, .bool false]) w ∧ z = ⟨0, (none, 0, 0), [], 0, 0, 0, 0⟩ := by
  obtain ⟨v, ps, hr, hR⟩ := h.own.look_ok keyedI Tryz.underlying115 (Tryz.zeroValue67 w) (RV_sil ⟨0, (none, 0, 0), [], 0, 0, 0, 0⟩) (keyOf_int_mk Tryz.underlying3 hw)
  have h1 : has (DS S) (kI id) = false := DS_none (fun s hs e => by
    have := List.find?_eq_none.1 hn s hs
    simp [e] at this)
  rw [h1] at hr
  rw [atKey_of_not_has h1] at hR
  obtain ⟨s, rfl, hy⟩ := RV_inv hR
  have := congrArg Prod.fst hy
  dsimp only at this
  rw [← DataW.held.inj this] at hr
  exact ⟨_, hr, rfl⟩
theorem look_some {w : World} {lp m n : Nat} {S : List Sil} {last : Int} (h : SlAt w lp m n S last) {s : Sil} (hs : s ∈ S) :
    (Instr.lookup 115 (.map (some m)) (.int .i64 s.id) true).run Tryz.prog w = .ok (.tuple #[s.v, .bool true]) w ∧
    (Instr.lookup 115 (.map (some m)) (.int .i64 s.id) false).run Tryz.prog w = .ok s.v w := by
  have hk := keyOf_int_mk Tryz.underlying3 (h.wf hs)
  constructor
  · obtain ⟨v, ps, hr, hR⟩ := h.own.look_ok keyedI Tryz.underlying115 (Tryz.zeroValue67 w) (RV_sil ⟨0, (none, 0, 0), [], 0, 0, 0, 0⟩) hk
    rw [DS_at h.up hs] at hR
    have h1 : has (DS S) (kI s.id) = true := by rw [DS_has]; exact List.any_eq_true.2 ⟨s, hs, by simp⟩
    rw [h1] at hr
    obtain ⟨t, rfl, hy⟩ := RV_inv hR
    have := congrArg Prod.fst hy
    dsimp only at this
    rw [← DataW.held.inj this] at hr
    exact hr
  · obtain ⟨v, ps, hr, hR⟩ := h.own.lookup keyedI Tryz.underlying115 (Tryz.zeroValue67 w) (RV_sil ⟨0, (none, 0, 0), [], 0, 0, 0, 0⟩) hk
    rw [DS_at h.up hs] at hR
    obtain ⟨t, rfl, hy⟩ := RV_inv hR
    have := congrArg Prod.fst hy
    dsimp only at this
    rw [← DataW.held.inj this] at hr
    exact hr
theorem end_step {w W5 : World} {lp m n : Nat} {S : List Sil} {last : Int} {s : Sil} (h : SlAt w lp m n S last) (hb : Below w.heap.size w W5) (hs : s ∈ S) (now : Int) (hn : n < 1000000) :
    ∃ W6, (Instr.mapUpdate 115 (.map (some m)) (.int .i64 s.id) ({ s with til := now } : Sil).v).run Tryz.prog W5.drew = .ok () W6 ∧ SlAt W6 lp m (n + 1) (setS S { s with til := now }) last ∧ Kp lp m w W6 := by
  have hne := h.ne
  have h' := h.later hb
  obtain ⟨W6, hr, ho6, hg6⟩ := h'.own.drew.update keyedI Tryz.underlying115 (by unfold maxLen; omega) (keyOf_int_mk Tryz.underlying3 (h.wf hs)) (RV_sil { s with til := now })
  have hg5 : W5.grownBy W6 (some m) := ⟨hg6.os, hg6.tape, hg6.output, hg6.size, fun i hi h => hg6.block i hi h⟩
  have k6 : Kp lp m W5 W6 := Kp.of_map hg5
  have k0 : Kp lp m w W6 := (Kp.of_below hb).trans k6
  have hcan := ho6.canon keyedI
  rw [show (Lit.int .i64 s.id) = kI ({ s with til := now } : Sil).id from rfl] at ho6 hcan
  rw [DS_set (s := { s with til := now }) h.up ⟨s, hs, rfl⟩ hcan] at ho6
  refine ⟨W6, hr, ⟨cell_keepS h'.h0 hg5 (fun e => hne (Option.some.inj e).symm), cell_keepS h'.h1 hg5 (fun e => hne (Option.some.inj e).symm), ho6, upS_ids (setS_ids S _) h.up, fun t ht => ?_, fun t ht => ?_, there_same h'.th (hg5.block lp (cell_lt h'.h0) (fun e => hne (Option.some.inj e))), h.few, by omega⟩, k0⟩
  · rcases mem_setS ht with rfl | h1
    · exact h.ids s hs
    · exact h.ids t h1
  · rcases mem_setS ht with rfl | h1
    · obtain ⟨a1, a2, a3, a4⟩ := h.ms s hs
      exact ⟨k0.rd a1 a4, a2, a3, a4⟩
    · obtain ⟨a1, a2, a3, a4⟩ := h.ms t h1
      exact ⟨k0.rd a1 a4, a2, a3, a4⟩
theorem drop_step {w W5 : World} {lp m n : Nat} {S : List Sil} {last : Int} (h : SlAt w lp m n S last) (hb : Below w.heap.size w W5) {id : Int} (hw : (Lit.int .i64 id).wf = true) (ty : TypeId) :
    ∃ W6, (Builtin.delete_ #[115, 3] ty #[.map (some m), .int .i64 id]).run Tryz.prog W5 = .ok (.tuple #[]) W6 ∧ SlAt W6 lp m n (S.filter fun s => !(s.id == id)) last ∧ Kp lp m w W6 := by
  have hne := h.ne
  have h' := h.later hb
  obtain ⟨W6, hr, ho6, ht6⟩ := h'.own.drop keyedI Tryz.underlying115 (keyOf_int_mk Tryz.underlying3 hw) ty
  have hg5 := ht6.grown
  have k0 : Kp lp m w W6 := (Kp.of_below hb).trans (Kp.of_map hg5)
  rw [DS_del] at ho6
  exact ⟨W6, hr, h.sub _ k0 (cell_keepS h'.h0 hg5 (fun e => hne (Option.some.inj e).symm)) (cell_keepS h'.h1 hg5 (fun e => hne (Option.some.inj e).symm)) (there_same h'.th (hg5.block lp (cell_lt h'.h0) (fun e => hne (Option.some.inj e)))) ho6, k0⟩
theorem endE_none {S : List Sil} {id now : Int} (h : (S.find? fun s => s.id == id) = none) : endE S id now = 5 ∧ endL S id now = S := by
  unfold endE endL
  rw [h]; exact ⟨rfl, rfl⟩
theorem endE_old {S : List Sil} {id now : Int} {s : Sil} (h : (S.find? fun s => s.id == id) = some s) (h1 : s.til ≤ now) : endE S id now = 5 ∧ endL S id now = S := by
  unfold endE endL
  rw [h]; exact ⟨if_pos h1, if_pos h1⟩
theorem endE_drop {S : List Sil} {id now : Int} {s : Sil} (h : (S.find? fun s => s.id == id) = some s) (h1 : ¬ s.til ≤ now) (h2 : now ≤ s.fr) : endE S id now = 0 ∧ endL S id now = S.filter fun s => !(s.id == id) := by
  unfold endE endL
  rw [h]; exact ⟨if_neg h1, (if_neg h1).trans (if_pos h2)⟩
theorem endE_set {S : List Sil} {id now : Int} {s : Sil} (h : (S.find? fun s => s.id == id) = some s) (h1 : ¬ s.til ≤ now) (h2 : ¬ now ≤ s.fr) : endE S id now = 0 ∧ endL S id now = setS S { s with til := now } := by
  unfold endE endL
  rw [h]; exact ⟨if_neg h1, (if_neg h1).trans (if_neg h2)⟩
set_option maxHeartbeats 3200000 in
set_option maxRecDepth 100000 in
theorem end_any (lp m n : Nat) (S : List Sil) (last id now : Int) (w : World) (h : SlAt w lp m n S last) (hw : (Lit.int .i64 id).wf = true) (hn : n < 1000000) :
    Calls Tryz.prog 32 #[.pointer (some ⟨lp, 0, none⟩), .int .i64 id, .int .i64 now] w fun e w' =>
      e = .returned (.int .i64 (endE S id now)) ∧ ∃ n', SlAt w' lp m n' (endL S id now) last ∧ n' ≤ n + 1 ∧ Kp lp m w w' := by
  have l0 := h.h0
  cases hf : (S.find? fun s => s.id == id) with
  | none =>
    obtain ⟨z, hr, rfl⟩ := look_none h hw hf
    unfold Sil.v at hr
    dsimp only at hr
    have H := Lib.hid h
    have HE := Lib.hid (endE_none (now := now) hf)
    clear h hf hw
    go_enter Tryz.func32, Tryz.ntmps32
    go_wp2
    go_ret
    exact ⟨by rw [HE.out.1]; rfl, n, by rw [HE.out.2]; exact H.out.later (alloc_below _ _), by omega, Kp.of_below (alloc_below _ _)⟩
  | some s =>
    have hs := List.mem_of_find?_eq_some hf
    have hid : s.id = id := by simpa using List.find?_some hf
    have hr := (look_some h hs).1
    rw [hid] at hr
    unfold Sil.v at hr
    have hb := alloc_below w (.cells #[.slice s.mv.1 s.mv.2.1 s.mv.2.2, .int .i64 s.fr, .int .i64 s.til, .int .i64 s.lv, .int .u32 s.c] 67)
    have x := alc5 w (.slice s.mv.1 s.mv.2.1 s.mv.2.2) (.int .i64 s.fr) (.int .i64 s.til) (.int .i64 s.lv) (.int .u32 s.c) 67
    have ht := box_there (Below.refl _ (w.alloc (.cells #[.slice s.mv.1 s.mv.2.1 s.mv.2.2, .int .i64 s.fr, .int .i64 s.til, .int .i64 s.lv, .int .u32 s.c] 67)))
    have hz := World.size_alloc w (.cells #[.slice s.mv.1 s.mv.2.1 s.mv.2.2, .int .i64 s.fr, .int .i64 s.til, .int .i64 s.lv, .int .u32 s.c] 67)
    obtain ⟨W1, hW1⟩ : ∃ z, w.alloc (.cells #[.slice s.mv.1 s.mv.2.1 s.mv.2.2, .int .i64 s.fr, .int .i64 s.til, .int .i64 s.lv, .int .u32 s.c] 67) = z := ⟨_, rfl⟩
    rw [hW1] at hb x ht hz
    change W1.there w.heap.size 0 5 at ht
    have l1 := (h.later hb).h0
    have H := Lib.hid h
    have HB := Lib.hid hb
    have HX := Lib.hid x
    have HT := Lib.hid ht
    have HS := Lib.hid hs
    have HF := Lib.hid hf
    have HI := Lib.hid hid
    have HWF := Lib.hid hw
    clear h hb x ht hs hf hid hw
    go_enter Tryz.func32, Tryz.ntmps32
    go_upto_region 6 with fail
    clear hW1 hr l0
    obtain ⟨x0, x1, x2, x3, x4⟩ := HX.out
    by_cases h1 : s.til ≤ now
    · have G1 := Lib.hid (endE_old HF.out h1)
      go_wp2
      go_ret
      exact ⟨by rw [G1.out.1]; rfl, n, by rw [G1.out.2]; exact H.out.later HB.out, by omega, Kp.of_below HB.out⟩
    by_cases h2 : now ≤ s.fr
    · have G1 := Lib.hid (endE_drop HF.out h1 h2)
      obtain ⟨W6, hr, hS6, hK6⟩ := drop_step H.out HB.out HWF.out 0
      have HS6 := Lib.hid hS6
      have HK6 := Lib.hid hK6
      clear hS6 hK6
      go_wp2
      go_ret
      exact ⟨by rw [G1.out.1]; rfl, n, by rw [G1.out.2]; exact HS6.out, by omega, HK6.out⟩
    · have G1 := Lib.hid (endE_set HF.out h1 h2)
      have f2 := there_free HT.out 2 (by omega)
      have hb5 := below_put HB.out (Nat.le_refl w.heap.size) (j := 2) (x := .int .i64 now)
      have c5 : C5 w.heap.size (.slice s.mv.1 s.mv.2.1 s.mv.2.2) (.int .i64 s.fr) (.int .i64 now) (.int .i64 s.lv) (.int .u32 s.c) (W1.setCell ⟨w.heap.size, 2, none⟩ (.int .i64 now)) :=
        ⟨by rw [set_far (by omega)]; exact x0, by rw [set_far (by omega)]; exact x1, by rw [World.cell?_setCell_same' _ _ _ (by rw [x2]; rfl)], by rw [set_far (by omega)]; exact x3, by rw [set_far (by omega)]; exact x4⟩
      obtain ⟨W5, hW5⟩ : ∃ z, W1.setCell ⟨w.heap.size, 2, none⟩ (.int .i64 now) = z := ⟨_, rfl⟩
      rw [hW5] at hb5 c5
      obtain ⟨W6, hr, hS6, hK6⟩ := end_step H.out hb5 HS.out now hn
      have HS6 := Lib.hid hS6
      have HK6 := Lib.hid hK6
      have HC5 := Lib.hid c5
      have HL5 := Lib.hid (H.out.later hb5).h0
      rw [HI.out] at hr
      unfold Sil.v at hr
      dsimp only at hr
      have HRU := Lib.hid hr
      clear hS6 hK6 c5 hb5 hr
      go_upto_region 5 with fail
      clear hW5 x0 x1 x2 x3 x4 f2 l1
      obtain ⟨x0, x1, x2, x3, x4⟩ := HC5.out
      have l0 := HL5.out
      have hr := HRU.out
      go_region
      go_wp2
      go_ret
      exact ⟨by rw [G1.out.1]; rfl, n + 1, by rw [G1.out.2]; exact HS6.out, by omega, HK6.out⟩
end Go.Proofs.YtcfococinllcmaaGreat

/- slices.IndexFunc, slices.DeleteFunc of numbers, with Quiet's closure: contracts. -/
namespace Go.Proofs.YtcfococinllcmaaGreat
open Go.RowKit
theorem int_range {w : World} {g o : Nat} {Y : List Int} (h : w.rangeAt g o (Y.map I)) {j : Nat} (hj : j < Y.length) : w.cell? ⟨g, o + j, none⟩ = some (.int .i64 Y[j]) :=
  h j _ (by rw [List.getElem?_map, List.getElem?_eq_getElem hj]; rfl)
set_option maxHeartbeats 1600000 in
set_option maxRecDepth 100000 in
theorem idxS_any (l : List Int) (p : Int → Bool) (p1 p2 p3 p4 : Value) (v : Value) (w : World) (hv : IntsAt w v l) (hl : l.length ≤ 1000000)
    (hp : ∀ W, Below w.heap.size w W → ∀ x ∈ l, Calls Tryz.prog 65 #[.int .i64 x, p1, p2, p3, p4] W fun e w' => e = .returned (.bool (p x)) ∧ Below W.heap.size W w') :
    Calls Tryz.prog 92 #[v, .func (.func 65) #[] #[p1, p2, p3, p4]] w fun e w' =>
      ∃ i : Int, e = .returned (.int .i64 i) ∧ ((i = -1 ∧ ∀ x ∈ l, p x = false) ∨ ∃ (k : Nat) (h : k < l.length), i = k ∧ p l[k] = true ∧ ∀ x ∈ l.take k, p x = false) ∧ Below w.heap.size w w' := by
  have hent := enters_of Tryz.func65 (by kernel_rfl) rfl
  obtain ⟨a, c, rfl, hc, hr⟩ := RdAt.shape hv
  have HC : Hid (∀ j (hj : j < l.length), ∃ b o, a = some ⟨b, o, none⟩ ∧ b < w.heap.size ∧ w.cell? ⟨b, o + j, none⟩ = some (.int .i64 l[j])) := Lib.hid (fun j hj => by
    obtain ⟨b, o, rfl, hlt, hcell⟩ := hr (by omega)
    exact ⟨b, o, rfl, hlt, hcell j _ (by rw [List.getElem?_map, List.getElem?_eq_getElem hj]; rfl)⟩)
  have HP := Lib.hid hp
  clear hv hr hp
  go_enter Tryz.func92, Tryz.ntmps92
  go_wp2
  go_loopw [8] (fun vi wr => ∃ j : Nat, j ≤ l.length ∧ vi = .int .i64 j ∧ Hid (∀ k ∈ l.take j, p k = false) ∧ Hid (Below w.heap.size w wr)) (fun vi _ => l.length - (intOf vi).toNat)
  case atStart => exact ⟨0, Nat.zero_le _, rfl, Lib.hid (fun k hk => by simp at hk), Lib.hid (Below.refl _ _)⟩
  case round =>
    obtain ⟨j, hj, rfl, HN, HB⟩ := hrel
    by_cases hjl : j < l.length
    · obtain ⟨b, o, rfl, hblt, hc0⟩ := HC.out j hjl
      obtain ⟨k, hk⟩ : ∃ k, l[j] = k := ⟨_, rfl⟩
      rw [hk] at hc0
      have d1 := keep_cell hc0 HB.out hblt
      have hcall := HP.out wr HB.out k (hk ▸ List.getElem_mem hjl)
      have HK := Lib.hid hk
      obtain ⟨q, hq⟩ : ∃ q, p k = q := ⟨_, rfl⟩
      rw [hq] at hcall
      have HQ := Lib.hid hq
      clear hc0 hk hq
      go_wp2_with fail
      refine hcall.mono ?_
      rintro e w2 ⟨rfl, hb2⟩
      have HB3 := Lib.hid (HB.out.trans (hb2.mono HB.out.size))
      clear hcall hb2
      cases q with
      | true =>
        go_wp2
        go_ret
        exact ⟨j, rfl, .inr ⟨j, hjl, rfl, by rw [HK.out]; exact HQ.out, HN.out⟩, HB3.out⟩
      | false =>
        have HN2 : Hid (∀ k ∈ l.take (j + 1), p k = false) := Lib.hid (fun q hq => by
          rw [List.take_succ_eq_append_getElem hjl] at hq
          rcases List.mem_append.1 hq with h1 | h1
          · exact HN.out q h1
          · rw [List.mem_singleton.1 h1, HK.out]; exact HQ.out)
        go_wp2
        go_roundw
        case rel => exact ⟨j + 1, by omega, by go_num, HN2, HB3⟩
        case measure => (simp [intOf]; try omega)
    · obtain rfl : j = l.length := by omega
      go_wp2
      go_ret
      exact ⟨-1, rfl, .inl ⟨rfl, fun x hx => HN.out x (by rw [List.take_length]; exact hx)⟩, HB.out⟩
theorem filterI_step {p : Int → Bool} {l : List Int} {j : Nat} (h : j < l.length) : (l.take (j + 1)).filter (fun x => !p x) = (l.take j).filter (fun x => !p x) ++ (if p l[j] then [] else [l[j]]) := by
  rw [List.take_succ_eq_append_getElem h, List.filter_append]
  congr 1
  cases hp : p l[j] <;> simp [hp]
theorem zcI_len (n : Nat) : (Builtin.zeroCells (Value.int .i64 0).cells n).toList.length = n := by simp [Builtin.zeroCells, Value.cells]
theorem zcI_cell (n : Nat) : ∀ v ∈ (Builtin.zeroCells (Value.int .i64 0).cells n).toList, v.oneCell' = true := by
  intro v hv
  simp only [Builtin.zeroCells, Value.cells, Array.toList_map, List.mem_map] at hv
  obtain ⟨i, _, rfl⟩ := hv
  have h2 : i % (#[Value.int .i64 0] : Array Value).size < 1 := Nat.mod_lt _ (by decide)
  generalize i % (#[Value.int .i64 0] : Array Value).size = j at h2
  match j, h2 with
  | 0, _ => rfl
theorem rowI_put {w : World} {g n i : Nat} {Y : List Int} {x : Int} (h : w.rangeAt g 0 (Y.map I)) (ht : w.there g 0 n) (hn : Y.length = n) (hi : i < n) :
    (w.setCell ⟨g, i, none⟩ (.int .i64 x)).rangeAt g 0 ((Y.set i x).map I) ∧ (w.setCell ⟨g, i, none⟩ (.int .i64 x)).there g 0 n := by
  refine ⟨fun j v hj => ?_, there_set ht g i _⟩
  rw [Nat.zero_add]
  rw [List.getElem?_map] at hj
  by_cases hm : j = i
  · subst hm
    rw [List.getElem?_set_self (by omega)] at hj
    have hs := (ht j hi).1
    rw [Nat.zero_add] at hs
    rw [World.cell?_setCell_same' _ _ _ hs, ← hj]; rfl
  · rw [List.getElem?_set_ne (fun e => hm e.symm)] at hj
    rw [set_far (by omega)]
    have := h j v (by rw [List.getElem?_map]; exact hj)
    rwa [Nat.zero_add] at this
set_option maxHeartbeats 1600000 in
set_option maxRecDepth 100000 in
theorem delS_any (l : List Int) (p : Int → Bool) (p1 p2 p3 p4 : Value) (base : Nat) (v : Value) (w : World) (hown : w.ownsRow base 3 1 v l.length (l.map I)) (hbase : base ≤ w.heap.size) (hl : l.length ≤ 1000000)
    (hp : ∀ W, Below base w W → ∀ x ∈ l, Calls Tryz.prog 65 #[.int .i64 x, p1, p2, p3, p4] W fun e w' => e = .returned (.bool (p x)) ∧ Below W.heap.size W w') :
    Calls Tryz.prog 64 #[v, .func (.func 65) #[] #[p1, p2, p3, p4]] w fun e w' =>
      ∃ v', e = .returned v' ∧ IntsAt w' v' (l.filter fun x => !p x) ∧ Below base w w' := by
  have hent := enters_of Tryz.func65 (by kernel_rfl) rfl
  have hv : IntsAt w v l := RdAt.own hown
  have k1 := idxS_any l p p1 p2 p3 p4 v w hv hl (fun W hW x hx => hp W (hW.mono hbase) x hx)
  rcases hown.2 with ⟨rfl, h0⟩ | ⟨g, cap, cur, rfl, hgb, hg, hle, hcap, hsz, htk⟩
  · have hnil : l = [] := List.length_eq_zero_iff.1 h0
    subst hnil
    clear hown hp hv
    go_enter Tryz.func64, Tryz.ntmps64
    go_wp2_with fail
    refine k1.mono ?_
    rintro e w1 ⟨i, rfl, hi, hb1⟩
    rcases hi with ⟨rfl, _⟩ | ⟨k, hk, _⟩
    · clear k1
      have HB1 := Lib.hid (hb1.mono hbase)
      clear hb1
      go_wp2
      go_ret
      exact ⟨_, rfl, RdAt.nil _ _, HB1.out⟩
    · exact absurd hk (Nat.not_lt_zero _)
  · have hr0 : w.rangeAt g 0 (l.map I) := by
      intro j x hj
      obtain ⟨a, c, he, _, hr⟩ := RdAt.shape hv
      have hjl := (List.getElem?_eq_some_iff.1 hj).1
      rw [List.length_map] at hjl
      obtain ⟨b, o, hb, _, hcell⟩ := hr (by omega)
      cases he
      cases hb
      exact hcell j x hj
    have ht0 : w.there g 0 l.length := fun j hj => by
      refine ⟨World.rangeAt.isSome hr0 j (by rw [List.length_map]; exact hj), by simp [World.frozen?, hg]⟩
    have hglt : g < w.heap.size := (Array.getElem?_eq_some_iff.1 hg).1
    have HP := Lib.hid hp
    have HR0 := Lib.hid hr0
    have HTH0 := Lib.hid ht0
    have HV := Lib.hid hv
    clear hv hown hp hr0 ht0 hg htk hsz
    go_enter Tryz.func64, Tryz.ntmps64
    go_wp2_with fail
    refine k1.mono ?_
    rintro e w1 ⟨i, rfl, hi, hb1⟩
    have HR1 := Lib.hid (range_later HR0.out hb1 hglt)
    have HTH1 := Lib.hid (there_later HTH0.out hb1 hglt)
    have HB1 := Lib.hid (hb1.mono hbase)
    have HV1 := Lib.hid (HV.out.later hb1)
    clear k1 HR0 HTH0 hb1 HV
    rcases hi with ⟨rfl, hno⟩ | ⟨k, hk, rfl, hpk, hpn⟩
    · have HN : Hid (l.filter (fun x => !p x) = l) := Lib.hid (List.filter_eq_self.2 (fun x hx => by rw [hno x hx]; rfl))
      clear hno
      go_wp2
      go_ret
      exact ⟨_, rfl, by rw [HN.out]; exact HV1.out, HB1.out⟩
    · have hT1 : (l.take k).filter (fun x => !p x) = l.take k := List.filter_eq_self.2 (fun x hx => by rw [hpn x hx]; rfl)
      have HT2 : Hid (l.take k = (l.take (k + 1)).filter (fun x => !p x)) := Lib.hid (by rw [filterI_step hk, hT1, hpk]; simp)
      have hk1 : ((k : Int) == -1) = false := by rw [beq_eq_false_iff_ne]; omega
      clear hT1 hpk hpn HV1
      go_wp2
      go_loopw [5, 6] (fun vi vj wr => ∃ (i j : Nat) (Y : List Int), vi = .int .i64 i ∧ vj = .int .i64 j ∧ i < j ∧ j ≤ l.length ∧ Hid (Y.length = l.length) ∧ Hid (Y.take i = (l.take j).filter (fun x => !p x)) ∧ Hid (Y.drop j = l.drop j) ∧ Hid (wr.rangeAt g 0 (Y.map I)) ∧ Hid (wr.there g 0 l.length) ∧ Hid (Below base w wr))
        (fun _ vj _ => l.length - (intOf vj).toNat)
      case atStart => exact ⟨k, k + 1, l, rfl, by go_num, by omega, by omega, Lib.hid rfl, HT2, Lib.hid rfl, HR1, HTH1, HB1⟩
      case round =>
        clear HR1 HTH1 HB1 HT2
        obtain ⟨i, j, Y, rfl, rfl, hij, hjl, HY, HT, HD, HR, HTH, HB⟩ := hrel
        have hgr : g < wr.heap.size := Nat.lt_of_lt_of_le hglt HB.out.size
        by_cases hjj : j < l.length
        · have hYj : Y[j]'(by have := HY.out; omega) = l[j] := by
            have h := congrArg (fun z => z[0]?) HD.out
            simp only [List.getElem?_drop, Nat.add_zero] at h
            rw [List.getElem?_eq_getElem hjj, List.getElem?_eq_getElem (by have := HY.out; omega)] at h
            exact Option.some.inj h
          have hc0 := int_range HR.out (j := j) (by have := HY.out; omega)
          rw [hYj, Nat.zero_add] at hc0
          obtain ⟨x, hx⟩ : ∃ x, l[j] = x := ⟨_, rfl⟩
          have hxm : x ∈ l := hx ▸ List.getElem_mem hjj
          rw [hx] at hc0
          have HX := Lib.hid hx
          have kp := HP.out wr HB.out x hxm
          obtain ⟨q, hq⟩ : ∃ q, p x = q := ⟨_, rfl⟩
          rw [hq] at kp
          have HQ := Lib.hid hq
          clear hq hx hYj hxm
          go_wp2_with fail
          refine kp.mono ?_
          rintro e w2 ⟨rfl, hb2⟩
          have HB2 := Lib.hid (HB.out.trans (hb2.mono (Nat.le_trans hbase HB.out.size)))
          have HR2 := Lib.hid (range_later HR.out hb2 hgr)
          have HT2 := Lib.hid (there_later HTH.out hb2 hgr)
          have HD2 : Hid (Y.drop (j + 1) = l.drop (j + 1)) := by
            show _ = _
            have h := congrArg (List.drop 1) HD.out
            rw [List.drop_drop, List.drop_drop] at h
            first | exact h | (rw [Nat.add_comm j 1]; exact h)
          cases q
          · have c0 := int_range HR2.out (j := i) (by have := HY.out; omega)
            rw [Nat.zero_add] at c0
            have f0 := there_free HT2.out i (by omega)
            clear kp hb2 HR HTH HB hc0
            go_wp2
            go_roundw
            case rel =>
              have hYi : i < Y.length := by have := HY.out; omega
              have hlen : (Y.take i).length = i := by rw [List.length_take]; omega
              refine ⟨i + 1, j + 1, Y.set i x, by go_num, by go_num, by omega, by omega, Lib.hid (by rw [List.length_set]; exact HY.out), Lib.hid ?_, Lib.hid ?_, Lib.hid ?_, Lib.hid ?_, Lib.hid ?_⟩
              · rw [filterI_step hjj, HX.out, HQ.out, ← HT.out]
                simp only [Bool.false_eq_true, if_false]
                apply List.ext_getElem?
                intro m
                rcases Nat.lt_trichotomy m i with hm | hm | hm
                · rw [List.getElem?_take_of_lt (by omega), List.getElem?_set_ne (by omega), List.getElem?_append_left (by omega), List.getElem?_take_of_lt hm]
                · subst hm
                  rw [List.getElem?_take_of_lt (by omega), List.getElem?_set_self hYi, List.getElem?_append_right (by omega), hlen]; simp
                · rw [List.getElem?_take_eq_none (by omega), List.getElem?_eq_none (by simp; omega)]
              · apply List.ext_getElem?
                intro m
                have h := congrArg (fun z => z[m]?) HD2.out
                simp only [List.getElem?_drop] at h ⊢
                rw [List.getElem?_set_ne (by omega)]
                exact h
              · exact (rowI_put HR2.out HT2.out HY.out (by omega)).1
              · exact (rowI_put HR2.out HT2.out HY.out (by omega)).2
              · exact below_put_base HB2.out hgb
            case measure => (simp [intOf]; try omega)
          · clear kp hb2 HR HTH HB hc0
            go_wp2
            go_roundw
            case rel => exact ⟨i, j + 1, Y, rfl, by go_num, by omega, by omega, HY, Lib.hid (by rw [HT.out, filterI_step hjj, HX.out, HQ.out]; simp), HD2, HR2, HT2, HB2⟩
            case measure => (simp [intOf]; try omega)
        · obtain rfl : j = l.length := by omega
          have hcl : ∀ ty, (Builtin.clear_ #[32] ty #[.slice (some ⟨g, i, none⟩) (l.length - i) (cap - i)]).run Tryz.prog wr = .ok (.tuple #[]) (wr.setCells g i (Builtin.zeroCells (Value.int .i64 0).cells (l.length - i)).toList) := fun ty =>
            run_clear_row wr 32 3 ty _ Tryz.underlying32 Tryz.zeroValue3 g i (l.length - i) (cap - i) (by omega) (fun j hj => by
              have := HTH.out (i + j) (by rw [zcI_len] at hj; omega)
              rw [Nat.zero_add] at this
              exact this) (zcI_cell _)
          have HZ := Lib.hid (zcI_len (l.length - i))
          generalize hzc : (Builtin.zeroCells (Value.int .i64 0).cells (l.length - i)).toList = zc at *
          go_wp2
          go_ret
          have hYl : (Y.take i).length = i := by rw [List.length_take, HY.out]; omega
          have hFl : l.filter (fun x => !p x) = Y.take i := by have := HT.out; rw [List.take_length] at this; exact this.symm
          refine ⟨_, rfl, ?_, below_puts_base HB.out hgb _⟩
          rw [hFl]
          unfold IntsAt
          rw [hYl]
          refine RdAt.mk (by rw [List.length_map, hYl]; omega) (by omega) ?_ (fun m y hm => ?_)
          · have := (below_puts_base (o := i) HB.out hgb zc).size; omega
          · have hml := (List.getElem?_eq_some_iff.1 hm).1
            rw [List.length_map, hYl] at hml
            rw [World.cell?_setCells_out _ _ _ _ _ (fun _ _ => by simp; omega)]
            have := HR.out m y (by rw [List.getElem?_map] at hm ⊢; rw [List.getElem?_take_of_lt (by omega)] at hm; exact hm)
            exact this
end Go.Proofs.YtcfococinllcmaaGreat

/- silences: slices.DeleteFunc at []int with Quiet's closure: where its result lies. -/
namespace Go.Proofs.YtcfococinllcmaaGreat
open Go.RowKit Go.Maps
set_option maxHeartbeats 1600000 in
set_option maxRecDepth 100000 in
theorem delS_own (l : List Int) (p : Int → Bool) (p1 p2 p3 p4 : Value) (base : Nat) (v : Value) (w : World) (hown : w.ownsRow base 3 1 v l.length (l.map I)) (hbase : base ≤ w.heap.size) (hl : l.length ≤ 1000000)
    (hp : ∀ W, Below base w W → ∀ x ∈ l, Calls Tryz.prog 65 #[.int .i64 x, p1, p2, p3, p4] W fun e w' => e = .returned (.bool (p x)) ∧ Below W.heap.size W w') :
    Calls Tryz.prog 64 #[v, .func (.func 65) #[] #[p1, p2, p3, p4]] w fun e w' =>
      ∃ v', e = .returned v' ∧ IntsAt w' v' (l.filter fun x => !p x) ∧ Below base w w' ∧ ∀ q, v'.ownBlock = some q → base ≤ q := by
  have hent := enters_of Tryz.func65 (by kernel_rfl) rfl
  have hv : IntsAt w v l := RdAt.own hown
  have k1 := idxS_any l p p1 p2 p3 p4 v w hv hl (fun W hW x hx => hp W (hW.mono hbase) x hx)
  rcases hown.2 with ⟨rfl, h0⟩ | ⟨g, cap, cur, rfl, hgb, hg, hle, hcap, hsz, htk⟩
  · have hnil : l = [] := List.length_eq_zero_iff.1 h0
    subst hnil
    clear hown hp hv
    go_enter Tryz.func64, Tryz.ntmps64
    go_wp2_with fail
    refine k1.mono ?_
    rintro e w1 ⟨i, rfl, hi, hb1⟩
    rcases hi with ⟨rfl, _⟩ | ⟨k, hk, _⟩
    · clear k1
      have HB1 := Lib.hid (hb1.mono hbase)
      clear hb1
      go_wp2
      go_ret
      exact ⟨_, rfl, RdAt.nil _ _, HB1.out, fun q hq => by cases hq⟩
    · exact absurd hk (Nat.not_lt_zero _)
  · have hr0 : w.rangeAt g 0 (l.map I) := by
      intro j x hj
      obtain ⟨a, c, he, _, hr⟩ := RdAt.shape hv
      have hjl := (List.getElem?_eq_some_iff.1 hj).1
      rw [List.length_map] at hjl
      obtain ⟨b, o, hb, _, hcell⟩ := hr (by omega)
      cases he
      cases hb
      exact hcell j x hj
    have ht0 : w.there g 0 l.length := fun j hj => by
      refine ⟨World.rangeAt.isSome hr0 j (by rw [List.length_map]; exact hj), by simp [World.frozen?, hg]⟩
    have hglt : g < w.heap.size := (Array.getElem?_eq_some_iff.1 hg).1
    have HP := Lib.hid hp
    have HR0 := Lib.hid hr0
    have HTH0 := Lib.hid ht0
    have HV := Lib.hid hv
    clear hv hown hp hr0 ht0 hg htk hsz
    go_enter Tryz.func64, Tryz.ntmps64
    go_wp2_with fail
    refine k1.mono ?_
    rintro e w1 ⟨i, rfl, hi, hb1⟩
    have HR1 := Lib.hid (range_later HR0.out hb1 hglt)
    have HTH1 := Lib.hid (there_later HTH0.out hb1 hglt)
    have HB1 := Lib.hid (hb1.mono hbase)
    have HV1 := Lib.hid (HV.out.later hb1)
    clear k1 HR0 HTH0 hb1 HV
    rcases hi with ⟨rfl, hno⟩ | ⟨k, hk, rfl, hpk, hpn⟩
    · have HN : Hid (l.filter (fun x => !p x) = l) := Lib.hid (List.filter_eq_self.2 (fun x hx => by rw [hno x hx]; rfl))
      clear hno
      go_wp2
      go_ret
      exact ⟨_, rfl, by rw [HN.out]; exact HV1.out, HB1.out, fun q hq => by cases hq; exact hgb⟩
    · have hT1 : (l.take k).filter (fun x => !p x) = l.take k := List.filter_eq_self.2 (fun x hx => by rw [hpn x hx]; rfl)
      have HT2 : Hid (l.take k = (l.take (k + 1)).filter (fun x => !p x)) := Lib.hid (by rw [filterI_step hk, hT1, hpk]; simp)
      have hk1 : ((k : Int) == -1) = false := by rw [beq_eq_false_iff_ne]; omega
      clear hT1 hpk hpn HV1
      go_wp2
      go_loopw [5, 6] (fun vi vj wr => ∃ (i j : Nat) (Y : List Int), vi = .int .i64 i ∧ vj = .int .i64 j ∧ i < j ∧ j ≤ l.length ∧ Hid (Y.length = l.length) ∧ Hid (Y.take i = (l.take j).filter (fun x => !p x)) ∧ Hid (Y.drop j = l.drop j) ∧ Hid (wr.rangeAt g 0 (Y.map I)) ∧ Hid (wr.there g 0 l.length) ∧ Hid (Below base w wr))
        (fun _ vj _ => l.length - (intOf vj).toNat)
      case atStart => exact ⟨k, k + 1, l, rfl, by go_num, by omega, by omega, Lib.hid rfl, HT2, Lib.hid rfl, HR1, HTH1, HB1⟩
      case round =>
        clear HR1 HTH1 HB1 HT2
        obtain ⟨i, j, Y, rfl, rfl, hij, hjl, HY, HT, HD, HR, HTH, HB⟩ := hrel
        have hgr : g < wr.heap.size := Nat.lt_of_lt_of_le hglt HB.out.size
        by_cases hjj : j < l.length
        · have hYj : Y[j]'(by have := HY.out; omega) = l[j] := by
            have h := congrArg (fun z => z[0]?) HD.out
            simp only [List.getElem?_drop, Nat.add_zero] at h
            rw [List.getElem?_eq_getElem hjj, List.getElem?_eq_getElem (by have := HY.out; omega)] at h
            exact Option.some.inj h
          have hc0 := int_range HR.out (j := j) (by have := HY.out; omega)
          rw [hYj, Nat.zero_add] at hc0
          obtain ⟨x, hx⟩ : ∃ x, l[j] = x := ⟨_, rfl⟩
          have hxm : x ∈ l := hx ▸ List.getElem_mem hjj
          rw [hx] at hc0
          have HX := Lib.hid hx
          have kp := HP.out wr HB.out x hxm
          obtain ⟨q, hq⟩ : ∃ q, p x = q := ⟨_, rfl⟩
          rw [hq] at kp
          have HQ := Lib.hid hq
          clear hq hx hYj hxm
          go_wp2_with fail
          refine kp.mono ?_
          rintro e w2 ⟨rfl, hb2⟩
          have HB2 := Lib.hid (HB.out.trans (hb2.mono (Nat.le_trans hbase HB.out.size)))
          have HR2 := Lib.hid (range_later HR.out hb2 hgr)
          have HT2 := Lib.hid (there_later HTH.out hb2 hgr)
          have HD2 : Hid (Y.drop (j + 1) = l.drop (j + 1)) := by
            show _ = _
            have h := congrArg (List.drop 1) HD.out
            rw [List.drop_drop, List.drop_drop] at h
            first | exact h | (rw [Nat.add_comm j 1]; exact h)
          cases q
          · have c0 := int_range HR2.out (j := i) (by have := HY.out; omega)
            rw [Nat.zero_add] at c0
            have f0 := there_free HT2.out i (by omega)
            clear kp hb2 HR HTH HB hc0
            go_wp2
            go_roundw
            case rel =>
              have hYi : i < Y.length := by have := HY.out; omega
              have hlen : (Y.take i).length = i := by rw [List.length_take]; omega
              refine ⟨i + 1, j + 1, Y.set i x, by go_num, by go_num, by omega, by omega, Lib.hid (by rw [List.length_set]; exact HY.out), Lib.hid ?_, Lib.hid ?_, Lib.hid ?_, Lib.hid ?_, Lib.hid ?_⟩
              · rw [filterI_step hjj, HX.out, HQ.out, ← HT.out]
                simp only [Bool.false_eq_true, if_false]
                apply List.ext_getElem?
                intro m
                rcases Nat.lt_trichotomy m i with hm | hm | hm
                · rw [List.getElem?_take_of_lt (by omega), List.getElem?_set_ne (by omega), List.getElem?_append_left (by omega), List.getElem?_take_of_lt hm]
                · subst hm
                  rw [List.getElem?_take_of_lt (by omega), List.getElem?_set_self hYi, List.getElem?_append_right (by omega), hlen]; simp
                · rw [List.getElem?_take_eq_none (by omega), List.getElem?_eq_none (by simp; omega)]
              · apply List.ext_getElem?
                intro m
                have h := congrArg (fun z => z[m]?) HD2.out
                simp only [List.getElem?_drop] at h ⊢
                rw [List.getElem?_set_ne (by omega)]
                exact h
              · exact (rowI_put HR2.out HT2.out HY.out (by omega)).1
              · exact (rowI_put HR2.out HT2.out HY.out (by omega)).2
              · exact below_put_base HB2.out hgb
            case measure => (simp [intOf]; try omega)
          · clear kp hb2 HR HTH HB hc0
            go_wp2
            go_roundw
            case rel => exact ⟨i, j + 1, Y, rfl, by go_num, by omega, by omega, HY, Lib.hid (by rw [HT.out, filterI_step hjj, HX.out, HQ.out]; simp), HD2, HR2, HT2, HB2⟩
            case measure => (simp [intOf]; try omega)
        · obtain rfl : j = l.length := by omega
          have hcl : ∀ ty, (Builtin.clear_ #[32] ty #[.slice (some ⟨g, i, none⟩) (l.length - i) (cap - i)]).run Tryz.prog wr = .ok (.tuple #[]) (wr.setCells g i (Builtin.zeroCells (Value.int .i64 0).cells (l.length - i)).toList) := fun ty =>
            run_clear_row wr 32 3 ty _ Tryz.underlying32 Tryz.zeroValue3 g i (l.length - i) (cap - i) (by omega) (fun j hj => by
              have := HTH.out (i + j) (by rw [zcI_len] at hj; omega)
              rw [Nat.zero_add] at this
              exact this) (zcI_cell _)
          have HZ := Lib.hid (zcI_len (l.length - i))
          generalize hzc : (Builtin.zeroCells (Value.int .i64 0).cells (l.length - i)).toList = zc at *
          go_wp2
          go_ret
          have hYl : (Y.take i).length = i := by rw [List.length_take, HY.out]; omega
          have hFl : l.filter (fun x => !p x) = Y.take i := by have := HT.out; rw [List.take_length] at this; exact this.symm
          refine ⟨_, rfl, ?_, below_puts_base HB.out hgb _, fun q hq => by cases hq; exact hgb⟩
          rw [hFl]
          unfold IntsAt
          rw [hYl]
          refine RdAt.mk (by rw [List.length_map, hYl]; omega) (by omega) ?_ (fun m y hm => ?_)
          · have := (below_puts_base (o := i) HB.out hgb zc).size; omega
          · have hml := (List.getElem?_eq_some_iff.1 hm).1
            rw [List.length_map, hYl] at hml
            rw [World.cell?_setCells_out _ _ _ _ _ (fun _ _ => by simp; omega)]
            have := HR.out m y (by rw [List.getElem?_map] at hm ⊢; rw [List.getElem?_take_of_lt (by omega)] at hm; exact hm)
            exact this
end Go.Proofs.YtcfococinllcmaaGreat

