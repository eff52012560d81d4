/- lychgateref07.Join and NamesText: contracts. -/
import Derived.Test.YtpoaoicehoihdaaDoorRefSplit
import Derived.Test.YtpoaoicehoihdaaDoorJoin
import Derived.Test.YtpoaoicehoihdaaDoorSame
import Derived.Test.YtpoaoicehoihdaaDoorNames
namespace Go.Proofs.YtpoaoicehoihdaaDoor.refJoin
open Go.RowKit

theorem join_snoc (d : UInt8) (ms : List (List UInt8)) (y : List UInt8) (h : ms ≠ []) : Lib.join (ms ++ [y]) [d] = Lib.join ms [d] ++ d :: y := by
  obtain ⟨m, r, rfl⟩ := List.exists_cons_of_ne_nil h
  rw [List.cons_append, Lib.join_cons, Lib.join_cons]
  simp [Lib.joinTail]
theorem join_take_le (d : UInt8) (ws : List (List UInt8)) (k : Nat) : (Lib.join (ws.take k) [d]).length ≤ (Lib.join ws [d]).length := by
  cases ws with
  | nil => simp
  | cons x r =>
    cases k with
    | zero => simp [Lib.join_nil]
    | succ k =>
      rw [List.take_succ_cons, Lib.join_cons, Lib.join_cons, List.length_append, List.length_append]
      have : (Lib.joinTail [d] (r.take k)).length ≤ (Lib.joinTail [d] r).length := by
        have e : Lib.joinTail [d] r = Lib.joinTail [d] (r.take k) ++ Lib.joinTail [d] (r.drop k) := by
          unfold Lib.joinTail
          rw [← List.flatten_append, ← List.map_append, List.take_append_drop]
        rw [e, List.length_append]
        omega
      omega
/-- one word more -/
theorem join_step {d : UInt8} {ws : List ByteArray} {k : Nat} (hk : k < ws.length) : Lib.join ((ws.take (k + 1)).map B) [d] = (if k = 0 then [] else Lib.join ((ws.take k).map B) [d] ++ [d]) ++ B ws[k] := by
  rw [List.take_succ_eq_append_getElem hk, List.map_append, List.map_singleton]
  by_cases h0 : k = 0
  · subst h0
    rw [List.take_zero, List.map_nil, List.nil_append, Lib.join_one, if_pos rfl]; rfl
  · rw [if_neg h0, join_snoc _ _ _ (by
      intro e
      have := congrArg List.length e
      rw [List.length_map, List.length_take, List.length_nil] at this
      omega)]
    simp

set_option maxHeartbeats 800000 in
theorem join_any (w : World) {v : Value} {ws : List ByteArray} (hv : StrsAt w v ws) (hl : (Lib.join (ws.map B) [32]).length ≤ 1073741824) :
    Calls Tryd.prog 23 #[v] w fun e w' => ∃ s : ByteArray, e = .returned (.tuple #[.string s, .int .i64 (joinR (ws.map B)).2]) ∧ B s = (joinR (ws.map B)).1 ∧ Below w.heap.size w w' := by
  have hm := hv.2
  obtain ⟨a, c, rfl, hc, hr⟩ := hv.shape
  have HR := Lib.hid hr
  have HV := Lib.hid hv
  have HL := Lib.hid hl
  clear hr hv hl
  go_enter Tryd.func23, Tryd.ntmps23
  go_wp2
  go_loop [4, 5] (fun y x => ∃ (k : Nat) (t : ByteArray), k ≤ ws.length ∧ x = .int .i64 k ∧ y = .string t ∧ Hid (B t = Lib.join ((ws.take k).map B) [32])) (fun _ x => ws.length - (intOf x).toNat)
  case atStart => exact ⟨0, ⟨#[]⟩, Nat.zero_le _, rfl, rfl, rfl⟩
  case round =>
    obtain ⟨k, t, hk, rfl, rfl, HT⟩ := hrel
    have htl : t.size ≤ 1073741824 := by
      have h1 := HL.out
      have h2 := join_take_le 32 (ws.map B) k
      rw [← List.map_take] at h2
      rw [← len_B, HT.out]; omega
    by_cases hlt : k < ws.length
    · obtain ⟨x, hxe⟩ : ∃ x, ws[k] = x := ⟨_, rfl⟩
      have hst := join_step (d := 32) hlt
      rw [hxe] at hst
      have hxl : x.size ≤ 1073741824 := by
        have h1 := HL.out
        have h2 := join_take_le 32 (ws.map B) (k + 1)
        rw [← List.map_take, hst, List.length_append, len_B] at h2
        omega
      have HST := Lib.hid hst
      obtain ⟨b, o, rfl, hb, hcell⟩ := HR.out (by intro h; rw [h] at hlt; exact absurd hlt (Nat.not_lt_zero _))
      have hcx : w.cell? ⟨b, o + k, none⟩ = some (.string x) := hcell k x (by rw [← hxe]; exact List.getElem?_eq_getElem hlt)
      clear hcell hxe hst
      by_cases h0 : k = 0
      · subst h0
        rw [Nat.add_zero] at hcx
        have HN : Hid (B (t ++ x) = Lib.join ((ws.take (0 + 1)).map B) [32]) := by
          show _ = _
          rw [HST.out, B_append, HT.out]; rfl
        go_wp2
        go_round
        case rel => exact ⟨1, _, by omega, rfl, rfl, HN⟩
        case measure => simp [intOf]; omega
      · have h0' : 0 < k := by omega
        have HN : Hid (B (t ++ ⟨#[32]⟩ ++ x) = Lib.join ((ws.take (k + 1)).map B) [32]) := by
          show _ = _
          rw [HST.out, if_neg h0, B_append, B_append, HT.out]
        clear h0
        go_wp2
        go_round
        case rel => exact ⟨k + 1, _, by omega, by go_num, rfl, HN⟩
        case measure => simp [intOf]; omega
    · obtain rfl : k = ws.length := by omega
      have hB : B t = Lib.join (ws.map B) [32] := by rw [HT.out, List.take_length]
      have HJ := Lib.hid hB
      have hsp := refSplit.split_any t w htl
      clear HT hB
      go_wp2_with fail
      refine hsp.mono ?_
      rintro e w2 (⟨v2, us, rfl, h2, hown, hb2⟩ | ⟨rfl, h2, hb2⟩)
      · have hv2 := HV.out.later hb2
        have hu : StrsAt w2 v2 us := StrsAt.own hown (by have := splitL_len h2; rw [List.length_map, len_B] at this; omega)
        have he := same_any w2 hu hv2
        have HR : Hid (joinR (ws.map B) = if us = ws then (B t, 0) else ([], 1)) := by
          show _ = _
          rw [joinR, ← HJ.out, h2]
          by_cases h : us = ws
          · rw [if_pos (by rw [h]), if_pos h]
          · rw [if_neg (fun h' => h (mapB_inj (Option.some.inj h'))), if_neg h]
        clear h2
        by_cases h : us = ws
        · rw [decide_eq_true h] at he
          have HH := Lib.hid h
          clear h
          go_wp2_with (go_at_call 15; refine he.mono ?_; rintro e w3 ⟨rfl, hb3⟩)
          go_ret2
          exact ⟨t, by rw [HR.out, if_pos HH.out]; rfl, by rw [HR.out, if_pos HH.out], hb2.trans (hb3.mono hb2.size)⟩
        · rw [decide_eq_false h] at he
          have HH := Lib.hid h
          clear h
          go_wp2_with (go_at_call 15; refine he.mono ?_; rintro e w3 ⟨rfl, hb3⟩)
          go_ret2
          exact ⟨⟨#[]⟩, by rw [HR.out, if_neg HH.out]; rfl, by rw [HR.out, if_neg HH.out], hb2.trans (hb3.mono hb2.size)⟩
      · have HR : Hid (joinR (ws.map B) = ([], 1)) := by
          show _ = _
          rw [joinR, ← HJ.out, h2]
          rfl
        clear h2
        go_wp2
        go_ret2
        exact ⟨⟨#[]⟩, by rw [HR.out]; rfl, by rw [HR.out], hb2⟩

set_option maxHeartbeats 800000 in
theorem namesText_any (w : World) {v : Value} {ws : List ByteArray} (hv : StrsAt w v ws) (hl : (Lib.join (ws.map B) [44]).length ≤ 1073741824) :
    Calls Tryd.prog 25 #[v] w fun e w' => ∃ s : ByteArray, e = .returned (.string s) ∧ B s = namesT (ws.map B) ∧ w = w' := by
  have hm := hv.2
  obtain ⟨a, c, rfl, hc, hr⟩ := hv.shape
  have HR := Lib.hid hr
  have HL := Lib.hid hl
  clear hr hv hl
  go_enter Tryd.func25, Tryd.ntmps25
  go_wp2
  go_loop [3, 4] (fun y x => ∃ (k : Nat) (t : ByteArray), k ≤ ws.length ∧ x = .int .i64 k ∧ y = .string t ∧ Hid (B t = Lib.join ((ws.take k).map B) [44])) (fun _ x => ws.length - (intOf x).toNat)
  case atStart => exact ⟨0, ⟨#[]⟩, Nat.zero_le _, rfl, rfl, rfl⟩
  case round =>
    obtain ⟨k, t, hk, rfl, rfl, HT⟩ := hrel
    have htl : t.size ≤ 1073741824 := by
      have h1 := HL.out
      have h2 := join_take_le 44 (ws.map B) k
      rw [← List.map_take] at h2
      rw [← len_B, HT.out]; omega
    by_cases hlt : k < ws.length
    · obtain ⟨x, hxe⟩ : ∃ x, ws[k] = x := ⟨_, rfl⟩
      have hst := join_step (d := 44) hlt
      rw [hxe] at hst
      have hxl : x.size ≤ 1073741824 := by
        have h1 := HL.out
        have h2 := join_take_le 44 (ws.map B) (k + 1)
        rw [← List.map_take, hst, List.length_append, len_B] at h2
        omega
      have HST := Lib.hid hst
      obtain ⟨b, o, rfl, hb, hcell⟩ := HR.out (by intro h; rw [h] at hlt; exact absurd hlt (Nat.not_lt_zero _))
      have hcx : w.cell? ⟨b, o + k, none⟩ = some (.string x) := hcell k x (by rw [← hxe]; exact List.getElem?_eq_getElem hlt)
      clear hcell hxe hst
      by_cases h0 : k = 0
      · subst h0
        rw [Nat.add_zero] at hcx
        have HN : Hid (B (t ++ x) = Lib.join ((ws.take (0 + 1)).map B) [44]) := by
          show _ = _
          rw [HST.out, B_append, HT.out]; rfl
        go_wp2
        go_round
        case rel => exact ⟨1, _, by omega, rfl, rfl, HN⟩
        case measure => simp [intOf]; omega
      · have h0' : 0 < k := by omega
        have HN : Hid (B (t ++ ⟨#[44]⟩ ++ x) = Lib.join ((ws.take (k + 1)).map B) [44]) := by
          show _ = _
          rw [HST.out, if_neg h0, B_append, B_append, HT.out]
        clear h0
        go_wp2
        go_round
        case rel => exact ⟨k + 1, _, by omega, by go_num, rfl, HN⟩
        case measure => simp [intOf]; omega
    · obtain rfl : k = ws.length := by omega
      have hB : B t = Lib.join (ws.map B) [44] := by rw [HT.out, List.take_length]
      by_cases hz : ws = []
      · subst hz
        go_wp2
        go_ret
        exact ⟨⟨#[45]⟩, rfl, rfl, rfl⟩
      · have hl0 : ((ws.length : Int) == 0) = false := by
          have : ws.length ≠ 0 := fun h => hz (List.length_eq_zero_iff.1 h)
          rw [beq_eq_false_iff_ne]; omega
        have HB : Hid (B t = namesT (ws.map B)) := by show _ = _; rw [hB, namesT, if_neg (by simpa using hz)]
        clear hB HT hz
        go_wp2
        go_ret
        exact ⟨t, rfl, HB.out, rfl⟩
end Go.Proofs.YtpoaoicehoihdaaDoor.refJoin
