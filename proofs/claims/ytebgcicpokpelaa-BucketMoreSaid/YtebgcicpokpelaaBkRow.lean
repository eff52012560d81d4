/- BucketRow: the walk. -/
import Derived.Test.YtebgcicpokpelaaBkLife
import Derived.Test.YtebgcicpokpelaaMerge
import Derived.Test.YtebgcicpokpelaaSameInts
namespace Go.Proofs.Ytebgcicpokpelaa
open Go.RowKit

/-- an argument's numbers -/
def ArgInts (w : World) (v : Value) (l : List Int) : Prop := IntsAt w v l ∧ l.length ≤ maxLen
/-- a slice's first elements -/
theorem ints_early {w : World} {a : Option Addr} {n c : Nat} {l : List Int} (h : IntsAt w (.slice a n c) l) (k : Nat) (hk : k ≤ n) : IntsAt w (.slice a k c) (l.take k) := by
  obtain ⟨h1, h2⟩ := h
  rw [List.length_map, Nat.mul_one] at h1
  rcases h2 with ⟨h2, h3⟩ | ⟨a', c', h2, hc, hr⟩
  · cases h2
    obtain rfl : k = 0 := by omega
    exact RdAt.nil w 1
  · cases h2
    refine ⟨by simp, .inr ⟨a', c, by rw [List.length_take, Nat.min_eq_left hk], by rw [List.length_take]; omega, fun h0 => ?_⟩⟩
    rw [List.length_take] at h0
    obtain ⟨b, o, rfl, hlt, hcell⟩ := hr (by omega)
    refine ⟨b, o, rfl, hlt, fun j x hx => hcell j x ?_⟩
    rw [List.map_take, List.getElem?_take] at hx
    split at hx
    · exact hx
    · cases hx
/-- the first 22, say, as the walk has them -/
theorem early_len (l : List Int) (K : Nat) : ∃ L : List Int, L = l.take K ∧ min (l.length : Int) (K : Int) = (L.length : Int) ∧ L.length ≤ K ∧ L.length ≤ l.length := by
  refine ⟨l.take K, rfl, ?_, ?_, ?_⟩ <;> rw [List.length_take] <;> omega
theorem ints_take {w : World} {a : Option Addr} {c : Nat} {l L : List Int} {K : Nat} (h : IntsAt w (.slice a l.length c) l) (hL : L = l.take K) : IntsAt w (.slice a L.length c) L := by
  have hl : L.length ≤ l.length := by rw [hL, List.length_take]; omega
  have e : l.take L.length = L := by
    rw [hL, List.length_take]
    rcases Nat.lt_or_ge K l.length with h | h
    · rw [Nat.min_eq_left (by omega)]
    · rw [Nat.min_eq_right h, List.take_length, List.take_of_length_le h]
  have := ints_early h L.length hl
  rwa [e] at this
end Go.Proofs.Ytebgcicpokpelaa
namespace Go.Proofs.Ytebgcicpokpelaa.lawRow
open Go.RowKit Go.Proofs.Ytebgcicpokpelaa
set_option maxHeartbeats 3200000 in
set_option maxRecDepth 100000 in
theorem walk (v0 : Value) (l : List Int) (w : World) (hA : ArgInts w v0 l) :
    Calls Try.prog 8 #[v0] w fun e w' => e = .returned (.bool true) ∧ Below w.heap.size w w' := by
  obtain ⟨a, c, rfl, hc, _⟩ := RdAt.shape hA.1
  obtain ⟨L, hL, hm, hL22, hLl⟩ := early_len l 22
  have hi0 := ints_take hA.1 hL
  have hLc : (L.length : Int) ≤ (c : Int) := by omega
  have hl63 : l.length ≤ 9223372036854775807 := by have := hA.2; unfold maxLen at this; omega
  change min (l.length : Int) 22 = _ at hm
  have HI0 := Lib.hid hi0
  clear hA hL hi0
  go_enter Try.func8, Try.ntmps8
  go_wp2_with fail
  refine (lives_any _).mono ?_
  rintro e w1 ⟨rfl, hb1⟩
  have hi1 := HI0.out.later hb1
  have k1 := range_any L 0 w1 _ hi1 (by omega)
  have HI1 := Lib.hid hi1
  clear HI0 hi1
  cases hf : fineL L
  · rw [rangeV_bad (rangeOk_unfine hf)] at k1
    clear hf
    go_wp2_with fail
    refine k1.mono ?_
    rintro e w2 ⟨rfl, hb2⟩
    go_wp2
    go_ret
    exact ⟨rfl, hb1.trans (hb2.mono hb1.size)⟩
  · have hf' := Lib.hid hf
    rw [show (0 : Int) = ((0 : Nat) : Int) from rfl, rangeV_good hf (Nat.zero_le _)] at k1
    rw [show ((0 : Nat) : Int) = 0 from rfl] at k1
    obtain ⟨LA, hla⟩ : ∃ x, hiL L 0 = x := ⟨_, rfl⟩
    obtain ⟨LO, hlo⟩ : ∃ x, loL L 0 = x := ⟨_, rfl⟩
    rw [hla, hlo] at k1
    have HLA := Lib.hid hla
    clear hf hla hlo
    go_wp2_with fail
    refine k1.mono ?_
    rintro e w2 ⟨rfl, hb2⟩
    have hB2 := hb1.trans (hb2.mono hb1.size)
    have HI2 := Lib.hid (HI1.out.later hb2)
    clear k1 hb1 hb2 HI1
    go_wp2
    go_loopw [4, 6] (fun la i wr => ∃ (k : Nat) (LA : Int), k ≤ L.length ∧ la = .int .i64 LA ∧ i = .int .i64 ((k : Int) + 1) ∧ Hid (hiL L k = LA) ∧ Hid (IntsAt wr (.slice a L.length c) L) ∧ Below w.heap.size w wr) (fun _ i _ => L.length + 2 - (intOf i).toNat)
    case atStart => exact ⟨0, LA, Nat.zero_le _, rfl, rfl, HLA, HI2, hB2⟩
    case round =>
      obtain ⟨k, LA, hk, rfl, rfl, HLA, HIR, hbr⟩ := hrel
      by_cases hkl : k < L.length
      · have hk1 : (k : Int) + 1 ≤ (L.length : Int) := by omega
        have hk1' : k + 1 ≤ L.length := hkl
        have k2 := range_any L ((k + 1 : Nat) : Int) wr _ HIR.out (by omega)
        rw [rangeV_good hf'.out hk1', lo_next hkl, HLA.out] at k2
        have hle := lo_le_hi hf'.out hk1'
        rw [lo_next hkl, HLA.out] at hle
        have hla0 := loL_nonneg hf'.out hk1'
        rw [lo_next hkl, HLA.out] at hla0
        have hlam : LA ≤ 1099511627776 := by
          have := hiL_lt hkl
          have h4 := ((fineL_iff.1 hf'.out).2.2.2 _ (List.getElem_mem hkl)).2
          have := HLA.out; omega
        obtain ⟨b, o, c', hv, _, hlt, hcell⟩ := HIR.out.cells (by intro h; rw [h] at hkl; simp at hkl)
        cases hv
        have hcx : wr.cell? ⟨b, o + k, none⟩ = some (.int .i64 (LA + 1)) := hcell k _ (by
          rw [List.getElem?_eq_getElem hkl]
          have := hiL_lt hkl
          have := HLA.out
          congr 1; omega)
        obtain ⟨HH, hhh⟩ : ∃ x, hiL L (k + 1) = x := ⟨_, rfl⟩
        rw [hhh] at k2 hle
        have HHH := Lib.hid hhh
        rw [show ((k + 1 : Nat) : Int) = (k : Int) + 1 by omega] at k2
        have hn1 : ¬ HH < LA + 1 := by omega
        clear hcell hhh HLA hle
        go_wp2_with fail
        refine k2.mono ?_
        rintro e w3 ⟨rfl, hb3⟩
        have hcx3 := keep_cell hcx hb3 hlt
        have HI3 := Lib.hid (HIR.out.later hb3)
        have hB3 := hbr.trans (hb3.mono hbr.size)
        clear hcx k2 hb3 hbr HIR
        go_wp2
        go_roundw
        case rel => exact ⟨k + 1, HH, hk1', rfl, by go_num, HHH, HI3, hB3⟩
        case measure => (simp [intOf]; try omega)
      · obtain rfl : k = L.length := by omega
        rw [hiL_end] at HLA
        obtain rfl := HLA.out
        have k2 := range_any L ((L.length : Int) + 1) wr _ HIR.out (by omega)
        rw [rangeV_bad (rangeOk_high (by omega))] at k2
        have hn1 : ¬ ((L.length : Int) + 1 ≤ (L.length : Int)) := by omega
        go_wp2_with fail
        refine k2.mono ?_
        rintro e w3 ⟨rfl, hb3⟩
        have HI3 := Lib.hid (HIR.out.later hb3)
        have hB3 := hbr.trans (hb3.mono hbr.size)
        have k3 := merge_any L L w3 _ _ HI3.out HI3.out (by omega) (by omega)
        rw [mergeL_self hf'.out] at k3
        clear k2 hb3 hbr HIR HLA
        go_wp2_with fail
        refine k3.mono ?_
        rintro e w4 ⟨v4, rfl, hi4, hb4⟩
        have k4 := same_ints L L w4 v4 _ hi4 (HI3.out.later hb4) (by omega) (by omega)
        rw [decide_eq_true rfl] at k4
        have hB4 := hB3.trans (hb4.mono hB3.size)
        clear k3 hb4 hB3 HI3 hi4
        go_wp2_with fail
        refine k4.mono ?_
        rintro e w5 ⟨rfl, hb5⟩
        go_wp2
        go_ret
        exact ⟨rfl, hB4.trans (hb5.mono hB4.size)⟩
end Go.Proofs.Ytebgcicpokpelaa.lawRow
