/- lychgateref01.SameInts. -/
import Derived.Test.YtebgcicpokpelaaInts
import Derived.Deep.LoopGhost
import Derived.Lib.Hide
namespace Go.Proofs.Ytebgcicpokpelaa
open Go.RowKit

set_option maxHeartbeats 1600000 in
set_option maxRecDepth 100000 in
theorem same_ints (xs ys : List Int) (w : World) (u v : Value) (hx : IntsAt w u xs) (hy : IntsAt w v ys) (hl : xs.length ≤ 1000) (hl2 : ys.length ≤ 1000) :
    Calls Try.prog 17 #[u, v] w fun e w' => e = .returned (.bool (decide (xs = ys))) ∧ Below w.heap.size w w' := by
  obtain ⟨a, c, rfl, hc, hr⟩ := RdAt.shape hx
  obtain ⟨a', c', rfl, hc', hr'⟩ := RdAt.shape hy
  have HR := Lib.hid hr
  have HR' := Lib.hid hr'
  clear hr hr' hx hy
  by_cases hlen : xs.length = ys.length
  · have hlen' : (xs.length : Int) = (ys.length : Int) := by omega
    have hb0 : ((xs.length : Int) != (ys.length : Int)) = false := by simp [hlen]
    have HLEN := Lib.hid hlen
    clear hlen hlen'
    go_enter Try.func17, Try.ntmps17
    go_wp2
    go_loopw [5] (fun i wr => ∃ k : Nat, k ≤ xs.length ∧ i = .int .i64 k ∧ Hid (xs.take k = ys.take k) ∧ Below w.heap.size w wr) (fun i _ => xs.length - (intOf i).toNat)
    case atStart => exact ⟨0, Nat.zero_le _, rfl, Lib.hid rfl, Below.refl _ _⟩
    case round =>
      obtain ⟨k, hk, rfl, HT, hbr⟩ := hrel
      by_cases hkl : k < xs.length
      · have hkl2 : k < ys.length := by have := HLEN.out; omega
        obtain ⟨x, hxe⟩ : ∃ x, xs[k] = x := ⟨_, rfl⟩
        obtain ⟨y, hye⟩ : ∃ y, ys[k] = y := ⟨_, rfl⟩
        obtain ⟨b0, o0, rfl, hb0', hcell⟩ := HR.out (by omega)
        obtain ⟨b1, o1, rfl, hb1', hcell'⟩ := HR'.out (by omega)
        have hcr : wr.cell? ⟨b0, o0 + k, none⟩ = some (.int .i64 x) := (hbr.cell (p := ⟨b0, o0 + k, none⟩) hb0').trans (hcell k _ (by rw [List.getElem?_map, List.getElem?_eq_getElem hkl, hxe]; rfl))
        have hcr' : wr.cell? ⟨b1, o1 + k, none⟩ = some (.int .i64 y) := (hbr.cell (p := ⟨b1, o1 + k, none⟩) hb1').trans (hcell' k _ (by rw [List.getElem?_map, List.getElem?_eq_getElem hkl2, hye]; rfl))
        clear hcell hcell'
        by_cases hxy : x = y
        · have HN : Hid (xs.take (k + 1) = ys.take (k + 1)) := take_step HT.out hkl hkl2 (by rw [hxe, hye, hxy])
          have hbx : (x != y) = false := by simp [hxy]
          clear hxy hxe hye
          go_wp2_with fail
          go_region
          all_goals go_wp2
          go_roundw
          case rel => exact ⟨k + 1, by omega, by go_num, HN, bl_drewN hbr 1⟩
          case measure => simp [intOf]; omega
        · have hbx : (x != y) = true := by simp [hxy]
          have HN : Hid (xs ≠ ys) := ne_at hkl hkl2 (by rw [hxe, hye]; exact hxy)
          clear hxy hxe hye
          go_wp2_with fail
          go_region
          all_goals go_wp2
          go_ret
          exact ⟨by rw [decide_eq_false HN.out]; rfl, bl_drewN hbr 1⟩
      · obtain rfl : k = xs.length := by omega
        have HN : Hid (xs = ys) := take_done HLEN.out HT.out
        clear HT
        go_wp2
        go_ret
        exact ⟨by rw [decide_eq_true HN.out]; rfl, hbr⟩
  · have hlen' : ¬ (xs.length : Int) = (ys.length : Int) := by omega
    go_enter Try.func17, Try.ntmps17
    go_wp2
    go_ret
    exact ⟨by rw [decide_eq_false (fun h => hlen (by rw [h]))]; rfl, Below.refl _ _⟩
end Go.Proofs.Ytebgcicpokpelaa
