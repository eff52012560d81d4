/- lychgateref07.Same: a contract. -/
import Derived.Test.YtpoaoicehoihdaaDoorRows
import Derived.Test.YtpoaoicehoihdaaDoorStrs
import Derived.WalkSpells
import Derived.Lib.Hide
import Derived.BigQuiet
import Derived.Deep.QuietTactic
namespace Go.Proofs.YtpoaoicehoihdaaDoor
open Go.RowKit

set_option maxHeartbeats 400000 in
theorem same_any (w : World) {v u : Value} {ws us : List ByteArray} (hv : StrsAt w v ws) (hu : StrsAt w u us) :
    Calls Tryd.prog 15 #[v, u] w fun e w' => e = .returned (.bool (decide (ws = us))) ∧ Below w.heap.size w w' := by
  have hm := hv.2
  have hm' := hu.2
  obtain ⟨a, c, rfl, hc, hr⟩ := hv.shape
  obtain ⟨a', c', rfl, hc', hr'⟩ := hu.shape
  clear hv hu
  by_cases hl : ws.length = us.length
  · have hlB : ((ws.length : Int) != (us.length : Int)) = false := by simp [hl]
    have HL := Lib.hid hl
    clear hl
    go_enter Tryd.func15, Tryd.ntmps15
    go_wp2
    go_loopw [5] (fun x wr => ∃ k : Nat, k ≤ ws.length ∧ x = .int .i64 k ∧ Hid (ws.take k = us.take k) ∧ Below w.heap.size w wr) (fun x _ => ws.length - (intOf x).toNat)
    case atStart => exact ⟨0, Nat.zero_le _, rfl, rfl, Below.refl _ _⟩
    case round =>
      obtain ⟨k, hk, rfl, HT, hbr⟩ := hrel
      by_cases hlt : k < ws.length
      · obtain ⟨b, o, rfl, hbl, hcell⟩ := hr (by intro h; rw [h] at hlt; exact absurd hlt (Nat.not_lt_zero _))
        obtain ⟨b', o', rfl, hbl', hcell'⟩ := hr' (by have h1 := HL.out; intro h; rw [h, List.length_nil] at h1; omega)
        have hlt' : k < us.length := by have := HL.out; omega
        have c1 := (hbr.cell (p := ⟨b, o + k, none⟩) hbl).trans (hcell k ws[k] (List.getElem?_eq_getElem hlt))
        have c2 := (hbr.cell (p := ⟨b', o' + k, none⟩) hbl').trans (hcell' k us[k] (List.getElem?_eq_getElem hlt'))
        clear hcell hcell' hr hr'
        have hi1 : (k : Int) < (ws.length : Int) := by omega
        have hi2 : (k : Int) < (us.length : Int) := by omega
        go_wp2
        go_quiet (fail)
        go_wp2
        · have hx : (!ws[k].toList == us[k].toList) = true := by assumption
          have hne := ne_at hlt hlt' (bytes_ne hx)
          clear hx c1 c2
          go_ret
          exact ⟨by rw [decide_eq_false hne]; rfl, bl_drewN hbr _⟩
        · have hx : (!ws[k].toList == us[k].toList) = false := by assumption
          have HN : Hid (ws.take (k + 1) = us.take (k + 1)) := take_step HT.out hlt hlt' (bytes_eq hx)
          clear hx c1 c2
          go_roundw
          case rel => exact ⟨k + 1, by omega, by go_num, HN, bl_drewN hbr _⟩
          case measure => simp [intOf]; omega
      · obtain rfl : k = ws.length := by omega
        have heq := take_done HL.out HT.out
        have HE := Lib.hid heq
        clear heq
        go_wp2
        go_ret
        exact ⟨by rw [decide_eq_true HE.out]; rfl, hbr⟩
  · have hlB : ((ws.length : Int) != (us.length : Int)) = true := by simp; omega
    have hne : ws ≠ us := fun h => hl (by rw [h])
    have HN := Lib.hid hne
    clear hl hne
    go_enter Tryd.func15, Tryd.ntmps15
    go_wp2
    go_ret
    exact ⟨by rw [decide_eq_false HN.out]; rfl, Below.refl _ _⟩
end Go.Proofs.YtpoaoicehoihdaaDoor
