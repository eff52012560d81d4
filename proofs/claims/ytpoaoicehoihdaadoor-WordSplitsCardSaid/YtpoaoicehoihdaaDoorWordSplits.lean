/- WordSplits: the walk. -/
import Derived.Test.YtpoaoicehoihdaaDoorLives
import Derived.Test.YtpoaoicehoihdaaDoorEarly
import Derived.Test.YtpoaoicehoihdaaDoorSame
import Derived.Test.YtpoaoicehoihdaaDoorLines
import Derived.Test.YtpoaoicehoihdaaDoorRefLines
import Derived.StillTailTactics
namespace Go.Proofs.YtpoaoicehoihdaaDoor.lawSplits
open Go.RowKit

/-- the words, or none, and the code -/
def splitC (l : List UInt8) : List (List UInt8) × Int := match splitL l with
  | some ws => (ws, 0)
  | none => ([], 2)
theorem splitU {s : ByteArray} {w : World} {e : Ending} {w' : World} (hs : s.size ≤ 1000) (h : SplitPost s w e w') : ∃ v ws, e = .returned (.tuple #[v, .int .i64 (splitC (B s)).2]) ∧ ws.map B = (splitC (B s)).1 ∧ StrsAt w' v ws ∧ Below w.heap.size w w' := by
  rcases h with ⟨v, ws, rfl, h2, h3, h4⟩ | ⟨rfl, h2, h3⟩
  · exact ⟨v, ws, by rw [splitC, h2], by rw [splitC, h2], StrsAt.own h3 (by have := splitL_len h2; rw [List.length_map, len_B] at this; omega), h4⟩
  · exact ⟨_, [], by rw [splitC, h2], by rw [splitC, h2]; rfl, StrsAt.nil _, h3⟩

set_option maxHeartbeats 1600000 in
set_option maxRecDepth 100000 in
theorem walk (a : ByteArray) (w : World) (hsh : w.ShapedOpen Tryd.prog) (ha : a.size ≤ maxLen) :
    Calls Tryd.prog 5 #[.string a] w fun e w' => e = .returned (.bool true) ∧ Below w.heap.size w w' := by
  have hM := MaxAt.of_shaped hsh
  clear hsh
  go_enter Tryd.func5, Tryd.ntmps5
  go_wp2_with (go_at_call 10; refine (lives_any _).mono ?_; rintro e w1 ⟨rfl, hb1⟩)
  refine (early_any a w1 ha).mono ?_
  rintro e w1' ⟨s, rfl, hs, _, rfl⟩
  obtain ⟨c, hc⟩ : ∃ c, (splitC (B s)).2 = c := ⟨_, rfl⟩
  go_wp2_with fail
  refine (split_calls s w1 (by omega)).mono ?_
  rintro e w2 hp
  obtain ⟨v2, ws, rfl, hws, hS2, hb2⟩ := splitU (by omega) hp
  rw [hc]
  have hb12 := hb1.trans (hb2.mono hb1.size)
  clear hp
  go_wp2_with fail
  refine (refSplit.split_any s w2 (by omega)).mono ?_
  rintro e w3 hp
  obtain ⟨v3, ms, rfl, hms, hS3, hb3⟩ := splitU (by omega) hp
  rw [hc]
  obtain rfl : ms = ws := mapB_inj (hms.trans hws.symm)
  have hb13 := hb12.trans (hb3.mono hb12.size)
  have hS23 := hS2.later hb3
  have hln := lines_any s w3 (hM.later hb13) (by have := hM.1; have := hb13.size; omega) (by omega)
  obtain ⟨k, hk⟩ : ∃ k, (linesL (B s)).2.1 = k := ⟨_, rfl⟩
  obtain ⟨h, hh⟩ : ∃ h, (linesL (B s)).2.2 = h := ⟨_, rfl⟩
  clear hp hS2 hws hms hc hM
  go_wp2_with fail
  refine hln.mono ?_
  rintro e w4 ⟨v4, ls, rfl, hls, hL4, hll, hb4⟩
  rw [hk, hh]
  have hb14 := hb13.trans (hb4.mono hb13.size)
  have hS24 := hS23.later hb4
  have hS34 := hS3.later hb4
  clear hln hS23 hS3
  go_wp2_with fail
  refine (refLines.lines_any s w4 (by omega)).mono ?_
  rintro e w5 ⟨v5, ls', rfl, hls', hL5, _, hb5⟩
  rw [hk, hh]
  obtain rfl : ls' = ls := LB_inj (hls'.trans hls.symm)
  have hb15 := hb14.trans (hb5.mono hb14.size)
  have hL45 := hL4.later hb5
  have hsm := same_any w5 (hS24.later hb5) (hS34.later hb5)
  rw [decide_eq_true rfl] at hsm
  clear hL4 hS24 hS34 hls hls' hk hh
  have HL4 := Lib.hid hL45
  have HL5 := Lib.hid hL5
  obtain ⟨vs, hvl, hrd, hm, hall⟩ := hL45
  obtain ⟨us, hul, hrd', _, hall'⟩ := hL5
  obtain ⟨a4, c4, rfl, hc4, hr4⟩ := hrd.shape
  obtain ⟨a5, c5, rfl, hc5, hr5⟩ := hrd'.shape
  have HR4 := Lib.hid hr4
  have HR5 := Lib.hid hr5
  have HA := Lib.hid hall
  have HA' := Lib.hid hall'
  clear hr4 hr5 hall hall' hrd hrd' HL4 HL5
  go_wp2_with fail
  refine hsm.mono ?_
  rintro e w6 ⟨rfl, hb6⟩
  go_wp2
  go_loopw [13] (fun i wr => ∃ k : Nat, k ≤ ls'.length ∧ i = .int .i64 k ∧ Below w5.heap.size w5 wr) (fun i _ => ls'.length - (intOf i).toNat)
  case atStart => exact ⟨0, Nat.zero_le _, rfl, hb6⟩
  case round =>
    obtain ⟨k, hk, rfl, hbr⟩ := hrel
    by_cases hlt : k < ls'.length
    · obtain ⟨b4, o4, rfl, hlt4, hcell4⟩ := HR4.out (by omega)
      obtain ⟨b5, o5, rfl, hlt5, hcell5⟩ := HR5.out (by omega)
      obtain ⟨u, hu⟩ : ∃ u, vs[k]? = some u := ⟨_, List.getElem?_eq_getElem (by omega)⟩
      obtain ⟨y, hy⟩ : ∃ y, us[k]? = some y := ⟨_, List.getElem?_eq_getElem (by omega)⟩
      have q1 := (HA.out k u _ hu (List.getElem?_eq_getElem hlt)).later hbr
      have q2 := (HA'.out k y _ hy (List.getElem?_eq_getElem hlt)).later hbr
      have c1 : wr.cell? ⟨b4, o4 + k, none⟩ = some u := (hbr.cell (p := ⟨b4, o4 + k, none⟩) hlt4).trans (hcell4 k u hu)
      have c2 : wr.cell? ⟨b5, o5 + k, none⟩ = some y := (hbr.cell (p := ⟨b5, o5 + k, none⟩) hlt5).trans (hcell5 k y hy)
      have hD := (Below.refl wr.heap.size wr).drew
      have sm := same_any wr.drew (q1.later hD) (q2.later hD)
      rw [decide_eq_true rfl] at sm
      clear hcell4 hcell5 q1 q2 hu hy
      go_wp2_with fail
      go_still_tail 8, (by kernel_rfl)
      change wpList _ _ _ _ _ wr.drew
      have hbq : Below w5.heap.size w5 wr.drew := hbr.drew
      generalize wr.drew = wq at *
      go_wp2_with (go_at_call 15; refine sm.mono ?_; rintro e w7 ⟨rfl, hb7⟩)
      go_roundw
      case rel => exact ⟨k + 1, by omega, by go_num, hbq.trans (hb7.mono hbq.size)⟩
      case measure => simp [intOf]; omega
    · obtain rfl : k = ls'.length := by omega
      go_wp2
      go_ret
      exact ⟨rfl, hb15.trans (hbr.mono hb15.size)⟩
end Go.Proofs.YtpoaoicehoihdaaDoor.lawSplits
