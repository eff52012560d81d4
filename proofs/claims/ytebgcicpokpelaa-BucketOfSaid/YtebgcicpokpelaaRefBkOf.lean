/- lychgateref22.Of, Range: contracts. -/
import Derived.Test.YtebgcicpokpelaaRefBk
import Derived.Test.YtebgcicpokpelaaBkPlain
namespace Go.Proofs.Ytebgcicpokpelaa
open Go.RowKit

theorem cnt_take {l : List Int} {n : Int} {i : Nat} (h : i < l.length) : cntL (l.take (i + 1)) n = cntL (l.take i) n + if l[i] ≤ n then 1 else 0 := by
  unfold cntL
  rw [List.take_succ_eq_append_getElem h, List.countP_append]
  by_cases hx : l[i] ≤ n <;> simp [hx]
set_option maxHeartbeats 1600000 in
set_option maxRecDepth 100000 in
theorem refof_any (l : List Int) (n : Int) (w : World) (v : Value) (hv : IntsAt w v l) (hl : l.length ≤ 1000) :
    Calls Try.prog 16 #[v, .int .i64 n] w fun e w' => e = .returned (.int .i64 (ofL l n : Nat)) ∧ Below w.heap.size w w' := by
  have hbd := fun w' (hb : Below w.heap.size w w') => bounds_any l w' v (hv.later hb) hl
  obtain ⟨a, c, rfl, hc, hr⟩ := RdAt.shape hv
  have HR := Lib.hid hr
  clear hr hv
  cases hf : fineL l
  · have HZ : Hid (ofL l n = 0) := ofL_bad hf n
    rw [hf] at hbd
    rcases Nat.eq_zero_or_pos l.length with h0 | h0
    · have h0' : (l.length : Int) = 0 := by omega
      have HB := Lib.hid hbd
      clear hbd
      go_enter Try.func16, Try.ntmps16
      go_wp2
      go_loopw [5, 6] (fun u i wr => u = .int .i64 0 ∧ i = .int .i64 0 ∧ Below w.heap.size w wr) (fun _ _ _ => 0)
      case atStart => exact ⟨rfl, rfl, Below.refl _ _⟩
      case round =>
        obtain ⟨rfl, rfl, hbr⟩ := hrel
        go_wp2
        go_ret
        exact ⟨by rw [HZ.out]; rfl, hbr⟩
    · have h0' : (0 : Int) < (l.length : Int) := by omega
      go_enter Try.func16, Try.ntmps16
      go_wp2
      go_loopw [5, 6] (fun u i wr => u = .int .i64 0 ∧ i = .int .i64 0 ∧ Below w.heap.size w wr) (fun _ _ _ => 0)
      case atStart => exact ⟨rfl, rfl, Below.refl _ _⟩
      case round =>
        obtain ⟨rfl, rfl, hbr⟩ := hrel
        go_wp2_with fail
        refine (hbd _ hbr).mono ?_
        rintro e w1 ⟨rfl, hb1⟩
        go_wp2
        go_ret
        exact ⟨by rw [HZ.out]; rfl, hbr.trans (hb1.mono hbr.size)⟩
  · have HZ : Hid (ofL l n = cntL l n) := by show _ = _; unfold ofL; rw [if_pos hf]
    rw [hf] at hbd
    clear hf
    go_enter Try.func16, Try.ntmps16
    go_wp2
    go_loopw [5, 6] (fun u i wr => ∃ k m : Nat, k ≤ l.length ∧ m ≤ k ∧ u = .int .i64 m ∧ i = .int .i64 k ∧ Hid (m = cntL (l.take k) n) ∧ Below w.heap.size w wr) (fun _ i _ => l.length - (intOf i).toNat)
    case atStart => exact ⟨0, 0, Nat.zero_le _, Nat.le_refl _, rfl, rfl, Lib.hid rfl, Below.refl _ _⟩
    case round =>
      obtain ⟨k, m, hk, hmk, rfl, rfl, HM, hbr⟩ := hrel
      by_cases hkl : k < l.length
      · obtain ⟨x, hxe⟩ : ∃ x, l[k] = x := ⟨_, rfl⟩
        obtain ⟨b, o, rfl, hb, hcell⟩ := HR.out (by omega)
        have hcx : wr.cell? ⟨b, o + k, none⟩ = some (.int .i64 x) := keep_cell (hcell k _ (by rw [List.getElem?_map, List.getElem?_eq_getElem hkl, hxe]; rfl)) hbr hb
        have HS := Lib.hid (cnt_take (n := n) hkl)
        rw [hxe] at HS
        clear hcell hxe
        have hlt : b < wr.heap.size := Nat.lt_of_lt_of_le hb hbr.size
        go_wp2_with fail
        refine (hbd _ hbr).mono ?_
        rintro e w1 ⟨rfl, hb1⟩
        have hcx1 := keep_cell hcx hb1 hlt
        have hbr1 := hbr.trans (hb1.mono hbr.size)
        clear hcx hbr hb1 hlt
        by_cases hxn : x ≤ n
        · have HN : Hid (m + 1 = cntL (l.take (k + 1)) n) := by show _ = _; rw [HS.out, if_pos hxn, HM.out]
          go_wp2
          go_roundw
          case rel => exact ⟨k + 1, m + 1, by omega, by omega, by go_num, by go_num, HN, hbr1⟩
          case measure => (simp [intOf]; try omega)
        · have HN : Hid (m = cntL (l.take (k + 1)) n) := by show _ = _; rw [HS.out, if_neg hxn, HM.out]; rfl
          have hxn' : n < x := by omega
          clear hxn
          go_wp2
          go_roundw
          case rel => exact ⟨k + 1, m, by omega, by omega, rfl, by go_num, HN, hbr1⟩
          case measure => (simp [intOf]; try omega)
      · obtain rfl : k = l.length := by omega
        have HE : Hid (m = ofL l n) := by show _ = _; rw [HZ.out, HM.out, List.take_length]
        have HB := Lib.hid hbd
        clear hbd HM
        go_wp2
        go_ret
        exact ⟨by rw [← HE.out]; rfl, hbr⟩

/-- what Range gives -/
def rangeV (l : List Int) (k : Int) : Value := if rangeOk l k then .tuple #[.int .i64 (loL l k.toNat), .int .i64 (hiL l k.toNat), .bool true] else .tuple #[.int .i64 0, .int .i64 0, .bool false]
theorem rangeV_bad {l : List Int} {k : Int} (h : rangeOk l k = false) : rangeV l k = .tuple #[.int .i64 0, .int .i64 0, .bool false] := by unfold rangeV; rw [h]; rfl
theorem rangeV_good {l : List Int} {k : Nat} (hf : fineL l = true) (h : k ≤ l.length) : rangeV l k = .tuple #[.int .i64 (loL l k), .int .i64 (hiL l k), .bool true] := by
  unfold rangeV rangeOk
  rw [hf, decide_eq_true (by omega : (0 : Int) ≤ (k : Int)), decide_eq_true (by omega : (k : Int) ≤ (l.length : Int))]
  simp
theorem rangeOk_unfine {l : List Int} {k : Int} (h : fineL l = false) : rangeOk l k = false := by unfold rangeOk; rw [h]; rfl
theorem rangeOk_low {l : List Int} {k : Int} (h : k < 0) : rangeOk l k = false := by unfold rangeOk; rw [decide_eq_false (by omega : ¬ 0 ≤ k), Bool.and_false]; rfl
theorem rangeOk_high {l : List Int} {k : Int} (h : (l.length : Int) < k) : rangeOk l k = false := by unfold rangeOk; rw [decide_eq_false (by omega : ¬ k ≤ (l.length : Int)), Bool.and_false]
set_option maxHeartbeats 1600000 in
set_option maxRecDepth 100000 in
theorem refrange_any (l : List Int) (k : Int) (w : World) (v : Value) (hv : IntsAt w v l) (hl : l.length ≤ 1000) :
    Calls Try.prog 21 #[v, .int .i64 k] w fun e w' => e = .returned (rangeV l k) ∧ Below w.heap.size w w' := by
  have hbd := bounds_any l w v hv hl
  obtain ⟨a, c, rfl, hc, hr⟩ := RdAt.shape hv
  have HR := Lib.hid hr
  clear hr hv
  cases hf : fineL l
  · have HZ := Lib.hid (rangeV_bad (rangeOk_unfine (k := k) hf))
    rw [hf] at hbd
    clear hf
    go_enter Try.func21, Try.ntmps21
    go_wp2_with fail
    refine hbd.mono ?_
    rintro e w1 ⟨rfl, hb1⟩
    go_wp2
    go_ret3
    exact ⟨by rw [HZ.out]; rfl, hb1⟩
  rw [hf] at hbd
  have HFI := Lib.hid hf
  by_cases h1 : k < 0
  · have HZ := Lib.hid (rangeV_bad (rangeOk_low (l := l) h1))
    clear hf
    go_enter Try.func21, Try.ntmps21
    go_wp2_with fail
    refine hbd.mono ?_
    rintro e w1 ⟨rfl, hb1⟩
    go_wp2
    go_ret3
    exact ⟨by rw [HZ.out]; rfl, hb1⟩
  by_cases h2 : (l.length : Int) < k
  · have HZ := Lib.hid (rangeV_bad (rangeOk_high h2))
    clear hf
    go_enter Try.func21, Try.ntmps21
    go_wp2_with fail
    refine hbd.mono ?_
    rintro e w1 ⟨rfl, hb1⟩
    go_wp2
    go_ret3
    exact ⟨by rw [HZ.out]; rfl, hb1⟩
  obtain ⟨m, rfl⟩ : ∃ m : Nat, k = (m : Int) := ⟨k.toNat, by omega⟩
  have hml : m ≤ l.length := by omega
  have HZ := Lib.hid (rangeV_good hf hml)
  have hpos := (fineL_iff.1 hf).1
  obtain ⟨b, o, rfl, hb, hcell⟩ := HR.out (by omega)
  have hbnd := (fineL_iff.1 hf).2.2.2
  clear hf h1 h2
  rcases Nat.eq_zero_or_pos m with rfl | hm0
  · have hlt : (0 : Int) < (l.length : Int) := by omega
    have HHI : Hid (hiL l 0 = l[0] - 1) := hiL_lt (by omega)
    obtain ⟨x, hxe⟩ : ∃ x, l[0] = x := ⟨_, rfl⟩
    have hx1 := hbnd _ (List.getElem_mem (l := l) (n := 0) (by omega))
    rw [hxe] at HHI hx1
    have hcx : w.cell? ⟨b, o, none⟩ = some (.int .i64 x) := hcell 0 _ (by rw [List.getElem?_map, List.getElem?_eq_getElem (by omega), hxe]; rfl)
    clear hcell hxe hbnd
    go_enter Try.func21, Try.ntmps21
    go_wp2_with fail
    refine hbd.mono ?_
    rintro e w1 ⟨rfl, hb1⟩
    have hcx1 := keep_cell hcx hb1 hb
    clear hcx hbd
    go_wp2
    go_ret3
    exact ⟨by rw [HZ.out, HHI.out, loL_zero]; rfl, hb1⟩
  · obtain ⟨y, hye⟩ : ∃ y, l[m - 1] = y := ⟨_, rfl⟩
    have HLO : Hid (loL l m = y) := by show _ = _; rw [loL_pos hm0 hml, hye]
    have hcy : w.cell? ⟨b, o + (m - 1), none⟩ = some (.int .i64 y) := hcell _ _ (by rw [List.getElem?_map, List.getElem?_eq_getElem (by omega), hye]; rfl)
    have hm1 : (0 : Int) < (m : Int) := by omega
    have hm2 : (1 : Int) ≤ (m : Int) ∧ (m : Int) - 1 < (l.length : Int) := by omega
    by_cases hlt : m < l.length
    · have hlt' : (m : Int) < (l.length : Int) := by omega
      have HHI : Hid (hiL l m = l[m] - 1) := hiL_lt hlt
      obtain ⟨x, hxe⟩ : ∃ x, l[m] = x := ⟨_, rfl⟩
      have hx1 := hbnd _ (List.getElem_mem hlt)
      rw [hxe] at HHI hx1
      have hcx : w.cell? ⟨b, o + m, none⟩ = some (.int .i64 x) := hcell _ _ (by rw [List.getElem?_map, List.getElem?_eq_getElem hlt, hxe]; rfl)
      clear hcell hxe hbnd hye
      go_enter Try.func21, Try.ntmps21
      go_wp2_with fail
      refine hbd.mono ?_
      rintro e w1 ⟨rfl, hb1⟩
      have hcx1 := keep_cell hcx hb1 hb
      have hcy1 := keep_cell hcy hb1 hb
      clear hcx hcy hbd
      go_wp2
      go_ret3
      exact ⟨by rw [HZ.out, HHI.out, HLO.out]; rfl, hb1⟩
    · obtain rfl : m = l.length := by omega
      have HHI := Lib.hid (hiL_end l)
      clear hcell hbnd hye
      go_enter Try.func21, Try.ntmps21
      go_wp2_with fail
      refine hbd.mono ?_
      rintro e w1 ⟨rfl, hb1⟩
      have hcy1 := keep_cell hcy hb1 hb
      clear hcy hbd
      go_wp2
      go_ret3
      exact ⟨by rw [HZ.out, HHI.out, HLO.out]; rfl, hb1⟩
end Go.Proofs.Ytebgcicpokpelaa
