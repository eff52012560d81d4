/- lychgateref01.Meet: a contract. -/
import Derived.Test.YtipnhpfpppblhaaRefJ
namespace Go.Proofs.Ytipnhpfpppblhaa
open Go.RowKit

def meetL (a b : Int × Nat) : Int × Nat := if rightL a.1 && rightL b.1 then (min a.1 b.1, a.2 &&& b.2) else (0, 0)
def andL (c d n : Nat) : List Nat := (List.range n).filter fun k => c.testBit k && d.testBit k
theorem andL_step (c d k : Nat) : andL c d (k + 1) = andL c d k ++ (if c.testBit k && d.testBit k then [k] else []) := by
  unfold andL
  rw [List.range_succ, List.filter_append]
  congr 1
  cases h : (c.testBit k && d.testBit k) <;> simp [h]
theorem andL_len (c d n : Nat) : (andL c d n).length ≤ n := by
  have := List.length_filter_le (fun k => c.testBit k && d.testBit k) (List.range n)
  rw [List.length_range] at this
  exact this
theorem andL_lt {c d n k : Nat} (h : k ∈ andL c d n) : k < n := List.mem_range.1 (List.mem_filter.1 h).1
theorem andN_lt {c d : Nat} (hc : c < 4294967296) : (c &&& d) < 4294967296 := Nat.lt_of_le_of_lt Nat.and_le_left hc
theorem andL_sum {c d : Nat} (hc : c < 4294967296) (_ : d < 4294967296) : sumN (andL c d 32) = (c &&& d) := teams_and (by omega)
set_option maxHeartbeats 1600000 in
set_option maxRecDepth 100000 in
theorem rmeet_any (l : Int) (c : Nat) (m : Int) (d : Nat) (w : World) (hc : c < 4294967296) (hd : d < 4294967296) :
    Calls Try.prog 20 #[Lab l c, Lab m d] w fun e w' => e = .returned (LabP (meetL (l, c) (m, d))) ∧ Below w.heap.size w w' := by
  have k1 := rright_any l c
  have k2 := rright_any m d
  cases h1 : rightL l
  · rw [h1] at k1
    have HF : Hid (meetL (l, c) (m, d) = (0, 0)) := by show _ = _; unfold meetL; simp [h1]
    clear h1
    go_enter Try.func20, Try.ntmps20
    go_wp2_with fail
    refine (k1 _).mono ?_
    rintro e w1 ⟨rfl, hb1⟩
    obtain ⟨⟨x0, x1, y0, y1⟩, ⟨z0, z1, hT⟩, hlt, hB1⟩ := box222 hb1
    have f0 := there_free hT 0 (by decide)
    have f1 := there_free hT 1 (by decide)
    have HT := Lib.hid hT
    clear hb1 hT k1 k2
    go_wp2
    refine bodyPost_ret (results_agg1 rfl _ _ (w.heap.size + 1 + 1) [.int .i64 0, .int .u32 0] (.struct _) rfl (World.rangeAt_setCells_same w1 (w.heap.size + 1 + 1) 0 [.int .i64 0, .int .u32 0] HT.out) Try.underlying34 rfl (by kernel_rfl)) rfl ?_
    exact ⟨by rw [HF.out]; rfl, below_put (below_put hB1 (by omega)) (by omega)⟩
  · rw [h1] at k1
    cases h2 : rightL m
    · rw [h2] at k2
      have HF : Hid (meetL (l, c) (m, d) = (0, 0)) := by show _ = _; unfold meetL; simp [h2]
      clear h1 h2
      go_enter Try.func20, Try.ntmps20
      go_wp2_with fail
      refine (k1 _).mono ?_
      rintro e w1 ⟨rfl, hb1⟩
      obtain ⟨⟨x0, x1, y0, y1⟩, ⟨z0, z1, hT⟩, hlt, hB1⟩ := box222 hb1
      clear hb1 k1
      go_wp2_with fail
      refine (k2 _).mono ?_
      rintro e w2 ⟨rfl, hb2⟩
      have z0' := keep_cell z0 hb2 (by omega)
      have z1' := keep_cell z1 hb2 (by omega)
      have hT2 := there_later hT hb2 (by omega)
      have f0 := there_free hT2 0 (by decide)
      have f1 := there_free hT2 1 (by decide)
      have HT := Lib.hid hT2
      have hB2 := hB1.trans (hb2.mono hB1.size)
      clear hT hT2 x0 x1 y0 y1 z0 z1 hb2 hB1 k2
      go_wp2
      refine bodyPost_ret (results_agg1 rfl _ _ (w.heap.size + 1 + 1) [.int .i64 0, .int .u32 0] (.struct _) rfl (World.rangeAt_setCells_same w2 (w.heap.size + 1 + 1) 0 [.int .i64 0, .int .u32 0] HT.out) Try.underlying34 rfl (by kernel_rfl)) rfl ?_
      exact ⟨by rw [HF.out]; rfl, below_put (below_put hB2 (by omega)) (by omega)⟩
    · rw [h2] at k2
      have HF : Hid (meetL (l, c) (m, d) = (min l m, c &&& d)) := by show _ = _; unfold meetL; simp [h1, h2]
      clear h1 h2
      have k3 := fun W => teams_any l c W hc
      have k4 := fun W => teams_any m d W hd
      obtain ⟨i0, hi, hz0, hz1, hz2⟩ := info_parts info_int
      have HC := Lib.hid hc
      have HD := Lib.hid hd
      clear hc hd
      go_enter Try.func20, Try.ntmps20
      go_wp2_with fail
      refine (k1 _).mono ?_
      rintro e w1 ⟨rfl, hb1⟩
      obtain ⟨⟨x0, x1, y0, y1⟩, ⟨z0, z1, hT⟩, hlt, hB1⟩ := box222 hb1
      clear hb1 k1
      go_wp2_with fail
      refine (k2 _).mono ?_
      rintro e w2 ⟨rfl, hb2⟩
      have x0' := keep_cell x0 hb2 (by omega)
      have x1' := keep_cell x1 hb2 (by omega)
      have y0' := keep_cell y0 hb2 (by omega)
      have y1' := keep_cell y1 hb2 (by omega)
      have HZ := Lib.hid (And.intro (keep_cell z0 hb2 (by omega)) (keep_cell z1 hb2 (by omega)))
      have HT := Lib.hid (there_later hT hb2 (by omega))
      have HB2 := Lib.hid (hB1.trans (hb2.mono hB1.size))
      have hlt2 := Nat.lt_of_lt_of_le hlt hb2.size
      have HLT := Lib.hid hlt2
      clear hT x0 x1 y0 y1 z0 z1 hb2 hB1 k2 hlt hlt2
      go_wp2
      go_loopw [5, 6] (fun v i wr => ∃ k : Nat, i = .int .i64 k ∧ k ≤ 32 ∧ wr.ownsRow w2.heap.size 3 1 v (andL c d k).length (((andL c d k).map fun (k : Nat) => (k : Int)).map I) ∧ Below w2.heap.size w2 wr) (fun _ i _ => 32 - (intOf i).toNat)
      case atStart => exact ⟨0, rfl, Nat.zero_le _, World.ownsRow_nil _ _ _ _, Below.refl _ _⟩
      case round =>
        obtain ⟨k, rfl, hk, hown, hbr⟩ := hrel
        have hls := HLT.out
        have X0 := keep_cell x0' hbr (by omega)
        have X1 := keep_cell x1' hbr (by omega)
        have Y0 := keep_cell y0' hbr (by omega)
        have Y1 := keep_cell y1' hbr (by omega)
        by_cases hkl : k < 32
        · have hI : (k : Int) < 32 := by omega
          have hstep := andL_step c d k
          have hlen := andL_len c d k
          have tc := team_is (c := c) hkl
          have td := team_is (c := d) hkl
          have ka : ∀ W v, IntsAt W v (teamsI c 32) → Calls Try.prog 46 #[v, .int .i64 k] W fun e w' => e = .returned (.bool (c.testBit k)) ∧ Below W.heap.size W w' := fun W v h => by
            have := has_any (teamsI c 32) k v W h (by have := teamsI_len c 32; omega)
            rw [tc] at this; exact this
          have kb : ∀ W v, IntsAt W v (teamsI d 32) → Calls Try.prog 46 #[v, .int .i64 k] W fun e w' => e = .returned (.bool (d.testBit k)) ∧ Below W.heap.size W w' := fun W v h => by
            have := has_any (teamsI d 32) k v W h (by have := teamsI_len d 32; omega)
            rw [td] at this; exact this
          have HS := Lib.hid hstep
          have HBR := Lib.hid hbr
          have HO := Lib.hid hown
          obtain ⟨va, vc, rfl, _, _⟩ := RdAt.shape (RdAt.own hown)
          clear tc td hstep hbr hown
          have hxl : w.heap.size + 1 < wr.heap.size := by have := HBR.out.size; omega
          go_wp2_with fail
          refine (k3 _).mono ?_
          rintro e w3 ⟨v3, rfl, hi3, hb3⟩
          obtain ⟨a3, c3, rfl, _, _⟩ := RdAt.shape hi3
          have ka1 := ka w3 _ hi3
          have y0 := keep_cell Y0 hb3 hxl
          have y1 := keep_cell Y1 hb3 hxl
          cases hcb : c.testBit k
          · rw [hcb] at ka1
            have HBIT : Hid ((c.testBit k && d.testBit k) = false) := by show _ = _; rw [hcb]; rfl
            clear X0 X1 Y0 Y1 y0 y1 hcb
            go_wp2_with fail
            refine ka1.mono ?_
            rintro e w4 ⟨rfl, hb4⟩
            have HBN := Lib.hid (hb3.trans (hb4.mono hb3.size))
            clear hb3 hb4 hi3 ka1
            go_wp2
            go_roundw
            case rel => exact ⟨k + 1, by go_num, by omega, by rw [HS.out, if_neg (by rw [HBIT.out]; decide), List.append_nil]; exact own_later HO.out HBN.out, HBR.out.trans (HBN.out.mono HBR.out.size)⟩
            case measure => (simp [intOf]; try omega)
          · rw [hcb] at ka1
            clear X0 X1 Y0 Y1
            go_wp2_with fail
            refine ka1.mono ?_
            rintro e w4 ⟨rfl, hb4⟩
            have hb34 := hb3.trans (hb4.mono hb3.size)
            have y0' := keep_cell y0 hb4 (by have := hb3.size; omega)
            have y1' := keep_cell y1 hb4 (by have := hb3.size; omega)
            clear y0 y1 hi3 ka1
            go_wp2_with fail
            refine (k4 _).mono ?_
            rintro e w5 ⟨v5, rfl, hi5, hb5⟩
            obtain ⟨a5, c5, rfl, _, _⟩ := RdAt.shape hi5
            have kb1 := kb w5 _ hi5
            have hb35 := hb34.trans (hb5.mono hb34.size)
            cases hdb : d.testBit k
            · rw [hdb] at kb1
              have HBIT : Hid ((c.testBit k && d.testBit k) = false) := by show _ = _; rw [hcb, hdb]; rfl
              clear y0' y1' hcb hdb
              go_wp2_with fail
              refine kb1.mono ?_
              rintro e w6 ⟨rfl, hb6⟩
              have HBN := Lib.hid (hb35.trans (hb6.mono hb35.size))
              clear hb3 hb4 hb5 hb6 hb34 hb35 hi5 kb1
              go_wp2
              go_roundw
              case rel => exact ⟨k + 1, by go_num, by omega, by rw [HS.out, if_neg (by rw [HBIT.out]; decide), List.append_nil]; exact own_later HO.out HBN.out, HBR.out.trans (HBN.out.mono HBR.out.size)⟩
              case measure => (simp [intOf]; try omega)
            · rw [hdb] at kb1
              have HBIT : Hid ((c.testBit k && d.testBit k) = true) := by show _ = _; rw [hcb, hdb]; rfl
              clear y0' y1' hcb hdb
              go_wp2_with fail
              refine kb1.mono ?_
              rintro e w6 ⟨rfl, hb6⟩
              have HBN := Lib.hid (hb35.trans (hb6.mono hb35.size))
              clear hb3 hb4 hb5 hb6 hb34 hb35 hi5 kb1
              have hb9 := alloc_below w6 (.cells #[I k] 3)
              have hown9 := (own_later HO.out HBN.out).alloc (.cells #[I k] 3)
              go_wp2_with (at_builtin; (refine wpList_append_own _ rfl _ _ 98 rfl w2.heap.size 3 i0 (.int .i64 0) 1 8 Try.underlying98 hi hz0 hz1 hz2 rfl (by decide) _ _ _ rfl hown9 ⟨w6.heap.size, 0, none⟩ 1 1 [I k] rfl rfl (cell_one_new _ _ _) (by simp [Value.oneCell']) (by unfold maxLen; omega) (by omega) (by have := HBR.out.size; have := HBN.out.size; simp; omega) ?_); intro v' w8 hown' hg8 hnil8)
              have hB8 : Below w2.heap.size w2 w8 := ((HBR.out.trans (HBN.out.mono HBR.out.size)).trans (hb9.mono (by have := HBR.out.size; have := HBN.out.size; omega))).grown hg8 (by have := HBR.out.size; have := HBN.out.size; simp; omega) (fun j e => (hown9.lt j e).1)
              go_wp2
              go_roundw
              case rel => exact ⟨k + 1, by go_num, by omega, by rw [HS.out, if_pos HBIT.out]; simpa using hown', hB8⟩
              case measure => (simp [intOf]; try omega)
        · obtain rfl : k = 32 := by omega
          obtain ⟨va, vc, rfl, _, _⟩ := RdAt.shape (RdAt.own hown)
          have hii : IntsAt wr (.slice va (andL c d 32).length vc) ((andL c d 32).map fun (k : Nat) => (k : Int)) := by
            have := RdAt.own hown
            unfold IntsAt
            rw [List.length_map]
            exact this
          have hof := rof_any (min l m) (andL c d 32) _ wr hii (fun t ht => andL_lt ht) (by have := andL_len c d 32; omega) (by rw [andL_sum HC.out HD.out]; exact andN_lt HC.out)
          rw [andL_sum HC.out HD.out] at hof
          have HBR := Lib.hid (HB2.out.trans (hbr.mono HB2.out.size))
          have HT3 := Lib.hid (there_later HT.out hbr HLT.out)
          have HZ3 := Lib.hid (And.intro (keep_cell HZ.out.1 hbr HLT.out) (keep_cell HZ.out.2 hbr HLT.out))
          have HLT3 := Lib.hid (Nat.lt_of_lt_of_le HLT.out hbr.size)
          clear hown hii hbr k3 k4 x0' x1' y0' y1' HT HZ HLT
          rw [show ((32 : Nat) : Int) = 32 from rfl]
          generalize (andL c d 32).length = on at *
          go_wp2_with fail
          refine hof.mono ?_
          rintro e w9 ⟨rfl, hb9⟩
          have z0 := keep_cell HZ3.out.1 hb9 HLT3.out
          have z1 := keep_cell HZ3.out.2 hb9 HLT3.out
          have hT9 := there_later HT3.out hb9 HLT3.out
          have f0 := there_free hT9 0 (by decide)
          have f1 := there_free hT9 1 (by decide)
          have HT9 := Lib.hid hT9
          have HB9 := Lib.hid (HBR.out.trans (hb9.mono HBR.out.size))
          clear hT9 hb9 X0 X1 Y0 Y1 hof
          go_wp2
          refine bodyPost_ret (results_agg1 rfl _ _ (w.heap.size + 1 + 1) [.int .i64 (min l m), .int .u32 ((c &&& d))] (.struct _) rfl (World.rangeAt_setCells_same w9 (w.heap.size + 1 + 1) 0 [.int .i64 (min l m), .int .u32 ((c &&& d))] HT9.out) Try.underlying34 rfl (by kernel_rfl)) rfl ?_
          exact ⟨by rw [HF.out], below_put (below_put HB9.out (by omega)) (by omega)⟩
end Go.Proofs.Ytipnhpfpppblhaa
