/- lychgateref01: of, Join; lychgateref08: Find, Raised, Visible, Cut; lychgateref09.Cut: contracts (upon XRefFl). -/
import Derived.Test.YtipnhpfpppblhaaRefFl
import Derived.Test.YtipnhpfpppblhaaAlPol
import Derived.Test.YtipnhpfpppblhaaAlRaise
import Derived.Test.YtipnhpfpppblhaaAlDel2
import Derived.Test.YtipnhpfpppblhaaAlCut
import Derived.Deep.LoopGhost
namespace Go.Proofs.Ytipnhpfpppblhaa
open Go.RowKit

theorem rightL_iff {l : Int} : rightL l = true ↔ 0 ≤ l ∧ l ≤ 7 := by simp [rightL]
theorem orN_lt (c d : Nat) : orN c d < 4294967296 := (BitVec.ofNat 32 c ||| BitVec.ofNat 32 d).isLt
theorem joinL_right (a b : Int × Nat) : rightL (joinL a b).1 = true ∧ (joinL a b).2 < 4294967296 := by
  unfold joinL
  split
  · rename_i h
    simp only [Bool.and_eq_true] at h
    obtain ⟨h1, h2⟩ := h
    rw [rightL_iff] at h1 h2
    refine ⟨rightL_iff.2 (by dsimp only; omega), orN_lt _ _⟩
  · exact ⟨by decide, by decide⟩
theorem sum_take_le : ∀ (ts : List Nat) (k : Nat), sumN (ts.take k) ≤ sumN ts := by
  have h : ∀ (ts : List Nat) (a b : Nat), a ≤ b → ts.foldl (fun a k => a + 2 ^ k) a ≤ ts.foldl (fun a k => a + 2 ^ k) b := by
    intro ts
    induction ts with
    | nil => intro a b h; exact h
    | cons t ts ih => intro a b h; exact ih _ _ (Nat.add_le_add_right h _)
  have h2 : ∀ (ts : List Nat) (a k : Nat), (ts.take k).foldl (fun a k => a + 2 ^ k) a ≤ ts.foldl (fun a k => a + 2 ^ k) a := by
    intro ts
    induction ts with
    | nil => intro a k; simp
    | cons t ts ih =>
      intro a k
      cases k with
      | zero =>
        rw [List.take_zero, List.foldl_nil, List.foldl_cons]
        have h3 := ih (a + 2 ^ t) 0
        rw [List.take_zero, List.foldl_nil] at h3
        exact Nat.le_trans (Nat.le_add_right a (2 ^ t)) h3
      | succ k => rw [List.take_succ_cons, List.foldl_cons, List.foldl_cons]; exact ih _ _
  exact fun ts k => h2 ts 0 k
set_option maxHeartbeats 1600000 in
set_option maxRecDepth 100000 in
theorem rof_any (lv : Int) (ts : List Nat) (v : Value) (w : World) (hv : IntsAt w v (ts.map fun (k : Nat) => (k : Int))) (ht : ∀ t ∈ ts, t < 32) (hl : ts.length ≤ 1000) (hs : sumN ts < 4294967296) :
    Calls Try.prog 47 #[.int .i64 lv, v] w fun e w' => e = .returned (Lab lv (sumN ts)) ∧ Below w.heap.size w w' := by
  obtain ⟨a, c, rfl, hc, hr⟩ := RdAt.shape hv
  rw [List.length_map] at hc hr ⊢
  have HR := Lib.hid hr
  obtain ⟨W0, hW0⟩ : ∃ z, (w.alloc (.cells #[.int .i64 0, .int .u32 0] 34)).alloc (.cells #[.int .i64 lv, .int .u32 0] 34) = z := ⟨_, rfl⟩
  have hb0 : Below w.heap.size w W0 := by rw [← hW0]; exact (alloc_below _ _).trans ((alloc_below _ _).mono (by simp))
  have hd := Below.refl W0.heap.size W0
  rw [← hW0] at hd
  have hT1 := box_there hd
  obtain ⟨y0, y1, z0, z1, hlt, _⟩ := box22 hd
  obtain ⟨h1, h2, h3⟩ := box_cells hd
  have hT0 := box_there h3
  rw [World.size_alloc] at hT1
  rw [hW0] at hT1 hT0 y0 y1 z0 z1 hlt
  have HT0 := Lib.hid hT0
  have HT1 := Lib.hid hT1
  have HB0 := Lib.hid hb0
  have HY := Lib.hid (And.intro y0 y1)
  have HW0 := Lib.hid hW0
  clear hd h1 h2 h3 hr hv hT0 hT1 hb0 y0 y1 hlt hW0
  go_enter Try.func47, Try.ntmps47
  go_upto_region 2 with fail
  rw [HW0.out]
  clear HW0
  go_wp2
  go_loopw [6] (fun i wr => ∃ (k s : Nat), i = .int .i64 k ∧ k ≤ ts.length ∧ Hid (s = sumN (ts.take k)) ∧ wr.cell? ⟨w.heap.size + 1, 0, none⟩ = some (.int .i64 lv) ∧ wr.cell? ⟨w.heap.size + 1, 1, none⟩ = some (.int .u32 s) ∧ Hid (wr.cell? ⟨w.heap.size, 0, none⟩ = some (.int .i64 0) ∧ wr.cell? ⟨w.heap.size, 1, none⟩ = some (.int .u32 0)) ∧ Hid (wr.there w.heap.size 0 2) ∧ Hid (wr.there (w.heap.size + 1) 0 2) ∧ Hid (Below w.heap.size w wr)) (fun i _ => ts.length - (intOf i).toNat)
  case atStart => exact ⟨0, 0, rfl, Nat.zero_le _, Lib.hid (by simp [sumN]), z0, z1, HY, HT0, HT1, HB0⟩
  case round =>
    clear HT0 HT1 HB0 HY
    obtain ⟨k, s, rfl, hk, HS, z0, z1, HY, HT0, HT1, HB⟩ := hrel
    by_cases hkl : k < ts.length
    · obtain ⟨b, o, rfl, hb, hcell⟩ := HR.out (by omega)
      obtain ⟨t, htk⟩ : ∃ t, ts[k] = t := ⟨_, rfl⟩
      have hcr : wr.cell? ⟨b, o + k, none⟩ = some (.int .i64 t) := keep_cell (hcell k _ (by rw [List.map_map, List.getElem?_map, List.getElem?_eq_getElem hkl, htk]; rfl)) HB.out hb
      have ht32 : t < 32 := by rw [← htk]; exact ht _ (List.getElem_mem hkl)
      have hnext : sumN (ts.take (k + 1)) = s + 2 ^ t := by rw [List.take_succ_eq_append_getElem hkl, sumN_snoc, htk, HS.out]
      have hle := sum_take_le ts (k + 1)
      rw [hnext] at hle
      obtain ⟨p, hp⟩ : ∃ p, 2 ^ t = p := ⟨_, rfl⟩
      have HN : Hid (sumN (ts.take (k + 1)) = s + p) := by rw [hp] at hnext; exact hnext
      have HP := Lib.hid hp
      have hsp : s + p < 4294967296 := by rw [hp] at hle; omega
      clear hcell htk hnext hle hp HS
      go_wp2
      go_loopw [7, 8] (fun q j wx => ∃ (m r : Nat), j = .int .i64 m ∧ m ≤ t ∧ q = .int .u32 r ∧ Hid (r = 2 ^ m) ∧ wx = wr) (fun _ j _ => t - (intOf j).toNat)
      case atStart => exact ⟨0, 1, rfl, Nat.zero_le _, rfl, Lib.hid rfl, rfl⟩
      case round =>
        obtain ⟨m, r, rfl, hm, rfl, HRm, hwx⟩ := hrel
        subst hwx
        by_cases hmt : m < t
        · have hI : (m : Int) < (t : Int) := by omega
          have hr2 : r * 2 < 4294967296 := by
            have e : r * 2 = 2 ^ (m + 1) := by rw [HRm.out, Nat.pow_succ]
            have := Nat.pow_le_pow_right (n := 2) (by decide) (show m + 1 ≤ 31 by omega)
            omega
          have q1 : IntKind.u32.wrap ((r : Int) * 2) = ((r * 2 : Nat) : Int) := by rw [IntKind.wrap_u32']; omega
          have HR2 : Hid (r * 2 = 2 ^ (m + 1)) := by show _ = _; rw [HRm.out, Nat.pow_succ]
          generalize r * 2 = r2 at *
          go_wp2
          go_roundw
          case rel => exact ⟨m + 1, r2, by go_num, by omega, rfl, HR2, trivial⟩
          case measure => (simp [intOf]; try omega)
        · obtain rfl : m = t := by omega
          have q1 : IntKind.u32.wrap ((s : Int) + (r : Int)) = ((s + p : Nat) : Int) := by
            rw [HRm.out, HP.out, IntKind.wrap_u32']; omega
          have f1 := there_free HT1.out 1 (by decide)
          generalize s + p = s2 at *
          go_wp2
          go_roundw
          case rel =>
            refine ⟨k + 1, s2, by go_num, by omega, Lib.hid HN.out.symm, ?_, ?_, ?_, ?_, ?_, ?_⟩
            · rw [World.cell?_setCell_other _ _ _ _ (by simp)]; exact z0
            · exact World.cell?_setCell_same' _ _ _ (by rw [z1]; rfl)
            · exact Lib.hid ⟨by rw [World.cell?_setCell_other _ _ _ _ (by simp)]; exact HY.out.1, by rw [World.cell?_setCell_other _ _ _ _ (by simp)]; exact HY.out.2⟩
            · exact Lib.hid (World.there_setCells HT0.out (w.heap.size + 1) 1 [.int .u32 s2])
            · exact Lib.hid (World.there_setCells HT1.out (w.heap.size + 1) 1 [.int .u32 s2])
            · exact Lib.hid (below_put HB.out (by omega))
          case measure => (simp [intOf]; try omega)
    · obtain rfl : k = ts.length := by omega
      obtain ⟨y0, y1⟩ := HY.out
      have f0 := there_free HT0.out 0 (by decide)
      have f1 := there_free HT0.out 1 (by decide)
      have hss : s = sumN ts := by have := HS.out; rwa [List.take_length] at this
      have HSS := Lib.hid hss
      clear hss
      go_wp2
      refine bodyPost_ret (results_agg1 rfl _ _ w.heap.size [.int .i64 lv, .int .u32 s] (.struct _) rfl (World.rangeAt_setCells_same wr w.heap.size 0 [.int .i64 lv, .int .u32 s] HT0.out) Try.underlying34 rfl (by kernel_rfl)) rfl ?_
      exact ⟨by rw [← HSS.out], below_put (below_put HB.out (by omega)) (by omega)⟩
end Go.Proofs.Ytipnhpfpppblhaa
namespace Go.Proofs.Ytipnhpfpppblhaa
open Go.RowKit

def orL (c d n : Nat) : List Nat := (List.range n).filter fun k => c.testBit k || d.testBit k
theorem orL_step (c d k : Nat) : orL c d (k + 1) = orL c d k ++ (if c.testBit k || d.testBit k then [k] else []) := by
  unfold orL
  rw [List.range_succ, List.filter_append]
  congr 1
  cases h : (c.testBit k || d.testBit k) <;> simp [h]
theorem orL_len (c d n : Nat) : (orL c d n).length ≤ n := by
  have := List.length_filter_le (fun k => c.testBit k || d.testBit k) (List.range n)
  rw [List.length_range] at this
  exact this
theorem orL_lt {c d n k : Nat} (h : k ∈ orL c d n) : k < n := List.mem_range.1 (List.mem_filter.1 h).1
theorem orL_sum {c d : Nat} (hc : c < 4294967296) (hd : d < 4294967296) : sumN (orL c d 32) = orN c d := by
  have h1 : sumN (orL c d 32) = c ||| d := teams_or (by omega) (by omega)
  rw [h1]
  unfold orN
  rw [BitVec.toNat_or, BitVec.toNat_ofNat, BitVec.toNat_ofNat, Nat.mod_eq_of_lt (by omega), Nat.mod_eq_of_lt (by omega)]
theorem team_is {c k : Nat} (hk : k < 32) : decide ((k : Int) ∈ teamsI c 32) = c.testBit k := by
  rw [Bool.eq_iff_iff, decide_eq_true_eq, mem_teamsI, mem_teams]
  exact ⟨fun h => h.2, fun h => ⟨hk, h⟩⟩
set_option maxHeartbeats 1600000 in
set_option maxRecDepth 100000 in
theorem rjoin_any (l : Int) (c : Nat) (m : Int) (d : Nat) (w : World) (hc : c < 4294967296) (hd : d < 4294967296) :
    Calls Try.prog 38 #[Lab l c, Lab m d] w fun e w' => e = .returned (LabP (joinL (l, c) (m, d))) ∧ Below w.heap.size w w' := by
  have k1 := rright_any l c
  have k2 := rright_any m d
  cases h1 : rightL l
  · rw [h1] at k1
    have HF : Hid (joinL (l, c) (m, d) = (7, 4294967295)) := by show _ = _; unfold joinL; simp [h1]
    clear h1
    go_enter Try.func38, Try.ntmps38
    go_wp2_with fail
    refine (k1 _).mono ?_
    rintro e w1 ⟨rfl, hb1⟩
    obtain ⟨⟨x0, x1, y0, y1⟩, ⟨z0, z1, hT⟩, hlt, hB1⟩ := box222 hb1
    have f0 := there_free hT 0 (by decide)
    have f1 := there_free hT 1 (by decide)
    have HT := Lib.hid hT
    clear hb1 hT k1 k2
    go_wp2
    refine bodyPost_ret (results_agg1 rfl _ _ (w.heap.size + 1 + 1) [.int .i64 7, .int .u32 4294967295] (.struct _) rfl (World.rangeAt_setCells_same w1 (w.heap.size + 1 + 1) 0 [.int .i64 7, .int .u32 4294967295] HT.out) Try.underlying34 rfl (by kernel_rfl)) rfl ?_
    exact ⟨by rw [HF.out]; rfl, below_put (below_put hB1 (by omega)) (by omega)⟩
  · rw [h1] at k1
    cases h2 : rightL m
    · rw [h2] at k2
      have HF : Hid (joinL (l, c) (m, d) = (7, 4294967295)) := by show _ = _; unfold joinL; simp [h2]
      clear h1 h2
      go_enter Try.func38, Try.ntmps38
      go_wp2_with fail
      refine (k1 _).mono ?_
      rintro e w1 ⟨rfl, hb1⟩
      obtain ⟨⟨x0, x1, y0, y1⟩, ⟨z0, z1, hT⟩, hlt, hB1⟩ := box222 hb1
      clear hb1 k1
      go_wp2_with fail
      refine (k2 _).mono ?_
      rintro e w2 ⟨rfl, hb2⟩
      have z0' := keep_cell z0 hb2 (by omega)
      have z1' := keep_cell z1 hb2 (by omega)
      have hT2 := there_later hT hb2 (by omega)
      have f0 := there_free hT2 0 (by decide)
      have f1 := there_free hT2 1 (by decide)
      have HT := Lib.hid hT2
      have hB2 := hB1.trans (hb2.mono hB1.size)
      clear hT hT2 x0 x1 y0 y1 z0 z1 hb2 hB1 k2
      go_wp2
      refine bodyPost_ret (results_agg1 rfl _ _ (w.heap.size + 1 + 1) [.int .i64 7, .int .u32 4294967295] (.struct _) rfl (World.rangeAt_setCells_same w2 (w.heap.size + 1 + 1) 0 [.int .i64 7, .int .u32 4294967295] HT.out) Try.underlying34 rfl (by kernel_rfl)) rfl ?_
      exact ⟨by rw [HF.out]; rfl, below_put (below_put hB2 (by omega)) (by omega)⟩
    · rw [h2] at k2
      have HF : Hid (joinL (l, c) (m, d) = (max l m, orN c d)) := by show _ = _; unfold joinL; simp [h1, h2]
      clear h1 h2
      have k3 := fun W => teams_any l c W hc
      have k4 := fun W => teams_any m d W hd
      obtain ⟨i0, hi, hz0, hz1, hz2⟩ := info_parts info_int
      have HC := Lib.hid hc
      have HD := Lib.hid hd
      clear hc hd
      go_enter Try.func38, Try.ntmps38
      go_wp2_with fail
      refine (k1 _).mono ?_
      rintro e w1 ⟨rfl, hb1⟩
      obtain ⟨⟨x0, x1, y0, y1⟩, ⟨z0, z1, hT⟩, hlt, hB1⟩ := box222 hb1
      clear hb1 k1
      go_wp2_with fail
      refine (k2 _).mono ?_
      rintro e w2 ⟨rfl, hb2⟩
      have x0' := keep_cell x0 hb2 (by omega)
      have x1' := keep_cell x1 hb2 (by omega)
      have y0' := keep_cell y0 hb2 (by omega)
      have y1' := keep_cell y1 hb2 (by omega)
      have HZ := Lib.hid (And.intro (keep_cell z0 hb2 (by omega)) (keep_cell z1 hb2 (by omega)))
      have HT := Lib.hid (there_later hT hb2 (by omega))
      have HB2 := Lib.hid (hB1.trans (hb2.mono hB1.size))
      have hlt2 := Nat.lt_of_lt_of_le hlt hb2.size
      have HLT := Lib.hid hlt2
      clear hT x0 x1 y0 y1 z0 z1 hb2 hB1 k2 hlt hlt2
      go_wp2
      go_loopw [5, 6] (fun v i wr => ∃ k : Nat, i = .int .i64 k ∧ k ≤ 32 ∧ wr.ownsRow w2.heap.size 3 1 v (orL c d k).length (((orL c d k).map fun (k : Nat) => (k : Int)).map I) ∧ Below w2.heap.size w2 wr) (fun _ i _ => 32 - (intOf i).toNat)
      case atStart => exact ⟨0, rfl, Nat.zero_le _, World.ownsRow_nil _ _ _ _, Below.refl _ _⟩
      case round =>
        obtain ⟨k, rfl, hk, hown, hbr⟩ := hrel
        have hls := HLT.out
        have X0 := keep_cell x0' hbr (by omega)
        have X1 := keep_cell x1' hbr (by omega)
        have Y0 := keep_cell y0' hbr (by omega)
        have Y1 := keep_cell y1' hbr (by omega)
        by_cases hkl : k < 32
        · have hI : (k : Int) < 32 := by omega
          have hstep := orL_step c d k
          have hlen := orL_len c d k
          have tc := team_is (c := c) hkl
          have td := team_is (c := d) hkl
          have ka : ∀ W v, IntsAt W v (teamsI c 32) → Calls Try.prog 46 #[v, .int .i64 k] W fun e w' => e = .returned (.bool (c.testBit k)) ∧ Below W.heap.size W w' := fun W v h => by
            have := has_any (teamsI c 32) k v W h (by have := teamsI_len c 32; omega)
            rw [tc] at this; exact this
          have kb : ∀ W v, IntsAt W v (teamsI d 32) → Calls Try.prog 46 #[v, .int .i64 k] W fun e w' => e = .returned (.bool (d.testBit k)) ∧ Below W.heap.size W w' := fun W v h => by
            have := has_any (teamsI d 32) k v W h (by have := teamsI_len d 32; omega)
            rw [td] at this; exact this
          have HS := Lib.hid hstep
          have HBR := Lib.hid hbr
          have HO := Lib.hid hown
          obtain ⟨va, vc, rfl, _, _⟩ := RdAt.shape (RdAt.own hown)
          clear tc td hstep hbr hown
          have hxl : w.heap.size + 1 < wr.heap.size := by have := HBR.out.size; omega
          go_wp2_with fail
          refine (k3 _).mono ?_
          rintro e w3 ⟨v3, rfl, hi3, hb3⟩
          obtain ⟨a3, c3, rfl, _, _⟩ := RdAt.shape hi3
          have ka1 := ka w3 _ hi3
          have y0 := keep_cell Y0 hb3 hxl
          have y1 := keep_cell Y1 hb3 hxl
          cases hcb : c.testBit k
          · rw [hcb] at ka1
            clear X0 X1 Y0 Y1
            go_wp2_with fail
            refine ka1.mono ?_
            rintro e w4 ⟨rfl, hb4⟩
            have hb34 := hb3.trans (hb4.mono hb3.size)
            have y0' := keep_cell y0 hb4 (by have := hb3.size; omega)
            have y1' := keep_cell y1 hb4 (by have := hb3.size; omega)
            clear y0 y1 hi3 ka1
            go_wp2_with fail
            refine (k4 _).mono ?_
            rintro e w5 ⟨v5, rfl, hi5, hb5⟩
            obtain ⟨a5, c5, rfl, _, _⟩ := RdAt.shape hi5
            have kb1 := kb w5 _ hi5
            have hb35 := hb34.trans (hb5.mono hb34.size)
            cases hdb : d.testBit k
            · rw [hdb] at kb1
              have HBIT : Hid ((c.testBit k || d.testBit k) = false) := by show _ = _; rw [hcb, hdb]; rfl
              clear y0' y1' hcb hdb
              go_wp2_with fail
              refine kb1.mono ?_
              rintro e w6 ⟨rfl, hb6⟩
              have HBN := Lib.hid (hb35.trans (hb6.mono hb35.size))
              clear hb3 hb4 hb5 hb6 hb34 hb35 hi5 kb1
              go_wp2
              go_roundw
              case rel => exact ⟨k + 1, by go_num, by omega, by rw [HS.out, if_neg (by rw [HBIT.out]; decide), List.append_nil]; exact own_later HO.out HBN.out, HBR.out.trans (HBN.out.mono HBR.out.size)⟩
              case measure => (simp [intOf]; try omega)
            · rw [hdb] at kb1
              have HBIT : Hid ((c.testBit k || d.testBit k) = true) := by show _ = _; rw [hcb, hdb]; rfl
              clear y0' y1' hcb hdb
              go_wp2_with fail
              refine kb1.mono ?_
              rintro e w6 ⟨rfl, hb6⟩
              have HBN := Lib.hid (hb35.trans (hb6.mono hb35.size))
              clear hb3 hb4 hb5 hb6 hb34 hb35 hi5 kb1
              have hb9 := alloc_below w6 (.cells #[I k] 3)
              have hown9 := (own_later HO.out HBN.out).alloc (.cells #[I k] 3)
              go_wp2_with (at_builtin; (refine wpList_append_own _ rfl _ _ 98 rfl w2.heap.size 3 i0 (.int .i64 0) 1 8 Try.underlying98 hi hz0 hz1 hz2 rfl (by decide) _ _ _ rfl hown9 ⟨w6.heap.size, 0, none⟩ 1 1 [I k] rfl rfl (cell_one_new _ _ _) (by simp [Value.oneCell']) (by unfold maxLen; omega) (by omega) (by have := HBR.out.size; have := HBN.out.size; simp; omega) ?_); intro v' w8 hown' hg8 hnil8)
              have hB8 : Below w2.heap.size w2 w8 := ((HBR.out.trans (HBN.out.mono HBR.out.size)).trans (hb9.mono (by have := HBR.out.size; have := HBN.out.size; omega))).grown hg8 (by have := HBR.out.size; have := HBN.out.size; simp; omega) (fun j e => (hown9.lt j e).1)
              go_wp2
              go_roundw
              case rel => exact ⟨k + 1, by go_num, by omega, by rw [HS.out, if_pos HBIT.out]; simpa using hown', hB8⟩
              case measure => (simp [intOf]; try omega)
          · rw [hcb] at ka1
            have HBIT : Hid ((c.testBit k || d.testBit k) = true) := by show _ = _; rw [hcb]; rfl
            clear X0 X1 Y0 Y1 y0 y1 hcb
            go_wp2_with fail
            refine ka1.mono ?_
            rintro e w4 ⟨rfl, hb4⟩
            have HBN := Lib.hid (hb3.trans (hb4.mono hb3.size))
            clear hb3 hb4 hi3 ka1
            have hb9 := alloc_below w4 (.cells #[I k] 3)
            have hown9 := (own_later HO.out HBN.out).alloc (.cells #[I k] 3)
            go_wp2_with (at_builtin; (refine wpList_append_own _ rfl _ _ 98 rfl w2.heap.size 3 i0 (.int .i64 0) 1 8 Try.underlying98 hi hz0 hz1 hz2 rfl (by decide) _ _ _ rfl hown9 ⟨w4.heap.size, 0, none⟩ 1 1 [I k] rfl rfl (cell_one_new _ _ _) (by simp [Value.oneCell']) (by unfold maxLen; omega) (by omega) (by have := HBR.out.size; have := HBN.out.size; simp; omega) ?_); intro v' w8 hown' hg8 hnil8)
            have hB8 : Below w2.heap.size w2 w8 := ((HBR.out.trans (HBN.out.mono HBR.out.size)).trans (hb9.mono (by have := HBR.out.size; have := HBN.out.size; omega))).grown hg8 (by have := HBR.out.size; have := HBN.out.size; simp; omega) (fun j e => (hown9.lt j e).1)
            go_wp2
            go_roundw
            case rel => exact ⟨k + 1, by go_num, by omega, by rw [HS.out, if_pos HBIT.out]; simpa using hown', hB8⟩
            case measure => (simp [intOf]; try omega)
        · obtain rfl : k = 32 := by omega
          obtain ⟨va, vc, rfl, _, _⟩ := RdAt.shape (RdAt.own hown)
          have hii : IntsAt wr (.slice va (orL c d 32).length vc) ((orL c d 32).map fun (k : Nat) => (k : Int)) := by
            have := RdAt.own hown
            unfold IntsAt
            rw [List.length_map]
            exact this
          have hof := rof_any (max l m) (orL c d 32) _ wr hii (fun t ht => orL_lt ht) (by have := orL_len c d 32; omega) (by rw [orL_sum HC.out HD.out]; exact orN_lt c d)
          rw [orL_sum HC.out HD.out] at hof
          have HBR := Lib.hid (HB2.out.trans (hbr.mono HB2.out.size))
          have HT3 := Lib.hid (there_later HT.out hbr HLT.out)
          have HZ3 := Lib.hid (And.intro (keep_cell HZ.out.1 hbr HLT.out) (keep_cell HZ.out.2 hbr HLT.out))
          have HLT3 := Lib.hid (Nat.lt_of_lt_of_le HLT.out hbr.size)
          clear hown hii hbr k3 k4 x0' x1' y0' y1' HT HZ HLT
          rw [show ((32 : Nat) : Int) = 32 from rfl]
          generalize (orL c d 32).length = on at *
          go_wp2_with fail
          refine hof.mono ?_
          rintro e w9 ⟨rfl, hb9⟩
          have z0 := keep_cell HZ3.out.1 hb9 HLT3.out
          have z1 := keep_cell HZ3.out.2 hb9 HLT3.out
          have hT9 := there_later HT3.out hb9 HLT3.out
          have f0 := there_free hT9 0 (by decide)
          have f1 := there_free hT9 1 (by decide)
          have HT9 := Lib.hid hT9
          have HB9 := Lib.hid (HBR.out.trans (hb9.mono HBR.out.size))
          clear hT9 hb9 X0 X1 Y0 Y1 hof
          go_wp2
          refine bodyPost_ret (results_agg1 rfl _ _ (w.heap.size + 1 + 1) [.int .i64 (max l m), .int .u32 (orN c d)] (.struct _) rfl (World.rangeAt_setCells_same w9 (w.heap.size + 1 + 1) 0 [.int .i64 (max l m), .int .u32 (orN c d)] HT9.out) Try.underlying34 rfl (by kernel_rfl)) rfl ?_
          exact ⟨by rw [HF.out], below_put (below_put HB9.out (by omega)) (by omega)⟩
end Go.Proofs.Ytipnhpfpppblhaa
namespace Go.Proofs.Ytipnhpfpppblhaa
open Go.RowKit

def NmdFit (l : List Nmd) : Prop := ∀ x ∈ l, x.2.2 < 4294967296
set_option maxHeartbeats 800000 in
set_option maxRecDepth 100000 in
theorem rfind_any (l : List Nmd) (nm : ByteArray) (v : Value) (w : World) (hv : NmdsAt w v l) (hl : l.length ≤ maxLen) :
    Calls Try.prog 37 #[v, .string nm] w fun e w' => e = .returned (.tuple #[findV (findL l nm), .bool (findL l nm).isSome]) ∧ Below w.heap.size w w' := by
  obtain ⟨a, c, rfl, hc, hr⟩ := RdAt.shape hv
  have HR := Lib.hid hr
  have hl63 : l.length ≤ 9223372036854775807 := by unfold maxLen at hl; omega
  have hb0 := alloc_below w (.cells #[.int .i64 0, .int .u32 0] 34)
  have hd := Below.refl (w.alloc (.cells #[.int .i64 0, .int .u32 0] 34)).heap.size (w.alloc (.cells #[.int .i64 0, .int .u32 0] 34))
  have hT := box_there hd
  obtain ⟨z0, z1, hlt, _⟩ := box2 hd
  have HT := Lib.hid hT
  have HB := Lib.hid hb0
  have HLT := Lib.hid hlt
  clear hr hv hT hd hlt hb0
  go_enter Try.func37, Try.ntmps37
  go_upto_region 2 with fail
  change Code.wp _ _ _ _ (w.alloc (.cells #[.int .i64 0, .int .u32 0] 34))
  generalize w.alloc (.cells #[.int .i64 0, .int .u32 0] 34) = w0 at *
  go_loopw [6] (fun i wr => ∃ k : Nat, i = .int .i64 k ∧ k ≤ l.length ∧ Hid (∀ j (h : j < l.length), j < k → decide (l[j].1 = nm) = false) ∧ wr = w0) (fun i _ => l.length - (intOf i).toNat)
  case atStart => exact ⟨0, rfl, Nat.zero_le _, Lib.hid (fun j h hj => absurd hj (Nat.not_lt_zero _)), rfl⟩
  case round =>
    obtain ⟨k, rfl, hk, HN, hwr⟩ := hrel
    subst hwr
    by_cases hkl : k < l.length
    · obtain ⟨b, o, rfl, hb, hcell⟩ := HR.out (by omega)
      have HC := nmdCells_at l k hkl
      obtain ⟨x, hx⟩ : ∃ x, l[k] = x := ⟨_, rfl⟩
      rw [hx] at HC
      have q : ∀ i v, (nmdC x)[i]? = some v → wr.cell? ⟨b, o + k * 3 + i, none⟩ = some v := fun i v hi => keep_cell (by have := hcell _ _ (HC i v hi); rwa [← Nat.add_assoc] at this) HB.out hb
      have c0 : wr.cell? ⟨b, o + k * 3, none⟩ = some (.string x.1) := q 0 _ rfl
      have c1 : wr.cell? ⟨b, o + k * 3 + 1, none⟩ = some (.int .i64 x.2.1) := q 1 _ rfl
      have c2 : wr.cell? ⟨b, o + k * 3 + 2, none⟩ = some (.int .u32 x.2.2) := q 2 _ rfl
      have HX := Lib.hid hx
      have f0 := there_free HT.out 0 (by decide)
      have f1 := there_free HT.out 1 (by decide)
      clear q HC hcell hx
      by_cases hxn : x.1 = nm
      · have hbq : (x.1.toList == nm.toList) = true := bytes_eq_iff.2 hxn
        have HF : Hid (findL l nm = some x) := by
          show _ = _
          rcases idx_find (fun y : Nmd => decide (y.1 = nm)) default l 0 with ⟨k', hk', _, h2, h3, h4⟩ | ⟨_, _, h3⟩
          · have : k' = k := by
              rcases Nat.lt_trichotomy k' k with h | h | h
              · have := HN.out k' hk' h; rw [this] at h3; cases h3
              · exact h
              · have := h4 k hkl h; rw [HX.out, decide_eq_true hxn] at this; cases this
            subst this
            rw [← HX.out]; exact h2
          · have := h3 k hkl; rw [HX.out, decide_eq_true hxn] at this; cases this
        go_wp2
        refine bodyPost_ret (results_agg2 rfl _ _ w.heap.size [.int .i64 x.2.1, .int .u32 x.2.2] (.struct _) rfl (World.rangeAt_setCells_same wr w.heap.size 0 [.int .i64 x.2.1, .int .u32 x.2.2] HT.out) Try.underlying34 rfl (by kernel_rfl)) rfl ?_
        exact ⟨by rw [HF.out]; rfl, below_put (below_put HB.out (Nat.le_refl _)) (Nat.le_refl _)⟩
      · have hbq : (x.1.toList == nm.toList) = false := by rw [bytes_beq]; exact decide_eq_false hxn
        go_wp2
        go_roundw
        case rel => exact ⟨k + 1, by go_num, by omega, Lib.hid (fun j h hj => by
          rcases Nat.lt_or_ge j k with h' | h'
          · exact HN.out j h h'
          · have : j = k := by omega
            subst this
            rw [HX.out]; exact decide_eq_false hxn), trivial⟩
        case measure => (simp [intOf]; try omega)
    · obtain rfl : k = l.length := by omega
      have HF : Hid (findL l nm = none) := by
        show _ = _
        rcases idx_find (fun y : Nmd => decide (y.1 = nm)) default l 0 with ⟨k', hk', _, h2, h3, h4⟩ | ⟨_, h2, h3⟩
        · have := HN.out k' hk' hk'; rw [this] at h3; cases h3
        · exact h2
      have f0 := there_free HT.out 0 (by decide)
      have f1 := there_free HT.out 1 (by decide)
      go_wp2
      refine bodyPost_ret (results_agg2 rfl _ _ w.heap.size [.int .i64 0, .int .u32 0] (.struct _) rfl (World.rangeAt_setCells_same wr w.heap.size 0 [.int .i64 0, .int .u32 0] HT.out) Try.underlying34 rfl (by kernel_rfl)) rfl ?_
      exact ⟨by rw [HF.out]; rfl, below_put (below_put HB.out (Nat.le_refl _)) (Nat.le_refl _)⟩
set_option maxHeartbeats 1600000 in
set_option maxRecDepth 100000 in
theorem rraised_any (s0 s1 s2 s4 s5 : Option Addr × Nat × Nat) (l : List Nmd) (rv : Value) (nm : ByteArray) (lv : Int) (c : Nat) (w : World) (hv : NmdsAt w rv l) (hl : l.length ≤ maxLen) (hfit : NmdFit l) (hc : c < 4294967296) :
    Calls Try.prog 14 #[.agg #[SV s0, SV s1, SV s2, rv, SV s4, SV s5], .string nm, Lab lv c] w fun e w' => e = .returned (LabP (raisedL l nm (lv, c))) ∧ Below w.heap.size w w' := by
  have k1 := fun W (h : Below w.heap.size w W) => rfind_any l nm rv W (hv.later h) hl
  obtain ⟨ra, rc, rfl, _, _⟩ := RdAt.shape hv
  clear hv
  obtain ⟨a0, n0, c0⟩ := s0
  obtain ⟨a1, n1, c1⟩ := s1
  obtain ⟨a2, n2, c2⟩ := s2
  obtain ⟨a4, n4, c4⟩ := s4
  obtain ⟨a5, n5, c5⟩ := s5
  have hB0 : Below w.heap.size w (((w.alloc (.cells #[.slice a0 n0 c0, .slice a1 n1 c1, .slice a2 n2 c2, .slice ra l.length rc, .slice a4 n4 c4, .slice a5 n5 c5] 26)).alloc (.cells #[.int .i64 lv, .int .u32 c] 34)).alloc (.cells #[.int .i64 0, .int .u32 0] 34)) :=
    ((alloc_below _ _).trans ((alloc_below _ _).mono (by simp))).trans ((alloc_below _ _).mono (by simp; omega))
  have k1 := k1 _ hB0
  cases hf : findL l nm with
  | none =>
    have HF : Hid (raisedL l nm (lv, c) = (lv, c)) := by show _ = _; unfold raisedL; rw [hf]
    rw [hf] at k1
    clear hf hB0
    go_enter Try.func14, Try.ntmps14
    go_wp2_with fail
    refine k1.mono ?_
    rintro e w1 ⟨rfl, hb1⟩
    obtain ⟨⟨x0, x1⟩, ⟨z0, z1, hT⟩, hlt, hB1⟩ := box622 hb1
    have ha := alloc_below w1 (.cells #[.int .i64 0, .int .u32 0] 34)
    have x0' := keep_cell x0 ha (by omega)
    have x1' := keep_cell x1 ha (by omega)
    have z0' := keep_cell z0 ha (by omega)
    have z1' := keep_cell z1 ha (by omega)
    have hT2 := there_later hT ha (by omega)
    have f0 := there_free hT2 0 (by decide)
    have f1 := there_free hT2 1 (by decide)
    have HT := Lib.hid hT2
    have hB2 := Lib.hid (hB1.trans (ha.mono hB1.size))
    clear hb1 hT k1 ha x0 x1 z0 z1 hT2 hB1
    simp only [findV, Option.isSome]
    go_upto_region 2 with fail
    change Code.wp _ _ _ _ (w1.alloc (.cells #[.int .i64 0, .int .u32 0] 34))
    generalize w1.alloc (.cells #[.int .i64 0, .int .u32 0] 34) = w2 at *
    go_wp2
    refine bodyPost_ret (results_agg1 rfl _ _ (w.heap.size + 1 + 1) [.int .i64 lv, .int .u32 c] (.struct _) rfl (World.rangeAt_setCells_same _ (w.heap.size + 1 + 1) 0 [.int .i64 lv, .int .u32 c] HT.out) Try.underlying34 rfl (by kernel_rfl)) rfl ?_
    exact ⟨by rw [HF.out], below_put (below_put hB2.out (by omega)) (by omega)⟩
  | some r =>
    have HF : Hid (raisedL l nm (lv, c) = joinL (lv, c) r.2) := by show _ = _; unfold raisedL; rw [hf]
    rw [hf] at k1
    obtain ⟨rn, rl, rcat⟩ := r
    have hrc : rcat < 4294967296 := hfit _ (List.mem_of_find?_eq_some hf)
    have k2 := fun W => rjoin_any lv c rl rcat W hc hrc
    obtain ⟨jl, hjl⟩ : ∃ z, joinL (lv, c) (rl, rcat) = z := ⟨_, rfl⟩
    obtain ⟨j1, j2⟩ := jl
    simp only [hjl] at k2
    rw [show (rn, rl, rcat).2 = (rl, rcat) from rfl, hjl] at HF
    clear hf hB0 hjl hrc
    go_enter Try.func14, Try.ntmps14
    go_wp2_with fail
    refine k1.mono ?_
    rintro e w1 ⟨rfl, hb1⟩
    obtain ⟨⟨x0, x1⟩, ⟨z0, z1, hT⟩, hlt, hB1⟩ := box622 hb1
    have ha := alloc_below w1 (.cells #[.int .i64 rl, .int .u32 rcat] 34)
    have x0' := keep_cell x0 ha (by omega)
    have x1' := keep_cell x1 ha (by omega)
    have z0' := keep_cell z0 ha (by omega)
    have z1' := keep_cell z1 ha (by omega)
    have hT2 := there_later hT ha (by omega)
    have HT := Lib.hid hT2
    have hB2 := Lib.hid (hB1.trans (ha.mono hB1.size))
    have hlt2 : w.heap.size + 1 + 1 < (w1.alloc (.cells #[.int .i64 rl, .int .u32 rcat] 34)).heap.size := by rw [World.size_alloc]; omega
    have HL2 := Lib.hid hlt2
    clear hb1 hT k1 ha x0 x1 z0 z1 hT2 hB1 hlt2
    simp only [findV, Option.isSome]
    go_upto_region 2 with fail
    change Code.wp _ _ _ _ (w1.alloc (.cells #[.int .i64 rl, .int .u32 rcat] 34))
    have y0 : (w1.alloc (.cells #[.int .i64 rl, .int .u32 rcat] 34)).cell? ⟨w1.heap.size, 0, none⟩ = some (.int .i64 rl) := World.cell?_alloc_at _ _ _ _ rfl
    have y1 : (w1.alloc (.cells #[.int .i64 rl, .int .u32 rcat] 34)).cell? ⟨w1.heap.size, 1, none⟩ = some (.int .u32 rcat) := World.cell?_alloc_at _ _ _ _ rfl
    generalize w1.alloc (.cells #[.int .i64 rl, .int .u32 rcat] 34) = w1' at *
    go_wp2_with fail
    refine (k2 _).mono ?_
    rintro e w2 ⟨rfl, hb2⟩
    have z0 := keep_cell z0' hb2 HL2.out
    have z1 := keep_cell z1' hb2 HL2.out
    have hT3 := there_later HT.out hb2 HL2.out
    have f0 := there_free hT3 0 (by decide)
    have f1 := there_free hT3 1 (by decide)
    have HT3 := Lib.hid hT3
    have hB3 := Lib.hid (hB2.out.trans (hb2.mono hB2.out.size))
    clear x0' x1' y0 y1 z0' z1' HT HL2 hb2 hB2 hT3 k2
    go_wp2
    refine bodyPost_ret (results_agg1 rfl _ _ (w.heap.size + 1 + 1) [.int .i64 j1, .int .u32 j2] (.struct _) rfl (World.rangeAt_setCells_same _ (w.heap.size + 1 + 1) 0 [.int .i64 j1, .int .u32 j2] HT3.out) Try.underlying34 rfl (by kernel_rfl)) rfl ?_
    exact ⟨by rw [HF.out], below_put (below_put hB3.out (by omega)) (by omega)⟩
end Go.Proofs.Ytipnhpfpppblhaa
namespace Go.Proofs.Ytipnhpfpppblhaa
open Go.RowKit

theorem min14 (n : Nat) : ∃ k : Nat, k = min n 14 ∧ k ≤ n ∧ k ≤ 14 ∧ min (n : Int) 14 = (k : Int) := ⟨min n 14, rfl, by omega, by omega, by omega⟩
set_option maxHeartbeats 1600000 in
set_option maxRecDepth 100000 in
theorem rcut_any (a0 a1 a2 a3 a4 a5 : Option Addr) (n0 n1 n2 n3 n4 n5 c0 c1 c2 c3 c4 c5 : Nat) (w : World) (h0 : n0 ≤ c0 ∧ c0 ≤ maxLen) (h1 : n1 ≤ c1 ∧ c1 ≤ maxLen) (h2 : n2 ≤ c2 ∧ c2 ≤ maxLen) (h3 : n3 ≤ c3 ∧ c3 ≤ maxLen) (h4 : n4 ≤ c4 ∧ c4 ≤ maxLen) (h5 : n5 ≤ c5 ∧ c5 ≤ maxLen) :
    Calls Try.prog 7 #[.agg #[.slice a0 n0 c0, .slice a1 n1 c1, .slice a2 n2 c2, .slice a3 n3 c3, .slice a4 n4 c4, .slice a5 n5 c5], .int .i64 14] w fun e w' =>
      e = .returned (.agg #[.slice a0 (min n0 14) c0, .slice a1 (min n1 14) c1, .slice a2 (min n2 14) c2, .slice a3 (min n3 14) c3, .slice a4 (min n4 14) c4, .slice a5 (min n5 14) c5]) ∧ Below w.heap.size w w' := by
  obtain ⟨k0, e0, l0, m0, q0⟩ := min14 n0
  obtain ⟨k1, e1, l1, m1, q1⟩ := min14 n1
  obtain ⟨k2, e2, l2, m2, q2⟩ := min14 n2
  obtain ⟨k3, e3, l3, m3, q3⟩ := min14 n3
  obtain ⟨k4, e4, l4, m4, q4⟩ := min14 n4
  obtain ⟨k5, e5, l5, m5, q5⟩ := min14 n5
  rw [← e0, ← e1, ← e2, ← e3, ← e4, ← e5]
  clear e0 e1 e2 e3 e4 e5
  have z0 : k0 ≤ c0 := by omega
  have z1 : k1 ≤ c1 := by omega
  have z2 : k2 ≤ c2 := by omega
  have z3 : k3 ≤ c3 := by omega
  have z4 : k4 ≤ c4 := by omega
  have z5 : k5 ≤ c5 := by omega
  unfold maxLen at h0 h1 h2 h3 h4 h5
  obtain ⟨W0, hW0⟩ : ∃ z, (w.alloc (.cells #[.slice a0 n0 c0, .slice a1 n1 c1, .slice a2 n2 c2, .slice a3 n3 c3, .slice a4 n4 c4, .slice a5 n5 c5] 26)).alloc (.cells #[.slice none 0 0, .slice none 0 0, .slice none 0 0, .slice none 0 0, .slice none 0 0, .slice none 0 0] 26) = z := ⟨_, rfl⟩
  have hb0 : Below w.heap.size w W0 := by rw [← hW0]; exact (alloc_below _ _).trans ((alloc_below _ _).mono (by simp))
  have hd := (Below.refl W0.heap.size W0)
  rw [← hW0] at hd
  obtain ⟨g1, g2, g3⟩ := box_cells hd
  have hT := box_there hd
  have hT1 : W0.there w.heap.size 0 6 := hW0 ▸ box_there g3
  obtain ⟨g4, _, _⟩ := box_cells g3
  rw [World.size_alloc] at g1 hT
  rw [hW0] at g1 g4 hT
  have p0 := g4 0 _ rfl
  have p1 := g4 1 _ rfl
  have p2 := g4 2 _ rfl
  have p3 := g4 3 _ rfl
  have p4 := g4 4 _ rfl
  have p5 := g4 5 _ rfl
  have r0 := g1 0 _ rfl
  have r1 := g1 1 _ rfl
  have r2 := g1 2 _ rfl
  have r3 := g1 3 _ rfl
  have r4 := g1 4 _ rfl
  have r5 := g1 5 _ rfl
  have f0 := there_free hT 0 (by decide)
  have f1 := there_free hT 1 (by decide)
  have f2 := there_free hT 2 (by decide)
  have f3 := there_free hT 3 (by decide)
  have f4 := there_free hT 4 (by decide)
  have f5 := there_free hT 5 (by decide)
  have u0 := there_free hT1 0 (by decide)
  have u1 := there_free hT1 1 (by decide)
  have u2 := there_free hT1 2 (by decide)
  have u3 := there_free hT1 3 (by decide)
  have u4 := there_free hT1 4 (by decide)
  have u5 := there_free hT1 5 (by decide)
  have HB0 := Lib.hid hb0
  have HT := Lib.hid hT
  have HW0 := Lib.hid hW0
  clear hd g1 g2 g3 g4 hT hT1 hb0 hW0
  go_enter Try.func7, Try.ntmps7
  go_upto_region 1 with fail
  rw [HW0.out]
  clear HW0
  go_wp2
  refine bodyPost_ret (results_agg1 rfl _ _ (w.heap.size + 1) [.slice a0 k0 c0, .slice a1 k1 c1, .slice a2 k2 c2, .slice a3 k3 c3, .slice a4 k4 c4, .slice a5 k5 c5] (.struct _) rfl (World.rangeAt_setCells_same _ (w.heap.size + 1) 0 [.slice a0 k0 c0, .slice a1 k1 c1, .slice a2 k2 c2, .slice a3 k3 c3, .slice a4 k4 c4, .slice a5 k5 c5] ?_) Try.underlying26 rfl (by kernel_rfl)) rfl ?_
  · exact World.there_setCells HT.out w.heap.size 0 [.slice a0 k0 c0, .slice a1 k1 c1, .slice a2 k2 c2, .slice a3 k3 c3, .slice a4 k4 c4, .slice a5 k5 c5]
  · exact ⟨rfl, below_puts (g := w.heap.size + 1) (o := 0) (below_puts (g := w.heap.size) (o := 0) HB0.out (Nat.le_refl _) [.slice a0 k0 c0, .slice a1 k1 c1, .slice a2 k2 c2, .slice a3 k3 c3, .slice a4 k4 c4, .slice a5 k5 c5]) (by omega) [.slice a0 k0 c0, .slice a1 k1 c1, .slice a2 k2 c2, .slice a3 k3 c3, .slice a4 k4 c4, .slice a5 k5 c5]⟩
end Go.Proofs.Ytipnhpfpppblhaa
