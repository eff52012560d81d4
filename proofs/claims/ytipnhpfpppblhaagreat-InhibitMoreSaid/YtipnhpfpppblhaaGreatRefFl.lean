/- lychgateref01: Right, Teams, has, Flows: contracts. -/
import Derived.Test.YtipnhpfpppblhaaGreatInts
import Derived.Test.YtipnhpfpppblhaaGreatLabelB
import Derived.Test.YtipnhpfpppblhaaGreatAppRd
import Derived.Test.YtipnhpfpppblhaaGreatInfoInt
import Derived.Test.YtipnhpfpppblhaaGreatBox
import Derived.Test.YtipnhpfpppblhaaGreatShelf
import Derived.Deep.LoopGhost
import Derived.Test.YtipnhpfpppblhaaGreatHeld
import Derived.Laws.AppendOwn
import Derived.Maps.AppendAt
import Derived.Deep.DeepCutAuto
namespace Go.Proofs.YtipnhpfpppblhaaGreat
open Go.RowKit

set_option maxHeartbeats 400000 in
theorem rright_any (l : Int) (c : Nat) (w : World) :
    Calls Tryz.prog 38 #[Lab l c] w fun e w' => e = .returned (.bool (rightL l)) ∧ Below w.heap.size w w' := by
  rcases (show l < 0 ∨ (0 ≤ l ∧ l ≤ 7) ∨ 7 < l by omega) with h | ⟨h, h'⟩ | h
  all_goals
    go_enter Tryz.func38, Tryz.ntmps38
    go_wp2
    go_ret
    refine ⟨?_, by first | exact Below.refl _ _ | exact bl_drewN (Below.refl _ _) _ | exact ((Below.refl _ _).alloc (Nat.le_refl _) _)⟩
    first
      | rfl
      | (rw [show rightL l = true from decide_eq_true ⟨by omega, by omega⟩]; simp; omega)
      | (rw [show rightL l = false from decide_eq_false (by omega)]; simp; omega)
      | (rw [show rightL l = false from decide_eq_false (by omega)]; rfl)
      | (rw [show rightL l = true from decide_eq_true ⟨by omega, by omega⟩]; rfl)
def teamsI (c n : Nat) : List Int := (teamsN c n).map fun (k : Nat) => (k : Int)
theorem teamsI_step (c k : Nat) : teamsI c (k + 1) = teamsI c k ++ (if c / 2 ^ k % 2 = 1 then [(k : Int)] else []) := by
  unfold teamsI
  rw [teams_step, List.map_append]
  split <;> rfl
theorem teamsN_le (c n : Nat) : (teamsN c n).length ≤ n := by
  have := List.length_filter_le (fun k => c.testBit k) (List.range n)
  rw [List.length_range] at this
  exact this
theorem teamsI_len (c n : Nat) : (teamsI c n).length ≤ n := by unfold teamsI; rw [List.length_map]; exact teamsN_le c n
theorem mem_teamsI {c n : Nat} {k : Nat} : (k : Int) ∈ teamsI c n ↔ k ∈ teamsN c n := by
  unfold teamsI
  rw [List.mem_map]
  constructor
  · rintro ⟨m, hm, h⟩; have : m = k := by exact_mod_cast h
    rwa [← this]
  · intro h; exact ⟨k, h, rfl⟩
set_option maxHeartbeats 1600000 in
set_option maxRecDepth 100000 in
theorem teams_any (l : Int) (c : Nat) (w : World) (hc : c < 4294967296) :
    Calls Tryz.prog 36 #[Lab l c] w fun e w' => ∃ v, e = .returned v ∧ IntsAt w' v (teamsI c 32) ∧ Below w.heap.size w w' := by
  obtain ⟨i0, hi, hz0, hz1, hz2⟩ := info_parts info_int
  go_enter Tryz.func36, Tryz.ntmps36
  go_wp2
  have hb0 := alloc_below w (.cells #[.int .i64 l, .int .u32 c] 36)
  go_loopw [3, 4, 5] (fun v q i wr => ∃ (k r : Nat), i = .int .i64 k ∧ k ≤ 32 ∧ q = .int .u32 r ∧ Hid (r = c / 2 ^ k) ∧ r < 4294967296 ∧ wr.ownsRow w.heap.size 3 1 v (teamsI c k).length ((teamsI c k).map I) ∧ Below w.heap.size w wr) (fun _ _ i _ => 32 - (intOf i).toNat)
  case atStart => exact ⟨0, c, rfl, Nat.zero_le _, rfl, Lib.hid (by simp), hc, World.ownsRow_nil _ _ _ _, hb0⟩
  case round =>
    obtain ⟨k, r, rfl, hk, rfl, HR, hr, hown, hbr⟩ := hrel
    by_cases hkl : k < 32
    · have hI : (k : Int) < 32 := by omega
      have q1 : ((r : Int).tmod 2) = ((r % 2 : Nat) : Int) := by rw [Int.tmod_eq_emod_of_nonneg (by omega)]; omega
      have q2 : ((r : Int).tdiv 2) = ((r / 2 : Nat) : Int) := by rw [Int.tdiv_eq_ediv_of_nonneg (by omega)]; omega
      have q3 : IntKind.u32.wrap ((r / 2 : Nat) : Int) = ((r / 2 : Nat) : Int) := by rw [IntKind.wrap_u32']; omega
      have hstep := teamsI_step c k
      rw [← HR.out] at hstep
      have hlen := teamsI_len c k
      have hnx : Hid (r / 2 = c / 2 ^ (k + 1)) := by show _ = _; rw [HR.out, Nat.div_div_eq_div_mul, Nat.pow_succ]
      have hr2 : r / 2 < 4294967296 := by omega
      have HS := Lib.hid hstep
      have HI := Lib.hid hI
      clear hstep HR
      by_cases hodd : r % 2 = 1
      · have q4 : ((r % 2 : Nat) : Int) = 1 := by omega
        rw [q4] at q1
        clear q4
        have HOD := Lib.hid hodd
        clear hodd
        have hb1 := alloc_below wr (.cells #[I k] 3)
        have hown1 := hown.alloc (.cells #[I k] 3)
        go_wp2_with (at_builtin; (refine wpList_append_own _ rfl _ _ 38 rfl w.heap.size 3 i0 (.int .i64 0) 1 8 Tryz.underlying38 hi hz0 hz1 hz2 rfl (by decide) _ _ _ rfl hown1 ⟨wr.heap.size, 0, none⟩ 1 1 [I k] rfl rfl (cell_one_new _ _ _) (by simp [Value.oneCell']) (by unfold maxLen; omega) (by omega) (by have := hbr.size; simp; omega) ?_); intro v' w3 hown' hg3 hnil3)
        have hB3 : Below w.heap.size w w3 := (hbr.trans (hb1.mono hbr.size)).grown hg3 (by have := hbr.size; simp; omega) (fun j e => (hown1.lt j e).1)
        go_wp2
        go_roundw
        case rel => exact ⟨k + 1, r / 2, by go_num, by omega, by go_num, hnx, hr2, by rw [HS.out, if_pos HOD.out]; simpa using hown', hB3⟩
        case measure => (simp [intOf]; try omega)
      · have q4 : ((r % 2 : Nat) : Int) = 0 := by omega
        rw [q4] at q1
        clear q4
        have HOD := Lib.hid hodd
        clear hodd
        go_wp2
        go_roundw
        case rel => exact ⟨k + 1, r / 2, by go_num, by omega, by go_num, hnx, hr2, by rw [HS.out, if_neg HOD.out, List.append_nil]; exact hown, hbr⟩
        case measure => (simp [intOf]; try omega)
    · obtain rfl : k = 32 := by omega
      have hI : ¬ (((32 : Nat) : Int) < 32) := by decide
      rw [show ((32 : Nat) : Int) = 32 from rfl]
      go_wp2
      go_ret
      exact ⟨_, rfl, RdAt.own hown, hbr⟩
set_option maxHeartbeats 800000 in
theorem has_any (xs : List Int) (k : Int) (v : Value) (w : World) (hv : IntsAt w v xs) (hl : xs.length ≤ 1000) :
    Calls Tryz.prog 37 #[v, .int .i64 k] w fun e w' => e = .returned (.bool (decide (k ∈ xs))) ∧ Below w.heap.size w w' := by
  obtain ⟨a, c, rfl, hc, hr⟩ := RdAt.shape hv
  have HR := Lib.hid hr
  clear hr hv
  go_enter Tryz.func37, Tryz.ntmps37
  go_wp2
  go_loopw [5] (fun i wr => ∃ j : Nat, i = .int .i64 j ∧ j ≤ xs.length ∧ Hid (k ∉ xs.take j) ∧ Below w.heap.size w wr) (fun i _ => xs.length - (intOf i).toNat)
  case atStart => exact ⟨0, rfl, Nat.zero_le _, Lib.hid (by simp), Below.refl _ _⟩
  case round =>
    obtain ⟨j, rfl, hj, HN, hbr⟩ := hrel
    by_cases hjl : j < xs.length
    · obtain ⟨b, o, rfl, hb, hcell⟩ := HR.out (by omega)
      obtain ⟨x, hx⟩ : ∃ x, xs[j] = x := ⟨_, rfl⟩
      have hc0 : wr.cell? ⟨b, o + j, none⟩ = some (.int .i64 x) := keep_cell (hcell j _ (by rw [List.getElem?_map, List.getElem?_eq_getElem hjl, hx]; rfl)) hbr hb
      have HX := Lib.hid hx
      clear hcell hx
      by_cases hxk : x = k
      · subst hxk
        go_wp2
        go_ret
        exact ⟨by rw [decide_eq_true (by rw [← HX.out]; exact List.getElem_mem hjl)]; rfl, hbr⟩
      · have hz : (x == k) = false := by rw [beq_eq_false_iff_ne]; exact hxk
        go_wp2
        go_roundw
        case rel => exact ⟨j + 1, by go_num, by omega, Lib.hid (by
          rw [List.take_succ_eq_append_getElem hjl, List.mem_append, HX.out]
          rintro (h | h)
          · exact HN.out h
          · exact hxk (List.mem_singleton.1 h).symm), hbr⟩
        case measure => (simp [intOf]; try omega)
    · obtain rfl : j = xs.length := by omega
      have hn := HN.out
      rw [List.take_length] at hn
      go_wp2
      go_ret
      exact ⟨by rw [decide_eq_false hn]; rfl, hbr⟩
theorem flowsL_eq (l : Int) (c : Nat) (m : Int) (d : Nat) : flowsL l c m d = (subB c d && (rightL l && rightL m && decide (l ≤ m))) := by
  unfold flowsL
  cases subB c d <;> simp
theorem sub_not {c d k : Nat} (hk : k ∈ teamsN c 32) (hn : k ∉ teamsN d 32) : subB c d = false := by
  rw [Bool.eq_false_iff]
  intro h
  exact hn (sub_iff.1 h k hk)
set_option maxHeartbeats 1600000 in
set_option maxRecDepth 100000 in
theorem rflows_any (l : Int) (c : Nat) (m : Int) (d : Nat) (w : World) (hc : c < 4294967296) (hd : d < 4294967296) :
    Calls Tryz.prog 19 #[Lab l c, Lab m d] w fun e w' => e = .returned (.bool (flowsL l c m d)) ∧ Below w.heap.size w w' := by
  have k1 := fun W => teams_any l c W hc
  have k2 := fun W => teams_any m d W hd
  have k3 := rright_any l c
  have k4 := rright_any m d
  go_enter Tryz.func19, Tryz.ntmps19
  go_wp2_with fail
  refine (k1 _).mono ?_
  rintro e w1 ⟨v1, rfl, hi1, hb1⟩
  obtain ⟨x0, x1, y0, y1, hlt, hB⟩ := box22 hb1
  obtain ⟨a, ac, rfl, hac, har⟩ := RdAt.shape hi1
  have HI := Lib.hid hi1
  have HAR := Lib.hid har
  have hlen : (teamsI c 32).length ≤ 32 := teamsI_len c 32
  have HL := Lib.hid hlt
  clear hb1 k1 har hi1 hlt
  go_wp2
  go_loopw [6] (fun i wr => ∃ k : Nat, i = .int .i64 k ∧ k ≤ (teamsI c 32).length ∧ Hid (∀ j (h : j < (teamsI c 32).length), j < k → (teamsI c 32)[j] ∈ teamsI d 32) ∧ Below w1.heap.size w1 wr) (fun i _ => (teamsI c 32).length - (intOf i).toNat)
  case atStart => exact ⟨0, rfl, Nat.zero_le _, Lib.hid (fun j h hj => absurd hj (Nat.not_lt_zero _)), Below.refl _ _⟩
  case round =>
    obtain ⟨k, rfl, hk, HA, hbr⟩ := hrel
    have HBr := Lib.hid (hB.trans (hbr.mono hB.size))
    have X0 := keep_cell x0 hbr (by have := HL.out; omega)
    have X1 := keep_cell x1 hbr (by have := HL.out; omega)
    have Y0 := keep_cell y0 hbr HL.out
    have Y1 := keep_cell y1 hbr HL.out
    by_cases hkl : k < (teamsI c 32).length
    · obtain ⟨b, o, rfl, hb, hcell⟩ := HAR.out (by omega)
      obtain ⟨x, hx⟩ : ∃ x, (teamsI c 32)[k] = x := ⟨_, rfl⟩
      have hcr : wr.cell? ⟨b, o + k, none⟩ = some (.int .i64 x) := keep_cell (hcell k _ (by rw [List.getElem?_map, List.getElem?_eq_getElem hkl, hx]; rfl)) hbr hb
      have HX := Lib.hid hx
      obtain ⟨q, hq⟩ : ∃ q, decide (x ∈ teamsI d 32) = q := ⟨_, rfl⟩
      have k5 : ∀ W v, IntsAt W v (teamsI d 32) → Calls Tryz.prog 37 #[v, .int .i64 x] W fun e w' => e = .returned (.bool q) ∧ Below W.heap.size W w' := fun W v h => by
        have := has_any (teamsI d 32) x v W h (by have := teamsI_len d 32; omega)
        rw [hq] at this
        exact this
      have HQ := Lib.hid hq
      have hYl : w.heap.size + 1 < wr.heap.size := Nat.lt_of_lt_of_le HL.out hbr.size
      have hbl : b < wr.heap.size := Nat.lt_of_lt_of_le hb hbr.size
      have HBR := Lib.hid hbr
      clear hcell hx x0 x1 X0 X1 y0 y1 hq hbr hB
      go_upto_region 5 with fail
      refine wp_region_held_drew (S := (fun W => W.cell? ⟨w.heap.size + 1, 0, none⟩ = some (.int .i64 m) ∧ W.cell? ⟨w.heap.size + 1, 1, none⟩ = some (.int .u32 d) ∧ W.cell? ⟨b, o + k, none⟩ = some (.int .i64 x))) (by kernel_rfl) ⟨Y0, Y1, hcr⟩ (fun hHeld => ?_)
      refine held_take (i := 0) (v := ?_) rfl rfl (by kernel_rfl) (by kernel_rfl) (by kernel_rfl) (fun _ _ _ h => h) (by rfl) hHeld ?_ ?_
      rotate_left
      · rintro wh ⟨z0, z1, z2⟩
        go_simp
        (try with_reducible rfl)
      simp only [Act.put, List.setIfInBounds_toArray, List.set_cons_zero, List.set_cons_succ]
      refine held_take (i := 2) (v := ?_) rfl rfl (by kernel_rfl) (by kernel_rfl) (by kernel_rfl) (fun _ _ _ h => h) (by rfl) hHeld ?_ ?_
      rotate_left
      · rintro wh ⟨z0, z1, z2⟩
        go_simp
        (try with_reducible rfl)
      simp only [Act.put, List.setIfInBounds_toArray, List.set_cons_zero, List.set_cons_succ]
      refine held_take (i := 3) (v := ?_) rfl rfl (by kernel_rfl) (by kernel_rfl) (by kernel_rfl) (fun _ _ _ h => h) (by rfl) hHeld ?_ ?_
      rotate_left
      · rintro wh ⟨z0, z1, z2⟩
        go_simp
        (try with_reducible rfl)
      simp only [Act.put, List.setIfInBounds_toArray, List.set_cons_zero, List.set_cons_succ]
      refine held_take (i := 4) (v := ?_) rfl rfl (by kernel_rfl) (by kernel_rfl) (by kernel_rfl) (fun _ _ _ h => h) (by rfl) hHeld ?_ ?_
      rotate_left
      · rintro wh ⟨z0, z1, z2⟩
        go_simp
        (try with_reducible rfl)
      simp only [Act.put, List.setIfInBounds_toArray, List.set_cons_zero, List.set_cons_succ]
      refine held_take (i := 5) (v := ?_) rfl rfl (by kernel_rfl) (by kernel_rfl) (by kernel_rfl) (fun _ _ _ h => h) (by rfl) hHeld ?_ ?_
      rotate_left
      · rintro wh ⟨z0, z1, z2⟩
        go_simp
        (try with_reducible rfl)
      simp only [Act.put, List.setIfInBounds_toArray, List.set_cons_zero, List.set_cons_succ]
      refine held_call (i := 1) rfl (by kernel_rfl) (by rfl) (fun K hK => ?_)
      (go_simp; go_at_call 36; refine (k2 _).mono ?_; rintro e w3 ⟨v3, rfl, hi3, hb3⟩; have hb3' : Below wr.heap.size wr w3 := ((Below.refl _ wr).drew).trans hb3; obtain ⟨a3, c3, rfl, _, _⟩ := RdAt.shape hi3)
      refine hK.out _ _ ⟨keep_cell Y0 hb3' hYl, keep_cell Y1 hb3' hYl, keep_cell hcr hb3' hbl⟩ (fun hHeld => ?_)
      clear hK K
      (try simp only [Act.put, List.setIfInBounds_toArray, List.set_cons_zero, List.set_cons_succ])
      refine held_call (i := 6) rfl (by kernel_rfl) (by rfl) (fun K hK => ?_)
      (go_simp; go_at_call 37; refine (k5 _ _ hi3).mono ?_; rintro e w4 ⟨rfl, hb4⟩; have hb34 := hb3'.trans (hb4.mono hb3'.size))
      refine hK.out _ _ ⟨keep_cell Y0 hb34 hYl, keep_cell Y1 hb34 hYl, keep_cell hcr hb34 hbl⟩ (fun hHeld => ?_)
      clear hK K
      (try simp only [Act.put, List.setIfInBounds_toArray, List.set_cons_zero, List.set_cons_succ])
      refine held_take (i := 7) (v := ?_) rfl rfl (by kernel_rfl) (by kernel_rfl) (by kernel_rfl) (fun _ _ _ h => h) (by rfl) hHeld ?_ ?_
      rotate_left
      · rintro wh ⟨z0, z1, z2⟩
        go_simp
        (try with_reducible rfl)
      simp only [Act.put, List.setIfInBounds_toArray, List.set_cons_zero, List.set_cons_succ]
      refine wpAnyH_done (by kernel_rfl) ?_ _
      have hB4 := HBR.out.trans (hb34.mono HBR.out.size)
      cases q
      · have hn : x ∉ teamsI d 32 := of_decide_eq_false HQ.out
        have hf : flowsL l c m d = false := by
          have hm := List.getElem_mem hkl
          rw [HX.out] at hm
          unfold teamsI at hm
          obtain ⟨t, ht, rfl⟩ := List.mem_map.1 hm
          rw [flowsL_eq, sub_not ht (fun h => hn (mem_teamsI.2 h))]; rfl
        have HF := Lib.hid hf
        clear hf hn
        go_wp2
        go_ret
        exact ⟨by rw [HF.out]; rfl, HBr.out.trans (hb34.mono HBr.out.size)⟩
      · go_wp2
        go_roundw
        case rel => exact ⟨k + 1, by go_num, by omega, Lib.hid (fun j h hj => by
          rcases Nat.lt_or_ge j k with h' | h'
          · exact HA.out j h h'
          · have : j = k := by omega
            subst this
            rw [HX.out]; exact of_decide_eq_true HQ.out), hB4⟩
        case measure => (simp [intOf]; try omega)
    · obtain rfl : k = (teamsI c 32).length := by omega
      have hsub : subB c d = true := sub_iff.2 (fun t ht => by
        have hm := mem_teamsI.2 ht
        obtain ⟨j, hj, hjt⟩ := List.getElem_of_mem hm
        have := HA.out j hj hj
        rw [hjt] at this
        exact mem_teamsI.1 this)
      have HF : Hid (flowsL l c m d = (rightL l && rightL m && decide (l ≤ m))) := by show _ = _; rw [flowsL_eq, hsub, Bool.true_and]
      have hYl : w.heap.size + 1 < wr.heap.size := Nat.lt_of_lt_of_le HL.out hbr.size
      clear hsub HA k2 x0 x1 y0 y1 hB hbr
      cases h1 : rightL l
      · rw [h1] at k3 HF
        clear h1
        go_wp2_with fail
        refine (k3 _).mono ?_
        rintro e w5 ⟨rfl, hb5⟩
        go_wp2
        go_ret
        exact ⟨by rw [HF.out]; rfl, HBr.out.trans (hb5.mono HBr.out.size)⟩
      · rw [h1] at k3 HF
        clear h1
        cases h2 : rightL m
        · rw [h2] at k4 HF
          clear h2
          go_wp2_with fail
          refine (k3 _).mono ?_
          rintro e w5 ⟨rfl, hb5⟩
          have y0 := keep_cell Y0 hb5 hYl
          have y1 := keep_cell Y1 hb5 hYl
          clear Y0 Y1 X0 X1 k3
          go_wp2_with fail
          refine (k4 _).mono ?_
          rintro e w6 ⟨rfl, hb6⟩
          have HB6 := Lib.hid (HBr.out.trans ((hb5.trans (hb6.mono hb5.size)).mono HBr.out.size))
          clear hb5 hb6 y0 y1 k4
          go_wp2
          go_ret
          exact ⟨by rw [HF.out]; rfl, HB6.out⟩
        · rw [h2] at k4 HF
          clear h2
          obtain ⟨q, hq⟩ : ∃ q, decide (l ≤ m) = q := ⟨_, rfl⟩
          have HF2 : Hid (flowsL l c m d = q) := by show _ = _; rw [HF.out, hq]; simp
          clear HF
          go_wp2_with fail
          refine (k3 _).mono ?_
          rintro e w5 ⟨rfl, hb5⟩
          have z0 := keep_cell X0 hb5 (by omega)
          have z1 := keep_cell X1 hb5 (by omega)
          have y0 := keep_cell Y0 hb5 hYl
          have y1 := keep_cell Y1 hb5 hYl
          have hl5 := Nat.lt_of_lt_of_le hYl hb5.size
          clear Y0 Y1 X0 X1 k3
          go_wp2_with fail
          refine (k4 _).mono ?_
          rintro e w6 ⟨rfl, hb6⟩
          have HB6 := Lib.hid (HBr.out.trans ((hb5.trans (hb6.mono hb5.size)).mono HBr.out.size))
          have z0' := keep_cell z0 hb6 (by omega)
          have z1' := keep_cell z1 hb6 (by omega)
          have y0' := keep_cell y0 hb6 hl5
          have y1' := keep_cell y1 hb6 hl5
          clear hb5 hb6 y0 y1 k4 z0 z1
          go_wp2
          go_ret
          exact ⟨by rw [HF2.out]; first | rfl | (rw [hq]; rfl) | (simp [hq]), HB6.out⟩
end Go.Proofs.YtipnhpfpppblhaaGreat
