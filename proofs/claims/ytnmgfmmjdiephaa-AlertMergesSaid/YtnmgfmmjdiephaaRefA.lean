/- Several parts in one: lychgateref01: Right, Teams, has, of: contracts. lychgateref01.of, Flows, Join: contracts. lychgateref01.Join: a contract. lychgateref08: Find, Raised: contracts. lychgateref08.Visible: a contract. -/
import Derived.Test.YtnmgfmmjdiephaaInts
import Derived.Test.YtnmgfmmjdiephaaLabelLaw
import Derived.Test.YtnmgfmmjdiephaaAlPol
import Derived.Test.YtnmgfmmjdiephaaAppRd
import Derived.Laws.AppendOwn
import Derived.Maps.AppendAt
import Derived.Deep.DeepCutAuto
import Derived.Test.YtnmgfmmjdiephaaAlRaise
import Derived.Test.YtnmgfmmjdiephaaHeld
import Derived.Test.YtnmgfmmjdiephaaApPlain
import Derived.Test.YtnmgfmmjdiephaaAlDel2
namespace Go.Proofs.Ytnmgfmmjdiephaa
open Go.RowKit

theorem info_int : (Try.prog.info? 3).map (fun i => (i.zero, i.size, i.bytes)) = some (some (.int .i64 0), 1, 8) := by kernel_rfl
set_option maxHeartbeats 400000 in
theorem rright_any (l : Int) (c : Nat) (w : World) :
    Calls Try.prog 27 #[Lab l c] w fun e w' => e = .returned (.bool (rightL l)) ∧ Below w.heap.size w w' := by
  rcases (show l < 0 ∨ (0 ≤ l ∧ l ≤ 7) ∨ 7 < l by omega) with h | ⟨h, h'⟩ | h
  all_goals
    go_enter Try.func27, Try.ntmps27
    go_wp2
    go_ret
    refine ⟨?_, by first | exact Below.refl _ _ | exact bl_drewN (Below.refl _ _) _ | exact ((Below.refl _ _).alloc (Nat.le_refl _) _)⟩
    first
      | rfl
      | (rw [show rightL l = true from decide_eq_true ⟨by omega, by omega⟩]; simp; omega)
      | (rw [show rightL l = false from decide_eq_false (by omega)]; simp; omega)
      | (rw [show rightL l = false from decide_eq_false (by omega)]; rfl)
      | (rw [show rightL l = true from decide_eq_true ⟨by omega, by omega⟩]; rfl)
def teamsI (c n : Nat) : List Int := (teamsN c n).map fun (k : Nat) => (k : Int)
theorem teamsI_step (c k : Nat) : teamsI c (k + 1) = teamsI c k ++ (if c / 2 ^ k % 2 = 1 then [(k : Int)] else []) := by
  unfold teamsI
  rw [teams_step, List.map_append]
  split <;> rfl
theorem teamsN_le (c n : Nat) : (teamsN c n).length ≤ n := by
  have := List.length_filter_le (fun k => c.testBit k) (List.range n)
  rw [List.length_range] at this
  exact this
theorem teamsI_len (c n : Nat) : (teamsI c n).length ≤ n := by unfold teamsI; rw [List.length_map]; exact teamsN_le c n
theorem mem_teamsI {c n : Nat} {k : Nat} : (k : Int) ∈ teamsI c n ↔ k ∈ teamsN c n := by
  unfold teamsI
  rw [List.mem_map]
  constructor
  · rintro ⟨m, hm, h⟩; have : m = k := by exact_mod_cast h
    rwa [← this]
  · intro h; exact ⟨k, h, rfl⟩
set_option maxHeartbeats 1600000 in
set_option maxRecDepth 100000 in
theorem teams_any (l : Int) (c : Nat) (w : World) (hc : c < 4294967296) :
    Calls Try.prog 56 #[Lab l c] w fun e w' => ∃ v, e = .returned v ∧ IntsAt w' v (teamsI c 32) ∧ Below w.heap.size w w' := by
  obtain ⟨i0, hi, hz0, hz1, hz2⟩ := info_parts info_int
  go_enter Try.func56, Try.ntmps56
  go_wp2
  have hb0 := alloc_below w (.cells #[.int .i64 l, .int .u32 c] 30)
  go_loopw [3, 4, 5] (fun v q i wr => ∃ (k r : Nat), i = .int .i64 k ∧ k ≤ 32 ∧ q = .int .u32 r ∧ Hid (r = c / 2 ^ k) ∧ r < 4294967296 ∧ wr.ownsRow w.heap.size 3 1 v (teamsI c k).length ((teamsI c k).map I) ∧ Below w.heap.size w wr) (fun _ _ i _ => 32 - (intOf i).toNat)
  case atStart => exact ⟨0, c, rfl, Nat.zero_le _, rfl, Lib.hid (by simp), hc, World.ownsRow_nil _ _ _ _, hb0⟩
  case round =>
    obtain ⟨k, r, rfl, hk, rfl, HR, hr, hown, hbr⟩ := hrel
    by_cases hkl : k < 32
    · have hI : (k : Int) < 32 := by omega
      have q1 : ((r : Int).tmod 2) = ((r % 2 : Nat) : Int) := by rw [Int.tmod_eq_emod_of_nonneg (by omega)]; omega
      have q2 : ((r : Int).tdiv 2) = ((r / 2 : Nat) : Int) := by rw [Int.tdiv_eq_ediv_of_nonneg (by omega)]; omega
      have q3 : IntKind.u32.wrap ((r / 2 : Nat) : Int) = ((r / 2 : Nat) : Int) := by rw [IntKind.wrap_u32']; omega
      have hstep := teamsI_step c k
      rw [← HR.out] at hstep
      have hlen := teamsI_len c k
      have hnx : Hid (r / 2 = c / 2 ^ (k + 1)) := by show _ = _; rw [HR.out, Nat.div_div_eq_div_mul, Nat.pow_succ]
      have hr2 : r / 2 < 4294967296 := by omega
      have HS := Lib.hid hstep
      have HI := Lib.hid hI
      clear hstep HR
      by_cases hodd : r % 2 = 1
      · have q4 : ((r % 2 : Nat) : Int) = 1 := by omega
        rw [q4] at q1
        clear q4
        have HOD := Lib.hid hodd
        clear hodd
        have hb1 := alloc_below wr (.cells #[I k] 3)
        have hown1 := hown.alloc (.cells #[I k] 3)
        go_wp2_with (at_builtin; (refine wpList_append_own _ rfl _ _ 105 rfl w.heap.size 3 i0 (.int .i64 0) 1 8 Try.underlying105 hi hz0 hz1 hz2 rfl (by decide) _ _ _ rfl hown1 ⟨wr.heap.size, 0, none⟩ 1 1 [I k] rfl rfl (cell_one_new _ _ _) (by simp [Value.oneCell']) (by unfold maxLen; omega) (by omega) (by have := hbr.size; simp; omega) ?_); intro v' w3 hown' hg3 hnil3)
        have hB3 : Below w.heap.size w w3 := (hbr.trans (hb1.mono hbr.size)).grown hg3 (by have := hbr.size; simp; omega) (fun j e => (hown1.lt j e).1)
        go_wp2
        go_roundw
        case rel => exact ⟨k + 1, r / 2, by go_num, by omega, by go_num, hnx, hr2, by rw [HS.out, if_pos HOD.out]; simpa using hown', hB3⟩
        case measure => (simp [intOf]; try omega)
      · have q4 : ((r % 2 : Nat) : Int) = 0 := by omega
        rw [q4] at q1
        clear q4
        have HOD := Lib.hid hodd
        clear hodd
        go_wp2
        go_roundw
        case rel => exact ⟨k + 1, r / 2, by go_num, by omega, by go_num, hnx, hr2, by rw [HS.out, if_neg HOD.out, List.append_nil]; exact hown, hbr⟩
        case measure => (simp [intOf]; try omega)
    · obtain rfl : k = 32 := by omega
      have hI : ¬ (((32 : Nat) : Int) < 32) := by decide
      rw [show ((32 : Nat) : Int) = 32 from rfl]
      go_wp2
      go_ret
      exact ⟨_, rfl, RdAt.own hown, hbr⟩
set_option maxHeartbeats 800000 in
theorem has_any (xs : List Int) (k : Int) (v : Value) (w : World) (hv : IntsAt w v xs) (hl : xs.length ≤ 1000) :
    Calls Try.prog 57 #[v, .int .i64 k] w fun e w' => e = .returned (.bool (decide (k ∈ xs))) ∧ Below w.heap.size w w' := by
  obtain ⟨a, c, rfl, hc, hr⟩ := RdAt.shape hv
  have HR := Lib.hid hr
  clear hr hv
  go_enter Try.func57, Try.ntmps57
  go_wp2
  go_loopw [5] (fun i wr => ∃ j : Nat, i = .int .i64 j ∧ j ≤ xs.length ∧ Hid (k ∉ xs.take j) ∧ Below w.heap.size w wr) (fun i _ => xs.length - (intOf i).toNat)
  case atStart => exact ⟨0, rfl, Nat.zero_le _, Lib.hid (by simp), Below.refl _ _⟩
  case round =>
    obtain ⟨j, rfl, hj, HN, hbr⟩ := hrel
    by_cases hjl : j < xs.length
    · obtain ⟨b, o, rfl, hb, hcell⟩ := HR.out (by omega)
      obtain ⟨x, hx⟩ : ∃ x, xs[j] = x := ⟨_, rfl⟩
      have hc0 : wr.cell? ⟨b, o + j, none⟩ = some (.int .i64 x) := keep_cell (hcell j _ (by rw [List.getElem?_map, List.getElem?_eq_getElem hjl, hx]; rfl)) hbr hb
      have HX := Lib.hid hx
      clear hcell hx
      by_cases hxk : x = k
      · subst hxk
        go_wp2
        go_ret
        exact ⟨by rw [decide_eq_true (by rw [← HX.out]; exact List.getElem_mem hjl)]; rfl, hbr⟩
      · have hz : (x == k) = false := by rw [beq_eq_false_iff_ne]; exact hxk
        go_wp2
        go_roundw
        case rel => exact ⟨j + 1, by go_num, by omega, Lib.hid (by
          rw [List.take_succ_eq_append_getElem hjl, List.mem_append, HX.out]
          rintro (h | h)
          · exact HN.out h
          · exact hxk (List.mem_singleton.1 h).symm), hbr⟩
        case measure => (simp [intOf]; try omega)
    · obtain rfl : j = xs.length := by omega
      have hn := HN.out
      rw [List.take_length] at hn
      go_wp2
      go_ret
      exact ⟨by rw [decide_eq_false hn]; rfl, hbr⟩
end Go.Proofs.Ytnmgfmmjdiephaa
namespace Go.Proofs.Ytnmgfmmjdiephaa
open Go.RowKit

theorem sum_take_le : ∀ (ts : List Nat) (k : Nat), sumN (ts.take k) ≤ sumN ts := by
  have h : ∀ (ts : List Nat) (a b : Nat), a ≤ b → ts.foldl (fun a k => a + 2 ^ k) a ≤ ts.foldl (fun a k => a + 2 ^ k) b := by
    intro ts
    induction ts with
    | nil => intro a b h; exact h
    | cons t ts ih => intro a b h; exact ih _ _ (Nat.add_le_add_right h _)
  have h2 : ∀ (ts : List Nat) (a k : Nat), (ts.take k).foldl (fun a k => a + 2 ^ k) a ≤ ts.foldl (fun a k => a + 2 ^ k) a := by
    intro ts
    induction ts with
    | nil => intro a k; simp
    | cons t ts ih =>
      intro a k
      cases k with
      | zero =>
        rw [List.take_zero, List.foldl_nil, List.foldl_cons]
        have h3 := ih (a + 2 ^ t) 0
        rw [List.take_zero, List.foldl_nil] at h3
        exact Nat.le_trans (Nat.le_add_right a (2 ^ t)) h3
      | succ k => rw [List.take_succ_cons, List.foldl_cons, List.foldl_cons]; exact ih _ _
  exact fun ts k => h2 ts 0 k
set_option maxHeartbeats 1600000 in
set_option maxRecDepth 100000 in
theorem rof_any (lv : Int) (ts : List Nat) (v : Value) (w : World) (hv : IntsAt w v (ts.map fun (k : Nat) => (k : Int))) (ht : ∀ t ∈ ts, t < 32) (hl : ts.length ≤ 1000) (hs : sumN ts < 4294967296) :
    Calls Try.prog 58 #[.int .i64 lv, v] w fun e w' => e = .returned (Lab lv (sumN ts)) ∧ Below w.heap.size w w' := by
  obtain ⟨a, c, rfl, hc, hr⟩ := RdAt.shape hv
  rw [List.length_map] at hc hr ⊢
  have HR := Lib.hid hr
  obtain ⟨W0, hW0⟩ : ∃ z, (w.alloc (.cells #[.int .i64 0, .int .u32 0] 30)).alloc (.cells #[.int .i64 lv, .int .u32 0] 30) = z := ⟨_, rfl⟩
  have hb0 : Below w.heap.size w W0 := by rw [← hW0]; exact (alloc_below _ _).trans ((alloc_below _ _).mono (by simp))
  have hd := Below.refl W0.heap.size W0
  rw [← hW0] at hd
  have hT1 := box_there hd
  obtain ⟨y0, y1, z0, z1, hlt, _⟩ := box22 hd
  obtain ⟨h1, h2, h3⟩ := box_cells hd
  have hT0 := box_there h3
  rw [World.size_alloc] at hT1
  rw [hW0] at hT1 hT0 y0 y1 z0 z1 hlt
  have HT0 := Lib.hid hT0
  have HT1 := Lib.hid hT1
  have HB0 := Lib.hid hb0
  have HY := Lib.hid (And.intro y0 y1)
  have HW0 := Lib.hid hW0
  clear hd h1 h2 h3 hr hv hT0 hT1 hb0 y0 y1 hlt hW0
  go_enter Try.func58, Try.ntmps58
  go_upto_region 2 with fail
  rw [HW0.out]
  clear HW0
  go_wp2
  go_loopw [6] (fun i wr => ∃ (k s : Nat), i = .int .i64 k ∧ k ≤ ts.length ∧ Hid (s = sumN (ts.take k)) ∧ wr.cell? ⟨w.heap.size + 1, 0, none⟩ = some (.int .i64 lv) ∧ wr.cell? ⟨w.heap.size + 1, 1, none⟩ = some (.int .u32 s) ∧ Hid (wr.cell? ⟨w.heap.size, 0, none⟩ = some (.int .i64 0) ∧ wr.cell? ⟨w.heap.size, 1, none⟩ = some (.int .u32 0)) ∧ Hid (wr.there w.heap.size 0 2) ∧ Hid (wr.there (w.heap.size + 1) 0 2) ∧ Hid (Below w.heap.size w wr)) (fun i _ => ts.length - (intOf i).toNat)
  case atStart => exact ⟨0, 0, rfl, Nat.zero_le _, Lib.hid (by simp [sumN]), z0, z1, HY, HT0, HT1, HB0⟩
  case round =>
    clear HT0 HT1 HB0 HY
    obtain ⟨k, s, rfl, hk, HS, z0, z1, HY, HT0, HT1, HB⟩ := hrel
    by_cases hkl : k < ts.length
    · obtain ⟨b, o, rfl, hb, hcell⟩ := HR.out (by omega)
      obtain ⟨t, htk⟩ : ∃ t, ts[k] = t := ⟨_, rfl⟩
      have hcr : wr.cell? ⟨b, o + k, none⟩ = some (.int .i64 t) := keep_cell (hcell k _ (by rw [List.map_map, List.getElem?_map, List.getElem?_eq_getElem hkl, htk]; rfl)) HB.out hb
      have ht32 : t < 32 := by rw [← htk]; exact ht _ (List.getElem_mem hkl)
      have hnext : sumN (ts.take (k + 1)) = s + 2 ^ t := by rw [List.take_succ_eq_append_getElem hkl, sumN_snoc, htk, HS.out]
      have hle := sum_take_le ts (k + 1)
      rw [hnext] at hle
      obtain ⟨p, hp⟩ : ∃ p, 2 ^ t = p := ⟨_, rfl⟩
      have HN : Hid (sumN (ts.take (k + 1)) = s + p) := by rw [hp] at hnext; exact hnext
      have HP := Lib.hid hp
      have hsp : s + p < 4294967296 := by rw [hp] at hle; omega
      clear hcell htk hnext hle hp HS
      go_wp2
      go_loopw [7, 8] (fun q j wx => ∃ (m r : Nat), j = .int .i64 m ∧ m ≤ t ∧ q = .int .u32 r ∧ Hid (r = 2 ^ m) ∧ wx = wr) (fun _ j _ => t - (intOf j).toNat)
      case atStart => exact ⟨0, 1, rfl, Nat.zero_le _, rfl, Lib.hid rfl, rfl⟩
      case round =>
        obtain ⟨m, r, rfl, hm, rfl, HRm, hwx⟩ := hrel
        subst hwx
        by_cases hmt : m < t
        · have hI : (m : Int) < (t : Int) := by omega
          have hr2 : r * 2 < 4294967296 := by
            have e : r * 2 = 2 ^ (m + 1) := by rw [HRm.out, Nat.pow_succ]
            have := Nat.pow_le_pow_right (n := 2) (by decide) (show m + 1 ≤ 31 by omega)
            omega
          have q1 : IntKind.u32.wrap ((r : Int) * 2) = ((r * 2 : Nat) : Int) := by rw [IntKind.wrap_u32']; omega
          have HR2 : Hid (r * 2 = 2 ^ (m + 1)) := by show _ = _; rw [HRm.out, Nat.pow_succ]
          generalize r * 2 = r2 at *
          go_wp2
          go_roundw
          case rel => exact ⟨m + 1, r2, by go_num, by omega, rfl, HR2, trivial⟩
          case measure => (simp [intOf]; try omega)
        · obtain rfl : m = t := by omega
          have q1 : IntKind.u32.wrap ((s : Int) + (r : Int)) = ((s + p : Nat) : Int) := by
            rw [HRm.out, HP.out, IntKind.wrap_u32']; omega
          have f1 := there_free HT1.out 1 (by decide)
          generalize s + p = s2 at *
          go_wp2
          go_roundw
          case rel =>
            refine ⟨k + 1, s2, by go_num, by omega, Lib.hid HN.out.symm, ?_, ?_, ?_, ?_, ?_, ?_⟩
            · rw [World.cell?_setCell_other _ _ _ _ (by simp)]; exact z0
            · exact World.cell?_setCell_same' _ _ _ (by rw [z1]; rfl)
            · exact Lib.hid ⟨by rw [World.cell?_setCell_other _ _ _ _ (by simp)]; exact HY.out.1, by rw [World.cell?_setCell_other _ _ _ _ (by simp)]; exact HY.out.2⟩
            · exact Lib.hid (World.there_setCells HT0.out (w.heap.size + 1) 1 [.int .u32 s2])
            · exact Lib.hid (World.there_setCells HT1.out (w.heap.size + 1) 1 [.int .u32 s2])
            · exact Lib.hid (below_put HB.out (by omega))
          case measure => (simp [intOf]; try omega)
    · obtain rfl : k = ts.length := by omega
      obtain ⟨y0, y1⟩ := HY.out
      have f0 := there_free HT0.out 0 (by decide)
      have f1 := there_free HT0.out 1 (by decide)
      have hss : s = sumN ts := by have := HS.out; rwa [List.take_length] at this
      have HSS := Lib.hid hss
      clear hss
      go_wp2
      refine bodyPost_ret (results_agg1 rfl _ _ w.heap.size [.int .i64 lv, .int .u32 s] (.struct _) rfl (World.rangeAt_setCells_same wr w.heap.size 0 [.int .i64 lv, .int .u32 s] HT0.out) Try.underlying30 rfl (by kernel_rfl)) rfl ?_
      exact ⟨by rw [← HSS.out], below_put (below_put HB.out (by omega)) (by omega)⟩
theorem flowsL_eq (l : Int) (c : Nat) (m : Int) (d : Nat) : flowsL l c m d = (subB c d && (rightL l && rightL m && decide (l ≤ m))) := by
  unfold flowsL
  cases subB c d <;> simp
theorem sub_not {c d k : Nat} (hk : k ∈ teamsN c 32) (hn : k ∉ teamsN d 32) : subB c d = false := by
  rw [Bool.eq_false_iff]
  intro h
  exact hn (sub_iff.1 h k hk)
set_option maxHeartbeats 1600000 in
set_option maxRecDepth 100000 in
theorem rflows_any (l : Int) (c : Nat) (m : Int) (d : Nat) (w : World) (hc : c < 4294967296) (hd : d < 4294967296) :
    Calls Try.prog 28 #[Lab l c, Lab m d] w fun e w' => e = .returned (.bool (flowsL l c m d)) ∧ Below w.heap.size w w' := by
  have k1 := fun W => teams_any l c W hc
  have k2 := fun W => teams_any m d W hd
  have k3 := rright_any l c
  have k4 := rright_any m d
  go_enter Try.func28, Try.ntmps28
  go_wp2_with fail
  refine (k1 _).mono ?_
  rintro e w1 ⟨v1, rfl, hi1, hb1⟩
  obtain ⟨x0, x1, y0, y1, hlt, hB⟩ := box22 hb1
  obtain ⟨a, ac, rfl, hac, har⟩ := RdAt.shape hi1
  have HI := Lib.hid hi1
  have HAR := Lib.hid har
  have hlen : (teamsI c 32).length ≤ 32 := teamsI_len c 32
  have HL := Lib.hid hlt
  clear hb1 k1 har hi1 hlt
  go_wp2
  go_loopw [6] (fun i wr => ∃ k : Nat, i = .int .i64 k ∧ k ≤ (teamsI c 32).length ∧ Hid (∀ j (h : j < (teamsI c 32).length), j < k → (teamsI c 32)[j] ∈ teamsI d 32) ∧ Below w1.heap.size w1 wr) (fun i _ => (teamsI c 32).length - (intOf i).toNat)
  case atStart => exact ⟨0, rfl, Nat.zero_le _, Lib.hid (fun j h hj => absurd hj (Nat.not_lt_zero _)), Below.refl _ _⟩
  case round =>
    obtain ⟨k, rfl, hk, HA, hbr⟩ := hrel
    have HBr := Lib.hid (hB.trans (hbr.mono hB.size))
    have X0 := keep_cell x0 hbr (by have := HL.out; omega)
    have X1 := keep_cell x1 hbr (by have := HL.out; omega)
    have Y0 := keep_cell y0 hbr HL.out
    have Y1 := keep_cell y1 hbr HL.out
    by_cases hkl : k < (teamsI c 32).length
    · obtain ⟨b, o, rfl, hb, hcell⟩ := HAR.out (by omega)
      obtain ⟨x, hx⟩ : ∃ x, (teamsI c 32)[k] = x := ⟨_, rfl⟩
      have hcr : wr.cell? ⟨b, o + k, none⟩ = some (.int .i64 x) := keep_cell (hcell k _ (by rw [List.getElem?_map, List.getElem?_eq_getElem hkl, hx]; rfl)) hbr hb
      have HX := Lib.hid hx
      obtain ⟨q, hq⟩ : ∃ q, decide (x ∈ teamsI d 32) = q := ⟨_, rfl⟩
      have k5 : ∀ W v, IntsAt W v (teamsI d 32) → Calls Try.prog 57 #[v, .int .i64 x] W fun e w' => e = .returned (.bool q) ∧ Below W.heap.size W w' := fun W v h => by
        have := has_any (teamsI d 32) x v W h (by have := teamsI_len d 32; omega)
        rw [hq] at this
        exact this
      have HQ := Lib.hid hq
      have hYl : w.heap.size + 1 < wr.heap.size := Nat.lt_of_lt_of_le HL.out hbr.size
      have hbl : b < wr.heap.size := Nat.lt_of_lt_of_le hb hbr.size
      have HBR := Lib.hid hbr
      clear hcell hx x0 x1 X0 X1 y0 y1 hq hbr hB
      go_upto_region 5 with fail
      refine wp_region_held_drew (S := (fun W => W.cell? ⟨w.heap.size + 1, 0, none⟩ = some (.int .i64 m) ∧ W.cell? ⟨w.heap.size + 1, 1, none⟩ = some (.int .u32 d) ∧ W.cell? ⟨b, o + k, none⟩ = some (.int .i64 x))) (by kernel_rfl) ⟨Y0, Y1, hcr⟩ (fun hHeld => ?_)
      refine held_take (i := 0) (v := ?_) rfl rfl (by kernel_rfl) (by kernel_rfl) (by kernel_rfl) (fun _ _ _ h => h) (by rfl) hHeld ?_ ?_
      rotate_left
      · rintro wh ⟨z0, z1, z2⟩
        go_simp
        (try with_reducible rfl)
      simp only [Act.put, List.setIfInBounds_toArray, List.set_cons_zero, List.set_cons_succ]
      refine held_take (i := 2) (v := ?_) rfl rfl (by kernel_rfl) (by kernel_rfl) (by kernel_rfl) (fun _ _ _ h => h) (by rfl) hHeld ?_ ?_
      rotate_left
      · rintro wh ⟨z0, z1, z2⟩
        go_simp
        (try with_reducible rfl)
      simp only [Act.put, List.setIfInBounds_toArray, List.set_cons_zero, List.set_cons_succ]
      refine held_take (i := 3) (v := ?_) rfl rfl (by kernel_rfl) (by kernel_rfl) (by kernel_rfl) (fun _ _ _ h => h) (by rfl) hHeld ?_ ?_
      rotate_left
      · rintro wh ⟨z0, z1, z2⟩
        go_simp
        (try with_reducible rfl)
      simp only [Act.put, List.setIfInBounds_toArray, List.set_cons_zero, List.set_cons_succ]
      refine held_take (i := 4) (v := ?_) rfl rfl (by kernel_rfl) (by kernel_rfl) (by kernel_rfl) (fun _ _ _ h => h) (by rfl) hHeld ?_ ?_
      rotate_left
      · rintro wh ⟨z0, z1, z2⟩
        go_simp
        (try with_reducible rfl)
      simp only [Act.put, List.setIfInBounds_toArray, List.set_cons_zero, List.set_cons_succ]
      refine held_take (i := 5) (v := ?_) rfl rfl (by kernel_rfl) (by kernel_rfl) (by kernel_rfl) (fun _ _ _ h => h) (by rfl) hHeld ?_ ?_
      rotate_left
      · rintro wh ⟨z0, z1, z2⟩
        go_simp
        (try with_reducible rfl)
      simp only [Act.put, List.setIfInBounds_toArray, List.set_cons_zero, List.set_cons_succ]
      refine held_call (i := 1) rfl (by kernel_rfl) (by rfl) (fun K hK => ?_)
      (go_simp; go_at_call 56; refine (k2 _).mono ?_; rintro e w3 ⟨v3, rfl, hi3, hb3⟩; have hb3' : Below wr.heap.size wr w3 := ((Below.refl _ wr).drew).trans hb3; obtain ⟨a3, c3, rfl, _, _⟩ := RdAt.shape hi3)
      refine hK.out _ _ ⟨keep_cell Y0 hb3' hYl, keep_cell Y1 hb3' hYl, keep_cell hcr hb3' hbl⟩ (fun hHeld => ?_)
      clear hK K
      (try simp only [Act.put, List.setIfInBounds_toArray, List.set_cons_zero, List.set_cons_succ])
      refine held_call (i := 6) rfl (by kernel_rfl) (by rfl) (fun K hK => ?_)
      (go_simp; go_at_call 57; refine (k5 _ _ hi3).mono ?_; rintro e w4 ⟨rfl, hb4⟩; have hb34 := hb3'.trans (hb4.mono hb3'.size))
      refine hK.out _ _ ⟨keep_cell Y0 hb34 hYl, keep_cell Y1 hb34 hYl, keep_cell hcr hb34 hbl⟩ (fun hHeld => ?_)
      clear hK K
      (try simp only [Act.put, List.setIfInBounds_toArray, List.set_cons_zero, List.set_cons_succ])
      refine held_take (i := 7) (v := ?_) rfl rfl (by kernel_rfl) (by kernel_rfl) (by kernel_rfl) (fun _ _ _ h => h) (by rfl) hHeld ?_ ?_
      rotate_left
      · rintro wh ⟨z0, z1, z2⟩
        go_simp
        (try with_reducible rfl)
      simp only [Act.put, List.setIfInBounds_toArray, List.set_cons_zero, List.set_cons_succ]
      refine wpAnyH_done (by kernel_rfl) ?_ _
      have hB4 := HBR.out.trans (hb34.mono HBR.out.size)
      cases q
      · have hn : x ∉ teamsI d 32 := of_decide_eq_false HQ.out
        have hf : flowsL l c m d = false := by
          have hm := List.getElem_mem hkl
          rw [HX.out] at hm
          unfold teamsI at hm
          obtain ⟨t, ht, rfl⟩ := List.mem_map.1 hm
          rw [flowsL_eq, sub_not ht (fun h => hn (mem_teamsI.2 h))]; rfl
        have HF := Lib.hid hf
        clear hf hn
        go_wp2
        go_ret
        exact ⟨by rw [HF.out]; rfl, HBr.out.trans (hb34.mono HBr.out.size)⟩
      · go_wp2
        go_roundw
        case rel => exact ⟨k + 1, by go_num, by omega, Lib.hid (fun j h hj => by
          rcases Nat.lt_or_ge j k with h' | h'
          · exact HA.out j h h'
          · have : j = k := by omega
            subst this
            rw [HX.out]; exact of_decide_eq_true HQ.out), hB4⟩
        case measure => (simp [intOf]; try omega)
    · obtain rfl : k = (teamsI c 32).length := by omega
      have hsub : subB c d = true := sub_iff.2 (fun t ht => by
        have hm := mem_teamsI.2 ht
        obtain ⟨j, hj, hjt⟩ := List.getElem_of_mem hm
        have := HA.out j hj hj
        rw [hjt] at this
        exact mem_teamsI.1 this)
      have HF : Hid (flowsL l c m d = (rightL l && rightL m && decide (l ≤ m))) := by show _ = _; rw [flowsL_eq, hsub, Bool.true_and]
      have hYl : w.heap.size + 1 < wr.heap.size := Nat.lt_of_lt_of_le HL.out hbr.size
      clear hsub HA k2 x0 x1 y0 y1 hB hbr
      cases h1 : rightL l
      · rw [h1] at k3 HF
        clear h1
        go_wp2_with fail
        refine (k3 _).mono ?_
        rintro e w5 ⟨rfl, hb5⟩
        go_wp2
        go_ret
        exact ⟨by rw [HF.out]; rfl, HBr.out.trans (hb5.mono HBr.out.size)⟩
      · rw [h1] at k3 HF
        clear h1
        cases h2 : rightL m
        · rw [h2] at k4 HF
          clear h2
          go_wp2_with fail
          refine (k3 _).mono ?_
          rintro e w5 ⟨rfl, hb5⟩
          have y0 := keep_cell Y0 hb5 hYl
          have y1 := keep_cell Y1 hb5 hYl
          clear Y0 Y1 X0 X1 k3
          go_wp2_with fail
          refine (k4 _).mono ?_
          rintro e w6 ⟨rfl, hb6⟩
          have HB6 := Lib.hid (HBr.out.trans ((hb5.trans (hb6.mono hb5.size)).mono HBr.out.size))
          clear hb5 hb6 y0 y1 k4
          go_wp2
          go_ret
          exact ⟨by rw [HF.out]; rfl, HB6.out⟩
        · rw [h2] at k4 HF
          clear h2
          obtain ⟨q, hq⟩ : ∃ q, decide (l ≤ m) = q := ⟨_, rfl⟩
          have HF2 : Hid (flowsL l c m d = q) := by show _ = _; rw [HF.out, hq]; simp
          clear HF
          go_wp2_with fail
          refine (k3 _).mono ?_
          rintro e w5 ⟨rfl, hb5⟩
          have z0 := keep_cell X0 hb5 (by omega)
          have z1 := keep_cell X1 hb5 (by omega)
          have y0 := keep_cell Y0 hb5 hYl
          have y1 := keep_cell Y1 hb5 hYl
          have hl5 := Nat.lt_of_lt_of_le hYl hb5.size
          clear Y0 Y1 X0 X1 k3
          go_wp2_with fail
          refine (k4 _).mono ?_
          rintro e w6 ⟨rfl, hb6⟩
          have HB6 := Lib.hid (HBr.out.trans ((hb5.trans (hb6.mono hb5.size)).mono HBr.out.size))
          have z0' := keep_cell z0 hb6 (by omega)
          have z1' := keep_cell z1 hb6 (by omega)
          have y0' := keep_cell y0 hb6 hl5
          have y1' := keep_cell y1 hb6 hl5
          clear hb5 hb6 y0 y1 k4 z0 z1
          go_wp2
          go_ret
          exact ⟨by rw [HF2.out]; first | rfl | (rw [hq]; rfl) | (simp [hq]), HB6.out⟩
end Go.Proofs.Ytnmgfmmjdiephaa
namespace Go.Proofs.Ytnmgfmmjdiephaa
open Go.RowKit

def orL (c d n : Nat) : List Nat := (List.range n).filter fun k => c.testBit k || d.testBit k
theorem orL_step (c d k : Nat) : orL c d (k + 1) = orL c d k ++ (if c.testBit k || d.testBit k then [k] else []) := by
  unfold orL
  rw [List.range_succ, List.filter_append]
  congr 1
  cases h : (c.testBit k || d.testBit k) <;> simp [h]
theorem orL_len (c d n : Nat) : (orL c d n).length ≤ n := by
  have := List.length_filter_le (fun k => c.testBit k || d.testBit k) (List.range n)
  rw [List.length_range] at this
  exact this
theorem orL_lt {c d n k : Nat} (h : k ∈ orL c d n) : k < n := List.mem_range.1 (List.mem_filter.1 h).1
theorem orL_sum {c d : Nat} (hc : c < 4294967296) (hd : d < 4294967296) : sumN (orL c d 32) = orN c d := by
  have h1 : sumN (orL c d 32) = c ||| d := teams_or (by omega) (by omega)
  rw [h1]
  unfold orN
  rw [BitVec.toNat_or, BitVec.toNat_ofNat, BitVec.toNat_ofNat, Nat.mod_eq_of_lt (by omega), Nat.mod_eq_of_lt (by omega)]
theorem team_is {c k : Nat} (hk : k < 32) : decide ((k : Int) ∈ teamsI c 32) = c.testBit k := by
  rw [Bool.eq_iff_iff, decide_eq_true_eq, mem_teamsI, mem_teams]
  exact ⟨fun h => h.2, fun h => ⟨hk, h⟩⟩
set_option maxHeartbeats 1600000 in
set_option maxRecDepth 100000 in
theorem rjoin_any (l : Int) (c : Nat) (m : Int) (d : Nat) (w : World) (hc : c < 4294967296) (hd : d < 4294967296) :
    Calls Try.prog 48 #[Lab l c, Lab m d] w fun e w' => e = .returned (LabP (joinL (l, c) (m, d))) ∧ Below w.heap.size w w' := by
  have k1 := rright_any l c
  have k2 := rright_any m d
  cases h1 : rightL l
  · rw [h1] at k1
    have HF : Hid (joinL (l, c) (m, d) = (7, 4294967295)) := by show _ = _; unfold joinL; simp [h1]
    clear h1
    go_enter Try.func48, Try.ntmps48
    go_wp2_with fail
    refine (k1 _).mono ?_
    rintro e w1 ⟨rfl, hb1⟩
    obtain ⟨⟨x0, x1, y0, y1⟩, ⟨z0, z1, hT⟩, hlt, hB1⟩ := box222 hb1
    have f0 := there_free hT 0 (by decide)
    have f1 := there_free hT 1 (by decide)
    have HT := Lib.hid hT
    clear hb1 hT k1 k2
    go_wp2
    refine bodyPost_ret (results_agg1 rfl _ _ (w.heap.size + 1 + 1) [.int .i64 7, .int .u32 4294967295] (.struct _) rfl (World.rangeAt_setCells_same w1 (w.heap.size + 1 + 1) 0 [.int .i64 7, .int .u32 4294967295] HT.out) Try.underlying30 rfl (by kernel_rfl)) rfl ?_
    exact ⟨by rw [HF.out]; rfl, below_put (below_put hB1 (by omega)) (by omega)⟩
  · rw [h1] at k1
    cases h2 : rightL m
    · rw [h2] at k2
      have HF : Hid (joinL (l, c) (m, d) = (7, 4294967295)) := by show _ = _; unfold joinL; simp [h2]
      clear h1 h2
      go_enter Try.func48, Try.ntmps48
      go_wp2_with fail
      refine (k1 _).mono ?_
      rintro e w1 ⟨rfl, hb1⟩
      obtain ⟨⟨x0, x1, y0, y1⟩, ⟨z0, z1, hT⟩, hlt, hB1⟩ := box222 hb1
      clear hb1 k1
      go_wp2_with fail
      refine (k2 _).mono ?_
      rintro e w2 ⟨rfl, hb2⟩
      have z0' := keep_cell z0 hb2 (by omega)
      have z1' := keep_cell z1 hb2 (by omega)
      have hT2 := there_later hT hb2 (by omega)
      have f0 := there_free hT2 0 (by decide)
      have f1 := there_free hT2 1 (by decide)
      have HT := Lib.hid hT2
      have hB2 := hB1.trans (hb2.mono hB1.size)
      clear hT hT2 x0 x1 y0 y1 z0 z1 hb2 hB1 k2
      go_wp2
      refine bodyPost_ret (results_agg1 rfl _ _ (w.heap.size + 1 + 1) [.int .i64 7, .int .u32 4294967295] (.struct _) rfl (World.rangeAt_setCells_same w2 (w.heap.size + 1 + 1) 0 [.int .i64 7, .int .u32 4294967295] HT.out) Try.underlying30 rfl (by kernel_rfl)) rfl ?_
      exact ⟨by rw [HF.out]; rfl, below_put (below_put hB2 (by omega)) (by omega)⟩
    · rw [h2] at k2
      have HF : Hid (joinL (l, c) (m, d) = (max l m, orN c d)) := by show _ = _; unfold joinL; simp [h1, h2]
      clear h1 h2
      have k3 := fun W => teams_any l c W hc
      have k4 := fun W => teams_any m d W hd
      obtain ⟨i0, hi, hz0, hz1, hz2⟩ := info_parts info_int
      have HC := Lib.hid hc
      have HD := Lib.hid hd
      clear hc hd
      go_enter Try.func48, Try.ntmps48
      go_wp2_with fail
      refine (k1 _).mono ?_
      rintro e w1 ⟨rfl, hb1⟩
      obtain ⟨⟨x0, x1, y0, y1⟩, ⟨z0, z1, hT⟩, hlt, hB1⟩ := box222 hb1
      clear hb1 k1
      go_wp2_with fail
      refine (k2 _).mono ?_
      rintro e w2 ⟨rfl, hb2⟩
      have x0' := keep_cell x0 hb2 (by omega)
      have x1' := keep_cell x1 hb2 (by omega)
      have y0' := keep_cell y0 hb2 (by omega)
      have y1' := keep_cell y1 hb2 (by omega)
      have HZ := Lib.hid (And.intro (keep_cell z0 hb2 (by omega)) (keep_cell z1 hb2 (by omega)))
      have HT := Lib.hid (there_later hT hb2 (by omega))
      have HB2 := Lib.hid (hB1.trans (hb2.mono hB1.size))
      have hlt2 := Nat.lt_of_lt_of_le hlt hb2.size
      have HLT := Lib.hid hlt2
      clear hT x0 x1 y0 y1 z0 z1 hb2 hB1 k2 hlt hlt2
      go_wp2
      go_loopw [5, 6] (fun v i wr => ∃ k : Nat, i = .int .i64 k ∧ k ≤ 32 ∧ wr.ownsRow w2.heap.size 3 1 v (orL c d k).length (((orL c d k).map fun (k : Nat) => (k : Int)).map I) ∧ Below w2.heap.size w2 wr) (fun _ i _ => 32 - (intOf i).toNat)
      case atStart => exact ⟨0, rfl, Nat.zero_le _, World.ownsRow_nil _ _ _ _, Below.refl _ _⟩
      case round =>
        obtain ⟨k, rfl, hk, hown, hbr⟩ := hrel
        have hls := HLT.out
        have X0 := keep_cell x0' hbr (by omega)
        have X1 := keep_cell x1' hbr (by omega)
        have Y0 := keep_cell y0' hbr (by omega)
        have Y1 := keep_cell y1' hbr (by omega)
        by_cases hkl : k < 32
        · have hI : (k : Int) < 32 := by omega
          have hstep := orL_step c d k
          have hlen := orL_len c d k
          have tc := team_is (c := c) hkl
          have td := team_is (c := d) hkl
          have ka : ∀ W v, IntsAt W v (teamsI c 32) → Calls Try.prog 57 #[v, .int .i64 k] W fun e w' => e = .returned (.bool (c.testBit k)) ∧ Below W.heap.size W w' := fun W v h => by
            have := has_any (teamsI c 32) k v W h (by have := teamsI_len c 32; omega)
            rw [tc] at this; exact this
          have kb : ∀ W v, IntsAt W v (teamsI d 32) → Calls Try.prog 57 #[v, .int .i64 k] W fun e w' => e = .returned (.bool (d.testBit k)) ∧ Below W.heap.size W w' := fun W v h => by
            have := has_any (teamsI d 32) k v W h (by have := teamsI_len d 32; omega)
            rw [td] at this; exact this
          have HS := Lib.hid hstep
          have HBR := Lib.hid hbr
          have HO := Lib.hid hown
          obtain ⟨va, vc, rfl, _, _⟩ := RdAt.shape (RdAt.own hown)
          clear tc td hstep hbr hown
          have hxl : w.heap.size + 1 < wr.heap.size := by have := HBR.out.size; omega
          go_wp2_with fail
          refine (k3 _).mono ?_
          rintro e w3 ⟨v3, rfl, hi3, hb3⟩
          obtain ⟨a3, c3, rfl, _, _⟩ := RdAt.shape hi3
          have ka1 := ka w3 _ hi3
          have y0 := keep_cell Y0 hb3 hxl
          have y1 := keep_cell Y1 hb3 hxl
          cases hcb : c.testBit k
          · rw [hcb] at ka1
            clear X0 X1 Y0 Y1
            go_wp2_with fail
            refine ka1.mono ?_
            rintro e w4 ⟨rfl, hb4⟩
            have hb34 := hb3.trans (hb4.mono hb3.size)
            have y0' := keep_cell y0 hb4 (by have := hb3.size; omega)
            have y1' := keep_cell y1 hb4 (by have := hb3.size; omega)
            clear y0 y1 hi3 ka1
            go_wp2_with fail
            refine (k4 _).mono ?_
            rintro e w5 ⟨v5, rfl, hi5, hb5⟩
            obtain ⟨a5, c5, rfl, _, _⟩ := RdAt.shape hi5
            have kb1 := kb w5 _ hi5
            have hb35 := hb34.trans (hb5.mono hb34.size)
            cases hdb : d.testBit k
            · rw [hdb] at kb1
              have HBIT : Hid ((c.testBit k || d.testBit k) = false) := by show _ = _; rw [hcb, hdb]; rfl
              clear y0' y1' hcb hdb
              go_wp2_with fail
              refine kb1.mono ?_
              rintro e w6 ⟨rfl, hb6⟩
              have HBN := Lib.hid (hb35.trans (hb6.mono hb35.size))
              clear hb3 hb4 hb5 hb6 hb34 hb35 hi5 kb1
              go_wp2
              go_roundw
              case rel => exact ⟨k + 1, by go_num, by omega, by rw [HS.out, if_neg (by rw [HBIT.out]; decide), List.append_nil]; exact own_later HO.out HBN.out, HBR.out.trans (HBN.out.mono HBR.out.size)⟩
              case measure => (simp [intOf]; try omega)
            · rw [hdb] at kb1
              have HBIT : Hid ((c.testBit k || d.testBit k) = true) := by show _ = _; rw [hcb, hdb]; rfl
              clear y0' y1' hcb hdb
              go_wp2_with fail
              refine kb1.mono ?_
              rintro e w6 ⟨rfl, hb6⟩
              have HBN := Lib.hid (hb35.trans (hb6.mono hb35.size))
              clear hb3 hb4 hb5 hb6 hb34 hb35 hi5 kb1
              have hb9 := alloc_below w6 (.cells #[I k] 3)
              have hown9 := (own_later HO.out HBN.out).alloc (.cells #[I k] 3)
              go_wp2_with (at_builtin; (refine wpList_append_own _ rfl _ _ 105 rfl w2.heap.size 3 i0 (.int .i64 0) 1 8 Try.underlying105 hi hz0 hz1 hz2 rfl (by decide) _ _ _ rfl hown9 ⟨w6.heap.size, 0, none⟩ 1 1 [I k] rfl rfl (cell_one_new _ _ _) (by simp [Value.oneCell']) (by unfold maxLen; omega) (by omega) (by have := HBR.out.size; have := HBN.out.size; simp; omega) ?_); intro v' w8 hown' hg8 hnil8)
              have hB8 : Below w2.heap.size w2 w8 := ((HBR.out.trans (HBN.out.mono HBR.out.size)).trans (hb9.mono (by have := HBR.out.size; have := HBN.out.size; omega))).grown hg8 (by have := HBR.out.size; have := HBN.out.size; simp; omega) (fun j e => (hown9.lt j e).1)
              go_wp2
              go_roundw
              case rel => exact ⟨k + 1, by go_num, by omega, by rw [HS.out, if_pos HBIT.out]; simpa using hown', hB8⟩
              case measure => (simp [intOf]; try omega)
          · rw [hcb] at ka1
            have HBIT : Hid ((c.testBit k || d.testBit k) = true) := by show _ = _; rw [hcb]; rfl
            clear X0 X1 Y0 Y1 y0 y1 hcb
            go_wp2_with fail
            refine ka1.mono ?_
            rintro e w4 ⟨rfl, hb4⟩
            have HBN := Lib.hid (hb3.trans (hb4.mono hb3.size))
            clear hb3 hb4 hi3 ka1
            have hb9 := alloc_below w4 (.cells #[I k] 3)
            have hown9 := (own_later HO.out HBN.out).alloc (.cells #[I k] 3)
            go_wp2_with (at_builtin; (refine wpList_append_own _ rfl _ _ 105 rfl w2.heap.size 3 i0 (.int .i64 0) 1 8 Try.underlying105 hi hz0 hz1 hz2 rfl (by decide) _ _ _ rfl hown9 ⟨w4.heap.size, 0, none⟩ 1 1 [I k] rfl rfl (cell_one_new _ _ _) (by simp [Value.oneCell']) (by unfold maxLen; omega) (by omega) (by have := HBR.out.size; have := HBN.out.size; simp; omega) ?_); intro v' w8 hown' hg8 hnil8)
            have hB8 : Below w2.heap.size w2 w8 := ((HBR.out.trans (HBN.out.mono HBR.out.size)).trans (hb9.mono (by have := HBR.out.size; have := HBN.out.size; omega))).grown hg8 (by have := HBR.out.size; have := HBN.out.size; simp; omega) (fun j e => (hown9.lt j e).1)
            go_wp2
            go_roundw
            case rel => exact ⟨k + 1, by go_num, by omega, by rw [HS.out, if_pos HBIT.out]; simpa using hown', hB8⟩
            case measure => (simp [intOf]; try omega)
        · obtain rfl : k = 32 := by omega
          obtain ⟨va, vc, rfl, _, _⟩ := RdAt.shape (RdAt.own hown)
          have hii : IntsAt wr (.slice va (orL c d 32).length vc) ((orL c d 32).map fun (k : Nat) => (k : Int)) := by
            have := RdAt.own hown
            unfold IntsAt
            rw [List.length_map]
            exact this
          have hof := rof_any (max l m) (orL c d 32) _ wr hii (fun t ht => orL_lt ht) (by have := orL_len c d 32; omega) (by rw [orL_sum HC.out HD.out]; exact orN_lt c d)
          rw [orL_sum HC.out HD.out] at hof
          have HBR := Lib.hid (HB2.out.trans (hbr.mono HB2.out.size))
          have HT3 := Lib.hid (there_later HT.out hbr HLT.out)
          have HZ3 := Lib.hid (And.intro (keep_cell HZ.out.1 hbr HLT.out) (keep_cell HZ.out.2 hbr HLT.out))
          have HLT3 := Lib.hid (Nat.lt_of_lt_of_le HLT.out hbr.size)
          clear hown hii hbr k3 k4 x0' x1' y0' y1' HT HZ HLT
          rw [show ((32 : Nat) : Int) = 32 from rfl]
          generalize (orL c d 32).length = on at *
          go_wp2_with fail
          refine hof.mono ?_
          rintro e w9 ⟨rfl, hb9⟩
          have z0 := keep_cell HZ3.out.1 hb9 HLT3.out
          have z1 := keep_cell HZ3.out.2 hb9 HLT3.out
          have hT9 := there_later HT3.out hb9 HLT3.out
          have f0 := there_free hT9 0 (by decide)
          have f1 := there_free hT9 1 (by decide)
          have HT9 := Lib.hid hT9
          have HB9 := Lib.hid (HBR.out.trans (hb9.mono HBR.out.size))
          clear hT9 hb9 X0 X1 Y0 Y1 hof
          go_wp2
          refine bodyPost_ret (results_agg1 rfl _ _ (w.heap.size + 1 + 1) [.int .i64 (max l m), .int .u32 (orN c d)] (.struct _) rfl (World.rangeAt_setCells_same w9 (w.heap.size + 1 + 1) 0 [.int .i64 (max l m), .int .u32 (orN c d)] HT9.out) Try.underlying30 rfl (by kernel_rfl)) rfl ?_
          exact ⟨by rw [HF.out], below_put (below_put HB9.out (by omega)) (by omega)⟩
end Go.Proofs.Ytnmgfmmjdiephaa
namespace Go.Proofs.Ytnmgfmmjdiephaa
open Go.RowKit

def NmdFit (l : List Nmd) : Prop := ∀ x ∈ l, x.2.2 < 4294967296
set_option maxHeartbeats 800000 in
set_option maxRecDepth 100000 in
theorem rfind_any (l : List Nmd) (nm : ByteArray) (v : Value) (w : World) (hv : NmdsAt w v l) (hl : l.length ≤ maxLen) :
    Calls Try.prog 47 #[v, .string nm] w fun e w' => e = .returned (.tuple #[findV (findL l nm), .bool (findL l nm).isSome]) ∧ Below w.heap.size w w' := by
  obtain ⟨a, c, rfl, hc, hr⟩ := RdAt.shape hv
  have HR := Lib.hid hr
  have hl63 : l.length ≤ 9223372036854775807 := by unfold maxLen at hl; omega
  have hb0 := alloc_below w (.cells #[.int .i64 0, .int .u32 0] 30)
  have hd := Below.refl (w.alloc (.cells #[.int .i64 0, .int .u32 0] 30)).heap.size (w.alloc (.cells #[.int .i64 0, .int .u32 0] 30))
  have hT := box_there hd
  obtain ⟨z0, z1, hlt, _⟩ := box2 hd
  have HT := Lib.hid hT
  have HB := Lib.hid hb0
  have HLT := Lib.hid hlt
  clear hr hv hT hd hlt hb0
  go_enter Try.func47, Try.ntmps47
  go_upto_region 2 with fail
  change Code.wp _ _ _ _ (w.alloc (.cells #[.int .i64 0, .int .u32 0] 30))
  generalize w.alloc (.cells #[.int .i64 0, .int .u32 0] 30) = w0 at *
  go_loopw [6] (fun i wr => ∃ k : Nat, i = .int .i64 k ∧ k ≤ l.length ∧ Hid (∀ j (h : j < l.length), j < k → decide (l[j].1 = nm) = false) ∧ wr = w0) (fun i _ => l.length - (intOf i).toNat)
  case atStart => exact ⟨0, rfl, Nat.zero_le _, Lib.hid (fun j h hj => absurd hj (Nat.not_lt_zero _)), rfl⟩
  case round =>
    obtain ⟨k, rfl, hk, HN, hwr⟩ := hrel
    subst hwr
    by_cases hkl : k < l.length
    · obtain ⟨b, o, rfl, hb, hcell⟩ := HR.out (by omega)
      have HC := nmdCells_at l k hkl
      obtain ⟨x, hx⟩ : ∃ x, l[k] = x := ⟨_, rfl⟩
      rw [hx] at HC
      have q : ∀ i v, (nmdC x)[i]? = some v → wr.cell? ⟨b, o + k * 3 + i, none⟩ = some v := fun i v hi => keep_cell (by have := hcell _ _ (HC i v hi); rwa [← Nat.add_assoc] at this) HB.out hb
      have c0 : wr.cell? ⟨b, o + k * 3, none⟩ = some (.string x.1) := q 0 _ rfl
      have c1 : wr.cell? ⟨b, o + k * 3 + 1, none⟩ = some (.int .i64 x.2.1) := q 1 _ rfl
      have c2 : wr.cell? ⟨b, o + k * 3 + 2, none⟩ = some (.int .u32 x.2.2) := q 2 _ rfl
      have HX := Lib.hid hx
      have f0 := there_free HT.out 0 (by decide)
      have f1 := there_free HT.out 1 (by decide)
      clear q HC hcell hx
      by_cases hxn : x.1 = nm
      · have hbq : (x.1.toList == nm.toList) = true := bytes_eq_iff.2 hxn
        have HF : Hid (findL l nm = some x) := by
          show _ = _
          rcases idx_find (fun y : Nmd => decide (y.1 = nm)) default l 0 with ⟨k', hk', _, h2, h3, h4⟩ | ⟨_, _, h3⟩
          · have : k' = k := by
              rcases Nat.lt_trichotomy k' k with h | h | h
              · have := HN.out k' hk' h; rw [this] at h3; cases h3
              · exact h
              · have := h4 k hkl h; rw [HX.out, decide_eq_true hxn] at this; cases this
            subst this
            rw [← HX.out]; exact h2
          · have := h3 k hkl; rw [HX.out, decide_eq_true hxn] at this; cases this
        go_wp2
        refine bodyPost_ret (results_agg2 rfl _ _ w.heap.size [.int .i64 x.2.1, .int .u32 x.2.2] (.struct _) rfl (World.rangeAt_setCells_same wr w.heap.size 0 [.int .i64 x.2.1, .int .u32 x.2.2] HT.out) Try.underlying30 rfl (by kernel_rfl)) rfl ?_
        exact ⟨by rw [HF.out]; rfl, below_put (below_put HB.out (Nat.le_refl _)) (Nat.le_refl _)⟩
      · have hbq : (x.1.toList == nm.toList) = false := by rw [bytes_beq]; exact decide_eq_false hxn
        go_wp2
        go_roundw
        case rel => exact ⟨k + 1, by go_num, by omega, Lib.hid (fun j h hj => by
          rcases Nat.lt_or_ge j k with h' | h'
          · exact HN.out j h h'
          · have : j = k := by omega
            subst this
            rw [HX.out]; exact decide_eq_false hxn), trivial⟩
        case measure => (simp [intOf]; try omega)
    · obtain rfl : k = l.length := by omega
      have HF : Hid (findL l nm = none) := by
        show _ = _
        rcases idx_find (fun y : Nmd => decide (y.1 = nm)) default l 0 with ⟨k', hk', _, h2, h3, h4⟩ | ⟨_, h2, h3⟩
        · have := HN.out k' hk' hk'; rw [this] at h3; cases h3
        · exact h2
      have f0 := there_free HT.out 0 (by decide)
      have f1 := there_free HT.out 1 (by decide)
      go_wp2
      refine bodyPost_ret (results_agg2 rfl _ _ w.heap.size [.int .i64 0, .int .u32 0] (.struct _) rfl (World.rangeAt_setCells_same wr w.heap.size 0 [.int .i64 0, .int .u32 0] HT.out) Try.underlying30 rfl (by kernel_rfl)) rfl ?_
      exact ⟨by rw [HF.out]; rfl, below_put (below_put HB.out (Nat.le_refl _)) (Nat.le_refl _)⟩
set_option maxHeartbeats 1600000 in
set_option maxRecDepth 100000 in
theorem rraised_any (s0 s1 s2 s4 s5 : Option Addr × Nat × Nat) (l : List Nmd) (rv : Value) (nm : ByteArray) (lv : Int) (c : Nat) (w : World) (hv : NmdsAt w rv l) (hl : l.length ≤ maxLen) (hfit : NmdFit l) (hc : c < 4294967296) :
    Calls Try.prog 22 #[.agg #[SV s0, SV s1, SV s2, rv, SV s4, SV s5], .string nm, Lab lv c] w fun e w' => e = .returned (LabP (raisedL l nm (lv, c))) ∧ Below w.heap.size w w' := by
  have k1 := fun W (h : Below w.heap.size w W) => rfind_any l nm rv W (hv.later h) hl
  obtain ⟨ra, rc, rfl, _, _⟩ := RdAt.shape hv
  clear hv
  obtain ⟨a0, n0, c0⟩ := s0
  obtain ⟨a1, n1, c1⟩ := s1
  obtain ⟨a2, n2, c2⟩ := s2
  obtain ⟨a4, n4, c4⟩ := s4
  obtain ⟨a5, n5, c5⟩ := s5
  have hB0 : Below w.heap.size w (((w.alloc (.cells #[.slice a0 n0 c0, .slice a1 n1 c1, .slice a2 n2 c2, .slice ra l.length rc, .slice a4 n4 c4, .slice a5 n5 c5] 26)).alloc (.cells #[.int .i64 lv, .int .u32 c] 30)).alloc (.cells #[.int .i64 0, .int .u32 0] 30)) :=
    ((alloc_below _ _).trans ((alloc_below _ _).mono (by simp))).trans ((alloc_below _ _).mono (by simp; omega))
  have k1 := k1 _ hB0
  cases hf : findL l nm with
  | none =>
    have HF : Hid (raisedL l nm (lv, c) = (lv, c)) := by show _ = _; unfold raisedL; rw [hf]
    rw [hf] at k1
    clear hf hB0
    go_enter Try.func22, Try.ntmps22
    go_wp2_with fail
    refine k1.mono ?_
    rintro e w1 ⟨rfl, hb1⟩
    obtain ⟨⟨x0, x1⟩, ⟨z0, z1, hT⟩, hlt, hB1⟩ := box622 hb1
    have ha := alloc_below w1 (.cells #[.int .i64 0, .int .u32 0] 30)
    have x0' := keep_cell x0 ha (by omega)
    have x1' := keep_cell x1 ha (by omega)
    have z0' := keep_cell z0 ha (by omega)
    have z1' := keep_cell z1 ha (by omega)
    have hT2 := there_later hT ha (by omega)
    have f0 := there_free hT2 0 (by decide)
    have f1 := there_free hT2 1 (by decide)
    have HT := Lib.hid hT2
    have hB2 := Lib.hid (hB1.trans (ha.mono hB1.size))
    clear hb1 hT k1 ha x0 x1 z0 z1 hT2 hB1
    simp only [findV, Option.isSome]
    go_upto_region 2 with fail
    change Code.wp _ _ _ _ (w1.alloc (.cells #[.int .i64 0, .int .u32 0] 30))
    generalize w1.alloc (.cells #[.int .i64 0, .int .u32 0] 30) = w2 at *
    go_wp2
    refine bodyPost_ret (results_agg1 rfl _ _ (w.heap.size + 1 + 1) [.int .i64 lv, .int .u32 c] (.struct _) rfl (World.rangeAt_setCells_same _ (w.heap.size + 1 + 1) 0 [.int .i64 lv, .int .u32 c] HT.out) Try.underlying30 rfl (by kernel_rfl)) rfl ?_
    exact ⟨by rw [HF.out], below_put (below_put hB2.out (by omega)) (by omega)⟩
  | some r =>
    have HF : Hid (raisedL l nm (lv, c) = joinL (lv, c) r.2) := by show _ = _; unfold raisedL; rw [hf]
    rw [hf] at k1
    obtain ⟨rn, rl, rcat⟩ := r
    have hrc : rcat < 4294967296 := hfit _ (List.mem_of_find?_eq_some hf)
    have k2 := fun W => rjoin_any lv c rl rcat W hc hrc
    obtain ⟨jl, hjl⟩ : ∃ z, joinL (lv, c) (rl, rcat) = z := ⟨_, rfl⟩
    obtain ⟨j1, j2⟩ := jl
    simp only [hjl] at k2
    rw [show (rn, rl, rcat).2 = (rl, rcat) from rfl, hjl] at HF
    clear hf hB0 hjl hrc
    go_enter Try.func22, Try.ntmps22
    go_wp2_with fail
    refine k1.mono ?_
    rintro e w1 ⟨rfl, hb1⟩
    obtain ⟨⟨x0, x1⟩, ⟨z0, z1, hT⟩, hlt, hB1⟩ := box622 hb1
    have ha := alloc_below w1 (.cells #[.int .i64 rl, .int .u32 rcat] 30)
    have x0' := keep_cell x0 ha (by omega)
    have x1' := keep_cell x1 ha (by omega)
    have z0' := keep_cell z0 ha (by omega)
    have z1' := keep_cell z1 ha (by omega)
    have hT2 := there_later hT ha (by omega)
    have HT := Lib.hid hT2
    have hB2 := Lib.hid (hB1.trans (ha.mono hB1.size))
    have hlt2 : w.heap.size + 1 + 1 < (w1.alloc (.cells #[.int .i64 rl, .int .u32 rcat] 30)).heap.size := by rw [World.size_alloc]; omega
    have HL2 := Lib.hid hlt2
    clear hb1 hT k1 ha x0 x1 z0 z1 hT2 hB1 hlt2
    simp only [findV, Option.isSome]
    go_upto_region 2 with fail
    change Code.wp _ _ _ _ (w1.alloc (.cells #[.int .i64 rl, .int .u32 rcat] 30))
    have y0 : (w1.alloc (.cells #[.int .i64 rl, .int .u32 rcat] 30)).cell? ⟨w1.heap.size, 0, none⟩ = some (.int .i64 rl) := World.cell?_alloc_at _ _ _ _ rfl
    have y1 : (w1.alloc (.cells #[.int .i64 rl, .int .u32 rcat] 30)).cell? ⟨w1.heap.size, 1, none⟩ = some (.int .u32 rcat) := World.cell?_alloc_at _ _ _ _ rfl
    generalize w1.alloc (.cells #[.int .i64 rl, .int .u32 rcat] 30) = w1' at *
    go_wp2_with fail
    refine (k2 _).mono ?_
    rintro e w2 ⟨rfl, hb2⟩
    have z0 := keep_cell z0' hb2 HL2.out
    have z1 := keep_cell z1' hb2 HL2.out
    have hT3 := there_later HT.out hb2 HL2.out
    have f0 := there_free hT3 0 (by decide)
    have f1 := there_free hT3 1 (by decide)
    have HT3 := Lib.hid hT3
    have hB3 := Lib.hid (hB2.out.trans (hb2.mono hB2.out.size))
    clear x0' x1' y0 y1 z0' z1' HT HL2 hb2 hB2 hT3 k2
    go_wp2
    refine bodyPost_ret (results_agg1 rfl _ _ (w.heap.size + 1 + 1) [.int .i64 j1, .int .u32 j2] (.struct _) rfl (World.rangeAt_setCells_same _ (w.heap.size + 1 + 1) 0 [.int .i64 j1, .int .u32 j2] HT3.out) Try.underlying30 rfl (by kernel_rfl)) rfl ?_
    exact ⟨by rw [HF.out], below_put (below_put hB3.out (by omega)) (by omega)⟩
end Go.Proofs.Ytnmgfmmjdiephaa
namespace Go.Proofs.Ytnmgfmmjdiephaa
open Go.RowKit

theorem visL_step {rs : List Nmd} {fl : List Fld} {f t : Int × Nat} {k : Nat} (h : k < fl.length) : visL rs (fl.take (k + 1)) f t = visL rs (fl.take k) f t ++ (if seesL rs f t fl[k] then [fl[k]] else []) := by
  unfold visL
  rw [List.take_succ_eq_append_getElem h, List.filter_append]
  congr 1
  cases hp : seesL rs f t fl[k] <;> simp [hp]
theorem visL_len (rs : List Nmd) (fl : List Fld) (f t : Int × Nat) : (visL rs fl f t).length ≤ fl.length := List.length_filter_le _ _
set_option maxHeartbeats 1600000 in
set_option maxRecDepth 100000 in
theorem rvis_any (s0 s1 s2 s4 s5 : Option Addr × Nat × Nat) (rs : List Nmd) (rv : Value) (fl : List Fld) (fv : Value) (lv : Int) (c : Nat) (tl : Int) (tc : Nat) (w : World) (hv : NmdsAt w rv rs) (hl : rs.length ≤ maxLen) (hfit : NmdFit rs) (hc : c < 4294967296) (htc : tc < 4294967296) (hf : FldsAt w fv fl) (hfl : fl.length ≤ 1000000) :
    Calls Try.prog 39 #[.agg #[SV s0, SV s1, SV s2, rv, SV s4, SV s5], fv, Lab lv c, Lab tl tc] w fun e w' => ∃ v', e = .returned v' ∧ FldsAt w' v' (visL rs fl (lv, c) (tl, tc)) ∧ (∀ q, v'.ownBlock = some q → w.heap.size ≤ q) ∧ Below w.heap.size w w' := by
  obtain ⟨i0, hi, hz0, hz1, hz2⟩ := info_parts info_fld
  obtain ⟨ra, rc, rfl, _, _⟩ := RdAt.shape hv
  obtain ⟨fa, fc, rfl, hfc, hfr⟩ := RdAt.shape hf
  obtain ⟨a0, n0, c0⟩ := s0
  obtain ⟨a1, n1, c1⟩ := s1
  obtain ⟨a2, n2, c2⟩ := s2
  obtain ⟨a4, n4, c4⟩ := s4
  obtain ⟨a5, n5, c5⟩ := s5
  obtain ⟨W0, hW0⟩ : ∃ z, ((w.alloc (.cells #[.slice a0 n0 c0, .slice a1 n1 c1, .slice a2 n2 c2, .slice ra rs.length rc, .slice a4 n4 c4, .slice a5 n5 c5] 26)).alloc (.cells #[.int .i64 lv, .int .u32 c] 30)).alloc (.cells #[.int .i64 tl, .int .u32 tc] 30) = z := ⟨_, rfl⟩
  have hb0 : Below w.heap.size w W0 := by rw [← hW0]; exact ((alloc_below _ _).trans ((alloc_below _ _).mono (by simp))).trans ((alloc_below _ _).mono (by simp; omega))
  have hz : W0.heap.size = w.heap.size + 1 + 1 + 1 := by rw [← hW0]; simp
  have hbb := (Below.refl W0.heap.size W0)
  rw [← hW0] at hbb
  obtain ⟨h1, h2, h3⟩ := box_cells hbb
  obtain ⟨h4, h5, h6, h7⟩ := box_two h3
  rw [hW0] at h1 h4 h5
  simp only [World.size_alloc] at h1
  have hC6 : C6 w.heap.size (.slice a0 n0 c0) (.slice a1 n1 c1) (.slice a2 n2 c2) (.slice ra rs.length rc) (.slice a4 n4 c4) (.slice a5 n5 c5) W0 := ⟨h4 0 _ rfl, h4 1 _ rfl, h4 2 _ rfl, h4 3 _ rfl, h4 4 _ rfl, h4 5 _ rfl⟩
  have HC6 := Lib.hid hC6
  have hf0 := h5 0 _ rfl
  have hf1 := h5 1 _ rfl
  have ht0 := h1 0 _ rfl
  have ht1 := h1 1 _ rfl
  have HL0 := Lib.hid (And.intro hf0 (And.intro hf1 (And.intro ht0 ht1)))
  have HB0 := Lib.hid hb0
  have HZ := Lib.hid hz
  have HFR := Lib.hid hfr
  have HV := Lib.hid hv
  have HW0 := Lib.hid hW0
  have HFIT := Lib.hid hfit
  have HCC := Lib.hid hc
  have HTC := Lib.hid htc
  clear h1 h2 h3 h4 h5 h6 h7 hbb hf hv hfr hC6 hf0 hf1 ht0 ht1 hb0 hz hW0 hfit hc htc
  go_enter Try.func39, Try.ntmps39
  go_upto_region 1 with fail
  rw [HW0.out]
  clear HW0
  go_wp2
  go_loopw [9, 10] (fun v i wr => ∃ k : Nat, i = .int .i64 k ∧ k ≤ fl.length ∧ wr.ownsRow W0.heap.size 54 2 v (visL rs (fl.take k) (lv, c) (tl, tc)).length (fldCells (visL rs (fl.take k) (lv, c) (tl, tc))) ∧ Below W0.heap.size W0 wr) (fun _ i _ => fl.length - (intOf i).toNat)
  case atStart => exact ⟨0, rfl, Nat.zero_le _, World.ownsRow_nil _ _ _ _, Below.refl _ _⟩
  case round =>
    obtain ⟨k, rfl, hk, hown, hbr⟩ := hrel
    have hzs := HZ.out
    by_cases hkl : k < fl.length
    · obtain ⟨b, o, rfl, hb, hcell⟩ := HFR.out (by omega)
      obtain ⟨q0, q1⟩ := fldCells_at fl k hkl
      obtain ⟨⟨fx, fy⟩, hfx⟩ : ∃ z, fl[k] = z := ⟨_, rfl⟩
      have HBw := Lib.hid (HB0.out.trans (hbr.mono HB0.out.size))
      have e0 : wr.cell? ⟨b, o + k * 2, none⟩ = some (.string fx) := keep_cell (by have := hcell _ _ q0; rw [hfx] at this; exact this) HBw.out hb
      have e1 : wr.cell? ⟨b, o + k * 2 + 1, none⟩ = some (.string fy) := keep_cell (by have := hcell _ _ q1; rw [hfx, ← Nat.add_assoc] at this; exact this) HBw.out hb
      have hvs := visL_step (rs := rs) (f := (lv, c)) (t := (tl, tc)) hkl
      rw [hfx] at hvs
      obtain ⟨jl, hjl⟩ : ∃ z, raisedL rs fx (lv, c) = z := ⟨_, rfl⟩
      have hsee : seesL rs (lv, c) (tl, tc) (fx, fy) = flowsL jl.1 jl.2 tl tc := by unfold seesL; rw [hjl]
      obtain ⟨j1, j2⟩ := jl
      have hj2 : j2 < 4294967296 := by
        have : (raisedL rs fx (lv, c)).2 < 4294967296 := by
          unfold raisedL
          split
          · exact (joinL_right _ _).2
          · exact HCC.out
        rw [hjl] at this
        exact this
      obtain ⟨q, hq⟩ : ∃ q, flowsL j1 j2 tl tc = q := ⟨_, rfl⟩
      rw [hsee, hq] at hvs
      have k1 : ∀ W, Below W0.heap.size W0 W → Calls Try.prog 22 #[.agg #[.slice a0 n0 c0, .slice a1 n1 c1, .slice a2 n2 c2, .slice ra rs.length rc, .slice a4 n4 c4, .slice a5 n5 c5], .string fx, Lab lv c] W fun e w' => e = .returned (Lab j1 j2) ∧ Below W.heap.size W w' := fun W h => by
        have := rraised_any (a0, n0, c0) (a1, n1, c1) (a2, n2, c2) (a4, n4, c4) (a5, n5, c5) rs (.slice ra rs.length rc) fx lv c W (HV.out.later (HB0.out.trans (h.mono HB0.out.size))) hl HFIT.out HCC.out
        rw [hjl] at this
        exact this
      have k2 : ∀ W, Calls Try.prog 28 #[Lab j1 j2, Lab tl tc] W fun e w' => e = .returned (.bool q) ∧ Below W.heap.size W w' := fun W => by
        have := rflows_any j1 j2 tl tc W hj2 HTC.out
        rw [hq] at this
        exact this
      have HVS := Lib.hid hvs
      have hlen := visL_len rs (fl.take k) (lv, c) (tl, tc)
      rw [List.length_take] at hlen
      have HO := Lib.hid hown
      have HBR := Lib.hid hbr
      obtain ⟨va, vc, rfl, _, _⟩ := RdAt.shape (RdAt.own hown)
      have hP := HC6.out.later hbr (by omega)
      obtain ⟨p0, p1, p2, p3, p4, p5⟩ := hP
      obtain ⟨l0, l1, t0, t1⟩ := HL0.out
      have L0 := keep_cell l0 hbr (by omega)
      have L1 := keep_cell l1 hbr (by omega)
      have T0 := keep_cell t0 hbr (by omega)
      have T1 := keep_cell t1 hbr (by omega)
      have hbl : b < wr.heap.size := Nat.lt_of_lt_of_le hb HBw.out.size
      have hzr : w.heap.size + 1 + 1 < wr.heap.size := by have := hbr.size; omega
      clear q0 q1 hcell hfx hvs hsee hjl hj2 hq hown hbr l0 l1 t0 t1
      go_upto_region 5 with fail
      refine wp_region_held_drew (S := (fun W => W.cell? ⟨w.heap.size, 0, none⟩ = some (.slice a0 n0 c0) ∧ W.cell? ⟨w.heap.size, 1, none⟩ = some (.slice a1 n1 c1) ∧ W.cell? ⟨w.heap.size, 2, none⟩ = some (.slice a2 n2 c2) ∧ W.cell? ⟨w.heap.size, 3, none⟩ = some (.slice ra rs.length rc) ∧ W.cell? ⟨w.heap.size, 4, none⟩ = some (.slice a4 n4 c4) ∧ W.cell? ⟨w.heap.size, 5, none⟩ = some (.slice a5 n5 c5) ∧ W.cell? ⟨w.heap.size + 1, 0, none⟩ = some (.int .i64 lv) ∧ W.cell? ⟨w.heap.size + 1, 1, none⟩ = some (.int .u32 c) ∧ W.cell? ⟨w.heap.size + 1 + 1, 0, none⟩ = some (.int .i64 tl) ∧ W.cell? ⟨w.heap.size + 1 + 1, 1, none⟩ = some (.int .u32 tc) ∧ W.cell? ⟨b, o + k * 2, none⟩ = some (.string fx))) (by kernel_rfl) ⟨p0, p1, p2, p3, p4, p5, L0, L1, T0, T1, e0⟩ (fun hHeld => ?_)
      refine held_take (i := 0) (v := ?_) rfl rfl (by kernel_rfl) (by kernel_rfl) (by kernel_rfl) (fun _ _ _ h => h) (by rfl) hHeld ?_ ?_
      rotate_left
      · rintro wh ⟨z0, z1, z2, z3, z4, z5, z6, z7, z8, z9, z10⟩
        go_simp
        (try with_reducible rfl)
      simp only [Act.put, List.setIfInBounds_toArray, List.set_cons_zero, List.set_cons_succ]
      refine held_take (i := 1) (v := ?_) rfl rfl (by kernel_rfl) (by kernel_rfl) (by kernel_rfl) (fun _ _ _ h => h) (by rfl) hHeld ?_ ?_
      rotate_left
      · rintro wh ⟨z0, z1, z2, z3, z4, z5, z6, z7, z8, z9, z10⟩
        go_simp
        (try with_reducible rfl)
      simp only [Act.put, List.setIfInBounds_toArray, List.set_cons_zero, List.set_cons_succ]
      refine held_take (i := 2) (v := ?_) rfl rfl (by kernel_rfl) (by kernel_rfl) (by kernel_rfl) (fun _ _ _ h => h) (by rfl) hHeld ?_ ?_
      rotate_left
      · rintro wh ⟨z0, z1, z2, z3, z4, z5, z6, z7, z8, z9, z10⟩
        go_simp
        (try with_reducible rfl)
      simp only [Act.put, List.setIfInBounds_toArray, List.set_cons_zero, List.set_cons_succ]
      refine held_take (i := 3) (v := ?_) rfl rfl (by kernel_rfl) (by kernel_rfl) (by kernel_rfl) (fun _ _ _ h => h) (by rfl) hHeld ?_ ?_
      rotate_left
      · rintro wh ⟨z0, z1, z2, z3, z4, z5, z6, z7, z8, z9, z10⟩
        go_simp
        (try with_reducible rfl)
      simp only [Act.put, List.setIfInBounds_toArray, List.set_cons_zero, List.set_cons_succ]
      refine held_take (i := 4) (v := ?_) rfl rfl (by kernel_rfl) (by kernel_rfl) (by kernel_rfl) (fun _ _ _ h => h) (by rfl) hHeld ?_ ?_
      rotate_left
      · rintro wh ⟨z0, z1, z2, z3, z4, z5, z6, z7, z8, z9, z10⟩
        go_simp
        (try with_reducible rfl)
      simp only [Act.put, List.setIfInBounds_toArray, List.set_cons_zero, List.set_cons_succ]
      refine held_take (i := 5) (v := ?_) rfl rfl (by kernel_rfl) (by kernel_rfl) (by kernel_rfl) (fun _ _ _ h => h) (by rfl) hHeld ?_ ?_
      rotate_left
      · rintro wh ⟨z0, z1, z2, z3, z4, z5, z6, z7, z8, z9, z10⟩
        go_simp
        (try with_reducible rfl)
      simp only [Act.put, List.setIfInBounds_toArray, List.set_cons_zero, List.set_cons_succ]
      refine held_take (i := 6) (v := ?_) rfl rfl (by kernel_rfl) (by kernel_rfl) (by kernel_rfl) (fun _ _ _ h => h) (by rfl) hHeld ?_ ?_
      rotate_left
      · rintro wh ⟨z0, z1, z2, z3, z4, z5, z6, z7, z8, z9, z10⟩
        go_simp
        (try with_reducible rfl)
      simp only [Act.put, List.setIfInBounds_toArray, List.set_cons_zero, List.set_cons_succ]
      refine held_take (i := 8) (v := ?_) rfl rfl (by kernel_rfl) (by kernel_rfl) (by kernel_rfl) (fun _ _ _ h => h) (by rfl) hHeld ?_ ?_
      rotate_left
      · rintro wh ⟨z0, z1, z2, z3, z4, z5, z6, z7, z8, z9, z10⟩
        go_simp
        (try with_reducible rfl)
      simp only [Act.put, List.setIfInBounds_toArray, List.set_cons_zero, List.set_cons_succ]
      refine held_call (i := 7) rfl (by kernel_rfl) (by rfl) (fun K hK => ?_)
      (go_simp; go_at_call 22; refine (k1 _ (HBR.out.trans (((Below.refl _ wr).drew).mono HBR.out.size))).mono ?_; rintro e w3 ⟨rfl, hb3⟩; have hb3' : Below wr.heap.size wr w3 := ((Below.refl _ wr).drew).trans hb3)
      refine hK.out _ _ ⟨keep_cell p0 hb3' (by omega), keep_cell p1 hb3' (by omega), keep_cell p2 hb3' (by omega), keep_cell p3 hb3' (by omega), keep_cell p4 hb3' (by omega), keep_cell p5 hb3' (by omega), keep_cell L0 hb3' (by omega), keep_cell L1 hb3' (by omega), keep_cell T0 hb3' (by omega), keep_cell T1 hb3' (by omega), keep_cell e0 hb3' hbl⟩ (fun hHeld => ?_)
      clear hK K
      (try simp only [Act.put, List.setIfInBounds_toArray, List.set_cons_zero, List.set_cons_succ])
      refine held_call (i := 9) rfl (by kernel_rfl) (by rfl) (fun K hK => ?_)
      (go_simp; go_at_call 28; refine (k2 _).mono ?_; rintro e w4 ⟨rfl, hb4⟩; have hb34 := hb3'.trans (hb4.mono hb3'.size))
      refine hK.out _ _ ⟨keep_cell p0 hb34 (by omega), keep_cell p1 hb34 (by omega), keep_cell p2 hb34 (by omega), keep_cell p3 hb34 (by omega), keep_cell p4 hb34 (by omega), keep_cell p5 hb34 (by omega), keep_cell L0 hb34 (by omega), keep_cell L1 hb34 (by omega), keep_cell T0 hb34 (by omega), keep_cell T1 hb34 (by omega), keep_cell e0 hb34 hbl⟩ (fun hHeld => ?_)
      clear hK K
      (try simp only [Act.put, List.setIfInBounds_toArray, List.set_cons_zero, List.set_cons_succ])
      refine wpAnyH_done (by kernel_rfl) ?_ _
      have HB4 := Lib.hid hb34
      clear hb34 hb3' hb4 hb3 p0 p1 p2 p3 p4 p5 L0 L1 T0 T1 k1 k2
      have E0 := keep_cell e0 HB4.out hbl
      have E1 := keep_cell e1 HB4.out hbl
      clear e0 e1
      cases q
      · go_wp2
        go_roundw
        case rel => exact ⟨k + 1, by go_num, by omega, by rw [HVS.out]; simpa using own_later HO.out HB4.out, HBR.out.trans (HB4.out.mono HBR.out.size)⟩
        case measure => (simp [intOf]; try omega)
      · have hb9 := alloc_below w4 (.cells #[.string fx, .string fy] 54)
        have hown9 := (own_later HO.out HB4.out).alloc (.cells #[.string fx, .string fy] 54)
        have hrd : RdAt (w4.alloc (.cells #[.string fx, .string fy] 54)) (.slice (some ⟨w4.heap.size, 0, none⟩) 1 1) 1 2 [.string fx, .string fy] := by
          refine RdAt.mk rfl (Nat.le_refl _) (by simp) (fun j x hj => ?_)
          rw [Nat.zero_add]
          exact (World.cell?_alloc_at _ _ _ _ rfl).trans (by
            match j, hj with
            | 0, hj => exact hj
            | 1, hj => exact hj
            | j + 2, hj => simp at hj)
        go_wp2_with (at_builtin; (refine wpList_append_rd rfl (.tmp 27) (.tmp 32) 27 rfl W0.heap.size 54 i0 (.agg #[.string ⟨#[]⟩, .string ⟨#[]⟩]) 2 32 Try.underlying27 hi hz0 hz1 hz2 rfl (by decide) _ _ _ rfl hown9 _ 1 [.string fx, .string fy] rfl hrd (by simp [Value.oneCell']) (by unfold maxLen; omega) (by omega) (by have := HBR.out.size; have := HB4.out.size; simp; omega) ?_); intro v' w8 hown' hg8)
        have hB8 : Below W0.heap.size W0 w8 := ((HBR.out.trans (HB4.out.mono HBR.out.size)).trans (hb9.mono (by have := HBR.out.size; have := HB4.out.size; omega))).grown hg8 (by have := HBR.out.size; have := HB4.out.size; simp; omega) (fun j e => (hown9.lt j e).1)
        go_wp2
        go_roundw
        case rel => exact ⟨k + 1, by go_num, by omega, by
          rw [HVS.out, if_pos rfl, List.length_append, fldCells_append]
          exact hown', hB8⟩
        case measure => (simp [intOf]; try omega)
    · obtain rfl : k = fl.length := by omega
      rw [List.take_length] at hown
      go_wp2
      go_ret
      exact ⟨_, rfl, RdAt.own hown, fun q hq => by have := (hown.lt q hq).1; omega, HB0.out.trans (hbr.mono HB0.out.size)⟩
end Go.Proofs.Ytnmgfmmjdiephaa
