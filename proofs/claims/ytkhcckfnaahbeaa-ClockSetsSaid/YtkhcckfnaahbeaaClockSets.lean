/- ClockSets: the walk. -/
import Derived.Test.YtkhcckfnaahbeaaClkLaw
import Derived.Test.YtkhcckfnaahbeaaSame12
import Derived.Deep.RegionHeldLaw
namespace Go.Proofs.Ytkhcckfnaahbeaa.lawSets
open Go.RowKit Go.Proofs.Ytkhcckfnaahbeaa

theorem Cs.beside {w0 : World} {p q : Nat} {S T : Ck} {W W' : World} (hq : Cs w0 q T W) (hp : Cs w0 p S W) (hne : q ≠ p) (hg : W.grownBy W' (some p)) : Cs w0 q T W' := ⟨hq.1.beside hp.1 hne hg, hq.2.trans (below_of_row hg hp.1.1 hp.2.size)⟩
/-- what a clock does hangs on the set alone -/
theorem same_set {S : Ck} {n : Int} {T ids : List Int} (h : ∀ z, z ∈ T ↔ z ∈ ids) : askM S n T = askM S n ids ∧ leftM S n T = leftM S n ids ∧ nextM S T = nextM S ids := by
  have hs := setL_same h
  have hn : T = [] ↔ ids = [] := by rw [← setL_nil, hs, setL_nil]
  have hf : ∀ m, fromM S m T = fromM S m ids := fun m => by unfold fromM; rw [hs]
  have hi : ∀ (α : Type) (x y : α), (if T = [] then x else y) = (if ids = [] then x else y) := fun α x y => by
    by_cases h1 : T = []
    · rw [if_pos h1, if_pos (hn.1 h1)]
    · rw [if_neg h1, if_neg (fun h2 => h1 (hn.2 h2))]
  have hd : dueM S n T = dueM S n ids := by unfold dueM; rw [hi, hf]
  refine ⟨by unfold askM; rw [hd], by unfold leftM; rw [hd, hs, hi], by unfold nextM; rw [hi, hf]⟩
theorem alloc_two (w : World) (x y : Value) (t : TypeId) : RdAt (w.alloc (.cells #[x, y] t)) (.slice (some ⟨w.heap.size, 0, none⟩) 2 2) 2 1 [x, y] := rd_block (heap_alloc_new w _) rfl (Nat.le_refl _)

set_option maxHeartbeats 6400000 in
set_option maxRecDepth 100000 in
theorem walk (a b c : Int) (v0 : Value) (l : List Stp) (w : World) (hA : ArgStps w v0 l) :
    Calls Try.prog 5 #[.agg #[.int .i64 a, .int .i64 b, .int .i64 c], v0] w fun e w' => e = .returned (.bool true) ∧ Below w.heap.size w w' := by
  have HIDS := Lib.hid (early_ids hA)
  have HLE := Lib.hid (early_le l)
  obtain ⟨i0, hi, hz0, hz1, hz2⟩ := info_parts info64
  go_enter Try.func5, Try.ntmps5
  go_wp2_with fail
  refine (lives_any _).mono ?_
  rintro e w1 ⟨rfl, hb1⟩
  obtain ⟨g0, g1, g2, hgl, hb⟩ := box3 _ _ _ _ _ _ hb1
  clear hb1
  have K3 : ∀ W, Below w1.heap.size w1 W → W.cell? ⟨w.heap.size, 0, none⟩ = some (.int .i64 a) ∧ W.cell? ⟨w.heap.size, 1, none⟩ = some (.int .i64 b) ∧ W.cell? ⟨w.heap.size, 2, none⟩ = some (.int .i64 c) := fun W h =>
    ⟨(h.cell (p := ⟨w.heap.size, 0, none⟩) hgl).trans g0, (h.cell (p := ⟨w.heap.size, 1, none⟩) hgl).trans g1, (h.cell (p := ⟨w.heap.size, 2, none⟩) hgl).trans g2⟩
  go_upto_region 3 with fail
  go_cut [5, 6] (fun s5 s6 wx => ∃ p q : Nat, s5 = .pointer (some ⟨p, 0, none⟩) ∧ s6 = .pointer (some ⟨q, 0, none⟩) ∧ p ≠ q ∧ Cs w p (newM a b c) wx ∧ Cs w q (newM a b c) wx)
  case first =>
    go_region_held_law (fun w' => w'.cell? ⟨w.heap.size, 0, none⟩ = some (.int .i64 a) ∧ w'.cell? ⟨w.heap.size, 1, none⟩ = some (.int .i64 b) ∧ w'.cell? ⟨w.heap.size, 2, none⟩ = some (.int .i64 c))
      (first | exact ⟨g0, g1, g2⟩ | exact K3 _ hBd | exact K3 _ hBc)
      (first
        | (go_at_call 10; refine (new_any a b c w1.drew).mono ?_; rintro e wc1 ⟨p1, rfl, hC1, hp1, hbc⟩; have hBc : Below w1.heap.size w1 wc1 := ((Below.refl _ _).drew).trans hbc)
        | (go_at_call 10; refine (new_any a b c wc1).mono ?_; rintro e wd1 ⟨p2, rfl, hC2, hp2, hbd⟩; have hBd : Below w1.heap.size w1 wd1 := hBc.trans (hbd.mono hBc.size)))
    all_goals (
      have R1 : Cs w p1 (newM a b c) wd1 := ⟨(hC1.low hb.size).later hbd, hb.trans (hBd.mono hb.size)⟩
      have R2 : Cs w p2 (newM a b c) wd1 := ⟨hC2.low (Nat.le_trans hb.size hBc.size), hb.trans (hBd.mono hb.size)⟩
      have hne12 : p1 ≠ p2 := by have := hC2.1; omega
      clear hC1 hC2 hbc hbd hBc hBd
      go_wp2_with fail
      go_meet
      first | exact ⟨p1, p2, rfl, rfl, hne12, R1, R2⟩ | exact ⟨p2, p1, rfl, rfl, fun h => hne12 h.symm, R2, R1⟩)
  case rest =>
    obtain ⟨p, q, rfl, rfl, hpq, hCs, hDs⟩ := hcut
    have hqp : q ≠ p := fun h => hpq h.symm
    clear K3 g0 g1 g2 hgl hb
    have hS0 := newM_ok a b c
    have hN0 : (newM a b c).now = 0 := rfl
    have hp := hCs.lt
    have hq := hDs.lt
    go_wp2_with fail
    refine (early_any wc (hA.later hCs.2)).mono ?_
    rintro e w3 ⟨v, rfl, hst, hfr, hb3⟩
    have hfar : v.ownBlock ≠ some p := fun e => by have := hfr p e; omega
    have hfarq : v.ownBlock ≠ some q := fun e => by have := hfr q e; omega
    have hH : Hd w p v (earlyL l) (newM a b c) w3 := ⟨hCs.later hb3, hst⟩
    have hD3 := hDs.later hb3
    obtain ⟨av, cv, rfl, hcv, _⟩ := hst
    clear hA hCs hDs hfr hb3 hp hq
    generalize earlyL l = L at *
    generalize newM a b c = S0 at *
    go_wp2
    go_loopw [7, 8] (fun vn vi wr => ∃ (k : Nat) (N : Int) (S : Ck), k ≤ L.length ∧ vi = .int .i64 k ∧ vn = .int .i64 N ∧ 0 ≤ N ∧ N ≤ k * 60 ∧ Hid (S.now = N) ∧ S.Ok ∧ Hd w p (.slice av L.length cv) L S wr ∧ Cs w q S wr) (fun _ vi _ => L.length - (intOf vi).toNat)
    case atStart => exact ⟨0, 0, S0, Nat.zero_le _, rfl, rfl, Int.le_refl _, by omega, Lib.hid hN0, hS0, hH, hD3⟩
    case round =>
      obtain ⟨k, N, S, hk, rfl, rfl, hn0, hn1, HSN, hS, hHr, hDr⟩ := hrel
      have hL80 := HLE.out
      by_cases hkl : k < L.length
      · obtain ⟨s, hse⟩ : ∃ s, L[k] = s := ⟨_, rfl⟩
        obtain ⟨hids, hid8⟩ := HIDS.out s (by rw [← hse]; exact List.getElem_mem hkl)
        obtain ⟨_, _, hv, _, hcx⟩ := hHr.2
        cases hv
        obtain ⟨bv, ov, rfl, hbv, hcells⟩ := hcx (by omega)
        obtain ⟨d0, d1, d2⟩ := hcells k hkl
        rw [hse] at d0 d1 d2
        obtain ⟨M, hM, hM60⟩ := uintMod s.by_ 60 (by decide) (by decide)
        obtain ⟨ai, cs, hsv, hcs, hri⟩ := RdAt.shape hids
        have HRI := Lib.hid hri
        have HSE := Lib.hid hse
        have HST := Lib.hid hHr.2
        clear hcells hse hcx hri
        obtain ⟨sb, so, sv, sids⟩ := s
        simp only at *
        subst hsv
        obtain ⟨nn, hnn⟩ : ∃ nn, sids.length = nn := ⟨_, rfl⟩
        rw [hnn] at d2 hids hcs HRI
        have HNN := Lib.hid hnn
        have hnn8 : nn ≤ 8 := by omega
        clear hnn
        have hbw := hHr.1.2
        generalize wr = wo at *
        go_upto_region 11 with fail
        go_cut [10] (fun s10 wx => s10 = .int .i64 ((nn : Int) - 1) ∧ wo = wx)
        case first =>
          go_wp2_with fail
          go_meet
          exact ⟨rfl, rfl⟩
        case rest =>
          obtain ⟨rfl, rfl⟩ := hcut
          go_wp2
          go_loopw [9, 10] (fun vt vk wr => ∃ (j : Nat) (z : Int) (T : List Int), j ≤ nn ∧ vk = .int .i64 z ∧ ((j = 0 ∧ z = -1) ∨ ∃ m : Nat, j = m + 1 ∧ z = m) ∧ wr.ownsRow wo.heap.size 45 1 vt T.length (T.map U) ∧ T.length + 2 * j = 2 * nn ∧ Hid (∀ x ∈ T, x ∈ sids) ∧ Hid (∀ m (h : m < sids.length), j ≤ m → sids[m] ∈ T) ∧ Below wo.heap.size wo wr) (fun _ vk _ => (intOf vk + 1).toNat)
          case atStart =>
            refine ⟨nn, (nn : Int) - 1, [], Nat.le_refl _, rfl, ?_, World.ownsRow_nil _ _ _ _, by simp, Lib.hid (by simp), Lib.hid (fun m h1 h2 => by have := HNN.out; omega), Below.refl _ _⟩
            rcases Nat.eq_zero_or_pos nn with h | h
            · exact .inl ⟨h, by omega⟩
            · exact .inr ⟨nn - 1, by omega, by omega⟩
          case round =>
            obtain ⟨j, z, T, hj, rfl, hz, hown, hTl, HT1, HT2, hbr⟩ := hrel
            have dd2 : wr.cell? ⟨bv, ov + k * 3 + 2, none⟩ = some (.slice ai nn cs) := (hbr.cell (p := ⟨bv, ov + k * 3 + 2, none⟩) hbv).trans d2
            rcases hz with ⟨rfl, rfl⟩ | ⟨m, rfl, rfl⟩
            · have hmem : ∀ x, x ∈ T ↔ x ∈ sids := fun x => ⟨HT1.out x, fun hx => by obtain ⟨m, hm, rfl⟩ := List.getElem_of_mem hx; exact HT2.out m hm (Nat.zero_le _)⟩
              obtain ⟨q1, q2, _⟩ := same_set (S := S) (n := N + M) hmem
              have q3 := fun S' => (same_set (S := S') (n := N + M) hmem).2.2
              have hT16 : T.length ≤ 1000 := by omega
              have h4 : Hd w p (.slice (some ⟨bv, ov, none⟩) L.length cv) L S wr := hHr.later hbr
              have e4 := hDr.later hbr
              have hok : okM S (N + M) = true := by have := HSN.out; simp only [okM, decide_eq_true_eq]; omega
              have S1ok := leftM_ok hS (N + M) sids (by omega)
              have S1n : Hid ((leftM S (N + M) sids).now = N + M) := Lib.hid (leftM_now hok)
              have k1 := ask_arg h4.1 (N + M) sids _ hids (by omega) hS
              have k2 : ∀ W, Cs w q S W → IdsAt W u9 T → (T ≠ [] → u9.ownBlock ≠ some q) → Calls Try.prog 14 #[.pointer (some ⟨q, 0, none⟩), .int .i64 (N + M), u9] W fun e w' => e = .returned (.tuple #[.bool (askM S (N + M) sids), .int .i64 (errM S (N + M))]) ∧ Cs w q (leftM S (N + M) sids) w' ∧ W.grownBy w' (some q) := fun W h1 h2 h3 => by
                rw [← q1, ← q2]; exact ask_cs h1 (N + M) T u9 h2 h3 hT16 hS
              have hvq : u9.ownBlock ≠ some q := by obtain ⟨_, _, hc, _⟩ := e4.1; exact row_far hown hc (by decide)
              have hvp : u9.ownBlock ≠ some p := by obtain ⟨_, _, hc, _⟩ := h4.1.1; exact row_far hown hc (by decide)
              clear q1 q2 hok hHr hDr
              generalize leftM S (N + M) sids = S1 at *
              generalize askM S (N + M) sids = A1 at *
              generalize errM S (N + M) = E1 at *
              have hT1 := S1ok.t
              obtain ⟨at9, ct9, rfl, _, _⟩ := RdAt.shape (RdAt.own hown)
              have hTI : IdsAt wr _ T := IdsAt.own hown
              clear hown
              go_wp2_with fail
              refine k1.mono ?_
              rintro e w5 ⟨rfl, c5, hg5⟩
              have h5 : Hd w p _ L S1 w5 := h4.ask hfar c5 hg5
              have e5 : Cs w q S w5 := Cs.beside e4 h4.1 hqp hg5
              have t5 : IdsAt w5 _ T := hTI.beside hg5 (fun r hr _ => by cases hr; exact hvp)
              have k3 := k2 w5 e5 t5 (fun _ => hvq)
              clear k1 k2 h4 e4 c5 hg5 hTI
              go_wp2_with fail
              refine k3.mono ?_
              rintro e w6 ⟨rfl, c6, hg6⟩
              have h6 : Hd w p _ L S1 w6 := ⟨Cs.beside h5.1 e5 hpq hg6, h5.2.beside hg6 hfarq⟩
              have t6 : IdsAt w6 _ T := t5.beside hg6 (fun r hr _ => by cases hr; exact hvq)
              have k4 := last_any S1 w6 w.heap.size p h6.1.1
              clear k3 h5 e5 t5 hg6
              go_wp2_with fail
              refine k4.mono ?_
              rintro e w7 ⟨rfl, rfl⟩
              have k5 := last_any S1 w7 w.heap.size q c6.1
              clear k4
              go_wp2_with fail
              refine k5.mono ?_
              rintro e w8 ⟨rfl, rfl⟩
              obtain ⟨_, _, f2⟩ := h6.2.at3 hkl HSE.out
              have f2' : w8.cell? ⟨bv, ov + k * 3 + 2, none⟩ = some (.slice ai nn cs) := by rw [← HNN.out]; exact f2
              clear f2
              have k6 := next_any S1 sids w8 w.heap.size p _ h6.1.1 (hids.later h6.1.2) (by omega) S1ok
              clear k5
              go_wp2_with fail
              refine k6.mono ?_
              rintro e w9 ⟨rfl, hb9⟩
              have h9 := h6.later hb9
              have e9 := c6.later hb9
              have t9 := t6.later hb9
              have k7 := next_any S1 T w9 w.heap.size q _ e9.1 t9 hT16 S1ok
              rw [q3 S1] at k7
              clear k6 h6 c6 t6 hb9 f2'
              go_wp2_with fail
              refine k7.mono ?_
              rintro e w10 ⟨rfl, hb10⟩
              have h10 := h9.later hb10
              have e10 := e9.later hb10
              have k8 := told_any S1 w10 w.heap.size p h10.1.1 (by omega)
              clear k7 h9 e9 t9 hb10
              go_wp2_with fail
              refine k8.mono ?_
              rintro e w11 ⟨vc, rfl, hvc, hb11⟩
              have h11 := h10.later hb11
              have e11 := e10.later hb11
              have k9 := told_any S1 w11 w.heap.size q e11.1 (by omega)
              clear k8 h10 e10 hb11
              go_wp2_with fail
              refine k9.mono ?_
              rintro e w12 ⟨vd, rfl, hvd, hb12⟩
              have h12' := h11.later hb12
              have e12 := e11.later hb12
              have k10 := same_any S1.told S1.told w12 vc vd (hvc.later hb12) hvd (by omega) (by omega)
              rw [decide_eq_true rfl] at k10
              clear k9 h11 e11 hb12 hvc hvd
              go_wp2_with fail
              refine k10.mono ?_
              rintro e w13 ⟨rfl, hb13⟩
              have h13 := h12'.later hb13
              have e13 := e12.later hb13
              clear k10 h12' e12 hb13
              go_wp2
              go_roundw
              case rel => exact ⟨k + 1, N + M, S1, by omega, by go_num, rfl, by omega, by omega, S1n, S1ok, h13, e13⟩
              case measure => simp [intOf]; omega
            · obtain ⟨t, rfl⟩ : ∃ t, nn = t + 1 := ⟨nn - 1, by omega⟩
              obtain ⟨bi, oi, rfl, hbi, hci⟩ := HRI.out (by omega)
              have hmt : m < t + 1 := by omega
              have hbi' : bi < wo.heap.size := Nat.lt_of_lt_of_le hbi hbw.size
              obtain ⟨x, hx⟩ : ∃ x, sids[m]'(by have := HNN.out; omega) = x := ⟨_, rfl⟩
              obtain ⟨y, hy⟩ : ∃ y, sids[t]'(by have := HNN.out; omega) = y := ⟨_, rfl⟩
              have KS : ∀ W, Below wo.heap.size wo W → W.cell? ⟨bv, ov + k * 3 + 2, none⟩ = some (.slice (some ⟨bi, oi, none⟩) (t + 1) cs) ∧ W.cell? ⟨bi, oi + m, none⟩ = some (.int .u64 x) ∧ W.cell? ⟨bi, oi + t, none⟩ = some (.int .u64 y) := fun W h =>
                ⟨(h.cell (p := ⟨bv, ov + k * 3 + 2, none⟩) hbv).trans d2,
                 ((h.cell (p := ⟨bi, oi + m, none⟩) hbi').trans (hbw.cell (p := ⟨bi, oi + m, none⟩) hbi)).trans (hci m _ (by rw [List.getElem?_map, List.getElem?_eq_getElem (by have := HNN.out; omega), hx]; rfl)),
                 ((h.cell (p := ⟨bi, oi + t, none⟩) hbi').trans (hbw.cell (p := ⟨bi, oi + t, none⟩) hbi)).trans (hci t _ (by rw [List.getElem?_map, List.getElem?_eq_getElem (by have := HNN.out; omega), hy]; rfl))⟩
              obtain ⟨c1, c2, c3⟩ := KS wr hbr
              have HX := Lib.hid hx
              have HY := Lib.hid hy
              clear hci hx hy dd2
              have hw1 : IntKind.i64.wrap (t : Int) = (t : Int) := by rw [IntKind.wrap_i64]; omega
              have hw2 : IntKind.i64.wrap ((t : Int) + 1 - 1) = (t : Int) := by rw [show (t : Int) + 1 - 1 = t by omega]; exact hw1
              have hw3 : IntKind.i64.wrap (((t + 1 : Nat) : Int) - 1) = (t : Int) := by rw [show (((t + 1 : Nat) : Int) - 1) = t by omega]; exact hw1
              have hI1 : (t : Int) < (t : Int) + 1 := by omega
              go_wp2_with fail
              go_region_held_law (fun w' => w'.cell? ⟨bv, ov + k * 3 + 2, none⟩ = some (.slice (some ⟨bi, oi, none⟩) (t + 1) cs) ∧ w'.cell? ⟨bi, oi + m, none⟩ = some (.int .u64 x) ∧ w'.cell? ⟨bi, oi + t, none⟩ = some (.int .u64 y))
                (first | exact ⟨c1, c2, c3⟩ | exact KS _ hb9 | exact KS _ (hbr.trans ((((Below.refl wr.heap.size wr).drew).alloc (Nat.le_refl _) _).mono hbr.size)))
                ((refine step_append_rd (by rfl) (.tmp 60) (.tmp 83) _ (by rfl) wo.heap.size 45 i0 (.int .u64 0) 1 8 Try.underlying30 hi hz0 hz1 hz2 rfl (by decide) _ _ _ (by rfl) (by exact own_later hown (((Below.refl wr.heap.size wr).drew).alloc (Nat.le_refl _) _)) _ 2 [U x, U y] (by rfl) (by exact alloc_two wr.drew (U x) (U y) 45) (by simp [Value.oneCell']) (by unfold maxLen; omega) (by omega) (by have := hbr.size; simp; omega) ?_; intro v9 w9 hown9 hgrow _; have hb9 : Below wo.heap.size wo w9 := (hbr.trans ((((Below.refl wr.heap.size wr).drew).alloc (Nat.le_refl _) _).mono hbr.size)).grown hgrow (by have := hbr.size; simp; omega) (fun m hm => (hown.lt m hm).1)))
              all_goals (
                have R : w9.ownsRow wo.heap.size 45 1 v9 (T ++ [x, y]).length ((T ++ [x, y]).map U) := by
                  have e1 : (T ++ [x, y]).length = T.length + 2 := by simp
                  rw [e1, List.map_append]; exact hown9
                have HB9 := Lib.hid hb9
                clear hown9 hgrow hown hb9
                go_wp2
                go_roundw
                case rel =>
                  refine ⟨m, (m : Int) - 1, T ++ [x, y], by omega, rfl, ?_, R, by simp; omega, Lib.hid (fun u hu => ?_), Lib.hid (fun u hu hmu => ?_), HB9.out⟩
                  · rcases Nat.eq_zero_or_pos m with h | h
                    · exact .inl ⟨h, by omega⟩
                    · exact .inr ⟨m - 1, by omega, by omega⟩
                  · rcases List.mem_append.1 hu with h | h
                    · exact HT1.out u h
                    · rcases List.mem_cons.1 h with rfl | h
                      · rw [← HX.out]; exact List.getElem_mem _
                      · rw [List.mem_singleton] at h
                        subst h
                        rw [← HY.out]; exact List.getElem_mem _
                  · rcases Nat.lt_or_ge m u with h | h
                    · exact List.mem_append_left _ (HT2.out u hu (by omega))
                    · have : u = m := by omega
                      subst this
                      rw [HX.out]; exact List.mem_append_right _ (by simp)
                case measure => simp [intOf] <;> omega)
      · have hC := hHr.1
        clear hHr
        go_wp2
        go_ret
        exact ⟨rfl, hC.2⟩
end Go.Proofs.Ytkhcckfnaahbeaa.lawSets
