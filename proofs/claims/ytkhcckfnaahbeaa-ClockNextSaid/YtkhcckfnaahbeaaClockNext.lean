/- ClockNext: the walk. -/
import Derived.Test.YtkhcckfnaahbeaaClkLaw
import Derived.Deep.RegionHeldLaw
namespace Go.Proofs.Ytkhcckfnaahbeaa.lawNext
open Go.RowKit Go.Proofs.Ytkhcckfnaahbeaa

def gM (F : Int) (S : Ck) (ids : List Int) : Int := if S.last = -1 then F + S.wait else max (F + S.wait) (S.last + (if setL ids = S.told then S.rep else S.gap))
theorem from_g (S : Ck) (now : Int) (ids : List Int) : fromM S now ids = max (gM (if S.first = -1 then now else S.first) S ids) now := by
  unfold fromM gM
  by_cases h : S.first = -1
  · simp only [if_pos h]
  · simp only [if_neg h]
theorem next_step {S : Ck} (h : S.Ok) {N n : Int} {ids : List Int} (hN : S.now = N) (hN2 : N ≤ 4800) (hne : ids ≠ []) (h8 : ids.length ≤ 8) (hn : nextM S ids = n) :
    N ≤ n ∧ n ≤ 106000 ∧ (n = N → dueM S N ids = true) ∧ (N < n → askM S N ids = false ∧ errM S N = 0 ∧ (leftM S N ids).Ok ∧ askM (leftM S N ids) (n - 1) ids = false ∧ errM (leftM S N ids) (n - 1) = 0 ∧ (leftM (leftM S N ids) (n - 1) ids).Ok ∧
      askM (leftM (leftM S N ids) (n - 1) ids) n ids = true ∧ errM (leftM (leftM S N ids) (n - 1) ids) n = 0) := by
  have hle := fromM_le h ids (Int.le_refl S.now)
  have h0 := h.n0
  have hf0 := h.f0
  have hfr : fromM S N ids = n := by
    unfold nextM at hn
    rw [if_neg hne, hN] at hn
    rw [hN] at hle
    rw [if_pos (by omega)] at hn
    exact hn
  have hok : okM S N = true := by simp only [okM, decide_eq_true_eq]; omega
  have hat := atM_ok hok
  rw [hN, hfr] at hle
  refine ⟨hle.1, by omega, fun e => ?_, fun hlt => ?_⟩
  · unfold dueM
    rw [if_neg hne, hat, hfr]
    exact decide_eq_true (by omega)
  · have hd : dueM S N ids = false := by
      unfold dueM
      rw [if_neg hne, hat, hfr]
      exact decide_eq_false (by omega)
    have ok1 := leftM_ok h N ids (by omega)
    have e1 : leftM S N ids = ⟨S.wait, S.gap, S.rep, if S.first = -1 then N else S.first, S.last, N, S.told⟩ := by
      rw [leftM_eq hok, hd, if_neg hne]; simp
    rw [e1] at ok1 ⊢
    have hF : (if S.first = -1 then N else S.first) ≠ -1 := by split <;> omega
    generalize hFF : (if S.first = -1 then N else S.first) = F at *
    have hg : gM F S ids = n := by
      rw [from_g, hFF] at hfr; omega
    have hok1 : okM ⟨S.wait, S.gap, S.rep, F, S.last, N, S.told⟩ (n - 1) = true := by simp only [okM, decide_eq_true_eq]; omega
    have f1 : ∀ m M, fromM ⟨S.wait, S.gap, S.rep, F, S.last, M, S.told⟩ m ids = max n m := by
      intro m M
      rw [from_g]
      simp only [if_neg hF]
      rw [← hg]; rfl
    have hd1 : dueM ⟨S.wait, S.gap, S.rep, F, S.last, N, S.told⟩ (n - 1) ids = false := by
      unfold dueM
      rw [if_neg hne, atM_ok hok1, f1]
      exact decide_eq_false (by omega)
    have ok2 := leftM_ok ok1 (n - 1) ids (by omega)
    have e2 : leftM ⟨S.wait, S.gap, S.rep, F, S.last, N, S.told⟩ (n - 1) ids = ⟨S.wait, S.gap, S.rep, F, S.last, n - 1, S.told⟩ := by
      rw [leftM_eq hok1, hd1, if_neg hne]; simp only [if_neg hF]; simp
    rw [e2] at ok2 ⊢
    have hok2 : okM ⟨S.wait, S.gap, S.rep, F, S.last, n - 1, S.told⟩ n = true := by simp only [okM, decide_eq_true_eq]; omega
    have hd2 : dueM ⟨S.wait, S.gap, S.rep, F, S.last, n - 1, S.told⟩ n ids = true := by
      unfold dueM
      rw [if_neg hne, atM_ok hok2, f1]
      exact decide_eq_true (by omega)
    refine ⟨?_, ?_, ok1, ?_, ?_, ok2, ?_, ?_⟩
    · unfold askM; rw [hd, Bool.and_false]
    · unfold errM; rw [if_pos hok]
    · unfold askM; rw [hd1, Bool.and_false]
    · unfold errM; rw [if_pos hok1]
    · unfold askM; rw [hd2, hok2]; rfl
    · unfold errM; rw [if_pos hok2]
theorem cut_ids {w : World} {a : Option Addr} {c : Nat} {ids : List Int} (h : IdsAt w (.slice a ids.length c) ids) : IdsAt w (.slice a (min (ids.length : Int) 8).toNat c) (ids.take 8) := cutS_ids (s := ⟨0, 0, .slice a ids.length c, ids⟩) h
theorem Cs.beside {w0 : World} {p q : Nat} {S T : Ck} {W W' : World} (hq : Cs w0 q T W) (hp : Cs w0 p S W) (hne : q ≠ p) (hg : W.grownBy W' (some p)) : Cs w0 q T W' := ⟨hq.1.beside hp.1 hne hg, hq.2.trans (below_of_row hg hp.1.1 hp.2.size)⟩

set_option maxHeartbeats 3200000 in
set_option maxRecDepth 100000 in
theorem walk (a b c : Int) (v0 : Value) (l : List Stp) (v2 : Value) (ids0 : List Int) (w : World) (hA : ArgStps w v0 l) (hA2 : ArgIds w v2 ids0) :
    Calls Try.prog 4 #[.agg #[.int .i64 a, .int .i64 b, .int .i64 c], v0, v2] w fun e w' => e = .returned (.bool true) ∧ Below w.heap.size w w' := by
  have HIDS := Lib.hid (early_ids hA)
  have HLE := Lib.hid (early_le l)
  obtain ⟨a0, c0, rfl, hc0, _⟩ := RdAt.shape hA2.1
  have hids2 := cut_ids hA2.1
  have hm := hA2.2
  unfold maxLen at hm
  have hx0 : (0 : Int) ≤ (ids0.length : Int) := by omega
  have hlen : (min (ids0.length : Int) 8).toNat = (ids0.take 8).length := by rw [List.length_take]; omega
  have h8 : (ids0.take 8).length ≤ 8 := by rw [List.length_take]; omega
  clear hA2
  generalize ids0.take 8 = ids at *
  rw [hlen] at hids2
  go_enter Try.func4, Try.ntmps4
  go_wp2_with fail
  refine (lives_any _).mono ?_
  rintro e w1 ⟨rfl, hb1⟩
  obtain ⟨g0, g1, g2, hgl, hb⟩ := box3 _ _ _ _ _ _ hb1
  clear hb1
  have K3 : ∀ W, Below w1.heap.size w1 W → W.cell? ⟨w.heap.size, 0, none⟩ = some (.int .i64 a) ∧ W.cell? ⟨w.heap.size, 1, none⟩ = some (.int .i64 b) ∧ W.cell? ⟨w.heap.size, 2, none⟩ = some (.int .i64 c) := fun W h =>
    ⟨(h.cell (p := ⟨w.heap.size, 0, none⟩) hgl).trans g0, (h.cell (p := ⟨w.heap.size, 1, none⟩) hgl).trans g1, (h.cell (p := ⟨w.heap.size, 2, none⟩) hgl).trans g2⟩
  go_upto_region 3 with fail
  go_cut [7, 8] (fun s5 s6 wx => ∃ p q : Nat, s5 = .pointer (some ⟨p, 0, none⟩) ∧ s6 = .pointer (some ⟨q, 0, none⟩) ∧ p ≠ q ∧ Cs w p (newM a b c) wx ∧ Cs w q (newM a b c) wx)
  case first =>
    go_region_held_law (fun w' => w'.cell? ⟨w.heap.size, 0, none⟩ = some (.int .i64 a) ∧ w'.cell? ⟨w.heap.size, 1, none⟩ = some (.int .i64 b) ∧ w'.cell? ⟨w.heap.size, 2, none⟩ = some (.int .i64 c))
      (first | exact ⟨g0, g1, g2⟩ | exact K3 _ hBd | exact K3 _ hBc)
      (first
        | (go_at_call 10; refine (new_any a b c w1.drew).mono ?_; rintro e wc1 ⟨p1, rfl, hC1, hp1, hbc⟩; have hBc : Below w1.heap.size w1 wc1 := ((Below.refl _ _).drew).trans hbc)
        | (go_at_call 10; refine (new_any a b c wc1).mono ?_; rintro e wd1 ⟨p2, rfl, hC2, hp2, hbd⟩; have hBd : Below w1.heap.size w1 wd1 := hBc.trans (hbd.mono hBc.size)))
    all_goals (
      have R1 : Cs w p1 (newM a b c) wd1 := ⟨(hC1.low hb.size).later hbd, hb.trans (hBd.mono hb.size)⟩
      have R2 : Cs w p2 (newM a b c) wd1 := ⟨hC2.low (Nat.le_trans hb.size hBc.size), hb.trans (hBd.mono hb.size)⟩
      have hne12 : p1 ≠ p2 := by have := hC2.1; omega
      clear hC1 hC2 hbc hbd hBc hBd
      go_wp2_with fail
      go_meet
      first | exact ⟨p1, p2, rfl, rfl, hne12, R1, R2⟩ | exact ⟨p2, p1, rfl, rfl, fun h => hne12 h.symm, R2, R1⟩)
  case rest =>
    obtain ⟨p, q, rfl, rfl, hpq, hCs, hDs⟩ := hcut
    have hqp : q ≠ p := fun h => hpq h.symm
    clear K3 g0 g1 g2 hgl hb
    have hS0 := newM_ok a b c
    have hN0 : (newM a b c).now = 0 := rfl
    have hp := hCs.lt
    have hq := hDs.lt
    go_wp2_with fail
    refine (early_any wc (hA.later hCs.2)).mono ?_
    rintro e w3 ⟨v, rfl, hst, hfr, hb3⟩
    have hfar : v.ownBlock ≠ some p := fun e => by have := hfr p e; omega
    have hfarq : v.ownBlock ≠ some q := fun e => by have := hfr q e; omega
    have hH : Hd w p v (earlyL l) (newM a b c) w3 := ⟨hCs.later hb3, hst⟩
    have hD3 := hDs.later hb3
    obtain ⟨av, cv, rfl, hcv, _⟩ := hst
    clear hA hCs hDs hfr hb3 hp hq
    generalize earlyL l = L at *
    generalize newM a b c = S0 at *
    go_wp2
    go_loopw [9, 10] (fun vn vi wr => ∃ (k : Nat) (N : Int) (S : Ck), k ≤ L.length ∧ vi = .int .i64 k ∧ vn = .int .i64 N ∧ 0 ≤ N ∧ N ≤ k * 60 ∧ Hid (S.now = N) ∧ S.Ok ∧ Hd w p (.slice av L.length cv) L S wr ∧ Cs w q S wr) (fun _ vi _ => L.length - (intOf vi).toNat)
    case atStart => exact ⟨0, 0, S0, Nat.zero_le _, rfl, rfl, Int.le_refl _, by omega, Lib.hid hN0, hS0, hH, hD3⟩
    case round =>
      obtain ⟨k, N, S, hk, rfl, rfl, hn0, hn1, HSN, hS, hHr, hDr⟩ := hrel
      have hL80 := HLE.out
      by_cases hkl : k < L.length
      · obtain ⟨s, hse⟩ : ∃ s, L[k] = s := ⟨_, rfl⟩
        obtain ⟨hids, hid8⟩ := HIDS.out s (by rw [← hse]; exact List.getElem_mem hkl)
        obtain ⟨_, _, hv, _, hcx⟩ := hHr.2
        cases hv
        obtain ⟨bv, ov, rfl, hbv, hcells⟩ := hcx (by omega)
        obtain ⟨d0, d1, d2⟩ := hcells k hkl
        rw [hse] at d0 d1 d2
        obtain ⟨M, hM, hM60⟩ := uintMod s.by_ 60 (by decide) (by decide)
        have HSE := Lib.hid hse
        have hok : okM S (N + M) = true := by have := HSN.out; simp only [okM, decide_eq_true_eq]; omega
        have S1ok := leftM_ok hS (N + M) s.ids (by omega)
        have S1n : Hid ((leftM S (N + M) s.ids).now = N + M) := Lib.hid (leftM_now hok)
        have k1 := ask_arg hHr.1 (N + M) s.ids s.v hids (by omega) hS
        have hst := hHr.2
        clear hcells hse hcx hok
        go_wp2_with fail
        refine k1.mono ?_
        rintro e w4 ⟨rfl, c4, hg4⟩
        have h4 : Hd w p _ L (leftM S (N + M) s.ids) w4 := hHr.ask hfar c4 hg4
        have e4 : Cs w q S w4 := Cs.beside hDr hHr.1 hqp hg4
        obtain ⟨_, _, d2'⟩ := h4.2.at3 hkl HSE.out
        have k2 := ask_arg e4 (N + M) s.ids s.v hids (by omega) hS
        clear k1 c4 hg4 hHr hDr hst d0 d1 d2
        go_wp2_with fail
        refine k2.mono ?_
        rintro e w5 ⟨rfl, c5, hg5⟩
        have h5 : Hd w p _ L (leftM S (N + M) s.ids) w5 := ⟨Cs.beside h4.1 e4 hpq hg5, h4.2.beside hg5 hfarq⟩
        clear k2 h4 e4 hg5 d2'
        go_wp2
        go_roundw
        case rel => exact ⟨k + 1, N + M, leftM S (N + M) s.ids, by omega, by go_num, rfl, by omega, by omega, S1n, S1ok, h5, c5⟩
        case measure => simp [intOf]; omega
      · have hC := hHr.1
        clear hHr
        by_cases hne : ids = []
        · subst hne
          have k1 := next_any S [] wr w.heap.size p (.slice a0 0 c0) hC.1 (hids2.later hC.2) (by simp) hS
          rw [show nextM S [] = -1 by (unfold nextM; rw [if_pos rfl])] at k1
          clear HSN
          go_wp2_with fail
          refine k1.mono ?_
          rintro e w4 ⟨rfl, hb4⟩
          have h4 := hC.later hb4
          have k2 := due_any S N [] w4 w.heap.size p (.slice a0 0 c0) h4.1 (hids2.later h4.2) (by simp) hS
          rw [show dueM S N [] = false by (unfold dueM; rw [if_pos rfl])] at k2
          clear k1 hC hb4
          go_wp2_with fail
          refine k2.mono ?_
          rintro e w5 ⟨rfl, hb5⟩
          have h5 := h4.later hb5
          clear k2
          go_wp2
          go_ret
          exact ⟨rfl, h5.2⟩
        · have hn : ¬ (ids.length : Int) = 0 := by intro h; exact hne (List.length_eq_zero_iff.1 (by omega))
          have hnb : ((ids.length : Int) == 0) = false := by simpa using hne
          obtain ⟨n, hnn⟩ : ∃ n, nextM S ids = n := ⟨_, rfl⟩
          obtain ⟨t1, t2, t3, t4⟩ := next_step hS HSN.out (by omega) hne h8 hnn
          have T3 := Lib.hid t3
          have T4 := Lib.hid t4
          have HNN := Lib.hid hnn
          have k1 := next_any S ids wr w.heap.size p _ hC.1 (hids2.later hC.2) (by omega) hS
          rw [hnn] at k1
          clear hne hnn t3 t4
          go_wp2_with fail
          refine k1.mono ?_
          rintro e w4 ⟨rfl, hb4⟩
          have h4 := hC.later hb4
          have e4 := hDr.later hb4
          clear k1 hC hDr hb4
          rcases Int.lt_or_le N n with hlt | hle
          · have hnb2 : (n == N) = false := by simp; omega
            obtain ⟨y1, y2, y3, y4, y5, y6, y7, y8⟩ := T4.out hlt
            have k2 := ask_arg h4 N ids _ hids2 (by omega) hS
            rw [y1, y2] at k2
            clear y1 y2
            generalize leftM S N ids = S1 at *
            go_wp2_with fail
            refine k2.mono ?_
            rintro e w5 ⟨rfl, c5, hg5⟩
            have e5 : Cs w q S w5 := Cs.beside e4 h4 hqp hg5
            have k3 := ask_arg c5 (n - 1) ids _ hids2 (by omega) y3
            rw [y4, y5] at k3
            clear y4 y5 k2 h4 e4 hg5
            generalize leftM S1 (n - 1) ids = S2 at *
            go_wp2_with fail
            refine k3.mono ?_
            rintro e w6 ⟨rfl, c6, hg6⟩
            have e6 : Cs w q S w6 := Cs.beside e5 c5 hqp hg6
            have k4 := ask_arg c6 n ids _ hids2 (by omega) y6
            rw [y7, y8] at k4
            clear y7 y8 k3 c5 e5 hg6
            go_wp2_with fail
            refine k4.mono ?_
            rintro e w7 ⟨rfl, c7, hg7⟩
            have e7 : Cs w q S w7 := Cs.beside e6 c6 hqp hg7
            have k5 := next_any S ids w7 w.heap.size q _ e7.1 (hids2.later e7.2) (by omega) hS
            rw [HNN.out] at k5
            clear k4 c6 e6 hg7 c7
            go_wp2_with fail
            refine k5.mono ?_
            rintro e w8 ⟨rfl, hb8⟩
            have e8 := e7.later hb8
            clear k5
            go_wp2
            go_ret
            exact ⟨rfl, e8.2⟩
          · have hnN : n = N := by omega
            have hdu := T3.out hnN
            have k2 := due_any S N ids w4 w.heap.size p _ h4.1 (hids2.later h4.2) (by omega) hS
            rw [hdu] at k2
            clear T3 T4 HNN t1 t2 hle hdu
            subst hnN
            go_wp2_with fail
            refine k2.mono ?_
            rintro e w5 ⟨rfl, hb5⟩
            have h5 := h4.later hb5
            clear k2
            go_wp2
            go_ret
            exact ⟨rfl, h5.2⟩
end Go.Proofs.Ytkhcckfnaahbeaa.lawNext
