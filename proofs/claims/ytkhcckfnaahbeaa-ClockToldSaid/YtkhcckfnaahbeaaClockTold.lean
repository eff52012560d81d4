/- ClockTold: the walk. -/
import Derived.Test.YtkhcckfnaahbeaaClkLaw
import Derived.Deep.RegionHeldLaw
namespace Go.Proofs.Ytkhcckfnaahbeaa.lawTold
open Go.RowKit Go.Proofs.Ytkhcckfnaahbeaa

/-- at the head of round k, to be asked at N -/
structure TInv (ids : List Int) (W R : Int) (k : Nat) (N : Int) (S : Ck) : Prop where
  ok : S.Ok
  wait : S.wait = W
  rep : S.rep = R
  now : S.now ≤ N
  n0 : 0 ≤ N
  n1 : N ≤ 2000 + k * 100000
  st : (k = 0 ∧ N = 7 ∧ S.first = -1 ∧ S.last = -1) ∨ (0 < k ∧ S.first = 7 ∧ S.last = -1 ∧ N = 7 + W ∧ 0 < W) ∨ (0 < k ∧ S.first = 7 ∧ 7 + W ≤ S.last ∧ S.told = setL ids ∧ N = S.last + R)
theorem told_step {ids : List Int} {W R : Int} {k : Nat} {N : Int} {S : Ck} (h : TInv ids W R k N S) (hne : ids ≠ []) (hk : k < 4) (h8 : ids.length ≤ 8) :
    okM S N = true ∧ askM S N ids = decide (W = 0 ∨ 0 < k) ∧ nextM (leftM S N ids) ids = (if W = 0 ∨ 0 < k then N + R else N + W) ∧ TInv ids W R (k + 1) (if W = 0 ∨ 0 < k then N + R else N + W) (leftM S N ids) := by
  obtain ⟨ok, wait, rep, now, n0, n1, st⟩ := h
  have hkk : (k : Int) < 4 := by omega
  have hok : okM S N = true := by simp only [okM, decide_eq_true_eq]; omega
  have ok1 := leftM_ok ok N ids (by omega)
  have hf : fromM S N ids ≤ N ↔ (W = 0 ∨ 0 < k) := by
    obtain ⟨w0, w1, g0, g1, r0, r1, f0, f1, l0, l1, n0', n1', t⟩ := ok
    unfold fromM
    rcases st with ⟨rfl, rfl, h1, h2⟩ | ⟨h0, h1, h2, h3, h4⟩ | ⟨h0, h1, h2, h3, h4⟩
    · rw [if_pos h2, if_pos h1]; omega
    · rw [if_pos h2, if_neg (by omega)]; omega
    · rw [if_neg (by omega), if_neg (by omega), if_pos h3.symm]; omega
  have hat : atM S N = N := atM_ok hok
  have hdue : dueM S N ids = decide (W = 0 ∨ 0 < k) := by
    unfold dueM; rw [if_neg hne, hat]; exact decide_eq_decide.2 hf
  have hask : askM S N ids = decide (W = 0 ∨ 0 < k) := by unfold askM; rw [hok, hdue]; rfl
  have hfirst : (leftM S N ids).first = 7 := by
    rw [leftM_eq hok]; simp only [if_neg hne]
    rcases st with ⟨_, h0, h1, _⟩ | ⟨_, h1, _⟩ | ⟨_, h1, _⟩
    · rw [if_pos h1]; exact h0
    · rw [if_neg (by omega)]; exact h1
    · rw [if_neg (by omega)]; exact h1
  have hnow : (leftM S N ids).now = N := leftM_now hok
  have hwait : (leftM S N ids).wait = W := by rw [leftM_eq hok]; exact wait
  have hrep : (leftM S N ids).rep = R := by rw [leftM_eq hok]; exact rep
  have hw0 := ok.w0; have hw1 := ok.w1; have hr1 := ok.r1; have hr0 := ok.r0; have hg0 := ok.g0; have hlast0 := ok.l0
  by_cases hc : W = 0 ∨ 0 < k
  · have hd : dueM S N ids = true := by rw [hdue]; exact decide_eq_true hc
    have hlast : (leftM S N ids).last = N := by rw [leftM_eq hok]; simp only [hd, if_true]
    have htold : (leftM S N ids).told = setL ids := by rw [leftM_eq hok]; simp only [hd, if_true]
    rw [if_pos hc]
    have hnx : nextM (leftM S N ids) ids = N + R := by
      unfold nextM
      rw [if_neg hne]
      have : fromM (leftM S N ids) (leftM S N ids).now ids = N + R := by
        unfold fromM
        rw [hlast, hfirst, htold, hnow, hwait, hrep, if_neg (by omega), if_neg (by omega), if_pos rfl]
        rcases st with ⟨rfl, rfl, h1, h2⟩ | ⟨h0, h1, h2, h3, h4⟩ | ⟨h0, h1, h2, h3, h4⟩ <;> omega
      rw [this, if_pos (by omega)]
    refine ⟨hok, hask, hnx, ⟨ok1, hwait, hrep, by omega, by omega, by omega, .inr (.inr ⟨by omega, hfirst, ?_, htold, by omega⟩)⟩⟩
    rw [hlast]
    rcases st with ⟨rfl, rfl, h1, h2⟩ | ⟨h0, h1, h2, h3, h4⟩ | ⟨h0, h1, h2, h3, h4⟩ <;> omega
  · have hd : dueM S N ids = false := by rw [hdue]; exact decide_eq_false hc
    have hlast : (leftM S N ids).last = S.last := by rw [leftM_eq hok]; simp only [hd, Bool.false_eq_true, if_false]
    rw [if_neg hc]
    have hk0 : k = 0 := by omega
    subst hk0
    have hst : N = 7 ∧ S.first = -1 ∧ S.last = -1 := by
      rcases st with ⟨_, h0, h1, h2⟩ | ⟨h0, _⟩ | ⟨h0, _⟩
      · exact ⟨h0, h1, h2⟩
      · omega
      · omega
    have hnx : nextM (leftM S N ids) ids = N + W := by
      unfold nextM
      rw [if_neg hne]
      have : fromM (leftM S N ids) (leftM S N ids).now ids = N + W := by
        unfold fromM
        rw [hlast, hfirst, hnow, hwait, if_pos hst.2.2, if_neg (by omega)]
        omega
      rw [this, if_pos (by omega)]
    exact ⟨hok, hask, hnx, ⟨ok1, hwait, hrep, by omega, by omega, by omega, .inr (.inl ⟨by omega, hfirst, by rw [hlast]; exact hst.2.2, by omega, by omega⟩)⟩⟩
theorem cut_ids {w : World} {a : Option Addr} {c : Nat} {ids : List Int} (h : IdsAt w (.slice a ids.length c) ids) : IdsAt w (.slice a (min (ids.length : Int) 8).toNat c) (ids.take 8) := cutS_ids (s := ⟨0, 0, .slice a ids.length c, ids⟩) h

set_option maxHeartbeats 3200000 in
set_option maxRecDepth 100000 in
theorem walk (a b c : Int) (v0 : Value) (ids0 : List Int) (w : World) (hA : ArgIds w v0 ids0) :
    Calls Try.prog 8 #[.agg #[.int .i64 a, .int .i64 b, .int .i64 c], v0] w fun e w' => e = .returned (.bool true) ∧ Below w.heap.size w w' := by
  obtain ⟨a0, c0, rfl, hc0, _⟩ := RdAt.shape hA.1
  have hids := cut_ids hA.1
  have hm := hA.2
  unfold maxLen at hm
  have hx0 : (0 : Int) ≤ (ids0.length : Int) := by omega
  have hlen : (min (ids0.length : Int) 8).toNat = (ids0.take 8).length := by rw [List.length_take]; omega
  have h8 : (ids0.take 8).length ≤ 8 := by rw [List.length_take]; omega
  clear hA
  generalize ids0.take 8 = ids at *
  rw [hlen] at hids
  go_enter Try.func8, Try.ntmps8
  go_wp2_with fail
  refine (lives_any _).mono ?_
  rintro e w1 ⟨rfl, hb1⟩
  obtain ⟨g0, g1, g2, hgl, hb⟩ := box3 _ _ _ _ _ _ hb1
  clear hb1
  have K3 : ∀ W, Below w1.heap.size w1 W → W.cell? ⟨w.heap.size, 0, none⟩ = some (.int .i64 a) ∧ W.cell? ⟨w.heap.size, 1, none⟩ = some (.int .i64 b) ∧ W.cell? ⟨w.heap.size, 2, none⟩ = some (.int .i64 c) := fun W h =>
    ⟨(h.cell (p := ⟨w.heap.size, 0, none⟩) hgl).trans g0, (h.cell (p := ⟨w.heap.size, 1, none⟩) hgl).trans g1, (h.cell (p := ⟨w.heap.size, 2, none⟩) hgl).trans g2⟩
  go_upto_region 4 with fail
  go_cut [5, 6] (fun s5 s6 wx => ∃ p q : Nat, s5 = .pointer (some ⟨p, 0, none⟩) ∧ s6 = .pointer (some ⟨q, 0, none⟩) ∧ Cs w p (newM a b c) wx ∧ RClkAt wx w.heap.size q (newM a b c))
  case first =>
    go_region_held_law (fun w' => w'.cell? ⟨w.heap.size, 0, none⟩ = some (.int .i64 a) ∧ w'.cell? ⟨w.heap.size, 1, none⟩ = some (.int .i64 b) ∧ w'.cell? ⟨w.heap.size, 2, none⟩ = some (.int .i64 c))
      (first | exact ⟨g0, g1, g2⟩ | exact K3 _ hBc | exact K3 _ hBr)
      (first
        | (go_at_call 10; refine (new_any a b c _).mono ?_; rintro e wc1 ⟨p, rfl, hC, hp, hbc⟩; have hBc : Below w1.heap.size w1 wc1 := by first | exact ((Below.refl _ _).drew).trans hbc | exact hBr.trans (hbc.mono hBr.size))
        | (go_at_call 11; refine (rnew_any a b c _).mono ?_; rintro e wr1 ⟨q, rfl, hR, hbr⟩; have hBr : Below w1.heap.size w1 wr1 := by first | exact ((Below.refl _ _).drew).trans hbr | exact hBc.trans (hbr.mono hBc.size)))
    all_goals (go_wp2_with fail; go_meet; first | exact ⟨p, q, rfl, rfl, ⟨(hC.low hb.size).later hbr, hb.trans (hBr.mono hb.size)⟩, hR.low (Nat.le_trans hb.size hBc.size)⟩ | exact ⟨p, q, rfl, rfl, ⟨hC.low (Nat.le_trans hb.size hBr.size), hb.trans (hBc.mono hb.size)⟩, (hR.low hb.size).later hbc⟩)
  case rest =>
    obtain ⟨p, q, rfl, rfl, hCs, hR⟩ := hcut
    clear K3 g0 g1 g2 hgl hb
    have hS0 := newM_ok a b c
    have hW : (newM a b c).wait = min (max a 0) 1000 := rfl
    by_cases hne : ids = []
    · subst hne
      have k1 := next_any (newM a b c) [] wc w.heap.size p (.slice a0 0 c0) hCs.1 (hids.later hCs.2) (by simp) hS0
      rw [show nextM (newM a b c) [] = -1 by (unfold nextM; rw [if_pos rfl])] at k1
      clear hR hW hids
      go_wp2_with fail
      refine k1.mono ?_
      rintro e w2 ⟨rfl, hb2⟩
      have h2 := hCs.later hb2
      clear k1
      go_wp2
      go_ret
      exact ⟨rfl, h2.2⟩
    · have hn : ¬ (ids.length : Int) = 0 := by intro h; exact hne (List.length_eq_zero_iff.1 (by omega))
      have hnb : ((ids.length : Int) == 0) = false := by simpa using hne
      have hT0 : TInv ids (newM a b c).wait (newM a b c).rep 0 7 (newM a b c) := ⟨hS0, rfl, rfl, by show (0 : Int) ≤ 7; omega, by omega, by omega, .inl ⟨rfl, rfl, rfl, rfl⟩⟩
      have HNE := Lib.hid hne
      clear hW hne
      generalize hSS : newM a b c = S0 at *
      clear hSS
      obtain ⟨W, hW⟩ : ∃ W, S0.wait = W := ⟨_, rfl⟩
      obtain ⟨R, hRR⟩ : ∃ R, S0.rep = R := ⟨_, rfl⟩
      have HW := Lib.hid hW
      have HR := Lib.hid hRR
      rw [hW, hRR] at hT0
      clear hW hRR
      go_wp2
      go_loopw [7, 8] (fun vn vi wr => ∃ (k : Nat) (N : Int) (S : Ck), k ≤ 4 ∧ vi = .int .i64 k ∧ vn = .int .i64 N ∧ Hid (TInv ids W R k N S) ∧ Cs w p S wr ∧ RClkAt wr w.heap.size q S0) (fun _ vi _ => 4 - (intOf vi).toNat)
      case atStart => exact ⟨0, 7, S0, by omega, rfl, rfl, Lib.hid hT0, hCs, hR⟩
      case round =>
        obtain ⟨k, N, S, hk, rfl, rfl, HT, hCr, hRr⟩ := hrel
        by_cases hk4 : k < 4
        · obtain ⟨t1, t2, t3, t4⟩ := told_step HT.out HNE.out hk4 h8
          have hok1 := leftM_ok HT.out.ok N ids (by omega)
          have herr : errM S N = 0 := by unfold errM; rw [if_pos t1]
          have k1 := ask_arg hCr N ids _ hids (by omega) HT.out.ok
          rw [t2, herr] at k1
          have hn0 := HT.out.n0
          have hn1 := HT.out.n1
          have hw0 : 0 ≤ W := by have := HT.out.ok.w0; have := HT.out.wait; omega
          have hw1 : W ≤ 1000 := by have := HT.out.ok.w1; have := HT.out.wait; omega
          have hr0 : 0 ≤ R := by have := HT.out.ok.r0; have := HT.out.ok.g0; have := HT.out.rep; omega
          have hr1 : R ≤ 100000 := by have := HT.out.ok.r1; have := HT.out.rep; omega
          clear t1 t2 herr
          generalize leftM S N ids = S1 at *
          have T3 := Lib.hid t3
          have T4 := Lib.hid t4
          clear t3 t4
          have hC0 := hCr.1
          obtain ⟨d, hd⟩ : ∃ d, d = decide (W = 0 ∨ 0 < k) := ⟨_, rfl⟩
          rw [← hd] at k1
          have HD := Lib.hid hd
          clear hd
          go_wp2_with fail
          refine k1.mono ?_
          rintro e w2 ⟨rfl, c2, hg2⟩
          have r2 : RClkAt w2 w.heap.size q S0 := hRr.beside hC0 hg2
          clear k1 hCr hRr hC0 hg2
          obtain ⟨tv, e0, _, e2, _, _, _, _, _, _, _⟩ := r2.cells
          rw [HW.out] at e0
          have k2 := next_any S1 ids w2 w.heap.size p _ c2.1 (hids.later c2.2) (by omega) hok1
          rw [T3.out] at k2
          by_cases hc : W = 0 ∨ 0 < k
          · have hdt : d = true := by rw [HD.out]; exact decide_eq_true hc
            subst hdt
            rw [if_pos hc] at k2
            have T4' : Hid (TInv ids W R (k + 1) (N + R) S1) := Lib.hid (by have := T4.out; rwa [if_pos hc] at this)
            rcases hc with hc | hc
            · subst hc
              go_wp2_with fail
              refine k2.mono ?_
              rintro e w3 ⟨rfl, hb3⟩
              have c3 := c2.later hb3
              have r3 := r2.later hb3
              obtain ⟨tv', e0', _, e2', _, _, _, _, _, _, _⟩ := r3.cells
              rw [HW.out] at e0'
              rw [HR.out] at e2'
              clear k2 c2 r2 e0 e2 hb3
              go_wp2
              go_roundw
              case rel => exact ⟨k + 1, _, S1, by omega, by go_num, rfl, T4', c3, r3⟩
              case measure => simp [intOf]; omega
            · have hwb : (W == 0) = false ∨ W = 0 := by by_cases h : W = 0; exact .inr h; exact .inl (by simpa using h)
              rcases hwb with hwb | hwb
              · have hkp : (0 : Int) < (k : Int) := by omega
                go_wp2_with fail
                refine k2.mono ?_
                rintro e w3 ⟨rfl, hb3⟩
                have c3 := c2.later hb3
                have r3 := r2.later hb3
                obtain ⟨tv', e0', _, e2', _, _, _, _, _, _, _⟩ := r3.cells
                rw [HW.out] at e0'
                rw [HR.out] at e2'
                clear k2 c2 r2 e0 e2 hb3
                go_wp2
                go_roundw
                case rel => exact ⟨k + 1, _, S1, by omega, by go_num, rfl, T4', c3, r3⟩
                case measure => simp [intOf]; omega
              · subst hwb
                go_wp2_with fail
                refine k2.mono ?_
                rintro e w3 ⟨rfl, hb3⟩
                have c3 := c2.later hb3
                have r3 := r2.later hb3
                obtain ⟨tv', e0', _, e2', _, _, _, _, _, _, _⟩ := r3.cells
                rw [HW.out] at e0'
                rw [HR.out] at e2'
                clear k2 c2 r2 e0 e2 hb3
                go_wp2
                go_roundw
                case rel => exact ⟨k + 1, _, S1, by omega, by go_num, rfl, T4', c3, r3⟩
                case measure => simp [intOf]; omega
          · have hdf : d = false := by rw [HD.out]; exact decide_eq_false hc
            subst hdf
            rw [if_neg hc] at k2
            have T4' : Hid (TInv ids W R (k + 1) (N + W) S1) := Lib.hid (by have := T4.out; rwa [if_neg hc] at this)
            have hwb : (W == 0) = false := by simp; omega
            have hk0 : k = 0 := by omega
            subst hk0
            clear hc
            go_wp2_with fail
            refine k2.mono ?_
            rintro e w3 ⟨rfl, hb3⟩
            have c3 := c2.later hb3
            have r3 := r2.later hb3
            obtain ⟨tv', e0', _, e2', _, _, _, _, _, _, _⟩ := r3.cells
            rw [HW.out] at e0'
            rw [HR.out] at e2'
            clear k2 c2 r2 e0 e2 hb3
            go_wp2
            go_roundw
            case rel => exact ⟨0 + 1, _, S1, by omega, by go_num, rfl, T4', c3, r3⟩
            case measure => simp [intOf]
        · obtain rfl : k = 4 := by omega
          have hCC := Lib.hid hCr
          clear hCr hRr hids
          go_wp2_with fail
          refine (nil_ask 1 _ _).mono ?_
          rintro e w2 ⟨rfl, rfl⟩
          go_wp2_with fail
          refine (nil_due 1 _ _).mono ?_
          rintro e w3 ⟨rfl, rfl⟩
          go_wp2_with fail
          refine (nil_next _ _).mono ?_
          rintro e w4 ⟨rfl, rfl⟩
          go_wp2_with fail
          refine (nil_last _).mono ?_
          rintro e w5 ⟨rfl, rfl⟩
          go_wp2_with fail
          refine (nil_now _).mono ?_
          rintro e w6 ⟨rfl, rfl⟩
          go_wp2_with fail
          refine (nil_told _).mono ?_
          rintro e w7 ⟨rfl, rfl⟩
          go_wp2
          go_ret
          exact ⟨rfl, hCC.out.2⟩
end Go.Proofs.Ytkhcckfnaahbeaa.lawTold
