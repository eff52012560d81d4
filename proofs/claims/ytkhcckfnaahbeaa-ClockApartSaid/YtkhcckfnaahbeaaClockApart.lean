/- ClockApart: the walk. -/
import Derived.Test.YtkhcckfnaahbeaaClkLaw
import Derived.Test.YtkhcckfnaahbeaaRefSet
import Derived.Test.YtkhcckfnaahbeaaSame12
namespace Go.Proofs.Ytkhcckfnaahbeaa.lawApart
open Go.RowKit Go.Proofs.Ytkhcckfnaahbeaa

/-- what an Ask that tells has waited for -/
theorem apart_step {S : Ck} (h : S.Ok) {N : Int} {ids : List Int} (hok : okM S N = true) (ha : askM S N ids = true) :
    ids ≠ [] ∧ (S.first = -1 → S.wait ≤ 0) ∧ (0 ≤ S.first → S.first + S.wait ≤ N) ∧ (0 ≤ S.last → S.last + S.gap ≤ N) ∧ (0 ≤ S.last → setL ids = S.told → S.last + S.rep ≤ N) := by
  have hd : dueM S N ids = true := by unfold askM at ha; rw [hok] at ha; simpa using ha
  by_cases hne : ids = []
  · unfold dueM at hd; rw [if_pos hne] at hd; cases hd
  · have hf : fromM S N ids ≤ N := by
      unfold dueM at hd; rw [if_neg hne, atM_ok hok] at hd; exact of_decide_eq_true hd
    have h0 := h.r0
    have hl := h.l0
    unfold fromM at hf
    refine ⟨hne, fun h1 => ?_, fun h1 => ?_, fun h1 => ?_, fun h1 h2 => ?_⟩
    · rw [if_pos h1] at hf
      by_cases h2 : S.last = -1
      · rw [if_pos h2] at hf; omega
      · rw [if_neg h2] at hf; omega
    · rw [if_neg (by omega : ¬ S.first = -1)] at hf
      by_cases h2 : S.last = -1
      · rw [if_pos h2] at hf; omega
      · rw [if_neg h2] at hf; omega
    · rw [if_neg (by omega : ¬ S.last = -1)] at hf
      by_cases h2 : setL ids = S.told
      · rw [if_pos h2] at hf; omega
      · rw [if_neg h2] at hf; omega
    · rw [if_neg (by omega : ¬ S.last = -1), if_pos h2] at hf
      omega

set_option maxHeartbeats 3200000 in
set_option maxRecDepth 100000 in
theorem walk (a b c : Int) (v0 : Value) (l : List Stp) (w : World) (hA : ArgStps w v0 l) :
    Calls Try.prog 3 #[.agg #[.int .i64 a, .int .i64 b, .int .i64 c], v0] w fun e w' => e = .returned (.bool true) ∧ Below w.heap.size w w' := by
  have HIDS := Lib.hid (early_ids hA)
  have HLE := Lib.hid (early_le l)
  go_enter Try.func3, Try.ntmps3
  go_wp2_with fail
  refine (lives_any _).mono ?_
  rintro e w1 ⟨rfl, hb1⟩
  obtain ⟨g0, g1, g2, hgl, hb⟩ := box3 _ _ _ _ _ _ hb1
  clear hb1
  go_wp2_with fail
  refine (new_any a b c _).mono ?_
  rintro e w2 ⟨p, rfl, hC, hp, hb2⟩
  have hCs : Cs w p (newM a b c) w2 := ⟨hC.low hb.size, hb.trans (hb2.mono hb.size)⟩
  have q0 := (hb2.cell (p := ⟨w.heap.size, 0, none⟩) hgl).trans g0
  have q1 := (hb2.cell (p := ⟨w.heap.size, 1, none⟩) hgl).trans g1
  have q2 := (hb2.cell (p := ⟨w.heap.size, 2, none⟩) hgl).trans g2
  clear g0 g1 g2 hC hb2 hb hgl
  go_wp2_with fail
  refine (rnew_any a b c _).mono ?_
  rintro e w2' ⟨q, rfl, hR, hb2⟩
  have hCs' := hCs.later hb2
  have hR' : RClkAt w2' w.heap.size q (newM a b c) := hR.low hCs.2.size
  have hpq : p < w2'.heap.size := hCs'.lt
  have hqq : q < w2'.heap.size := by obtain ⟨_, _, hc, _⟩ := hR'; exact block_lt hc
  have hS0 := newM_ok a b c
  have hN0 : (newM a b c).now = 0 := rfl
  have hF0 : (newM a b c).first = -1 := rfl
  have hL0 : (newM a b c).last = -1 := rfl
  have hT0 : (newM a b c).told = [] := rfl
  clear q0 q1 q2 hR hb2 hCs
  go_wp2_with fail
  refine (early_any w2' (hA.later hCs'.2)).mono ?_
  rintro e w3 ⟨v, rfl, hst, hfr, hb3⟩
  have hfar : v.ownBlock ≠ some p := fun e => by have := hfr p e; omega
  have hH : Hd w p v (earlyL l) (newM a b c) w3 := ⟨hCs'.later hb3, hst⟩
  have hR3 := hR'.later hb3
  obtain ⟨av, cv, rfl, hcv, _⟩ := hst
  clear hA hCs' hR' hfr hb3 hp hpq hqq
  generalize earlyL l = L at *
  generalize newM a b c = S0 at *
  obtain ⟨W, hW⟩ : ∃ W, S0.wait = W := ⟨_, rfl⟩
  obtain ⟨G, hG⟩ : ∃ G, S0.gap = G := ⟨_, rfl⟩
  obtain ⟨R, hRR⟩ : ∃ R, S0.rep = R := ⟨_, rfl⟩
  have HW := Lib.hid hW
  have HG := Lib.hid hG
  have HR := Lib.hid hRR
  have hrel0 : S0.wait = W ∧ S0.gap = G ∧ S0.rep = R := ⟨hW, hG, hRR⟩
  clear hW hG hRR
  go_wp2
  go_loopw [7, 8, 9, 10, 11] (fun vn vl vf vt vi wr => ∃ (k : Nat) (N : Int) (S : Ck), k ≤ L.length ∧ vi = .int .i64 k ∧ vn = .int .i64 N ∧ vl = .int .i64 S.last ∧ vf = .int .i64 S.first ∧ wr.ownsRow w.heap.size 45 1 vt S.told.length (S.told.map U) ∧ 0 ≤ N ∧ N ≤ k * 60 ∧ Hid (S.now = N) ∧ S.Ok ∧ Hid (S.wait = W ∧ S.gap = G ∧ S.rep = R) ∧ Hd w p (.slice av L.length cv) L S wr ∧ RClkAt wr w.heap.size q S0) (fun _ _ _ _ vi _ => L.length - (intOf vi).toNat)
  case atStart => exact ⟨0, 0, S0, Nat.zero_le _, rfl, rfl, by rw [hL0], by rw [hF0], by rw [hT0]; exact World.ownsRow_nil _ _ _ _, Int.le_refl _, by omega, Lib.hid hN0, hS0, Lib.hid hrel0, hH, hR3⟩
  case round =>
    obtain ⟨k, N, S, hk, rfl, rfl, rfl, rfl, hto, hn0, hn1, HSN, hS, HWGR, hHr, hRr⟩ := hrel
    have hL80 := HLE.out
    by_cases hkl : k < L.length
    · obtain ⟨s, hse⟩ : ∃ s, L[k] = s := ⟨_, rfl⟩
      obtain ⟨hids, hid8⟩ := HIDS.out s (by rw [← hse]; exact List.getElem_mem hkl)
      obtain ⟨_, _, hv, _, hcx⟩ := hHr.2
      cases hv
      obtain ⟨bv, ov, rfl, hbv, hcells⟩ := hcx (by omega)
      obtain ⟨d0, d1, d2⟩ := hcells k hkl
      rw [hse] at d0 d1 d2
      obtain ⟨M, hM, hM60⟩ := uintMod s.by_ 60 (by decide) (by decide)
      have HSE := Lib.hid hse
      have hok : okM S (N + M) = true := by have := HSN.out; simp only [okM, decide_eq_true_eq]; omega
      have S1ok := leftM_ok hS (N + M) s.ids (by omega)
      have S1n : Hid ((leftM S (N + M) s.ids).now = N + M) := Lib.hid (leftM_now hok)
      have herr : errM S (N + M) = 0 := by unfold errM; rw [if_pos hok]
      have HEQ := Lib.hid (leftM_eq (ids := s.ids) hok)
      have HAP := Lib.hid (apart_step (ids := s.ids) hS hok)
      have HASK : Hid (askM S (N + M) s.ids = dueM S (N + M) s.ids) := Lib.hid (by unfold askM; rw [hok]; rfl)
      have hsl := setL_len s.ids
      have k1 := refset_any s.ids wr s.v (hids.later hHr.1.2) (by omega)
      have hst := hHr.2
      clear hcells hse hcx hok
      go_wp2_with fail
      refine k1.mono ?_
      rintro e w4 ⟨v4, rfl, hown4', hb4⟩
      have h4 := hHr.later hb4
      have r4 := hRr.later hb4
      have hto4 := own_later hto hb4
      have hown4 := own_base hown4' hHr.1.2.size
      obtain ⟨_, _, d2'⟩ := h4.2.at3 hkl HSE.out
      have k2 := ask_arg h4.1 (N + M) s.ids s.v hids (by omega) hS
      rw [herr] at k2
      clear k1 hst hown4' hb4 hRr hto d0 d1 d2
      obtain ⟨a4, c4, rfl, hc4, _⟩ := RdAt.shape (RdAt.own hown4)
      go_wp2_with fail
      refine k2.mono ?_
      rintro e w5 ⟨rfl, cs5, hg5⟩
      obtain ⟨hcb5, tv5, hcc5, _⟩ := h4.1.1
      have r5 := r4.beside h4.1.1 hg5
      have hto5 : w5.ownsRow w.heap.size 45 1 _ S.told.length (S.told.map U) := own_grown hto4 hg5 (.inr (row_far hto4 hcc5 (by decide)))
      have hown5 : w5.ownsRow w.heap.size 45 1 _ (setL s.ids).length ((setL s.ids).map U) := own_grown hown4 hg5 (.inr (row_far hown4 hcc5 (by decide)))
      have h5 : Hd w p _ L (leftM S (N + M) s.ids) w5 := h4.ask hfar cs5 hg5
      clear k2 hHr h4 r4 hto4 hown4 hg5 cs5 hcc5 d2' herr
      obtain ⟨A, hA⟩ : ∃ A, A = askM S (N + M) s.ids := ⟨_, rfl⟩
      rw [← hA]
      have HA := Lib.hid hA
      clear hA
      have hf0 := hS.f0
      have hl0 := hS.l0
      have hw0 := hS.w0
      have hw1 := hS.w1
      have hg1 := hS.g1
      have hr1 := hS.r1
      have hlN := hS.l1
      have hfN := hS.f1
      obtain ⟨wt, gp, rp, fi, la, nw, td⟩ := S
      simp only at *
      have hnw : nw ≤ N + M := by have := HSN.out; (try simp only at this); omega
      obtain ⟨tvr, e0, e1, e2, _, _, _, _, _, _, _⟩ := r5.cells
      rw [HW.out] at e0
      rw [HG.out] at e1
      rw [HR.out] at e2
      cases A with
      | false =>
        have HD : Hid (dueM ⟨wt, gp, rp, fi, la, nw, td⟩ (N + M) s.ids = false) := Lib.hid (by rw [← HASK.out]; exact HA.out.symm)
        by_cases hne : s.ids = []
        · have hsn : ((setL s.ids).length : Int) = 0 := by rw [hne]; rfl
          have hsb : (((setL s.ids).length : Int) == 0) = true := by rw [hsn]; rfl
          have HNE := Lib.hid hne
          clear hne hsn
          go_wp2
          go_roundw
          case rel => exact ⟨k + 1, N + M, _, by omega, by go_num, rfl, by rw [HEQ.out, HD.out]; rfl, by rw [HEQ.out, HNE.out]; rfl, by rw [HEQ.out, HD.out]; exact hto5, by omega, by omega, S1n, S1ok, Lib.hid (by rw [HEQ.out]; exact HWGR.out), h5, r5⟩
          case measure => simp [intOf]; omega
        · have hsn : ¬ ((setL s.ids).length : Int) = 0 := by intro h; exact hne (setL_nil.1 (List.length_eq_zero_iff.1 (by omega)))
          have hsb : (((setL s.ids).length : Int) == 0) = false := by simpa using hsn
          have HNE := Lib.hid hne
          clear hne
          rcases Int.lt_or_le fi 0 with hf | hf
          · obtain rfl : fi = -1 := by omega
            go_wp2
            go_roundw
            case rel => exact ⟨k + 1, N + M, _, by omega, by go_num, rfl, by rw [HEQ.out, HD.out]; rfl, by rw [HEQ.out]; simp only [if_neg HNE.out]; rfl, by rw [HEQ.out, HD.out]; exact hto5, by omega, by omega, S1n, S1ok, Lib.hid (by rw [HEQ.out]; exact HWGR.out), h5, r5⟩
            case measure => simp [intOf]; omega
          · go_wp2
            go_roundw
            case rel => exact ⟨k + 1, N + M, _, by omega, by go_num, rfl, by rw [HEQ.out, HD.out]; rfl, by rw [HEQ.out]; simp only [if_neg HNE.out]; rw [if_neg (by omega)], by rw [HEQ.out, HD.out]; exact hto5, by omega, by omega, S1n, S1ok, Lib.hid (by rw [HEQ.out]; exact HWGR.out), h5, r5⟩
            case measure => simp [intOf]; omega
      | true =>
        have HD : Hid (dueM ⟨wt, gp, rp, fi, la, nw, td⟩ (N + M) s.ids = true) := Lib.hid (by rw [← HASK.out]; exact HA.out.symm)
        obtain ⟨hne, p1, p2, p3, p4⟩ := HAP.out HA.out.symm
        try simp only at p1 p2 p3 p4
        obtain ⟨x1, x2, x3⟩ := HWGR.out
        try simp only at x1 x2 x3
        rw [x1] at p1 p2
        rw [x2] at p3
        rw [x3] at p4
        rw [x1] at hw0 hw1
        rw [x2] at hg1
        rw [x3] at hr1
        have hgr : G ≤ R := by have := hS.r0; (try simp only at this); omega
        have hg0 : 1 ≤ G := by have := hS.g0; (try simp only at this); omega
        clear x1 x2 x3
        have hsn : ¬ ((setL s.ids).length : Int) = 0 := by intro h; exact hne (setL_nil.1 (List.length_eq_zero_iff.1 (by omega)))
        have hsb : (((setL s.ids).length : Int) == 0) = false := by simpa using hsn
        have HNE := Lib.hid hne
        have hsame := same_any td (setL s.ids) w5 _ _ (IdsAt.own hto5) (IdsAt.own hown5) (by have := hS.t; (try simp only at this); omega) (by omega)
        obtain ⟨sm, hsm⟩ : ∃ sm, sm = decide (td = setL s.ids) := ⟨_, rfl⟩
        rw [← hsm] at hsame
        have HSM := Lib.hid hsm
        clear hne hsm
        rcases Int.lt_or_le la 0 with hla | hla
        · obtain rfl : la = -1 := by omega
          clear p3 p4 hsame
          rcases Int.lt_or_le fi 0 with hf | hf
          · obtain rfl : fi = -1 := by omega
            have hw : W ≤ 0 := p1 rfl
            clear p1 p2
            go_wp2
            go_roundw
            case rel => exact ⟨k + 1, N + M, _, by omega, by go_num, rfl, by rw [HEQ.out, HD.out]; rfl, by rw [HEQ.out]; simp only [if_neg HNE.out]; rfl, by rw [HEQ.out, HD.out]; exact hown5, by omega, by omega, S1n, S1ok, Lib.hid (by rw [HEQ.out]; exact HWGR.out), h5, r5⟩
            case measure => simp [intOf]; omega
          · have hfw : fi + W ≤ N + M := p2 hf
            clear p1 p2
            go_wp2
            go_roundw
            case rel => exact ⟨k + 1, N + M, _, by omega, by go_num, rfl, by rw [HEQ.out, HD.out]; rfl, by rw [HEQ.out]; simp only [if_neg HNE.out]; rw [if_neg (by omega)], by rw [HEQ.out, HD.out]; exact hown5, by omega, by omega, S1n, S1ok, Lib.hid (by rw [HEQ.out]; exact HWGR.out), h5, r5⟩
            case measure => simp [intOf]; omega
        · have hlg : la + G ≤ N + M := p3 hla
          have P4 := Lib.hid (p4 hla)
          clear p3 p4
          rcases Int.lt_or_le fi 0 with hf | hf
          · obtain rfl : fi = -1 := by omega
            have hw : W ≤ 0 := p1 rfl
            clear p1 p2
            go_wp2_with fail
            refine hsame.mono ?_
            rintro e w6 ⟨rfl, hb6⟩
            have h6 := h5.later hb6
            have r6 := r5.later hb6
            have hown6 := own_later hown5 hb6
            obtain ⟨tvr', e0', e1', e2', _, _, _, _, _, _, _⟩ := r6.cells
            rw [HR.out] at e2'
            clear h5 r5 hown5 hsame hb6 e0 e1 e2 e0' e1' hto5
            cases sm with
            | true =>
              have hlr : la + R ≤ N + M := P4.out (of_decide_eq_true HSM.out.symm).symm
              go_wp2
              go_roundw
              case rel => exact ⟨k + 1, N + M, _, by omega, by go_num, rfl, by rw [HEQ.out, HD.out]; rfl, by rw [HEQ.out]; simp only [if_neg HNE.out]; rfl, by rw [HEQ.out, HD.out]; exact hown6, by omega, by omega, S1n, S1ok, Lib.hid (by rw [HEQ.out]; exact HWGR.out), h6, r6⟩
              case measure => simp [intOf]; omega
            | false =>
              go_wp2
              go_roundw
              case rel => exact ⟨k + 1, N + M, _, by omega, by go_num, rfl, by rw [HEQ.out, HD.out]; rfl, by rw [HEQ.out]; simp only [if_neg HNE.out]; rfl, by rw [HEQ.out, HD.out]; exact hown6, by omega, by omega, S1n, S1ok, Lib.hid (by rw [HEQ.out]; exact HWGR.out), h6, r6⟩
              case measure => simp [intOf]; omega
          · have hfw : fi + W ≤ N + M := p2 hf
            clear p1 p2
            go_wp2_with fail
            refine hsame.mono ?_
            rintro e w6 ⟨rfl, hb6⟩
            have h6 := h5.later hb6
            have r6 := r5.later hb6
            have hown6 := own_later hown5 hb6
            obtain ⟨tvr', e0', e1', e2', _, _, _, _, _, _, _⟩ := r6.cells
            rw [HR.out] at e2'
            clear h5 r5 hown5 hsame hb6 e0 e1 e2 e0' e1' hto5
            cases sm with
            | true =>
              have hlr : la + R ≤ N + M := P4.out (of_decide_eq_true HSM.out.symm).symm
              go_wp2
              go_roundw
              case rel => exact ⟨k + 1, N + M, _, by omega, by go_num, rfl, by rw [HEQ.out, HD.out]; rfl, by rw [HEQ.out]; simp only [if_neg HNE.out]; rw [if_neg (by omega)], by rw [HEQ.out, HD.out]; exact hown6, by omega, by omega, S1n, S1ok, Lib.hid (by rw [HEQ.out]; exact HWGR.out), h6, r6⟩
              case measure => simp [intOf]; omega
            | false =>
              go_wp2
              go_roundw
              case rel => exact ⟨k + 1, N + M, _, by omega, by go_num, rfl, by rw [HEQ.out, HD.out]; rfl, by rw [HEQ.out]; simp only [if_neg HNE.out]; rw [if_neg (by omega)], by rw [HEQ.out, HD.out]; exact hown6, by omega, by omega, S1n, S1ok, Lib.hid (by rw [HEQ.out]; exact HWGR.out), h6, r6⟩
              case measure => simp [intOf]; omega
    · go_wp2
      go_ret
      exact ⟨rfl, hHr.1.2⟩
end Go.Proofs.Ytkhcckfnaahbeaa.lawApart
