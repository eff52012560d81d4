/- lychgateref12: Due, Ask, Next. -/
import Derived.Test.YtkhcckfnaahbeaaClkLives
import Derived.Test.YtkhcckfnaahbeaaRefSet
import Derived.Test.YtkhcckfnaahbeaaSame12
namespace Go.Proofs.Ytkhcckfnaahbeaa
open Go.RowKit

def gR (F : Int) (S : Ck) (ids : List Int) : Int := if S.last = -1 then F + S.wait else max (F + S.wait) (S.last + (if setL ids = S.told then S.rep else S.gap))
theorem from_gR (S : Ck) (now : Int) (ids : List Int) : fromM S now ids = max (gR (if S.first = -1 then now else S.first) S ids) now := by
  unfold fromM gR
  by_cases h : S.first = -1
  · simp only [if_pos h]
  · simp only [if_neg h]
theorem due_gR {S : Ck} {now T : Int} {ids : List Int} (hT : atM S now = T) (hne : ids ≠ []) : dueM S now ids = decide (gR (if S.first = -1 then T else S.first) S ids ≤ T) := by
  unfold dueM
  rw [if_neg hne, hT, from_gR]
  exact decide_eq_decide.2 (by omega)

set_option maxHeartbeats 3200000 in
set_option maxRecDepth 100000 in
theorem rdue_any (S : Ck) (now : Int) (ids : List Int) (w : World) (base p : Nat) (v : Value) (hC : RClkAt w base p S) (hids : IdsAt w v ids) (h12 : ids.length ≤ 12) (hS : S.Ok) :
    Calls Try.prog 21 #[.pointer (some ⟨p, 0, none⟩), .int .i64 now, v] w fun e w' => e = .returned (.bool (dueM S now ids)) ∧ Below w.heap.size w w' := by
  have hset := refset_any ids w v hids (by omega)
  have hcells : ∀ W, Below w.heap.size w W → ∃ tv, W.cell? ⟨p, 0, none⟩ = some (.int .i64 S.wait) ∧ W.cell? ⟨p, 1, none⟩ = some (.int .i64 S.gap) ∧ W.cell? ⟨p, 2, none⟩ = some (.int .i64 S.rep) ∧ W.cell? ⟨p, 3, none⟩ = some (.int .i64 S.first) ∧
      W.cell? ⟨p, 4, none⟩ = some (.int .i64 S.last) ∧ W.cell? ⟨p, 5, none⟩ = some tv ∧ W.cell? ⟨p, 6, none⟩ = some (.int .i64 S.now) ∧ IdsAt W tv S.told := fun W hb => by
    obtain ⟨tv, c0, c1, c2, c3, c4, c5, c6, _, hown, _⟩ := (hC.later hb).cells
    exact ⟨tv, c0, c1, c2, c3, c4, c5, c6, IdsAt.own hown⟩
  have hat : atM S now = min (max now S.now) 1099511627776 := rfl
  have htn := atM_ge hS now
  obtain ⟨T, hT⟩ : ∃ T, atM S now = T := ⟨_, rfl⟩
  rw [hT] at hat htn
  have HT := Lib.hid hT
  have hTT := hat.symm
  have hsl := setL_len ids
  have htl := hS.t
  clear hat hids hC hT
  by_cases hne : ids = []
  · have hdm : dueM S now ids = false := by unfold dueM; rw [if_pos hne]
    rw [hdm]
    have hsn : ((setL ids).length : Int) = 0 := by rw [hne]; rfl
    have hsb : (((setL ids).length : Int) == 0) = true := by rw [hsn]; rfl
    clear hdm hne hsn
    go_enter Try.func21, Try.ntmps21
    go_wp2_with fail
    refine hset.mono ?_
    rintro e w1 ⟨v1, rfl, hown1, hb1⟩
    obtain ⟨a1, k1, rfl, _, _⟩ := RdAt.shape (RdAt.own hown1)
    obtain ⟨tv, _, _, _, _, _, _, c6, _⟩ := hcells w1 hb1
    clear hown1 hset hcells
    go_wp2
    go_ret
    exact ⟨rfl, hb1⟩
  · have hdm := due_gR HT.out hne
    have hsn : ¬ ((setL ids).length : Int) = 0 := by intro h; exact hne (setL_nil.1 (List.length_eq_zero_iff.1 (by omega)))
    have hsb : (((setL ids).length : Int) == 0) = false := by simpa using hsn
    rw [hdm]
    clear hdm hne
    have HF : Hid (∀ F, gR F S ids = if S.last = -1 then F + S.wait else max (F + S.wait) (S.last + (if setL ids = S.told then S.rep else S.gap))) := Lib.hid (fun F => rfl)
    generalize gR = GG at *
    obtain ⟨w0, wb1, g0, g1, r0, r1, f0, f1, l0, l1, n0, n1, _⟩ := hS
    obtain ⟨sm, hsm⟩ : ∃ sm, sm = decide (setL ids = S.told) := ⟨_, rfl⟩
    have HSM := Lib.hid hsm
    clear hsm
    generalize hS' : S = S' at *
    obtain ⟨wt, gp, rp, fi, la, nw, td⟩ := S'
    simp only at *
    clear hS'
    rcases Int.lt_or_le fi 0 with hf | hf
    · obtain rfl : fi = -1 := by omega
      rw [if_pos (rfl : (-1 : Int) = -1)]
      rcases Int.lt_or_le T (T + wt) with hlt | hle
      · have hres : Hid (decide (GG T ⟨wt, gp, rp, -1, la, nw, td⟩ ids ≤ T) = false) := Lib.hid (decide_eq_false (by rw [HF.out]; split <;> omega))
        go_enter Try.func21, Try.ntmps21
        go_wp2_with fail
        refine hset.mono ?_
        rintro e w1 ⟨v1, rfl, hown1, hb1⟩
        obtain ⟨a1, k1, rfl, _, _⟩ := RdAt.shape (RdAt.own hown1)
        obtain ⟨tv, c0, c1, c2, c3, c4, c5, c6, htv⟩ := hcells w1 hb1
        have HB := Lib.hid hb1
        clear hown1 hset hcells htv hb1
        go_wp2
        go_ret
        exact ⟨by rw [hres.out]; rfl, HB.out⟩
      · rcases Int.lt_or_le la 0 with hla | hla
        · obtain rfl : la = -1 := by omega
          have hres : Hid (decide (GG T ⟨wt, gp, rp, -1, -1, nw, td⟩ ids ≤ T) = true) := Lib.hid (decide_eq_true (by rw [HF.out]; simp only [if_true]; omega))
          go_enter Try.func21, Try.ntmps21
          go_wp2_with fail
          refine hset.mono ?_
          rintro e w1 ⟨v1, rfl, hown1, hb1⟩
          obtain ⟨a1, k1, rfl, _, _⟩ := RdAt.shape (RdAt.own hown1)
          obtain ⟨tv, c0, c1, c2, c3, c4, c5, c6, htv⟩ := hcells w1 hb1
          have HB := Lib.hid hb1
          clear hown1 hset hcells htv hb1
          go_wp2
          go_ret
          exact ⟨by rw [hres.out]; rfl, HB.out⟩
        · have hla1 : ¬ la = -1 := by omega
          cases sm with
          | true =>
            have hres : Hid (decide (GG T ⟨wt, gp, rp, -1, la, nw, td⟩ ids ≤ T) = decide (la + rp ≤ T)) := Lib.hid (decide_eq_decide.2 (by rw [HF.out]; simp only [if_neg hla1, if_pos (of_decide_eq_true HSM.out.symm)]; omega))
            go_enter Try.func21, Try.ntmps21
            go_wp2_with fail
            refine hset.mono ?_
            rintro e w1 ⟨v1, rfl, hown1, hb1⟩
            obtain ⟨a1, k1, rfl, _, _⟩ := RdAt.shape (RdAt.own hown1)
            obtain ⟨tv, c0, c1, c2, c3, c4, c5, c6, htv⟩ := hcells w1 hb1
            have hsame := same_any (setL ids) td w1 _ tv (IdsAt.own hown1) htv (by omega) (by omega)
            rw [← HSM.out] at hsame
            have HB := Lib.hid hb1
            have hcb : ∀ W, Below w1.heap.size w1 W → W.cell? ⟨p, 2, none⟩ = some (.int .i64 rp) ∧ W.cell? ⟨p, 4, none⟩ = some (.int .i64 la) := fun W hb => by obtain ⟨_, _, _, x2, _, x4, _⟩ := hcells W (hb1.trans (hb.mono hb1.size)); exact ⟨x2, x4⟩
            clear hown1 hset hcells htv hb1
            go_wp2_with fail
            refine hsame.mono ?_
            rintro e w2 ⟨rfl, hb2⟩
            obtain ⟨x2, x4⟩ := hcb w2 hb2
            have HB2 := Lib.hid (HB.out.trans (hb2.mono HB.out.size))
            clear hsame hcb hb2 c0 c1 c2 c3 c4 c5 c6
            go_wp2_with fail
            go_region
            all_goals go_wp2
            all_goals (go_ret; exact ⟨by rw [hres.out]; rfl, bl_drewN HB2.out 1⟩)
          | false =>
            have hres : Hid (decide (GG T ⟨wt, gp, rp, -1, la, nw, td⟩ ids ≤ T) = decide (la + gp ≤ T)) := Lib.hid (decide_eq_decide.2 (by rw [HF.out]; simp only [if_neg hla1, if_neg (of_decide_eq_false HSM.out.symm)]; omega))
            go_enter Try.func21, Try.ntmps21
            go_wp2_with fail
            refine hset.mono ?_
            rintro e w1 ⟨v1, rfl, hown1, hb1⟩
            obtain ⟨a1, k1, rfl, _, _⟩ := RdAt.shape (RdAt.own hown1)
            obtain ⟨tv, c0, c1, c2, c3, c4, c5, c6, htv⟩ := hcells w1 hb1
            have hsame := same_any (setL ids) td w1 _ tv (IdsAt.own hown1) htv (by omega) (by omega)
            rw [← HSM.out] at hsame
            have HB := Lib.hid hb1
            have hcb : ∀ W, Below w1.heap.size w1 W → W.cell? ⟨p, 1, none⟩ = some (.int .i64 gp) ∧ W.cell? ⟨p, 4, none⟩ = some (.int .i64 la) := fun W hb => by obtain ⟨_, _, x1, _, _, x4, _⟩ := hcells W (hb1.trans (hb.mono hb1.size)); exact ⟨x1, x4⟩
            clear hown1 hset hcells htv hb1
            go_wp2_with fail
            refine hsame.mono ?_
            rintro e w2 ⟨rfl, hb2⟩
            obtain ⟨x2, x4⟩ := hcb w2 hb2
            have HB2 := Lib.hid (HB.out.trans (hb2.mono HB.out.size))
            clear hsame hcb hb2 c0 c1 c2 c3 c4 c5 c6
            go_wp2_with fail
            go_region
            all_goals go_wp2
            all_goals (go_ret; exact ⟨by rw [hres.out]; rfl, bl_drewN HB2.out 1⟩)
    · have hfi : ¬ fi = -1 := by omega
      rw [if_neg hfi]
      rcases Int.lt_or_le T (fi + wt) with hlt | hle
      · have hres : Hid (decide (GG fi ⟨wt, gp, rp, fi, la, nw, td⟩ ids ≤ T) = false) := Lib.hid (decide_eq_false (by rw [HF.out]; split <;> omega))
        go_enter Try.func21, Try.ntmps21
        go_wp2_with fail
        refine hset.mono ?_
        rintro e w1 ⟨v1, rfl, hown1, hb1⟩
        obtain ⟨a1, k1, rfl, _, _⟩ := RdAt.shape (RdAt.own hown1)
        obtain ⟨tv, c0, c1, c2, c3, c4, c5, c6, htv⟩ := hcells w1 hb1
        have HB := Lib.hid hb1
        clear hown1 hset hcells htv hb1
        go_wp2
        go_ret
        exact ⟨by rw [hres.out]; rfl, HB.out⟩
      · rcases Int.lt_or_le la 0 with hla | hla
        · obtain rfl : la = -1 := by omega
          have hres : Hid (decide (GG fi ⟨wt, gp, rp, fi, -1, nw, td⟩ ids ≤ T) = true) := Lib.hid (decide_eq_true (by rw [HF.out]; simp only [if_true]; omega))
          go_enter Try.func21, Try.ntmps21
          go_wp2_with fail
          refine hset.mono ?_
          rintro e w1 ⟨v1, rfl, hown1, hb1⟩
          obtain ⟨a1, k1, rfl, _, _⟩ := RdAt.shape (RdAt.own hown1)
          obtain ⟨tv, c0, c1, c2, c3, c4, c5, c6, htv⟩ := hcells w1 hb1
          have HB := Lib.hid hb1
          clear hown1 hset hcells htv hb1
          go_wp2
          go_ret
          exact ⟨by rw [hres.out]; rfl, HB.out⟩
        · have hla1 : ¬ la = -1 := by omega
          cases sm with
          | true =>
            have hres : Hid (decide (GG fi ⟨wt, gp, rp, fi, la, nw, td⟩ ids ≤ T) = decide (la + rp ≤ T)) := Lib.hid (decide_eq_decide.2 (by rw [HF.out]; simp only [if_neg hla1, if_pos (of_decide_eq_true HSM.out.symm)]; omega))
            go_enter Try.func21, Try.ntmps21
            go_wp2_with fail
            refine hset.mono ?_
            rintro e w1 ⟨v1, rfl, hown1, hb1⟩
            obtain ⟨a1, k1, rfl, _, _⟩ := RdAt.shape (RdAt.own hown1)
            obtain ⟨tv, c0, c1, c2, c3, c4, c5, c6, htv⟩ := hcells w1 hb1
            have hsame := same_any (setL ids) td w1 _ tv (IdsAt.own hown1) htv (by omega) (by omega)
            rw [← HSM.out] at hsame
            have HB := Lib.hid hb1
            have hcb : ∀ W, Below w1.heap.size w1 W → W.cell? ⟨p, 2, none⟩ = some (.int .i64 rp) ∧ W.cell? ⟨p, 4, none⟩ = some (.int .i64 la) := fun W hb => by obtain ⟨_, _, _, x2, _, x4, _⟩ := hcells W (hb1.trans (hb.mono hb1.size)); exact ⟨x2, x4⟩
            clear hown1 hset hcells htv hb1
            go_wp2_with fail
            refine hsame.mono ?_
            rintro e w2 ⟨rfl, hb2⟩
            obtain ⟨x2, x4⟩ := hcb w2 hb2
            have HB2 := Lib.hid (HB.out.trans (hb2.mono HB.out.size))
            clear hsame hcb hb2 c0 c1 c2 c3 c4 c5 c6
            go_wp2_with fail
            go_region
            all_goals go_wp2
            all_goals (go_ret; exact ⟨by rw [hres.out]; rfl, bl_drewN HB2.out 1⟩)
          | false =>
            have hres : Hid (decide (GG fi ⟨wt, gp, rp, fi, la, nw, td⟩ ids ≤ T) = decide (la + gp ≤ T)) := Lib.hid (decide_eq_decide.2 (by rw [HF.out]; simp only [if_neg hla1, if_neg (of_decide_eq_false HSM.out.symm)]; omega))
            go_enter Try.func21, Try.ntmps21
            go_wp2_with fail
            refine hset.mono ?_
            rintro e w1 ⟨v1, rfl, hown1, hb1⟩
            obtain ⟨a1, k1, rfl, _, _⟩ := RdAt.shape (RdAt.own hown1)
            obtain ⟨tv, c0, c1, c2, c3, c4, c5, c6, htv⟩ := hcells w1 hb1
            have hsame := same_any (setL ids) td w1 _ tv (IdsAt.own hown1) htv (by omega) (by omega)
            rw [← HSM.out] at hsame
            have HB := Lib.hid hb1
            have hcb : ∀ W, Below w1.heap.size w1 W → W.cell? ⟨p, 1, none⟩ = some (.int .i64 gp) ∧ W.cell? ⟨p, 4, none⟩ = some (.int .i64 la) := fun W hb => by obtain ⟨_, _, x1, _, _, x4, _⟩ := hcells W (hb1.trans (hb.mono hb1.size)); exact ⟨x1, x4⟩
            clear hown1 hset hcells htv hb1
            go_wp2_with fail
            refine hsame.mono ?_
            rintro e w2 ⟨rfl, hb2⟩
            obtain ⟨x2, x4⟩ := hcb w2 hb2
            have HB2 := Lib.hid (HB.out.trans (hb2.mono HB.out.size))
            clear hsame hcb hb2 c0 c1 c2 c3 c4 c5 c6
            go_wp2_with fail
            go_region
            all_goals go_wp2
            all_goals (go_ret; exact ⟨by rw [hres.out]; rfl, bl_drewN HB2.out 1⟩)
end Go.Proofs.Ytkhcckfnaahbeaa
