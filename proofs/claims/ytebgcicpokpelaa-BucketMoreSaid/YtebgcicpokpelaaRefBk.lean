/- lychgateref22.Bounds, Of, Range: contracts. -/
import Derived.Test.YtebgcicpokpelaaBkFine
import Derived.Test.YtebgcicpokpelaaBox
import Derived.BigQuiet
import Derived.Deep.QuietTactic
namespace Go.Proofs.Ytebgcicpokpelaa
open Go.RowKit

/-- a bound may stand at place j -/
def bndOk (l : List Int) (j : Nat) : Prop := 1 ≤ l.getD j 0 ∧ l.getD j 0 ≤ 1099511627776 ∧ (0 < j → l.getD (j - 1) 0 < l.getD j 0)
theorem getD_at {l : List Int} {j : Nat} (h : j < l.length) : l.getD j 0 = l[j] := by rw [List.getD_eq_getElem?_getD, List.getElem?_eq_getElem h]; rfl
theorem bnd_bad {l : List Int} {j : Nat} (hj : j < l.length) (h : ¬ bndOk l j) : fineL l = false := by
  refine fineL_not (fun ⟨h1, h2, h3, h4⟩ => h ?_)
  have := h4 _ (List.getElem_mem hj)
  unfold bndOk
  rw [getD_at hj]
  refine ⟨this.1, this.2, fun h0 => ?_⟩
  rw [getD_at (by omega)]
  exact List.pairwise_iff_getElem.1 h3 (j - 1) j (by omega) hj (by omega)
theorem bnd_good {l : List Int} (h : ∀ j, j < l.length → bndOk l j) : fineL l = (decide (1 ≤ l.length) && decide (l.length ≤ 20)) := by
  by_cases h1 : 1 ≤ l.length
  · by_cases h2 : l.length ≤ 20
    · rw [decide_eq_true h1, decide_eq_true h2]
      refine fineL_of h1 h2 ?_ ?_ (fun j hj => ?_)
      · have := (h 0 (by omega)).1; rwa [getD_at (by omega)] at this
      · have := (h (l.length - 1) (by omega)).2.1; rwa [getD_at (by omega)] at this
      · have := (h (j + 1) hj).2.2 (by omega); rwa [getD_at (by omega), getD_at (by omega)] at this
    · rw [fineL_not (fun h => h2 h.2.1), decide_eq_false h2, Bool.and_false]
  · rw [fineL_not (fun h => h1 h.1), decide_eq_false h1, Bool.false_and]

set_option maxHeartbeats 4000000 in
set_option maxRecDepth 100000 in
theorem bounds_any (l : List Int) (w : World) (v : Value) (hv : IntsAt w v l) (hl : l.length ≤ 1000) :
    Calls Try.prog 35 #[v] w fun e w' => e = .returned (.bool (fineL l)) ∧ Below w.heap.size w w' := by
  obtain ⟨a, c, rfl, hc, hr⟩ := RdAt.shape hv
  have HR := Lib.hid hr
  clear hr hv
  go_enter Try.func35, Try.ntmps35
  go_wp2
  go_loopw [3] (fun i wr => ∃ k : Nat, k ≤ l.length ∧ i = .int .i64 k ∧ Hid (∀ j, j < k → bndOk l j) ∧ Below w.heap.size w wr) (fun i _ => l.length - (intOf i).toNat)
  case atStart => exact ⟨0, Nat.zero_le _, rfl, Lib.hid (fun j hj => absurd hj (Nat.not_lt_zero j)), Below.refl _ _⟩
  case round =>
    obtain ⟨k, hk, rfl, HT, hbr⟩ := hrel
    by_cases hkl : k < l.length
    · obtain ⟨x, hxe⟩ : ∃ x, l[k] = x := ⟨_, rfl⟩
      obtain ⟨b, o, rfl, hb, hcell⟩ := HR.out (by omega)
      have hcx : wr.cell? ⟨b, o + k, none⟩ = some (.int .i64 x) := keep_cell (hcell k _ (by rw [List.getElem?_map, List.getElem?_eq_getElem hkl, hxe]; rfl)) hbr hb
      have hcy : ∀ m, k = m + 1 → wr.cell? ⟨b, o + m, none⟩ = some (.int .i64 (l.getD m 0)) := fun m hm => keep_cell (hcell m _ (by rw [List.getElem?_map, List.getElem?_eq_getElem (by omega), getD_at (by omega)]; rfl)) hbr hb
      have hgx : l.getD k 0 = x := by rw [getD_at hkl]; exact hxe
      have hstep : bndOk l k → Hid (∀ j, j < k + 1 → bndOk l j) := fun h => Lib.hid (fun j hj => by
        rcases Nat.lt_or_ge j k with h' | h'
        · exact HT.out j h'
        · obtain rfl : j = k := by omega
          exact h)
      have hbad : ¬ bndOk l k → Hid (fineL l = false) := fun h => bnd_bad hkl h
      unfold bndOk at hstep hbad
      rw [hgx] at hstep hbad
      clear hcell hxe hgx HT
      by_cases h1 : 1 ≤ x
      · by_cases h2 : x ≤ 1099511627776
        · rcases Nat.eq_zero_or_pos k with rfl | h0
          · rw [Nat.add_zero] at hcx
            have g1 : decide (x < 1) = false := decide_eq_false (by omega)
            have g2 : decide (1099511627776 < x) = false := decide_eq_false (by omega)
            have HN := hstep ⟨h1, h2, fun h => absurd h (Nat.lt_irrefl _)⟩
            clear hstep hbad hcy h1 h2
            go_wp2
            go_quiet (fail)
            have hb2 : Below w.heap.size w (wr.drewN nq) := bl_drewN hbr nq
            generalize wr.drewN nq = wq at *
            go_wp2
            go_roundw
            case rel => exact ⟨0 + 1, by omega, by go_num, HN, hb2⟩
            case measure => (simp [intOf]; try omega)
          · have hcm := hcy (k - 1) (by omega)
            clear hcy
            obtain ⟨y, hye⟩ : ∃ y, l.getD (k - 1) 0 = y := ⟨_, rfl⟩
            rw [hye] at hcm hstep hbad
            clear hye
            have g1 : decide (x < 1) = false := decide_eq_false (by omega)
            have g2 : decide (1099511627776 < x) = false := decide_eq_false (by omega)
            have g3 : (0 : Int) < (k : Int) := by omega
            have hz2 : (1 : Int) ≤ (k : Int) ∧ (k : Int) - 1 < (l.length : Int) := by omega
            by_cases h3 : y < x
            · have HN := hstep ⟨h1, h2, fun _ => h3⟩
              clear hstep hbad h1 h2
              go_wp2
              go_quiet (fail)
              have hb2 : Below w.heap.size w (wr.drewN nq) := bl_drewN hbr nq
              generalize wr.drewN nq = wq at *
              go_wp2
              go_roundw
              case rel => exact ⟨k + 1, by omega, by go_num, HN, hb2⟩
              case measure => (simp [intOf]; try omega)
            · have HF := hbad (fun h => h3 (h.2.2 h0))
              clear hstep hbad h1 h2
              go_wp2
              go_quiet (fail)
              have hb2 : Below w.heap.size w (wr.drewN nq) := bl_drewN hbr nq
              generalize wr.drewN nq = wq at *
              go_wp2
              go_ret
              exact ⟨by rw [HF.out]; rfl, hb2⟩
        · have HF := hbad (fun h => h2 h.2.1)
          have g1 : decide (x < 1) = false := decide_eq_false (by omega)
          have g2 : (1099511627776 : Int) < x := by omega
          clear hstep hbad hcy h1 h2
          go_wp2
          go_quiet (fail)
          have hb2 : Below w.heap.size w (wr.drewN nq) := bl_drewN hbr nq
          generalize wr.drewN nq = wq at *
          go_wp2
          go_ret
          exact ⟨by rw [HF.out]; rfl, hb2⟩
      · have HF := hbad (fun h => h1 h.1)
        have g1 : x < 1 := by omega
        clear hstep hbad hcy h1
        go_wp2
        go_quiet (fail)
        have hb2 : Below w.heap.size w (wr.drewN nq) := bl_drewN hbr nq
        generalize wr.drewN nq = wq at *
        go_wp2
        go_ret
        exact ⟨by rw [HF.out]; rfl, hb2⟩
    · obtain rfl : k = l.length := by omega
      have HF : Hid (fineL l = (decide (1 ≤ l.length) && decide (l.length ≤ 20))) := bnd_good HT.out
      clear HT
      by_cases h1 : 1 ≤ l.length
      · by_cases h2 : l.length ≤ 20
        · have HF2 : Hid (fineL l = true) := by show _ = _; rw [HF.out, decide_eq_true h1, decide_eq_true h2]; rfl
          go_wp2
          go_ret
          refine ⟨?_, hbr⟩
          rw [HF2.out]; (first | rfl | (simp; done) | (simp; omega))
        · have HF2 : Hid (fineL l = false) := by show _ = _; rw [HF.out, decide_eq_false h2, Bool.and_false]
          go_wp2
          go_ret
          refine ⟨?_, hbr⟩
          rw [HF2.out]; (first | rfl | (simp; done) | (simp; omega))
      · have HF2 : Hid (fineL l = false) := by show _ = _; rw [HF.out, decide_eq_false h1, Bool.false_and]
        go_wp2
        go_ret
        refine ⟨?_, hbr⟩
        rw [HF2.out]; (first | rfl | (simp; done) | (simp; omega))
end Go.Proofs.Ytebgcicpokpelaa
