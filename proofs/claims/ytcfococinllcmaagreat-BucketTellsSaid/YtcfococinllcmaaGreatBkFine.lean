/- bucket.fine and lychgateref22.Bounds: contracts. -/
import Derived.Test.YtcfococinllcmaaGreatBkLawP
import Derived.Test.YtcfococinllcmaaGreatInts
import Derived.Deep.LoopGhost
import Derived.Lib.Hide
namespace Go.Proofs.YtcfococinllcmaaGreat
open Go.RowKit

theorem adj_rising {l : List Int} (h : ∀ j (hj : j + 1 < l.length), l[j] < l[j + 1]) : Rising l := by
  induction l with
  | nil => simp
  | cons x l ih =>
    refine List.pairwise_cons.2 ⟨?_, ih (fun j hj => by have := h (j + 1) (by simpa using hj); simpa using this)⟩
    cases l with
    | nil => simp
    | cons y l =>
      have h0 := h 0 (by simp)
      have h' : Rising (y :: l) := ih (fun j hj => by have := h (j + 1) (by simpa using hj); simpa using this)
      intro z hz
      have h0' : x < y := by simpa using h0
      rcases List.mem_cons.1 hz with rfl | hz
      · exact h0'
      · exact Int.lt_trans h0' ((List.pairwise_cons.1 h').1 z hz)
theorem fineL_adj {l : List Int} (h : fineL l = true) : ∀ j (hj : j + 1 < l.length), l[j] < l[j + 1] := fun j hj =>
  List.pairwise_iff_getElem.1 (fineL_iff.1 h).2.2.1 j (j + 1) (by omega) hj (by omega)
theorem rising_first {l : List Int} (hr : Rising l) (j : Nat) (hj : j < l.length) : l[0]'(by omega) ≤ l[j] := by
  rcases Nat.eq_zero_or_pos j with rfl | h0
  · exact Int.le_refl _
  · exact Int.le_of_lt (List.pairwise_iff_getElem.1 hr 0 j (by omega) hj h0)
theorem rising_last {l : List Int} (hr : Rising l) (j : Nat) (hj : j < l.length) : l[j] ≤ l[l.length - 1]'(by omega) := by
  rcases Nat.lt_or_ge j (l.length - 1) with h0 | h0
  · exact Int.le_of_lt (List.pairwise_iff_getElem.1 hr j (l.length - 1) hj (by omega) h0)
  · have : j = l.length - 1 := by omega
    subst this
    exact Int.le_refl _
theorem fineL_of {l : List Int} (h1 : 1 ≤ l.length) (h2 : l.length ≤ 20) (h3 : 1 ≤ l[0]) (h4 : l[l.length - 1] ≤ 1099511627776) (h : ∀ j (hj : j + 1 < l.length), l[j] < l[j + 1]) : fineL l = true := by
  have hr := adj_rising h
  refine fineL_iff.2 ⟨h1, h2, hr, fun x hx => ?_⟩
  obtain ⟨j, hj, rfl⟩ := List.mem_iff_getElem.1 hx
  exact ⟨Int.le_trans h3 (rising_first hr j hj), Int.le_trans (rising_last hr j hj) h4⟩
theorem fineL_not {l : List Int} (h : ¬ (1 ≤ l.length ∧ l.length ≤ 20 ∧ Rising l ∧ ∀ x ∈ l, 1 ≤ x ∧ x ≤ 1099511627776)) : fineL l = false := by
  rw [← Bool.not_eq_true]
  exact fun e => h (fineL_iff.1 e)

set_option maxHeartbeats 1600000 in
set_option maxRecDepth 100000 in
theorem fine_any (l : List Int) (w : World) (v : Value) (hv : IntsAt w v l) (hl : l.length ≤ 1000) :
    Calls Tryz.prog 53 #[v] w fun e w' => e = .returned (.bool (fineL l)) ∧ Below w.heap.size w w' := by
  obtain ⟨a, c, rfl, hc, hr⟩ := RdAt.shape hv
  have HR := Lib.hid hr
  clear hr hv
  rcases Nat.eq_zero_or_pos l.length with h0 | h0
  · have HF : Hid (fineL l = false) := fineL_not (fun h => by omega)
    have h0' : (l.length : Int) = 0 := by omega
    go_enter Tryz.func53, Tryz.ntmps53
    go_wp2
    go_ret
    exact ⟨by rw [HF.out]; rfl, Below.refl _ _⟩
  by_cases h20 : l.length ≤ 20
  · obtain ⟨b, o, rfl, hb, hcell⟩ := HR.out h0
    obtain ⟨x, hxe⟩ : ∃ x, l[0] = x := ⟨_, rfl⟩
    obtain ⟨y, hye⟩ : ∃ y, l[l.length - 1] = y := ⟨_, rfl⟩
    have hcx : w.cell? ⟨b, o, none⟩ = some (.int .i64 x) := hcell 0 _ (by rw [List.getElem?_map, List.getElem?_eq_getElem h0, hxe]; rfl)
    have hcy : w.cell? ⟨b, o + (l.length - 1), none⟩ = some (.int .i64 y) := hcell _ _ (by rw [List.getElem?_map, List.getElem?_eq_getElem (by omega), hye]; rfl)
    have HC := Lib.hid hcell
    have hz : ((l.length : Int) == 0) = false := by rw [beq_eq_false_iff_ne]; omega
    have hz1 : ¬ l = [] := List.length_pos_iff.1 h0
    have hz20 : ¬ (20 : Int) < (l.length : Int) := by omega
    have hz2 : (1 : Int) ≤ (l.length : Int) ∧ (l.length : Int) - 1 < (l.length : Int) := by omega
    by_cases hx1 : ¬ x < 1
    · by_cases hy1 : ¬ 1099511627776 < y
      · go_enter Tryz.func53, Tryz.ntmps53
        go_wp2
        all_goals (
          go_loopw [30] (fun i wr => ∃ k : Nat, k ≤ l.length - 1 ∧ i = .int .i64 k ∧ Hid (∀ j (hj : j + 1 < l.length), j < k → l[j] < l[j + 1]) ∧ Below w.heap.size w wr) (fun i _ => l.length - (intOf i).toNat)
          case atStart => exact ⟨0, Nat.zero_le _, rfl, Lib.hid (fun j _ hj => absurd hj (Nat.not_lt_zero j)), Below.refl _ _⟩
          case round =>
            obtain ⟨k, hk, rfl, HT, hbr⟩ := hrel
            by_cases hkl : k < l.length - 1
            · obtain ⟨p, hpe⟩ : ∃ p, l[k] = p := ⟨_, rfl⟩
              obtain ⟨q, hqe⟩ : ∃ q, l[k + 1] = q := ⟨_, rfl⟩
              have hcp : wr.cell? ⟨b, o + k, none⟩ = some (.int .i64 p) := (hbr.cell (p := ⟨b, o + k, none⟩) hb).trans (HC.out k _ (by rw [List.getElem?_map, List.getElem?_eq_getElem (by omega), hpe]; rfl))
              have hcq : wr.cell? ⟨b, o + (k + 1), none⟩ = some (.int .i64 q) := (hbr.cell (p := ⟨b, o + (k + 1), none⟩) hb).trans (HC.out (k + 1) _ (by rw [List.getElem?_map, List.getElem?_eq_getElem (by omega), hqe]; rfl))
              by_cases hpq : p < q
              · have HN : Hid (∀ j (hj : j + 1 < l.length), j < k + 1 → l[j] < l[j + 1]) := Lib.hid (fun j hj hjk => by
                  rcases Nat.lt_or_ge j k with h | h
                  · exact HT.out j hj h
                  · obtain rfl : j = k := by omega
                    rw [hpe, hqe]; exact hpq)
                clear hpe hqe HT hcx hcy hxe hye
                go_wp2_with fail
                go_region
                all_goals go_wp2
                all_goals (
                  go_roundw
                  case rel => exact ⟨k + 1, by omega, by go_num, HN, bl_drewN hbr 1⟩
                  case measure => (simp [intOf]; try omega))
              · have HF : Hid (fineL l = false) := fineL_not (fun h => hpq (by rw [← hpe, ← hqe]; exact List.pairwise_iff_getElem.1 h.2.2.1 k (k + 1) (by omega) (by omega) (by omega)))
                clear hpe hqe HT hcx hcy hxe hye
                go_wp2_with fail
                go_region
                all_goals go_wp2
                all_goals (
                  go_ret
                  exact ⟨by rw [HF.out]; rfl, bl_drewN hbr 1⟩)
            · have HF : Hid (fineL l = true) := fineL_of h0 h20 (by omega) (by omega) (fun j hj => HT.out j hj (by omega))
              clear HT hcx hcy hxe hye
              go_wp2
              go_ret
              exact ⟨by rw [HF.out]; rfl, hbr⟩)
      · have HF : Hid (fineL l = false) := fineL_not (fun h => hy1 (by have := (h.2.2.2 _ (List.getElem_mem (l := l) (n := l.length - 1) (by omega))).2; omega))
        have hy2 : 1099511627776 < y := by omega
        clear hy1
        go_enter Tryz.func53, Tryz.ntmps53
        go_wp2
        go_ret
        exact ⟨by rw [HF.out]; rfl, Below.refl _ _⟩
    · have HF : Hid (fineL l = false) := fineL_not (fun h => hx1 (by have := (h.2.2.2 _ (List.getElem_mem (l := l) (n := 0) (by omega))).1; omega))
      have hx2 : x < 1 := by omega
      clear hx1
      go_enter Tryz.func53, Tryz.ntmps53
      go_wp2
      go_ret
      exact ⟨by rw [HF.out]; rfl, Below.refl _ _⟩
  · have HF : Hid (fineL l = false) := fineL_not (fun h => h20 h.2.1)
    have hz : ((l.length : Int) == 0) = false := by rw [beq_eq_false_iff_ne]; omega
    have hz1 : ¬ l = [] := List.length_pos_iff.1 h0
    have hz20 : (20 : Int) < (l.length : Int) := by omega
    go_enter Tryz.func53, Tryz.ntmps53
    go_wp2
    go_ret
    exact ⟨by rw [HF.out]; rfl, Below.refl _ _⟩
end Go.Proofs.YtcfococinllcmaaGreat
