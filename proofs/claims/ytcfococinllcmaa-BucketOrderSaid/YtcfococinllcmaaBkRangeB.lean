/- Several parts in one: What bucket.Range gives, plainly. bucket.Range: a contract. -/
import Derived.Test.YtcfococinllcmaaBkLawP
import Derived.Test.YtcfococinllcmaaConcat
import Derived.Test.YtcfococinllcmaaBkFine
namespace Go.Proofs.Ytcfococinllcmaa
open Go.RowKit

/-- what Range gives -/
def rangeV (l : List Int) (k : Int) : Value := if rangeOk l k then .tuple #[.int .i64 (loL l k.toNat), .int .i64 (hiL l k.toNat), .bool true] else .tuple #[.int .i64 0, .int .i64 0, .bool false]
theorem rangeV_bad {l : List Int} {k : Int} (h : rangeOk l k = false) : rangeV l k = .tuple #[.int .i64 0, .int .i64 0, .bool false] := by unfold rangeV; rw [h]; rfl
theorem rangeV_good {l : List Int} {k : Nat} (hf : fineL l = true) (h : k ≤ l.length) : rangeV l k = .tuple #[.int .i64 (loL l k), .int .i64 (hiL l k), .bool true] := by
  unfold rangeV rangeOk
  rw [hf, decide_eq_true (by omega : (0 : Int) ≤ (k : Int)), decide_eq_true (by omega : (k : Int) ≤ (l.length : Int))]
  simp
theorem rangeOk_unfine {l : List Int} {k : Int} (h : fineL l = false) : rangeOk l k = false := by unfold rangeOk; rw [h]; rfl
theorem rangeOk_low {l : List Int} {k : Int} (h : k < 0) : rangeOk l k = false := by unfold rangeOk; rw [decide_eq_false (by omega : ¬ 0 ≤ k), Bool.and_false]; rfl
theorem rangeOk_high {l : List Int} {k : Int} (h : (l.length : Int) < k) : rangeOk l k = false := by unfold rangeOk; rw [decide_eq_false (by omega : ¬ k ≤ (l.length : Int)), Bool.and_false]
end Go.Proofs.Ytcfococinllcmaa
namespace Go.Proofs.Ytcfococinllcmaa
open Go.RowKit

theorem rd_one (w : World) (x : Value) (t : TypeId) : RdAt (w.alloc (.cells #[x] t)) (.slice (some ⟨w.heap.size, 0, none⟩) 1 1) 1 1 [x] :=
  RdAt.mk rfl (Nat.le_refl _) (by rw [World.size_alloc]; omega) (fun j y hj => by
    have hj0 : j = 0 := by have := (List.getElem?_eq_some_iff.1 hj).1; simpa using this
    subst hj0
    have := cell_one_new w x t 0 y hj
    simpa [Addr.add] using this)
/-- the bounds with 0 ahead and the greatest count behind -/
def edgesL (l : List Int) : List Int := [0] ++ l ++ [1099511627777]
theorem edges_len (l : List Int) : (edgesL l).length = l.length + 2 := by simp [edgesL]
theorem edges_lo {l : List Int} {k : Nat} (hk : k ≤ l.length) : (edgesL l)[k]? = some (loL l k) := by
  unfold edgesL
  rcases Nat.eq_zero_or_pos k with rfl | h0
  · simp [loL]
  · rw [loL_pos h0 hk, List.append_assoc, List.getElem?_append_right (by simp; omega), List.getElem?_append_left (by simp; omega)]
    simp only [List.length_singleton]
    exact List.getElem?_eq_getElem _
theorem edges_hi {l : List Int} {k : Nat} (hk : k ≤ l.length) : (edgesL l)[k + 1]? = some (hiL l k + 1) := by
  unfold edgesL
  rw [List.append_assoc, List.getElem?_append_right (by simp)]
  simp only [List.length_singleton, Nat.add_sub_cancel]
  rcases Nat.lt_or_ge k l.length with h | h
  · rw [List.getElem?_append_left h, hiL_lt h, List.getElem?_eq_getElem h]; simp
  · obtain rfl : k = l.length := by omega
    rw [hiL_end, List.getElem?_append_right (Nat.le_refl _)]; simp
theorem three_at (w : World) (v : Value) (l : List Int) (x y : Int) (t u : TypeId) (hv : IntsAt w v l) :
    SlsAt (((w.alloc (.cells #[I x] t)).alloc (.cells #[I y] t)).alloc (.cells #[.slice (some ⟨w.heap.size, 0, none⟩) 1 1, v, .slice (some ⟨w.heap.size + 1, 0, none⟩) 1 1] u)) ⟨w.heap.size + 2, 0, none⟩
      [(.slice (some ⟨w.heap.size, 0, none⟩) 1 1, [x]), (v, l), (.slice (some ⟨w.heap.size + 1, 0, none⟩) 1 1, [y])] := by
  have h1 : IntsAt (w.alloc (.cells #[I x] t)) (.slice (some ⟨w.heap.size, 0, none⟩) 1 1) [x] := rd_one w (I x) t
  have h2 : IntsAt ((w.alloc (.cells #[I x] t)).alloc (.cells #[I y] t)) (.slice (some ⟨w.heap.size + 1, 0, none⟩) 1 1) [y] := by
    have := rd_one (w.alloc (.cells #[I x] t)) (I y) t
    rwa [World.size_alloc] at this
  have h1' := h1.later (alloc_below _ (.cells #[I y] t))
  have hv' := (hv.later (alloc_below _ (.cells #[I x] t))).later (alloc_below _ (.cells #[I y] t))
  generalize hW : (w.alloc (.cells #[I x] t)).alloc (.cells #[I y] t) = W at *
  have hs : W.heap.size = w.heap.size + 2 := by rw [← hW, World.size_alloc, World.size_alloc]
  have hb := alloc_below W (.cells #[.slice (some ⟨w.heap.size, 0, none⟩) 1 1, v, .slice (some ⟨w.heap.size + 1, 0, none⟩) 1 1] u)
  refine ⟨w.heap.size + 2, 0, rfl, by rw [World.size_alloc]; omega, fun j hj => ?_⟩
  rw [← hs]
  have hc : ∀ (i : Nat), (W.alloc (.cells #[.slice (some ⟨w.heap.size, 0, none⟩) 1 1, v, .slice (some ⟨w.heap.size + 1, 0, none⟩) 1 1] u)).cell? ⟨W.heap.size, i, none⟩ = _ := fun i => World.cell?_alloc_at _ _ _ _ rfl
  match j, hj with
  | 0, _ => exact ⟨hc 0, h1'.later hb⟩
  | 1, _ => exact ⟨hc 1, hv'.later hb⟩
  | 2, _ => exact ⟨hc 2, h2.later hb⟩
  | j + 3, h => exact absurd h (by simp)

set_option maxHeartbeats 1600000 in
set_option maxRecDepth 100000 in
theorem range_any (l : List Int) (k : Int) (w : World) (v : Value) (hv : IntsAt w v l) (hl : l.length ≤ 900) :
    Calls Try.prog 37 #[v, .int .i64 k] w fun e w' => e = .returned (rangeV l k) ∧ Below w.heap.size w w' := by
  have hbd := fine_any l w v hv (by omega)
  have hcat := fun w1 (hb : Below w.heap.size w w1) => concat_any _ _ 3 _ (three_at w1 v l 0 1099511627777 3 26 (hv.later hb)) (by simp [sumL]) (by simp [sumL]; omega) (by simp)
  obtain ⟨a, c, rfl, hc, hr⟩ := RdAt.shape hv
  clear hr hv
  cases hf : fineL l
  · have HZ := Lib.hid (rangeV_bad (rangeOk_unfine (k := k) hf))
    rw [hf] at hbd
    clear hf hcat
    go_enter Try.func37, Try.ntmps37
    go_wp2_with fail
    refine hbd.mono ?_
    rintro e w1 ⟨rfl, hb1⟩
    go_wp2
    go_ret3
    exact ⟨by rw [HZ.out]; rfl, hb1⟩
  rw [hf] at hbd
  by_cases h1 : k < 0
  · have HZ := Lib.hid (rangeV_bad (rangeOk_low (l := l) h1))
    clear hf hcat
    go_enter Try.func37, Try.ntmps37
    go_wp2_with fail
    refine hbd.mono ?_
    rintro e w1 ⟨rfl, hb1⟩
    go_wp2
    go_ret3
    exact ⟨by rw [HZ.out]; rfl, hb1⟩
  by_cases h2 : (l.length : Int) < k
  · have HZ := Lib.hid (rangeV_bad (rangeOk_high h2))
    clear hf hcat
    go_enter Try.func37, Try.ntmps37
    go_wp2_with fail
    refine hbd.mono ?_
    rintro e w1 ⟨rfl, hb1⟩
    go_wp2
    go_ret3
    exact ⟨by rw [HZ.out]; rfl, hb1⟩
  obtain ⟨m, rfl⟩ : ∃ m : Nat, k = (m : Int) := ⟨k.toNat, by omega⟩
  have hml : m ≤ l.length := by omega
  have HZ := Lib.hid (rangeV_good hf hml)
  have HLO := Lib.hid (edges_lo hml)
  have HHI := Lib.hid (edges_hi hml)
  have hbnd := lo_le_hi hf hml
  have hbn2 := loL_nonneg hf hml
  have hbn3 : hiL l m ≤ 1099511627776 := by
    rcases Nat.lt_or_ge m l.length with h | h
    · rw [hiL_lt h]; have := ((fineL_iff.1 hf).2.2.2 _ (List.getElem_mem h)).2; omega
    · obtain rfl : m = l.length := by omega
      rw [hiL_end]; omega
  generalize loL l m = LO at *
  generalize hiL l m = HI at *
  clear hf h1 h2
  have hcat' : ∀ w1, Below w.heap.size w w1 → Calls Try.prog 72 #[.slice (some ⟨w1.heap.size + 2, 0, none⟩) 3 3]
      (((w1.alloc (.cells #[I 0] 3)).alloc (.cells #[I 1099511627777] 3)).alloc (.cells #[.slice (some ⟨w1.heap.size, 0, none⟩) 1 1, .slice a l.length c, .slice (some ⟨w1.heap.size + 1, 0, none⟩) 1 1] 26))
      fun e w' => ∃ g cap, e = .returned (.slice (some ⟨g, 0, none⟩) (l.length + 2) cap) ∧ w'.cell? ⟨g, m, none⟩ = some (.int .i64 LO) ∧ w'.cell? ⟨g, m + 1, none⟩ = some (.int .i64 (HI + 1)) ∧ Below w.heap.size w w' := fun w1 hb => by
    refine (hcat w1 hb).mono ?_
    rintro e w' ⟨v', rfl, hown, hb'⟩
    have e1 : sumL [(Value.slice (some ⟨w1.heap.size, 0, none⟩) 1 1, [(0 : Int)]), (.slice a l.length c, l), (.slice (some ⟨w1.heap.size + 1, 0, none⟩) 1 1, [1099511627777])] = edgesL l := by simp [sumL, edgesL]
    rw [e1, edges_len] at hown
    rcases hown.2 with ⟨_, h⟩ | ⟨g, cap, cur, rfl, _, hg, _⟩
    · omega
    · have hcl : ∀ j x, ((edgesL l).map I)[j]? = some x → w'.cell? ⟨g, j, none⟩ = some x := fun j x hx => by
        have := hown.cells (g := g) rfl j x hx
        by_cases h0 : j = 0
        · subst h0; simpa [Addr.add] using this
        · simpa [Addr.add, h0] using this
      refine ⟨g, cap, rfl, hcl m _ (by rw [List.getElem?_map, HLO.out]; rfl), hcl (m + 1) _ (by rw [List.getElem?_map, HHI.out]; rfl), ?_⟩
      have hb3 : Below w.heap.size w _ := ((hb.alloc hb.size (.cells #[I 0] 3)).alloc (by have := hb.size; rw [World.size_alloc]; omega) (.cells #[I 1099511627777] 3)).alloc (by have := hb.size; rw [World.size_alloc, World.size_alloc]; omega) (.cells #[.slice (some ⟨w1.heap.size, 0, none⟩) 1 1, .slice a l.length c, .slice (some ⟨w1.heap.size + 1, 0, none⟩) 1 1] 26)
      exact hb3.trans (hb'.mono hb3.size)
  clear hcat
  have hI1 : (m : Int) < ((l.length + 2 : Nat) : Int) := by omega
  have hI2 : (m : Int) + 1 < ((l.length + 2 : Nat) : Int) := by omega
  go_enter Try.func37, Try.ntmps37
  go_wp2_with fail
  refine hbd.mono ?_
  rintro e w1 ⟨rfl, hb1⟩
  have hc1 := hcat' w1 hb1
  clear hbd hcat'
  go_wp2_with fail
  refine hc1.mono ?_
  rintro e w2 ⟨g, cap, rfl, c0, c1, hb2⟩
  clear hc1
  generalize l.length + 2 = nn at *
  go_wp2_with fail
  go_region
  all_goals go_wp2
  all_goals (
    go_ret3
    exact ⟨by rw [HZ.out]; (first | rfl | (simp; done) | (simp; omega)), bl_drewN hb2 1⟩)
end Go.Proofs.Ytcfococinllcmaa
