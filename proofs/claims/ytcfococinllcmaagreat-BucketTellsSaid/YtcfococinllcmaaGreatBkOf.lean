/- bucket.Of: a contract. -/
import Derived.Test.YtcfococinllcmaaGreatBkFine
import Derived.Test.YtcfococinllcmaaGreatBkLawP
import Derived.Test.YtcfococinllcmaaGreatBox
import Derived.Test.YtcfococinllcmaaGreatShelf
namespace Go.Proofs.YtcfococinllcmaaGreat
open Go.RowKit Go.Sort

set_option maxHeartbeats 400000 in
theorem of_closure (ba bx blk off n c : Nat) (x y : Int) (i : Nat) (W : World) (hi : i < n)
    (ha : W.cell? ⟨ba, 0, none⟩ = some (.slice (some ⟨blk, off, none⟩) n c)) (hx : W.cell? ⟨bx, 0, none⟩ = some (.int .i64 x)) (hc : W.cell? ⟨blk, off + i, none⟩ = some (.int .i64 y)) :
    Calls Tryz.prog 79 (#[.int .i64 i] ++ #[.pointer (some ⟨ba, 0, none⟩), .pointer (some ⟨bx, 0, none⟩)]) W fun e w' => e = .returned (.bool (decide (x < y))) ∧ ∃ q, w' = W.drewN q := by
  have hiz : (i : Int) < (n : Int) := by omega
  go_enter Tryz.func79, Tryz.ntmps79
  go_wp2
  go_region
  all_goals go_wp2
  all_goals go_ret
  all_goals exact ⟨by first | rfl | simp, 1, rfl⟩
theorem countP_take_all (l : List Int) (n : Int) : (List.range l.length).countP (fun i => !decide (n < l.getD i 0)) = cntL l n := by
  have h := Lib.countP_range l.toArray (fun y => !decide (n < y))
  simp only [List.size_toArray] at h
  unfold cntL
  have e : (fun i => !decide (n < l.getD i 0)) = fun i => !decide (n < l.toArray[i]!) := by
    funext i; simp [List.getD]; rfl
  rw [e, h]
  apply List.countP_congr
  intro x _
  simp
set_option maxHeartbeats 1600000 in
set_option maxRecDepth 100000 in
theorem of_any (l : List Int) (n : Int) (w : World) (v : Value) (hv : IntsAt w v l) (hl : l.length ≤ 1000) :
    Calls Tryz.prog 43 #[v, .int .i64 n] w fun e w' => e = .returned (.int .i64 (ofL l n : Nat)) ∧ Below w.heap.size w w' := by
  have hfine := fun w' (hb : Below w.heap.size w w') => fine_any l w' v (hv.later hb) hl
  have hbox : ∀ W, Below ((w.alloc (.cells #[v] 32)).alloc (.cells #[.int .i64 n] 3)).heap.size ((w.alloc (.cells #[v] 32)).alloc (.cells #[.int .i64 n] 3)) W →
      W.cell? ⟨w.heap.size, 0, none⟩ = some v ∧ W.cell? ⟨w.heap.size + 1, 0, none⟩ = some (.int .i64 n) ∧ w.heap.size + 1 < W.heap.size ∧ Below w.heap.size w W := fun W hb => by
    obtain ⟨h1, h2, h3, h4⟩ := box_two hb
    exact ⟨h1 0 _ rfl, h2 0 _ rfl, h3, h4⟩
  have hf1 := hfine _ (((Below.refl w.heap.size w).alloc (Nat.le_refl _) (.cells #[v] 32)).alloc (by simp) (.cells #[.int .i64 n] 3))
  obtain ⟨a, c, rfl, hc, hr⟩ := RdAt.shape hv
  clear hv hfine
  cases hf : fineL l
  · have HZ : Hid (ofL l n = 0) := ofL_bad hf n
    rw [hf] at hf1
    clear hf
    go_enter Tryz.func43, Tryz.ntmps43
    go_wp2_with fail
    refine hf1.mono ?_
    rintro e w1 ⟨rfl, hb1⟩
    obtain ⟨_, _, _, hB1⟩ := hbox _ hb1
    go_wp2
    go_ret
    exact ⟨by rw [HZ.out]; rfl, hB1⟩
  · have HZ : Hid (ofL l n = cntL l n) := by show _ = _; unfold ofL; rw [if_pos hf]
    obtain ⟨h1, h20, hris, _⟩ := fineL_iff.1 hf
    obtain ⟨b, o, rfl, hb, hcell⟩ := hr (by omega)
    rw [hf] at hf1
    clear hf hr
    have hS : ∀ W, W.cell? ⟨w.heap.size, 0, none⟩ = some (.slice (some ⟨b, o, none⟩) l.length c) → W.cell? ⟨w.heap.size + 1, 0, none⟩ = some (.int .i64 n) → w.heap.size + 1 < W.heap.size → Below w.heap.size w W →
        Calls Tryz.prog 78 #[.int .i64 l.length, .func (.func 79) #[] #[.pointer (some ⟨w.heap.size, 0, none⟩), .pointer (some ⟨w.heap.size + 1, 0, none⟩)]] W fun e w' =>
          e = .returned (.int .i64 (cntL l n : Nat)) ∧ ∃ q os, w' = Go.Sort.grow (W.drewN q) os := fun W ca cx hlt hBW => by
      have cc : ∀ i, i < l.length → W.cell? ⟨b, o + i, none⟩ = some (.int .i64 (l.getD i 0)) := fun i hi => keep_cell (hcell i _ (by rw [List.getElem?_map, List.getElem?_eq_getElem hi]; simp [List.getD, hi])) hBW hb
      have hbW : b < W.heap.size := Nat.lt_of_lt_of_le hb hBW.size
      have h := Tryz.sort_Search 79 #[.pointer (some ⟨w.heap.size, 0, none⟩), .pointer (some ⟨w.heap.size + 1, 0, none⟩)] l.length (fun i => decide (n < l.getD i 0)) W (enters_of Tryz.func79 (by kernel_rfl) rfl) (by omega)
        (fun m os i hi => (of_closure w.heap.size (w.heap.size + 1) b o l.length c n (l.getD i 0) i _ hi (cell_grown (by show w.heap.size < _; omega) ca m os) (cell_grown (by show w.heap.size + 1 < _; omega) cx m os) (cell_grown (by show b < _; omega) (cc i hi) m os)).mono
          fun _ _ ⟨he, q, hq⟩ => ⟨he, q, #[], by rw [hq, grow_empty]⟩)
        (fun i j hij hj h => by
          have hij' : l.getD i 0 ≤ l.getD j 0 := by
            simp only [List.getD_eq_getElem?_getD, List.getElem?_eq_getElem hj, List.getElem?_eq_getElem (show i < l.length by omega), Option.getD_some]
            rcases Nat.lt_or_ge i j with h' | h'
            · exact Int.le_of_lt (List.pairwise_iff_getElem.1 hris i j (by omega) hj h')
            · obtain rfl : i = j := by omega
              exact Int.le_refl _
          simp only [decide_eq_true_eq] at h ⊢; omega)
      rw [countP_take_all] at h
      exact h
    have HS := Lib.hid hS
    clear hS hcell hris
    go_enter Tryz.func43, Tryz.ntmps43
    go_wp2_with fail
    refine hf1.mono ?_
    rintro e w1 ⟨rfl, hb1⟩
    obtain ⟨ca, cx, hlt, hB1⟩ := hbox _ hb1
    clear hbox hf1 hb1
    have hS := HS.out w1 ca cx hlt hB1
    clear HS
    go_wp2_with fail
    refine hS.mono ?_
    rintro e w2 ⟨rfl, q, os, rfl⟩
    have hb2 : Below w.heap.size w (Go.Sort.grow (w1.drewN q) os) := hB1.trans (below_grown_sl _ w1 q os hB1.size)
    generalize Go.Sort.grow (w1.drewN q) os = w2 at *
    go_wp2
    go_ret
    exact ⟨by rw [HZ.out]; rfl, hb2⟩
end Go.Proofs.YtcfococinllcmaaGreat
