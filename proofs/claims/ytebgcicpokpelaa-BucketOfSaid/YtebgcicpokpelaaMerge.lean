/- bucket.Merge: a contract. -/
import Derived.Test.YtebgcicpokpelaaBkRange
import Derived.Sort.OwnSorted
import Derived.Test.YtebgcicpokpelaaAppRd
namespace Go.Proofs.Ytebgcicpokpelaa
open Go.RowKit Go.Sort

theorem heap_put {α : Type} [Inhabited α] {enc : α → Value} {w : World} {g n : Nat} {cur : Array Value} {e : TypeId} {fr : Nat × Nat} (d : Array α) (hb : w.heap[g]? = some (.cells cur e fr)) :
    (putRow enc (Sort.ahead w n) g 0 d).heap[g]? = some (.cells (putCells enc 0 d cur) e fr) := by
  simp [putRow, mapBlock, Sort.ahead, Array.getElem?_modify, hb, onCells]
theorem below_put {α : Type} [Inhabited α] {enc : α → Value} {w : World} {g n B : Nat} (d : Array α) (hB : B ≤ g) : Below B w (putRow enc (Sort.ahead w n) g 0 d) := by
  refine ⟨rfl, rfl, rfl, by simp [putRow, mapBlock, Sort.ahead], fun k hk => ?_⟩
  have : g ≠ k := by omega
  simp [putRow, mapBlock, Sort.ahead, Array.getElem?_modify, this]
theorem put_take {α : Type} [Inhabited α] {enc : α → Value} (cur : Array Value) (ts : List α) (m : Nat) (hm : m ≤ ts.length) (h : ts.length ≤ cur.size) : (putCells enc 0 ts.toArray cur).toList.take m = (ts.take m).map enc := by
  apply List.ext_getElem?
  intro j
  by_cases hj : j < m
  · rw [List.getElem?_take_of_lt hj, Array.getElem?_toList, List.getElem?_map, List.getElem?_take_of_lt hj]
    simp [putCells, show j < ts.length by omega, show j < cur.size by omega]
  · rw [List.getElem?_take_eq_none (by omega), List.getElem?_eq_none (by simp; omega)]
theorem size_put {α : Type} [Inhabited α] {enc : α → Value} (cur : Array Value) (d : Array α) : (putCells enc 0 d cur).size = cur.size := by simp [putCells]
theorem holds_own {w : World} {g : Nat} {cur : Array Value} {e : TypeId} {ids : List Int} (hb : w.heap[g]? = some (.cells cur e (0, 0))) (ht : cur.toList.take ids.length = ids.map I) : Holds I w g 0 ids.toArray := by
  intro j hj
  have hj' : j < ids.length := by simpa using hj
  refine ⟨?_, by simp [World.frozen?, hb]⟩
  have h1 : (cur.toList.take ids.length)[j]? = (ids.map I)[j]? := by rw [ht]
  rw [List.getElem?_take_of_lt hj'] at h1
  simp only [World.cell?, hb, Nat.zero_add]
  simp only [Option.isSome_none, Bool.false_eq_true, if_false]
  rw [← Array.getElem?_toList, h1]
  simp [hj']

theorem sort_own (g cap : Nat) (zs : List Int) (w : World) {cur : Array Value} {e0 : TypeId} (hg : w.heap[g]? = some (.cells cur e0 (0, 0))) (hH : Holds I w g 0 zs.toArray) (hsz : zs.length ≤ 1000) :
    Calls Try.prog 37 #[.slice (some ⟨g, 0, none⟩) zs.length cap] w fun e w' =>
      e = .returned (.tuple #[]) ∧ w'.heap[g]? = some (.cells (putCells I 0 (zs.mergeSort fun x y => decide (x ≤ y)).toArray cur) e0 (0, 0)) ∧ Below g w w' := by
  have hlt : g < w.heap.size := (Array.getElem?_eq_some_iff.1 hg).1
  refine (Try.slices_Sort_int g 0 cap zs w hH hlt (by omega)).mono ?_
  rintro e w' ⟨rfl, n, os, rfl⟩
  refine ⟨rfl, ?_, rfl, rfl, rfl, by simp, fun k hk => ?_⟩
  · rw [heap_grow_old _ _ (by simpa using hlt)]
    simp [putRow, mapBlock, Sort.ahead, Array.getElem?_modify, hg, onCells]
  · rw [heap_grow_old _ _ (by simp; omega)]
    have : g ≠ k := by omega
    simp [putRow, mapBlock, Sort.ahead, Array.getElem?_modify, this]
theorem compact_list (ids : List Int) : Lib.compact (ids.mergeSort fun x y => decide (x ≤ y)) = setL ids := by
  have h := compact_sorted ids
  unfold Lib.compact
  rw [List.length_mergeSort]
  exact h
theorem two_at (w : World) (va vb : Value) (a b : List Int) (u : TypeId) (ha : IntsAt w va a) (hb : IntsAt w vb b) :
    SlsAt (w.alloc (.cells #[va, vb] u)) ⟨w.heap.size, 0, none⟩ [(va, a), (vb, b)] := by
  have hb' := alloc_below w (.cells #[va, vb] u)
  have hc : ∀ (i : Nat), (w.alloc (.cells #[va, vb] u)).cell? ⟨w.heap.size, i, none⟩ = _ := fun i => World.cell?_alloc_at _ _ _ _ rfl
  refine ⟨w.heap.size, 0, rfl, by rw [World.size_alloc]; omega, fun j hj => ?_⟩
  match j, hj with
  | 0, _ => exact ⟨hc 0, ha.later hb'⟩
  | 1, _ => exact ⟨hc 1, hb.later hb'⟩
  | j + 2, h => exact absurd h (by simp)
set_option maxHeartbeats 1600000 in
set_option maxRecDepth 100000 in
theorem merge_any (a b : List Int) (w : World) (va vb : Value) (ha : IntsAt w va a) (hb : IntsAt w vb b) (hla : a.length ≤ 100) (hlb : b.length ≤ 100) :
    Calls Try.prog 18 #[va, vb] w fun e w' => ∃ v', e = .returned v' ∧ IntsAt w' v' (mergeL a b) ∧ Below w.heap.size w w' := by
  have hba := fun w' (h : Below w.heap.size w w') => fine_any a w' va (ha.later h) (by omega)
  have hbb := fun w' (h : Below w.heap.size w w') => fine_any b w' vb (hb.later h) (by omega)
  cases hfa : fineL a
  · have HZ : Hid (mergeL a b = []) := mergeL_bad (.inl hfa)
    rw [hfa] at hba
    have h1 := hba w (Below.refl _ _)
    clear hfa hba hbb ha hb
    go_enter Try.func18, Try.ntmps18
    go_wp2_with fail
    refine h1.mono ?_
    rintro e w1 ⟨rfl, hb1⟩
    go_wp2
    go_ret
    exact ⟨_, rfl, by rw [HZ.out]; exact IntsAt.nil _, hb1⟩
  rw [hfa] at hba
  have h1 := hba w (Below.refl _ _)
  cases hfb : fineL b
  · have HZ : Hid (mergeL a b = []) := mergeL_bad (.inr hfb)
    rw [hfb] at hbb
    have HB := Lib.hid hbb
    clear hfa hfb hba hbb ha hb
    go_enter Try.func18, Try.ntmps18
    go_wp2_with fail
    refine h1.mono ?_
    rintro e w1 ⟨rfl, hb1⟩
    have h2 := HB.out w1 hb1
    clear HB
    go_wp2_with fail
    refine h2.mono ?_
    rintro e w2 ⟨rfl, hb2⟩
    go_wp2
    go_ret
    exact ⟨_, rfl, by rw [HZ.out]; exact IntsAt.nil _, hb1.trans (hb2.mono hb1.size)⟩
  rw [hfb] at hbb
  have HM : Hid (mergeL a b = (setL (a ++ b)).take 20) := by show _ = _; unfold mergeL; rw [hfa, hfb]; rfl
  obtain ⟨aa, ca, rfl, _, _⟩ := RdAt.shape ha
  obtain ⟨ab, cb, rfl, _, _⟩ := RdAt.shape hb
  have hpos : 0 < (sumL [(Value.slice aa a.length ca, a), (.slice ab b.length cb, b)]).length := by have := (fineL_iff.1 hfa).1; simp [sumL]; omega
  have HAA := Lib.hid ha
  have HBB := Lib.hid hb
  have HB := Lib.hid hbb
  have hcat := fun w1 (h : Below w.heap.size w w1) => concat_any _ _ 2 _ (two_at w1 _ _ a b 26 (ha.later h) (hb.later h)) hpos (by simp [sumL]; omega) (by simp)
  have hes : sumL [(Value.slice aa a.length ca, a), (.slice ab b.length cb, b)] = a ++ b := by simp [sumL]
  have hne : 0 < (a ++ b).length := by rw [← hes]; exact hpos
  have hl200 : (a ++ b).length ≤ 200 := by rw [List.length_append]; omega
  have hslen := setL_len (a ++ b)
  have hsort : ∀ g cap w1 cur e0, w1.heap[g]? = some (.cells cur e0 (0, 0)) → Holds I w1 g 0 (a ++ b).toArray → Calls Try.prog 37 #[.slice (some ⟨g, 0, none⟩) (a ++ b).length cap] w1 fun e w' =>
      e = .returned (.tuple #[]) ∧ w'.heap[g]? = some (.cells (putCells I 0 ((a ++ b).mergeSort fun x y => decide (x ≤ y)).toArray cur) e0 (0, 0)) ∧ Below g w1 w' := fun g cap w1 cur e0 hg hH => sort_own g cap (a ++ b) w1 hg hH (by omega)
  have hcomp : ∀ g cap w2, (a ++ b).length ≤ cap → Holds I w2 g 0 ((a ++ b).mergeSort fun x y => decide (x ≤ y)).toArray → Calls Try.prog 38 #[.slice (some ⟨g, 0, none⟩) (a ++ b).length cap] w2 fun e w' =>
      e = .returned (.slice (some ⟨g, 0, none⟩) (setL (a ++ b)).length cap) ∧ ∃ q, w' = putRow I (Sort.ahead w2 q) g 0 (setL (a ++ b) ++ List.replicate ((a ++ b).length - (setL (a ++ b)).length) 0).toArray := by
    intro g cap w2 hcap hH
    have h := Try.slices_Compact_int g 0 cap ((a ++ b).mergeSort fun x y => decide (x ≤ y)) w2 hH (by simp; omega) (by simpa using hcap)
    rw [compact_list, List.length_mergeSort] at h
    exact h
  rw [hes] at hcat
  generalize hL : a ++ b = L at *
  clear hfa hfb hba hbb ha hb hes
  go_enter Try.func18, Try.ntmps18
  go_wp2_with fail
  refine h1.mono ?_
  rintro e w1 ⟨rfl, hb1⟩
  have h2 := HB.out w1 hb1
  clear HB h1
  go_wp2_with fail
  refine h2.mono ?_
  rintro e w2 ⟨rfl, hb2⟩
  have hb02 := hb1.trans (hb2.mono hb1.size)
  have h3 := hcat w2 hb02
  clear h2 hb1 hb2 hcat
  go_wp2_with fail
  refine h3.mono ?_
  rintro e w3 ⟨v3, rfl, hown, hb3⟩
  clear h3
  have hbw3 : Below w.heap.size w w3 := (hb02.alloc hb02.size _).trans (hb3.mono (by have := hb02.size; rw [World.size_alloc]; omega))
  rcases hown.2 with ⟨_, h⟩ | ⟨g, cap, cur, rfl, hbase, hg, hle, hcap, hsz, htk⟩
  · omega
  have hH1 := holds_own hg (by simpa using htk)
  have hgw : w.heap.size ≤ g := by have := hb02.size; rw [World.size_alloc] at hbase; omega
  have h4 := hsort g cap w3 cur _ hg hH1
  clear hown hb02 hb3 hsort
  go_wp2_with fail
  refine h4.mono ?_
  rintro e w4 ⟨rfl, hg4, hbg⟩
  have hH2 : Holds I w4 g 0 (L.mergeSort fun x y => decide (x ≤ y)).toArray := holds_own hg4 (by
    have := put_take (enc := I) cur (L.mergeSort fun x y => decide (x ≤ y)) _ (Nat.le_refl _) (by rw [List.length_mergeSort, hsz]; omega)
    rw [this, List.take_length])
  have hb4 : Below w.heap.size w w4 := hbw3.trans (hbg.mono hgw)
  have h5 := hcomp g cap w4 hle hH2
  clear hbg h4 hcomp hbw3 hH1 hH2
  go_wp2_with fail
  refine h5.mono ?_
  rintro e w5 ⟨rfl, q, hw5⟩
  have hown5 : w5.ownsRow w.heap.size 3 1 (.slice (some ⟨g, 0, none⟩) (setL L).length cap) (setL L).length ((setL L).map I) := by
    rw [hw5]
    refine ⟨by simp, .inr ⟨g, cap, _, rfl, hgw, heap_put _ hg4, by omega, hcap, by rw [size_put, size_put, hsz], ?_⟩⟩
    rw [Nat.mul_one, put_take _ _ _ (by simp) (by rw [size_put, hsz]; simp; omega), List.take_left' rfl]
  have hb5 : Below w.heap.size w w5 := hb4.trans (by rw [hw5]; exact below_put _ hgw)
  have hrd5 : RdAt w5 (.slice (some ⟨g, 0, none⟩) (setL L).length cap) (setL L).length 1 ((setL L).map I) := RdAt.own hown5
  have HRD := Lib.hid hrd5
  have hcl : (setL L).length ≤ cap := by omega
  clear hw5 h5 hb4 hg4 hown5 hrd5 hg htk hsz
  generalize setL L = SL at *
  rcases Nat.lt_or_ge 20 SL.length with h20 | h20
  · have hm1 : min (SL.length : Int) 20 = 20 := by omega
    have hm2 : (20 : Int) ≤ (cap : Int) := by omega
    go_wp2
    go_ret
    refine ⟨_, rfl, ?_, hb5⟩
    rw [HM.out]
    have := HRD.out.take 20 (by omega) (by omega)
    unfold IntsAt
    rw [List.length_take, Nat.min_eq_left (by omega), List.map_take]
    exact this
  · have hm1 : min (SL.length : Int) 20 = (SL.length : Int) := by omega
    have hm2 : (SL.length : Int) ≤ (cap : Int) := by omega
    go_wp2
    go_ret
    refine ⟨_, rfl, ?_, hb5⟩
    rw [HM.out, List.take_of_length_le h20]
    exact HRD.out
end Go.Proofs.Ytebgcicpokpelaa
