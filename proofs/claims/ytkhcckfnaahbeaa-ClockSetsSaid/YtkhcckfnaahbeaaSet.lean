/- clock.set; slices.Clone and slices.Equal at []uint64, whatever is handed in. -/
import Derived.Test.YtkhcckfnaahbeaaSort
import Derived.Test.YtkhcckfnaahbeaaIdsLaw
import Derived.Sort.OwnSorted
namespace Go.Proofs.Ytkhcckfnaahbeaa
open Go.RowKit Go.Sort

theorem u_cells (z : List Int) : ∀ y ∈ z.map U, y.oneCell' = true := by
  intro y hy
  obtain ⟨x, _, rfl⟩ := List.mem_map.1 hy
  rfl
/-- v reads as the numbers ids -/
def IdsAt (w : World) (v : Value) (ids : List Int) : Prop := RdAt w v ids.length 1 (ids.map U)
theorem IdsAt.nil (w : World) : IdsAt w (.slice none 0 0) [] := RdAt.nil w 1
theorem IdsAt.later {w w' : World} {v : Value} {ids : List Int} (h : IdsAt w v ids) (hb : Below w.heap.size w w') : IdsAt w' v ids := RdAt.later h hb
theorem IdsAt.own {w : World} {base : Nat} {e : TypeId} {v : Value} {ids : List Int} (h : w.ownsRow base e 1 v ids.length (ids.map U)) : IdsAt w v ids := RdAt.own h
theorem IdsAt.cells {w : World} {v : Value} {ids : List Int} (h : IdsAt w v ids) (hne : ids ≠ []) : ∃ b o c, v = .slice (some ⟨b, o, none⟩) ids.length c ∧ ids.length ≤ c ∧ b < w.heap.size ∧ ∀ j x, ids[j]? = some x → w.cell? ⟨b, o + j, none⟩ = some (U x) := by
  obtain ⟨b, o, c, hv, hc, hlt, hcell⟩ := RdAt.some h (List.length_pos_iff.2 hne)
  exact ⟨b, o, c, hv, hc, hlt, fun j x hx => hcell j _ (by rw [List.getElem?_map, hx]; rfl)⟩

theorem heap_put {α : Type} [Inhabited α] {enc : α → Value} {w : World} {g n : Nat} {cur : Array Value} {e : TypeId} {fr : Nat × Nat} (d : Array α) (hb : w.heap[g]? = some (.cells cur e fr)) :
    (putRow enc (Sort.ahead w n) g 0 d).heap[g]? = some (.cells (putCells enc 0 d cur) e fr) := by
  simp [putRow, mapBlock, Sort.ahead, Array.getElem?_modify, hb, onCells]
theorem below_put {α : Type} [Inhabited α] {enc : α → Value} {w : World} {g n B : Nat} (d : Array α) (hB : B ≤ g) : Below B w (putRow enc (Sort.ahead w n) g 0 d) := by
  refine ⟨rfl, rfl, rfl, by simp [putRow, mapBlock, Sort.ahead], fun k hk => ?_⟩
  have : g ≠ k := by omega
  simp [putRow, mapBlock, Sort.ahead, Array.getElem?_modify, this]
theorem put_take {α : Type} [Inhabited α] {enc : α → Value} (cur : Array Value) (ts : List α) (m : Nat) (hm : m ≤ ts.length) (h : ts.length ≤ cur.size) : (putCells enc 0 ts.toArray cur).toList.take m = (ts.take m).map enc := by
  apply List.ext_getElem?
  intro j
  by_cases hj : j < m
  · rw [List.getElem?_take_of_lt hj, Array.getElem?_toList, List.getElem?_map, List.getElem?_take_of_lt hj]
    simp [putCells, show j < ts.length by omega, show j < cur.size by omega]
  · rw [List.getElem?_take_eq_none (by omega), List.getElem?_eq_none (by simp; omega)]
theorem size_put {α : Type} [Inhabited α] {enc : α → Value} (cur : Array Value) (d : Array α) : (putCells enc 0 d cur).size = cur.size := by simp [putCells]
theorem holds_own {w : World} {g : Nat} {cur : Array Value} {e : TypeId} {ids : List Int} (hb : w.heap[g]? = some (.cells cur e (0, 0))) (ht : cur.toList.take ids.length = ids.map U) : Holds U w g 0 ids.toArray := by
  intro j hj
  have hj' : j < ids.length := by simpa using hj
  refine ⟨?_, by simp [World.frozen?, hb]⟩
  have h1 : (cur.toList.take ids.length)[j]? = (ids.map U)[j]? := by rw [ht]
  rw [List.getElem?_take_of_lt hj'] at h1
  simp only [World.cell?, hb, Nat.zero_add]
  simp only [Option.isSome_none, Bool.false_eq_true, if_false]
  rw [← Array.getElem?_toList, h1]
  simp [hj']

theorem info64 : (Try.prog.info? 45).map (fun i => (i.zero, i.size, i.bytes)) = some (some (.int .u64 0), 1, 8) := by kernel_rfl
theorem clone_some (ids : List Int) (w : World) (v : Value) (hids : IdsAt w v ids) (hne : ids ≠ []) (hl : ids.length ≤ 1000) :
    Calls Try.prog 26 #[v] w fun e w' => ∃ v', e = .returned v' ∧ w'.ownsRow w.heap.size 45 1 v' ids.length (ids.map U) ∧ v' ≠ .slice none 0 0 ∧ Below w.heap.size w w' := by
  obtain ⟨b, o, c, rfl, hc, hlt, hcell⟩ := hids.cells hne
  obtain ⟨i0, hi, hz0, hz1, hz2⟩ := info_parts info64
  refine Try.slices_Clone i0 (.int .u64 0) 1 8 hi hz0 hz1 hz2 rfl (by decide) Try.sizeOf45 b o ids.length c (ids.map U) w (by simp) (by simp only [maxLen]; omega) (by omega) (fun j u hu => ?_) (u_cells ids)
  rw [List.getElem?_map, Option.map_eq_some_iff] at hu
  obtain ⟨x, hx, rfl⟩ := hu
  exact hcell j x hx

set_option maxHeartbeats 1600000 in
set_option maxRecDepth 100000 in
/-- clock.set: each once, rising -/
theorem set_any (ids : List Int) (w : World) (v : Value) (hids : IdsAt w v ids) (hne : ids ≠ []) (h12 : ids.length ≤ 1000) :
    Calls Try.prog 24 #[v] w fun e w' => ∃ v', e = .returned v' ∧ w'.ownsRow w.heap.size 45 1 v' (setL ids).length ((setL ids).map U) ∧ Below w.heap.size w w' := by
  have hclone := clone_some ids w v hids hne (by omega)
  have hsort : ∀ g cap w1 cur e0, w1.heap[g]? = some (.cells cur e0 (0, 0)) → Holds U w1 g 0 ids.toArray → Calls Try.prog 27 #[.slice (some ⟨g, 0, none⟩) ids.length cap] w1 fun e w' =>
      e = .returned (.tuple #[]) ∧ w'.heap[g]? = some (.cells (putCells U 0 (ids.mergeSort fun x y => decide (x ≤ y)).toArray cur) e0 (0, 0)) ∧ Below g w1 w' := fun g cap w1 cur e0 hg hH => sort_own g cap ids w1 hg hH h12
  have hcomp : ∀ g cap w2, ids.length ≤ cap → Holds U w2 g 0 (ids.mergeSort fun x y => decide (x ≤ y)).toArray → Calls Try.prog 28 #[.slice (some ⟨g, 0, none⟩) ids.length cap] w2 fun e w' =>
      e = .returned (.slice (some ⟨g, 0, none⟩) (setL ids).length cap) ∧ ∃ q, w' = putRow U (Sort.ahead w2 q) g 0 (setL ids ++ List.replicate (ids.length - (setL ids).length) 0).toArray := by
    intro g cap w2 hcap hH
    have h := Try.slices_Compact U (fun _ => rfl) (EqlAt.intD _ _ .u64) (NeqAt.intD _ _ .u64) 0 Try.zeroValue45 g 0 cap _ w2 hH (by simp; omega) (by simpa using hcap)
    simp only [List.size_toArray, List.length_mergeSort] at h
    rw [compact_sorted] at h
    exact h
  have hlen := setL_len ids
  clear hids
  go_enter Try.func24, Try.ntmps24
  go_wp2_with fail
  refine hclone.mono ?_
  rintro e w1 ⟨v', rfl, hown, hnn, hb1⟩
  rcases hown.2 with ⟨h, _⟩ | ⟨g, cap, cur, rfl, hbase, hg, hle, hcap, hsz, htk⟩
  · exact absurd h hnn
  have hH1 := holds_own hg (by simpa using htk)
  clear hown hclone
  go_wp2_with fail
  refine (hsort g cap w1 cur _ hg hH1).mono ?_
  rintro e w2 ⟨rfl, hg2, hbg⟩
  have hH2 : Holds U w2 g 0 (ids.mergeSort fun x y => decide (x ≤ y)).toArray := holds_own hg2 (by
    have := put_take (enc := U) cur (ids.mergeSort fun x y => decide (x ≤ y)) _ (Nat.le_refl _) (by rw [List.length_mergeSort, hsz]; omega)
    rw [this, List.take_length])
  have hb2 : Below w.heap.size w1 w2 := hbg.mono hbase
  clear hbg
  go_wp2_with fail
  refine (hcomp g cap w2 hle hH2).mono ?_
  rintro e w3 ⟨rfl, q, hw3⟩
  have hown3 : w3.ownsRow w.heap.size 45 1 (.slice (some ⟨g, 0, none⟩) (setL ids).length cap) (setL ids).length ((setL ids).map U) := by
    rw [hw3]
    refine ⟨by simp, .inr ⟨g, cap, _, rfl, hbase, heap_put _ hg2, by omega, hcap, by rw [size_put, size_put, hsz], ?_⟩⟩
    rw [Nat.mul_one, put_take _ _ _ (by simp) (by rw [size_put, hsz]; simp; omega), List.take_left' rfl]
  have hb3 : Below w.heap.size w2 w3 := by rw [hw3]; exact below_put _ hbase
  clear hw3
  go_wp2
  go_ret
  exact ⟨_, rfl, hown3, (hb1.trans hb2).trans hb3⟩

/-- slices.Clone, of nothing too -/
theorem clone_any (ids : List Int) (w : World) (v : Value) (hids : IdsAt w v ids) (hn : ids = [] → v = .slice none 0 0) (hl : ids.length ≤ 1000) :
    Calls Try.prog 26 #[v] w fun e w' => ∃ v', e = .returned v' ∧ w'.ownsRow w.heap.size 45 1 v' ids.length (ids.map U) ∧ Below w.heap.size w w' := by
  by_cases hne : ids = []
  · rw [hn hne]
    refine (Try.slices_Clone_nil 0 0 w).mono ?_
    rintro e w' ⟨rfl, rfl⟩
    exact ⟨_, rfl, by rw [hne]; exact World.ownsRow_nil _ _ _ _, Below.refl _ _⟩
  · refine (clone_some ids w v hids hne hl).mono ?_
    rintro e w' ⟨v', rfl, h1, _, h2⟩
    exact ⟨v', rfl, h1, h2⟩

set_option maxHeartbeats 800000 in
theorem equal_len (a a' : Option Addr) (n m c c' : Nat) (w : World) (hnm : n ≠ m) :
    Calls Try.prog 29 #[.slice a n c, .slice a' m c'] w fun e w' => e = .returned (.bool false) ∧ w' = w := by
  have hnm' : ¬ (n : Int) = (m : Int) := by omega
  go_enter Try.func29, Try.ntmps29
  go_wp2
  go_ret
  exact ⟨rfl, rfl⟩
theorem allEq_eq (xs ys : List Int) : Lib.allEq (fun x y => x == y) xs ys = decide (xs = ys) := by
  rw [Bool.eq_iff_iff, decide_eq_true_eq]
  constructor
  · intro h
    by_cases hl : xs.length = ys.length
    · refine List.ext_getElem hl (fun j h1 h2 => ?_)
      apply Classical.byContradiction
      intro hne
      have := Lib.allEq_elem (fun x y : Int => x == y) xs ys j h1 h2 (by rw [getElem!_pos _ j h1, getElem!_pos _ j h2]; simpa using hne)
      rw [this] at h; cases h
    · rw [Lib.allEq_len _ _ _ hl] at h; cases h
  · rintro rfl
    exact Lib.allEq_all _ _ _ rfl (fun j _ => by simp)
/-- slices.Equal -/
theorem equal_any (xs ys : List Int) (w : World) (u v : Value) (hx : IdsAt w u xs) (hy : IdsAt w v ys) (hne : xs ≠ []) (hl : xs.length ≤ 1000) :
    Calls Try.prog 29 #[u, v] w fun e w' => e = .returned (.bool (decide (xs = ys))) ∧ Below w.heap.size w w' := by
  by_cases hlen : xs.length = ys.length
  · have hne' : ys ≠ [] := by intro h; rw [h] at hlen; exact hne (List.length_eq_zero_iff.1 hlen)
    obtain ⟨b, o, c, rfl, _, _, hcx⟩ := hx.cells hne
    obtain ⟨b', o', c', rfl, _, _, hcy⟩ := hy.cells hne'
    refine (Try.slices_Equal U (fun x y => x == y) (NeqAt.int _ _ .u64) b o xs.length c b' o' ys.length c' xs ys w (Nat.le_refl _) (Nat.le_refl _) (by omega) (by omega) (fun j hj => ?_) (fun j hj => ?_)).mono ?_
    · rw [getElem!_pos _ j hj]; exact hcx j _ (List.getElem?_eq_getElem hj)
    · rw [getElem!_pos _ j hj]; exact hcy j _ (List.getElem?_eq_getElem hj)
    · rintro e w' ⟨rfl, q, rfl⟩
      rw [List.take_length, List.take_length, allEq_eq]
      exact ⟨rfl, bl_drewN (Below.refl _ _) q⟩
  · obtain ⟨a, c, rfl, _⟩ := RdAt.shape hx
    obtain ⟨a', c', rfl, _⟩ := RdAt.shape hy
    refine (equal_len a a' _ _ c c' w hlen).mono ?_
    rintro e w' ⟨rfl, rfl⟩
    refine ⟨?_, Below.refl _ _⟩
    rw [decide_eq_false (fun h => hlen (by rw [h]))]
end Go.Proofs.Ytkhcckfnaahbeaa
