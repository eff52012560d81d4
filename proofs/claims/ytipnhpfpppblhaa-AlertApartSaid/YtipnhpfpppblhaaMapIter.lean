/- maps.Keys, slices.AppendSeq, Collect, Sort, Sorted over the keys of a map[uint64]bool: contracts. Parts turned from the library's walks of the same idiom at another kind of key. -/
import Derived.Test.YtipnhpfpppblhaaIns
import Derived.Shelf.SlIter.Collect
import Derived.RangeFuncFrom
import Derived.RangeFuncBox
import Derived.RangeFuncNested
import Derived.Maps.OwnIn
import Derived.Sort.OwnSorted
import Derived.Test.YtipnhpfpppblhaaBase
import Derived.Lib.Hide
namespace Go.Proofs.Ytipnhpfpppblhaa
open Go.RowKit Go.Maps Go.Sort Go.Shelf
attribute [local go_sem] Oper.semAt_some

/-! plain -/
def uOf : Lit → Int
  | .int _ a => a
  | _ => 0
/-- a map's keys -/
def uKeys {H : Type} : DataW H → List Int
  | .map es => es.map fun p => uOf p.1
  | _ => []
theorem U_inj {x y : Int} (h : U x = U y) : x = y := by simpa using h
theorem keyOf_u64 {P : Program} {k : TypeId} (hk : P.underlying k = some (.int .u64)) {key : Value} {kl : Lit} (h : keyOf P k key = some kl) : ∃ x : Int, key = U x ∧ kl = .int .u64 x ∧ (Lit.int .u64 x).wf = true := by
  cases key <;> simp [keyOf, hk, mapKey] at h
  rename_i q a
  obtain ⟨⟨rfl, hw⟩, rfl⟩ := h
  exact ⟨a, rfl, rfl, hw⟩
theorem perm_uKeys {H : Type} {es : List (Lit × DataW H)} (hp : es.Pairwise (fun p q => p.1 ≠ q.1)) (hk : ∀ p ∈ es, ∃ x, p.1 = .int .u64 x) {ss : List Int} (hnd : ss.Nodup) (hm : ∀ x, x ∈ ss ↔ has (.map es) (.int .u64 x) = true) :
    ss.Perm (uKeys (.map es)) := by
  refine (List.perm_ext_iff_of_nodup hnd ?_).2 fun x => ?_
  · show (es.map fun p => uOf p.1).Nodup
    refine List.pairwise_map.2 (hp.imp_of_mem fun {p q} hp' hq' hne e => hne ?_)
    obtain ⟨a, ha⟩ := hk p hp'
    obtain ⟨b, hb⟩ := hk q hq'
    rw [ha, hb] at e ⊢
    exact congrArg _ e
  · rw [hm x, has_eq, List.any_eq_true]
    show _ ↔ x ∈ es.map fun p => uOf p.1
    rw [List.mem_map]
    constructor
    · rintro ⟨p, hp', hs⟩
      obtain ⟨a, ha⟩ := hk p hp'
      rw [ha] at hs
      exact ⟨p, hp', by rw [ha]; simpa [Lit.sameKey, uOf] using hs⟩
    · rintro ⟨p, hp', rfl⟩
      obtain ⟨a, ha⟩ := hk p hp'
      exact ⟨p, hp', by rw [ha]; simp [Lit.sameKey, uOf]⟩
/-- no key twice; a key has come just where the map has it and it is no longer to come -/
def CollU {H : Type} (D0 : DataW H) (left : Lit → Bool) (ss : List Int) : Prop := ss.Nodup ∧ ∀ x, x ∈ ss ↔ (has D0 (.int .u64 x) = true ∧ left (.int .u64 x) = false)
section
variable {H : Type} {D0 : DataW H} {left : Lit → Bool} {ss : List Int}
theorem CollU.start (D0 : DataW H) : CollU D0 (has D0) [] := ⟨List.nodup_nil, fun x => by cases has D0 (.int .u64 x) <;> simp⟩
theorem CollU.step (h : CollU D0 left ss) {x : Int} {y : DataW H} (hlk : left (.int .u64 x) = true) (hat : ∀ zd, D0.atKey (.int .u64 x) zd = y) : CollU D0 (fun z => left z && !z.sameKey (.int .u64 x)) (ss ++ [x]) := by
  have hhas : has D0 (.int .u64 x) = true := has_true_of_atKey hat
  have hnew : x ∉ ss := fun hx => by have := ((h.2 x).1 hx).2; rw [hlk] at this; cases this
  refine ⟨List.nodup_append.2 ⟨h.1, by simp, fun a ha b hb => by simp at hb; subst hb; exact fun e => hnew (e ▸ ha)⟩, fun y => ?_⟩
  by_cases hy : y = x
  · subst hy; simp [hhas, Lit.sameKey]
  · simp [h.2 y, hy, Lit.sameKey]
variable {P : Program} {k : TypeId} {R : Value → Option (DataW H × List MemPlace)} {w : World} {b n : Nat}
theorem CollU.perm (h : CollU D0 left ss) (hown : w.ownsMap P k R b n D0) (K : Keyed P k) (hk : P.underlying k = some (.int .u64)) (hl : ∀ kl, left kl = false) : ss.Perm (uKeys D0) := by
  obtain ⟨es, hD, hpw, _⟩ := hown.entries K
  obtain ⟨es', hD', hko⟩ := hown.keysOf
  obtain rfl : es = es' := by rw [hD] at hD'; simpa using hD'
  subst hD
  exact perm_uKeys hpw (fun p hp => by obtain ⟨v, hv⟩ := hko p hp; obtain ⟨x, _, hx, _⟩ := keyOf_u64 hk hv; exact ⟨x, hx⟩) h.1 (fun x => by rw [h.2 x, hl]; simp)
end

/-! maps.Keys -/
theorem mkeys_any (mb : Option Nat) (w : World) :
    Calls Try.prog 33 #[.map mb] w fun e w' => e = .returned (.func (.func 61) #[] #[.pointer (some ⟨w.heap.size, 0, none⟩)]) ∧ w' = w.alloc (.cells #[.map mb] 75) := by
  go_enter Try.func33, Try.ntmps33
  go_wp2
  go_ret
  exact ⟨rfl, rfl⟩
set_option maxRecDepth 100000 in
set_option maxHeartbeats 1000000 in
theorem mkeys_gives {H : Type} (n : Nat) (hn : 1 ≤ n) (Bm b nn : Nat) (D0 : DataW H) {R : Value → Option (DataW H × List MemPlace)} (w : World) (hBm : Bm < w.heap.size) (hm : w.cell? ⟨Bm, 0, none⟩ = some (.map (some b))) (hown0 : w.ownsMap Try.prog 66 R b nn D0) :
    SeqStopsK Fence.wide n Try.prog 61 #[.pointer (some ⟨Bm, 0, none⟩)] (fun x : Int => #[U x]) KeepsWalks (fun ss => ss.Perm (uKeys D0)) (fun _ => True) (Maps.size D0) w := by
  intro l J Jx W hW hJ hJx hY h0
  have hm' := (hW.cell (p := ⟨Bm, 0, none⟩) hBm).trans hm
  have hown : W.ownsMap Try.prog 66 R b nn D0 := by
    have hbl := hown0.lt
    obtain ⟨es, clock, hb, Ft, hs, hD⟩ := hown0
    exact ⟨es, clock, (hW.block b hbl).trans hb, Ft, hs, hD⟩
  clear hm hown0 hW
  show CallsIn Fence.wide n Try.prog 61 #[.func (.yield l) #[] #[], .pointer (some ⟨Bm, 0, none⟩)] W _
  refine callsIn_of_wp Try.func61 rfl trivial ?_ rfl

  simp only [Try.ntmps61, List.size_toArray, List.length_cons, List.length_nil, Nat.reduceAdd, Nat.reduceSub, Array.replicate_succ, Array.replicate_zero, List.push_toArray, List.append_toArray, List.nil_append, List.cons_append]
  gi_wp2_with (first
    | (gi_at_range; refine wpListIn_range_own _ rfl _ 75 rfl 66 4 (int_keyed Try.underlying66) Try.underlying75 _ b nn _ rfl hown ?_; intro w0 hrg0 hg0 hs0)
    | gi_in)
  try go_frame
  gi_loopw [3] (fun _ wr => ∃ (left : Lit → Bool) (cnt : Nat) (ss : List Int), wr.ranges Try.prog 66 R b W.heap.size nn D0 left cnt ∧ ss.length + cnt ≤ Maps.size D0 ∧ CollU D0 left ss ∧ J ss wr)
    (fun _ wr => wr.rangeLeft b W.heap.size)
  case atStart =>
    exact ⟨_, _, [], hrg0, by simp, CollU.start D0, hJ [] W w0 none h0 hg0 (fun r e => by cases e)⟩
  case round =>
    obtain ⟨left, cnt, ss, hrg, hcs, hC, hJs⟩ := hrel
    gi_wp2_with (first
      | (gi_at_next; refine wpListIn_next_ranges _ rfl _ rfl 66 (int_keyed Try.underlying66) R U id (fun key kl hk => by obtain ⟨x, hx, _⟩ := keyOf_u64 Try.underlying66 hk; exact ⟨x, hx⟩) (fun v _ _ => ⟨v, rfl⟩) b W.heap.size nn _ _ _ rfl hrg ?_ ?_)
      | gi_in)
    · intro hc0 hl0
      gi_wp2
      go_end0
      exact ⟨⟨_, rfl⟩, .inl ⟨ss, hC.perm hown (int_keyed Try.underlying66) Try.underlying66 hl0, hJs⟩⟩
    · intro x c kl yd yp w2 cnt2 hkey hlk hv hat hrg2 hlt hg2 hs2 hen
      obtain ⟨x', ex, rfl, _⟩ := keyOf_u64 Try.underlying66 hkey
      obtain rfl : x = x' := U_inj ex
      have hJ2 : J ss w2 := hJ ss wr w2 (some W.heap.size) hJs hg2 (fun r e => by cases e; exact ⟨Nat.le_refl _, hrg.iter_walk⟩)
      obtain ⟨fn, tmps, assign, body, hy, hR⟩ := hY ss x w2 hJ2 (by omega)
      clear hs2
      gi_wp2
      refine hR.mono ?_
      rintro e W3 (⟨rfl, hJ3, hk3⟩ | ⟨rfl, hJx3⟩)
      · gi_wp2
        have hrg3 := hrg2.of_walks hk3
        go_roundw
        case rel => exact ⟨_, cnt2, ss ++ [x], hrg3, by simp; omega, hC.step hlk hat, hJ3⟩
        case measure => rw [hrg3.left_eq, hrg.left_eq]; exact hlt
      · gi_wp2
        (try simp only [Exit.inBlock, Exit.then]); refine bodyPost_ret (results_none rfl _ _ _) rfl ?_
        exact ⟨⟨_, rfl⟩, .inr ⟨_, trivial, hJx3⟩⟩
/-! slices.AppendSeq -/
theorem info_u64 : (Try.prog.info? 66).map (fun i => (i.zero, i.size, i.bytes)) = some (some (.int .u64 0), 1, 8) := by kernel_rfl
/-- between two rounds -/
def SeqI (w : World) (ss : List Int) (W : World) : Prop := ∃ v, W.heap[w.heap.size]? = some (.cells #[v] 42 (0, 0)) ∧ W.ownsRow (w.heap.size + 1) 66 1 v ss.length (ss.map U) ∧ (v = .slice none 0 0 ↔ ss = []) ∧ Below w.heap.size w W
theorem SeqI.own (w : World) : OwnFrom (w.heap.size + 1) (SeqI w) := by
  rintro ss W W' row ⟨v, h1, h2, h3, h4⟩ hg hr
  have hne : some w.heap.size ≠ row := fun e => by obtain ⟨hB, _⟩ := hr _ e.symm; omega
  have hlt : w.heap.size < W.heap.size := (Array.getElem?_eq_some_iff.1 h1).1
  refine ⟨v, (hg.block _ hlt hne).trans h1, h2.kept hg ?_, h3, h4.grown hg h4.size (fun k e => by have := (hr k e).1; omega)⟩
  cases row with
  | none => exact Decidable.em _ |>.elim (fun h => .inl h) (fun h => .inr h)
  | some r =>
    obtain ⟨_, o, ho, hc⟩ := hr r rfl
    rcases h2.2 with ⟨rfl, _⟩ | ⟨g, cap, cur, rfl, _, hgb, _⟩
    · exact .inl rfl
    · refine .inr fun e => ?_
      have hgr : g = r := by simpa [Value.ownBlock] using e
      subst hgr
      rw [hgb] at ho
      cases ho
      cases hc
set_option maxRecDepth 100000 in
set_option maxHeartbeats 2000000 in
theorem appseq_in (n : Nat) (hn : 2 ≤ n) (g : Nat) (lb : Array Value) (eg : ∀ args w, (callFunc g args).run Try.prog w = .ok (.enter g args) w) (S Sp : List Int → Prop) (N : Nat) (hN : N ≤ 1000000) (w : World)
    (hseq : SeqStopsK Fence.wide (n - 1) Try.prog g lb (fun x : Int => #[U x]) KeepsWalks S Sp N w) :
    CallsIn Fence.wide n Try.prog 76 #[.slice none 0 0, .func (.func g) #[] lb] w fun e w' => ∃ (v : Value) (ss : List Int), e = .returned v ∧ S ss ∧ w'.ownsRow w.heap.size 66 1 v ss.length (ss.map U) ∧ (v = .slice none 0 0 ↔ ss = []) ∧ Below w.heap.size w w' := by
  obtain ⟨i0, hi, hz0, hz1, hz2⟩ := info_parts info_u64
  refine callsIn_of_wp_marks Try.func76 rfl trivial ?_ rfl
  simp only [Try.ntmps76, List.size_toArray, List.length_cons, List.length_nil, Nat.reduceAdd, Nat.reduceSub, Array.replicate_succ, Array.replicate_zero, List.push_toArray, List.append_toArray, List.nil_append, List.cons_append]
  gi_wp2
  obtain ⟨W0, hW0⟩ : ∃ W0, w.alloc (.cells #[.slice none 0 0] 42) = W0 := ⟨_, rfl⟩
  have hs0 : W0.heap.size = w.heap.size + 1 := by rw [← hW0]; simp
  have hv0 : W0.heap[w.heap.size]? = some (.cells #[.slice none 0 0] 42 (0, 0)) := by rw [← hW0]; exact World.alloc_heap_new w _
  have hb0 : Below w.heap.size w W0 := by rw [← hW0]; exact (Below.refl _ w).alloc (Nat.le_refl _) _
  rw [hW0]
  refine wpIn_rangeFunc_ownF (F := Fence.wide) rfl (by omega) (gf := g) (lb := lb) rfl trivial eg hseq walksK_t walksK_b hb0 (fun x => rfl) (SeqI w) (fun _ _ _ => False) (by rw [hs0]; exact SeqI.own w) (fun _ _ _ _ _ h => h.elim)
    ⟨_, hv0, World.ownsRow_nil _ _ _ _, by simp, hb0⟩
    (fun x => { tmps := #[.slice none 0 0, .func (.func g) #[] lb, .pointer (some ⟨w.heap.size, 0, none⟩), undef, .slice none 0 0, U x, .func (.func g) #[] lb, U x, undef, undef, undef, undef, undef], defers := [] }) ?assign ?body ?done ?stop
  case assign =>
    intro l x W K hK
    gi_wp2
    exact hK
  case body =>
    rintro l pre x W ⟨v, h1, h2, h3, h4⟩ hpl
    obtain ⟨c0, f0⟩ := cell_of_box_a h1
    have hlt : w.heap.size < W.heap.size := (Array.getElem?_eq_some_iff.1 h1).1
    have hne : some w.heap.size ≠ v.ownBlock := fun e => by have := (h2.lt _ e.symm).1; omega
    gi_wp2_with (first
      | (gi_at_builtin; refine wpListIn_append_own _ rfl _ _ 42 rfl (w.heap.size + 1) 66 i0 (.int .u64 0) 1 8 Try.underlying42 hi hz0 hz1 hz2 rfl (by decide) _ _ _ rfl (h2.alloc _) ⟨W.heap.size, 0, none⟩ 1 1 [U x] rfl rfl (cell_one_new _ _ _) (by simp [Value.oneCell']) (by unfold maxLen; omega) (by omega) (by simp; omega) ?_; intro v' w3 hown' hg3 hnil3
         have hv3 : w3.heap[w.heap.size]? = some (.cells #[v] 42 (0, 0)) := (hg3.block w.heap.size (by simp; omega) hne).trans ((Below.heap_alloc _ _ _ hlt).trans h1)
         obtain ⟨hc3, hf3⟩ := cell_of_box_a hv3
         obtain ⟨g', cap', cur', rfl, hbase', hgb', hr1, hr2, hr3, hr4⟩ : ∃ g' cap' cur', v' = .slice (some ⟨g', 0, none⟩) (pre.length + 1) cap' ∧ w.heap.size + 1 ≤ g' ∧ w3.heap[g']? = some (.cells cur' 66 (0, 0)) ∧ pre.length + 1 ≤ cap' ∧ cap' ≤ maxLen ∧ cur'.size = cap' * 1 ∧ cur'.toList.take ((pre.length + 1) * 1) = pre.map U ++ [U x] := by
           rcases hown'.2 with ⟨_, h0⟩ | h'
           · exact absurd h0 (by omega)
           · exact h')
      | gi_in)
    have hg3' : (W.alloc (.cells #[U x] 66)).grownBy w3 v.ownBlock := hg3
    have hk1 : KeepsWalks W w3 := (KeepsWalks.alloc _ _).trans (KeepsWalks.of_grownBy hg3' (ownsRow_not_walk_a (h2.alloc _)))
    have hb3 : Below w.heap.size w w3 := (h4.alloc h4.size _).grown hg3' (by simp; omega) (fun k e => by have := (h2.lt k e).1; omega)
    have ho3 : KeepsOthers W w3 := (KeepsOthers.alloc W (.cells #[U x] 66)).trans (KeepsOthers.of_grownBy hg3' fun j o ej hj => by
      rcases (h2.alloc (.cells #[U x] 66)).2 with ⟨rfl, _⟩ | ⟨g, cap, cur, rfl, _, hgb, _⟩
      · simp [Value.ownBlock] at ej
      · obtain rfl : g = j := by simpa [Value.ownBlock] using ej
        rw [hgb] at hj; cases hj; rfl)
    refine ⟨ho3.trans (KeepsOthers.setCell _ _ _), hk1.trans (KeepsWalks.setCell _ _ _), _, heap_setCell_box_a _ hv3, ?_, by simp, hb3.setCell (p := ⟨w.heap.size, 0, none⟩) (Nat.le_refl _) _⟩
    have hrow := hown'.kept (grownBy_setCell0_a w3 w.heap.size (.slice (some ⟨g', 0, none⟩) (pre.length + 1) cap')) (.inr (by simp [Value.ownBlock]; omega))
    simpa using hrow
  case done =>
    rintro D xs W hD hS ⟨v, h1, h2, h3, h4⟩ hK
    obtain ⟨c0, f0⟩ := cell_of_box_a h1
    gi_wp2
    refine ⟨by simp, .inl ⟨_, _, rfl, run_takeDeferred hK, ?_⟩⟩
    refine ⟨_, results_tmp rfl _ _ _, v, xs, rfl, hS, ?_, h3, ?_⟩
    · exact own_base (h2.kept (grownBy_putObj_a W D _) (ownsRow_ne_a h2 hK (fun cur e => by cases e))) (Nat.le_succ _)
    · exact h4.grown (grownBy_putObj_a W D _) h4.size (fun k e => by cases e; omega)
  case stop => rintro D c pre W _ _ h; exact h.elim
set_option maxHeartbeats 1000000 in
theorem collect_in (n : Nat) (hn : 3 ≤ n) (g : Nat) (lb : Array Value) (eg : ∀ args w, (callFunc g args).run Try.prog w = .ok (.enter g args) w) (S Sp : List Int → Prop) (N : Nat) (hN : N ≤ 1000000) (w : World)
    (hseq : SeqStopsK Fence.wide (n - 1 - 1) Try.prog g lb (fun x : Int => #[U x]) KeepsWalks S Sp N w) :
    CallsIn Fence.wide n Try.prog 59 #[.func (.func g) #[] lb] w fun e w' => ∃ (v : Value) (ss : List Int), e = .returned v ∧ S ss ∧ w'.ownsRow w.heap.size 66 1 v ss.length (ss.map U) ∧ (v = .slice none 0 0 ↔ ss = []) ∧ Below w.heap.size w w' := by
  refine callsIn_of_wp Try.func59 rfl trivial ?_ rfl
  simp only [Try.ntmps59, List.size_toArray, List.length_cons, List.length_nil, Nat.reduceAdd, Nat.reduceSub, Array.replicate_succ, Array.replicate_zero, List.push_toArray, List.append_toArray, List.nil_append, List.cons_append]
  gi_wp2_with fail
  refine ⟨trivial, fun _ => by omega, ?_⟩
  refine (appseq_in (n - 1) (by omega) g lb eg S Sp N hN _ hseq).mono ?_
  rintro e w' ⟨v, ss, rfl, hS, hrow, hnil, hb⟩
  gi_wp2
  go_ret
  exact ⟨v, ss, rfl, hS, hrow, hnil, hb⟩
/-- behind the sort the same slice owns the sorted list -/
theorem heap_sorted_u {w : World} {g n : Nat} {cur : Array Value} {e : TypeId} {fr : Nat × Nat} (d : Array Int) (hb : w.heap[g]? = some (.cells cur e fr)) :
    (putRow U (Sort.ahead w n) g 0 d).heap[g]? = some (.cells (putCells U 0 d cur) e fr) := by
  have hg : g < w.heap.size := (Array.getElem?_eq_some_iff.1 hb).1
  simp [putRow, mapBlock, Sort.ahead, Array.getElem?_modify, hb, onCells]
theorem grownBy_sorted_u {w : World} {g n : Nat} (d : Array Int) : w.grownBy (putRow U (Sort.ahead w n) g 0 d) (some g) := by
  refine ⟨rfl, rfl, rfl, by simp, fun k hk hne => ?_⟩
  have : g ≠ k := fun e => hne (by rw [e])
  simp [putRow, mapBlock, Sort.ahead, Array.getElem?_modify, this]
theorem take_putCells_u (cur : Array Value) (ts : List Int) (h : ts.length ≤ cur.size) : (putCells U 0 ts.toArray cur).toList.take ts.length = ts.map U := by
  apply List.ext_getElem?
  intro j
  by_cases hj : j < ts.length
  · rw [List.getElem?_take_of_lt hj, Array.getElem?_toList]
    simp [putCells, hj, show j < cur.size by omega]
  · rw [List.getElem?_take_eq_none (by omega), List.getElem?_eq_none (by simp; omega)]
set_option maxRecDepth 100000 in
set_option maxHeartbeats 2000000 in
theorem sorted_any {H : Type} (Bm b nn : Nat) (D0 : DataW H) {R : Value → Option (DataW H × List MemPlace)} (w : World) (hBm : Bm < w.heap.size) (hm : w.cell? ⟨Bm, 0, none⟩ = some (.map (some b))) (hown : w.ownsMap Try.prog 66 R b nn D0) (h12 : Maps.size D0 ≤ 12) (h0 : 0 < Maps.size D0) :
    Calls Try.prog 32 #[.func (.func 61) #[] #[.pointer (some ⟨Bm, 0, none⟩)]] w fun e w' => ∃ (v : Value) (ss : List Int), e = .returned v ∧ ss.Perm (uKeys D0) ∧
      w'.ownsRow w.heap.size 66 1 v ss.length ((ss.mergeSort (fun x y => decide (x ≤ y))).map U) ∧ Below w.heap.size w w' := by
  have hc := (callsIn_wide (n := 6)).1 (collect_in 6 (by omega) 61 #[.pointer (some ⟨Bm, 0, none⟩)] (enters_of Try.func61 (by kernel_rfl) rfl) _ _ (Maps.size D0) (by omega) w (mkeys_gives 4 (by omega) Bm b nn D0 w hBm hm hown))
  have hlen : ∀ ss : List Int, ss.Perm (uKeys D0) → 0 < ss.length ∧ ss.length ≤ 12 := fun ss hp => by
    rw [hp.length_eq]
    obtain ⟨es, hD, _⟩ := hown.entries (int_keyed Try.underlying66)
    subst hD
    exact ⟨by simpa [uKeys, Maps.size] using h0, by simpa [uKeys, Maps.size] using h12⟩
  clear hown h12 h0
  go_enter Try.func32, Try.ntmps32
  go_wp2_with fail
  refine hc.mono ?_
  rintro e w1 ⟨v, ss, rfl, hS, hrow, hnil, hb⟩
  obtain ⟨hl0, hl⟩ := hlen ss hS
  rcases hrow.2 with ⟨rfl, hz⟩ | ⟨gb, cap, cur, rfl, hbase, hgb, r1, r2, r3, r4⟩
  · omega
  · have hH : Holds U w1 gb 0 ss.toArray := by
      intro j hj
      have hj' : j < ss.length := by simpa using hj
      refine ⟨?_, by simp [World.frozen?, hgb]⟩
      have h1 : (cur.toList.take (ss.length * 1))[j]? = (ss.map U)[j]? := by rw [r4]
      rw [List.getElem?_take_of_lt (by omega)] at h1
      simp only [World.cell?, hgb, Nat.zero_add]
      simp only [Option.isSome_none, Bool.false_eq_true, if_false]
      rw [← Array.getElem?_toList, h1]
      simp [hj']
    have hs := sort_u gb 0 cap ss w1 hH hl
    have HR := Go.Lib.hid hrow
    have HC := Go.Lib.hid hgb
    clear hrow hgb hH
    go_wp2_with fail
    refine hs.mono ?_
    rintro e w2 ⟨rfl, nn2, hw2⟩
    have HW := Go.Lib.hid hw2
    clear hw2
    go_wp2
    go_ret
    refine ⟨_, ss, rfl, hS, ?_, ?_⟩
    · rw [HW.out]
      exact ⟨by simp, .inr ⟨gb, cap, _, rfl, hbase, heap_sorted_u _ HC.out, r1, r2, by simp [putCells, r3], by
        have h := take_putCells_u cur (ss.mergeSort fun x y => decide (x ≤ y)) (by simp; omega)
        rw [List.length_mergeSort] at h
        rw [Nat.mul_one]; exact h⟩⟩
    · rw [HW.out]
      exact hb.grown (grownBy_sorted_u _) hb.size (fun j hj => by cases hj; exact hbase)
end Go.Proofs.Ytipnhpfpppblhaa
