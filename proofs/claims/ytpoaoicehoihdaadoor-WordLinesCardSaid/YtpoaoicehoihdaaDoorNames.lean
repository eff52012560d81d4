/- word.Names and word.NamesText: contracts. -/
import Derived.Test.YtpoaoicehoihdaaDoorSeen
import Derived.Test.YtpoaoicehoihdaaDoorName
import Derived.Test.YtpoaoicehoihdaaDoorCut
import Derived.Test.YtpoaoicehoihdaaDoorJoin
namespace Go.Proofs.YtpoaoicehoihdaaDoor
open Go.RowKit Go.Maps

/-- the library's variable holds some number -/
def MaxAt (w : World) : Prop := 2 < w.heap.size ∧ ∃ m : Int, w.cell? ⟨2, 0, none⟩ = some (.int .i64 m)
theorem MaxAt.later {w w' : World} (h : MaxAt w) (hb : Below w.heap.size w w') : MaxAt w' := by
  obtain ⟨h1, m, h2⟩ := h
  exact ⟨Nat.lt_of_lt_of_le h1 hb.size, m, (hb.cell (p := ⟨2, 0, none⟩) h1).trans h2⟩
theorem MaxAt.of_shaped {w : World} (h : w.ShapedOpen Tryd.prog) : MaxAt w := by
  obtain ⟨m, hm⟩ := Tryd.laysM146.s1_3 w h
  have hm' : w.cell? ⟨2, 0, none⟩ = some (.int .i64 m) := hm
  refine ⟨?_, m, hm'⟩
  rcases Nat.lt_or_ge 2 w.heap.size with h' | h'
  · exact h'
  · simp [World.cell?, Array.getElem?_eq_none h'] at hm'

theorem ssplit_any (s : ByteArray) (d : UInt8) (w : World) (hM : MaxAt w) (hs : s.size ≤ 1073741824) :
    Calls Tryd.prog 33 #[.string s, .string ⟨#[d]⟩] w fun e w' => ∃ xs : List ByteArray, e = .returned (.slice (some ⟨w.heap.size, 0, none⟩) xs.length xs.length) ∧ xs.map B = cutB d (B s) ∧
      (∀ (j : Nat) x, xs[j]? = some x → w'.cell? ⟨w.heap.size, j, none⟩ = some (.string x)) ∧ w.heap.size < w'.heap.size ∧ Below w.heap.size w w' := by
  obtain ⟨_, m, hm⟩ := hM
  refine (Tryd.strings_Split s ⟨#[d]⟩ m w (by omega) hm (by show 1 ≤ 1; omega)).mono ?_
  rintro e w' ⟨rfl, rfl⟩
  refine ⟨Lib.splitB ⟨#[d]⟩ 0 (Lib.countB s ⟨#[d]⟩) s, by rw [splitB_len], splitB_cut d s, fun j x hx => ?_, by simp, (Below.refl _ _).alloc (Nat.le_refl _) _⟩
  rw [World.cell?_alloc_at _ _ _ _ rfl]
  simp [hx]

/-- names with commas between; none: they may not be -/
def namesL (l : List UInt8) : Option (List (List UInt8)) := if l = [45] then some [] else if (cutB 44 l).all nameL && decide (cutB 44 l).Nodup then some (cutB 44 l) else none

theorem namesL_bad {s : ByteArray} {xs : List ByteArray} (hx : xs.map B = cutB 44 (B s)) (hd : ¬ B s = [45]) {k : Nat} (hk : k < xs.length) (h : nameL (B xs[k]) = false ∨ seenB (xs.take k) xs[k] = true) : namesL (B s) = none := by
  unfold namesL
  rw [if_neg hd, ← hx, if_neg]
  intro hh
  rw [Bool.and_eq_true, decide_eq_true_eq, List.all_map, List.all_eq_true] at hh
  rcases h with h | h
  · have := hh.1 xs[k] (List.getElem_mem hk)
    rw [Function.comp_apply, h] at this
    cases this
  · simp only [seenB, List.any_eq_true, decide_eq_true_eq] at h
    obtain ⟨y, hy, rfl⟩ := h
    obtain ⟨i, hi, e⟩ := List.getElem_of_mem hy
    rw [List.length_take] at hi
    rw [List.getElem_take] at e
    have hn := List.pairwise_iff_getElem.1 hh.2 i k (by rw [List.length_map]; omega) (by rw [List.length_map]; exact hk) (by omega)
    rw [List.getElem_map, List.getElem_map, e] at hn
    exact hn rfl
structure NamesTo (xs : List ByteArray) (k : Nat) : Prop where
  all : ∀ x ∈ xs.take k, nameL (B x) = true
  nodup : (xs.take k).Nodup
theorem NamesTo.start (xs : List ByteArray) : NamesTo xs 0 := ⟨by simp, by simp⟩
theorem NamesTo.step {xs : List ByteArray} {k : Nat} (h : NamesTo xs k) (hk : k < xs.length) (h1 : nameL (B xs[k]) = true) (h2 : seenB (xs.take k) xs[k] = false) : NamesTo xs (k + 1) := by
  rw [seenB, List.any_eq_false] at h2
  constructor
  · rw [List.take_succ_eq_append_getElem hk]
    intro x hx
    rcases List.mem_append.1 hx with hx | hx
    · exact h.all x hx
    · rw [List.mem_singleton] at hx; rw [hx]; exact h1
  · rw [List.take_succ_eq_append_getElem hk, List.nodup_append]
    refine ⟨h.nodup, by simp, fun a ha b hb e => ?_⟩
    rw [List.mem_singleton] at hb
    subst hb
    exact h2 a ha (by simpa using e)
theorem NamesTo.done {s : ByteArray} {xs : List ByteArray} (hx : xs.map B = cutB 44 (B s)) (hd : ¬ B s = [45]) (h : NamesTo xs xs.length) : namesL (B s) = some (xs.map B) := by
  have h1 := h.all
  have h2 := h.nodup
  rw [List.take_length] at h1 h2
  unfold namesL
  rw [if_neg hd, ← hx, if_pos]
  rw [Bool.and_eq_true, decide_eq_true_eq, List.all_map, List.all_eq_true]
  refine ⟨fun x hx => h1 x hx, ?_⟩
  rw [List.Nodup, List.pairwise_map]
  exact h2.imp fun hne e => hne (B_inj e)

/-- what word.Names leaves -/
def NamesPost (s : ByteArray) (w : World) (e : Ending) (w' : World) : Prop :=
  (∃ v ws, e = .returned (.tuple #[v, .int .i64 0]) ∧ namesL (B s) = some (ws.map B) ∧ StrsAt w' v ws ∧ Fresh w v ∧ Below w.heap.size w w') ∨
      (e = .returned (.tuple #[.slice none 0 0, .int .i64 2]) ∧ namesL (B s) = none ∧ Below w.heap.size w w')

set_option maxHeartbeats 800000 in
theorem names_any (s : ByteArray) (w : World) (hM : MaxAt w) (hs : s.size ≤ 1048576) : Calls Tryd.prog 20 #[.string s] w (NamesPost s w) := by
  by_cases h45 : B s = [45]
  · have hB : (s.toList == [45]) = true := by rw [toList_B, h45]; rfl
    have HR : Hid (namesL (B s) = some ([].map B)) := by show _ = _; rw [namesL, if_pos h45]; rfl
    clear h45
    go_enter Tryd.func20, Tryd.ntmps20
    go_wp2
    go_ret2
    exact .inl ⟨_, [], rfl, HR.out, StrsAt.nil _, (fun k hk => by cases hk), Below.refl _ _⟩
  have hB : (s.toList == [45]) = false := by rw [toList_B]; simpa using h45
  have hsp := ssplit_any s 44 w hM (by omega)
  have hmm := @run_makeMap Tryd.prog
  have H45 := Lib.hid h45
  clear h45
  go_enter Tryd.func20, Tryd.ntmps20
  go_wp2_with fail
  refine hsp.mono ?_
  rintro e w1 ⟨xs, rfl, hx, hcell, hlt, hb1⟩
  have hxl : xs.length ≤ 1048577 := by
    have := congrArg List.length hx
    rw [List.length_map] at this
    have h2 := cutB_len 44 (B s)
    rw [len_B] at h2
    omega
  have HX := Lib.hid hx
  have HC := Lib.hid hcell
  clear hx hcell hsp
  go_wp2
  go_loopw [15] (fun i wr => ∃ k : Nat, k ≤ xs.length ∧ i = .int .i64 k ∧ Hid (NamesTo xs k) ∧ wr.ownsMap Tryd.prog 9 (plainElem Tryd.prog 4) w1.heap.size k (seenD (xs.take k)) ∧ Below w.heap.size w wr ∧
      Hid (∀ (j : Nat) x, xs[j]? = some x → wr.cell? ⟨w.heap.size, j, none⟩ = some (.string x)) ∧ w.heap.size < wr.heap.size) (fun i _ => xs.length - (intOf i).toNat)
  case atStart =>
    refine ⟨0, Nat.zero_le _, rfl, NamesTo.start xs, World.ownsMap_made _ _ _ _, hb1.alloc hb1.size _, fun j x hj => ?_, by simp; omega⟩
    exact (((Below.refl w1.heap.size w1).alloc (Nat.le_refl _) (.map #[] 0)).cell (p := ⟨w.heap.size, j, none⟩) hlt).trans (HC.out j x hj)
  case round =>
    obtain ⟨k, hk, rfl, HN, hown, hbr, HCr, hltr⟩ := hrel
    by_cases hkl : k < xs.length
    · obtain ⟨x, hxe⟩ : ∃ x, xs[k] = x := ⟨_, rfl⟩
      have hcx : wr.cell? ⟨w.heap.size, k, none⟩ = some (.string x) := HCr.out k x (by rw [← hxe]; exact List.getElem?_eq_getElem hkl)
      have hxs : x.size ≤ 1048576 := by
        have := cutB_mem_len 44 (B s) (B x) (by rw [← HX.out, ← hxe]; exact List.mem_map_of_mem (List.getElem_mem hkl))
        rw [len_B, len_B] at this
        omega
      have hnm := name_any x wr (by unfold maxLen; omega)
      cases hg : nameL (B x)
      · have HR : Hid (namesL (B s) = none) := namesL_bad HX.out H45.out hkl (.inl (by rw [hxe]; exact hg))
        rw [hg] at hnm
        clear hxe hg
        go_wp2_with (go_at_call 34; refine hnm.mono ?_; rintro e w3 ⟨rfl, hb3⟩)
        go_ret2
        exact .inr ⟨rfl, HR.out, hbr.trans (hb3.mono hbr.size)⟩
      · rw [hg] at hnm
        have hrun : ∀ w3, Below wr.heap.size wr w3 → (Instr.lookup 54 (.map (some w1.heap.size)) (.string x) false).run Tryd.prog w3 = .ok (.bool (seenB (xs.take k) x)) w3 := fun w3 hb3 =>
          seen_lookup (hown.kept (below_grown hb3 none) (by simp)) Tryd.underlying54 Tryd.underlying9 Tryd.underlying4 (Tryd.zeroValue4 _) x (by unfold maxLen; omega)
        have HRUN := Lib.hid hrun
        clear hrun
        cases hs2 : seenB (xs.take k) x
        · have HN' : Hid (NamesTo xs (k + 1)) := HN.out.step hkl (by rw [hxe]; exact hg) (by rw [hxe]; exact hs2)
          have hst : seenD (xs.take (k + 1)) = (seenD (xs.take k)).put (keyS x) (.lit (.bool true)) := by
            rw [List.take_succ_eq_append_getElem hkl, seenD_snoc, hxe]
          have HST := Lib.hid hst
          rw [hs2] at HRUN
          have hkey : keyOf Tryd.prog 9 (.string x) = some (keyS x) := WideMaps.keyOf_string_mk Tryd.underlying9 (by unfold maxLen; omega)
          clear hxe hg hs2 hst
          go_wp2_with (first
            | (go_at_call 34; refine hnm.mono ?_; rintro e w3 ⟨rfl, hb3⟩; have hl3 := HRUN.out w3 hb3; have hown3 := hown.kept (below_grown hb3 none) (by simp))
            | (at_mapUpdate; refine wpList_mapUpdate_own _ rfl _ _ _ 54 rfl 9 4 (string_keyed Tryd.underlying9) Tryd.underlying54 (plainElem Tryd.prog 4) w1.heap.size k _ rfl hown3 (by unfold maxLen; omega) _ _ (keyS x) rfl rfl hkey _ [] (plainElem_bool Tryd.underlying4 true) ?_; intro w4 hown4 hg4)
            | fail)
          go_roundw
          case rel =>
            refine ⟨k + 1, by omega, by go_num, HN', by rw [HST.out]; exact hown4, (hbr.trans (hb3.mono hbr.size)).grown hg4 (Nat.le_trans hbr.size hb3.size) (fun j hj => by cases hj; omega), fun j y hj => ?_, Nat.lt_of_lt_of_le hltr (Nat.le_trans hb3.size hg4.size)⟩
            exact hg4.cell ((hb3.cell (p := ⟨w.heap.size, j, none⟩) hltr).trans (HCr.out j y hj)) (by simp; omega)
          case measure => simp [intOf]; omega
        · have HR : Hid (namesL (B s) = none) := namesL_bad HX.out H45.out hkl (.inr (by rw [hxe]; exact hs2))
          rw [hs2] at HRUN
          clear hxe hg hs2
          go_wp2_with (go_at_call 34; refine hnm.mono ?_; rintro e w3 ⟨rfl, hb3⟩; have hl3 := HRUN.out w3 hb3)
          go_ret2
          exact .inr ⟨rfl, HR.out, hbr.trans (hb3.mono hbr.size)⟩
    · obtain rfl : k = xs.length := by omega
      have HR : Hid (namesL (B s) = some (xs.map B)) := HN.out.done HX.out H45.out
      go_wp2
      go_ret2
      refine .inl ⟨_, xs, rfl, HR.out, ⟨RdAt.mk (by simp) (Nat.le_refl _) hltr (fun j y hj => ?_), by omega⟩, (fun b hb => by cases hb; exact Nat.le_refl _), hbr⟩
      rw [List.getElem?_map, Option.map_eq_some_iff] at hj
      obtain ⟨z, hz, rfl⟩ := hj
      rw [Nat.zero_add]
      exact HCr.out j z hz

/-- the text of names -/
def namesT (ws : List (List UInt8)) : List UInt8 := if ws = [] then [45] else Lib.join ws [44]
theorem namesText_any (w : World) {v : Value} {ws : List ByteArray} (hv : StrsAt w v ws) (hl : (Lib.join (ws.map B) [44]).length ≤ 1073741824) :
    Calls Tryd.prog 24 #[v] w fun e w' => ∃ s : ByteArray, e = .returned (.string s) ∧ B s = namesT (ws.map B) ∧ Below w.heap.size w w' := by
  have hj := sjoin_any w ⟨#[44]⟩ hv (by show (Lib.join _ [44]).length ≤ _; omega)
  have hm := hv.2
  obtain ⟨a, c, rfl, hc, hr⟩ := hv.shape
  by_cases h0 : ws = []
  · subst h0
    go_enter Tryd.func24, Tryd.ntmps24
    go_wp2
    go_ret
    exact ⟨⟨#[45]⟩, rfl, rfl, Below.refl _ _⟩
  · have hl0 : ((ws.length : Int) == 0) = false := by
      have : ws.length ≠ 0 := fun h => h0 (List.length_eq_zero_iff.1 h)
      rw [beq_eq_false_iff_ne]; omega
    clear hr hl
    go_enter Tryd.func24, Tryd.ntmps24
    go_wp2_with fail
    refine hj.mono ?_
    rintro e w1 ⟨s, rfl, hs, hb⟩
    go_wp2
    go_ret
    exact ⟨s, rfl, by rw [hs, namesT, if_neg (by simpa using h0)], hb⟩

theorem names_some (s : ByteArray) (w : World) (hM : MaxAt w) (hs : s.size ≤ 1048576) {l : List (List UInt8)} (h : namesL (B s) = some l) :
    Calls Tryd.prog 20 #[.string s] w fun e w' => ∃ v ws, e = .returned (.tuple #[v, .int .i64 0]) ∧ ws.map B = l ∧ StrsAt w' v ws ∧ Below w.heap.size w w' := by
  refine (names_any s w hM hs).mono ?_
  rintro e w' (⟨v, ws, h1, h2, h3, _, h4⟩ | ⟨_, h2, _⟩)
  · exact ⟨v, ws, h1, by rw [h] at h2; exact (Option.some.inj h2).symm, h3, h4⟩
  · rw [h] at h2; cases h2
theorem names_none (s : ByteArray) (w : World) (hM : MaxAt w) (hs : s.size ≤ 1048576) (h : namesL (B s) = none) :
    Calls Tryd.prog 20 #[.string s] w fun e w' => e = .returned (.tuple #[.slice none 0 0, .int .i64 2]) ∧ Below w.heap.size w w' := by
  refine (names_any s w hM hs).mono ?_
  rintro e w' (⟨v, ws, h1, h2, h3, _, h4⟩ | ⟨h1, h2, h3⟩)
  · rw [h] at h2; cases h2
  · exact ⟨h1, h3⟩

/-! the plain law -/
theorem oddN_comma : oddN 44 = true := by decide
theorem oddN_dash : oddN 45 = true := by decide
theorem name_no {l : List UInt8} (h : nameL l = true) {c : UInt8} (hc : oddN c.toNat = true) : c ∉ l := by
  intro hm
  simp only [nameL, Bool.and_eq_true, Bool.not_eq_true'] at h
  have := List.any_eq_false.1 h.2 c hm
  exact this hc
theorem name_ne {l : List UInt8} (h : nameL l = true) : l ≠ [] := by
  intro e; subst e; cases h
theorem name_len {l : List UInt8} (h : nameL l = true) : l.length ≤ 12 := by
  simp only [nameL, Bool.and_eq_true, decide_eq_true_eq] at h
  exact h.1.1.2
theorem cutB_join {d : UInt8} : ∀ {ns : List (List UInt8)}, ns ≠ [] → (∀ n ∈ ns, d ∉ n) → cutB d (Lib.join ns [d]) = ns
  | [], h, _ => absurd rfl h
  | [x], _, h => by rw [Lib.join_one]; exact cutB_none (h x (List.mem_singleton_self x))
  | x :: y :: r, _, h => by
    have e : Lib.join (x :: y :: r) [d] = x ++ d :: Lib.join (y :: r) [d] := by
      rw [Lib.join_cons, Lib.join_cons]
      simp [Lib.joinTail]
    rw [e, cutB_at _ (h x (List.mem_cons_self ..)), cutB_join (by simp) (fun n hn => h n (List.mem_cons_of_mem _ hn))]
/-- names that may be listed -/
structure NamesOk (ns : List (List UInt8)) : Prop where
  all : ∀ n ∈ ns, nameL n = true
  nodup : ns.Nodup
theorem namesL_ok {l : List UInt8} {ns : List (List UInt8)} (h : namesL l = some ns) : NamesOk ns := by
  unfold namesL at h
  split at h
  · cases h; exact ⟨by simp, by simp⟩
  split at h
  · rename_i hc
    cases h
    rw [Bool.and_eq_true, decide_eq_true_eq, List.all_eq_true] at hc
    exact ⟨hc.1, hc.2⟩
  · cases h
theorem namesL_join {ns : List (List UInt8)} (hne : ns ≠ []) (h : ∀ n ∈ ns, nameL n = true) : namesL (Lib.join ns [44]) = if ns.Nodup then some ns else none := by
  have hc := cutB_join hne (fun n hn => name_no (h n hn) (c := 44) oddN_comma)
  have hd : Lib.join ns [44] ≠ [45] := by
    intro e
    rw [e] at hc
    have : ns = [[45]] := hc.symm
    subst this
    have := h [45] (List.mem_singleton_self _)
    revert this
    decide
  unfold namesL
  rw [if_neg hd, hc, List.all_eq_true.2 h, Bool.true_and]
  simp
theorem namesL_back {ns : List (List UInt8)} (h : NamesOk ns) : namesL (namesT ns) = some ns := by
  unfold namesT
  split
  · rename_i e; subst e; rfl
  · rename_i hne
    rw [namesL_join hne h.all, if_pos h.nodup]
theorem commas_len (ns : List (List UInt8)) (d : UInt8) : (Lib.join ns [d]).length ≤ (ns.map List.length).sum + ns.length := by
  cases ns with
  | nil => exact Nat.zero_le _
  | cons x r =>
    rw [Lib.join_cons]
    have : (Lib.joinTail [d] r).length = (r.map List.length).sum + r.length := by
      induction r with
      | nil => rfl
      | cons y r ih => simp only [Lib.joinTail, List.map_cons, List.flatten_cons, List.length_append, List.length_cons, List.length_nil, List.sum_cons] at *; omega
    simp only [List.length_append, List.map_cons, List.sum_cons, List.length_cons]
    omega
theorem names_sum {ns : List (List UInt8)} (h : ∀ n ∈ ns, nameL n = true) : (ns.map List.length).sum ≤ 12 * ns.length := by
  induction ns with
  | nil => exact Nat.zero_le _
  | cons x r ih =>
    have h1 := name_len (h x (List.mem_cons_self ..))
    have h2 := ih (fun n hn => h n (List.mem_cons_of_mem _ hn))
    simp only [List.map_cons, List.sum_cons, List.length_cons]
    omega
theorem namesT_len {ns : List (List UInt8)} (h : ∀ n ∈ ns, nameL n = true) : (Lib.join ns [44]).length ≤ 13 * ns.length ∧ (namesT ns).length ≤ 13 * ns.length + 1 := by
  have h1 := commas_len ns 44
  have h2 := names_sum h
  refine ⟨by omega, ?_⟩
  unfold namesT
  split
  · simp
  · omega
theorem namesL_len {l : List UInt8} {ns : List (List UInt8)} (h : namesL l = some ns) : ns.length ≤ l.length + 1 := by
  unfold namesL at h
  split at h
  · cases h; simp
  split at h
  · cases h; exact cutB_len 44 l
  · cases h
end Go.Proofs.YtpoaoicehoihdaaDoor
