/- slices.Clone and slices.DeleteFunc at Field, policy.Visible: contracts. -/
import Derived.Test.YtipnhpfpppblhaaGreatAlVis
import Derived.Test.YtipnhpfpppblhaaGreatAls
namespace Go.Proofs.YtipnhpfpppblhaaGreat
open Go.RowKit

/-! plain -/
def fldC (x : Fld) : List Value := [.string x.1, .string x.2]
theorem fld_cells1 (l : List Fld) : ∀ y ∈ fldCells l, y.oneCell' = true := by
  induction l with
  | nil => intro y hy; cases hy
  | cons f l ih =>
    intro y hy
    simp only [fldCells, List.mem_cons] at hy
    rcases hy with rfl | rfl | h
    · rfl
    · rfl
    · exact ih y h
theorem info_fld : (Tryz.prog.info? 90).map (fun i => (i.zero, i.size, i.bytes)) = some (some (.agg #[.string ⟨#[]⟩, .string ⟨#[]⟩]), 2, 32) := by kernel_rfl
theorem own_empty2 (w : World) (t : TypeId) : (w.alloc (.cells #[] t)).ownsRow w.heap.size t 2 (.slice (some ⟨w.heap.size, 0, none⟩) 0 0) 0 [] :=
  ⟨rfl, .inr ⟨w.heap.size, 0, #[], rfl, Nat.le_refl _, heap_alloc_new _ _, Nat.le_refl _, by decide, rfl, rfl⟩⟩
set_option maxHeartbeats 800000 in
set_option maxRecDepth 100000 in
theorem cloneF_any (l : List Fld) (w : World) (v : Value) (h : FldsAt w v l) (hl : l.length ≤ 1000000000000) :
    Calls Tryz.prog 72 #[v] w fun e w' => ∃ v', e = .returned v' ∧ w'.ownsRow w.heap.size 90 2 v' l.length (fldCells l) ∧ Below w.heap.size w w' := by
  obtain ⟨i0, hi, hz0, hz1, hz2⟩ := info_parts info_fld
  have q22 : ∀ (w : World) (a : Option Addr) (n c n' c' : Nat), (binOp .eql 52 (.slice a n c) (.slice none n' c')).run Tryz.prog w = .ok (.bool a.isNone) w := fun w a n c n' c' => Lib.run_eql_slice_nil w _ _ a n c n' c' Tryz.underlying52
  rcases h.2 with ⟨rfl, h0⟩ | ⟨a, c, rfl, hc, hr⟩
  · have hnil : l = [] := List.length_eq_zero_iff.1 h0
    subst hnil
    go_enter Tryz.func72, Tryz.ntmps72
    go_wp2
    go_ret
    exact ⟨_, rfl, World.ownsRow_nil _ _ _ _, Below.refl _ _⟩
  · have h1 := h.later (alloc_below w (.cells #[] 90))
    have h2 := own_empty2 w 90
    have hb := alloc_below w (.cells #[] 90)
    go_enter Tryz.func72, Tryz.ntmps72
    go_wp2_with (at_builtin; (refine wpList_append_rd rfl (.tmp 5) (.tmp 6) 52 rfl w.heap.size 90 i0 (.agg #[.string ⟨#[]⟩, .string ⟨#[]⟩]) 2 32 Tryz.underlying52 hi hz0 hz1 hz2 rfl (by decide) _ 0 [] rfl h2 _ l.length (fldCells l) rfl h1 (fld_cells1 l) (by unfold maxLen; omega) (by omega) (by simp) ?_); intro v2 w2 hown2 hgrow2)
    go_ret
    refine ⟨_, rfl, ?_, hb.grown hgrow2 hb.size (fun k hk => (h2.lt k hk).1)⟩
    have e : 0 + l.length = l.length := Nat.zero_add _
    rw [e] at hown2
    exact hown2
theorem idxf_nil (a : Option Addr) (c : Nat) (f : Value) (w : World) :
    Calls Tryz.prog 99 #[.slice a 0 c, f] w fun e w' => e = .returned (.int .i64 (-1)) ∧ w' = w := by
  go_enter Tryz.func99, Tryz.ntmps99
  go_wp2
  refine wp_loop_rounds 1 ?_
  rw [rounds_succ]
  go_wp2
  go_ret
  exact ⟨rfl, rfl⟩
theorem fldC_at (l : List Fld) (j : Nat) (h : j < l.length) (i : Nat) (v : Value) (hi : (fldC l[j])[i]? = some v) : (fldCells l)[j * 2 + i]? = some v := by
  obtain ⟨h1, h2⟩ := fldCells_at l j h
  match i, hi with
  | 0, hi => rw [Nat.add_zero, h1]; exact hi
  | 1, hi => rw [h2]; exact hi
  | i + 2, hi => simp [fldC] at hi
theorem idxf_any (l : List Fld) (p : Fld → Bool) (bp bf bt : Nat) (v : Value) (w : World) (hv : FldsAt w v l) (hl : l.length ≤ 1000000000000)
    (hp : ∀ W (x : Fld), Below w.heap.size w W → Calls Tryz.prog 73 #[.agg #[.string x.1, .string x.2], .pointer (some ⟨bp, 0, none⟩), .pointer (some ⟨bf, 0, none⟩), .pointer (some ⟨bt, 0, none⟩)] W fun e w' => e = .returned (.bool (p x)) ∧ Below W.heap.size W w') :
    Calls Tryz.prog 99 #[v, .func (.func 73) #[] #[.pointer (some ⟨bp, 0, none⟩), .pointer (some ⟨bf, 0, none⟩), .pointer (some ⟨bt, 0, none⟩)]] w fun e w' =>
      e = .returned (.int .i64 (Lib.idxByFrom (fun _ (y : Fld) => p y) default l 0)) ∧ Below w.heap.size w w' := by
  obtain ⟨a, c, rfl, hc, hr⟩ := RdAt.shape hv
  rcases Nat.eq_zero_or_pos l.length with h0 | h0
  · have hnil : l = [] := List.length_eq_zero_iff.1 h0
    subst hnil
    refine (idxf_nil _ _ _ _).mono ?_
    rintro e w' ⟨rfl, rfl⟩
    exact ⟨rfl, Below.refl _ _⟩
  · obtain ⟨g, o, rfl, hg, hcell⟩ := hr h0
    have hp : PredBelow Tryz.prog 73 #[.pointer (some ⟨bp, 0, none⟩), .pointer (some ⟨bf, 0, none⟩), .pointer (some ⟨bt, 0, none⟩)] (fun x : Fld => .agg (fldC x).toArray) p w := fun W x hW => by
      refine Calls.mono (hp W x hW) ?_
      rintro e w' ⟨rfl, hb⟩
      exact ⟨rfl, hW.trans (hb.mono hW.size)⟩
    have h := AnyQ.slices_IndexFunc (α := Fld) Tryz.laysIdxF 2 Tryz.isAgg90 Tryz.sizeOf90 fldC (fun _ => rfl) p 73 #[.pointer (some ⟨bp, 0, none⟩), .pointer (some ⟨bf, 0, none⟩), .pointer (some ⟨bt, 0, none⟩)]
      (enters_of Tryz.func73 (by kernel_rfl) rfl) g o l.length c l w hp (Nat.le_refl _) (by omega) hg (fun j hj i x hx => by
        have := hcell (j * 2 + i) x (fldC_at l j hj i x (by rw [List.getElem!_eq_getElem?_getD, List.getElem?_eq_getElem hj] at hx; exact hx))
        rw [show o + j * 2 + i = o + (j * 2 + i) by omega]
        exact this)
    rw [List.take_length] at h
    exact h
/-- clear(s) -/
theorem run_clear_row {P : Program} (w : World) (t e ty : TypeId) (z : Value) (ht : P.underlying t = some (.slice e)) (hv : ∀ w, (zeroValue e).run P w = .ok z w) (b o n c : Nat) (hn : 0 < n)
    (hT : w.there b o (Builtin.zeroCells z.cells n).toList.length) (h1 : ∀ v ∈ (Builtin.zeroCells z.cells n).toList, v.oneCell' = true) :
    (Builtin.clear_ #[t] ty #[.slice (some ⟨b, o, none⟩) n c]).run P w = .ok (.tuple #[]) (w.setCells b o (Builtin.zeroCells z.cells n).toList) := by
  have hst := run_storeCells_cells (P := P) b o (Builtin.zeroCells z.cells n).toList 0 w (fun j hj => (hT j hj).1) (fun j hj => (hT j hj).2) h1
  simp only [Nat.add_zero] at hst
  obtain ⟨m, rfl⟩ : ∃ m, n = m + 1 := ⟨n - 1, by omega⟩
  simp [Builtin.clear_, run_underlying ht, hv, hst]
end Go.Proofs.YtipnhpfpppblhaaGreat
