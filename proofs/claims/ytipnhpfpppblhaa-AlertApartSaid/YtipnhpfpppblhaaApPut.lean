/- alert.Apart's closure: puts an id at a label. -/
import Derived.Test.YtipnhpfpppblhaaApMap
namespace Go.Proofs.Ytipnhpfpppblhaa
open Go.RowKit Go.Maps

theorem wellB : plainElem (H := Unit) Try.prog 4 (.bool true) = some (yes, []) := plainElem_bool Try.underlying4 true
theorem lookup_some {w : World} {base m : Nat} {T : List Ent} (h : ApM w base m T) {e : Ent} (he : e ∈ T) :
    (Instr.lookup 74 (.map (some m)) (LabP e.x) false).run Try.prog w = .ok (.map (some e.b)) w := by
  obtain ⟨v, ps, hr, hR⟩ := h.outer.lookup lawL Try.underlying74 (Try.zeroValue75 w) (zd := .nil) (zp := []) rfl (keyOf_lab (h.wf e he).1)
  rw [DT_at (fun f hf => (h.wf f hf).1) h.once he] at hR
  rw [R2_some hR] at hr
  exact hr
theorem lookup_none {w : World} {base m : Nat} {T : List Ent} (h : ApM w base m T) {x : Int × Nat} (hx : wfL x) (hn : x ∉ labs T) :
    (Instr.lookup 74 (.map (some m)) (LabP x) false).run Try.prog w = .ok (.map none) w := by
  obtain ⟨v, ps, hr, hR⟩ := h.outer.lookup lawL Try.underlying74 (Try.zeroValue75 w) (zd := .nil) (zp := []) rfl (keyOf_lab hx)
  rw [atKey_of_not_has (by rw [DT_has (fun f hf => (h.wf f hf).1) hx]; exact decide_eq_false hn)] at hR
  rw [R2_nil hR] at hr
  exact hr
/-- an id more, at a label that is there -/
def putE (T : List Ent) (x : Int × Nat) (i : Int) : List Ent := T.map fun e => if e.x = x then { e with ids := e.ids ++ [i] } else e
theorem putE_x (T : List Ent) (x : Int × Nat) (i : Int) : labs (putE T x i) = labs T := by
  unfold labs putE
  rw [List.map_map]
  apply List.map_congr_left
  intro e _
  simp only [Function.comp]
  split <;> rfl
theorem putE_b (T : List Ent) (x : Int × Nat) (i : Int) : (putE T x i).map (·.b) = T.map (·.b) := by
  unfold putE
  rw [List.map_map]
  apply List.map_congr_left
  intro e _
  simp only [Function.comp]
  split <;> rfl
theorem DT_putE (T : List Ent) (x : Int × Nat) (i : Int) : DT (putE T x i) = DT T := by
  induction T with
  | nil => rfl
  | cons e T ih =>
    show DT ((if e.x = x then { e with ids := e.ids ++ [i] } else e) :: putE T x i) = _
    rw [DT, ih, DT]
    split <;> rfl
theorem mem_putE {T : List Ent} {x : Int × Nat} {i : Int} {f : Ent} : f ∈ putE T x i ↔ ∃ e ∈ T, f = if e.x = x then { e with ids := e.ids ++ [i] } else e := by
  unfold putE
  rw [List.mem_map]
  constructor
  · rintro ⟨e, he, rfl⟩; exact ⟨e, he, rfl⟩
  · rintro ⟨e, he, rfl⟩; exact ⟨e, he, rfl⟩
theorem pw_of_map {α β : Type} [DecidableEq β] {f : α → β} {l : List α} : l.Pairwise (fun a b => f a ≠ f b) ↔ (l.map f).Nodup := by
  rw [List.Nodup, List.pairwise_map]
theorem eq_of_once {T : List Ent} (h : T.Pairwise (fun e f => e.x ≠ f.x)) {e f : Ent} (he : e ∈ T) (hf : f ∈ T) (hx : e.x = f.x) : e = f := by
  induction T with
  | nil => cases he
  | cons g T ih =>
    obtain ⟨h1, h2⟩ := List.pairwise_cons.1 h
    rcases List.mem_cons.1 he with rfl | he' <;> rcases List.mem_cons.1 hf with rfl | hf'
    · rfl
    · exact absurd hx (h1 f hf')
    · exact absurd hx.symm (h1 e he')
    · exact ih h2 he' hf'
theorem eq_of_apart {T : List Ent} (h : T.Pairwise (fun e f => e.b ≠ f.b)) {e f : Ent} (he : e ∈ T) (hf : f ∈ T) (hx : e.b = f.b) : e = f := by
  induction T with
  | nil => cases he
  | cons g T ih =>
    obtain ⟨h1, h2⟩ := List.pairwise_cons.1 h
    rcases List.mem_cons.1 he with rfl | he' <;> rcases List.mem_cons.1 hf with rfl | hf'
    · rfl
    · exact absurd hx (h1 f hf')
    · exact absurd hx.symm (h1 e he')
    · exact ih h2 he' hf'
theorem ApM.base_le {w : World} {base m : Nat} {T : List Ent} (h : ApM w base m T) : base ≤ w.heap.size := Nat.le_trans h.low (Nat.le_of_lt h.outer.lt)
/-- the id goes into the inner map -/
theorem ApM.put {w : World} {base m : Nat} {T : List Ent} (h : ApM w base m T) {e : Ent} (he : e ∈ T) {i : Int} (hi : (Lit.int .u64 i).wf = true) (hN : e.ids.length ≤ 1000000) :
    ∃ w', (Instr.mapUpdate 75 (.map (some e.b)) (U i) (.bool true)).run Try.prog w = .ok () w' ∧ ApM w' base m (putE T e.x i) ∧ w.grownBy w' (some e.b) := by
  obtain ⟨w', hr, ho, hg⟩ := (h.inner e he).update (int_keyed Try.underlying66) Try.underlying75 (by unfold maxLen; omega) (keyOf_u hi) wellB
  refine ⟨w', hr, ?_, hg⟩
  have hx : ∀ f ∈ putE T e.x i, ∃ f0 ∈ T, f.b = f0.b ∧ f.x = f0.x := fun f hf => by
    obtain ⟨f0, hf0, rfl⟩ := mem_putE.1 hf
    exact ⟨f0, hf0, by split <;> rfl, by split <;> rfl⟩
  refine ⟨?_, ?_, ?_, ?_, ?_, ?_, h.low⟩
  · rw [DT_putE, show (putE T e.x i).length = T.length by simp [putE]]
    exact h.outer.kept hg (fun e1 => (h.far e he).2 (by cases e1; rfl))
  · intro f hf
    obtain ⟨f0, hf0, rfl⟩ := mem_putE.1 hf
    by_cases hfx : f0.x = e.x
    · obtain rfl := eq_of_once h.once hf0 he hfx
      rw [if_pos rfl]
      dsimp only
      rw [List.length_append, show [i].length = 1 from rfl, idsD, List.map_append, List.map_singleton, setOf_snoc]
      exact ho
    · rw [if_neg hfx]
      exact (h.inner f0 hf0).kept hg (fun e1 => hfx (by rw [eq_of_apart h.apart hf0 he (Option.some.inj e1)]))
  · intro f hf
    obtain ⟨f0, hf0, h1, _⟩ := hx f hf
    rw [h1]; exact h.far f0 hf0
  · exact pw_of_map.2 (by rw [putE_b]; exact pw_of_map.1 h.apart)
  · have := pw_of_map.1 h.once
    exact pw_of_map.2 (by have e1 := putE_x T e.x i; unfold labs at e1; rw [e1]; exact this)
  · intro f hf
    obtain ⟨f0, hf0, rfl⟩ := mem_putE.1 hf
    obtain ⟨h1, h3⟩ := h.wf f0 hf0
    split
    · refine ⟨h1, fun j hj => ?_⟩
      rcases List.mem_append.1 hj with h | h
      · exact h3 j h
      · rw [List.mem_singleton.1 h]; exact hi
    · exact ⟨h1, h3⟩
theorem lies_putE {T : List Ent} {e : Ent} (he : e ∈ T) (i : Int) (y : Int × Nat) (j : Int) : Lies (putE T e.x i) y j ↔ Lies T y j ∨ (y = e.x ∧ j = i) := by
  constructor
  · rintro ⟨f, hf, rfl, hj⟩
    obtain ⟨f0, hf0, rfl⟩ := mem_putE.1 hf
    by_cases hfx : f0.x = e.x
    · rw [if_pos hfx] at hj ⊢
      rcases List.mem_append.1 hj with h | h
      · exact .inl ⟨f0, hf0, rfl, h⟩
      · exact .inr ⟨hfx, List.mem_singleton.1 h⟩
    · rw [if_neg hfx] at hj ⊢
      exact .inl ⟨f0, hf0, rfl, hj⟩
  · rintro (⟨f, hf, rfl, hj⟩ | ⟨rfl, rfl⟩)
    · refine ⟨_, mem_putE.2 ⟨f, hf, rfl⟩, by split <;> rfl, ?_⟩
      split
      · exact List.mem_append_left _ hj
      · exact hj
    · exact ⟨_, mem_putE.2 ⟨e, he, rfl⟩, by rw [if_pos rfl], by rw [if_pos rfl]; simp⟩
/-- a new label: a new inner map -/
theorem ApM.fresh {w : World} {base m : Nat} {T : List Ent} (h : ApM w base m T) {x : Int × Nat} (hx : wfL x) (hn : x ∉ labs T) (hN : T.length ≤ 1000000) :
    ∃ w', (Instr.mapUpdate 74 (.map (some m)) (LabP x) (.map (some w.heap.size))).run Try.prog (w.alloc (.map #[] 0)) = .ok () w' ∧
      ApM w' base m (⟨x, w.heap.size, []⟩ :: T) ∧ (w.alloc (.map #[] 0)).grownBy w' (some m) := by
  obtain ⟨w', hr, ho, hg⟩ := (h.outer.alloc (.map #[] 0)).update lawL Try.underlying74 (by unfold maxLen; omega) (keyOf_lab hx) (val := .map (some w.heap.size)) rfl
  have hm := h.outer.lt
  refine ⟨w', hr, ⟨ho, ?_, ?_, ?_, ?_, ?_, h.low⟩, hg⟩
  · intro e he
    rcases List.mem_cons.1 he with rfl | he'
    · exact (World.ownsMap_made w _ _ _).kept hg (fun e1 => by have e2 := Option.some.inj e1; omega)
    · exact ((h.inner e he').alloc _).kept hg (fun e1 => (h.far e he').2 (Option.some.inj e1))
  · intro e he
    rcases List.mem_cons.1 he with rfl | he'
    · exact ⟨h.base_le, by dsimp only; omega⟩
    · exact h.far e he'
  · refine List.pairwise_cons.2 ⟨fun f hf => ?_, h.apart⟩
    have := (h.inner f hf).lt
    dsimp only; omega
  · refine List.pairwise_cons.2 ⟨fun f hf e1 => hn ?_, h.once⟩
    exact List.mem_map.2 ⟨f, hf, e1.symm⟩
  · intro e he
    rcases List.mem_cons.1 he with rfl | he'
    · exact ⟨hx, fun i hi => absurd hi (List.not_mem_nil)⟩
    · exact h.wf e he'
theorem cell_keep {w w' : World} {b o : Nat} {v : Value} {row : Option Nat} (h : w.cell? ⟨b, o, none⟩ = some v) (hg : w.grownBy w' row) (hr : row ≠ some b) : w'.cell? ⟨b, o, none⟩ = some v :=
  (World.cell?_of_block (a := ⟨b, o, none⟩) (hg.block b (cell_lt h) (fun e => hr e.symm))).trans h
theorem not_map_cell {w : World} {b o r : Nat} {v : Value} {P : Program} {k : TypeId} {R : Value → Option (DataW Unit × List MemPlace)} {n : Nat} {D : DataW Unit} (h : w.cell? ⟨b, o, none⟩ = some v) (hm : w.ownsMap P k R r n D) : r ≠ b := by
  rintro rfl
  obtain ⟨es, clock, hb, _⟩ := hm
  simp [World.cell?, hb] at h
/-- every cell that lay reads as it read -/
def KeepC (w w' : World) : Prop := ∀ b o v, w.cell? ⟨b, o, none⟩ = some v → w'.cell? ⟨b, o, none⟩ = some v
theorem KeepC.t {a b c : World} (h : KeepC a b) (k : KeepC b c) : KeepC a c := fun p o v hv => k p o v (h p o v hv)
theorem KeepC.of_below {w w' : World} (h : Below w.heap.size w w') : KeepC w w' := fun _ _ _ hv => keep_cell hv h (cell_lt hv)
theorem KeepC.of_map {w w' : World} {r : Nat} {P : Program} {k : TypeId} {R : Value → Option (DataW Unit × List MemPlace)} {n : Nat} {D : DataW Unit} (hm : w.ownsMap P k R r n D) (hg : w.grownBy w' (some r)) : KeepC w w' := fun _ _ _ hv => cell_keep hv hg (fun e1 => not_map_cell hv hm (Option.some.inj e1))
/-- what a put leaves -/
def PutPost (base m ab : Nat) (x : Int × Nat) (i : Int) (T : List Ent) (N : Nat) (w w' : World) : Prop :=
  ∃ T', ApM w' base m T' ∧ (∀ e ∈ T', e.ids ≠ []) ∧ (∀ y j, Lies T' y j ↔ Lies T y j ∨ (y = x ∧ j = i)) ∧ (T'.length ≤ N + 1 ∧ ∀ e ∈ T', e.ids.length ≤ N + 1) ∧ Below base w w' ∧ w'.cell? ⟨ab, 0, none⟩ = some (.map (some m)) ∧ KeepC w w'
theorem putE_bound {T : List Ent} {x : Int × Nat} {i : Int} {N : Nat} (h : ∀ e ∈ T, e.ids.length ≤ N) : ∀ e ∈ putE T x i, e.ids.length ≤ N + 1 := by
  intro f hf
  obtain ⟨f0, hf0, rfl⟩ := mem_putE.1 hf
  have := h f0 hf0
  split
  · simp; omega
  · omega
theorem putE_full {T : List Ent} {x : Int × Nat} {i : Int} (h : ∀ e ∈ T, e.ids ≠ [] ∨ e.x = x) : ∀ e ∈ putE T x i, e.ids ≠ [] := by
  intro f hf
  obtain ⟨f0, hf0, rfl⟩ := mem_putE.1 hf
  split
  · simp
  · rename_i hx
    rcases h f0 hf0 with h | h
    · exact h
    · exact absurd h hx
set_option maxHeartbeats 1600000 in
set_option maxRecDepth 100000 in
theorem put_any (base m ab : Nat) (l : Int) (c : Nat) (i : Int) (T : List Ent) (w : World) (N : Nat) (hT : ApM w base m T) (hfull : ∀ e ∈ T, e.ids ≠ []) (hab : w.cell? ⟨ab, 0, none⟩ = some (.map (some m))) (hx : wfL (l, c)) (hi : (Lit.int .u64 i).wf = true)
    (hN : T.length ≤ N ∧ ∀ e ∈ T, e.ids.length ≤ N) (hN2 : N ≤ 999999) :
    Calls Try.prog 30 #[Lab l c, .int .u64 i, .pointer (some ⟨ab, 0, none⟩)] w fun e w' => e = .returned (.tuple #[]) ∧ PutPost base m ab (l, c) i T N w w' := by
  obtain ⟨W0, hW0⟩ : ∃ z, w.alloc (.cells #[.int .i64 l, .int .u32 c] 34) = z := ⟨_, rfl⟩
  have hb0 : Below w.heap.size w W0 := by rw [← hW0]; exact alloc_below _ _
  have y0 : W0.cell? ⟨w.heap.size, 0, none⟩ = some (.int .i64 l) := by rw [← hW0]; exact World.cell?_alloc_at _ _ _ _ rfl
  have y1 : W0.cell? ⟨w.heap.size, 1, none⟩ = some (.int .u32 c) := by rw [← hW0]; exact World.cell?_alloc_at _ _ _ _ rfl
  have hT0 := hT.later hb0
  have a0 := keep_cell hab hb0 (cell_lt hab)
  have hBB : Below base w W0 := hb0.mono hT.base_le
  have q85 : ∀ (w : World) (r : Option Nat), (binOp .eql 75 (.map r) (.map none)).run Try.prog w = .ok (.bool r.isNone) w := fun w r => run_eql_map_nil w _ _ _ r Try.underlying75
  by_cases hm : (l, c) ∈ labs T
  · obtain ⟨e, he, hex⟩ := List.mem_map.1 hm
    have hk := lookup_some hT0 he
    rw [hex] at hk
    obtain ⟨W1, hr1, hT1, hg1⟩ := hT0.put he hi (by have := hN.2 e he; omega)
    have hne : ∀ o v, W0.cell? ⟨ab, o, none⟩ = some v → some e.b ≠ some ab := fun o v h e1 => not_map_cell h (hT0.inner e he) (Option.some.inj e1)
    have hP : PutPost base m ab (l, c) i T N w W1 := ⟨_, hT1, putE_full (fun f hf => .inl (hfull f hf)), fun y j => by rw [← hex]; exact lies_putE he i y j, ⟨by simp [putE]; omega, putE_bound hN.2⟩,
      hBB.grown hg1 (Nat.le_trans hT.base_le hBB.size) (fun k e1 => by cases e1; exact (hT.far e he).1), cell_keep a0 hg1 (hne _ _ a0), (KeepC.of_below hb0).t (KeepC.of_map (hT0.inner e he) hg1)⟩
    have HP := Lib.hid hP
    clear hP hT1 hT0 hT hN hfull hm hBB hb0 hg1 hex he hne hab hx hi
    go_enter Try.func30, Try.ntmps30
    go_wp2
    go_end0
    exact ⟨rfl, HP.out⟩
  · have hk := lookup_none hT0 hx hm
    have hmm := @run_makeMap Try.prog
    obtain ⟨W2, hr2, hT2, hg2⟩ := hT0.fresh hx hm (by omega)
    have hk2 := lookup_some hT2 (e := ⟨(l, c), W0.heap.size, []⟩) List.mem_cons_self
    dsimp only at hk2
    obtain ⟨W3, hr3, hT3, hg3⟩ := hT2.put (e := ⟨(l, c), W0.heap.size, []⟩) List.mem_cons_self hi (by simp)
    dsimp only at hr3 hT3 hg3
    have hma : ab ≠ m := fun e1 => not_map_cell a0 hT0.outer e1.symm
    have hla := cell_lt a0
    have yl := cell_lt y0
    have hmy : w.heap.size ≠ m := fun e1 => not_map_cell y0 hT0.outer e1.symm
    have a1 := keep_cell a0 (alloc_below W0 (.map #[] 0)) hla
    have a2 := cell_keep a1 hg2 (fun e1 => hma (Option.some.inj e1).symm)
    have z0 := cell_keep (keep_cell y0 (alloc_below W0 (.map #[] 0)) yl) hg2 (fun e1 => hmy (Option.some.inj e1).symm)
    have z1 := cell_keep (keep_cell y1 (alloc_below W0 (.map #[] 0)) yl) hg2 (fun e1 => hmy (Option.some.inj e1).symm)
    have a3 := cell_keep a2 hg3 (fun e1 => by have := Option.some.inj e1; omega)
    have hlow := hT.base_le
    have hs0 := hb0.size
    have hs1 : (W0.alloc (.map #[] 0)).heap.size = W0.heap.size + 1 := World.size_alloc _ _
    have hB1 : Below base w (W0.alloc (.map #[] 0)) := hBB.trans ((alloc_below W0 (.map #[] 0)).mono (by omega))
    have hB2 := hB1.grown hg2 (by omega) (fun k e1 => by cases e1; exact hT.low)
    have hs2 := hg2.size
    have hB3 := hB2.grown hg3 (by omega) (fun k e1 => by cases e1; omega)
    have hP : PutPost base m ab (l, c) i T N w W3 := ⟨_, hT3, putE_full (fun f hf => by
        rcases List.mem_cons.1 hf with rfl | hf'
        · exact .inr rfl
        · exact .inl (hfull f hf')), fun y j => by
        rw [lies_putE (e := ⟨(l, c), W0.heap.size, []⟩) List.mem_cons_self]
        constructor
        · rintro (⟨f, hf, h1, h2⟩ | h)
          · rcases List.mem_cons.1 hf with rfl | hf'
            · exact absurd h2 (List.not_mem_nil)
            · exact .inl ⟨f, hf', h1, h2⟩
          · exact .inr h
        · rintro (⟨f, hf, h1, h2⟩ | h)
          · exact .inl ⟨f, List.mem_cons_of_mem _ hf, h1, h2⟩
          · exact .inr h,
      ⟨by simp [putE]; omega, putE_bound (fun f hf => by
        rcases List.mem_cons.1 hf with rfl | hf'
        · simp
        · exact hN.2 f hf')⟩, hB3, a3, ((KeepC.of_below hb0).t (KeepC.of_below (alloc_below W0 (.map #[] 0)))).t ((KeepC.of_map (hT0.outer.alloc _) hg2).t (KeepC.of_map (hT2.inner _ List.mem_cons_self) hg3))⟩
    have HP := Lib.hid hP
    clear hP hT3 hT2 hT0 hT hN hfull hm hBB hb0 hg2 hg3 hab hx hi hB1 hB2 hB3 a3 a1 hma hmy hla yl hlow hs0 hs1 hs2
    go_enter Try.func30, Try.ntmps30
    go_wp2
    go_end0
    exact ⟨rfl, HP.out⟩
end Go.Proofs.Ytipnhpfpppblhaa
