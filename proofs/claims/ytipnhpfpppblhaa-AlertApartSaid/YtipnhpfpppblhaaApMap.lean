/- alert.Apart's maps: keys, what lies in them; the closure that puts. -/
import Derived.Test.YtipnhpfpppblhaaMapIter
import Derived.Test.YtipnhpfpppblhaaAlRaise
import Derived.DeepKeys4
import Derived.Maps.Ext
import Derived.Maps.OwnOps
namespace Go.Proofs.Ytipnhpfpppblhaa
open Go.RowKit Go.Maps

/-! the key's law -/
theorem laidOutT : laidOutB Try.prog = true := by kernel_rfl
theorem rowT : (34 : TypeId) < Try.prog.types.size := of_decide_eq_true (by kernel_rfl)
theorem wideT : (match Try.prog.underlying 34 with | some (.array _ _) | some (.struct _) => true | _ => false) = true := by rw [Try.underlying34]
theorem deepT : Try.prog.keyTypeAt 2 34 = true := by kernel_rfl
set_option maxRecDepth 100000 in
theorem lawL : Keyed Try.prog 34 := Keyed.of_law (deep_law_laid laidOutT (m := 2) (by omega) rowT deepT wideT)
set_option maxRecDepth 100000 in
theorem typesT : ∃ n, Try.prog.types.size = n + 1 := ⟨Try.prog.types.size - 1, (Nat.succ_pred_eq_of_pos (Nat.lt_of_le_of_lt (Nat.zero_le _) rowT)).symm⟩
def wfL (x : Int × Nat) : Prop := (Lit.int .i64 x.1).wf = true ∧ (Lit.int .u32 x.2).wf = true
def kL (x : Int × Nat) : Lit := .string (keyBytes [.int .i64 x.1, .int .u32 x.2])
theorem kL_key (x : Int × Nat) : WideAt.IsKeyLit (kL x) := by unfold kL; trivial
theorem keyOf_lab {x : Int × Nat} (h : wfL x) : keyOf Try.prog 34 (LabP x) = some (kL x) := by
  obtain ⟨l, c⟩ := x
  obtain ⟨h1, h2⟩ := h
  dsimp only at h1 h2
  have hk : Try.prog.keyType 34 = true := by kernel_rfl
  have hc : Try.prog.cellsOf 34 = 2 := by kernel_rfl
  have hci : Try.prog.cellsOf 3 = 1 := by kernel_rfl
  have hcu : Try.prog.cellsOf 32 = 1 := by kernel_rfl
  obtain ⟨n, hn⟩ := typesT
  unfold keyOf
  rw [Try.underlying34]
  simp only [hk, Value.formed, Try.underlying34, hc, Value.cells, hn]
  simp [Program.keyLits, Try.underlying34, hc, hci, hcu, h1, h2, kL]
theorem keyOf_u {x : Int} (h : (Lit.int .u64 x).wf = true) : keyOf Try.prog 66 (U x) = some (.int .u64 x) := keyOf_int_mk Try.underlying66 h
theorem kL_inj {x y : Int × Nat} (hx : wfL x) (hy : wfL y) (h : kL x = kL y) : x = y := by
  have := lawL.inj (keyOf_lab hx) (h ▸ keyOf_lab hy)
  obtain ⟨l, c⟩ := x
  obtain ⟨l', c'⟩ := y
  simp only [LabP, Lab, Value.agg.injEq, Array.mk.injEq, List.cons.injEq, Value.int.injEq, true_and, and_true] at this
  obtain ⟨rfl, h2⟩ := this
  have : c = c' := by exact_mod_cast h2
  subst this; rfl
/-- how an inner map's address reads -/
def R2 : Value → Option (DataW Unit × List MemPlace)
  | .map none => some (.nil, [])
  | .map (some b) => some (.lit (.int .i64 b), [])
  | _ => none
theorem R2_inv {v : Value} {y : DataW Unit × List MemPlace} (h : R2 v = some y) : ∃ mb, v = .map mb := by
  unfold R2 at h
  split at h
  · exact ⟨_, rfl⟩
  · exact ⟨_, rfl⟩
  · cases h
theorem R2_nil {v : Value} {ps : List MemPlace} (h : R2 v = some (.nil, ps)) : v = .map none := by
  unfold R2 at h
  split at h
  · rfl
  · simp at h
  · cases h
theorem R2_some {v : Value} {b : Nat} {ps : List MemPlace} (h : R2 v = some (.lit (.int .i64 b), ps)) : v = .map (some b) := by
  unfold R2 at h
  split at h
  · simp at h
  · rename_i b'
    simp only [Option.some.injEq, Prod.mk.injEq, DataW.lit.injEq, Lit.int.injEq, true_and] at h
    have : b' = b := by have := h.1; exact_mod_cast this
    rw [this]
  · cases h
/-- an entry of the outer map: the label, the inner map's block, the ids that were put -/
structure Ent where
  x : Int × Nat
  b : Nat
  ids : List Int
abbrev yes : DataW Unit := .lit (.bool true)
def idsD (ids : List Int) : DataW Unit := setOf yes (ids.map (Lit.int .u64))
def DT : List Ent → DataW Unit
  | [] => .map []
  | e :: T => (DT T).put (kL e.x) (.lit (.int .i64 e.b))
def labs (T : List Ent) : List (Int × Nat) := T.map (·.x)
theorem DT_tidy : ∀ T : List Ent, Tidy (DT T)
  | [] => tidy_empty
  | _ :: T => (DT_tidy T).put (kL_key _) _
theorem DT_has {T : List Ent} (h : ∀ e ∈ T, wfL e.x) {x : Int × Nat} (hx : wfL x) : has (DT T) (kL x) = decide (x ∈ labs T) := by
  induction T with
  | nil => rfl
  | cons e T ih =>
    have ih := ih (fun f hf => h f (List.mem_cons_of_mem _ hf))
    have he := h e List.mem_cons_self
    by_cases hex : x = e.x
    · subst hex
      rw [DT, has_put_same (DT_tidy T).isMap (kL_key _)]
      simp [labs]
    · rw [DT, has_put_other (fun h' => hex (kL_inj hx he h')), ih]
      simp [labs, hex]
theorem DT_at {T : List Ent} (h : ∀ e ∈ T, wfL e.x) (hn : T.Pairwise (fun e f => e.x ≠ f.x)) {e : Ent} (he : e ∈ T) (z : DataW Unit) : (DT T).atKey (kL e.x) z = .lit (.int .i64 e.b) := by
  induction T with
  | nil => cases he
  | cons f T ih =>
    have ih := ih (fun g hg => h g (List.mem_cons_of_mem _ hg)) (List.pairwise_cons.1 hn).2
    rcases List.mem_cons.1 he with rfl | he'
    · rw [DT, atKey_put_same (DT_tidy T).isMap (kL_key _)]
    · have hne := (List.pairwise_cons.1 hn).1 e he'
      rw [DT, atKey_put_other (fun h' => hne (kL_inj (h f List.mem_cons_self) (h e he) h'.symm)), ih he']
theorem DT_size {T : List Ent} (h : ∀ e ∈ T, wfL e.x) (hn : T.Pairwise (fun e f => e.x ≠ f.x)) : Maps.size (DT T) = T.length := by
  induction T with
  | nil => rfl
  | cons f T ih =>
    have ih := ih (fun g hg => h g (List.mem_cons_of_mem _ hg)) (List.pairwise_cons.1 hn).2
    have hnot : has (DT T) (kL f.x) = false := by
      rw [DT_has (fun g hg => h g (List.mem_cons_of_mem _ hg)) (h f List.mem_cons_self), decide_eq_false]
      intro hm
      obtain ⟨g, hg, hgx⟩ := List.mem_map.1 hm
      exact (List.pairwise_cons.1 hn).1 g hg hgx.symm
    rw [DT, size_put (DT_tidy T), hnot, ih]
    rfl
theorem idsD_key (ids : List Int) : ∀ x ∈ ids.map (Lit.int IntKind.u64), WideAt.IsKeyLit x := by
  intro x hx
  obtain ⟨i, _, rfl⟩ := List.mem_map.1 hx
  trivial
theorem idsD_has (ids : List Int) (i : Int) : has (idsD ids) (.int .u64 i) = decide (i ∈ ids) := by
  unfold idsD
  rw [has_setOf _ _ _ (idsD_key ids), Bool.eq_iff_iff, List.any_eq_true, decide_eq_true_eq]
  constructor
  · rintro ⟨l, hl, hs⟩
    obtain ⟨j, hj, rfl⟩ := List.mem_map.1 hl
    simp [Lit.sameKey] at hs
    subst hs; exact hj
  · intro h
    exact ⟨_, List.mem_map.2 ⟨i, h, rfl⟩, by simp [Lit.sameKey]⟩
/-- the maps in memory -/
structure ApM (w : World) (base m : Nat) (T : List Ent) : Prop where
  outer : w.ownsMap Try.prog 34 R2 m T.length (DT T)
  inner : ∀ e ∈ T, w.ownsMap Try.prog 66 (plainElem Try.prog 4) e.b e.ids.length (idsD e.ids)
  far : ∀ e ∈ T, base ≤ e.b ∧ e.b ≠ m
  apart : T.Pairwise (fun e f => e.b ≠ f.b)
  once : T.Pairwise (fun e f => e.x ≠ f.x)
  wf : ∀ e ∈ T, wfL e.x ∧ ∀ i ∈ e.ids, (Lit.int .u64 i).wf = true
  low : base ≤ m
theorem ApM.grown {w w' : World} {base m : Nat} {T : List Ent} {row : Option Nat} (h : ApM w base m T) (hg : w.grownBy w' row) (hm : some m ≠ row) (hi : ∀ e ∈ T, some e.b ≠ row) : ApM w' base m T :=
  ⟨h.outer.kept hg hm, fun e he => (h.inner e he).kept hg (hi e he), h.far, h.apart, h.once, h.wf, h.low⟩
theorem ApM.later {w w' : World} {base m : Nat} {T : List Ent} (h : ApM w base m T) (hb : Below w.heap.size w w') : ApM w' base m T := h.grown (below_grown hb none) (by simp) (fun _ _ => by simp)
theorem ApM.new (w : World) : ApM (w.alloc (.map #[] 0)) w.heap.size w.heap.size [] :=
  ⟨World.ownsMap_made w _ _ _, fun _ h => (by cases h), fun _ h => (by cases h), List.Pairwise.nil, List.Pairwise.nil, fun _ h => (by cases h), Nat.le_refl _⟩
/-- what lies in it -/
def Lies (T : List Ent) (x : Int × Nat) (i : Int) : Prop := ∃ e ∈ T, e.x = x ∧ i ∈ e.ids
end Go.Proofs.Ytipnhpfpppblhaa
