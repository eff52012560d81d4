/- The arguments of the clock's laws: three numbers, steps, ids; early. -/
import Derived.Test.YtkhcckfnaahbeaaSet
import Derived.Test.YtkhcckfnaahbeaaAppRd
import Derived.ProofKit
import Derived.OpenShut
import Derived.Deep.Slices
import Derived.Deep.Fields
import Derived.ChangeSame
import Derived.Laws.IdiomArrays
import Derived.Lib.Hide
import Derived.Maps.AppendAt
namespace Go.Proofs.Ytkhcckfnaahbeaa
open Go.RowKit Go.WideShapes Go.ChangeShapes Go.Deep

theorem rd_one12 (w : World) (x : Value) (t : TypeId) : RdAt (w.alloc (.cells #[x] t)) (.slice (some ⟨w.heap.size, 0, none⟩) 1 1) 1 1 [x] :=
  RdAt.mk rfl (Nat.le_refl _) (by rw [World.size_alloc]; omega) (fun j y hj => by
    have hj0 : j = 0 := by have := (List.getElem?_eq_some_iff.1 hj).1; simpa using this
    subst hj0
    have := cell_one_new w x t 0 y hj
    simpa [Addr.add] using this)
theorem cell_lt {w : World} {a : Addr} {v : Value} (h : w.cell? a = some v) : a.block < w.heap.size := by
  rcases Nat.lt_or_ge a.block w.heap.size with h' | h'
  · exact h'
  · simp [World.cell?, Array.getElem?_eq_none h'] at h
section
variable {H : Type} {enc : TypeId × Value → H} {P : Program} {w : World} {base : Nat} {spare : Nat → Bool} {held : Bool}
theorem open_slice_fields {t e : TypeId} {fs : Array Field} {fuel : Nat} {cs : List Value} {x : DataW H × List MemPlace} (ht : P.underlying t = some (.slice e)) (he : P.underlying e = some (.struct fs))
    (hone : oneCellFields P fs = true) (hC : P.cellsOf e = fs.size) (h : DataW.trod enc P w base spare held fuel t cs = some x) :
    (cs = [.slice none 0 0] ∧ x = (.nil, [])) ∨
    ∃ (a : Addr) (len cap m : Nat) (D : Nat → DataW H) (Pl : Nat → List MemPlace), cs = [.slice (some a) len cap] ∧ base ≤ a.block ∧ len ≤ cap ∧ cap ≤ maxLen ∧ m = (if spare a.block then cap else len) ∧
      x = (.slice ((List.range len).map D) ((List.range (m - len)).map fun j => D (len + j)), MemPlace.row a (m * fs.size) ++ (List.range m).flatMap Pl) ∧
      ∀ i, i < m → ∃ (ys : List (DataW H × List MemPlace)) (n : Nat), D i = .agg (ys.map (·.1)) ∧ Pl i = ys.flatMap (·.2) ∧ ys.length = fs.size ∧
        ∀ (j : Nat) (f : Field), fs[j]? = some f → ∃ (v : Value) (y : DataW H × List MemPlace), w.cell? (a.add (i * fs.size + j)) = some v ∧ ys[j]? = some y ∧ DataW.trod enc P w base spare held n f.type [v] = some y := by
  rcases open_slice ht h with h0 | ⟨a, len, cap, m, n, D, Pl, hcs, hb, hl, hm, hmm, hx, hi⟩
  · exact .inl h0
  · refine .inr ⟨a, len, cap, m, D, Pl, hcs, hb, hl, hm, hmm, by rw [hC] at hx; exact hx, fun i him => ?_⟩
    obtain ⟨cs', hc, ht'⟩ := hi i him
    rw [hC] at hc
    obtain ⟨ys, n', hn', hy, hlen, hyl, hf⟩ := DataW.trod_struct he ht'
    obtain ⟨_, hcl, hat⟩ := World.cells?_some hc
    simp only [Prod.mk.injEq] at hy
    refine ⟨ys, n', hy.1, hy.2, hyl, fun j f hj => ?_⟩
    obtain ⟨ho, hk⟩ := hone_of hone j f hj
    have hjl : j < fs.size := (Array.getElem?_eq_some_iff.1 hj).1
    have hcell := hat j hjl
    have hv : cs'[j]? = some (cs'[j]'(by omega)) := List.getElem?_eq_getElem (by omega)
    have h1 := hf j f hj
    rw [ho, hk] at h1
    have hone' : (cs'.drop j).take 1 = [cs'[j]'(by omega)] := by
      rw [List.drop_eq_getElem_cons (by omega)]
      rfl
    rw [hone'] at h1
    have hys : ys[j]? = some (ys[j]'(by omega)) := List.getElem?_eq_getElem (by omega)
    refine ⟨_, _, ?_, hys, h1.trans hys⟩
    rw [← Go.Deep.add_add, hcell, hv]
end

/-- ids of an argument -/
def ArgIds (w : World) (v : Value) (ids : List Int) : Prop := IdsAt w v ids ∧ ids.length ≤ maxLen
theorem ids_of_trod {H : Type} {enc : TypeId × Value → H} {W : World} {n : Nat} {v : Value} {x : DataW H × List MemPlace} (h : DataW.trod enc Try.prog W 0 (fun _ => true) true n 30 [v] = some x) : ∃ ids, ArgIds W v ids := by
  rcases open_ints Try.underlying30 Try.underlying45 (by kernel_rfl) h with ⟨hcs, _⟩ | ⟨a, len, cap, zs, hcs, _, hl, hm, hz, _, hcell, _⟩
  · cases hcs
    exact ⟨[], RdAt.nil W 1, Nat.zero_le _⟩
  · cases hcs
    simp only [if_true] at hz
    have hlen : (zs.take len).length = len := by rw [List.length_take]; omega
    refine ⟨zs.take len, ⟨by simp, .inr ⟨a, cap, by rw [hlen], by omega, fun hn => ?_⟩⟩, by rw [hlen]; omega⟩
    rw [hlen] at hn
    obtain ⟨b, off, spot⟩ := a
    have hspot : spot = none := by simpa [Addr.add] using World.cell?_spot (hcell 0 (by omega))
    subst hspot
    have hall : ∀ j, j < zs.length → W.cell? ⟨b, off + j, none⟩ = some (.int .u64 (zs.getD j 0)) := fun j hj => by rw [← Go.WideShapes.add_plain]; exact hcell j hj
    refine ⟨b, off, rfl, cell_lt (a := ⟨b, off + 0, none⟩) (hall 0 (by omega)), fun j x hx => ?_⟩
    rw [List.getElem?_map, Option.map_eq_some_iff] at hx
    obtain ⟨y, hy, rfl⟩ := hx
    have hj : j < len := by have := (List.getElem?_eq_some_iff.1 hy).1; rw [hlen] at this; exact this
    rw [hall j (by omega)]
    rw [List.getElem?_take_of_lt hj] at hy
    simp [List.getD, hy]
/-- an argument's ids lie apart from what is made -/
theorem ids_far {W : World} {v : Value} {ids : List Int} (h : IdsAt W v ids) {p : Nat} (hp : W.heap.size ≤ p) : ids ≠ [] → v.ownBlock ≠ some p := by
  intro hne
  obtain ⟨b, o, c, rfl, _, hlt, _⟩ := h.cells hne
  simp only [Value.ownBlock, ne_eq, Option.some.injEq]
  omega

/-! ### Steps -/
structure Stp where
  by_ : Int
  odd : Int
  v : Value
  ids : List Int
instance : Inhabited Stp := ⟨⟨0, 0, .slice none 0 0, []⟩⟩
def stCells : List Stp → List Value
  | [] => []
  | s :: l => .int .i64 s.by_ :: .int .i64 s.odd :: s.v :: stCells l
theorem stCells_len (l : List Stp) : (stCells l).length = l.length * 3 := by
  induction l with
  | nil => rfl
  | cons s l ih => simp [stCells, ih]; omega
theorem stCells_append (a b : List Stp) : stCells (a ++ b) = stCells a ++ stCells b := by
  induction a with
  | nil => rfl
  | cons s l ih => simp [stCells, ih]
theorem stCells_at (l : List Stp) (i : Nat) (h : i < l.length) : (stCells l)[i * 3]? = some (.int .i64 l[i].by_) ∧ (stCells l)[i * 3 + 1]? = some (.int .i64 l[i].odd) ∧ (stCells l)[i * 3 + 2]? = some l[i].v := by
  induction l generalizing i with
  | nil => cases h
  | cons s l ih =>
    cases i with
    | zero => simp [stCells]
    | succ i =>
      obtain ⟨h1, h2, h3⟩ := ih i (by simpa using h)
      have e : (i + 1) * 3 = i * 3 + 3 := by omega
      rw [e]
      simp only [stCells, List.getElem_cons_succ]
      refine ⟨?_, ?_, ?_⟩
      · rw [show i * 3 + 3 = i * 3 + 1 + 1 + 1 by omega]; simpa using h1
      · rw [show i * 3 + 3 + 1 = i * 3 + 1 + 1 + 1 + 1 by omega]; simpa using h2
      · rw [show i * 3 + 3 + 2 = i * 3 + 2 + 1 + 1 + 1 by omega]; simpa using h3
/-- v reads as the steps l -/
def StpsAt (w : World) (v : Value) (l : List Stp) : Prop := ∃ a c, v = .slice a l.length c ∧ l.length ≤ c ∧
  (0 < l.length → ∃ b o, a = some ⟨b, o, none⟩ ∧ b < w.heap.size ∧ ∀ i (h : i < l.length), w.cell? ⟨b, o + i * 3, none⟩ = some (.int .i64 l[i].by_) ∧ w.cell? ⟨b, o + i * 3 + 1, none⟩ = some (.int .i64 l[i].odd) ∧ w.cell? ⟨b, o + i * 3 + 2, none⟩ = some l[i].v)
theorem StpsAt.later {w w' : World} {v : Value} {l : List Stp} (h : StpsAt w v l) (hb : Below w.heap.size w w') : StpsAt w' v l := by
  obtain ⟨a, c, rfl, hc, hr⟩ := h
  refine ⟨a, c, rfl, hc, fun hn => ?_⟩
  obtain ⟨b, o, rfl, hlt, hcell⟩ := hr hn
  refine ⟨b, o, rfl, Nat.lt_of_lt_of_le hlt hb.size, fun i h => ?_⟩
  obtain ⟨h1, h2, h3⟩ := hcell i h
  exact ⟨(hb.cell (p := ⟨b, o + i * 3, none⟩) hlt).trans h1, (hb.cell (p := ⟨b, o + i * 3 + 1, none⟩) hlt).trans h2, (hb.cell (p := ⟨b, o + i * 3 + 2, none⟩) hlt).trans h3⟩
theorem StpsAt.own {w : World} {base : Nat} {e : TypeId} {v : Value} {l : List Stp} (h : w.ownsRow base e 3 v l.length (stCells l)) : StpsAt w v l := by
  have hr := RdAt.own h
  obtain ⟨a, c, rfl, hc, hx⟩ := hr.shape
  refine ⟨a, c, rfl, hc, fun hn => ?_⟩
  obtain ⟨b, o, rfl, hlt, hcell⟩ := hx hn
  refine ⟨b, o, rfl, hlt, fun i h => ?_⟩
  obtain ⟨h1, h2, h3⟩ := stCells_at l i h
  exact ⟨hcell _ _ h1, hcell _ _ h2, hcell _ _ h3⟩
/-- an argument that reads as the steps l -/
def ArgStps (w : World) (v : Value) (l : List Stp) : Prop := StpsAt w v l ∧ l.length ≤ maxLen ∧ ∀ s ∈ l, ArgIds w s.v s.ids
theorem steps_of_trod {H : Type} {enc : TypeId × Value → H} {W : World} {n : Nat} {v : Value} {x : DataW H × List MemPlace} (h : DataW.trod enc Try.prog W 0 (fun _ => true) true n 23 [v] = some x) : ∃ l, ArgStps W v l := by
  rcases open_slice_fields Try.underlying23 Try.underlying33 (by kernel_rfl) (by kernel_rfl) h with ⟨hcs, _⟩ | ⟨a, len, cap, m, D, Pl, hcs, _, hl, hm, hmm, _, hf⟩
  · cases hcs
    exact ⟨[], ⟨none, 0, rfl, Nat.zero_le _, fun h => absurd h (Nat.lt_irrefl _)⟩, Nat.zero_le _, by simp⟩
  · cases hcs
    simp only [if_true] at hmm
    have hone : ∀ i, i < len → ∃ s : Stp, W.cell? (a.add (i * 3)) = some (.int .i64 s.by_) ∧ W.cell? (a.add (i * 3 + 1)) = some (.int .i64 s.odd) ∧ W.cell? (a.add (i * 3 + 2)) = some s.v ∧ ArgIds W s.v s.ids := by
      intro i hi
      obtain ⟨ys, n, _, _, _, hfs⟩ := hf i (by omega)
      obtain ⟨v0, y0, c0, _, t0⟩ := hfs 0 _ rfl
      obtain ⟨v1, y1, c1, _, t1⟩ := hfs 1 _ rfl
      obtain ⟨v2, y2, c2, _, t2⟩ := hfs 2 _ rfl
      obtain ⟨k0, e0, _, _⟩ := DataW.trod_int Try.underlying3 t0
      obtain ⟨k1, e1, _, _⟩ := DataW.trod_int Try.underlying3 t1
      obtain ⟨ids, hids⟩ := ids_of_trod t2
      cases e0; cases e1
      exact ⟨⟨k0, k1, v2, ids⟩, c0, c1, c2, hids⟩
    have hg : ∃ g : Nat → Stp, ∀ i, i < len → W.cell? (a.add (i * 3)) = some (.int .i64 (g i).by_) ∧ W.cell? (a.add (i * 3 + 1)) = some (.int .i64 (g i).odd) ∧ W.cell? (a.add (i * 3 + 2)) = some (g i).v ∧ ArgIds W (g i).v (g i).ids :=
      ⟨fun i => if h : i < len then Classical.choose (hone i h) else default, fun i h => by have := Classical.choose_spec (hone i h); simpa only [dif_pos h] using this⟩
    obtain ⟨g, hg⟩ := hg
    refine ⟨(List.range len).map g, ⟨some a, cap, by simp, by simpa using hl, fun hn => ?_⟩, by simp; omega, fun s hs => ?_⟩
    · have hn' : 0 < len := by simpa using hn
      obtain ⟨b, off, spot⟩ := a
      have h0 := (hg 0 hn').1
      have hspot : spot = none := by simpa [Addr.add] using World.cell?_spot h0
      subst hspot
      refine ⟨b, off, rfl, cell_lt (a := (⟨b, off, none⟩ : Addr).add (0 * 3)) h0 |> fun h => by simpa [Addr.add] using h, fun i h => ?_⟩
      have hi : i < len := by simpa using h
      obtain ⟨h1, h2, h3, _⟩ := hg i hi
      simp only [List.getElem_map, List.getElem_range]
      rw [Go.WideShapes.add_plain] at h1 h2 h3
      exact ⟨h1, by rw [Nat.add_assoc]; exact h2, by rw [Nat.add_assoc]; exact h3⟩
    · obtain ⟨i, hi, rfl⟩ := List.mem_map.1 hs
      exact (hg i (List.mem_range.1 hi)).2.2.2
theorem ids_of_arg {H : Type} {enc : TypeId × Value → H} {W : World} {base : Nat} {v : Value} {d : DataW H} {p : List MemPlace} (hval : Value.okWide Try.prog W .any base 30 v) (h : DataW.Trod enc Try.prog W 0 (fun _ => true) true 30 v d p) : ∃ ids, ArgIds W v ids := by
  obtain ⟨a0, len, cap, rfl⟩ := okWide_slice Try.underlying30 hval
  obtain ⟨fuel, hf⟩ := h
  have hf' : DataW.trod enc Try.prog W 0 (fun _ => true) true fuel 30 [.slice a0 len cap] = some (d, p) := hf
  exact ids_of_trod hf'
theorem steps_of_arg {H : Type} {enc : TypeId × Value → H} {W : World} {base : Nat} {v : Value} {d : DataW H} {p : List MemPlace} (hval : Value.okWide Try.prog W .any base 23 v) (h : DataW.Trod enc Try.prog W 0 (fun _ => true) true 23 v d p) : ∃ l, ArgStps W v l := by
  obtain ⟨a0, len, cap, rfl⟩ := okWide_slice Try.underlying23 hval
  obtain ⟨fuel, hf⟩ := h
  have hf' : DataW.trod enc Try.prog W 0 (fun _ => true) true fuel 23 [.slice a0 len cap] = some (d, p) := hf
  exact steps_of_trod hf'
/-- three numbers by value -/
theorem open_three {H : Type} {enc : TypeId × Value → H} {W : World} {base : Nat} {v : Value} {d : DataW H} {p : List MemPlace} (hval : Value.okWide Try.prog W .any base 22 v) (h : DataW.Trod enc Try.prog W 0 (fun _ => true) true 22 v d p) :
    ∃ a b c : Int, v = .agg #[.int .i64 a, .int .i64 b, .int .i64 c] := by
  obtain ⟨cs, rfl, hsz, _⟩ : ∃ cs, v = .agg cs ∧ cs.size = Try.prog.cellsOf 22 ∧ Row.okWide Try.prog W .any base 22 cs := by
    simpa [Value.okWide, Try.underlying22] using hval
  rw [show Try.prog.cellsOf 22 = 3 by kernel_rfl] at hsz
  obtain ⟨fuel, hf⟩ := h
  obtain ⟨l⟩ := cs
  match l, hsz with
  | [c0, c1, c2], _ =>
    obtain ⟨y0, y1, y2, m, hx, hy0, hy1, hy2⟩ := trod_array3 Try.underlying22 (by kernel_rfl) hf
    obtain ⟨x0, e0, _, _⟩ := DataW.trod_int Try.underlying3 hy0
    obtain ⟨x1, e1, _, _⟩ := DataW.trod_int Try.underlying3 hy1
    obtain ⟨x2, e2, _, _⟩ := DataW.trod_int Try.underlying3 hy2
    cases e0; cases e1; cases e2
    exact ⟨x0, x1, x2, rfl⟩

/-! ### early -/
def cutS (s : Stp) : Stp := ⟨s.by_, s.odd, (match s.v with | .slice a n c => .slice a (min (n : Int) 8).toNat c | v => v), s.ids.take 8⟩
def earlyL (l : List Stp) : List Stp := (l.take 80).map cutS
theorem earlyL_len (l : List Stp) : (earlyL l).length = min 80 l.length := by simp [earlyL]
theorem earlyL_step {l : List Stp} {k : Nat} (hk : k < 80) (hx : k < l.length) : (earlyL l).take (k + 1) = (earlyL l).take k ++ [cutS l[k]] := by
  rw [List.take_succ_eq_append_getElem (by rw [earlyL_len]; omega)]
  simp [earlyL]
theorem earlyL_all {l : List Stp} {k : Nat} (h : 80 ≤ k ∨ l.length ≤ k) : (earlyL l).take k = earlyL l := List.take_of_length_le (by rw [earlyL_len]; omega)
theorem cutS_ids {w : World} {s : Stp} (h : IdsAt w s.v s.ids) : IdsAt w (cutS s).v (cutS s).ids := by
  obtain ⟨by_, odd, v, ids⟩ := s
  obtain ⟨a, c, hv, hc, hr⟩ := RdAt.shape h
  simp only at hv hr hc
  subst hv
  have hmin : (min (ids.length : Int) 8).toNat = (ids.take 8).length := by rw [List.length_take]; omega
  simp only [cutS, hmin]
  refine ⟨by simp, ?_⟩
  cases a with
  | none =>
    rcases h.2 with ⟨h', h0⟩ | ⟨ad, c', h', _⟩
    · simp only at h0
      have : ids = [] := List.length_eq_zero_iff.1 h0
      subst this
      simp only [Value.slice.injEq] at h'
      exact .inl ⟨by simp [h'.2.2], by simp⟩
    · simp at h'
  | some ad =>
    refine .inr ⟨ad, c, rfl, by rw [List.length_take]; omega, fun hn => ?_⟩
    obtain ⟨b, o, hb, hlt, hcell⟩ := hr (by rw [List.length_take] at hn; omega)
    cases hb
    exact ⟨b, o, rfl, hlt, fun j x hx => hcell j x (by rw [List.map_take, List.getElem?_take] at hx; split at hx; exact hx; cases hx)⟩
end Go.Proofs.Ytkhcckfnaahbeaa
