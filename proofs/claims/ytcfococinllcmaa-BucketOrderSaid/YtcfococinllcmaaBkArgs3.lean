/- The arguments of chapter 22's other laws: a hatch, alerts, an alert. -/
import Derived.Test.YtcfococinllcmaaAlArgs
import Derived.Test.YtcfococinllcmaaBkBack
namespace Go.Proofs.Ytcfococinllcmaa
open Go.RowKit Go.WideShapes Go.ChangeShapes Go.Deep

section
variable {H : Type} {enc : TypeId × Value → H} {P : Program} {w : World} {base : Nat} {spare : Nat → Bool} {held : Bool}
/-- a slice: each element's cells, and what it reads as -/
theorem open_slice_elems {t e : TypeId} {fuel : Nat} {cs : List Value} {x : DataW H × List MemPlace} (ht : P.underlying t = some (.slice e))
    (h : DataW.trod enc P w base spare held fuel t cs = some x) :
    cs = [.slice none 0 0] ∨
    ∃ (a : Addr) (len cap : Nat), cs = [.slice (some a) len cap] ∧ len ≤ cap ∧ cap ≤ maxLen ∧
      ∀ i, i < len → ∃ (es : List Value) (n : Nat) (y : DataW H × List MemPlace), es.length = P.cellsOf e ∧ (∀ j, j < P.cellsOf e → w.cell? (a.add (i * P.cellsOf e + j)) = es[j]?) ∧ DataW.trod enc P w base spare held n e es = some y := by
  rcases open_slice ht h with ⟨h0, _⟩ | ⟨a, len, cap, m, n, D, Pl, hcs, hb, hl, hm, hmm, hx, hi⟩
  · exact .inl h0
  · refine .inr ⟨a, len, cap, hcs, hl, hm, fun i hil => ?_⟩
    obtain ⟨cs', hc, ht'⟩ := hi i (by rw [hmm]; split <;> omega)
    obtain ⟨_, hcl, hat⟩ := World.cells?_some hc
    exact ⟨cs', _, _, hcl, fun j hj => by rw [← Go.Deep.add_add]; exact hat j hj, ht'⟩
end
set_option maxRecDepth 100000 in
theorem ints_of_trodH {H : Type} {enc : TypeId × Value → H} {W : World} {n : Nat} {v : Value} {x : DataW H × List MemPlace} (h : DataW.trod enc Try.prog W 0 (fun _ => true) true n 26 [v] = some x) : ∃ ids, IntsAt W v ids ∧ ids.length ≤ maxLen := by
  rcases open_ints Try.underlying26 Try.underlying3 (by kernel_rfl) h with ⟨hcs, _⟩ | ⟨a, len, cap, zs, hcs, _, hl, hm, hz, _, hcell, _⟩
  · cases hcs
    exact ⟨[], RdAt.nil W 1, Nat.zero_le _⟩
  · cases hcs
    simp only [if_true] at hz
    have hlen : (zs.take len).length = len := by rw [List.length_take]; omega
    refine ⟨zs.take len, ⟨by simp, .inr ⟨a, cap, by rw [hlen], by omega, fun hn => ?_⟩⟩, by rw [hlen]; omega⟩
    rw [hlen] at hn
    obtain ⟨b, off, spot⟩ := a
    have hspot : spot = none := by simpa [Addr.add] using World.cell?_spot (hcell 0 (by omega))
    subst hspot
    have hall : ∀ j, j < zs.length → W.cell? ⟨b, off + j, none⟩ = some (.int .i64 (zs.getD j 0)) := fun j hj => by rw [← Go.WideShapes.add_plain]; exact hcell j hj
    refine ⟨b, off, rfl, cell_ltA (a := ⟨b, off + 0, none⟩) (hall 0 (by omega)), fun j x hx => ?_⟩
    rw [List.getElem?_map, Option.map_eq_some_iff] at hx
    obtain ⟨y, hy, rfl⟩ := hx
    have hj : j < len := by have := (List.getElem?_eq_some_iff.1 hy).1; rw [hlen] at this; exact this
    rw [hall j (by omega)]
    rw [List.getElem?_take_of_lt hj] at hy
    simp [List.getD, hy]

/-- a row of structs: its cells, one by one -/
theorem row_cells {W : World} {a : Addr} {len size : Nat} {f : Nat → List Value} (h0 : 0 < size) (hlen : ∀ i, i < len → (f i).length = size) (hat : ∀ i, i < len → ∀ j, j < size → W.cell? (a.add (i * size + j)) = (f i)[j]?) (hp : 0 < len) :
    ∃ b o, a = ⟨b, o, none⟩ ∧ b < W.heap.size ∧ ∀ i, i < len → ∀ j x, (f i)[j]? = some x → W.cell? ⟨b, o + (i * size + j), none⟩ = some x := by
  obtain ⟨b, off, spot⟩ := a
  obtain ⟨x0, hx0⟩ : ∃ x, (f 0)[0]? = some x := ⟨_, List.getElem?_eq_getElem (by rw [hlen 0 hp]; exact h0)⟩
  have hc := hat 0 hp 0 h0
  rw [hx0] at hc
  have hspot : spot = none := by simpa [Addr.add] using World.cell?_spot hc
  subst hspot
  refine ⟨b, off, rfl, by have := cell_ltA hc; simpa [Addr.add] using this, fun i hi j x hx => ?_⟩
  have hj : j < size := by have := (List.getElem?_eq_some_iff.1 hx).1; rw [hlen i hi] at this; exact this
  have := hat i hi j hj
  rw [add_off, hx] at this
  exact this
set_option maxRecDepth 100000 in
theorem mts_of_trod {H : Type} {enc : TypeId × Value → H} {W : World} {n : Nat} {v : Value} {x : DataW H × List MemPlace} (h : DataW.trod enc Try.prog W 0 (fun _ => true) true n 25 [v] = some x) : ∃ l, MtsAt W v l ∧ l.length ≤ maxLen ∧ MtsFit l := by
  have hC : Try.prog.cellsOf 90 = 3 := by kernel_rfl
  have hcs1 : Try.prog.cellsOf 9 = 1 := by kernel_rfl
  have hci : Try.prog.cellsOf 3 = 1 := by kernel_rfl
  rcases open_slice_structs Try.underlying25 Try.underlying90 h with hcs | ⟨a, len, cap, hcs, hl, hm, hf⟩
  · cases hcs
    exact ⟨[], RdAt.nil W 3, Nat.zero_le _, fun _ h => by cases h⟩
  · cases hcs
    rw [hC] at hf
    have hone : ∀ i, i < len → ∃ s : Mt, (∀ j, j < 3 → W.cell? (a.add (i * 3 + j)) = (mtC s)[j]?) ∧ MtFit s := by
      intro i hi
      obtain ⟨es, n, hlen, hat, hfs⟩ := hf i hi
      match es, hlen with
      | [e0, e1, e2], _ =>
        obtain ⟨y0, t0⟩ := hfs 0 _ rfl
        obtain ⟨y1, t1⟩ := hfs 1 _ rfl
        obtain ⟨y2, t2⟩ := hfs 2 _ rfl
        obtain ⟨s0, q0, _, z0⟩ := DataW.trod_string Try.underlying9 t0
        obtain ⟨k1, q1, _, _⟩ := DataW.trod_int Try.underlying3 t1
        obtain ⟨s2, q2, _, z2⟩ := DataW.trod_string Try.underlying9 t2
        simp [hcs1] at q0 q2
        simp [hci] at q1
        subst q0 q1 q2
        exact ⟨⟨s0, k1, s2⟩, hat, z0, z2⟩
    have hg : ∃ g : Nat → Mt, ∀ i, i < len → (∀ j, j < 3 → W.cell? (a.add (i * 3 + j)) = (mtC (g i))[j]?) ∧ MtFit (g i) :=
      ⟨fun i => if h : i < len then Classical.choose (hone i h) else default, fun i h => by have := Classical.choose_spec (hone i h); simpa only [dif_pos h] using this⟩
    obtain ⟨g, hg⟩ := hg
    have hgl : ((List.range len).map g).length = len := by simp
    refine ⟨(List.range len).map g, ⟨mtCells_len _, .inr ⟨a, cap, by rw [hgl], by omega, fun hn => ?_⟩⟩, by rw [hgl]; omega, fun s hs => ?_⟩
    · rw [hgl] at hn
      obtain ⟨b, o, rfl, hlt, hcell⟩ := row_cells (f := fun i => mtC (g i)) (size := 3) (by decide) (fun _ _ => rfl) (fun i hi => (hg i hi).1) hn
      refine ⟨b, o, rfl, hlt, fun j x hj => ?_⟩
      have hjl := (List.getElem?_eq_some_iff.1 hj).1
      rw [mtCells_len, hgl] at hjl
      obtain ⟨m, r, hr3, rfl⟩ : ∃ m r, r < 3 ∧ j = m * 3 + r := ⟨j / 3, j % 3, Nat.mod_lt _ (by decide), by omega⟩
      obtain ⟨q0, q1, q2⟩ := mtCells_at ((List.range len).map g) m (by rw [hgl]; omega)
      simp only [List.getElem_map, List.getElem_range] at q0 q1 q2
      refine hcell m (by omega) r x ?_
      match r, hr3 with
      | 0, _ => rw [Nat.add_zero, q0] at hj; exact hj
      | 1, _ => rw [q1] at hj; exact hj
      | 2, _ => rw [q2] at hj; exact hj
    · obtain ⟨i, hi, rfl⟩ := List.mem_map.1 hs
      exact (hg i (List.mem_range.1 hi)).2
set_option maxRecDepth 100000 in
theorem als_of_trod {H : Type} {enc : TypeId × Value → H} {W : World} {n : Nat} {v : Value} {x : DataW H × List MemPlace} (h : DataW.trod enc Try.prog W 0 (fun _ => true) true n 29 [v] = some x) : ∃ l, AlsAt W v l ∧ l.length ≤ maxLen := by
  have hC : Try.prog.cellsOf 32 = 6 := by kernel_rfl
  rcases open_slice_elems Try.underlying29 h with hcs | ⟨a, len, cap, hcs, hl, hm, hf⟩
  · cases hcs
    exact ⟨[], ⟨RdAt.nil W 6, fun _ h => by cases h⟩, Nat.zero_le _⟩
  · cases hcs
    rw [hC] at hf
    have hone : ∀ i, i < len → ∃ s : Al × Value, (∀ j, j < 6 → W.cell? (a.add (i * 6 + j)) = (alC s.1 s.2)[j]?) ∧ FldsAt W s.2 s.1.fl ∧ AlFit s.1 := by
      intro i hi
      obtain ⟨es, n, y, hlen, hat, ht⟩ := hf i hi
      match es, hlen with
      | [e0, e1, e2, e3, e4, e5], _ =>
        obtain ⟨s, fv, he, h1, h2⟩ := al_of_trod ht
        simp only [Value.agg.injEq] at he
        have he' : [e0, e1, e2, e3, e4, e5] = alC s fv := congrArg Array.toList he
        exact ⟨(s, fv), fun j hj => by rw [hat j hj, he'], h1, h2⟩
    have hg : ∃ g : Nat → Al × Value, ∀ i, i < len → (∀ j, j < 6 → W.cell? (a.add (i * 6 + j)) = (alC (g i).1 (g i).2)[j]?) ∧ FldsAt W (g i).2 (g i).1.fl ∧ AlFit (g i).1 :=
      ⟨fun i => if h : i < len then Classical.choose (hone i h) else (⟨⟨#[]⟩, [], 0, 0, 0, 0⟩, .bool false), fun i h => by have := Classical.choose_spec (hone i h); simpa only [dif_pos h] using this⟩
    obtain ⟨g, hg⟩ := hg
    have hgl : ((List.range len).map g).length = len := by simp
    refine ⟨(List.range len).map g, ⟨⟨alCells_len _, .inr ⟨a, cap, by rw [hgl], by omega, fun hn => ?_⟩⟩, fun s hs => ?_⟩, by rw [hgl]; omega⟩
    · rw [hgl] at hn
      obtain ⟨b, o, rfl, hlt, hcell⟩ := row_cells (f := fun i => alC (g i).1 (g i).2) (size := 6) (by decide) (fun _ _ => rfl) (fun i hi => (hg i hi).1) hn
      refine ⟨b, o, rfl, hlt, fun j x hj => ?_⟩
      have hjl := (List.getElem?_eq_some_iff.1 hj).1
      rw [alCells_len, hgl] at hjl
      obtain ⟨m, r, hr6, rfl⟩ : ∃ m r, r < 6 ∧ j = m * 6 + r := ⟨j / 6, j % 6, Nat.mod_lt _ (by decide), by omega⟩
      have hm' : m < len := by omega
      obtain ⟨z, hz⟩ : ∃ z, (alC (g m).1 (g m).2)[r]? = some z := ⟨_, List.getElem?_eq_getElem (by exact hr6)⟩
      have := alCells_at ((List.range len).map g) m (by rw [hgl]; omega) r z (by simpa using hz)
      rw [this] at hj
      exact hcell m hm' r x (hz.trans hj)
    · obtain ⟨i, hi, rfl⟩ := List.mem_map.1 hs
      exact (hg i (List.mem_range.1 hi)).2
set_option maxRecDepth 100000 in
theorem als_of_arg {H : Type} {enc : TypeId × Value → H} {W : World} {base : Nat} {v : Value} {d : DataW H} {p : List MemPlace} (hval : Value.okWide Try.prog W .any base 29 v) (h : DataW.Trod enc Try.prog W 0 (fun _ => true) true 29 v d p) : ∃ l, AlsAt W v l ∧ l.length ≤ maxLen := by
  obtain ⟨a0, len, cap, rfl⟩ := okWide_slice Try.underlying29 hval
  obtain ⟨fuel, hf⟩ := h
  exact als_of_trod hf
/-- a hatch of an argument -/
def ArgHa (w : World) (v : Value) (h : Ha) (wv bv : Value) : Prop := v = .agg #[.string h.nm, .int .i64 h.f, .int .u32 h.fc, .int .i64 h.t, .int .u32 h.tc, wv, bv] ∧ HaAt w h wv bv ∧ h.nm.size ≤ maxLen ∧ h.ms.length ≤ maxLen ∧ h.bl.length ≤ maxLen ∧ MtsFit h.ms ∧ h.fc < 4294967296 ∧ h.tc < 4294967296
set_option maxRecDepth 100000 in
theorem hat_of_trod {H : Type} {enc : TypeId × Value → H} {W : World} {n : Nat} {c0 c1 c2 c3 c4 c5 c6 : Value} {x : DataW H × List MemPlace} (h : DataW.trod enc Try.prog W 0 (fun _ => true) true n 28 [c0, c1, c2, c3, c4, c5, c6] = some x) : ∃ h wv bv, ArgHa W (.agg #[c0, c1, c2, c3, c4, c5, c6]) h wv bv := by
  have hcs : Try.prog.cellsOf 9 = 1 := by kernel_rfl
  have hcl : Try.prog.cellsOf 24 = 2 := by kernel_rfl
  have hcm : Try.prog.cellsOf 25 = 1 := by kernel_rfl
  have hcb : Try.prog.cellsOf 26 = 1 := by kernel_rfl
  obtain ⟨ys, n', hn', hy, hlen, hyl, hf⟩ := DataW.trod_struct Try.underlying28 h
  have t0 := hf 0 _ rfl
  have t1 := hf 1 _ rfl
  have t2 := hf 2 _ rfl
  have t3 := hf 3 _ rfl
  have t4 := hf 4 _ rfl
  match ys, hyl with
  | [y0, y1, y2, y3, y4], _ =>
    obtain ⟨s, q0, _, z0⟩ := DataW.trod_string Try.underlying9 t0
    simp [hcs] at q0
    subst q0
    have t1' : DataW.trod enc Try.prog W 0 (fun _ => true) true n' 24 [c1, c2] = some y1 := by simpa [hcl] using t1
    have t2' : DataW.trod enc Try.prog W 0 (fun _ => true) true n' 24 [c3, c4] = some y2 := by simpa [hcl] using t2
    have t3' : DataW.trod enc Try.prog W 0 (fun _ => true) true n' 25 [c5] = some y3 := by simpa [hcm] using t3
    have t4' : DataW.trod enc Try.prog W 0 (fun _ => true) true n' 26 [c6] = some y4 := by simpa [hcb] using t4
    obtain ⟨l1, k1, e1, e2, g1⟩ := lab_of_trod t1'
    obtain ⟨l2, k2, e3, e4, g2⟩ := lab_of_trod t2'
    obtain ⟨ms, hms, hml, hmf⟩ := mts_of_trod t3'
    obtain ⟨bl, hbl, hbn⟩ := ints_of_trodH t4'
    subst e1 e2 e3 e4
    exact ⟨⟨s, l1, k1, l2, k2, ms, bl⟩, c5, c6, rfl, ⟨hms, hbl⟩, z0, hml, hbn, hmf, g1, g2⟩
set_option maxRecDepth 100000 in
theorem hat_of_arg {H : Type} {enc : TypeId × Value → H} {W : World} {base : Nat} {v : Value} {d : DataW H} {p : List MemPlace} (hval : Value.okWide Try.prog W .any base 28 v) (h : DataW.Trod enc Try.prog W 0 (fun _ => true) true 28 v d p) : ∃ h wv bv, ArgHa W v h wv bv := by
  obtain ⟨cs, rfl, hsz, _⟩ : ∃ cs, v = .agg cs ∧ cs.size = Try.prog.cellsOf 28 ∧ Row.okWide Try.prog W .any base 28 cs := by
    simpa [Value.okWide, Try.underlying28] using hval
  rw [show Try.prog.cellsOf 28 = 7 by kernel_rfl] at hsz
  obtain ⟨fuel, hf⟩ := h
  obtain ⟨l⟩ := cs
  match l, hsz with
  | [c0, c1, c2, c3, c4, c5, c6], _ => exact hat_of_trod hf
end Go.Proofs.Ytcfococinllcmaa
