/- BucketTells: the card: whatever the arguments, the law returns true and its arguments read as they did. No condition. -/
import Derived.Test.YtcfococinllcmaaGreatTopBucketTellsCardP1
import Derived.Test.YtcfococinllcmaaGreatBkBack
import Derived.Test.YtcfococinllcmaaGreatBkLawP
import Derived.Test.YtcfococinllcmaaGreatConcat
import Derived.Test.YtcfococinllcmaaGreatBkFine
import Derived.Test.YtcfococinllcmaaGreatBkOf
import Derived.Test.YtcfococinllcmaaGreatBox2
import Derived.Test.YtcfococinllcmaaGreatLabelB
import Derived.Test.YtcfococinllcmaaGreatFields
import Derived.Test.YtcfococinllcmaaGreatInts
import Derived.Deep.LoopGhost
import Derived.Lib.Hide
import Derived.Test.YtcfococinllcmaaGreatFrame12

/- The arguments of chapter 22's other laws: a hatch, alerts, an alert. -/
namespace Go.Proofs.YtcfococinllcmaaGreat
open Go.RowKit Go.WideShapes Go.ChangeShapes Go.Deep
section
variable {H : Type} {enc : TypeId × Value → H} {P : Program} {w : World} {base : Nat} {spare : Nat → Bool} {held : Bool}
theorem open_slice_elems {t e : TypeId} {fuel : Nat} {cs : List Value} {x : DataW H × List MemPlace} (ht : P.underlying t = some (.slice e))
    (h : DataW.trod enc P w base spare held fuel t cs = some x) :
    cs = [.slice none 0 0] ∨
    ∃ (a : Addr) (len cap : Nat), cs = [.slice (some a) len cap] ∧ len ≤ cap ∧ cap ≤ maxLen ∧
      ∀ i, i < len → ∃ (es : List Value) (n : Nat) (y : DataW H × List MemPlace), es.length = P.cellsOf e ∧ (∀ j, j < P.cellsOf e → w.cell? (a.add (i * P.cellsOf e + j)) = es[j]?) ∧ DataW.trod enc P w base spare held n e es = some y := by
  rcases open_slice ht h with ⟨h0, _⟩ | ⟨a, len, cap, m, n, D, Pl, hcs, hb, hl, hm, hmm, hx, hi⟩
  · exact .inl h0
  · refine .inr ⟨a, len, cap, hcs, hl, hm, fun i hil => ?_⟩
    obtain ⟨cs', hc, ht'⟩ := hi i (by rw [hmm]; split <;> omega)
    obtain ⟨_, hcl, hat⟩ := World.cells?_some hc
    exact ⟨cs', _, _, hcl, fun j hj => by rw [← Go.Deep.add_add]; exact hat j hj, ht'⟩
end
set_option maxRecDepth 100000 in
theorem ints_of_trodH {H : Type} {enc : TypeId × Value → H} {W : World} {n : Nat} {v : Value} {x : DataW H × List MemPlace} (h : DataW.trod enc Tryz.prog W 0 (fun _ => true) true n 32 [v] = some x) : ∃ ids, IntsAt W v ids ∧ ids.length ≤ maxLen := by
  rcases open_ints Tryz.underlying32 Tryz.underlying3 (by kernel_rfl) h with ⟨hcs, _⟩ | ⟨a, len, cap, zs, hcs, _, hl, hm, hz, _, hcell, _⟩
  · cases hcs
    exact ⟨[], RdAt.nil W 1, Nat.zero_le _⟩
  · cases hcs
    simp only [if_true] at hz
    have hlen : (zs.take len).length = len := by rw [List.length_take]; omega
    refine ⟨zs.take len, ⟨by simp, .inr ⟨a, cap, by rw [hlen], by omega, fun hn => ?_⟩⟩, by rw [hlen]; omega⟩
    rw [hlen] at hn
    obtain ⟨b, off, spot⟩ := a
    have hspot : spot = none := by simpa [Addr.add] using World.cell?_spot (hcell 0 (by omega))
    subst hspot
    have hall : ∀ j, j < zs.length → W.cell? ⟨b, off + j, none⟩ = some (.int .i64 (zs.getD j 0)) := fun j hj => by rw [← Go.WideShapes.add_plain]; exact hcell j hj
    refine ⟨b, off, rfl, cell_ltA (a := ⟨b, off + 0, none⟩) (hall 0 (by omega)), fun j x hx => ?_⟩
    rw [List.getElem?_map, Option.map_eq_some_iff] at hx
    obtain ⟨y, hy, rfl⟩ := hx
    have hj : j < len := by have := (List.getElem?_eq_some_iff.1 hy).1; rw [hlen] at this; exact this
    rw [hall j (by omega)]
    rw [List.getElem?_take_of_lt hj] at hy
    simp [List.getD, hy]
theorem row_cells {W : World} {a : Addr} {len size : Nat} {f : Nat → List Value} (h0 : 0 < size) (hlen : ∀ i, i < len → (f i).length = size) (hat : ∀ i, i < len → ∀ j, j < size → W.cell? (a.add (i * size + j)) = (f i)[j]?) (hp : 0 < len) :
    ∃ b o, a = ⟨b, o, none⟩ ∧ b < W.heap.size ∧ ∀ i, i < len → ∀ j x, (f i)[j]? = some x → W.cell? ⟨b, o + (i * size + j), none⟩ = some x := by
  obtain ⟨b, off, spot⟩ := a
  obtain ⟨x0, hx0⟩ : ∃ x, (f 0)[0]? = some x := ⟨_, List.getElem?_eq_getElem (by rw [hlen 0 hp]; exact h0)⟩
  have hc := hat 0 hp 0 h0
  rw [hx0] at hc
  have hspot : spot = none := by simpa [Addr.add] using World.cell?_spot hc
  subst hspot
  refine ⟨b, off, rfl, by have := cell_ltA hc; simpa [Addr.add] using this, fun i hi j x hx => ?_⟩
  have hj : j < size := by have := (List.getElem?_eq_some_iff.1 hx).1; rw [hlen i hi] at this; exact this
  have := hat i hi j hj
  rw [add_off, hx] at this
  exact this
set_option maxRecDepth 100000 in
theorem mts_of_trod {H : Type} {enc : TypeId × Value → H} {W : World} {n : Nat} {v : Value} {x : DataW H × List MemPlace} (h : DataW.trod enc Tryz.prog W 0 (fun _ => true) true n 33 [v] = some x) : ∃ l, MtsAt W v l ∧ l.length ≤ maxLen ∧ MtsFit l := by
  have hC : Tryz.prog.cellsOf 108 = 3 := by kernel_rfl
  have hcs1 : Tryz.prog.cellsOf 9 = 1 := by kernel_rfl
  have hci : Tryz.prog.cellsOf 3 = 1 := by kernel_rfl
  rcases open_slice_structs Tryz.underlying33 Tryz.underlying108 h with hcs | ⟨a, len, cap, hcs, hl, hm, hf⟩
  · cases hcs
    exact ⟨[], RdAt.nil W 3, Nat.zero_le _, fun _ h => by cases h⟩
  · cases hcs
    rw [hC] at hf
    have hone : ∀ i, i < len → ∃ s : Mt, (∀ j, j < 3 → W.cell? (a.add (i * 3 + j)) = (mtC s)[j]?) ∧ MtFit s := by
      intro i hi
      obtain ⟨es, n, hlen, hat, hfs⟩ := hf i hi
      match es, hlen with
      | [e0, e1, e2], _ =>
        obtain ⟨y0, t0⟩ := hfs 0 _ rfl
        obtain ⟨y1, t1⟩ := hfs 1 _ rfl
        obtain ⟨y2, t2⟩ := hfs 2 _ rfl
        obtain ⟨s0, q0, _, z0⟩ := DataW.trod_string Tryz.underlying9 t0
        obtain ⟨k1, q1, _, _⟩ := DataW.trod_int Tryz.underlying3 t1
        obtain ⟨s2, q2, _, z2⟩ := DataW.trod_string Tryz.underlying9 t2
        simp [hcs1] at q0 q2
        simp [hci] at q1
        subst q0 q1 q2
        exact ⟨⟨s0, k1, s2⟩, hat, z0, z2⟩
    have hg : ∃ g : Nat → Mt, ∀ i, i < len → (∀ j, j < 3 → W.cell? (a.add (i * 3 + j)) = (mtC (g i))[j]?) ∧ MtFit (g i) :=
      ⟨fun i => if h : i < len then Classical.choose (hone i h) else default, fun i h => by have := Classical.choose_spec (hone i h); simpa only [dif_pos h] using this⟩
    obtain ⟨g, hg⟩ := hg
    have hgl : ((List.range len).map g).length = len := by simp
    refine ⟨(List.range len).map g, ⟨mtCells_len _, .inr ⟨a, cap, by rw [hgl], by omega, fun hn => ?_⟩⟩, by rw [hgl]; omega, fun s hs => ?_⟩
    · rw [hgl] at hn
      obtain ⟨b, o, rfl, hlt, hcell⟩ := row_cells (f := fun i => mtC (g i)) (size := 3) (by decide) (fun _ _ => rfl) (fun i hi => (hg i hi).1) hn
      refine ⟨b, o, rfl, hlt, fun j x hj => ?_⟩
      have hjl := (List.getElem?_eq_some_iff.1 hj).1
      rw [mtCells_len, hgl] at hjl
      obtain ⟨m, r, hr3, rfl⟩ : ∃ m r, r < 3 ∧ j = m * 3 + r := ⟨j / 3, j % 3, Nat.mod_lt _ (by decide), by omega⟩
      obtain ⟨q0, q1, q2⟩ := mtCells_at ((List.range len).map g) m (by rw [hgl]; omega)
      simp only [List.getElem_map, List.getElem_range] at q0 q1 q2
      refine hcell m (by omega) r x ?_
      match r, hr3 with
      | 0, _ => rw [Nat.add_zero, q0] at hj; exact hj
      | 1, _ => rw [q1] at hj; exact hj
      | 2, _ => rw [q2] at hj; exact hj
    · obtain ⟨i, hi, rfl⟩ := List.mem_map.1 hs
      exact (hg i (List.mem_range.1 hi)).2
set_option maxRecDepth 100000 in
theorem als_of_trod {H : Type} {enc : TypeId × Value → H} {W : World} {n : Nat} {v : Value} {x : DataW H × List MemPlace} (h : DataW.trod enc Tryz.prog W 0 (fun _ => true) true n 23 [v] = some x) : ∃ l, AlsAt W v l ∧ l.length ≤ maxLen := by
  have hC : Tryz.prog.cellsOf 50 = 6 := by kernel_rfl
  rcases open_slice_elems Tryz.underlying23 h with hcs | ⟨a, len, cap, hcs, hl, hm, hf⟩
  · cases hcs
    exact ⟨[], ⟨RdAt.nil W 6, fun _ h => by cases h⟩, Nat.zero_le _⟩
  · cases hcs
    rw [hC] at hf
    have hone : ∀ i, i < len → ∃ s : Al × Value, (∀ j, j < 6 → W.cell? (a.add (i * 6 + j)) = (alC s.1 s.2)[j]?) ∧ FldsAt W s.2 s.1.fl ∧ AlFit s.1 := by
      intro i hi
      obtain ⟨es, n, y, hlen, hat, ht⟩ := hf i hi
      match es, hlen with
      | [e0, e1, e2, e3, e4, e5], _ =>
        obtain ⟨s, fv, he, h1, h2⟩ := al_of_trod ht
        simp only [Value.agg.injEq] at he
        have he' : [e0, e1, e2, e3, e4, e5] = alC s fv := congrArg Array.toList he
        exact ⟨(s, fv), fun j hj => by rw [hat j hj, he'], h1, h2⟩
    have hg : ∃ g : Nat → Al × Value, ∀ i, i < len → (∀ j, j < 6 → W.cell? (a.add (i * 6 + j)) = (alC (g i).1 (g i).2)[j]?) ∧ FldsAt W (g i).2 (g i).1.fl ∧ AlFit (g i).1 :=
      ⟨fun i => if h : i < len then Classical.choose (hone i h) else (⟨⟨#[]⟩, [], 0, 0, 0, 0⟩, .bool false), fun i h => by have := Classical.choose_spec (hone i h); simpa only [dif_pos h] using this⟩
    obtain ⟨g, hg⟩ := hg
    have hgl : ((List.range len).map g).length = len := by simp
    refine ⟨(List.range len).map g, ⟨⟨alCells_len _, .inr ⟨a, cap, by rw [hgl], by omega, fun hn => ?_⟩⟩, fun s hs => ?_⟩, by rw [hgl]; omega⟩
    · rw [hgl] at hn
      obtain ⟨b, o, rfl, hlt, hcell⟩ := row_cells (f := fun i => alC (g i).1 (g i).2) (size := 6) (by decide) (fun _ _ => rfl) (fun i hi => (hg i hi).1) hn
      refine ⟨b, o, rfl, hlt, fun j x hj => ?_⟩
      have hjl := (List.getElem?_eq_some_iff.1 hj).1
      rw [alCells_len, hgl] at hjl
      obtain ⟨m, r, hr6, rfl⟩ : ∃ m r, r < 6 ∧ j = m * 6 + r := ⟨j / 6, j % 6, Nat.mod_lt _ (by decide), by omega⟩
      have hm' : m < len := by omega
      obtain ⟨z, hz⟩ : ∃ z, (alC (g m).1 (g m).2)[r]? = some z := ⟨_, List.getElem?_eq_getElem (by exact hr6)⟩
      have := alCells_at ((List.range len).map g) m (by rw [hgl]; omega) r z (by simpa using hz)
      rw [this] at hj
      exact hcell m hm' r x (hz.trans hj)
    · obtain ⟨i, hi, rfl⟩ := List.mem_map.1 hs
      exact (hg i (List.mem_range.1 hi)).2
set_option maxRecDepth 100000 in
theorem als_of_arg {H : Type} {enc : TypeId × Value → H} {W : World} {base : Nat} {v : Value} {d : DataW H} {p : List MemPlace} (hval : Value.okWide Tryz.prog W .any base 23 v) (h : DataW.Trod enc Tryz.prog W 0 (fun _ => true) true 23 v d p) : ∃ l, AlsAt W v l ∧ l.length ≤ maxLen := by
  obtain ⟨a0, len, cap, rfl⟩ := okWide_slice Tryz.underlying23 hval
  obtain ⟨fuel, hf⟩ := h
  exact als_of_trod hf
def ArgHa (w : World) (v : Value) (h : Ha) (wv bv : Value) : Prop := v = .agg #[.string h.nm, .int .i64 h.f, .int .u32 h.fc, .int .i64 h.t, .int .u32 h.tc, wv, bv] ∧ HaAt w h wv bv ∧ h.nm.size ≤ maxLen ∧ h.ms.length ≤ maxLen ∧ h.bl.length ≤ maxLen ∧ MtsFit h.ms ∧ h.fc < 4294967296 ∧ h.tc < 4294967296
set_option maxRecDepth 100000 in
theorem hat_of_trod {H : Type} {enc : TypeId × Value → H} {W : World} {n : Nat} {c0 c1 c2 c3 c4 c5 c6 : Value} {x : DataW H × List MemPlace} (h : DataW.trod enc Tryz.prog W 0 (fun _ => true) true n 37 [c0, c1, c2, c3, c4, c5, c6] = some x) : ∃ h wv bv, ArgHa W (.agg #[c0, c1, c2, c3, c4, c5, c6]) h wv bv := by
  have hcs : Tryz.prog.cellsOf 9 = 1 := by kernel_rfl
  have hcl : Tryz.prog.cellsOf 26 = 2 := by kernel_rfl
  have hcm : Tryz.prog.cellsOf 33 = 1 := by kernel_rfl
  have hcb : Tryz.prog.cellsOf 32 = 1 := by kernel_rfl
  obtain ⟨ys, n', hn', hy, hlen, hyl, hf⟩ := DataW.trod_struct Tryz.underlying37 h
  have t0 := hf 0 _ rfl
  have t1 := hf 1 _ rfl
  have t2 := hf 2 _ rfl
  have t3 := hf 3 _ rfl
  have t4 := hf 4 _ rfl
  match ys, hyl with
  | [y0, y1, y2, y3, y4], _ =>
    obtain ⟨s, q0, _, z0⟩ := DataW.trod_string Tryz.underlying9 t0
    simp [hcs] at q0
    subst q0
    have t1' : DataW.trod enc Tryz.prog W 0 (fun _ => true) true n' 26 [c1, c2] = some y1 := by simpa [hcl] using t1
    have t2' : DataW.trod enc Tryz.prog W 0 (fun _ => true) true n' 26 [c3, c4] = some y2 := by simpa [hcl] using t2
    have t3' : DataW.trod enc Tryz.prog W 0 (fun _ => true) true n' 33 [c5] = some y3 := by simpa [hcm] using t3
    have t4' : DataW.trod enc Tryz.prog W 0 (fun _ => true) true n' 32 [c6] = some y4 := by simpa [hcb] using t4
    obtain ⟨l1, k1, e1, e2, g1⟩ := lab_of_trod t1'
    obtain ⟨l2, k2, e3, e4, g2⟩ := lab_of_trod t2'
    obtain ⟨ms, hms, hml, hmf⟩ := mts_of_trod t3'
    obtain ⟨bl, hbl, hbn⟩ := ints_of_trodH t4'
    subst e1 e2 e3 e4
    exact ⟨⟨s, l1, k1, l2, k2, ms, bl⟩, c5, c6, rfl, ⟨hms, hbl⟩, z0, hml, hbn, hmf, g1, g2⟩
end Go.Proofs.YtcfococinllcmaaGreat

/- BucketTells: a list of hatches of an argument; back of one that lies in an elder world; the law's rows. -/
namespace Go.Proofs.YtcfococinllcmaaGreat
open Go.ChangeShapes Go.WideShapes Go.ChangeAt Go.RowKit
set_option maxHeartbeats 1600000 in
set_option maxRecDepth 100000 in
theorem hback_own (h : Ha) (wv bv : Value) (w0 w : World) (ha : HaAt w0 h wv bv) (hm : h.ms.length ≤ maxLen) (hb : h.bl.length ≤ maxLen) :
    Calls Tryz.prog 12 #[.agg #[.string h.nm, .int .i64 h.f, .int .u32 h.fc, .int .i64 h.t, .int .u32 h.tc, wv, bv]] w fun e w' =>
      ∃ wv' bv', e = .returned (.agg #[.string h.nm, .int .i64 h.f, .int .u32 h.fc, .int .i64 h.t, .int .u32 h.tc, wv', bv']) ∧ HaAt w0 (cutH h) wv' bv' ∧ Below w.heap.size w w' := by
  obtain ⟨ma, mc, rfl, hmc, _⟩ := RdAt.shape ha.ms
  obtain ⟨ba, bc, rfl, hbc, _⟩ := RdAt.shape ha.bl
  obtain ⟨k, hk, hkl, hmin, _⟩ := min_cut h.ms 14
  obtain ⟨j, hj, hjl, hjmin, _⟩ := min_cut h.bl 22
  change min (h.ms.length : Int) 14 = _ at hmin
  change min (h.bl.length : Int) 22 = _ at hjmin
  have HMT := Lib.hid (mts_take ha.ms k hk (none_of ha.ms))
  have HBT := Lib.hid (ints_take ha.bl j hj (none_of ha.bl))
  have HKL := Lib.hid hkl
  have HJL := Lib.hid hjl
  have hkc : k ≤ mc := Nat.le_trans hk hmc
  have hjc : j ≤ bc := Nat.le_trans hj hbc
  have hkm : k < 9223372036854775807 := by omega
  have hjm : j < 9223372036854775807 := by omega
  obtain ⟨nm, f, fc, t, tc, ms, bl⟩ := h
  dsimp only at *
  generalize hmn : ms.length = mn at *
  generalize hbn : bl.length = bn at *
  obtain ⟨W0, hW0⟩ : ∃ z, (w.alloc (.cells #[.string nm, .int .i64 f, .int .u32 fc, .int .i64 t, .int .u32 tc, .slice ma mn mc, .slice ba bn bc] 37)).alloc (.cells #[.string ⟨#[]⟩, .int .i64 0, .int .u32 0, .int .i64 0, .int .u32 0, .slice none 0 0, .slice none 0 0] 35) = z := ⟨_, rfl⟩
  have hb0 : Below w.heap.size w W0 := by rw [← hW0]; exact (alloc_below _ _).trans ((alloc_below _ _).mono (by simp))
  have hd := (Below.refl W0.heap.size W0).drew
  rw [← hW0] at hd
  obtain ⟨h1, h2, h3⟩ := box_cells hd
  have hT := box_there hd
  obtain ⟨h4, _, _⟩ := box_cells h3
  rw [World.size_alloc] at h1 hT
  rw [hW0] at h1 h4 hT
  have q0 := h4 0 _ rfl
  have q1 := h4 1 _ rfl
  have q2 := h4 2 _ rfl
  have q3 := h4 3 _ rfl
  have q4 := h4 4 _ rfl
  have q5 := h4 5 _ rfl
  have q6 := h4 6 _ rfl
  have r0 := h1 0 _ rfl
  have r1 := h1 1 _ rfl
  have r2 := h1 2 _ rfl
  have r3 := h1 3 _ rfl
  have r4 := h1 4 _ rfl
  have r5 := h1 5 _ rfl
  have r6 := h1 6 _ rfl
  have f0 := there_free hT 0 (by decide)
  have f1 := there_free hT 1 (by decide)
  have f2 := there_free hT 2 (by decide)
  have f3 := there_free hT 3 (by decide)
  have f4 := there_free hT 4 (by decide)
  have f5 := there_free hT 5 (by decide)
  have f6 := there_free hT 6 (by decide)
  have HB0 := Lib.hid hb0
  have HT := Lib.hid hT
  have hmn63 : mn ≤ 9223372036854775807 := by unfold maxLen at hm; omega
  have hbn63 : bn ≤ 9223372036854775807 := by unfold maxLen at hb; omega
  clear hd h1 h2 h3 h4 hT hb0 ha hkl hjl hm hb hmn hbn
  go_enter Tryz.func12, Tryz.ntmps12
  go_upto_region 1 with fail
  try rw [hW0]
  clear hW0
  have hp : ∀ o v, W0.drew.cell? ⟨w.heap.size, o, none⟩ = some v → (W0.drew.setCells (w.heap.size + 1) 0 [.string nm, .int .i64 f, .int .u32 fc, .int .i64 t, .int .u32 tc, .slice ma k mc, .slice ba j bc]).cell? ⟨w.heap.size, o, none⟩ = some v := fun o v h => by
    rw [World.cell?_setCells_out _ _ _ _ _ (fun hb _ => by simp at hb)]
    exact h
  refine wp_region_held_drew (S := (fun W => W.cell? ⟨w.heap.size, 0, none⟩ = some (.string nm) ∧ W.cell? ⟨w.heap.size, 1, none⟩ = some (.int .i64 f) ∧ W.cell? ⟨w.heap.size, 2, none⟩ = some (.int .u32 fc) ∧ W.cell? ⟨w.heap.size, 3, none⟩ = some (.int .i64 t) ∧ W.cell? ⟨w.heap.size, 4, none⟩ = some (.int .u32 tc) ∧ W.cell? ⟨w.heap.size, 5, none⟩ = some (.slice ma mn mc) ∧ W.cell? ⟨w.heap.size, 6, none⟩ = some (.slice ba bn bc))) (by kernel_rfl) ⟨q0, q1, q2, q3, q4, q5, q6⟩ (fun hHeld => ?_)
  have hbd : Below W0.heap.size W0 W0.drew := (Below.refl _ _).drew
  have HBD := Lib.hid (HB0.out.trans (hbd.mono HB0.out.size))
  clear hbd
  generalize W0.drew = wd at *
  refine held_take (i := 0) (v := ?_) rfl rfl (by kernel_rfl) (by kernel_rfl) (by kernel_rfl) (fun _ _ _ h => h) (by rfl) hHeld ?_ ?_
  rotate_left
  · rintro wh ⟨z0, z1, z2, z3, z4, z5, z6⟩
    go_simp
    (try with_reducible rfl)
  simp only [Act.put, List.setIfInBounds_toArray, List.set_cons_zero, List.set_cons_succ]
  refine held_take (i := 1) (v := ?_) rfl rfl (by kernel_rfl) (by kernel_rfl) (by kernel_rfl) (fun _ _ _ h => h) (by rfl) hHeld ?_ ?_
  rotate_left
  · rintro wh ⟨z0, z1, z2, z3, z4, z5, z6⟩
    go_simp
    (try with_reducible rfl)
  simp only [Act.put, List.setIfInBounds_toArray, List.set_cons_zero, List.set_cons_succ]
  refine held_take (i := 2) (v := ?_) rfl rfl (by kernel_rfl) (by kernel_rfl) (by kernel_rfl) (fun _ _ _ h => h) (by rfl) hHeld ?_ ?_
  rotate_left
  · rintro wh ⟨z0, z1, z2, z3, z4, z5, z6⟩
    go_simp
    (try with_reducible rfl)
  simp only [Act.put, List.setIfInBounds_toArray, List.set_cons_zero, List.set_cons_succ]
  refine held_take (i := 3) (v := ?_) rfl rfl (by kernel_rfl) (by kernel_rfl) (by kernel_rfl) (fun _ _ _ h => h) (by rfl) hHeld ?_ ?_
  rotate_left
  · rintro wh ⟨z0, z1, z2, z3, z4, z5, z6⟩
    go_simp
    (try with_reducible rfl)
  simp only [Act.put, List.setIfInBounds_toArray, List.set_cons_zero, List.set_cons_succ]
  refine held_take (i := 4) (v := ?_) rfl rfl (by kernel_rfl) (by kernel_rfl) (by kernel_rfl) (fun _ _ _ h => h) (by rfl) hHeld ?_ ?_
  rotate_left
  · rintro wh ⟨z0, z1, z2, z3, z4, z5, z6⟩
    go_simp
    (try with_reducible rfl)
  simp only [Act.put, List.setIfInBounds_toArray, List.set_cons_zero, List.set_cons_succ]
  refine held_take (i := 5) (v := ?_) rfl rfl (by kernel_rfl) (by kernel_rfl) (by kernel_rfl) (fun _ _ _ h => h) (by rfl) hHeld ?_ ?_
  rotate_left
  · rintro wh ⟨z0, z1, z2, z3, z4, z5, z6⟩
    go_simp
    (try with_reducible rfl)
  simp only [Act.put, List.setIfInBounds_toArray, List.set_cons_zero, List.set_cons_succ]
  refine held_take (i := 6) (v := ?_) rfl rfl (by kernel_rfl) (by kernel_rfl) (by kernel_rfl) (fun _ _ _ h => h) (by rfl) hHeld ?_ ?_
  rotate_left
  · rintro wh ⟨z0, z1, z2, z3, z4, z5, z6⟩
    go_simp
    (try with_reducible rfl)
  simp only [Act.put, List.setIfInBounds_toArray, List.set_cons_zero, List.set_cons_succ]
  refine held_take (i := 7) (v := ?_) rfl rfl (by kernel_rfl) (by kernel_rfl) (by kernel_rfl) (fun _ _ _ h => h) (by rfl) hHeld ?_ ?_
  rotate_left
  · rintro wh ⟨z0, z1, z2, z3, z4, z5, z6⟩
    go_simp
    (try with_reducible rfl)
  simp only [Act.put, List.setIfInBounds_toArray, List.set_cons_zero, List.set_cons_succ]
  refine held_take (i := 8) (v := ?_) rfl rfl (by kernel_rfl) (by kernel_rfl) (by kernel_rfl) (fun _ _ _ h => h) (by rfl) hHeld ?_ ?_
  rotate_left
  · rintro wh ⟨z0, z1, z2, z3, z4, z5, z6⟩
    go_simp
    (try with_reducible rfl)
  simp only [Act.put, List.setIfInBounds_toArray, List.set_cons_zero, List.set_cons_succ]
  refine held_take (i := 9) (v := ?_) rfl rfl (by kernel_rfl) (by kernel_rfl) (by kernel_rfl) (fun _ _ _ h => h) (by rfl) hHeld ?_ ?_
  rotate_left
  · rintro wh ⟨z0, z1, z2, z3, z4, z5, z6⟩
    go_simp
    (try with_reducible rfl)
  simp only [Act.put, List.setIfInBounds_toArray, List.set_cons_zero, List.set_cons_succ]
  refine held_take (i := 10) (v := ?_) rfl rfl (by kernel_rfl) (by kernel_rfl) (by kernel_rfl) (fun _ _ _ h => h) (by rfl) hHeld ?_ ?_
  rotate_left
  · rintro wh ⟨z0, z1, z2, z3, z4, z5, z6⟩
    go_simp
    (try with_reducible rfl)
  simp only [Act.put, List.setIfInBounds_toArray, List.set_cons_zero, List.set_cons_succ]
  refine held_take (i := 11) (v := ?_) rfl rfl (by kernel_rfl) (by kernel_rfl) (by kernel_rfl) (fun _ _ _ h => h) (by rfl) hHeld ?_ ?_
  rotate_left
  · rintro wh ⟨z0, z1, z2, z3, z4, z5, z6⟩
    go_simp
    (try with_reducible rfl)
  simp only [Act.put, List.setIfInBounds_toArray, List.set_cons_zero, List.set_cons_succ]
  refine held_take (i := 12) (v := ?_) rfl rfl (by kernel_rfl) (by kernel_rfl) (by kernel_rfl) (fun _ _ _ h => h) (by rfl) hHeld ?_ ?_
  rotate_left
  · rintro wh ⟨z0, z1, z2, z3, z4, z5, z6⟩
    go_simp
    (try with_reducible rfl)
  simp only [Act.put, List.setIfInBounds_toArray, List.set_cons_zero, List.set_cons_succ]
  refine held_take (i := 13) (v := ?_) rfl rfl (by kernel_rfl) (by kernel_rfl) (by kernel_rfl) (fun _ _ _ h => h) (by rfl) hHeld ?_ ?_
  rotate_left
  · rintro wh ⟨z0, z1, z2, z3, z4, z5, z6⟩
    go_simp
    (try with_reducible rfl)
  simp only [Act.put, List.setIfInBounds_toArray, List.set_cons_zero, List.set_cons_succ]
  refine held_take (i := 14) (v := ?_) rfl rfl (by kernel_rfl) (by kernel_rfl) (by kernel_rfl) (fun _ _ _ h => h) (by rfl) hHeld ?_ ?_
  rotate_left
  · rintro wh ⟨z0, z1, z2, z3, z4, z5, z6⟩
    go_simp
    (try with_reducible rfl)
  simp only [Act.put, List.setIfInBounds_toArray, List.set_cons_zero, List.set_cons_succ]
  refine held_take (i := 15) (v := ?_) rfl rfl (by kernel_rfl) (by kernel_rfl) (by kernel_rfl) (fun _ _ _ h => h) (by rfl) hHeld ?_ ?_
  rotate_left
  · rintro wh ⟨z0, z1, z2, z3, z4, z5, z6⟩
    go_simp
    (try with_reducible rfl)
  simp only [Act.put, List.setIfInBounds_toArray, List.set_cons_zero, List.set_cons_succ]
  refine held_take (i := 16) (v := ?_) rfl rfl (by kernel_rfl) (by kernel_rfl) (by kernel_rfl) (fun _ _ _ h => h) (by rfl) hHeld ?_ ?_
  rotate_left
  · rintro wh ⟨z0, z1, z2, z3, z4, z5, z6⟩
    go_simp
    (try with_reducible rfl)
  simp only [Act.put, List.setIfInBounds_toArray, List.set_cons_zero, List.set_cons_succ]
  refine held_take (i := 17) (v := ?_) rfl rfl (by kernel_rfl) (by kernel_rfl) (by kernel_rfl) (fun _ _ _ h => h) (by rfl) hHeld ?_ ?_
  rotate_left
  · rintro wh ⟨z0, z1, z2, z3, z4, z5, z6⟩
    go_simp
    (try with_reducible rfl)
  simp only [Act.put, List.setIfInBounds_toArray, List.set_cons_zero, List.set_cons_succ]
  refine held_take (i := 18) (v := ?_) rfl rfl (by kernel_rfl) (by kernel_rfl) (by kernel_rfl) (fun _ _ _ h => h) (by rfl) hHeld ?_ ?_
  rotate_left
  · rintro wh ⟨z0, z1, z2, z3, z4, z5, z6⟩
    go_simp
    (try with_reducible rfl)
  simp only [Act.put, List.setIfInBounds_toArray, List.set_cons_zero, List.set_cons_succ]
  refine held_take (i := 19) (v := ?_) rfl rfl (by kernel_rfl) (by kernel_rfl) (by kernel_rfl) (fun _ _ _ h => h) (by rfl) hHeld ?_ ?_
  rotate_left
  · rintro wh ⟨z0, z1, z2, z3, z4, z5, z6⟩
    go_simp
    (try with_reducible rfl)
  simp only [Act.put, List.setIfInBounds_toArray, List.set_cons_zero, List.set_cons_succ]
  refine held_take (i := 20) (v := ?_) rfl rfl (by kernel_rfl) (by kernel_rfl) (by kernel_rfl) (fun _ _ _ h => h) (by rfl) hHeld ?_ ?_
  rotate_left
  · rintro wh ⟨z0, z1, z2, z3, z4, z5, z6⟩
    go_simp
    (try with_reducible rfl)
  simp only [Act.put, List.setIfInBounds_toArray, List.set_cons_zero, List.set_cons_succ]
  refine held_step (i := 21) rfl (by kernel_rfl) (fun K hK => ?_)
  go_simp
  refine hK.out _ _ ⟨hp _ _ q0, hp _ _ q1, hp _ _ q2, hp _ _ q3, hp _ _ q4, hp _ _ q5, hp _ _ q6⟩ (fun hHeld => ?_)
  clear hK K
  (try simp only [Act.put, List.setIfInBounds_toArray])
  refine wpAnyH_done (by kernel_rfl) ?_ _
  go_wp2
  refine bodyPost_ret (results_agg1 rfl _ _ (w.heap.size + 1) [.string nm, .int .i64 f, .int .u32 fc, .int .i64 t, .int .u32 tc, .slice ma k mc, .slice ba j bc] (.struct _) rfl (World.rangeAt_setCells_same wd (w.heap.size + 1) 0 [.string nm, .int .i64 f, .int .u32 fc, .int .i64 t, .int .u32 tc, .slice ma k mc, .slice ba j bc] HT.out) Tryz.underlying35 rfl (by kernel_rfl)) rfl ?_
  refine ⟨_, _, rfl, ⟨?_, ?_⟩, below_puts (g := w.heap.size + 1) (o := 0) HBD.out (by omega) [.string nm, .int .i64 f, .int .u32 fc, .int .i64 t, .int .u32 tc, .slice ma k mc, .slice ba j bc]⟩
  · show MtsAt w0 _ (ms.take 14)
    rw [HKL.out]; exact HMT.out
  · show IntsAt w0 _ (bl.take 22)
    rw [HJL.out]; exact HBT.out
structure HarAt (w : World) (v : Value) (l : List (Ha × Value × Value)) : Prop where
  row : RdAt w v l.length 7 (haCells l)
  each : ∀ p ∈ l, HaAt w p.1 p.2.1 p.2.2 ∧ p.1.nm.size ≤ maxLen ∧ p.1.ms.length ≤ maxLen ∧ p.1.bl.length ≤ maxLen ∧ MtsFit p.1.ms ∧ p.1.fc < 4294967296 ∧ p.1.tc < 4294967296
set_option maxRecDepth 100000 in
theorem hats_of_trod {H : Type} {enc : TypeId × Value → H} {W : World} {n : Nat} {v : Value} {x : DataW H × List MemPlace} (h : DataW.trod enc Tryz.prog W 0 (fun _ => true) true n 22 [v] = some x) : ∃ l, HarAt W v l ∧ l.length ≤ maxLen := by
  have hC : Tryz.prog.cellsOf 37 = 7 := by kernel_rfl
  rcases open_slice_elems Tryz.underlying22 h with hcs | ⟨a, len, cap, hcs, hl, hm, hf⟩
  · cases hcs
    exact ⟨[], ⟨RdAt.nil W 7, fun _ h => by cases h⟩, Nat.zero_le _⟩
  · cases hcs
    rw [hC] at hf
    have hone : ∀ i, i < len → ∃ s : Ha × Value × Value, (∀ j, j < 7 → W.cell? (a.add (i * 7 + j)) = (haC s)[j]?) ∧ (HaAt W s.1 s.2.1 s.2.2 ∧ s.1.nm.size ≤ maxLen ∧ s.1.ms.length ≤ maxLen ∧ s.1.bl.length ≤ maxLen ∧ MtsFit s.1.ms ∧ s.1.fc < 4294967296 ∧ s.1.tc < 4294967296) := by
      intro i hi
      obtain ⟨es, n, y, hlen, hat, ht⟩ := hf i hi
      match es, hlen with
      | [e0, e1, e2, e3, e4, e5, e6], _ =>
        obtain ⟨h, wv, bv, he, h1⟩ := hat_of_trod ht
        simp only [Value.agg.injEq] at he
        have he' : [e0, e1, e2, e3, e4, e5, e6] = haC (h, wv, bv) := congrArg Array.toList he
        exact ⟨(h, wv, bv), fun j hj => by rw [hat j hj, he'], h1⟩
    have hg : ∃ g : Nat → Ha × Value × Value, ∀ i, i < len → (∀ j, j < 7 → W.cell? (a.add (i * 7 + j)) = (haC (g i))[j]?) ∧ (HaAt W (g i).1 (g i).2.1 (g i).2.2 ∧ (g i).1.nm.size ≤ maxLen ∧ (g i).1.ms.length ≤ maxLen ∧ (g i).1.bl.length ≤ maxLen ∧ MtsFit (g i).1.ms ∧ (g i).1.fc < 4294967296 ∧ (g i).1.tc < 4294967296) :=
      ⟨fun i => if h : i < len then Classical.choose (hone i h) else (⟨⟨#[]⟩, 0, 0, 0, 0, [], []⟩, .bool false, .bool false), fun i h => by have := Classical.choose_spec (hone i h); simpa only [dif_pos h] using this⟩
    obtain ⟨g, hg⟩ := hg
    have hgl : ((List.range len).map g).length = len := by simp
    refine ⟨(List.range len).map g, ⟨⟨haCells_len _, .inr ⟨a, cap, by rw [hgl], by omega, fun hn => ?_⟩⟩, fun s hs => ?_⟩, by rw [hgl]; omega⟩
    · rw [hgl] at hn
      obtain ⟨b, o, rfl, hlt, hcell⟩ := row_cells (f := fun i => haC (g i)) (size := 7) (by decide) (fun _ _ => rfl) (fun i hi => (hg i hi).1) hn
      refine ⟨b, o, rfl, hlt, fun j x hj => ?_⟩
      have hjl := (List.getElem?_eq_some_iff.1 hj).1
      rw [haCells_len, hgl] at hjl
      obtain ⟨m, r, hr6, rfl⟩ : ∃ m r, r < 7 ∧ j = m * 7 + r := ⟨j / 7, j % 7, Nat.mod_lt _ (by decide), by omega⟩
      have hm' : m < len := by omega
      obtain ⟨z, hz⟩ : ∃ z, (haC (g m))[r]? = some z := ⟨_, List.getElem?_eq_getElem (by exact hr6)⟩
      have := haCells_at ((List.range len).map g) m (by rw [hgl]; omega) r z (by simpa using hz)
      rw [this] at hj
      exact hcell m hm' r x (hz.trans hj)
    · obtain ⟨i, hi, rfl⟩ := List.mem_map.1 hs
      exact (hg i (List.mem_range.1 hi)).2
set_option maxRecDepth 100000 in
theorem hats_of_arg {H : Type} {enc : TypeId × Value → H} {W : World} {base : Nat} {v : Value} {d : DataW H} {p : List MemPlace} (hval : Value.okWide Tryz.prog W .any base 22 v) (h : DataW.Trod enc Tryz.prog W 0 (fun _ => true) true 22 v d p) : ∃ l, HarAt W v l ∧ l.length ≤ maxLen := by
  obtain ⟨a0, len, cap, rfl⟩ := okWide_slice Tryz.underlying22 hval
  obtain ⟨fuel, hf⟩ := h
  exact hats_of_trod hf
theorem cutT_fit {h : Ha} (hn : h.nm.size ≤ maxLen) (hm : MtsFit h.ms) : HaFit (cutH h) :=
  ⟨hn, fun m h' => hm m (List.mem_of_mem_take h'), by show (h.ms.take 14).length ≤ 1000; rw [List.length_take]; omega, by show (h.bl.take 22).length ≤ 1000; rw [List.length_take]; omega⟩
theorem info_hat : (Tryz.prog.info? 35).map (fun i => (i.zero, i.size, i.bytes)) = some (some (.agg #[.string ⟨#[]⟩, .int .i64 0, .int .u32 0, .int .i64 0, .int .u32 0, .slice none 0 0, .slice none 0 0]), 7, 96) := by kernel_rfl
theorem info_intT : (Tryz.prog.info? 3).map (fun i => (i.zero, i.size, i.bytes)) = some (some (.int .i64 0), 1, 8) := by kernel_rfl
theorem rows_apart {w : World} {b b' : Nat} {e e' : TypeId} {s s' n n' : Nat} {v v' : Value} {xs xs' : List Value} (h : w.ownsRow b e s v n xs) (h' : w.ownsRow b' e' s' v' n' xs') (hne : e ≠ e') : v.ownBlock = none ∨ v.ownBlock ≠ v'.ownBlock := by
  rcases h.2 with ⟨rfl, _⟩ | ⟨g, c, cur, rfl, _, hg, _⟩
  · exact .inl rfl
  · right
    intro e1
    rcases h'.2 with ⟨rfl, _⟩ | ⟨g', c', cur', rfl, _, hg', _⟩
    · cases e1
    · have e2 : g = g' := Option.some.inj e1
      subst e2
      rw [hg] at hg'
      simp only [Option.some.injEq, Obj.cells.injEq] at hg'
      exact hne hg'.2.1
theorem row7 (W : World) (a b c d e f g : Value) (t : TypeId) : RdAt (W.alloc (.cells #[a, b, c, d, e, f, g] t)) (.slice (some ⟨W.heap.size, 0, none⟩) 1 1) 1 7 [a, b, c, d, e, f, g] :=
  RdAt.mk rfl (Nat.le_refl _) (by rw [World.size_alloc]; omega) (fun j x hj => by
    have hc : (W.alloc (.cells #[a, b, c, d, e, f, g] t)).cell? ⟨W.heap.size, j, none⟩ = _ := World.cell?_alloc_at _ _ _ _ rfl
    rw [Nat.zero_add, hc, ← Array.getElem?_toList]
    exact hj)
theorem row1 (W : World) (a : Value) (t : TypeId) : RdAt (W.alloc (.cells #[a] t)) (.slice (some ⟨W.heap.size, 0, none⟩) 1 1) 1 1 [a] :=
  RdAt.mk rfl (Nat.le_refl _) (by rw [World.size_alloc]; omega) (fun j x hj => by
    have hc : (W.alloc (.cells #[a] t)).cell? ⟨W.heap.size, j, none⟩ = _ := World.cell?_alloc_at _ _ _ _ rfl
    rw [Nat.zero_add, hc, ← Array.getElem?_toList]
    exact hj)
def ArgLab (v : Value) (x : Int × Nat) : Prop := v = Lab x.1 x.2 ∧ x.2 < 4294967296
set_option maxRecDepth 100000 in
open Go.WideShapes Go.ChangeShapes Go.Deep in
theorem lab_of_arg {H : Type} {enc : TypeId × Value → H} {W : World} {base : Nat} {v : Value} {d : DataW H} {p : List MemPlace} (hval : Value.okWide Tryz.prog W .any base 26 v) (h : DataW.Trod enc Tryz.prog W 0 (fun _ => true) true 26 v d p) : ∃ x, ArgLab v x := by
  obtain ⟨cs, rfl, hsz, _⟩ : ∃ cs, v = .agg cs ∧ cs.size = Tryz.prog.cellsOf 26 ∧ Row.okWide Tryz.prog W .any base 26 cs := by
    simpa [Value.okWide, Tryz.underlying26] using hval
  rw [show Tryz.prog.cellsOf 26 = 2 by kernel_rfl] at hsz
  obtain ⟨fuel, hf⟩ := h
  obtain ⟨l⟩ := cs
  match l, hsz with
  | [c0, c1], _ =>
    obtain ⟨l, c, rfl, rfl, hc⟩ := lab_of_trod hf
    exact ⟨(l, c), rfl, hc⟩
structure BtAt (w3 wr : World) (l1 : List (Al × Value)) (tl : Int) (tc : Nat) (vh vw : Value) (k : Nat) (rs : List (Ha × Value × Value)) : Prop where
  b : Below w3.heap.size w3 wr
  len : rs.length = k
  h : wr.ownsRow w3.heap.size 35 7 vh k (haCells rs)
  n : wr.ownsRow w3.heap.size 3 1 vw k ((rs.map fun p => wantN p.1 l1 tl tc 20).map fun i => Value.int .i64 i)
  each : ∀ p ∈ rs, HaAt w3 p.1 p.2.1 p.2.2 ∧ HaFit p.1
theorem BtAt.later {w3 wr W : World} {l1 : List (Al × Value)} {tl : Int} {tc : Nat} {vh vw : Value} {k : Nat} {rs : List (Ha × Value × Value)} (h : BtAt w3 wr l1 tl tc vh vw k rs) (hb : Below wr.heap.size wr W) : BtAt w3 W l1 tl tc vh vw k rs :=
  ⟨h.b.trans (hb.mono h.b.size), h.len, own_later h.h hb, own_later h.n hb, h.each⟩
theorem BtAt.hats {w3 wr : World} {l1 : List (Al × Value)} {tl : Int} {tc : Nat} {vh vw : Value} {k : Nat} {rs : List (Ha × Value × Value)} (h : BtAt w3 wr l1 tl tc vh vw k rs) : HasAt wr vh rs :=
  ⟨by rw [h.len]; exact RdAt.own h.h, fun p hp => ⟨(h.each p hp).1.later h.b, (h.each p hp).2⟩⟩
theorem BtAt.ints {w3 wr : World} {l1 : List (Al × Value)} {tl : Int} {tc : Nat} {vh vw : Value} {k : Nat} {rs : List (Ha × Value × Value)} (h : BtAt w3 wr l1 tl tc vh vw k rs) : IntsAt wr vw (rs.map fun p => wantN p.1 l1 tl tc 20) := by
  unfold IntsAt
  rw [List.length_map, h.len]
  exact RdAt.own h.n
end Go.Proofs.YtcfococinllcmaaGreat

/- Several parts in one: What bucket.Range gives, plainly. bucket.Range: a contract. -/
namespace Go.Proofs.YtcfococinllcmaaGreat
open Go.RowKit
def rangeV (l : List Int) (k : Int) : Value := if rangeOk l k then .tuple #[.int .i64 (loL l k.toNat), .int .i64 (hiL l k.toNat), .bool true] else .tuple #[.int .i64 0, .int .i64 0, .bool false]
theorem rangeV_bad {l : List Int} {k : Int} (h : rangeOk l k = false) : rangeV l k = .tuple #[.int .i64 0, .int .i64 0, .bool false] := by unfold rangeV; rw [h]; rfl
theorem rangeV_good {l : List Int} {k : Nat} (hf : fineL l = true) (h : k ≤ l.length) : rangeV l k = .tuple #[.int .i64 (loL l k), .int .i64 (hiL l k), .bool true] := by
  unfold rangeV rangeOk
  rw [hf, decide_eq_true (by omega : (0 : Int) ≤ (k : Int)), decide_eq_true (by omega : (k : Int) ≤ (l.length : Int))]
  simp
theorem rangeOk_unfine {l : List Int} {k : Int} (h : fineL l = false) : rangeOk l k = false := by unfold rangeOk; rw [h]; rfl
theorem rangeOk_low {l : List Int} {k : Int} (h : k < 0) : rangeOk l k = false := by unfold rangeOk; rw [decide_eq_false (by omega : ¬ 0 ≤ k), Bool.and_false]; rfl
theorem rangeOk_high {l : List Int} {k : Int} (h : (l.length : Int) < k) : rangeOk l k = false := by unfold rangeOk; rw [decide_eq_false (by omega : ¬ k ≤ (l.length : Int)), Bool.and_false]
end Go.Proofs.YtcfococinllcmaaGreat
namespace Go.Proofs.YtcfococinllcmaaGreat
open Go.RowKit
theorem rd_one (w : World) (x : Value) (t : TypeId) : RdAt (w.alloc (.cells #[x] t)) (.slice (some ⟨w.heap.size, 0, none⟩) 1 1) 1 1 [x] :=
  RdAt.mk rfl (Nat.le_refl _) (by rw [World.size_alloc]; omega) (fun j y hj => by
    have hj0 : j = 0 := by have := (List.getElem?_eq_some_iff.1 hj).1; simpa using this
    subst hj0
    have := cell_one_new w x t 0 y hj
    simpa [Addr.add] using this)
def edgesL (l : List Int) : List Int := [0] ++ l ++ [1099511627777]
theorem edges_len (l : List Int) : (edgesL l).length = l.length + 2 := by simp [edgesL]
theorem edges_lo {l : List Int} {k : Nat} (hk : k ≤ l.length) : (edgesL l)[k]? = some (loL l k) := by
  unfold edgesL
  rcases Nat.eq_zero_or_pos k with rfl | h0
  · simp [loL]
  · rw [loL_pos h0 hk, List.append_assoc, List.getElem?_append_right (by simp; omega), List.getElem?_append_left (by simp; omega)]
    simp only [List.length_singleton]
    exact List.getElem?_eq_getElem _
theorem edges_hi {l : List Int} {k : Nat} (hk : k ≤ l.length) : (edgesL l)[k + 1]? = some (hiL l k + 1) := by
  unfold edgesL
  rw [List.append_assoc, List.getElem?_append_right (by simp)]
  simp only [List.length_singleton, Nat.add_sub_cancel]
  rcases Nat.lt_or_ge k l.length with h | h
  · rw [List.getElem?_append_left h, hiL_lt h, List.getElem?_eq_getElem h]; simp
  · obtain rfl : k = l.length := by omega
    rw [hiL_end, List.getElem?_append_right (Nat.le_refl _)]; simp
theorem three_at (w : World) (v : Value) (l : List Int) (x y : Int) (t u : TypeId) (hv : IntsAt w v l) :
    SlsAt (((w.alloc (.cells #[I x] t)).alloc (.cells #[I y] t)).alloc (.cells #[.slice (some ⟨w.heap.size, 0, none⟩) 1 1, v, .slice (some ⟨w.heap.size + 1, 0, none⟩) 1 1] u)) ⟨w.heap.size + 2, 0, none⟩
      [(.slice (some ⟨w.heap.size, 0, none⟩) 1 1, [x]), (v, l), (.slice (some ⟨w.heap.size + 1, 0, none⟩) 1 1, [y])] := by
  have h1 : IntsAt (w.alloc (.cells #[I x] t)) (.slice (some ⟨w.heap.size, 0, none⟩) 1 1) [x] := rd_one w (I x) t
  have h2 : IntsAt ((w.alloc (.cells #[I x] t)).alloc (.cells #[I y] t)) (.slice (some ⟨w.heap.size + 1, 0, none⟩) 1 1) [y] := by
    have := rd_one (w.alloc (.cells #[I x] t)) (I y) t
    rwa [World.size_alloc] at this
  have h1' := h1.later (alloc_below _ (.cells #[I y] t))
  have hv' := (hv.later (alloc_below _ (.cells #[I x] t))).later (alloc_below _ (.cells #[I y] t))
  generalize hW : (w.alloc (.cells #[I x] t)).alloc (.cells #[I y] t) = W at *
  have hs : W.heap.size = w.heap.size + 2 := by rw [← hW, World.size_alloc, World.size_alloc]
  have hb := alloc_below W (.cells #[.slice (some ⟨w.heap.size, 0, none⟩) 1 1, v, .slice (some ⟨w.heap.size + 1, 0, none⟩) 1 1] u)
  refine ⟨w.heap.size + 2, 0, rfl, by rw [World.size_alloc]; omega, fun j hj => ?_⟩
  rw [← hs]
  have hc : ∀ (i : Nat), (W.alloc (.cells #[.slice (some ⟨w.heap.size, 0, none⟩) 1 1, v, .slice (some ⟨w.heap.size + 1, 0, none⟩) 1 1] u)).cell? ⟨W.heap.size, i, none⟩ = _ := fun i => World.cell?_alloc_at _ _ _ _ rfl
  match j, hj with
  | 0, _ => exact ⟨hc 0, h1'.later hb⟩
  | 1, _ => exact ⟨hc 1, hv'.later hb⟩
  | 2, _ => exact ⟨hc 2, h2.later hb⟩
  | j + 3, h => exact absurd h (by simp)
set_option maxHeartbeats 1600000 in
set_option maxRecDepth 100000 in
theorem range_any (l : List Int) (k : Int) (w : World) (v : Value) (hv : IntsAt w v l) (hl : l.length ≤ 900) :
    Calls Tryz.prog 42 #[v, .int .i64 k] w fun e w' => e = .returned (rangeV l k) ∧ Below w.heap.size w w' := by
  have hbd := fine_any l w v hv (by omega)
  have hcat := fun w1 (hb : Below w.heap.size w w1) => concat_any _ _ 3 _ (three_at w1 v l 0 1099511627777 3 32 (hv.later hb)) (by simp [sumL]) (by simp [sumL]; omega) (by simp)
  obtain ⟨a, c, rfl, hc, hr⟩ := RdAt.shape hv
  clear hr hv
  cases hf : fineL l
  · have HZ := Lib.hid (rangeV_bad (rangeOk_unfine (k := k) hf))
    rw [hf] at hbd
    clear hf hcat
    go_enter Tryz.func42, Tryz.ntmps42
    go_wp2_with fail
    refine hbd.mono ?_
    rintro e w1 ⟨rfl, hb1⟩
    go_wp2
    go_ret3
    exact ⟨by rw [HZ.out]; rfl, hb1⟩
  rw [hf] at hbd
  by_cases h1 : k < 0
  · have HZ := Lib.hid (rangeV_bad (rangeOk_low (l := l) h1))
    clear hf hcat
    go_enter Tryz.func42, Tryz.ntmps42
    go_wp2_with fail
    refine hbd.mono ?_
    rintro e w1 ⟨rfl, hb1⟩
    go_wp2
    go_ret3
    exact ⟨by rw [HZ.out]; rfl, hb1⟩
  by_cases h2 : (l.length : Int) < k
  · have HZ := Lib.hid (rangeV_bad (rangeOk_high h2))
    clear hf hcat
    go_enter Tryz.func42, Tryz.ntmps42
    go_wp2_with fail
    refine hbd.mono ?_
    rintro e w1 ⟨rfl, hb1⟩
    go_wp2
    go_ret3
    exact ⟨by rw [HZ.out]; rfl, hb1⟩
  obtain ⟨m, rfl⟩ : ∃ m : Nat, k = (m : Int) := ⟨k.toNat, by omega⟩
  have hml : m ≤ l.length := by omega
  have HZ := Lib.hid (rangeV_good hf hml)
  have HLO := Lib.hid (edges_lo hml)
  have HHI := Lib.hid (edges_hi hml)
  have hbnd := lo_le_hi hf hml
  have hbn2 := loL_nonneg hf hml
  have hbn3 : hiL l m ≤ 1099511627776 := by
    rcases Nat.lt_or_ge m l.length with h | h
    · rw [hiL_lt h]; have := ((fineL_iff.1 hf).2.2.2 _ (List.getElem_mem h)).2; omega
    · obtain rfl : m = l.length := by omega
      rw [hiL_end]; omega
  generalize loL l m = LO at *
  generalize hiL l m = HI at *
  clear hf h1 h2
  have hcat' : ∀ w1, Below w.heap.size w w1 → Calls Tryz.prog 77 #[.slice (some ⟨w1.heap.size + 2, 0, none⟩) 3 3]
      (((w1.alloc (.cells #[I 0] 3)).alloc (.cells #[I 1099511627777] 3)).alloc (.cells #[.slice (some ⟨w1.heap.size, 0, none⟩) 1 1, .slice a l.length c, .slice (some ⟨w1.heap.size + 1, 0, none⟩) 1 1] 32))
      fun e w' => ∃ g cap, e = .returned (.slice (some ⟨g, 0, none⟩) (l.length + 2) cap) ∧ w'.cell? ⟨g, m, none⟩ = some (.int .i64 LO) ∧ w'.cell? ⟨g, m + 1, none⟩ = some (.int .i64 (HI + 1)) ∧ Below w.heap.size w w' := fun w1 hb => by
    refine (hcat w1 hb).mono ?_
    rintro e w' ⟨v', rfl, hown, hb'⟩
    have e1 : sumL [(Value.slice (some ⟨w1.heap.size, 0, none⟩) 1 1, [(0 : Int)]), (.slice a l.length c, l), (.slice (some ⟨w1.heap.size + 1, 0, none⟩) 1 1, [1099511627777])] = edgesL l := by simp [sumL, edgesL]
    rw [e1, edges_len] at hown
    rcases hown.2 with ⟨_, h⟩ | ⟨g, cap, cur, rfl, _, hg, _⟩
    · omega
    · have hcl : ∀ j x, ((edgesL l).map I)[j]? = some x → w'.cell? ⟨g, j, none⟩ = some x := fun j x hx => by
        have := hown.cells (g := g) rfl j x hx
        by_cases h0 : j = 0
        · subst h0; simpa [Addr.add] using this
        · simpa [Addr.add, h0] using this
      refine ⟨g, cap, rfl, hcl m _ (by rw [List.getElem?_map, HLO.out]; rfl), hcl (m + 1) _ (by rw [List.getElem?_map, HHI.out]; rfl), ?_⟩
      have hb3 : Below w.heap.size w _ := ((hb.alloc hb.size (.cells #[I 0] 3)).alloc (by have := hb.size; rw [World.size_alloc]; omega) (.cells #[I 1099511627777] 3)).alloc (by have := hb.size; rw [World.size_alloc, World.size_alloc]; omega) (.cells #[.slice (some ⟨w1.heap.size, 0, none⟩) 1 1, .slice a l.length c, .slice (some ⟨w1.heap.size + 1, 0, none⟩) 1 1] 32)
      exact hb3.trans (hb'.mono hb3.size)
  clear hcat
  have hI1 : (m : Int) < ((l.length + 2 : Nat) : Int) := by omega
  have hI2 : (m : Int) + 1 < ((l.length + 2 : Nat) : Int) := by omega
  go_enter Tryz.func42, Tryz.ntmps42
  go_wp2_with fail
  refine hbd.mono ?_
  rintro e w1 ⟨rfl, hb1⟩
  have hc1 := hcat' w1 hb1
  clear hbd hcat'
  go_wp2_with fail
  refine hc1.mono ?_
  rintro e w2 ⟨g, cap, rfl, c0, c1, hb2⟩
  clear hc1
  generalize l.length + 2 = nn at *
  go_wp2_with fail
  go_region
  all_goals go_wp2
  all_goals (
    go_ret3
    exact ⟨by rw [HZ.out]; (first | rfl | (simp; done) | (simp; omega)), bl_drewN hb2 1⟩)
end Go.Proofs.YtcfococinllcmaaGreat

/- bucket.Tell at the one alert of lives. -/
namespace Go.Proofs.YtcfococinllcmaaGreat
open Go.RowKit
set_option maxHeartbeats 800000 in
theorem idxm_nil (f : Value) (w : World) : Calls Tryz.prog 87 #[.slice none 0 0, f] w fun e w' => e = .returned (.int .i64 (-1)) ∧ Below w.heap.size w w' := by
  go_enter Tryz.func87, Tryz.ntmps87
  go_wp2
  go_loopw [8] (fun i wr => i = .int .i64 0 ∧ Below w.heap.size w wr) (fun _ _ => 0)
  case atStart => exact ⟨rfl, Below.refl _ _⟩
  case round =>
    obtain ⟨rfl, hbr⟩ := hrel
    go_wp2
    go_ret
    exact ⟨rfl, hbr⟩
set_option maxHeartbeats 800000 in
theorem hasm_nil (f : Value) (w : World) : Calls Tryz.prog 52 #[.slice none 0 0, f] w fun e w' => e = .returned (.bool false) ∧ Below w.heap.size w w' := by
  go_enter Tryz.func52, Tryz.ntmps52
  go_wp2_with fail
  refine (idxm_nil _ _).mono ?_
  rintro e w1 ⟨rfl, hb1⟩
  go_wp2
  go_ret
  exact ⟨rfl, hb1⟩
set_option maxHeartbeats 800000 in
theorem allm_nil (v : Value) (w : World) (a : Option Addr) (n c : Nat) (hv : v = .slice a n c) : Calls Tryz.prog 66 #[v, .slice none 0 0] w fun e w' => e = .returned (.bool true) ∧ Below w.heap.size w w' := by
  subst hv
  go_enter Tryz.func66, Tryz.ntmps66
  go_wp2_with fail
  refine (hasm_nil _ _).mono ?_
  rintro e w1 ⟨rfl, hb1⟩
  obtain ⟨_, _, hB1⟩ := box1 hb1
  go_wp2
  go_ret
  exact ⟨rfl, hB1⟩
set_option maxHeartbeats 1600000 in
theorem aright_good (src : ByteArray) (l : List Fld) (v : Value) (lv : Int) (c : Nat) (w : World) (hs : src.size ≤ maxLen) (hn : nameL (B src) = true) (hv : FldsAt w v l) (hfit : FldsFit l) (h0 : 0 < l.length) (hl : l.length ≤ 8) (hr : rightF l = true) (hL : rightL lv = true) :
    Calls Tryz.prog 82 #[.agg #[.string src, v, .int .i64 lv, .int .u32 c, .int .i64 0, .int .i64 0]] w fun e w' => e = .returned (.bool true) ∧ Below w.heap.size w w' := by
  have k1 := fun W => name_any src W hs
  have k2 := fun W (hb : Below w.heap.size w W) => rightf_any l W v (hv.later hb) hfit (by unfold maxLen; omega)
  have k3 := right_any lv c
  rw [hn] at k1
  rw [hr] at k2
  rw [hL] at k3
  obtain ⟨fa, fc, rfl, hfc, _⟩ := RdAt.shape hv
  have hl0 : (0 : Int) < (l.length : Int) := by omega
  have K2 := Lib.hid k2
  clear hn hr hL hv hfit k2
  go_enter Tryz.func82, Tryz.ntmps82
  go_wp2_with fail
  refine (k1 _).mono ?_
  rintro e w1 ⟨rfl, hb1⟩
  obtain ⟨x, hlt, hB1⟩ := box6 hb1
  have X1 : C6 w.heap.size _ _ _ _ _ _ w1 := x
  obtain ⟨x0, x1, x2, x3, x4, x5⟩ := x
  clear hb1 k1
  have k2 := K2.out w1 hB1
  clear K2
  go_wp2_with fail
  refine k2.mono ?_
  rintro e w2 ⟨rfl, hb2⟩
  have X2 := X1.later hb2 hlt
  have hB2 := hB1.trans (hb2.mono hB1.size)
  have hlt2 := Nat.lt_of_lt_of_le hlt hb2.size
  clear x0 x1 x2 x3 x4 x5 X1 k2 hb2 hB1 hlt
  have X2' := Lib.hid X2
  obtain ⟨x0, x1, x2, x3, x4, x5⟩ := X2
  go_wp2_with fail
  refine (k3 _).mono ?_
  rintro e w3 ⟨rfl, hb3⟩
  have X3 := X2'.out.later hb3 hlt2
  have hB3 := hB2.trans (hb3.mono hB2.size)
  clear x0 x1 x2 x3 x4 x5 X2' k3 hb3 hB2 hlt2
  obtain ⟨x0, x1, x2, x3, x4, x5⟩ := X3
  go_wp2
  go_ret
  exact ⟨rfl, hB3⟩
set_option maxHeartbeats 800000 in
theorem fires_good (src : ByteArray) (a : Option Addr) (n m : Nat) (lv : Int) (c : Nat) (w : World) :
    Calls Tryz.prog 83 #[.agg #[.string src, .slice a n m, .int .i64 lv, .int .u32 c, .int .i64 0, .int .i64 0], .int .i64 0] w fun e w' => e = .returned (.bool true) ∧ Below w.heap.size w w' := by
  go_enter Tryz.func83, Tryz.ntmps83
  go_wp2
  go_ret
  exact ⟨rfl, (Below.refl _ _).alloc (Nat.le_refl _) _⟩
end Go.Proofs.YtcfococinllcmaaGreat

/- Several parts in one: bucket.Tell at the one alert of lives; lychgatelaw22.lives is true. lychgatelaw22.lives is true. -/
namespace Go.Proofs.YtcfococinllcmaaGreat
open Go.RowKit
set_option maxHeartbeats 1600000 in
set_option maxRecDepth 100000 in
theorem hatch_good (nm : ByteArray) (f : Int) (fc : Nat) (t : Int) (tc : Nat) (bv : Value) (bl : List Int) (w : World) (hs : nm.size ≤ maxLen) (hn : nameL (B nm) = true) (hf : rightL f = true) (ht : rightL t = true) (hv : IntsAt w bv bl) (hl : bl.length ≤ 1000) (hb : fineL bl = true) :
    Calls Tryz.prog 16 #[.agg #[.string nm, .int .i64 f, .int .u32 fc, .int .i64 t, .int .u32 tc, .slice none 0 0, bv]] w fun e w' => e = .returned (.bool true) ∧ Below w.heap.size w w' := by
  have k1 := fun W => name_any nm W hs
  have k2 := right_any f fc
  have k3 := right_any t tc
  have k4 := fun W (h : Below w.heap.size w W) => fine_any bl W bv (hv.later h) hl
  rw [hn] at k1
  rw [hf] at k2
  rw [ht] at k3
  rw [hb] at k4
  obtain ⟨ba, bc, rfl, _, _⟩ := RdAt.shape hv
  have K4 := Lib.hid k4
  clear hn hf ht hb hv k4
  go_enter Tryz.func16, Tryz.ntmps16
  go_wp2_with fail
  refine (k1 _).mono ?_
  rintro e w1 ⟨rfl, hb1⟩
  obtain ⟨x, hlt1, hB1⟩ := box7 hb1
  have X1 : Hid (C7 w.heap.size _ _ _ _ _ _ _ w1) := Lib.hid x
  obtain ⟨x0, x1, x2, x3, x4, x5, x6⟩ := x
  clear hb1 k1
  go_wp2_with fail
  refine (k2 _).mono ?_
  rintro e w2 ⟨rfl, hb2⟩
  have X := X1.out.later hb2 hlt1
  have X2 := Lib.hid X
  have hB2 := hB1.trans (hb2.mono hB1.size)
  have hlt2 := Nat.lt_of_lt_of_le hlt1 hb2.size
  clear x0 x1 x2 x3 x4 x5 x6 X1 k2 hb2 hB1 hlt1
  obtain ⟨x0, x1, x2, x3, x4, x5, x6⟩ := X
  go_wp2_with fail
  refine (k3 _).mono ?_
  rintro e w3 ⟨rfl, hb3⟩
  have X := X2.out.later hb3 hlt2
  have X3 := Lib.hid X
  have hB3 := hB2.trans (hb3.mono hB2.size)
  have hlt3 := Nat.lt_of_lt_of_le hlt2 hb3.size
  clear x0 x1 x2 x3 x4 x5 x6 X2 k3 hb3 hB2 hlt2
  obtain ⟨x0, x1, x2, x3, x4, x5, x6⟩ := X
  go_wp2_with fail
  refine (hasm_nil _ _).mono ?_
  rintro e w4 ⟨rfl, hb4⟩
  have X := X3.out.later hb4 hlt3
  have hB4 := hB3.trans (hb4.mono hB3.size)
  have k4 := K4.out w4 hB4
  clear x0 x1 x2 x3 x4 x5 x6 X3 hb4 hB3 hlt3 K4
  obtain ⟨x0, x1, x2, x3, x4, x5, x6⟩ := X
  go_wp2_with fail
  refine k4.mono ?_
  rintro e w5 ⟨rfl, hb5⟩
  have hB5 := hB4.trans (hb5.mono hB4.size)
  clear x0 x1 x2 x3 x4 x5 x6 hb5 hB4 k4
  go_wp2
  go_ret
  exact ⟨rfl, hB5⟩
theorem box76 {w W : World} {a b c d e f g a' b' c' d' e' f' : Value} {t u : TypeId} (hb : Below ((w.alloc (.cells #[a, b, c, d, e, f, g] t)).alloc (.cells #[a', b', c', d', e', f'] u)).heap.size ((w.alloc (.cells #[a, b, c, d, e, f, g] t)).alloc (.cells #[a', b', c', d', e', f'] u)) W) :
    C7 w.heap.size a b c d e f g W ∧ C6 (w.heap.size + 1) a' b' c' d' e' f' W ∧ w.heap.size + 1 < W.heap.size ∧ Below w.heap.size w W := by
  obtain ⟨h, h', h3, h4⟩ := box_two hb
  exact ⟨⟨h 0 _ rfl, h 1 _ rfl, h 2 _ rfl, h 3 _ rfl, h 4 _ rfl, h 5 _ rfl, h 6 _ rfl⟩, ⟨h' 0 _ rfl, h' 1 _ rfl, h' 2 _ rfl, h' 3 _ rfl, h' 4 _ rfl, h' 5 _ rfl⟩, h3, h4⟩
set_option maxHeartbeats 1600000 in
set_option maxRecDepth 100000 in
theorem counts_good (nm : ByteArray) (f : Int) (fc : Nat) (t : Int) (tc : Nat) (ba : Option Addr) (bn bc : Nat) (src : ByteArray) (l : List Fld) (v : Value) (lv : Int) (c : Nat) (w : World) (hs : src.size ≤ maxLen) (hn : nameL (B src) = true) (hv : FldsAt w v l) (hfit : FldsFit l) (h0 : 0 < l.length) (hl : l.length ≤ 8) (hr : rightF l = true) (hL : rightL lv = true) (hfl : flowsL lv c f fc = true) :
    Calls Tryz.prog 47 #[.agg #[.string nm, .int .i64 f, .int .u32 fc, .int .i64 t, .int .u32 tc, .slice none 0 0, .slice ba bn bc], .agg #[.string src, v, .int .i64 lv, .int .u32 c, .int .i64 0, .int .i64 0], .int .i64 0] w fun e w' => e = .returned (.bool true) ∧ Below w.heap.size w w' := by
  have k1 := fun W (h : Below w.heap.size w W) => aright_good src l v lv c W hs hn (hv.later h) hfit h0 hl hr hL
  obtain ⟨fa, fcap, rfl, hfc, _⟩ := RdAt.shape hv
  have k2 := fires_good src fa l.length fcap lv c
  have k3 := flows_any lv c f fc
  have k4 := fun W => allm_nil (.slice fa l.length fcap) W fa l.length fcap rfl
  rw [hfl] at k3
  have k1 := k1 _ (((Below.refl w.heap.size w).alloc (Nat.le_refl _) (.cells #[.string nm, .int .i64 f, .int .u32 fc, .int .i64 t, .int .u32 tc, .slice none 0 0, .slice ba bn bc] 35)).alloc (by simp) (.cells #[.string src, .slice fa l.length fcap, .int .i64 lv, .int .u32 c, .int .i64 0, .int .i64 0] 53))
  generalize l.length = n at *
  clear hn hv hfit h0 hl hr hL hfl hfc
  go_enter Tryz.func47, Tryz.ntmps47
  go_wp2_with fail
  refine k1.mono ?_
  rintro e w1 ⟨rfl, hb1⟩
  obtain ⟨X, Y, hlt1, hB1⟩ := box76 hb1
  have X1 := Lib.hid X
  have Y1 := Lib.hid Y
  obtain ⟨x0, x1, x2, x3, x4, x5, x6⟩ := X
  obtain ⟨y0, y1, y2, y3, y4, y5⟩ := Y
  clear hb1 k1
  go_wp2_with fail
  refine (k2 _).mono ?_
  rintro e w2 ⟨rfl, hb2⟩
  have X := X1.out.later hb2 (by omega)
  have Y := Y1.out.later hb2 hlt1
  have X2 := Lib.hid X
  have Y2 := Lib.hid Y
  have hB2 := hB1.trans (hb2.mono hB1.size)
  have hlt2 := Nat.lt_of_lt_of_le hlt1 hb2.size
  clear x0 x1 x2 x3 x4 x5 x6 y0 y1 y2 y3 y4 y5 X1 Y1 k2 hb2 hB1 hlt1
  obtain ⟨x0, x1, x2, x3, x4, x5, x6⟩ := X
  obtain ⟨y0, y1, y2, y3, y4, y5⟩ := Y
  go_wp2_with fail
  refine (k3 _).mono ?_
  rintro e w3 ⟨rfl, hb3⟩
  have X := X2.out.later hb3 (by omega)
  have Y := Y2.out.later hb3 hlt2
  have hB3 := hB2.trans (hb3.mono hB2.size)
  clear x0 x1 x2 x3 x4 x5 x6 y0 y1 y2 y3 y4 y5 X2 Y2 k3 hb3 hB2 hlt2
  obtain ⟨x0, x1, x2, x3, x4, x5, x6⟩ := X
  obtain ⟨y0, y1, y2, y3, y4, y5⟩ := Y
  go_wp2_with fail
  refine (k4 _).mono ?_
  rintro e w4 ⟨rfl, hb4⟩
  have hB4 := hB3.trans (hb4.mono hB3.size)
  clear x0 x1 x2 x3 x4 x5 x6 y0 y1 y2 y3 y4 y5 k4 hb4 hB3
  go_wp2
  go_ret
  exact ⟨rfl, hB4⟩
theorem box72 {w W : World} {a b c d e f g a' b' : Value} {t u : TypeId} (hb : Below ((w.alloc (.cells #[a, b, c, d, e, f, g] t)).alloc (.cells #[a', b'] u)).heap.size ((w.alloc (.cells #[a, b, c, d, e, f, g] t)).alloc (.cells #[a', b'] u)) W) :
    C7 w.heap.size a b c d e f g W ∧ (W.cell? ⟨w.heap.size + 1, 0, none⟩ = some a' ∧ W.cell? ⟨w.heap.size + 1, 1, none⟩ = some b') ∧ w.heap.size + 1 < W.heap.size ∧ Below w.heap.size w W := by
  obtain ⟨h, h', h3, h4⟩ := box_two hb
  exact ⟨⟨h 0 _ rfl, h 1 _ rfl, h 2 _ rfl, h 3 _ rfl, h 4 _ rfl, h 5 _ rfl, h 6 _ rfl⟩, ⟨h' 0 _ rfl, h' 1 _ rfl⟩, h3, h4⟩
set_option maxHeartbeats 1600000 in
set_option maxRecDepth 100000 in
theorem tell_one (nm : ByteArray) (f : Int) (fc : Nat) (t : Int) (tc : Nat) (bv : Value) (bl : List Int) (q : Nat) (src : ByteArray) (l : List Fld) (v : Value) (lv : Int) (c : Nat) (w : World)
    (hsn : nm.size ≤ maxLen) (hnn : nameL (B nm) = true) (hf : rightL f = true) (ht : rightL t = true) (hbv : IntsAt w bv bl) (hbl : bl.length ≤ 1000) (hbf : fineL bl = true) (hto : flowsL t tc 0 0 = true)
    (hs : src.size ≤ maxLen) (hn : nameL (B src) = true) (hv : FldsAt w v l) (hfit : FldsFit l) (h0 : 0 < l.length) (hl : l.length ≤ 8) (hr : rightF l = true) (hL : rightL lv = true) (hfl : flowsL lv c f fc = true)
    (hq : C6 q (.string src) v (.int .i64 lv) (.int .u32 c) (.int .i64 0) (.int .i64 0) w) (hqlt : q < w.heap.size) :
    Calls Tryz.prog 15 #[.agg #[.string nm, .int .i64 f, .int .u32 fc, .int .i64 t, .int .u32 tc, .slice none 0 0, bv], .slice (some ⟨q, 0, none⟩) 1 1, .agg #[.int .i64 0, .int .u32 0], .int .i64 0] w
      fun e w' => e = .returned (.tuple #[.int .i64 (ofL bl 1 : Nat), .bool true]) ∧ Below w.heap.size w w' := by
  have k1 := fun W (h : Below w.heap.size w W) => hatch_good nm f fc t tc bv bl W hsn hnn hf ht (hbv.later h) hbl hbf
  have k2 := flows_any t tc 0 0
  rw [hto] at k2
  obtain ⟨ba, bc, rfl, _, _⟩ := RdAt.shape hbv
  have k3 := fun W (h : Below w.heap.size w W) => counts_good nm f fc t tc ba bl.length bc src l v lv c W hs hn (hv.later h) hfit h0 hl hr hL hfl
  have k4 := fun W (h : Below w.heap.size w W) => of_any bl 1 W _ (hbv.later h) hbl
  obtain ⟨fa, fcap, rfl, hfc, _⟩ := RdAt.shape hv
  have k1 := k1 _ (((Below.refl w.heap.size w).alloc (Nat.le_refl _) (.cells #[.string nm, .int .i64 f, .int .u32 fc, .int .i64 t, .int .u32 tc, .slice none 0 0, .slice ba bl.length bc] 35)).alloc (by simp) (.cells #[.int .i64 0, .int .u32 0] 26))
  generalize l.length = nl at *
  generalize ofL bl 1 = R at *
  generalize bl.length = nb at *
  have K3 := Lib.hid k3
  have K4 := Lib.hid k4
  clear hsn hnn hf ht hbv hbl hbf hto hs hn hv hfit h0 hl hr hL hfl hfc k3 k4
  go_enter Tryz.func15, Tryz.ntmps15
  go_wp2_with fail
  refine k1.mono ?_
  rintro e w1 ⟨rfl, hb1⟩
  obtain ⟨X, ⟨y0, y1⟩, hlt1, hB1⟩ := box72 hb1
  have X1 := Lib.hid X
  obtain ⟨x0, x1, x2, x3, x4, x5, x6⟩ := X
  clear hb1 k1
  go_wp2_with fail
  refine (k2 _).mono ?_
  rintro e w2 ⟨rfl, hb2⟩
  have X := X1.out.later hb2 (by omega)
  have X2 := Lib.hid X
  have hB2 := hB1.trans (hb2.mono hB1.size)
  have hlt2 := Nat.lt_of_lt_of_le hlt1 hb2.size
  clear x0 x1 x2 x3 x4 x5 x6 y0 y1 X1 k2 hb2 hB1 hlt1 X
  have HQ := Lib.hid hq
  clear hq
  go_wp2
  go_loopw [10, 25] (fun n i wr => ∃ k : Nat, k ≤ 1 ∧ n = .int .i64 k ∧ i = .int .i64 k ∧ Hid (C7 w.heap.size (.string nm) (.int .i64 f) (.int .u32 fc) (.int .i64 t) (.int .u32 tc) (.slice none 0 0) (.slice ba nb bc) wr) ∧ w.heap.size + 1 < wr.heap.size ∧ Below w.heap.size w wr) (fun _ i _ => 1 - (intOf i).toNat)
  case atStart => exact ⟨0, Nat.zero_le _, rfl, rfl, X2, hlt2, hB2⟩
  case round =>
    obtain ⟨k, hk, rfl, rfl, XR, hltr, hbr⟩ := hrel
    rcases Nat.lt_or_ge k 1 with hk1 | hk1
    · obtain rfl : k = 0 := by omega
      have Q := HQ.out.later hbr hqlt
      have X := XR.out
      obtain ⟨q0, q1, q2, q3, q4, q5⟩ := Q
      go_upto_region 7 with fail
      have hba : Below wr.heap.size wr (wr.alloc (.cells #[.string src, .slice fa nl fcap, .int .i64 lv, .int .u32 c, .int .i64 0, .int .i64 0] 53)) := alloc_below _ _
      have X' := X.later hba (by omega)
      have hc : ∀ (i : Nat), (wr.alloc (.cells #[.string src, .slice fa nl fcap, .int .i64 lv, .int .u32 c, .int .i64 0, .int .i64 0] 53)).cell? ⟨wr.heap.size, i, none⟩ = _ := fun i => World.cell?_alloc_at _ _ _ _ rfl
      have a0 := hc 0
      have a1 := hc 1
      have a2 := hc 2
      have a3 := hc 3
      have a4 := hc 4
      have a5 := hc 5
      have hbn := hbr.trans (hba.mono hbr.size)
      have hsz := hba.size
      clear q0 q1 q2 q3 q4 q5 hc hbr
      generalize wr.alloc (.cells #[.string src, .slice fa nl fcap, .int .i64 lv, .int .u32 c, .int .i64 0, .int .i64 0] 53) = wa at *
      change wa.cell? _ = some (.string src) at a0
      change wa.cell? _ = some (.slice fa nl fcap) at a1
      change wa.cell? _ = some (.int .i64 lv) at a2
      change wa.cell? _ = some (.int .u32 c) at a3
      change wa.cell? _ = some (.int .i64 0) at a4
      change wa.cell? _ = some (.int .i64 0) at a5
      have XA := Lib.hid X'
      obtain ⟨x0, x1, x2, x3, x4, x5, x6⟩ := X'
      have k3 := K3.out wa hbn
      go_wp2_with fail
      refine k3.mono ?_
      rintro e w3 ⟨rfl, hb3⟩
      have XN := Lib.hid (XA.out.later hb3 (by omega))
      have hbm := hbn.trans (hb3.mono hbn.size)
      have hlt3 : w.heap.size + 1 < w3.heap.size := by have := hb3.size; omega
      clear x0 x1 x2 x3 x4 x5 x6 a0 a1 a2 a3 a4 a5 k3 XA
      go_wp2
      go_roundw
      case rel => exact ⟨0 + 1, by omega, by go_num, by go_num, XN, hlt3, hbm⟩
      case measure => (simp [intOf]; try omega)
    · obtain rfl : k = 1 := by omega
      have X := XR.out
      have k4 := K4.out wr hbr
      obtain ⟨x0, x1, x2, x3, x4, x5, x6⟩ := X
      go_wp2_with fail
      refine k4.mono ?_
      rintro e w3 ⟨rfl, hb3⟩
      go_wp2
      go_ret2
      exact ⟨rfl, hbr.trans (hb3.mono hbr.size)⟩
end Go.Proofs.YtcfococinllcmaaGreat
namespace Go.Proofs.YtcfococinllcmaaGreat
open Go.RowKit
theorem ints_two (w : World) (x y : Int) (t : TypeId) : IntsAt (w.alloc (.cells #[I x, I y] t)) (.slice (some ⟨w.heap.size, 0, none⟩) 2 2) [x, y] := by
  have hc : ∀ (i : Nat), (w.alloc (.cells #[I x, I y] t)).cell? ⟨w.heap.size, i, none⟩ = _ := fun i => World.cell?_alloc_at _ _ _ _ rfl
  refine RdAt.mk rfl (Nat.le_refl _) (by rw [World.size_alloc]; omega) (fun j z hj => ?_)
  rw [Nat.zero_add]
  match j, hj with
  | 0, hj => exact (hc 0).trans hj
  | 1, hj => exact (hc 1).trans hj
  | j + 2, hj => simp at hj
theorem flds_one (w : World) (x y : ByteArray) (t : TypeId) : FldsAt (w.alloc (.cells #[.string x, .string y] t)) (.slice (some ⟨w.heap.size, 0, none⟩) 1 1) [(x, y)] := by
  have hc : ∀ (i : Nat), (w.alloc (.cells #[.string x, .string y] t)).cell? ⟨w.heap.size, i, none⟩ = _ := fun i => World.cell?_alloc_at _ _ _ _ rfl
  refine RdAt.mk rfl (Nat.le_refl _) (by rw [World.size_alloc]; omega) (fun j z hj => ?_)
  rw [Nat.zero_add]
  match j, hj with
  | 0, hj => exact (hc 0).trans hj
  | 1, hj => exact (hc 1).trans hj
  | j + 2, hj => simp [fldCells] at hj
abbrev exB : List Int := [1, 10]
theorem exRange : rangeV exB 1 = .tuple #[.int .i64 1, .int .i64 9, .bool true] := by
  rw [show (1 : Int) = ((1 : Nat) : Int) from rfl, rangeV_good (by decide) (by decide)]; rfl
theorem exOf0 : ofL exB 0 = 0 := by decide
theorem exOf1 : ofL exB 1 = 1 := by decide
theorem exOf9 : ofL exB 9 = 1 := by decide
theorem exOf10 : ofL exB 10 = 2 := by decide
theorem exFine : fineL exB = true := by decide
set_option maxHeartbeats 1600000 in
set_option maxRecDepth 100000 in
theorem lives_any (w : World) : Calls Tryz.prog 10 #[] w fun e w' => e = .returned (.bool true) ∧ Below w.heap.size w w' := by
  have k1 := range_any exB 1 _ _ (ints_two w 1 10 3) (by decide)
  rw [exRange] at k1
  have hb0 := alloc_below w (.cells #[I 1, I 10] 3)
  have hi0 := ints_two w 1 10 3
  go_enter Tryz.func10, Tryz.ntmps10
  go_wp2_with fail
  refine k1.mono ?_
  rintro e w1 ⟨rfl, hb1⟩
  have hi1 := hi0.later hb1
  have hB1 : Below w.heap.size w w1 := hb0.trans (hb1.mono hb0.size)
  clear k1 hb0 hi0 hb1
  have HI1 := Lib.hid hi1
  clear hi1
  have k2 : ∀ W2 W3 W4, W2 = w1.alloc (.cells #[.string ⟨#[109, 97, 110, 121]⟩, .int .i64 5, .int .u32 0, .int .i64 0, .int .u32 0, .slice none 0 0, .slice (some ⟨w.heap.size, 0, none⟩) 2 2] 35) →
      W3 = W2.alloc (.cells #[.string ⟨#[97]⟩, .string ⟨#[]⟩] 103) →
      W4 = W3.alloc (.cells #[.string ⟨#[112, 114, 111, 109]⟩, .slice (some ⟨w1.heap.size + 1, 0, none⟩) 1 1, .int .i64 4, .int .u32 0, .int .i64 0, .int .i64 0] 53) →
      Calls Tryz.prog 15 #[.agg #[.string ⟨#[109, 97, 110, 121]⟩, .int .i64 5, .int .u32 0, .int .i64 0, .int .u32 0, .slice none 0 0, .slice (some ⟨w.heap.size, 0, none⟩) 2 2], .slice (some ⟨w1.heap.size + 1 + 1, 0, none⟩) 1 1, .agg #[.int .i64 0, .int .u32 0], .int .i64 0] W4
        fun e w' => e = .returned (.tuple #[.int .i64 1, .bool true]) ∧ Below w.heap.size w w' ∧ IntsAt w' (.slice (some ⟨w.heap.size, 0, none⟩) 2 2) exB := by
    intro W2 W3 W4 h2 h3 h4
    have b2 : Below w1.heap.size w1 W2 := by rw [h2]; exact alloc_below _ _
    have b3 : Below W2.heap.size W2 W3 := by rw [h3]; exact alloc_below _ _
    have b4 : Below W3.heap.size W3 W4 := by rw [h4]; exact alloc_below _ _
    have s2 : W2.heap.size = w1.heap.size + 1 := by rw [h2, World.size_alloc]
    have s3 : W3.heap.size = w1.heap.size + 1 + 1 := by rw [h3, World.size_alloc, s2]
    have hfl : FldsAt W3 (.slice (some ⟨w1.heap.size + 1, 0, none⟩) 1 1) [(⟨#[97]⟩, ⟨#[]⟩)] := by
      have := flds_one W2 ⟨#[97]⟩ ⟨#[]⟩ 103
      rw [s2, ← h3] at this
      exact this
    have hi4 := ((HI1.out.later b2).later b3).later b4
    have bw4 : Below w.heap.size w W4 := ((hB1.trans (b2.mono hB1.size)).trans (b3.mono (by have := hB1.size; omega))).trans (b4.mono (by have := hB1.size; omega))
    have hc : ∀ (i : Nat), W4.cell? ⟨w1.heap.size + 1 + 1, i, none⟩ = (#[.string ⟨#[112, 114, 111, 109]⟩, .slice (some ⟨w1.heap.size + 1, 0, none⟩) 1 1, .int .i64 4, .int .u32 0, .int .i64 0, .int .i64 0] : Array Value)[i]? := fun i => by rw [h4]; exact World.cell?_alloc_at _ _ _ _ s3.symm
    have h := tell_one ⟨#[109, 97, 110, 121]⟩ 5 0 0 0 (.slice (some ⟨w.heap.size, 0, none⟩) 2 2) exB (w1.heap.size + 1 + 1) ⟨#[112, 114, 111, 109]⟩ [(⟨#[97]⟩, ⟨#[]⟩)] (.slice (some ⟨w1.heap.size + 1, 0, none⟩) 1 1) 4 0 W4
      (by decide) (by decide +kernel) (by decide) (by decide) hi4 (by decide) exFine (by decide +kernel) (by decide) (by decide +kernel) (hfl.later b4) (fun f hf => by rw [List.mem_singleton] at hf; subst hf; decide) (by decide) (by decide) (by decide +kernel) (by decide) (by decide +kernel)
      ⟨hc 0, hc 1, hc 2, hc 3, hc 4, hc 5⟩ (by rw [h4, World.size_alloc]; omega)
    rw [exOf1] at h
    refine h.mono ?_
    rintro e w' ⟨rfl, hb⟩
    exact ⟨rfl, bw4.trans (hb.mono bw4.size), hi4.later hb⟩
  have k2 := k2 _ _ _ rfl rfl rfl
  clear hB1 HI1
  go_wp2_with fail
  refine k2.mono ?_
  rintro e w2 ⟨rfl, hb2, hi2⟩
  clear k2
  have k3 := of_any exB 0 w2 _ hi2 (by decide)
  rw [exOf0] at k3
  have HI2 := Lib.hid hi2
  clear hi2
  go_wp2_with fail
  refine k3.mono ?_
  rintro e w3 ⟨rfl, hb3⟩
  have hb3' := hb2.trans (hb3.mono hb2.size)
  have HI3 := Lib.hid (HI2.out.later hb3)
  have k4 := of_any exB 9 w3 _ HI3.out (by decide)
  rw [exOf9] at k4
  clear k3 hb3 hb2 HI2
  go_wp2_with fail
  refine k4.mono ?_
  rintro e w4 ⟨rfl, hb4⟩
  have hb4' := hb3'.trans (hb4.mono hb3'.size)
  have HI4 := Lib.hid (HI3.out.later hb4)
  have k5 := of_any exB 10 w4 _ HI4.out (by decide)
  rw [exOf10] at k5
  clear k4 hb4 hb3' HI3
  go_wp2_with fail
  refine k5.mono ?_
  rintro e w5 ⟨rfl, hb5⟩
  have hb5' := hb4'.trans (hb5.mono hb4'.size)
  clear k5 hb5 hb4' HI4
  go_wp2
  go_ret
  exact ⟨rfl, hb5'⟩
end Go.Proofs.YtcfococinllcmaaGreat

/- lychgateref01.SameInts. -/
namespace Go.Proofs.YtcfococinllcmaaGreat
open Go.RowKit
set_option maxHeartbeats 1600000 in
set_option maxRecDepth 100000 in
theorem same_ints (xs ys : List Int) (w : World) (u v : Value) (hx : IntsAt w u xs) (hy : IntsAt w v ys) (hl : xs.length ≤ 1000) (hl2 : ys.length ≤ 1000) :
    Calls Tryz.prog 18 #[u, v] w fun e w' => e = .returned (.bool (decide (xs = ys))) ∧ Below w.heap.size w w' := by
  obtain ⟨a, c, rfl, hc, hr⟩ := RdAt.shape hx
  obtain ⟨a', c', rfl, hc', hr'⟩ := RdAt.shape hy
  have HR := Lib.hid hr
  have HR' := Lib.hid hr'
  clear hr hr' hx hy
  by_cases hlen : xs.length = ys.length
  · have hlen' : (xs.length : Int) = (ys.length : Int) := by omega
    have hb0 : ((xs.length : Int) != (ys.length : Int)) = false := by simp [hlen]
    have HLEN := Lib.hid hlen
    clear hlen hlen'
    go_enter Tryz.func18, Tryz.ntmps18
    go_wp2
    go_loopw [5] (fun i wr => ∃ k : Nat, k ≤ xs.length ∧ i = .int .i64 k ∧ Hid (xs.take k = ys.take k) ∧ Below w.heap.size w wr) (fun i _ => xs.length - (intOf i).toNat)
    case atStart => exact ⟨0, Nat.zero_le _, rfl, Lib.hid rfl, Below.refl _ _⟩
    case round =>
      obtain ⟨k, hk, rfl, HT, hbr⟩ := hrel
      by_cases hkl : k < xs.length
      · have hkl2 : k < ys.length := by have := HLEN.out; omega
        obtain ⟨x, hxe⟩ : ∃ x, xs[k] = x := ⟨_, rfl⟩
        obtain ⟨y, hye⟩ : ∃ y, ys[k] = y := ⟨_, rfl⟩
        obtain ⟨b0, o0, rfl, hb0', hcell⟩ := HR.out (by omega)
        obtain ⟨b1, o1, rfl, hb1', hcell'⟩ := HR'.out (by omega)
        have hcr : wr.cell? ⟨b0, o0 + k, none⟩ = some (.int .i64 x) := (hbr.cell (p := ⟨b0, o0 + k, none⟩) hb0').trans (hcell k _ (by rw [List.getElem?_map, List.getElem?_eq_getElem hkl, hxe]; rfl))
        have hcr' : wr.cell? ⟨b1, o1 + k, none⟩ = some (.int .i64 y) := (hbr.cell (p := ⟨b1, o1 + k, none⟩) hb1').trans (hcell' k _ (by rw [List.getElem?_map, List.getElem?_eq_getElem hkl2, hye]; rfl))
        clear hcell hcell'
        by_cases hxy : x = y
        · have HN : Hid (xs.take (k + 1) = ys.take (k + 1)) := take_step HT.out hkl hkl2 (by rw [hxe, hye, hxy])
          have hbx : (x != y) = false := by simp [hxy]
          clear hxy hxe hye
          go_wp2_with fail
          go_region
          all_goals go_wp2
          go_roundw
          case rel => exact ⟨k + 1, by omega, by go_num, HN, bl_drewN hbr 1⟩
          case measure => simp [intOf]; omega
        · have hbx : (x != y) = true := by simp [hxy]
          have HN : Hid (xs ≠ ys) := ne_at hkl hkl2 (by rw [hxe, hye]; exact hxy)
          clear hxy hxe hye
          go_wp2_with fail
          go_region
          all_goals go_wp2
          go_ret
          exact ⟨by rw [decide_eq_false HN.out]; rfl, bl_drewN hbr 1⟩
      · obtain rfl : k = xs.length := by omega
        have HN : Hid (xs = ys) := take_done HLEN.out HT.out
        clear HT
        go_wp2
        go_ret
        exact ⟨by rw [decide_eq_true HN.out]; rfl, hbr⟩
  · have hlen' : ¬ (xs.length : Int) = (ys.length : Int) := by omega
    go_enter Tryz.func18, Tryz.ntmps18
    go_wp2
    go_ret
    exact ⟨by rw [decide_eq_false (fun h => hlen (by rw [h]))]; rfl, Below.refl _ _⟩
end Go.Proofs.YtcfococinllcmaaGreat

/- BucketTells: the walk. -/
namespace Go.Proofs.YtcfococinllcmaaGreat
open Go.RowKit
namespace lawTells
set_option maxHeartbeats 32000000 in
set_option maxRecDepth 100000 in
theorem walk (hv : Value) (hs : List (Ha × Value × Value)) (av : Value) (l : List (Al × Value)) (tv : Value) (t : Int × Nat) (w : World) (hh : HarAt w hv hs ∧ hs.length ≤ maxLen) (hl : AlsAt w av l ∧ l.length ≤ maxLen) (ht : ArgLab tv t) :
    Calls Tryz.prog 3 #[hv, av, tv] w fun e w' => e = .returned (.bool true) ∧ Below w.heap.size w w' := by
  obtain ⟨rfl, htc⟩ := ht
  obtain ⟨tl, tc⟩ := t
  dsimp only at htc ⊢
  obtain ⟨hh1, hh2⟩ := hh
  have KF := Lib.hid (fun W (hW : Below w.heap.size w W) => few_any l av W (hl.1.later hW) hl.2)
  have HE := Lib.hid hh1.each
  obtain ⟨ha, hc, rfl, hhc, hhr⟩ := RdAt.shape hh1.row
  have HHR := Lib.hid hhr
  have hshl : ∃ x n c, av = .slice x n c := by obtain ⟨x, c, e, _⟩ := RdAt.shape hl.1.row; exact ⟨x, _, c, e⟩
  obtain ⟨la, ln, lc, rfl⟩ := hshl
  have hn63 : hs.length ≤ 9223372036854775807 := by unfold maxLen at hh2; omega
  clear hh1 hh2 hl hhr
  have hb0 := alloc_below w (.cells #[.int .i64 tl, .int .u32 tc] 26)
  have hz0 := World.size_alloc w (.cells #[.int .i64 tl, .int .u32 tc] 26)
  have hrf := Below.refl (w.alloc (.cells #[.int .i64 tl, .int .u32 tc] 26)).heap.size (w.alloc (.cells #[.int .i64 tl, .int .u32 tc] 26))
  have t0 := box_later hrf (i := 0) rfl
  have t1 := box_later hrf (i := 1) rfl
  obtain ⟨W0, hW0⟩ : ∃ z, w.alloc (.cells #[.int .i64 tl, .int .u32 tc] 26) = z := ⟨_, rfl⟩
  rw [hW0] at hb0 hz0 t0 t1
  have HT0 : Hid (W0.cell? ⟨w.heap.size, 0, none⟩ = some (.int .i64 tl) ∧ W0.cell? ⟨w.heap.size, 1, none⟩ = some (.int .u32 tc)) := Lib.hid ⟨t0, t1⟩
  have HB0 := Lib.hid hb0
  have hlt0 : w.heap.size < W0.heap.size := by omega
  have kl := lives_any W0
  clear hrf t0 t1 hb0 hz0
  unfold Lab
  go_enter Tryz.func3, Tryz.ntmps3
  go_upto_region 1 with fail
  try rw [hW0]
  clear hW0
  go_wp2_with fail
  refine kl.mono ?_
  rintro e w1 ⟨rfl, hb⟩
  have HT1 : Hid (w1.cell? ⟨w.heap.size, 0, none⟩ = some (.int .i64 tl) ∧ w1.cell? ⟨w.heap.size, 1, none⟩ = some (.int .u32 tc)) := Lib.hid ⟨keep_cell HT0.out.1 hb hlt0, keep_cell HT0.out.2 hb hlt0⟩
  have HB1 := Lib.hid (HB0.out.trans (hb.mono HB0.out.size))
  have hlt1 : w.heap.size < w1.heap.size := by have := hb.size; omega
  clear kl hb HT0 HB0 hlt0
  have kf := KF.out w1 HB1.out
  go_wp2_with fail
  refine kf.mono ?_
  rintro e w3 ⟨vo, vd, l1, rfl, hb, ho, hd, hmap⟩
  have HT3 : Hid (w3.cell? ⟨w.heap.size, 0, none⟩ = some (.int .i64 tl) ∧ w3.cell? ⟨w.heap.size, 1, none⟩ = some (.int .u32 tc)) := Lib.hid ⟨keep_cell HT1.out.1 hb hlt1, keep_cell HT1.out.2 hb hlt1⟩
  have HB3 := Lib.hid (HB1.out.trans (hb.mono HB1.out.size))
  have hlt3 : w.heap.size < w3.heap.size := by have := hb.size; omega
  have hl12 : l1.length ≤ 12 := by
    have := congrArg List.length hmap
    rw [List.length_map, List.length_map, List.length_take] at this
    omega
  have HO := Lib.hid ho
  have HD := Lib.hid hd
  obtain ⟨oa, oc, rfl, -, -⟩ := RdAt.shape ho.row
  obtain ⟨da, dc, rfl, -, -⟩ := RdAt.shape hd.row
  clear kf KF hb ho hd hmap HT1 HB1 hlt1
  obtain ⟨i0, hi, hz0, hz1, hz2⟩ := info_parts info_hat
  obtain ⟨j0, hj, jz0, jz1, jz2⟩ := info_parts info_intT
  have HI := Lib.hid (And.intro hi (And.intro hz0 (And.intro hz1 hz2)))
  have HJ := Lib.hid (And.intro hj (And.intro jz0 (And.intro jz1 jz2)))
  clear hi hz0 hz1 hz2 hj jz0 jz1 jz2
  have H00 : Hid (BtAt w3 w3 l1 tl tc (.slice none 0 0) (.slice none 0 0) 0 []) := Lib.hid ⟨Below.refl _ _, rfl, World.ownsRow_nil _ _ _ _, World.ownsRow_nil _ _ _ _, fun p hp => (by cases hp)⟩
  go_upto_region 7 with fail
  go_loopw [9, 10, 11] (fun vh vw vi wr => ∃ (k : Nat) (rs : List (Ha × Value × Value)), k ≤ hs.length ∧ k ≤ 6 ∧ vi = .int .i64 k ∧ Hid (BtAt w3 wr l1 tl tc vh vw k rs)) (fun _ _ vi _ => hs.length - (intOf vi).toNat)
  case atStart => exact ⟨0, [], Nat.zero_le _, Nat.zero_le _, rfl, H00⟩
  case round =>
    obtain ⟨k, rs, hk, hk6, rfl, HR⟩ := hrel
    clear H00
    have hbr := HR.out.b
    have HBR := Lib.hid (HB3.out.trans (hbr.mono HB3.out.size))
    have HTR : Hid (∀ W', Below wr.heap.size wr W' → W'.cell? ⟨w.heap.size, 0, none⟩ = some (.int .i64 tl) ∧ W'.cell? ⟨w.heap.size, 1, none⟩ = some (.int .u32 tc)) := Lib.hid (fun W' h => by
      have h' := hbr.trans (h.mono hbr.size)
      exact ⟨keep_cell HT3.out.1 h' hlt3, keep_cell HT3.out.2 h' hlt3⟩)
    have HOR := Lib.hid (fun W (h : Below wr.heap.size wr W) => HO.out.later (hbr.trans (h.mono hbr.size)))
    have HDR := Lib.hid (fun W (h : Below wr.heap.size wr W) => HD.out.later (hbr.trans (h.mono hbr.size)))
    have hszr := hbr.size
    clear hbr
    by_cases hkl : k < hs.length ∧ k < 6
    case neg =>
      have HHS := Lib.hid HR.out.hats
      have HIN := Lib.hid HR.out.ints
      have hkr : rs.length ≤ 6 := by rw [HR.out.len]; exact hk6
      obtain ⟨xa, xc, rfl, -, -⟩ := RdAt.shape HHS.out.row
      obtain ⟨ya, yc, rfl, -, -⟩ := RdAt.shape HIN.out
      have ka := ball_any rs (.slice xa rs.length xc) l1 (.slice oa l1.length oc) tl tc 20 wr HHS.out (HOR.out wr (Below.refl _ _)) (by omega) (by omega)
      obtain ⟨t0, t1⟩ := HTR.out wr (Below.refl _ _)
      generalize hWS : (rs.map fun p => wantN p.1 l1 tl tc 20) = ws at *
      have hwl : ws.length ≤ 1000 := by rw [← hWS, List.length_map]; omega
      clear hWS
      have hkc : (k : Int) < (hs.length : Int) ∧ (k : Int) < 6 → False := by omega
      by_cases hk1 : k < hs.length
      · have hk6' : ¬ (k : Int) < 6 := by omega
        clear hkl hkc
        go_wp2_with fail
        refine ka.mono ?_
        rintro e wa ⟨va, rfl, hia, hb⟩
        have ks := same_ints ws ws wa va _ hia (HIN.out.later hb) hwl hwl
        rw [decide_eq_true rfl] at ks
        have HBA := Lib.hid (HBR.out.trans (hb.mono HBR.out.size))
        clear ka hb hia t0 t1
        go_wp2_with fail
        refine ks.mono ?_
        rintro e wb ⟨rfl, hb⟩
        have HBB := Lib.hid (HBA.out.trans (hb.mono HBA.out.size))
        clear ks hb
        go_wp2
        go_ret
        exact ⟨rfl, HBB.out⟩
      · have hk1' : ¬ (k : Int) < (hs.length : Int) := by omega
        clear hkl hkc hk1
        go_wp2_with fail
        refine ka.mono ?_
        rintro e wa ⟨va, rfl, hia, hb⟩
        have ks := same_ints ws ws wa va _ hia (HIN.out.later hb) hwl hwl
        rw [decide_eq_true rfl] at ks
        have HBA := Lib.hid (HBR.out.trans (hb.mono HBR.out.size))
        clear ka hb hia t0 t1
        go_wp2_with fail
        refine ks.mono ?_
        rintro e wb ⟨rfl, hb⟩
        have HBB := Lib.hid (HBA.out.trans (hb.mono HBA.out.size))
        clear ks hb
        go_wp2
        go_ret
        exact ⟨rfl, HBB.out⟩
    obtain ⟨hkl, hk6'⟩ := hkl
    obtain ⟨b, o, rfl, hbl, hcell⟩ := HHR.out (by omega)
    have hat := haCells_at hs k hkl
    have q0 := keep_cell (hcell _ _ (hat 0 _ rfl)) HBR.out hbl
    have q1 := keep_cell (hcell _ _ (hat 1 _ rfl)) HBR.out hbl
    have q2 := keep_cell (hcell _ _ (hat 2 _ rfl)) HBR.out hbl
    have q3 := keep_cell (hcell _ _ (hat 3 _ rfl)) HBR.out hbl
    have q4 := keep_cell (hcell _ _ (hat 4 _ rfl)) HBR.out hbl
    have q5 := keep_cell (hcell _ _ (hat 5 _ rfl)) HBR.out hbl
    have q6 := keep_cell (hcell _ _ (hat 6 _ rfl)) HBR.out hbl
    rw [Nat.add_zero] at q0
    rw [← Nat.add_assoc] at q1 q2 q3 q4 q5 q6
    obtain ⟨e0, e1, e2, e3, e4, e5, e6⟩ := HE.out hs[k] (List.getElem_mem hkl)
    have hk0 : (0 : Int) ≤ (k : Int) := by omega
    have hk1 : (k : Int) < (hs.length : Int) := by omega
    have hk6i : (k : Int) < 6 := by omega
    clear hcell hat hbl HHR HE
    generalize hs[k] = hk' at *
    obtain ⟨h, wv, bv⟩ := hk'
    dsimp only at *
    obtain ⟨va, vn, vc, hs1⟩ : ∃ a n c, wv = Value.slice a n c := by obtain ⟨a, c, h, _⟩ := RdAt.shape e0.ms; exact ⟨a, _, c, h⟩
    obtain ⟨va', vn', vc', hs2⟩ : ∃ a n c, bv = Value.slice a n c := by obtain ⟨a, c, h, _⟩ := RdAt.shape e0.bl; exact ⟨a, _, c, h⟩
    subst hs1 hs2
    have kb := hback_own h (.slice va vn vc) (.slice va' vn' vc') w wr e0 e2 e3
    have hfit := cutT_fit e1 e4
    have HFIT := Lib.hid hfit
    clear e0 e1 e2 e3 e4 hfit
    go_wp2_with fail
    refine kb.mono ?_
    rintro e w4 ⟨wv', bv', rfl, hat2, hb⟩
    obtain ⟨ma, mc, rfl, -, -⟩ := RdAt.shape hat2.ms
    obtain ⟨ba, bc, rfl, -, -⟩ := RdAt.shape hat2.bl
    have HAT := Lib.hid (hat2.later HB3.out)
    have hba := alloc_below w4 (.cells #[.string h.nm, .int .i64 h.f, .int .u32 h.fc, .int .i64 h.t, .int .u32 h.tc, .slice ma (cutH h).ms.length mc, .slice ba (cutH h).bl.length bc] 35)
    have x := al7r w4 (.string h.nm) (.int .i64 h.f) (.int .u32 h.fc) (.int .i64 h.t) (.int .u32 h.tc) (.slice ma (cutH h).ms.length mc) (.slice ba (cutH h).bl.length bc) 35
    have hz4 := World.size_alloc w4 (.cells #[.string h.nm, .int .i64 h.f, .int .u32 h.fc, .int .i64 h.t, .int .u32 h.tc, .slice ma (cutH h).ms.length mc, .slice ba (cutH h).bl.length bc] 35)
    have hbz := hb.trans (hba.mono hb.size)
    clear kb q0 q1 q2 q3 q4 q5 q6 hat2
    go_upto_region 10 with fail
    change Code.wp _ _ _ _ (w4.alloc (.cells #[.string h.nm, .int .i64 h.f, .int .u32 h.fc, .int .i64 h.t, .int .u32 h.tc, .slice ma (cutH h).ms.length mc, .slice ba (cutH h).bl.length bc] 35))
    generalize w4.alloc (.cells #[.string h.nm, .int .i64 h.f, .int .u32 h.fc, .int .i64 h.t, .int .u32 h.tc, .slice ma (cutH h).ms.length mc, .slice ba (cutH h).bl.length bc] 35) = V at *
    have HV := Lib.hid hbz
    generalize w4.heap.size = bx at *
    have hbx : bx < V.heap.size := by omega
    have HX := Lib.hid x
    clear hb hba hz4 hbz x
    have HA : Hid (∀ W, Below V.heap.size V W → HaAt W (cutH h) (.slice ma (cutH h).ms.length mc) (.slice ba (cutH h).bl.length bc)) := Lib.hid (fun W hW => (HAT.out.later HR.out.b).later (HV.out.trans (hW.mono HV.out.size)))
    have HOV := Lib.hid (fun W (hW : Below V.heap.size V W) => HOR.out W (HV.out.trans (hW.mono HV.out.size)))
    have HDV := Lib.hid (fun W (hW : Below V.heap.size V W) => HDR.out W (HV.out.trans (hW.mono HV.out.size)))
    obtain ⟨wn, wb, htv, htw⟩ := tell_want (cutH h) l1 tl tc 20
    have KD : Hid (∀ W, Calls Tryz.prog 14 #[.agg #[.string h.nm, .int .i64 h.f, .int .u32 h.fc, .int .i64 h.t, .int .u32 h.tc, .slice ma (cutH h).ms.length mc, .slice ba (cutH h).bl.length bc]] W fun e w' => e = .returned (.agg #[.string h.nm, .int .i64 h.f, .int .u32 h.fc, .int .i64 h.t, .int .u32 h.tc, .slice ma (cutH h).ms.length mc, .slice ba (cutH h).bl.length bc]) ∧ Below W.heap.size W w') := Lib.hid (fun W => hdoc_any h.nm h.f h.fc h.t h.tc ma _ mc ba _ bc W)
    have KRT : Hid (∀ W, Below V.heap.size V W → Calls Tryz.prog 13 #[.agg #[.string h.nm, .int .i64 h.f, .int .u32 h.fc, .int .i64 h.t, .int .u32 h.tc, .slice ma (cutH h).ms.length mc, .slice ba (cutH h).bl.length bc], .slice da l1.length dc, .agg #[.int .i64 tl, .int .u32 tc], .int .i64 20] W fun e w' => e = .returned (.tuple #[.int .i64 wn, .bool wb]) ∧ Below W.heap.size W w') := Lib.hid (fun W hW => by
      rw [← htv]
      exact h22tell_any (cutH h) (.slice ma (cutH h).ms.length mc) (.slice ba (cutH h).bl.length bc) l1 (.slice da l1.length dc) tl tc 20 W (HA.out W hW) HFIT.out (HDV.out W hW) (by omega) e5 e6 htc)
    have KOT : Hid (∀ W, Below V.heap.size V W → Calls Tryz.prog 15 #[.agg #[.string h.nm, .int .i64 h.f, .int .u32 h.fc, .int .i64 h.t, .int .u32 h.tc, .slice ma (cutH h).ms.length mc, .slice ba (cutH h).bl.length bc], .slice oa l1.length oc, .agg #[.int .i64 tl, .int .u32 tc], .int .i64 20] W fun e w' => e = .returned (.tuple #[.int .i64 wn, .bool wb]) ∧ Below W.heap.size W w') := Lib.hid (fun W hW => by
      rw [← htv]
      exact tell_any (cutH h) (.slice ma (cutH h).ms.length mc) (.slice ba (cutH h).bl.length bc) l1 (.slice oa l1.length oc) tl tc 20 W (HA.out W hW) HFIT.out (HOV.out W hW) (by omega))
    obtain ⟨RH, hRH⟩ : ∃ RH, rightH (cutH h) = RH := ⟨_, rfl⟩
    have KOR : Hid (∀ W, Below V.heap.size V W → Calls Tryz.prog 16 #[.agg #[.string h.nm, .int .i64 h.f, .int .u32 h.fc, .int .i64 h.t, .int .u32 h.tc, .slice ma (cutH h).ms.length mc, .slice ba (cutH h).bl.length bc]] W fun e w' => e = .returned (.bool RH) ∧ Below W.heap.size W w') := Lib.hid (fun W hW => by
      rw [← hRH]
      exact hright_any (cutH h) (.slice ma (cutH h).ms.length mc) (.slice ba (cutH h).bl.length bc) W (HA.out W hW) HFIT.out)
    have KRR : Hid (∀ W, Below V.heap.size V W → Calls Tryz.prog 17 #[.agg #[.string h.nm, .int .i64 h.f, .int .u32 h.fc, .int .i64 h.t, .int .u32 h.tc, .slice ma (cutH h).ms.length mc, .slice ba (cutH h).bl.length bc]] W fun e w' => e = .returned (.bool RH) ∧ Below W.heap.size W w') := Lib.hid (fun W hW => by
      rw [← hRH]
      exact h22right_any (cutH h) (.slice ma (cutH h).ms.length mc) (.slice ba (cutH h).bl.length bc) W (HA.out W hW) HFIT.out)
    have HWN := Lib.hid htw
    have HHA : Hid (HaAt w3 (cutH h) (.slice ma (cutH h).ms.length mc) (.slice ba (cutH h).bl.length bc) ∧ HaFit (cutH h)) := Lib.hid ⟨HAT.out, HFIT.out⟩
    have HCC : Hid (haC (cutH h, .slice ma (cutH h).ms.length mc, .slice ba (cutH h).bl.length bc) = [.string h.nm, .int .i64 h.f, .int .u32 h.fc, .int .i64 h.t, .int .u32 h.tc, .slice ma (cutH h).ms.length mc, .slice ba (cutH h).bl.length bc]) := Lib.hid rfl
    clear htv htw hRH HA HOV HDV HOR HDR HAT HFIT e5 e6
    generalize (cutH h).ms.length = mn at *
    generalize (cutH h).bl.length = bn at *
    generalize cutH h = ch at *
    obtain ⟨nm, f, fc, ht, htt, hms, hbb⟩ := h
    dsimp only at *
    have SK : Hid (∀ W', Below V.heap.size V W' → C7 bx (.string nm) (.int .i64 f) (.int .u32 fc) (.int .i64 ht) (.int .u32 htt) (.slice ma mn mc) (.slice ba bn bc) W' ∧ W'.cell? ⟨w.heap.size, 0, none⟩ = some (.int .i64 tl) ∧ W'.cell? ⟨w.heap.size, 1, none⟩ = some (.int .u32 tc)) := Lib.hid (fun W' h => ⟨HX.out.later h hbx, HTR.out W' (HV.out.trans (h.mono HV.out.size))⟩)
    refine wp_region_held_drew (S := (fun W' => C7 bx (.string nm) (.int .i64 f) (.int .u32 fc) (.int .i64 ht) (.int .u32 htt) (.slice ma mn mc) (.slice ba bn bc) W' ∧ W'.cell? ⟨w.heap.size, 0, none⟩ = some (.int .i64 tl) ∧ W'.cell? ⟨w.heap.size, 1, none⟩ = some (.int .u32 tc))) (by kernel_rfl) (SK.out _ ((Below.refl V.heap.size V).drew)) (fun hHeld => ?_)
    refine held_take (i := 0) (v := ?_) rfl rfl (by kernel_rfl) (by kernel_rfl) (by kernel_rfl) (fun _ _ _ h => h) (by rfl) hHeld ?_ ?_
    rotate_left
    · rintro wh ⟨⟨x0, x1, x2, x3, x4, x5, x6⟩, t0, t1⟩
      go_simp
      (try with_reducible rfl)
    simp only [Act.put, List.setIfInBounds_toArray, List.set_cons_zero, List.set_cons_succ]
    refine held_take (i := 2) (v := ?_) rfl rfl (by kernel_rfl) (by kernel_rfl) (by kernel_rfl) (fun _ _ _ h => h) (by rfl) hHeld ?_ ?_
    rotate_left
    · rintro wh ⟨⟨x0, x1, x2, x3, x4, x5, x6⟩, t0, t1⟩
      go_simp
      (try with_reducible rfl)
    simp only [Act.put, List.setIfInBounds_toArray, List.set_cons_zero, List.set_cons_succ]
    refine held_take (i := 3) (v := ?_) rfl rfl (by kernel_rfl) (by kernel_rfl) (by kernel_rfl) (fun _ _ _ h => h) (by rfl) hHeld ?_ ?_
    rotate_left
    · rintro wh ⟨⟨x0, x1, x2, x3, x4, x5, x6⟩, t0, t1⟩
      go_simp
      (try with_reducible rfl)
    simp only [Act.put, List.setIfInBounds_toArray, List.set_cons_zero, List.set_cons_succ]
    refine held_step (i := 1) rfl (by kernel_rfl) (fun K hK => ?_)
    go_simp; refine (KD.out _).mono ?_; rintro e u1 ⟨rfl, hb⟩; have hq1 : Below V.heap.size V u1 := ((Below.refl V.heap.size V).drew).trans (hb.mono ((Below.refl V.heap.size V).drew).size); have HB1' := Lib.hid hq1; clear hb hq1
    refine hK.out _ _ (SK.out _ HB1'.out) (fun hHeld => ?_)
    clear hK K
    (try simp only [Act.put, List.setIfInBounds_toArray])
    refine held_step (i := 4) rfl (by kernel_rfl) (fun K hK => ?_)
    go_simp; refine (KRT.out u1 HB1'.out).mono ?_; rintro e u2 ⟨rfl, hb⟩; have hq2 : Below V.heap.size V u2 := HB1'.out.trans (hb.mono HB1'.out.size); have HB2' := Lib.hid hq2; clear hb hq2
    refine hK.out _ _ (SK.out _ HB2'.out) (fun hHeld => ?_)
    clear hK K
    (try simp only [Act.put, List.setIfInBounds_toArray])
    refine held_take (i := 5) (v := ?_) rfl rfl (by kernel_rfl) (by kernel_rfl) (by kernel_rfl) (fun _ _ _ h => h) (by rfl) hHeld ?_ ?_
    rotate_left
    · rintro wh ⟨⟨x0, x1, x2, x3, x4, x5, x6⟩, t0, t1⟩
      go_simp
      (try with_reducible rfl)
    simp only [Act.put, List.setIfInBounds_toArray, List.set_cons_zero, List.set_cons_succ]
    refine held_take (i := 6) (v := ?_) rfl rfl (by kernel_rfl) (by kernel_rfl) (by kernel_rfl) (fun _ _ _ h => h) (by rfl) hHeld ?_ ?_
    rotate_left
    · rintro wh ⟨⟨x0, x1, x2, x3, x4, x5, x6⟩, t0, t1⟩
      go_simp
      (try with_reducible rfl)
    simp only [Act.put, List.setIfInBounds_toArray, List.set_cons_zero, List.set_cons_succ]
    refine held_take (i := 7) (v := ?_) rfl rfl (by kernel_rfl) (by kernel_rfl) (by kernel_rfl) (fun _ _ _ h => h) (by rfl) hHeld ?_ ?_
    rotate_left
    · rintro wh ⟨⟨x0, x1, x2, x3, x4, x5, x6⟩, t0, t1⟩
      go_simp
      (try with_reducible rfl)
    simp only [Act.put, List.setIfInBounds_toArray, List.set_cons_zero, List.set_cons_succ]
    refine held_take (i := 8) (v := ?_) rfl rfl (by kernel_rfl) (by kernel_rfl) (by kernel_rfl) (fun _ _ _ h => h) (by rfl) hHeld ?_ ?_
    rotate_left
    · rintro wh ⟨⟨x0, x1, x2, x3, x4, x5, x6⟩, t0, t1⟩
      go_simp
      (try with_reducible rfl)
    simp only [Act.put, List.setIfInBounds_toArray, List.set_cons_zero, List.set_cons_succ]
    refine held_take (i := 9) (v := ?_) rfl rfl (by kernel_rfl) (by kernel_rfl) (by kernel_rfl) (fun _ _ _ h => h) (by rfl) hHeld ?_ ?_
    rotate_left
    · rintro wh ⟨⟨x0, x1, x2, x3, x4, x5, x6⟩, t0, t1⟩
      go_simp
      (try with_reducible rfl)
    simp only [Act.put, List.setIfInBounds_toArray, List.set_cons_zero, List.set_cons_succ]
    refine wpAnyH_done (by kernel_rfl) ?_ _
    have HU1 := Lib.hid HB2'.out
    clear HB1' HB2' hHeld KRT
    obtain ⟨⟨x0, x1, x2, x3, x4, x5, x6⟩, t0, t1⟩ := SK.out _ HU1.out
    have kt := KOT.out _ HU1.out
    go_wp2_with fail
    refine kt.mono ?_
    rintro e u3 ⟨rfl, hb⟩
    have HU3 := Lib.hid (HU1.out.trans (hb.mono HU1.out.size))
    clear kt KOT hb HU1 x0 x1 x2 x3 x4 x5 x6 t0 t1
    go_upto_region 12 with fail
    refine wp_region_held_drew (S := (fun W' => C7 bx (.string nm) (.int .i64 f) (.int .u32 fc) (.int .i64 ht) (.int .u32 htt) (.slice ma mn mc) (.slice ba bn bc) W' ∧ W'.cell? ⟨w.heap.size, 0, none⟩ = some (.int .i64 tl) ∧ W'.cell? ⟨w.heap.size, 1, none⟩ = some (.int .u32 tc))) (by kernel_rfl) (SK.out _ (HU3.out.trans (((Below.refl u3.heap.size u3).drew).mono HU3.out.size))) (fun hHeld => ?_)
    refine held_take (i := 0) (v := ?_) rfl rfl (by kernel_rfl) (by kernel_rfl) (by kernel_rfl) (fun _ _ _ h => h) (by rfl) hHeld ?_ ?_
    rotate_left
    · rintro wh ⟨⟨x0, x1, x2, x3, x4, x5, x6⟩, t0, t1⟩
      go_simp
      (try with_reducible rfl)
    simp only [Act.put, List.setIfInBounds_toArray, List.set_cons_zero, List.set_cons_succ]
    refine held_take (i := 1) (v := ?_) rfl rfl (by kernel_rfl) (by kernel_rfl) (by kernel_rfl) (fun _ _ _ h => h) (by rfl) hHeld ?_ ?_
    rotate_left
    · rintro wh ⟨⟨x0, x1, x2, x3, x4, x5, x6⟩, t0, t1⟩
      go_simp
      (try with_reducible rfl)
    simp only [Act.put, List.setIfInBounds_toArray, List.set_cons_zero, List.set_cons_succ]
    refine held_take (i := 2) (v := ?_) rfl rfl (by kernel_rfl) (by kernel_rfl) (by kernel_rfl) (fun _ _ _ h => h) (by rfl) hHeld ?_ ?_
    rotate_left
    · rintro wh ⟨⟨x0, x1, x2, x3, x4, x5, x6⟩, t0, t1⟩
      go_simp
      (try with_reducible rfl)
    simp only [Act.put, List.setIfInBounds_toArray, List.set_cons_zero, List.set_cons_succ]
    refine held_take (i := 3) (v := ?_) rfl rfl (by kernel_rfl) (by kernel_rfl) (by kernel_rfl) (fun _ _ _ h => h) (by rfl) hHeld ?_ ?_
    rotate_left
    · rintro wh ⟨⟨x0, x1, x2, x3, x4, x5, x6⟩, t0, t1⟩
      go_simp
      (try with_reducible rfl)
    simp only [Act.put, List.setIfInBounds_toArray, List.set_cons_zero, List.set_cons_succ]
    refine held_take (i := 4) (v := ?_) rfl rfl (by kernel_rfl) (by kernel_rfl) (by kernel_rfl) (fun _ _ _ h => h) (by rfl) hHeld ?_ ?_
    rotate_left
    · rintro wh ⟨⟨x0, x1, x2, x3, x4, x5, x6⟩, t0, t1⟩
      go_simp
      (try with_reducible rfl)
    simp only [Act.put, List.setIfInBounds_toArray, List.set_cons_zero, List.set_cons_succ]
    refine held_take (i := 5) (v := ?_) rfl rfl (by kernel_rfl) (by kernel_rfl) (by kernel_rfl) (fun _ _ _ h => h) (by rfl) hHeld ?_ ?_
    rotate_left
    · rintro wh ⟨⟨x0, x1, x2, x3, x4, x5, x6⟩, t0, t1⟩
      go_simp
      (try with_reducible rfl)
    simp only [Act.put, List.setIfInBounds_toArray, List.set_cons_zero, List.set_cons_succ]
    refine held_take (i := 6) (v := ?_) rfl rfl (by kernel_rfl) (by kernel_rfl) (by kernel_rfl) (fun _ _ _ h => h) (by rfl) hHeld ?_ ?_
    rotate_left
    · rintro wh ⟨⟨x0, x1, x2, x3, x4, x5, x6⟩, t0, t1⟩
      go_simp
      (try with_reducible rfl)
    simp only [Act.put, List.setIfInBounds_toArray, List.set_cons_zero, List.set_cons_succ]
    refine held_take (i := 7) (v := ?_) rfl rfl (by kernel_rfl) (by kernel_rfl) (by kernel_rfl) (fun _ _ _ h => h) (by rfl) hHeld ?_ ?_
    rotate_left
    · rintro wh ⟨⟨x0, x1, x2, x3, x4, x5, x6⟩, t0, t1⟩
      go_simp
      (try with_reducible rfl)
    simp only [Act.put, List.setIfInBounds_toArray, List.set_cons_zero, List.set_cons_succ]
    refine held_take (i := 8) (v := ?_) rfl rfl (by kernel_rfl) (by kernel_rfl) (by kernel_rfl) (fun _ _ _ h => h) (by rfl) hHeld ?_ ?_
    rotate_left
    · rintro wh ⟨⟨x0, x1, x2, x3, x4, x5, x6⟩, t0, t1⟩
      go_simp
      (try with_reducible rfl)
    simp only [Act.put, List.setIfInBounds_toArray, List.set_cons_zero, List.set_cons_succ]
    refine held_take (i := 9) (v := ?_) rfl rfl (by kernel_rfl) (by kernel_rfl) (by kernel_rfl) (fun _ _ _ h => h) (by rfl) hHeld ?_ ?_
    rotate_left
    · rintro wh ⟨⟨x0, x1, x2, x3, x4, x5, x6⟩, t0, t1⟩
      go_simp
      (try with_reducible rfl)
    simp only [Act.put, List.setIfInBounds_toArray, List.set_cons_zero, List.set_cons_succ]
    refine held_take (i := 11) (v := ?_) rfl rfl (by kernel_rfl) (by kernel_rfl) (by kernel_rfl) (fun _ _ _ h => h) (by rfl) hHeld ?_ ?_
    rotate_left
    · rintro wh ⟨⟨x0, x1, x2, x3, x4, x5, x6⟩, t0, t1⟩
      go_simp
      (try with_reducible rfl)
    simp only [Act.put, List.setIfInBounds_toArray, List.set_cons_zero, List.set_cons_succ]
    refine held_step (i := 10) rfl (by kernel_rfl) (fun K hK => ?_)
    go_simp; refine (KOR.out _ (HU3.out.trans (((Below.refl u3.heap.size u3).drew).mono HU3.out.size))).mono ?_; rintro e u4 ⟨rfl, hb⟩; have hq1 : Below u3.heap.size u3 u4 := ((Below.refl u3.heap.size u3).drew).trans (hb.mono ((Below.refl u3.heap.size u3).drew).size); have HB1' := Lib.hid hq1; clear hb hq1
    refine hK.out _ _ (SK.out _ (HU3.out.trans (HB1'.out.mono HU3.out.size))) (fun hHeld => ?_)
    clear hK K
    (try simp only [Act.put, List.setIfInBounds_toArray])
    refine held_step (i := 12) rfl (by kernel_rfl) (fun K hK => ?_)
    go_simp; refine (KD.out u4).mono ?_; rintro e u5 ⟨rfl, hb⟩; have hq2 : Below u3.heap.size u3 u5 := HB1'.out.trans (hb.mono HB1'.out.size); have HB2' := Lib.hid hq2; clear hb hq2
    refine hK.out _ _ (SK.out _ (HU3.out.trans (HB2'.out.mono HU3.out.size))) (fun hHeld => ?_)
    clear hK K
    (try simp only [Act.put, List.setIfInBounds_toArray])
    refine held_step (i := 13) rfl (by kernel_rfl) (fun K hK => ?_)
    go_simp; refine (KRR.out u5 (HU3.out.trans (HB2'.out.mono HU3.out.size))).mono ?_; rintro e u6 ⟨rfl, hb⟩; have hq3 : Below u3.heap.size u3 u6 := HB2'.out.trans (hb.mono HB2'.out.size); have HB3' := Lib.hid hq3; clear hb hq3
    refine hK.out _ _ (SK.out _ (HU3.out.trans (HB3'.out.mono HU3.out.size))) (fun hHeld => ?_)
    clear hK K
    (try simp only [Act.put, List.setIfInBounds_toArray])
    refine held_take (i := 14) (v := ?_) rfl rfl (by kernel_rfl) (by kernel_rfl) (by kernel_rfl) (fun _ _ _ h => h) (by rfl) hHeld ?_ ?_
    rotate_left
    · rintro wh ⟨⟨x0, x1, x2, x3, x4, x5, x6⟩, t0, t1⟩
      go_simp
      (try with_reducible rfl)
    simp only [Act.put, List.setIfInBounds_toArray, List.set_cons_zero, List.set_cons_succ]
    refine held_take (i := 15) (v := ?_) rfl rfl (by kernel_rfl) (by kernel_rfl) (by kernel_rfl) (fun _ _ _ h => h) (by rfl) hHeld ?_ ?_
    rotate_left
    · rintro wh ⟨⟨x0, x1, x2, x3, x4, x5, x6⟩, t0, t1⟩
      go_simp
      (try with_reducible rfl)
    simp only [Act.put, List.setIfInBounds_toArray, List.set_cons_zero, List.set_cons_succ]
    refine wpAnyH_done (by kernel_rfl) ?_ _
    have HUZ := Lib.hid (HU3.out.trans (HB3'.out.mono HU3.out.size))
    clear HB1' HB2' HB3' HU3 hHeld KD KOR KRR
    go_upto_if 71 with fail
    have hNW : Hid (wantN ch l1 tl tc 20 = if wb = true then wn else -1) := HWN
    go_cut [13] from 24 to 79 (fun s13 wx => s13 = .int .i64 (wantN ch l1 tl tc 20) ∧ wx = u6)
    case first =>
      cases wb with
      | true =>
        go_wp2
        go_meet
        exact ⟨by rw [hNW.out]; rfl, rfl⟩
      | false =>
        go_wp2
        go_meet
        exact ⟨by rw [hNW.out]; rfl, rfl⟩
    case rest =>
    obtain ⟨rfl, rfl⟩ := hcut
    clear HWN hNW
    obtain ⟨⟨x0, x1, x2, x3, x4, x5, x6⟩, -, -⟩ := SK.out _ HUZ.out
    have HRZ := Lib.hid (HR.out.later (HV.out.trans (HUZ.out.mono HV.out.size)))
    clear SK HR HTR HV HUZ HX hbx
    obtain ⟨wi, hwi⟩ : ∃ wi, wantN ch l1 tl tc 20 = wi := ⟨_, rfl⟩
    have HWI := Lib.hid hwi
    rw [hwi]
    clear hwi
    obtain ⟨hi, hz0, hz1, hz2⟩ := HI.out
    obtain ⟨hj, jz0, jz1, jz2⟩ := HJ.out
    have hsz := HRZ.out.b.size
    have h7s : ∀ y ∈ [Value.string nm, .int .i64 f, .int .u32 fc, .int .i64 ht, .int .u32 htt, .slice ma mn mc, .slice ba bn bc], y.oneCell' = true := by
      intro y hy
      simp only [List.mem_cons, List.mem_nil_iff, or_false] at hy
      rcases hy with rfl | rfl | rfl | rfl | rfl | rfl | rfl <;> rfl
    have h1s : ∀ y ∈ [Value.int .i64 wi], y.oneCell' = true := by
      intro y hy
      simp only [List.mem_cons, List.mem_nil_iff, or_false] at hy
      subst hy; rfl
    have hs1 := World.size_alloc wc (.cells #[.string nm, .int .i64 f, .int .u32 fc, .int .i64 ht, .int .u32 htt, .slice ma mn mc, .slice ba bn bc] 35)
    have ho1 := Lib.hid (HRZ.out.h.alloc (.cells #[.string nm, .int .i64 f, .int .u32 fc, .int .i64 ht, .int .u32 htt, .slice ma mn mc, .slice ba bn bc] 35))
    have hn1 := Lib.hid (HRZ.out.n.alloc (.cells #[.string nm, .int .i64 f, .int .u32 fc, .int .i64 ht, .int .u32 htt, .slice ma mn mc, .slice ba bn bc] 35))
    have hr1 := Lib.hid (row7 wc (.string nm) (.int .i64 f) (.int .u32 fc) (.int .i64 ht) (.int .u32 htt) (.slice ma mn mc) (.slice ba bn bc) 35)
    have hb1 := Lib.hid (HRZ.out.b.alloc hsz (.cells #[.string nm, .int .i64 f, .int .u32 fc, .int .i64 ht, .int .u32 htt, .slice ma mn mc, .slice ba bn bc] 35))
    have hk7 : k + 1 ≤ maxLen ∧ (k + 1) * 96 ≤ 140737488355328 ∧ (k + 1) * 8 ≤ 140737488355328 := by unfold maxLen; omega
    have hsw : w3.heap.size ≤ (wc.alloc (.cells #[.string nm, .int .i64 f, .int .u32 fc, .int .i64 ht, .int .u32 htt, .slice ma mn mc, .slice ba bn bc] 35)).heap.size := by omega
    go_upto_region 17 with (at_builtin; (refine wpList_append_rd2 rfl (.tmp 72) (.tmp 74) 31 rfl w3.heap.size 35 i0 (.agg #[.string ⟨#[]⟩, .int .i64 0, .int .u32 0, .int .i64 0, .int .u32 0, .slice none 0 0, .slice none 0 0]) 7 96 Tryz.underlying31 hi hz0 hz1 hz2 rfl (by decide) _ k (haCells rs) rfl ho1.out _ 1 [.string nm, .int .i64 f, .int .u32 fc, .int .i64 ht, .int .u32 htt, .slice ma mn mc, .slice ba bn bc] rfl hr1.out h7s hk7.1 hk7.2.1 hsw ?_); intro vh' W3 hown3 hgrow3 _)
    have hn3 := hn1.out.kept hgrow3 (rows_apart hn1.out ho1.out (by decide))
    have hb3 := hb1.out.grown hgrow3 hb1.out.size (fun j hj => (ho1.out.lt j hj).1)
    have hs3 := hgrow3.size
    have ho4 := Lib.hid (hown3.alloc (.cells #[.int .i64 wi] 3))
    have hn4 := Lib.hid (hn3.alloc (.cells #[.int .i64 wi] 3))
    have hr4 := Lib.hid (row1 W3 (.int .i64 wi) 3)
    have hb4 := Lib.hid (hb3.alloc hb3.size (.cells #[.int .i64 wi] 3))
    have hs4 := World.size_alloc W3 (.cells #[.int .i64 wi] 3)
    have hsv : w3.heap.size ≤ (W3.alloc (.cells #[.int .i64 wi] 3)).heap.size := by omega
    clear hn3 hb3 hown3 hs1 hs3 hs4 hsw hgrow3 ho1 hn1 hr1 hb1 x0 x1 x2 x3 x4 x5 x6
    go_upto_region 8 with (at_builtin; (refine wpList_append_rd2 rfl (.tmp 76) (.tmp 78) 32 rfl w3.heap.size 3 j0 (.int .i64 0) 1 8 Tryz.underlying32 hj jz0 jz1 jz2 rfl (by decide) _ k _ rfl hn4.out _ 1 _ rfl hr4.out h1s hk7.1 hk7.2.2 hsv ?_); intro vw' W5 hown5 hgrow5 _)
    have HN : Hid (BtAt w3 W5 l1 tl tc vh' vw' (k + 1) (rs ++ [(ch, .slice ma mn mc, .slice ba bn bc)])) := Lib.hid ⟨hb4.out.grown hgrow5 hb4.out.size (fun j hj => (hn4.out.lt j hj).1), by rw [List.length_append, HRZ.out.len]; rfl, by
        rw [haCells_app, show haCells [(ch, Value.slice ma mn mc, Value.slice ba bn bc)] = haC (ch, .slice ma mn mc, .slice ba bn bc) from List.append_nil _, HCC.out]
        exact ho4.out.kept hgrow5 (rows_apart ho4.out hn4.out (by decide)), by
        rw [List.map_append, List.map_append]
        show W5.ownsRow _ _ _ _ _ (_ ++ [Value.int .i64 (wantN ch l1 tl tc 20)])
        rw [HWI.out]
        exact hown5, fun p hp => by
        rcases List.mem_append.1 hp with h | h
        · exact HRZ.out.each p h
        · rw [List.mem_singleton.1 h]; exact HHA.out⟩
    clear ho4 hn4 hr4 hb4 hown5 hgrow5 HRZ
    go_wp2
    go_roundw
    case rel => exact ⟨k + 1, _, by omega, by omega, by go_num, HN⟩
    case measure => (simp [intOf]; try omega)
end lawTells
end Go.Proofs.YtcfococinllcmaaGreat

/- BucketTells: the card: whatever the arguments, the law returns true and its arguments read as they did. No condition. -/
namespace Go.Proofs.YtcfococinllcmaaGreat.lawTells
open Go.ChangeShapes Go.WideShapes Go.ChangeAt Go.RowKit
open Go.ChangeMaps (open_string)
set_option maxRecDepth 100000 in
theorem contract (H : Type) (enc : TypeId × Value → H) (W : World) (base : Nat) (args : Array Value) (ds gs : List (DataW H)) (before : List MemPlace)
    (hval : ∀ (j : Nat) t v, Tryz.f3.params[j]? = some t → args[j]? = some v → Value.okWide Tryz.prog W .any base t v)
    (hW : DataW.Whole enc Tryz.prog Tryz.f3.params.toList Rows.bucketTellsSpec.vars false W args.toList ds gs before) :
    Calls Tryz.prog 3 args W fun e W' => ∃ v, e = .returned v ∧ Rows.bucketTellsSpec.post enc Tryz.prog Tryz.f3 false true false false W args v W' := by
  have hW' := hW
  obtain ⟨p, q, hA0, hV, rfl, hfz, hnd⟩ := hW
  have hA : DataW.TrodAll enc Tryz.prog W 0 (fun _ => true) true Tryz.f3.params.toList args.toList ds p := hA0
  rw [Tryz.params3] at hA hval
  obtain ⟨v0, vs0, d0, ds0, p0, q0, hargs, rfl, rfl, h0, r0⟩ := trodAll_cons hA
  obtain ⟨v1, vs1, d1, ds1, p1, q1, rfl, rfl, rfl, h1, r1⟩ := trodAll_cons r0
  obtain ⟨v2, vs2, d2, ds2, p2, q2, rfl, rfl, rfl, h2, r2⟩ := trodAll_cons r1
  obtain ⟨rfl, rfl, rfl⟩ := trodAll_nil r2
  obtain rfl : args = #[v0, v1, v2] := by cases args; simp_all
  obtain ⟨rfl, rfl⟩ := trodVars_none hV
  obtain ⟨x0, hx0⟩ := hats_of_arg (hval 0 22 v0 rfl rfl) h0
  obtain ⟨x1, hx1⟩ := als_of_arg (hval 1 23 v1 rfl rfl) h1
  obtain ⟨x2, hx2⟩ := lab_of_arg (hval 2 26 v2 rfl rfl) h2
  clear hA0
  refine (walk v0 x0 v1 x1 v2 x2 W hx0 hx1 hx2).mono ?_
  rintro e W' ⟨rfl, hb⟩
  exact ⟨_, rfl, law_post laidOut Tryz.underlying4 rfl rfl (by kernel_rfl) hW' rfl rfl rfl hb⟩
theorem laid_met (os : Os) : laidMet Tryz.prog Rows.bucketTellsRow.laid ((laidWorld os).forCall (fun _ _ => 0) ⟨#[], #[.slice none 0 0, .slice none 0 0, .agg #[.int .i64 0, .int .u32 0]], []⟩).memory :=
  ⟨[], rfl, List.nodup_nil, fun _ _ h => by cases h⟩
theorem reads (os : Os) {H : Type} (enc : TypeId × Value → H) : ∃ places, DataW.whole enc Tryz.prog ((laidWorld os).forCall (fun _ _ => 0) ⟨#[], #[.slice none 0 0, .slice none 0 0, .agg #[.int .i64 0, .int .u32 0]], []⟩).memory Tryz.f3.params.toList Rows.bucketTellsSpec.vars false (#[.slice none 0 0, .slice none 0 0, .agg #[.int .i64 0, .int .u32 0]] : Array Value).toList 8 = some ([.nil, .nil, .agg [.lit (.int .i64 0), .lit (.int .u32 0)]], [], places) :=
  ⟨[], by kernel_rfl⟩
set_option maxRecDepth 100000 in
theorem lifted (os : Os) (started : os.Started) (H : Type) (enc : TypeId × Value → H) (F : Stop.Interp) :
    ReturnsInHanded {} Tryz.checked os 3 .any ((OpenSpec.ofChange Rows.bucketTellsSpec).preRow enc Tryz.prog Tryz.f3 Rows.bucketTellsRow.domain false Rows.bucketTellsRow.laid) (((OpenSpec.ofChange Rows.bucketTellsSpec).at F).post enc Tryz.prog Tryz.f3 false true false false) := by
  obtain ⟨places, hx⟩ := reads os enc
  refine returnsInHanded_of_row (C := Tryz.checked) (s := OpenSpec.ofChange Rows.bucketTellsSpec) ownNone started (by kernel_rfl) Tryz.func3
    (witness_row_at (enc := enc) (C := Tryz.checked) false (laidWorld os) #[.slice none 0 0, .slice none 0 0, .agg #[.int .i64 0, .int .u32 0]] rfl (by kernel_rfl) (by kernel_rfl) (by kernel_rfl)
      (OpenSpec.preRow_of_cond 8 hx (by kernel_rfl) (fun k hk => by cases hk) (by kernel_rfl) (laid_met os))) ?_
  intro W base args ds gs before hval hW _ _ _ _ _ _
  exact contract H enc W base args ds gs before hval hW
theorem said : Rows.BucketTellsSaid :=
  OpenClaim.holds_of_cond 3 Tryz.f3 rfl rfl rfl rfl rfl rfl rfl ⟨rfl, rfl, rfl, rfl, rfl⟩ rfl rfl rfl rfl rfl (by kernel_rfl) Tryz.func3 (by kernel_rfl)
    (of_decide_eq_true (by kernel_rfl)) (by unfold Func.isWrapper; first | (rw [if_pos (by decide +kernel)]; kernel_rfl) | (rw [if_neg (by decide +kernel)]; exact ⟨rfl, rfl⟩))
    (fun os started H enc _ F => by rw [OpenClaim.pre_eq_preRow]; exact lifted os started H enc F)
end Go.Proofs.YtcfococinllcmaaGreat.lawTells

