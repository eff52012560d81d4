/- The arguments of chapter 09's laws: alerts, labels, numbers, policies. -/
import Derived.Test.YtcfococinllcmaaGreatAls
import Derived.ProofKit
import Derived.OpenShut
import Derived.Deep.Slices
import Derived.Deep.Fields
import Derived.ChangeSame
import Derived.Laws.IdiomArrays
import Derived.Maps.AppendAt
namespace Go.Proofs.YtcfococinllcmaaGreat
open Go.RowKit Go.WideShapes Go.ChangeShapes Go.Deep

theorem cell_ltA {w : World} {a : Addr} {v : Value} (h : w.cell? a = some v) : a.block < w.heap.size := by
  rcases Nat.lt_or_ge a.block w.heap.size with h' | h'
  · exact h'
  · simp [World.cell?, Array.getElem?_eq_none h'] at h
section
variable {H : Type} {enc : TypeId × Value → H} {P : Program} {w : World} {base : Nat} {spare : Nat → Bool} {held : Bool}
/-- a slice of structs: each element's cells, and what its fields read as -/
theorem open_slice_structs {t e : TypeId} {fs : Array Field} {fuel : Nat} {cs : List Value} {x : DataW H × List MemPlace} (ht : P.underlying t = some (.slice e)) (he : P.underlying e = some (.struct fs))
    (h : DataW.trod enc P w base spare held fuel t cs = some x) :
    cs = [.slice none 0 0] ∨
    ∃ (a : Addr) (len cap : Nat), cs = [.slice (some a) len cap] ∧ len ≤ cap ∧ cap ≤ maxLen ∧
      ∀ i, i < len → ∃ (es : List Value) (n : Nat), es.length = P.cellsOf e ∧ (∀ j, j < P.cellsOf e → w.cell? (a.add (i * P.cellsOf e + j)) = es[j]?) ∧
        ∀ (j : Nat) (f : Field), fs[j]? = some f → ∃ y, DataW.trod enc P w base spare held n f.type ((es.drop f.offset).take (P.cellsOf f.type)) = some y := by
  rcases open_slice ht h with ⟨h0, _⟩ | ⟨a, len, cap, m, n, D, Pl, hcs, hb, hl, hm, hmm, hx, hi⟩
  · exact .inl h0
  · refine .inr ⟨a, len, cap, hcs, hl, hm, fun i hil => ?_⟩
    obtain ⟨cs', hc, ht'⟩ := hi i (by rw [hmm]; split <;> omega)
    obtain ⟨ys, n', hn', hy, hlen, hyl, hf⟩ := DataW.trod_struct he ht'
    obtain ⟨_, hcl, hat⟩ := World.cells?_some hc
    refine ⟨cs', n', by omega, fun j hj => ?_, fun j f hj => ?_⟩
    · rw [← Go.Deep.add_add]; exact hat j hj
    · have hjl : j < fs.size := (Array.getElem?_eq_some_iff.1 hj).1
      have h1 := hf j f hj
      exact ⟨_, h1.trans (List.getElem?_eq_getElem (by omega))⟩
end
/-- fields of an argument -/
def ArgFlds (w : World) (v : Value) (fl : List Fld) : Prop := FldsAt w v fl ∧ fl.length ≤ maxLen ∧ FldsFit fl
theorem add_off {b o j : Nat} : (⟨b, o, none⟩ : Addr).add j = ⟨b, o + j, none⟩ := Go.WideShapes.add_plain ..
set_option maxRecDepth 100000 in
theorem flds_of_trod {H : Type} {enc : TypeId × Value → H} {W : World} {n : Nat} {v : Value} {x : DataW H × List MemPlace} (h : DataW.trod enc Tryz.prog W 0 (fun _ => true) true n 48 [v] = some x) : ∃ fl, ArgFlds W v fl := by
  have hC : Tryz.prog.cellsOf 103 = 2 := by kernel_rfl
  have hcs1 : Tryz.prog.cellsOf 9 = 1 := by kernel_rfl
  rcases open_slice_structs Tryz.underlying48 Tryz.underlying103 h with hcs | ⟨a, len, cap, hcs, hl, hm, hf⟩
  · cases hcs
    exact ⟨[], RdAt.nil W 2, Nat.zero_le _, fun _ h => by cases h⟩
  · cases hcs
    rw [hC] at hf
    have hone : ∀ i, i < len → ∃ s : Fld, W.cell? (a.add (i * 2)) = some (.string s.1) ∧ W.cell? (a.add (i * 2 + 1)) = some (.string s.2) ∧ s.1.size ≤ maxLen ∧ s.2.size ≤ maxLen := by
      intro i hi
      obtain ⟨es, n, hlen, hat, hfs⟩ := hf i hi
      match es, hlen with
      | [e0, e1], _ =>
        obtain ⟨y0, t0⟩ := hfs 0 _ rfl
        obtain ⟨y1, t1⟩ := hfs 1 _ rfl
        obtain ⟨s0, q0, _, z0⟩ := DataW.trod_string Tryz.underlying9 t0
        obtain ⟨s1, q1, _, z1⟩ := DataW.trod_string Tryz.underlying9 t1
        simp [hcs1] at q0 q1
        subst q0 q1
        exact ⟨(s0, s1), hat 0 (by omega), hat 1 (by omega), z0, z1⟩
    have hg : ∃ g : Nat → Fld, ∀ i, i < len → W.cell? (a.add (i * 2)) = some (.string (g i).1) ∧ W.cell? (a.add (i * 2 + 1)) = some (.string (g i).2) ∧ (g i).1.size ≤ maxLen ∧ (g i).2.size ≤ maxLen :=
      ⟨fun i => if h : i < len then Classical.choose (hone i h) else default, fun i h => by have := Classical.choose_spec (hone i h); simpa only [dif_pos h] using this⟩
    obtain ⟨g, hg⟩ := hg
    have hgl : ((List.range len).map g).length = len := by simp
    refine ⟨(List.range len).map g, ⟨fldCells_len _, .inr ⟨a, cap, by rw [hgl], by omega, fun hn => ?_⟩⟩, by rw [hgl]; omega, fun s hs => ?_⟩
    · rw [hgl] at hn
      obtain ⟨b, off, spot⟩ := a
      have h0 := (hg 0 hn).1
      have hspot : spot = none := by simpa [Addr.add] using World.cell?_spot h0
      subst hspot
      refine ⟨b, off, rfl, by have := cell_ltA h0; simpa [Addr.add] using this, fun j x hj => ?_⟩
      have hjl := (List.getElem?_eq_some_iff.1 hj).1
      rw [fldCells_len, hgl] at hjl
      obtain ⟨m, r, hr2, rfl⟩ : ∃ m r, r < 2 ∧ j = m * 2 + r := ⟨j / 2, j % 2, Nat.mod_lt _ (by decide), by omega⟩
      obtain ⟨q0, q1⟩ := fldCells_at ((List.range len).map g) m (by rw [hgl]; omega)
      obtain ⟨h1, h2, _⟩ := hg m (by omega)
      simp only [List.getElem_map, List.getElem_range] at q0 q1
      rw [add_off] at h1 h2
      match r, hr2 with
      | 0, _ => rw [Nat.add_zero] at hj ⊢; rw [q0] at hj; rw [← Option.some.inj hj]; exact h1
      | 1, _ => rw [q1] at hj; rw [← Option.some.inj hj]; exact h2
    · obtain ⟨i, hi, rfl⟩ := List.mem_map.1 hs
      exact (hg i (List.mem_range.1 hi)).2.2
theorem lit_u32 {c : Int} (h : (Lit.int .u32 c).wf = true) : ∃ n : Nat, c = n ∧ n < 4294967296 := by
  have : 0 ≤ c ∧ c ≤ 4294967295 := by
    simp [Lit.wf, IntKind.min, IntKind.max, IntKind.signed, IntKind.bits] at h; omega
  exact ⟨c.toNat, by omega, by omega⟩
/-- a label, by its cells -/
theorem lab_of_trod {H : Type} {enc : TypeId × Value → H} {W : World} {n : Nat} {c0 c1 : Value} {x : DataW H × List MemPlace} (h : DataW.trod enc Tryz.prog W 0 (fun _ => true) true n 26 [c0, c1] = some x) : ∃ (l : Int) (c : Nat), c0 = .int .i64 l ∧ c1 = .int .u32 c ∧ c < 4294967296 := by
  have hci : Tryz.prog.cellsOf 3 = 1 := by kernel_rfl
  have hcu : Tryz.prog.cellsOf 24 = 1 := by kernel_rfl
  obtain ⟨ys, n', hn', hy, hlen, hyl, hf⟩ := DataW.trod_struct Tryz.underlying26 h
  have t0 := hf 0 _ rfl
  have t1 := hf 1 _ rfl
  match ys, hyl with
  | [y0, y1], _ =>
    obtain ⟨k0, q0, _, _⟩ := DataW.trod_int Tryz.underlying3 t0
    obtain ⟨k1, q1, _, w1⟩ := DataW.trod_int Tryz.underlying24 t1
    simp [hci] at q0
    simp [hcu] at q1
    subst q0 q1
    obtain ⟨m, rfl, hm⟩ := lit_u32 w1
    exact ⟨k0, m, rfl, rfl, hm⟩
/-- an alert of an argument -/
def ArgAl (w : World) (v : Value) (x : Al) (fv : Value) : Prop := v = .agg #[.string x.src, fv, .int .i64 x.lv, .int .u32 x.c, .int .i64 x.fr, .int .i64 x.til] ∧ FldsAt w fv x.fl ∧ AlFit x
theorem al_of_trod {H : Type} {enc : TypeId × Value → H} {W : World} {n : Nat} {c0 c1 c2 c3 c4 c5 : Value} {x : DataW H × List MemPlace} (h : DataW.trod enc Tryz.prog W 0 (fun _ => true) true n 50 [c0, c1, c2, c3, c4, c5] = some x) : ∃ x fv, ArgAl W (.agg #[c0, c1, c2, c3, c4, c5]) x fv := by
  have hci : Tryz.prog.cellsOf 3 = 1 := by kernel_rfl
  have hcs : Tryz.prog.cellsOf 9 = 1 := by kernel_rfl
  have hcl : Tryz.prog.cellsOf 26 = 2 := by kernel_rfl
  have hcf : Tryz.prog.cellsOf 48 = 1 := by kernel_rfl
  obtain ⟨ys, n', hn', hy, hlen, hyl, hf⟩ := DataW.trod_struct Tryz.underlying50 h
  have t0 := hf 0 _ rfl
  have t1 := hf 1 _ rfl
  have t2 := hf 2 _ rfl
  have t3 := hf 3 _ rfl
  have t4 := hf 4 _ rfl
  match ys, hyl with
  | [y0, y1, y2, y3, y4], _ =>
    obtain ⟨s, q0, _, z0⟩ := DataW.trod_string Tryz.underlying9 t0
    simp [hcs] at q0
    subst q0
    have t1' : DataW.trod enc Tryz.prog W 0 (fun _ => true) true n' 48 [c1] = some y1 := by simpa [hcf] using t1
    obtain ⟨fl, hfl⟩ := flds_of_trod t1'
    have t2' : DataW.trod enc Tryz.prog W 0 (fun _ => true) true n' 26 [c2, c3] = some y2 := by simpa [hcl] using t2
    obtain ⟨l, c, e2, e3, hc⟩ := lab_of_trod t2'
    obtain ⟨k3, q3, _, _⟩ := DataW.trod_int Tryz.underlying3 t3
    obtain ⟨k4, q4, _, _⟩ := DataW.trod_int Tryz.underlying3 t4
    simp [hci] at q3 q4
    subst q3 q4
    subst e2 e3
    exact ⟨⟨s, fl, l, c, k3, k4⟩, c1, rfl, hfl.1, z0, hfl.2.2, hfl.2.1, hc⟩
set_option maxRecDepth 100000 in
theorem al_of_arg {H : Type} {enc : TypeId × Value → H} {W : World} {base : Nat} {v : Value} {d : DataW H} {p : List MemPlace} (hval : Value.okWide Tryz.prog W .any base 50 v) (h : DataW.Trod enc Tryz.prog W 0 (fun _ => true) true 50 v d p) : ∃ x fv, ArgAl W v x fv := by
  obtain ⟨cs, rfl, hsz, _⟩ : ∃ cs, v = .agg cs ∧ cs.size = Tryz.prog.cellsOf 50 ∧ Row.okWide Tryz.prog W .any base 50 cs := by
    simpa [Value.okWide, Tryz.underlying50] using hval
  rw [show Tryz.prog.cellsOf 50 = 6 by kernel_rfl] at hsz
  obtain ⟨fuel, hf⟩ := h
  obtain ⟨l⟩ := cs
  match l, hsz with
  | [c0, c1, c2, c3, c4, c5], _ => exact al_of_trod hf
end Go.Proofs.YtcfococinllcmaaGreat
