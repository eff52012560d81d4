/- AlertIs: the card: whatever the arguments, the law returns true and its arguments read as they did. No condition. -/
import Derived.Test.YtipnhpfpppblhaaTopAlertIsCardP0
import Derived.Test.YtipnhpfpppblhaaAls
import Derived.ProofKit
import Derived.OpenShut
import Derived.Deep.Slices
import Derived.Deep.Fields
import Derived.ChangeSame
import Derived.Laws.IdiomArrays
import Derived.Maps.AppendAt
import Derived.Test.YtipnhpfpppblhaaHeldT
import Derived.Test.YtipnhpfpppblhaaAlLife
import Derived.Test.YtipnhpfpppblhaaRows
import Derived.Test.YtipnhpfpppblhaaFrame12

/- The arguments of chapter 09's laws: alerts, labels, numbers, policies. -/
namespace Go.Proofs.Ytipnhpfpppblhaa
open Go.RowKit Go.WideShapes Go.ChangeShapes Go.Deep
theorem cell_ltA {w : World} {a : Addr} {v : Value} (h : w.cell? a = some v) : a.block < w.heap.size := by
  rcases Nat.lt_or_ge a.block w.heap.size with h' | h'
  · exact h'
  · simp [World.cell?, Array.getElem?_eq_none h'] at h
section
variable {H : Type} {enc : TypeId × Value → H} {P : Program} {w : World} {base : Nat} {spare : Nat → Bool} {held : Bool}
theorem open_slice_structs {t e : TypeId} {fs : Array Field} {fuel : Nat} {cs : List Value} {x : DataW H × List MemPlace} (ht : P.underlying t = some (.slice e)) (he : P.underlying e = some (.struct fs))
    (h : DataW.trod enc P w base spare held fuel t cs = some x) :
    cs = [.slice none 0 0] ∨
    ∃ (a : Addr) (len cap : Nat), cs = [.slice (some a) len cap] ∧ len ≤ cap ∧ cap ≤ maxLen ∧
      ∀ i, i < len → ∃ (es : List Value) (n : Nat), es.length = P.cellsOf e ∧ (∀ j, j < P.cellsOf e → w.cell? (a.add (i * P.cellsOf e + j)) = es[j]?) ∧
        ∀ (j : Nat) (f : Field), fs[j]? = some f → ∃ y, DataW.trod enc P w base spare held n f.type ((es.drop f.offset).take (P.cellsOf f.type)) = some y := by
  rcases open_slice ht h with ⟨h0, _⟩ | ⟨a, len, cap, m, n, D, Pl, hcs, hb, hl, hm, hmm, hx, hi⟩
  · exact .inl h0
  · refine .inr ⟨a, len, cap, hcs, hl, hm, fun i hil => ?_⟩
    obtain ⟨cs', hc, ht'⟩ := hi i (by rw [hmm]; split <;> omega)
    obtain ⟨ys, n', hn', hy, hlen, hyl, hf⟩ := DataW.trod_struct he ht'
    obtain ⟨_, hcl, hat⟩ := World.cells?_some hc
    refine ⟨cs', n', by omega, fun j hj => ?_, fun j f hj => ?_⟩
    · rw [← Go.Deep.add_add]; exact hat j hj
    · have hjl : j < fs.size := (Array.getElem?_eq_some_iff.1 hj).1
      have h1 := hf j f hj
      exact ⟨_, h1.trans (List.getElem?_eq_getElem (by omega))⟩
end
def ArgFlds (w : World) (v : Value) (fl : List Fld) : Prop := FldsAt w v fl ∧ fl.length ≤ maxLen ∧ FldsFit fl
theorem add_off {b o j : Nat} : (⟨b, o, none⟩ : Addr).add j = ⟨b, o + j, none⟩ := Go.WideShapes.add_plain ..
set_option maxRecDepth 100000 in
theorem flds_of_trod {H : Type} {enc : TypeId × Value → H} {W : World} {n : Nat} {v : Value} {x : DataW H × List MemPlace} (h : DataW.trod enc Try.prog W 0 (fun _ => true) true n 31 [v] = some x) : ∃ fl, ArgFlds W v fl := by
  have hC : Try.prog.cellsOf 48 = 2 := by kernel_rfl
  have hcs1 : Try.prog.cellsOf 9 = 1 := by kernel_rfl
  rcases open_slice_structs Try.underlying31 Try.underlying48 h with hcs | ⟨a, len, cap, hcs, hl, hm, hf⟩
  · cases hcs
    exact ⟨[], RdAt.nil W 2, Nat.zero_le _, fun _ h => by cases h⟩
  · cases hcs
    rw [hC] at hf
    have hone : ∀ i, i < len → ∃ s : Fld, W.cell? (a.add (i * 2)) = some (.string s.1) ∧ W.cell? (a.add (i * 2 + 1)) = some (.string s.2) ∧ s.1.size ≤ maxLen ∧ s.2.size ≤ maxLen := by
      intro i hi
      obtain ⟨es, n, hlen, hat, hfs⟩ := hf i hi
      match es, hlen with
      | [e0, e1], _ =>
        obtain ⟨y0, t0⟩ := hfs 0 _ rfl
        obtain ⟨y1, t1⟩ := hfs 1 _ rfl
        obtain ⟨s0, q0, _, z0⟩ := DataW.trod_string Try.underlying9 t0
        obtain ⟨s1, q1, _, z1⟩ := DataW.trod_string Try.underlying9 t1
        simp [hcs1] at q0 q1
        subst q0 q1
        exact ⟨(s0, s1), hat 0 (by omega), hat 1 (by omega), z0, z1⟩
    have hg : ∃ g : Nat → Fld, ∀ i, i < len → W.cell? (a.add (i * 2)) = some (.string (g i).1) ∧ W.cell? (a.add (i * 2 + 1)) = some (.string (g i).2) ∧ (g i).1.size ≤ maxLen ∧ (g i).2.size ≤ maxLen :=
      ⟨fun i => if h : i < len then Classical.choose (hone i h) else default, fun i h => by have := Classical.choose_spec (hone i h); simpa only [dif_pos h] using this⟩
    obtain ⟨g, hg⟩ := hg
    have hgl : ((List.range len).map g).length = len := by simp
    refine ⟨(List.range len).map g, ⟨fldCells_len _, .inr ⟨a, cap, by rw [hgl], by omega, fun hn => ?_⟩⟩, by rw [hgl]; omega, fun s hs => ?_⟩
    · rw [hgl] at hn
      obtain ⟨b, off, spot⟩ := a
      have h0 := (hg 0 hn).1
      have hspot : spot = none := by simpa [Addr.add] using World.cell?_spot h0
      subst hspot
      refine ⟨b, off, rfl, by have := cell_ltA h0; simpa [Addr.add] using this, fun j x hj => ?_⟩
      have hjl := (List.getElem?_eq_some_iff.1 hj).1
      rw [fldCells_len, hgl] at hjl
      obtain ⟨m, r, hr2, rfl⟩ : ∃ m r, r < 2 ∧ j = m * 2 + r := ⟨j / 2, j % 2, Nat.mod_lt _ (by decide), by omega⟩
      obtain ⟨q0, q1⟩ := fldCells_at ((List.range len).map g) m (by rw [hgl]; omega)
      obtain ⟨h1, h2, _⟩ := hg m (by omega)
      simp only [List.getElem_map, List.getElem_range] at q0 q1
      rw [add_off] at h1 h2
      match r, hr2 with
      | 0, _ => rw [Nat.add_zero] at hj ⊢; rw [q0] at hj; rw [← Option.some.inj hj]; exact h1
      | 1, _ => rw [q1] at hj; rw [← Option.some.inj hj]; exact h2
    · obtain ⟨i, hi, rfl⟩ := List.mem_map.1 hs
      exact (hg i (List.mem_range.1 hi)).2.2
theorem lit_u32 {c : Int} (h : (Lit.int .u32 c).wf = true) : ∃ n : Nat, c = n ∧ n < 4294967296 := by
  have : 0 ≤ c ∧ c ≤ 4294967295 := by
    simp [Lit.wf, IntKind.min, IntKind.max, IntKind.signed, IntKind.bits] at h; omega
  exact ⟨c.toNat, by omega, by omega⟩
theorem lab_of_trod {H : Type} {enc : TypeId × Value → H} {W : World} {n : Nat} {c0 c1 : Value} {x : DataW H × List MemPlace} (h : DataW.trod enc Try.prog W 0 (fun _ => true) true n 34 [c0, c1] = some x) : ∃ (l : Int) (c : Nat), c0 = .int .i64 l ∧ c1 = .int .u32 c ∧ c < 4294967296 := by
  have hci : Try.prog.cellsOf 3 = 1 := by kernel_rfl
  have hcu : Try.prog.cellsOf 32 = 1 := by kernel_rfl
  obtain ⟨ys, n', hn', hy, hlen, hyl, hf⟩ := DataW.trod_struct Try.underlying34 h
  have t0 := hf 0 _ rfl
  have t1 := hf 1 _ rfl
  match ys, hyl with
  | [y0, y1], _ =>
    obtain ⟨k0, q0, _, _⟩ := DataW.trod_int Try.underlying3 t0
    obtain ⟨k1, q1, _, w1⟩ := DataW.trod_int Try.underlying32 t1
    simp [hci] at q0
    simp [hcu] at q1
    subst q0 q1
    obtain ⟨m, rfl, hm⟩ := lit_u32 w1
    exact ⟨k0, m, rfl, rfl, hm⟩
def ArgAl (w : World) (v : Value) (x : Al) (fv : Value) : Prop := v = .agg #[.string x.src, fv, .int .i64 x.lv, .int .u32 x.c, .int .i64 x.fr, .int .i64 x.til] ∧ FldsAt w fv x.fl ∧ AlFit x
theorem al_of_trod {H : Type} {enc : TypeId × Value → H} {W : World} {n : Nat} {c0 c1 c2 c3 c4 c5 : Value} {x : DataW H × List MemPlace} (h : DataW.trod enc Try.prog W 0 (fun _ => true) true n 38 [c0, c1, c2, c3, c4, c5] = some x) : ∃ x fv, ArgAl W (.agg #[c0, c1, c2, c3, c4, c5]) x fv := by
  have hci : Try.prog.cellsOf 3 = 1 := by kernel_rfl
  have hcs : Try.prog.cellsOf 9 = 1 := by kernel_rfl
  have hcl : Try.prog.cellsOf 34 = 2 := by kernel_rfl
  have hcf : Try.prog.cellsOf 31 = 1 := by kernel_rfl
  obtain ⟨ys, n', hn', hy, hlen, hyl, hf⟩ := DataW.trod_struct Try.underlying38 h
  have t0 := hf 0 _ rfl
  have t1 := hf 1 _ rfl
  have t2 := hf 2 _ rfl
  have t3 := hf 3 _ rfl
  have t4 := hf 4 _ rfl
  match ys, hyl with
  | [y0, y1, y2, y3, y4], _ =>
    obtain ⟨s, q0, _, z0⟩ := DataW.trod_string Try.underlying9 t0
    simp [hcs] at q0
    subst q0
    have t1' : DataW.trod enc Try.prog W 0 (fun _ => true) true n' 31 [c1] = some y1 := by simpa [hcf] using t1
    obtain ⟨fl, hfl⟩ := flds_of_trod t1'
    have t2' : DataW.trod enc Try.prog W 0 (fun _ => true) true n' 34 [c2, c3] = some y2 := by simpa [hcl] using t2
    obtain ⟨l, c, e2, e3, hc⟩ := lab_of_trod t2'
    obtain ⟨k3, q3, _, _⟩ := DataW.trod_int Try.underlying3 t3
    obtain ⟨k4, q4, _, _⟩ := DataW.trod_int Try.underlying3 t4
    simp [hci] at q3 q4
    subst q3 q4
    subst e2 e3
    exact ⟨⟨s, fl, l, c, k3, k4⟩, c1, rfl, hfl.1, z0, hfl.2.2, hfl.2.1, hc⟩
set_option maxRecDepth 100000 in
theorem al_of_arg {H : Type} {enc : TypeId × Value → H} {W : World} {base : Nat} {v : Value} {d : DataW H} {p : List MemPlace} (hval : Value.okWide Try.prog W .any base 38 v) (h : DataW.Trod enc Try.prog W 0 (fun _ => true) true 38 v d p) : ∃ x fv, ArgAl W v x fv := by
  obtain ⟨cs, rfl, hsz, _⟩ : ∃ cs, v = .agg cs ∧ cs.size = Try.prog.cellsOf 38 ∧ Row.okWide Try.prog W .any base 38 cs := by
    simpa [Value.okWide, Try.underlying38] using hval
  rw [show Try.prog.cellsOf 38 = 6 by kernel_rfl] at hsz
  obtain ⟨fuel, hf⟩ := h
  obtain ⟨l⟩ := cs
  match l, hsz with
  | [c0, c1, c2, c3, c4, c5], _ => exact al_of_trod hf
end Go.Proofs.Ytipnhpfpppblhaa

/- AlertIs: the walk. -/
namespace Go.Proofs.Ytipnhpfpppblhaa
open Go.RowKit Go.Maps
theorem held_three {P : Program} {ops : Array Oper} {Q : Exit → Act → World → Prop} {md : Region.Mode} {S : World → Prop} {i j k : Nat} {oi oj ok : Oper} {fuel : Nat} {listed : Array Bool} {a : Act} {w : World} (hi : ops[i]? = some oi) (hj : ops[j]? = some oj) (hk : ops[k]? = some ok) (hr : Region.ready md ops listed = [i, j, k])
    (h : ∀ K' : Act → World → Prop, Shut (∀ a w, S w → (S w → wpAnyH P md ops Q S fuel (listed.setIfInBounds i true) a w) → K' a w) → if Region.wanted oi (yielded ops a.tmps) = true then Oper.wp P oi a w K' Q else K' (a.put oi.dst undef) w)
    (h' : ∀ K' : Act → World → Prop, Shut (∀ a w, S w → (S w → wpAnyH P md ops Q S fuel (listed.setIfInBounds j true) a w) → K' a w) → if Region.wanted oj (yielded ops a.tmps) = true then Oper.wp P oj a w K' Q else K' (a.put oj.dst undef) w)
    (h'' : ∀ K' : Act → World → Prop, Shut (∀ a w, S w → (S w → wpAnyH P md ops Q S fuel (listed.setIfInBounds k true) a w) → K' a w) → if Region.wanted ok (yielded ops a.tmps) = true then Oper.wp P ok a w K' Q else K' (a.put ok.dst undef) w) : wpAnyH P md ops Q S (fuel + 1) listed a w :=
  wpAnyH_ready hr (by simp) (AllReadyH.cons hi h (AllReadyH.cons hj h' (AllReadyH.cons hk h'' AllReadyH.nil)))
def zAl : Al := ⟨⟨#[]⟩, [], 0, 0, 0, 0⟩
def mrgA (x y : Al) : Al := if mergeOk x y then mergeA x y else zAl
theorem mrgA_fl (x y : Al) : (mrgA x y).fl = if mergeOk x y then x.fl else [] := by unfold mrgA; split <;> rfl
theorem mrg_val {x y : Al} {v' : Value} {w' : World} (h : FldsAt w' v' x.fl) : ∃ pa pc, mergeR (mergeOk x y) x y v' = AlV (mrgA x y) (.slice pa (mrgA x y).fl.length pc) ∧ FldsAt w' (.slice pa (mrgA x y).fl.length pc) (mrgA x y).fl := by
  obtain ⟨pa, pc, rfl, _, _⟩ := RdAt.shape h
  unfold mrgA
  cases mergeOk x y
  · exact ⟨none, 0, rfl, RdAt.nil w' 2⟩
  · exact ⟨pa, pc, rfl, h⟩
theorem merge_l (x y m : Al) (ok : Bool) (v u : Value) (w : World) (hx : AlFit x) (hy : AlFit y) (hv : FldsAt w v x.fl) (hu : FldsAt w u y.fl) (hok : mergeOk x y = ok) (hm : mrgA x y = m) :
    Calls Try.prog 23 #[AlV x v, AlV y u] w fun e w' => ∃ pa pc, e = .returned (.tuple #[AlV m (.slice pa m.fl.length pc), .bool ok]) ∧ FldsAt w' (.slice pa m.fl.length pc) m.fl ∧ Below w.heap.size w w' := by
  refine (amerge_any x y v u w hx hy hv hu).mono ?_
  rintro e w' ⟨v', rfl, h1, h2⟩
  obtain ⟨pa, pc, e1, e2⟩ := mrg_val (y := y) h1
  rw [e1, hok, hm]
  rw [hm] at e2
  exact ⟨pa, pc, rfl, e2, h2⟩
theorem merge_r (x y m : Al) (ok : Bool) (va ua : Option Addr) (vc uc : Nat) (w : World) (hx : AlFit x) (hy : AlFit y) (hv : FldsAt w (.slice va x.fl.length vc) x.fl) (hu : FldsAt w (.slice ua y.fl.length uc) y.fl) (hok : mergeOk x y = ok) (hm : mrgA x y = m) :
    ∃ pa pc, FldsAt w (.slice pa m.fl.length pc) m.fl ∧ ∀ W, Below w.heap.size w W → Calls Try.prog 24 #[AlV x (.slice va x.fl.length vc), AlV y (.slice ua y.fl.length uc)] W fun e w' => e = .returned (.tuple #[AlV m (.slice pa m.fl.length pc), .bool ok]) ∧ Below W.heap.size W w' := by
  obtain ⟨pa, pc, h1, h2⟩ : ∃ pa pc, mergeR (mergeOk x y) x y (.slice va x.fl.length vc) = AlV m (.slice pa m.fl.length pc) ∧ FldsAt w (.slice pa m.fl.length pc) m.fl := by
    rw [← hm]
    unfold mrgA
    cases mergeOk x y
    · exact ⟨none, 0, rfl, RdAt.nil w 2⟩
    · exact ⟨va, vc, rfl, hv⟩
  refine ⟨pa, pc, h2, fun W h => (rmerge_any x y _ _ W hx hy (hv.later h) (hu.later h)).mono ?_⟩
  rintro e w' ⟨rfl, hb⟩
  rw [h1, hok]
  exact ⟨rfl, hb⟩
theorem mrg_len {x y m : Al} (hm : mrgA x y = m) (h : x.fl.length ≤ 12) : m.fl.length ≤ 12 := by
  rw [← hm, mrgA_fl]
  split
  · exact h
  · simp
theorem same_self (s : ByteArray) (L : List Fld) (lv : Int) (c : Nat) (fr til : Int) : sameA s s L L lv c fr til lv c fr til = true := by unfold sameA; simp
theorem fldfit_take {fl : List Fld} (h : FldsFit fl) (k : Nat) : FldsFit (fl.take k) := fun f hf => h f (List.mem_of_mem_take hf)
structure ABx (g : Nat) (src : ByteArray) (L : List Fld) (a : Option Addr) (m : Nat) (lv : Int) (c : Nat) (fr til : Int) (W : World) : Prop where
  x : C6 g (.string src) (.slice a L.length m) (.int .i64 lv) (.int .u32 c) (.int .i64 fr) (.int .i64 til) W
  lt : g < W.heap.size
  f : FldsAt W (.slice a L.length m) L
theorem ABx.later {g : Nat} {src : ByteArray} {L : List Fld} {a : Option Addr} {m : Nat} {lv : Int} {c : Nat} {fr til : Int} {W W' : World} (h : ABx g src L a m lv c fr til W) (hb : Below W.heap.size W W') : ABx g src L a m lv c fr til W' :=
  ⟨h.x.later hb h.lt, Nat.lt_of_lt_of_le h.lt hb.size, h.f.later hb⟩
theorem abx_new {W1 : World} {src : ByteArray} {L : List Fld} {a : Option Addr} {m : Nat} {lv : Int} {c : Nat} {fr til : Int} {t : TypeId} (hf : FldsAt W1 (.slice a L.length m) L) :
    ABx W1.heap.size src L a m lv c fr til (W1.alloc (.cells #[.string src, .slice a L.length m, .int .i64 lv, .int .u32 c, .int .i64 fr, .int .i64 til] t)) := by
  obtain ⟨hX, hlt, _⟩ := box6 (Below.refl (W1.alloc (.cells #[.string src, .slice a L.length m, .int .i64 lv, .int .u32 c, .int .i64 fr, .int .i64 til] t)).heap.size _)
  exact ⟨hX, hlt, hf.later (alloc_below _ _)⟩
theorem fld_take12 {w : World} {a : Option Addr} {c : Nat} {fl : List Fld} (h : FldsAt w (.slice a fl.length c) fl) : FldsAt w (.slice a (fl.take 12).length c) (fl.take 12) := by
  have e : (fl.take 12).length = min fl.length 12 := by rw [List.length_take, Nat.min_comm]
  have e2 : fl.take (min fl.length 12) = fl.take 12 := by
    rcases Nat.le_total fl.length 12 with h1 | h1
    · rw [Nat.min_eq_left h1, List.take_of_length_le h1, List.take_length]
    · rw [Nat.min_eq_right h1]
  have := fld_take h (min fl.length 12) (by omega) (fun ha => by
    rcases h.2 with ⟨_, h0⟩ | ⟨ad, c', h1, _⟩
    · exact h0
    · rw [ha] at h1; cases h1)
  rw [e2] at this
  rw [e]
  exact this
namespace lawIs
set_option maxHeartbeats 6400000 in
set_option maxRecDepth 100000 in
theorem walk0 (s1 : ByteArray) (F1 : List Fld) (v1 : Value) (l1 : Int) (c1 : Nat) (f1 t1 : Int) (s2 : ByteArray) (F2 : List Fld) (v2 : Value) (l2 : Int) (c2 : Nat) (f2 t2 now : Int) (w : World) (hv1 : FldsAt w v1 F1) (hv2 : FldsAt w v2 F2)
    (hx : AlFit ⟨s1, F1, l1, c1, f1, t1⟩) (hy : AlFit ⟨s2, F2, l2, c2, f2, t2⟩) (hbulk : (idB s1 (F1.take 12)).length ≤ 4000000) :
    Calls Try.prog 5 #[.agg #[.string s1, v1, .int .i64 l1, .int .u32 c1, .int .i64 f1, .int .i64 t1], .agg #[.string s2, v2, .int .i64 l2, .int .u32 c2, .int .i64 f2, .int .i64 t2], .int .i64 now] w fun e w' => e = .returned (.bool true) ∧ Below w.heap.size w w' := by
  have kl := lives_any
  obtain ⟨a1, m1, rfl, _, _⟩ := RdAt.shape hv1
  obtain ⟨a2, m2, rfl, _, _⟩ := RdAt.shape hv2
  have kb1 := fun W (h : Below w.heap.size w W) => back_det s1 F1 a1 m1 l1 c1 f1 t1 W (hv1.later h) hx.len
  have kb2 := fun W (h : Below w.heap.size w W) => back_det s2 F2 a2 m2 l2 c2 f2 t2 W (hv2.later h) hy.len
  have hw1 := fld_take12 hv1
  have hw2 := fld_take12 hv2
  have hxl : (F1.take 12).length ≤ 12 := by rw [List.length_take]; omega
  have hyl : (F2.take 12).length ≤ 12 := by rw [List.length_take]; omega
  have hx' : AlFit ⟨s1, F1.take 12, l1, c1, f1, t1⟩ := ⟨hx.src, fldfit_take hx.fl 12, Nat.le_trans hxl (by unfold maxLen; omega), hx.c⟩
  have hy' : AlFit ⟨s2, F2.take 12, l2, c2, f2, t2⟩ := ⟨hy.src, fldfit_take hy.fl 12, Nat.le_trans hyl (by unfold maxLen; omega), hy.c⟩
  generalize F1.take 12 = L1 at *
  generalize F2.take 12 = L2 at *
  have HV1 := Lib.hid hw1
  have HV2 := Lib.hid hw2
  have HX := Lib.hid hx'
  have HY := Lib.hid hy'
  have HXL := Lib.hid hxl
  have HBK := Lib.hid hbulk
  have KB1 := Lib.hid kb1
  have KB2 := Lib.hid kb2
  clear kb1 kb2 hv1 hv2 hw1 hw2 hx hy hx' hy' hxl hyl hbulk
  obtain ⟨W0, hW0⟩ : ∃ z, (w.alloc (.cells #[.string s1, .slice a1 F1.length m1, .int .i64 l1, .int .u32 c1, .int .i64 f1, .int .i64 t1] 38)).alloc (.cells #[.string s2, .slice a2 F2.length m2, .int .i64 l2, .int .u32 c2, .int .i64 f2, .int .i64 t2] 38) = z := ⟨_, rfl⟩
  have hb0 : Below w.heap.size w W0 := by rw [← hW0]; exact (alloc_below _ _).trans ((alloc_below _ _).mono (by simp))
  have hz : w.heap.size + 1 < W0.heap.size := by rw [← hW0]; simp
  have hbb := (Below.refl W0.heap.size W0)
  rw [← hW0] at hbb
  obtain ⟨g1, g2, _, _⟩ := box_two hbb
  rw [hW0] at g1 g2
  have HA : Hid (C6 w.heap.size (.string s1) (.slice a1 F1.length m1) (.int .i64 l1) (.int .u32 c1) (.int .i64 f1) (.int .i64 t1) W0) := Lib.hid ⟨g1 0 _ rfl, g1 1 _ rfl, g1 2 _ rfl, g1 3 _ rfl, g1 4 _ rfl, g1 5 _ rfl⟩
  have HB : Hid (C6 (w.heap.size + 1) (.string s2) (.slice a2 F2.length m2) (.int .i64 l2) (.int .u32 c2) (.int .i64 f2) (.int .i64 t2) W0) := Lib.hid ⟨g2 0 _ rfl, g2 1 _ rfl, g2 2 _ rfl, g2 3 _ rfl, g2 4 _ rfl, g2 5 _ rfl⟩
  have HB0 := Lib.hid hb0
  have HZ0 := Lib.hid hz
  have HW0 := Lib.hid hW0
  clear g1 g2 hbb hb0 hz hW0
  go_enter Try.func5, Try.ntmps5
  go_upto_region 1 with fail
  rw [HW0.out]
  clear HW0
  go_wp2_with fail
  refine (kl _).mono ?_
  rintro e w5 ⟨rfl, hb1⟩
  obtain ⟨a0, a1', a2', a3, a4, a5⟩ := HA.out.later hb1 (by have := HZ0.out; omega)
  obtain ⟨b0, b1, b2, b3, b4, b5⟩ := HB.out.later hb1 HZ0.out
  have hlta : w.heap.size < w5.heap.size := by have := HZ0.out; have := hb1.size; omega
  have hltb : w.heap.size + 1 < w5.heap.size := by have := HZ0.out; have := hb1.size; omega
  have HBW : Hid (Below w.heap.size w w5) := Lib.hid (HB0.out.trans (hb1.mono HB0.out.size))
  have K1 : Hid (∀ W, Below w5.heap.size w5 W → Calls Try.prog 8 #[.agg #[.string s1, .slice a1 F1.length m1, .int .i64 l1, .int .u32 c1, .int .i64 f1, .int .i64 t1]] W fun e w' => e = .returned (.agg #[.string s1, .slice a1 L1.length m1, .int .i64 l1, .int .u32 c1, .int .i64 f1, .int .i64 t1]) ∧ Below W.heap.size W w') := Lib.hid (fun W h => (KB1.out W (HBW.out.trans (h.mono HBW.out.size))).mono (fun e w' q => ⟨q.1, q.2.2⟩))
  have K2 : Hid (∀ W, Below w5.heap.size w5 W → Calls Try.prog 8 #[.agg #[.string s2, .slice a2 F2.length m2, .int .i64 l2, .int .u32 c2, .int .i64 f2, .int .i64 t2]] W fun e w' => e = .returned (.agg #[.string s2, .slice a2 L2.length m2, .int .i64 l2, .int .u32 c2, .int .i64 f2, .int .i64 t2]) ∧ Below W.heap.size W w') := Lib.hid (fun W h => (KB2.out W (HBW.out.trans (h.mono HBW.out.size))).mono (fun e w' q => ⟨q.1, q.2.2⟩))
  clear HA HB hb1 kl KB1 KB2 HB0 HZ0
  go_upto_region 3 with fail
  go_cut [7, 8] from 15 to 18 (fun s7 s8 wx => ∃ gx gy, s7 = .pointer (some ⟨gx, 0, none⟩) ∧ s8 = .pointer (some ⟨gy, 0, none⟩) ∧ C6 gx (.string s1) (.slice a1 L1.length m1) (.int .i64 l1) (.int .u32 c1) (.int .i64 f1) (.int .i64 t1) wx ∧ C6 gy (.string s2) (.slice a2 L2.length m2) (.int .i64 l2) (.int .u32 c2) (.int .i64 f2) (.int .i64 t2) wx ∧ gx < wx.heap.size ∧ gy < wx.heap.size ∧ Below w5.heap.size w5 wx)
  case first =>
    refine wp_region_held_drew (S := (fun W => W.cell? ⟨w.heap.size, 0, none⟩ = some (.string s1) ∧ W.cell? ⟨w.heap.size, 1, none⟩ = some (.slice a1 F1.length m1) ∧ W.cell? ⟨w.heap.size, 2, none⟩ = some (.int .i64 l1) ∧ W.cell? ⟨w.heap.size, 3, none⟩ = some (.int .u32 c1) ∧ W.cell? ⟨w.heap.size, 4, none⟩ = some (.int .i64 f1) ∧ W.cell? ⟨w.heap.size, 5, none⟩ = some (.int .i64 t1) ∧ W.cell? ⟨w.heap.size + 1, 0, none⟩ = some (.string s2) ∧ W.cell? ⟨w.heap.size + 1, 1, none⟩ = some (.slice a2 F2.length m2) ∧ W.cell? ⟨w.heap.size + 1, 2, none⟩ = some (.int .i64 l2) ∧ W.cell? ⟨w.heap.size + 1, 3, none⟩ = some (.int .u32 c2) ∧ W.cell? ⟨w.heap.size + 1, 4, none⟩ = some (.int .i64 f2) ∧ W.cell? ⟨w.heap.size + 1, 5, none⟩ = some (.int .i64 t2))) (by kernel_rfl) ⟨a0, a1', a2', a3, a4, a5, b0, b1, b2, b3, b4, b5⟩ (fun hHeld => ?_)
    have hd : Below w5.heap.size w5 w5.drew := (Below.refl _ _).drew
    generalize w5.drew = wd at *
    refine held_take (i := 0) (v := ?_) rfl rfl (by kernel_rfl) (by kernel_rfl) (by kernel_rfl) (fun _ _ _ h => h) (by rfl) hHeld ?_ ?_
    rotate_left
    · rintro wh ⟨z0, z1, z2, z3, z4, z5, z6, z7, z8, z9, z10, z11⟩
      go_simp
      (try with_reducible rfl)
    simp only [Act.put, List.setIfInBounds_toArray, List.set_cons_zero, List.set_cons_succ]
    refine held_take (i := 2) (v := ?_) rfl rfl (by kernel_rfl) (by kernel_rfl) (by kernel_rfl) (fun _ _ _ h => h) (by rfl) hHeld ?_ ?_
    rotate_left
    · rintro wh ⟨z0, z1, z2, z3, z4, z5, z6, z7, z8, z9, z10, z11⟩
      go_simp
      (try with_reducible rfl)
    simp only [Act.put, List.setIfInBounds_toArray, List.set_cons_zero, List.set_cons_succ]
    refine held_three (i := 1) (j := 4) (k := 5) rfl rfl rfl (by kernel_rfl) (fun K hK => ?_) (fun K hK => ?_) (fun K hK => ?_)
    · go_simp; go_at_call 8; refine (K1.out _ hd).mono ?_; rintro e w_1 ⟨rfl, hb_1⟩
      have hB_1 := hd.trans (hb_1.mono hd.size)
      refine hK.out _ _ ⟨keep_cell a0 hB_1 hlta, keep_cell a1' hB_1 hlta, keep_cell a2' hB_1 hlta, keep_cell a3 hB_1 hlta, keep_cell a4 hB_1 hlta, keep_cell a5 hB_1 hlta, keep_cell b0 hB_1 hltb, keep_cell b1 hB_1 hltb, keep_cell b2 hB_1 hltb, keep_cell b3 hB_1 hltb, keep_cell b4 hB_1 hltb, keep_cell b5 hB_1 hltb⟩ (fun hHeld => ?_)
      clear hK K
      (try simp only [Act.put, List.setIfInBounds_toArray, List.set_cons_zero, List.set_cons_succ])
      refine held_three (i := 3) (j := 4) (k := 5) rfl rfl rfl (by kernel_rfl) (fun K hK => ?_) (fun K hK => ?_) (fun K hK => ?_)
      · go_simp; go_at_call 8; refine (K2.out _ hB_1).mono ?_; rintro e w_2 ⟨rfl, hb_2⟩
        have hB_2 := hB_1.trans (hb_2.mono hB_1.size)
        refine hK.out _ _ ⟨keep_cell a0 hB_2 hlta, keep_cell a1' hB_2 hlta, keep_cell a2' hB_2 hlta, keep_cell a3 hB_2 hlta, keep_cell a4 hB_2 hlta, keep_cell a5 hB_2 hlta, keep_cell b0 hB_2 hltb, keep_cell b1 hB_2 hltb, keep_cell b2 hB_2 hltb, keep_cell b3 hB_2 hltb, keep_cell b4 hB_2 hltb, keep_cell b5 hB_2 hltb⟩ (fun hHeld => ?_)
        clear hK K
        (try simp only [Act.put, List.setIfInBounds_toArray, List.set_cons_zero, List.set_cons_succ])
        refine held_two (i := 4) (j := 5) rfl rfl (by kernel_rfl) (fun K hK => ?_) (fun K hK => ?_)
        · have hb_3 := alloc_below w_2 (.cells #[.string ⟨#[]⟩, .slice none 0 0, .int .i64 0, .int .u32 0, .int .i64 0, .int .i64 0] 36)
          have hB_3 := hB_2.trans (hb_3.mono hB_2.size)
          have hT_3 := box_there (Below.refl (w_2.alloc (.cells #[.string ⟨#[]⟩, .slice none 0 0, .int .i64 0, .int .u32 0, .int .i64 0, .int .i64 0] 36)).heap.size (w_2.alloc (.cells #[.string ⟨#[]⟩, .slice none 0 0, .int .i64 0, .int .u32 0, .int .i64 0, .int .i64 0] 36)))
          have hL_3 : w_2.heap.size < (w_2.alloc (.cells #[.string ⟨#[]⟩, .slice none 0 0, .int .i64 0, .int .u32 0, .int .i64 0, .int .i64 0] 36)).heap.size := by rw [World.size_alloc]; omega
          have hG_3 := hB_2.size
          go_simp
          refine hK.out _ _ ⟨keep_cell a0 hB_3 hlta, keep_cell a1' hB_3 hlta, keep_cell a2' hB_3 hlta, keep_cell a3 hB_3 hlta, keep_cell a4 hB_3 hlta, keep_cell a5 hB_3 hlta, keep_cell b0 hB_3 hltb, keep_cell b1 hB_3 hltb, keep_cell b2 hB_3 hltb, keep_cell b3 hB_3 hltb, keep_cell b4 hB_3 hltb, keep_cell b5 hB_3 hltb⟩ (fun hHeld => ?_)
          clear hK K
          (try simp only [Act.put, List.setIfInBounds_toArray, List.set_cons_zero, List.set_cons_succ])
          generalize w_2.alloc (.cells #[.string ⟨#[]⟩, .slice none 0 0, .int .i64 0, .int .u32 0, .int .i64 0, .int .i64 0] 36) = w_3 at *
          refine held_step (i := 5) rfl (by kernel_rfl) (fun K hK => ?_)
          have hb_4 := alloc_below w_3 (.cells #[.string ⟨#[]⟩, .slice none 0 0, .int .i64 0, .int .u32 0, .int .i64 0, .int .i64 0] 36)
          have hB_4 := hB_3.trans (hb_4.mono hB_3.size)
          have hT_4 := box_there (Below.refl (w_3.alloc (.cells #[.string ⟨#[]⟩, .slice none 0 0, .int .i64 0, .int .u32 0, .int .i64 0, .int .i64 0] 36)).heap.size (w_3.alloc (.cells #[.string ⟨#[]⟩, .slice none 0 0, .int .i64 0, .int .u32 0, .int .i64 0, .int .i64 0] 36)))
          have hL_4 : w_3.heap.size < (w_3.alloc (.cells #[.string ⟨#[]⟩, .slice none 0 0, .int .i64 0, .int .u32 0, .int .i64 0, .int .i64 0] 36)).heap.size := by rw [World.size_alloc]; omega
          have hG_4 := hB_3.size
          have hT4_4 := there_later hT_3 hb_4 hL_3
          have hL4_4 := Nat.lt_of_lt_of_le hL_3 hb_4.size
          have hN_4 : w_2.heap.size ≠ w_3.heap.size := by have := hL_3; omega
          go_simp
          refine hK.out _ _ ⟨keep_cell a0 hB_4 hlta, keep_cell a1' hB_4 hlta, keep_cell a2' hB_4 hlta, keep_cell a3 hB_4 hlta, keep_cell a4 hB_4 hlta, keep_cell a5 hB_4 hlta, keep_cell b0 hB_4 hltb, keep_cell b1 hB_4 hltb, keep_cell b2 hB_4 hltb, keep_cell b3 hB_4 hltb, keep_cell b4 hB_4 hltb, keep_cell b5 hB_4 hltb⟩ (fun hHeld => ?_)
          clear hK K
          (try simp only [Act.put, List.setIfInBounds_toArray, List.set_cons_zero, List.set_cons_succ])
          generalize w_3.alloc (.cells #[.string ⟨#[]⟩, .slice none 0 0, .int .i64 0, .int .u32 0, .int .i64 0, .int .i64 0] 36) = w_4 at *
          have hNE := hN_4
          have q0 := there_free hT4_4 0 (by decide)
          have q1 := there_free hT4_4 1 (by decide)
          have q2 := there_free hT4_4 2 (by decide)
          have q3 := there_free hT4_4 3 (by decide)
          have q4 := there_free hT4_4 4 (by decide)
          have q5 := there_free hT4_4 5 (by decide)
          obtain ⟨y0, hy0⟩ := there_cell hT4_4 0 (by decide)
          obtain ⟨y1, hy1⟩ := there_cell hT4_4 1 (by decide)
          obtain ⟨y2, hy2⟩ := there_cell hT4_4 2 (by decide)
          obtain ⟨y3, hy3⟩ := there_cell hT4_4 3 (by decide)
          obtain ⟨y4, hy4⟩ := there_cell hT4_4 4 (by decide)
          obtain ⟨y5, hy5⟩ := there_cell hT4_4 5 (by decide)
          have HB_5 : Hid (Below w5.heap.size w5 (w_4.setCells w_2.heap.size 0 [.string s1, .slice a1 L1.length m1, .int .i64 l1, .int .u32 c1, .int .i64 f1, .int .i64 t1])) := Lib.hid (below_puts (g := w_2.heap.size) (o := 0) hB_4 hG_3 [.string s1, .slice a1 L1.length m1, .int .i64 l1, .int .u32 c1, .int .i64 f1, .int .i64 t1])
          have HZ_5 := Lib.hid (below_puts_base (g := w_2.heap.size) (o := 0) (Below.refl 0 w_4) (Nat.zero_le _) [.string s1, .slice a1 L1.length m1, .int .i64 l1, .int .u32 c1, .int .i64 f1, .int .i64 t1]).size
          have HC_5 := Lib.hid (c6_puts w_4 w_2.heap.size (.string s1) (.slice a1 L1.length m1) (.int .i64 l1) (.int .u32 c1) (.int .i64 f1) (.int .i64 t1) hT4_4)
          have HT_5 := Lib.hid (World.there_setCells hT_4 w_2.heap.size 0 [.string s1, .slice a1 L1.length m1, .int .i64 l1, .int .u32 c1, .int .i64 f1, .int .i64 t1])
          refine held_step (i := 6) rfl (by kernel_rfl) (fun K hK => ?_)
          go_simp
          refine hK.out _ (w_4.setCells w_2.heap.size 0 [.string s1, .slice a1 L1.length m1, .int .i64 l1, .int .u32 c1, .int .i64 f1, .int .i64 t1]) ⟨keep_cell a0 HB_5.out hlta, keep_cell a1' HB_5.out hlta, keep_cell a2' HB_5.out hlta, keep_cell a3 HB_5.out hlta, keep_cell a4 HB_5.out hlta, keep_cell a5 HB_5.out hlta, keep_cell b0 HB_5.out hltb, keep_cell b1 HB_5.out hltb, keep_cell b2 HB_5.out hltb, keep_cell b3 HB_5.out hltb, keep_cell b4 HB_5.out hltb, keep_cell b5 HB_5.out hltb⟩ (fun hHeld => ?_)
          clear hK K
          (try simp only [Act.put, List.setIfInBounds_toArray, List.set_cons_zero, List.set_cons_succ])
          generalize (w_4.setCells w_2.heap.size 0 [.string s1, .slice a1 L1.length m1, .int .i64 l1, .int .u32 c1, .int .i64 f1, .int .i64 t1]) = w_5 at *
          clear q0 q1 q2 q3 q4 q5 hy0 hy1 hy2 hy3 hy4 hy5 y0 y1 y2 y3 y4 y5
          have q0 := there_free HT_5.out 0 (by decide)
          have q1 := there_free HT_5.out 1 (by decide)
          have q2 := there_free HT_5.out 2 (by decide)
          have q3 := there_free HT_5.out 3 (by decide)
          have q4 := there_free HT_5.out 4 (by decide)
          have q5 := there_free HT_5.out 5 (by decide)
          obtain ⟨y0, hy0⟩ := there_cell HT_5.out 0 (by decide)
          obtain ⟨y1, hy1⟩ := there_cell HT_5.out 1 (by decide)
          obtain ⟨y2, hy2⟩ := there_cell HT_5.out 2 (by decide)
          obtain ⟨y3, hy3⟩ := there_cell HT_5.out 3 (by decide)
          obtain ⟨y4, hy4⟩ := there_cell HT_5.out 4 (by decide)
          obtain ⟨y5, hy5⟩ := there_cell HT_5.out 5 (by decide)
          have HB_6 : Hid (Below w5.heap.size w5 (w_5.setCells w_3.heap.size 0 [.string s2, .slice a2 L2.length m2, .int .i64 l2, .int .u32 c2, .int .i64 f2, .int .i64 t2])) := Lib.hid (below_puts (g := w_3.heap.size) (o := 0) HB_5.out hG_4 [.string s2, .slice a2 L2.length m2, .int .i64 l2, .int .u32 c2, .int .i64 f2, .int .i64 t2])
          have HZ_6 := Lib.hid (below_puts_base (g := w_3.heap.size) (o := 0) (Below.refl 0 w_5) (Nat.zero_le _) [.string s2, .slice a2 L2.length m2, .int .i64 l2, .int .u32 c2, .int .i64 f2, .int .i64 t2]).size
          have HC_6 := Lib.hid (c6_puts w_5 w_3.heap.size (.string s2) (.slice a2 L2.length m2) (.int .i64 l2) (.int .u32 c2) (.int .i64 f2) (.int .i64 t2) HT_5.out)
          have HD_6 := Lib.hid (c6_out HC_5.out hNE 0 [.string s2, .slice a2 L2.length m2, .int .i64 l2, .int .u32 c2, .int .i64 f2, .int .i64 t2])
          refine held_step (i := 7) rfl (by kernel_rfl) (fun K hK => ?_)
          go_simp
          refine hK.out _ (w_5.setCells w_3.heap.size 0 [.string s2, .slice a2 L2.length m2, .int .i64 l2, .int .u32 c2, .int .i64 f2, .int .i64 t2]) ⟨keep_cell a0 HB_6.out hlta, keep_cell a1' HB_6.out hlta, keep_cell a2' HB_6.out hlta, keep_cell a3 HB_6.out hlta, keep_cell a4 HB_6.out hlta, keep_cell a5 HB_6.out hlta, keep_cell b0 HB_6.out hltb, keep_cell b1 HB_6.out hltb, keep_cell b2 HB_6.out hltb, keep_cell b3 HB_6.out hltb, keep_cell b4 HB_6.out hltb, keep_cell b5 HB_6.out hltb⟩ (fun hHeld => ?_)
          clear hK K
          (try simp only [Act.put, List.setIfInBounds_toArray, List.set_cons_zero, List.set_cons_succ])
          generalize (w_5.setCells w_3.heap.size 0 [.string s2, .slice a2 L2.length m2, .int .i64 l2, .int .u32 c2, .int .i64 f2, .int .i64 t2]) = w_6 at *
          refine wpAnyH_done (by kernel_rfl) ?_ _
          go_wp2
          go_meet
          exact ⟨w_2.heap.size, w_3.heap.size, rfl, rfl, HD_6.out, HC_6.out, Nat.lt_of_lt_of_le hL4_4 (Nat.le_trans HZ_5.out HZ_6.out), Nat.lt_of_lt_of_le hL_4 (Nat.le_trans HZ_5.out HZ_6.out), HB_6.out⟩
        · have hb_7 := alloc_below w_2 (.cells #[.string ⟨#[]⟩, .slice none 0 0, .int .i64 0, .int .u32 0, .int .i64 0, .int .i64 0] 36)
          have hB_7 := hB_2.trans (hb_7.mono hB_2.size)
          have hT_7 := box_there (Below.refl (w_2.alloc (.cells #[.string ⟨#[]⟩, .slice none 0 0, .int .i64 0, .int .u32 0, .int .i64 0, .int .i64 0] 36)).heap.size (w_2.alloc (.cells #[.string ⟨#[]⟩, .slice none 0 0, .int .i64 0, .int .u32 0, .int .i64 0, .int .i64 0] 36)))
          have hL_7 : w_2.heap.size < (w_2.alloc (.cells #[.string ⟨#[]⟩, .slice none 0 0, .int .i64 0, .int .u32 0, .int .i64 0, .int .i64 0] 36)).heap.size := by rw [World.size_alloc]; omega
          have hG_7 := hB_2.size
          go_simp
          refine hK.out _ _ ⟨keep_cell a0 hB_7 hlta, keep_cell a1' hB_7 hlta, keep_cell a2' hB_7 hlta, keep_cell a3 hB_7 hlta, keep_cell a4 hB_7 hlta, keep_cell a5 hB_7 hlta, keep_cell b0 hB_7 hltb, keep_cell b1 hB_7 hltb, keep_cell b2 hB_7 hltb, keep_cell b3 hB_7 hltb, keep_cell b4 hB_7 hltb, keep_cell b5 hB_7 hltb⟩ (fun hHeld => ?_)
          clear hK K
          (try simp only [Act.put, List.setIfInBounds_toArray, List.set_cons_zero, List.set_cons_succ])
          generalize w_2.alloc (.cells #[.string ⟨#[]⟩, .slice none 0 0, .int .i64 0, .int .u32 0, .int .i64 0, .int .i64 0] 36) = w_7 at *
          refine held_step (i := 4) rfl (by kernel_rfl) (fun K hK => ?_)
          have hb_8 := alloc_below w_7 (.cells #[.string ⟨#[]⟩, .slice none 0 0, .int .i64 0, .int .u32 0, .int .i64 0, .int .i64 0] 36)
          have hB_8 := hB_7.trans (hb_8.mono hB_7.size)
          have hT_8 := box_there (Below.refl (w_7.alloc (.cells #[.string ⟨#[]⟩, .slice none 0 0, .int .i64 0, .int .u32 0, .int .i64 0, .int .i64 0] 36)).heap.size (w_7.alloc (.cells #[.string ⟨#[]⟩, .slice none 0 0, .int .i64 0, .int .u32 0, .int .i64 0, .int .i64 0] 36)))
          have hL_8 : w_7.heap.size < (w_7.alloc (.cells #[.string ⟨#[]⟩, .slice none 0 0, .int .i64 0, .int .u32 0, .int .i64 0, .int .i64 0] 36)).heap.size := by rw [World.size_alloc]; omega
          have hG_8 := hB_7.size
          have hT5_8 := there_later hT_7 hb_8 hL_7
          have hL5_8 := Nat.lt_of_lt_of_le hL_7 hb_8.size
          have hN_8 : w_7.heap.size ≠ w_2.heap.size := by have := hL_7; omega
          go_simp
          refine hK.out _ _ ⟨keep_cell a0 hB_8 hlta, keep_cell a1' hB_8 hlta, keep_cell a2' hB_8 hlta, keep_cell a3 hB_8 hlta, keep_cell a4 hB_8 hlta, keep_cell a5 hB_8 hlta, keep_cell b0 hB_8 hltb, keep_cell b1 hB_8 hltb, keep_cell b2 hB_8 hltb, keep_cell b3 hB_8 hltb, keep_cell b4 hB_8 hltb, keep_cell b5 hB_8 hltb⟩ (fun hHeld => ?_)
          clear hK K
          (try simp only [Act.put, List.setIfInBounds_toArray, List.set_cons_zero, List.set_cons_succ])
          generalize w_7.alloc (.cells #[.string ⟨#[]⟩, .slice none 0 0, .int .i64 0, .int .u32 0, .int .i64 0, .int .i64 0] 36) = w_8 at *
          have hNE := hN_8
          have q0 := there_free hT_8 0 (by decide)
          have q1 := there_free hT_8 1 (by decide)
          have q2 := there_free hT_8 2 (by decide)
          have q3 := there_free hT_8 3 (by decide)
          have q4 := there_free hT_8 4 (by decide)
          have q5 := there_free hT_8 5 (by decide)
          obtain ⟨y0, hy0⟩ := there_cell hT_8 0 (by decide)
          obtain ⟨y1, hy1⟩ := there_cell hT_8 1 (by decide)
          obtain ⟨y2, hy2⟩ := there_cell hT_8 2 (by decide)
          obtain ⟨y3, hy3⟩ := there_cell hT_8 3 (by decide)
          obtain ⟨y4, hy4⟩ := there_cell hT_8 4 (by decide)
          obtain ⟨y5, hy5⟩ := there_cell hT_8 5 (by decide)
          have HB_9 : Hid (Below w5.heap.size w5 (w_8.setCells w_7.heap.size 0 [.string s1, .slice a1 L1.length m1, .int .i64 l1, .int .u32 c1, .int .i64 f1, .int .i64 t1])) := Lib.hid (below_puts (g := w_7.heap.size) (o := 0) hB_8 hG_8 [.string s1, .slice a1 L1.length m1, .int .i64 l1, .int .u32 c1, .int .i64 f1, .int .i64 t1])
          have HZ_9 := Lib.hid (below_puts_base (g := w_7.heap.size) (o := 0) (Below.refl 0 w_8) (Nat.zero_le _) [.string s1, .slice a1 L1.length m1, .int .i64 l1, .int .u32 c1, .int .i64 f1, .int .i64 t1]).size
          have HC_9 := Lib.hid (c6_puts w_8 w_7.heap.size (.string s1) (.slice a1 L1.length m1) (.int .i64 l1) (.int .u32 c1) (.int .i64 f1) (.int .i64 t1) hT_8)
          have HT_9 := Lib.hid (World.there_setCells hT5_8 w_7.heap.size 0 [.string s1, .slice a1 L1.length m1, .int .i64 l1, .int .u32 c1, .int .i64 f1, .int .i64 t1])
          refine held_step (i := 6) rfl (by kernel_rfl) (fun K hK => ?_)
          go_simp
          refine hK.out _ (w_8.setCells w_7.heap.size 0 [.string s1, .slice a1 L1.length m1, .int .i64 l1, .int .u32 c1, .int .i64 f1, .int .i64 t1]) ⟨keep_cell a0 HB_9.out hlta, keep_cell a1' HB_9.out hlta, keep_cell a2' HB_9.out hlta, keep_cell a3 HB_9.out hlta, keep_cell a4 HB_9.out hlta, keep_cell a5 HB_9.out hlta, keep_cell b0 HB_9.out hltb, keep_cell b1 HB_9.out hltb, keep_cell b2 HB_9.out hltb, keep_cell b3 HB_9.out hltb, keep_cell b4 HB_9.out hltb, keep_cell b5 HB_9.out hltb⟩ (fun hHeld => ?_)
          clear hK K
          (try simp only [Act.put, List.setIfInBounds_toArray, List.set_cons_zero, List.set_cons_succ])
          generalize (w_8.setCells w_7.heap.size 0 [.string s1, .slice a1 L1.length m1, .int .i64 l1, .int .u32 c1, .int .i64 f1, .int .i64 t1]) = w_9 at *
          clear q0 q1 q2 q3 q4 q5 hy0 hy1 hy2 hy3 hy4 hy5 y0 y1 y2 y3 y4 y5
          have q0 := there_free HT_9.out 0 (by decide)
          have q1 := there_free HT_9.out 1 (by decide)
          have q2 := there_free HT_9.out 2 (by decide)
          have q3 := there_free HT_9.out 3 (by decide)
          have q4 := there_free HT_9.out 4 (by decide)
          have q5 := there_free HT_9.out 5 (by decide)
          obtain ⟨y0, hy0⟩ := there_cell HT_9.out 0 (by decide)
          obtain ⟨y1, hy1⟩ := there_cell HT_9.out 1 (by decide)
          obtain ⟨y2, hy2⟩ := there_cell HT_9.out 2 (by decide)
          obtain ⟨y3, hy3⟩ := there_cell HT_9.out 3 (by decide)
          obtain ⟨y4, hy4⟩ := there_cell HT_9.out 4 (by decide)
          obtain ⟨y5, hy5⟩ := there_cell HT_9.out 5 (by decide)
          have HB_10 : Hid (Below w5.heap.size w5 (w_9.setCells w_2.heap.size 0 [.string s2, .slice a2 L2.length m2, .int .i64 l2, .int .u32 c2, .int .i64 f2, .int .i64 t2])) := Lib.hid (below_puts (g := w_2.heap.size) (o := 0) HB_9.out hG_7 [.string s2, .slice a2 L2.length m2, .int .i64 l2, .int .u32 c2, .int .i64 f2, .int .i64 t2])
          have HZ_10 := Lib.hid (below_puts_base (g := w_2.heap.size) (o := 0) (Below.refl 0 w_9) (Nat.zero_le _) [.string s2, .slice a2 L2.length m2, .int .i64 l2, .int .u32 c2, .int .i64 f2, .int .i64 t2]).size
          have HC_10 := Lib.hid (c6_puts w_9 w_2.heap.size (.string s2) (.slice a2 L2.length m2) (.int .i64 l2) (.int .u32 c2) (.int .i64 f2) (.int .i64 t2) HT_9.out)
          have HD_10 := Lib.hid (c6_out HC_9.out hNE 0 [.string s2, .slice a2 L2.length m2, .int .i64 l2, .int .u32 c2, .int .i64 f2, .int .i64 t2])
          refine held_step (i := 7) rfl (by kernel_rfl) (fun K hK => ?_)
          go_simp
          refine hK.out _ (w_9.setCells w_2.heap.size 0 [.string s2, .slice a2 L2.length m2, .int .i64 l2, .int .u32 c2, .int .i64 f2, .int .i64 t2]) ⟨keep_cell a0 HB_10.out hlta, keep_cell a1' HB_10.out hlta, keep_cell a2' HB_10.out hlta, keep_cell a3 HB_10.out hlta, keep_cell a4 HB_10.out hlta, keep_cell a5 HB_10.out hlta, keep_cell b0 HB_10.out hltb, keep_cell b1 HB_10.out hltb, keep_cell b2 HB_10.out hltb, keep_cell b3 HB_10.out hltb, keep_cell b4 HB_10.out hltb, keep_cell b5 HB_10.out hltb⟩ (fun hHeld => ?_)
          clear hK K
          (try simp only [Act.put, List.setIfInBounds_toArray, List.set_cons_zero, List.set_cons_succ])
          generalize (w_9.setCells w_2.heap.size 0 [.string s2, .slice a2 L2.length m2, .int .i64 l2, .int .u32 c2, .int .i64 f2, .int .i64 t2]) = w_10 at *
          refine wpAnyH_done (by kernel_rfl) ?_ _
          go_wp2
          go_meet
          exact ⟨w_7.heap.size, w_2.heap.size, rfl, rfl, HD_10.out, HC_10.out, Nat.lt_of_lt_of_le hL_8 (Nat.le_trans HZ_9.out HZ_10.out), Nat.lt_of_lt_of_le hL5_8 (Nat.le_trans HZ_9.out HZ_10.out), HB_10.out⟩
      · have hb_11 := alloc_below w_1 (.cells #[.string ⟨#[]⟩, .slice none 0 0, .int .i64 0, .int .u32 0, .int .i64 0, .int .i64 0] 36)
        have hB_11 := hB_1.trans (hb_11.mono hB_1.size)
        have hT_11 := box_there (Below.refl (w_1.alloc (.cells #[.string ⟨#[]⟩, .slice none 0 0, .int .i64 0, .int .u32 0, .int .i64 0, .int .i64 0] 36)).heap.size (w_1.alloc (.cells #[.string ⟨#[]⟩, .slice none 0 0, .int .i64 0, .int .u32 0, .int .i64 0, .int .i64 0] 36)))
        have hL_11 : w_1.heap.size < (w_1.alloc (.cells #[.string ⟨#[]⟩, .slice none 0 0, .int .i64 0, .int .u32 0, .int .i64 0, .int .i64 0] 36)).heap.size := by rw [World.size_alloc]; omega
        have hG_11 := hB_1.size
        go_simp
        refine hK.out _ _ ⟨keep_cell a0 hB_11 hlta, keep_cell a1' hB_11 hlta, keep_cell a2' hB_11 hlta, keep_cell a3 hB_11 hlta, keep_cell a4 hB_11 hlta, keep_cell a5 hB_11 hlta, keep_cell b0 hB_11 hltb, keep_cell b1 hB_11 hltb, keep_cell b2 hB_11 hltb, keep_cell b3 hB_11 hltb, keep_cell b4 hB_11 hltb, keep_cell b5 hB_11 hltb⟩ (fun hHeld => ?_)
        clear hK K
        (try simp only [Act.put, List.setIfInBounds_toArray, List.set_cons_zero, List.set_cons_succ])
        generalize w_1.alloc (.cells #[.string ⟨#[]⟩, .slice none 0 0, .int .i64 0, .int .u32 0, .int .i64 0, .int .i64 0] 36) = w_11 at *
        refine held_two (i := 3) (j := 5) rfl rfl (by kernel_rfl) (fun K hK => ?_) (fun K hK => ?_)
        · go_simp; go_at_call 8; refine (K2.out _ hB_11).mono ?_; rintro e w_12 ⟨rfl, hb_12⟩
          have hB_12 := hB_11.trans (hb_12.mono hB_11.size)
          have hT4_12 := there_later hT_11 hb_12 hL_11
          have hL4_12 := Nat.lt_of_lt_of_le hL_11 hb_12.size
          refine hK.out _ _ ⟨keep_cell a0 hB_12 hlta, keep_cell a1' hB_12 hlta, keep_cell a2' hB_12 hlta, keep_cell a3 hB_12 hlta, keep_cell a4 hB_12 hlta, keep_cell a5 hB_12 hlta, keep_cell b0 hB_12 hltb, keep_cell b1 hB_12 hltb, keep_cell b2 hB_12 hltb, keep_cell b3 hB_12 hltb, keep_cell b4 hB_12 hltb, keep_cell b5 hB_12 hltb⟩ (fun hHeld => ?_)
          clear hK K
          (try simp only [Act.put, List.setIfInBounds_toArray, List.set_cons_zero, List.set_cons_succ])
          refine held_step (i := 5) rfl (by kernel_rfl) (fun K hK => ?_)
          have hb_13 := alloc_below w_12 (.cells #[.string ⟨#[]⟩, .slice none 0 0, .int .i64 0, .int .u32 0, .int .i64 0, .int .i64 0] 36)
          have hB_13 := hB_12.trans (hb_13.mono hB_12.size)
          have hT_13 := box_there (Below.refl (w_12.alloc (.cells #[.string ⟨#[]⟩, .slice none 0 0, .int .i64 0, .int .u32 0, .int .i64 0, .int .i64 0] 36)).heap.size (w_12.alloc (.cells #[.string ⟨#[]⟩, .slice none 0 0, .int .i64 0, .int .u32 0, .int .i64 0, .int .i64 0] 36)))
          have hL_13 : w_12.heap.size < (w_12.alloc (.cells #[.string ⟨#[]⟩, .slice none 0 0, .int .i64 0, .int .u32 0, .int .i64 0, .int .i64 0] 36)).heap.size := by rw [World.size_alloc]; omega
          have hG_13 := hB_12.size
          have hT4_13 := there_later hT4_12 hb_13 hL4_12
          have hL4_13 := Nat.lt_of_lt_of_le hL4_12 hb_13.size
          have hN_13 : w_1.heap.size ≠ w_12.heap.size := by have := hL4_12; omega
          go_simp
          refine hK.out _ _ ⟨keep_cell a0 hB_13 hlta, keep_cell a1' hB_13 hlta, keep_cell a2' hB_13 hlta, keep_cell a3 hB_13 hlta, keep_cell a4 hB_13 hlta, keep_cell a5 hB_13 hlta, keep_cell b0 hB_13 hltb, keep_cell b1 hB_13 hltb, keep_cell b2 hB_13 hltb, keep_cell b3 hB_13 hltb, keep_cell b4 hB_13 hltb, keep_cell b5 hB_13 hltb⟩ (fun hHeld => ?_)
          clear hK K
          (try simp only [Act.put, List.setIfInBounds_toArray, List.set_cons_zero, List.set_cons_succ])
          generalize w_12.alloc (.cells #[.string ⟨#[]⟩, .slice none 0 0, .int .i64 0, .int .u32 0, .int .i64 0, .int .i64 0] 36) = w_13 at *
          have hNE := hN_13
          have q0 := there_free hT4_13 0 (by decide)
          have q1 := there_free hT4_13 1 (by decide)
          have q2 := there_free hT4_13 2 (by decide)
          have q3 := there_free hT4_13 3 (by decide)
          have q4 := there_free hT4_13 4 (by decide)
          have q5 := there_free hT4_13 5 (by decide)
          obtain ⟨y0, hy0⟩ := there_cell hT4_13 0 (by decide)
          obtain ⟨y1, hy1⟩ := there_cell hT4_13 1 (by decide)
          obtain ⟨y2, hy2⟩ := there_cell hT4_13 2 (by decide)
          obtain ⟨y3, hy3⟩ := there_cell hT4_13 3 (by decide)
          obtain ⟨y4, hy4⟩ := there_cell hT4_13 4 (by decide)
          obtain ⟨y5, hy5⟩ := there_cell hT4_13 5 (by decide)
          have HB_14 : Hid (Below w5.heap.size w5 (w_13.setCells w_1.heap.size 0 [.string s1, .slice a1 L1.length m1, .int .i64 l1, .int .u32 c1, .int .i64 f1, .int .i64 t1])) := Lib.hid (below_puts (g := w_1.heap.size) (o := 0) hB_13 hG_11 [.string s1, .slice a1 L1.length m1, .int .i64 l1, .int .u32 c1, .int .i64 f1, .int .i64 t1])
          have HZ_14 := Lib.hid (below_puts_base (g := w_1.heap.size) (o := 0) (Below.refl 0 w_13) (Nat.zero_le _) [.string s1, .slice a1 L1.length m1, .int .i64 l1, .int .u32 c1, .int .i64 f1, .int .i64 t1]).size
          have HC_14 := Lib.hid (c6_puts w_13 w_1.heap.size (.string s1) (.slice a1 L1.length m1) (.int .i64 l1) (.int .u32 c1) (.int .i64 f1) (.int .i64 t1) hT4_13)
          have HT_14 := Lib.hid (World.there_setCells hT_13 w_1.heap.size 0 [.string s1, .slice a1 L1.length m1, .int .i64 l1, .int .u32 c1, .int .i64 f1, .int .i64 t1])
          refine held_step (i := 6) rfl (by kernel_rfl) (fun K hK => ?_)
          go_simp
          refine hK.out _ (w_13.setCells w_1.heap.size 0 [.string s1, .slice a1 L1.length m1, .int .i64 l1, .int .u32 c1, .int .i64 f1, .int .i64 t1]) ⟨keep_cell a0 HB_14.out hlta, keep_cell a1' HB_14.out hlta, keep_cell a2' HB_14.out hlta, keep_cell a3 HB_14.out hlta, keep_cell a4 HB_14.out hlta, keep_cell a5 HB_14.out hlta, keep_cell b0 HB_14.out hltb, keep_cell b1 HB_14.out hltb, keep_cell b2 HB_14.out hltb, keep_cell b3 HB_14.out hltb, keep_cell b4 HB_14.out hltb, keep_cell b5 HB_14.out hltb⟩ (fun hHeld => ?_)
          clear hK K
          (try simp only [Act.put, List.setIfInBounds_toArray, List.set_cons_zero, List.set_cons_succ])
          generalize (w_13.setCells w_1.heap.size 0 [.string s1, .slice a1 L1.length m1, .int .i64 l1, .int .u32 c1, .int .i64 f1, .int .i64 t1]) = w_14 at *
          clear q0 q1 q2 q3 q4 q5 hy0 hy1 hy2 hy3 hy4 hy5 y0 y1 y2 y3 y4 y5
          have q0 := there_free HT_14.out 0 (by decide)
          have q1 := there_free HT_14.out 1 (by decide)
          have q2 := there_free HT_14.out 2 (by decide)
          have q3 := there_free HT_14.out 3 (by decide)
          have q4 := there_free HT_14.out 4 (by decide)
          have q5 := there_free HT_14.out 5 (by decide)
          obtain ⟨y0, hy0⟩ := there_cell HT_14.out 0 (by decide)
          obtain ⟨y1, hy1⟩ := there_cell HT_14.out 1 (by decide)
          obtain ⟨y2, hy2⟩ := there_cell HT_14.out 2 (by decide)
          obtain ⟨y3, hy3⟩ := there_cell HT_14.out 3 (by decide)
          obtain ⟨y4, hy4⟩ := there_cell HT_14.out 4 (by decide)
          obtain ⟨y5, hy5⟩ := there_cell HT_14.out 5 (by decide)
          have HB_15 : Hid (Below w5.heap.size w5 (w_14.setCells w_12.heap.size 0 [.string s2, .slice a2 L2.length m2, .int .i64 l2, .int .u32 c2, .int .i64 f2, .int .i64 t2])) := Lib.hid (below_puts (g := w_12.heap.size) (o := 0) HB_14.out hG_13 [.string s2, .slice a2 L2.length m2, .int .i64 l2, .int .u32 c2, .int .i64 f2, .int .i64 t2])
          have HZ_15 := Lib.hid (below_puts_base (g := w_12.heap.size) (o := 0) (Below.refl 0 w_14) (Nat.zero_le _) [.string s2, .slice a2 L2.length m2, .int .i64 l2, .int .u32 c2, .int .i64 f2, .int .i64 t2]).size
          have HC_15 := Lib.hid (c6_puts w_14 w_12.heap.size (.string s2) (.slice a2 L2.length m2) (.int .i64 l2) (.int .u32 c2) (.int .i64 f2) (.int .i64 t2) HT_14.out)
          have HD_15 := Lib.hid (c6_out HC_14.out hNE 0 [.string s2, .slice a2 L2.length m2, .int .i64 l2, .int .u32 c2, .int .i64 f2, .int .i64 t2])
          refine held_step (i := 7) rfl (by kernel_rfl) (fun K hK => ?_)
          go_simp
          refine hK.out _ (w_14.setCells w_12.heap.size 0 [.string s2, .slice a2 L2.length m2, .int .i64 l2, .int .u32 c2, .int .i64 f2, .int .i64 t2]) ⟨keep_cell a0 HB_15.out hlta, keep_cell a1' HB_15.out hlta, keep_cell a2' HB_15.out hlta, keep_cell a3 HB_15.out hlta, keep_cell a4 HB_15.out hlta, keep_cell a5 HB_15.out hlta, keep_cell b0 HB_15.out hltb, keep_cell b1 HB_15.out hltb, keep_cell b2 HB_15.out hltb, keep_cell b3 HB_15.out hltb, keep_cell b4 HB_15.out hltb, keep_cell b5 HB_15.out hltb⟩ (fun hHeld => ?_)
          clear hK K
          (try simp only [Act.put, List.setIfInBounds_toArray, List.set_cons_zero, List.set_cons_succ])
          generalize (w_14.setCells w_12.heap.size 0 [.string s2, .slice a2 L2.length m2, .int .i64 l2, .int .u32 c2, .int .i64 f2, .int .i64 t2]) = w_15 at *
          refine wpAnyH_done (by kernel_rfl) ?_ _
          go_wp2
          go_meet
          exact ⟨w_1.heap.size, w_12.heap.size, rfl, rfl, HD_15.out, HC_15.out, Nat.lt_of_lt_of_le hL4_13 (Nat.le_trans HZ_14.out HZ_15.out), Nat.lt_of_lt_of_le hL_13 (Nat.le_trans HZ_14.out HZ_15.out), HB_15.out⟩
        · have hb_16 := alloc_below w_11 (.cells #[.string ⟨#[]⟩, .slice none 0 0, .int .i64 0, .int .u32 0, .int .i64 0, .int .i64 0] 36)
          have hB_16 := hB_11.trans (hb_16.mono hB_11.size)
          have hT_16 := box_there (Below.refl (w_11.alloc (.cells #[.string ⟨#[]⟩, .slice none 0 0, .int .i64 0, .int .u32 0, .int .i64 0, .int .i64 0] 36)).heap.size (w_11.alloc (.cells #[.string ⟨#[]⟩, .slice none 0 0, .int .i64 0, .int .u32 0, .int .i64 0, .int .i64 0] 36)))
          have hL_16 : w_11.heap.size < (w_11.alloc (.cells #[.string ⟨#[]⟩, .slice none 0 0, .int .i64 0, .int .u32 0, .int .i64 0, .int .i64 0] 36)).heap.size := by rw [World.size_alloc]; omega
          have hG_16 := hB_11.size
          have hT4_16 := there_later hT_11 hb_16 hL_11
          have hL4_16 := Nat.lt_of_lt_of_le hL_11 hb_16.size
          have hN_16 : w_1.heap.size ≠ w_11.heap.size := by have := hL_11; omega
          go_simp
          refine hK.out _ _ ⟨keep_cell a0 hB_16 hlta, keep_cell a1' hB_16 hlta, keep_cell a2' hB_16 hlta, keep_cell a3 hB_16 hlta, keep_cell a4 hB_16 hlta, keep_cell a5 hB_16 hlta, keep_cell b0 hB_16 hltb, keep_cell b1 hB_16 hltb, keep_cell b2 hB_16 hltb, keep_cell b3 hB_16 hltb, keep_cell b4 hB_16 hltb, keep_cell b5 hB_16 hltb⟩ (fun hHeld => ?_)
          clear hK K
          (try simp only [Act.put, List.setIfInBounds_toArray, List.set_cons_zero, List.set_cons_succ])
          generalize w_11.alloc (.cells #[.string ⟨#[]⟩, .slice none 0 0, .int .i64 0, .int .u32 0, .int .i64 0, .int .i64 0] 36) = w_16 at *
          refine held_step (i := 3) rfl (by kernel_rfl) (fun K hK => ?_)
          go_simp; go_at_call 8; refine (K2.out _ hB_16).mono ?_; rintro e w_17 ⟨rfl, hb_17⟩
          have hB_17 := hB_16.trans (hb_17.mono hB_16.size)
          have hT4_17 := there_later hT4_16 hb_17 hL4_16
          have hL4_17 := Nat.lt_of_lt_of_le hL4_16 hb_17.size
          have hT5_17 := there_later hT_16 hb_17 hL_16
          have hL5_17 := Nat.lt_of_lt_of_le hL_16 hb_17.size
          refine hK.out _ _ ⟨keep_cell a0 hB_17 hlta, keep_cell a1' hB_17 hlta, keep_cell a2' hB_17 hlta, keep_cell a3 hB_17 hlta, keep_cell a4 hB_17 hlta, keep_cell a5 hB_17 hlta, keep_cell b0 hB_17 hltb, keep_cell b1 hB_17 hltb, keep_cell b2 hB_17 hltb, keep_cell b3 hB_17 hltb, keep_cell b4 hB_17 hltb, keep_cell b5 hB_17 hltb⟩ (fun hHeld => ?_)
          clear hK K
          (try simp only [Act.put, List.setIfInBounds_toArray, List.set_cons_zero, List.set_cons_succ])
          have hNE := hN_16
          have q0 := there_free hT4_17 0 (by decide)
          have q1 := there_free hT4_17 1 (by decide)
          have q2 := there_free hT4_17 2 (by decide)
          have q3 := there_free hT4_17 3 (by decide)
          have q4 := there_free hT4_17 4 (by decide)
          have q5 := there_free hT4_17 5 (by decide)
          obtain ⟨y0, hy0⟩ := there_cell hT4_17 0 (by decide)
          obtain ⟨y1, hy1⟩ := there_cell hT4_17 1 (by decide)
          obtain ⟨y2, hy2⟩ := there_cell hT4_17 2 (by decide)
          obtain ⟨y3, hy3⟩ := there_cell hT4_17 3 (by decide)
          obtain ⟨y4, hy4⟩ := there_cell hT4_17 4 (by decide)
          obtain ⟨y5, hy5⟩ := there_cell hT4_17 5 (by decide)
          have HB_18 : Hid (Below w5.heap.size w5 (w_17.setCells w_1.heap.size 0 [.string s1, .slice a1 L1.length m1, .int .i64 l1, .int .u32 c1, .int .i64 f1, .int .i64 t1])) := Lib.hid (below_puts (g := w_1.heap.size) (o := 0) hB_17 hG_11 [.string s1, .slice a1 L1.length m1, .int .i64 l1, .int .u32 c1, .int .i64 f1, .int .i64 t1])
          have HZ_18 := Lib.hid (below_puts_base (g := w_1.heap.size) (o := 0) (Below.refl 0 w_17) (Nat.zero_le _) [.string s1, .slice a1 L1.length m1, .int .i64 l1, .int .u32 c1, .int .i64 f1, .int .i64 t1]).size
          have HC_18 := Lib.hid (c6_puts w_17 w_1.heap.size (.string s1) (.slice a1 L1.length m1) (.int .i64 l1) (.int .u32 c1) (.int .i64 f1) (.int .i64 t1) hT4_17)
          have HT_18 := Lib.hid (World.there_setCells hT5_17 w_1.heap.size 0 [.string s1, .slice a1 L1.length m1, .int .i64 l1, .int .u32 c1, .int .i64 f1, .int .i64 t1])
          refine held_step (i := 6) rfl (by kernel_rfl) (fun K hK => ?_)
          go_simp
          refine hK.out _ (w_17.setCells w_1.heap.size 0 [.string s1, .slice a1 L1.length m1, .int .i64 l1, .int .u32 c1, .int .i64 f1, .int .i64 t1]) ⟨keep_cell a0 HB_18.out hlta, keep_cell a1' HB_18.out hlta, keep_cell a2' HB_18.out hlta, keep_cell a3 HB_18.out hlta, keep_cell a4 HB_18.out hlta, keep_cell a5 HB_18.out hlta, keep_cell b0 HB_18.out hltb, keep_cell b1 HB_18.out hltb, keep_cell b2 HB_18.out hltb, keep_cell b3 HB_18.out hltb, keep_cell b4 HB_18.out hltb, keep_cell b5 HB_18.out hltb⟩ (fun hHeld => ?_)
          clear hK K
          (try simp only [Act.put, List.setIfInBounds_toArray, List.set_cons_zero, List.set_cons_succ])
          generalize (w_17.setCells w_1.heap.size 0 [.string s1, .slice a1 L1.length m1, .int .i64 l1, .int .u32 c1, .int .i64 f1, .int .i64 t1]) = w_18 at *
          clear q0 q1 q2 q3 q4 q5 hy0 hy1 hy2 hy3 hy4 hy5 y0 y1 y2 y3 y4 y5
          have q0 := there_free HT_18.out 0 (by decide)
          have q1 := there_free HT_18.out 1 (by decide)
          have q2 := there_free HT_18.out 2 (by decide)
          have q3 := there_free HT_18.out 3 (by decide)
          have q4 := there_free HT_18.out 4 (by decide)
          have q5 := there_free HT_18.out 5 (by decide)
          obtain ⟨y0, hy0⟩ := there_cell HT_18.out 0 (by decide)
          obtain ⟨y1, hy1⟩ := there_cell HT_18.out 1 (by decide)
          obtain ⟨y2, hy2⟩ := there_cell HT_18.out 2 (by decide)
          obtain ⟨y3, hy3⟩ := there_cell HT_18.out 3 (by decide)
          obtain ⟨y4, hy4⟩ := there_cell HT_18.out 4 (by decide)
          obtain ⟨y5, hy5⟩ := there_cell HT_18.out 5 (by decide)
          have HB_19 : Hid (Below w5.heap.size w5 (w_18.setCells w_11.heap.size 0 [.string s2, .slice a2 L2.length m2, .int .i64 l2, .int .u32 c2, .int .i64 f2, .int .i64 t2])) := Lib.hid (below_puts (g := w_11.heap.size) (o := 0) HB_18.out hG_16 [.string s2, .slice a2 L2.length m2, .int .i64 l2, .int .u32 c2, .int .i64 f2, .int .i64 t2])
          have HZ_19 := Lib.hid (below_puts_base (g := w_11.heap.size) (o := 0) (Below.refl 0 w_18) (Nat.zero_le _) [.string s2, .slice a2 L2.length m2, .int .i64 l2, .int .u32 c2, .int .i64 f2, .int .i64 t2]).size
          have HC_19 := Lib.hid (c6_puts w_18 w_11.heap.size (.string s2) (.slice a2 L2.length m2) (.int .i64 l2) (.int .u32 c2) (.int .i64 f2) (.int .i64 t2) HT_18.out)
          have HD_19 := Lib.hid (c6_out HC_18.out hNE 0 [.string s2, .slice a2 L2.length m2, .int .i64 l2, .int .u32 c2, .int .i64 f2, .int .i64 t2])
          refine held_step (i := 7) rfl (by kernel_rfl) (fun K hK => ?_)
          go_simp
          refine hK.out _ (w_18.setCells w_11.heap.size 0 [.string s2, .slice a2 L2.length m2, .int .i64 l2, .int .u32 c2, .int .i64 f2, .int .i64 t2]) ⟨keep_cell a0 HB_19.out hlta, keep_cell a1' HB_19.out hlta, keep_cell a2' HB_19.out hlta, keep_cell a3 HB_19.out hlta, keep_cell a4 HB_19.out hlta, keep_cell a5 HB_19.out hlta, keep_cell b0 HB_19.out hltb, keep_cell b1 HB_19.out hltb, keep_cell b2 HB_19.out hltb, keep_cell b3 HB_19.out hltb, keep_cell b4 HB_19.out hltb, keep_cell b5 HB_19.out hltb⟩ (fun hHeld => ?_)
          clear hK K
          (try simp only [Act.put, List.setIfInBounds_toArray, List.set_cons_zero, List.set_cons_succ])
          generalize (w_18.setCells w_11.heap.size 0 [.string s2, .slice a2 L2.length m2, .int .i64 l2, .int .u32 c2, .int .i64 f2, .int .i64 t2]) = w_19 at *
          refine wpAnyH_done (by kernel_rfl) ?_ _
          go_wp2
          go_meet
          exact ⟨w_1.heap.size, w_11.heap.size, rfl, rfl, HD_19.out, HC_19.out, Nat.lt_of_lt_of_le hL4_17 (Nat.le_trans HZ_18.out HZ_19.out), Nat.lt_of_lt_of_le hL5_17 (Nat.le_trans HZ_18.out HZ_19.out), HB_19.out⟩
      · have hb_20 := alloc_below w_1 (.cells #[.string ⟨#[]⟩, .slice none 0 0, .int .i64 0, .int .u32 0, .int .i64 0, .int .i64 0] 36)
        have hB_20 := hB_1.trans (hb_20.mono hB_1.size)
        have hT_20 := box_there (Below.refl (w_1.alloc (.cells #[.string ⟨#[]⟩, .slice none 0 0, .int .i64 0, .int .u32 0, .int .i64 0, .int .i64 0] 36)).heap.size (w_1.alloc (.cells #[.string ⟨#[]⟩, .slice none 0 0, .int .i64 0, .int .u32 0, .int .i64 0, .int .i64 0] 36)))
        have hL_20 : w_1.heap.size < (w_1.alloc (.cells #[.string ⟨#[]⟩, .slice none 0 0, .int .i64 0, .int .u32 0, .int .i64 0, .int .i64 0] 36)).heap.size := by rw [World.size_alloc]; omega
        have hG_20 := hB_1.size
        go_simp
        refine hK.out _ _ ⟨keep_cell a0 hB_20 hlta, keep_cell a1' hB_20 hlta, keep_cell a2' hB_20 hlta, keep_cell a3 hB_20 hlta, keep_cell a4 hB_20 hlta, keep_cell a5 hB_20 hlta, keep_cell b0 hB_20 hltb, keep_cell b1 hB_20 hltb, keep_cell b2 hB_20 hltb, keep_cell b3 hB_20 hltb, keep_cell b4 hB_20 hltb, keep_cell b5 hB_20 hltb⟩ (fun hHeld => ?_)
        clear hK K
        (try simp only [Act.put, List.setIfInBounds_toArray, List.set_cons_zero, List.set_cons_succ])
        generalize w_1.alloc (.cells #[.string ⟨#[]⟩, .slice none 0 0, .int .i64 0, .int .u32 0, .int .i64 0, .int .i64 0] 36) = w_20 at *
        refine held_two (i := 3) (j := 4) rfl rfl (by kernel_rfl) (fun K hK => ?_) (fun K hK => ?_)
        · go_simp; go_at_call 8; refine (K2.out _ hB_20).mono ?_; rintro e w_21 ⟨rfl, hb_21⟩
          have hB_21 := hB_20.trans (hb_21.mono hB_20.size)
          have hT5_21 := there_later hT_20 hb_21 hL_20
          have hL5_21 := Nat.lt_of_lt_of_le hL_20 hb_21.size
          refine hK.out _ _ ⟨keep_cell a0 hB_21 hlta, keep_cell a1' hB_21 hlta, keep_cell a2' hB_21 hlta, keep_cell a3 hB_21 hlta, keep_cell a4 hB_21 hlta, keep_cell a5 hB_21 hlta, keep_cell b0 hB_21 hltb, keep_cell b1 hB_21 hltb, keep_cell b2 hB_21 hltb, keep_cell b3 hB_21 hltb, keep_cell b4 hB_21 hltb, keep_cell b5 hB_21 hltb⟩ (fun hHeld => ?_)
          clear hK K
          (try simp only [Act.put, List.setIfInBounds_toArray, List.set_cons_zero, List.set_cons_succ])
          refine held_step (i := 4) rfl (by kernel_rfl) (fun K hK => ?_)
          have hb_22 := alloc_below w_21 (.cells #[.string ⟨#[]⟩, .slice none 0 0, .int .i64 0, .int .u32 0, .int .i64 0, .int .i64 0] 36)
          have hB_22 := hB_21.trans (hb_22.mono hB_21.size)
          have hT_22 := box_there (Below.refl (w_21.alloc (.cells #[.string ⟨#[]⟩, .slice none 0 0, .int .i64 0, .int .u32 0, .int .i64 0, .int .i64 0] 36)).heap.size (w_21.alloc (.cells #[.string ⟨#[]⟩, .slice none 0 0, .int .i64 0, .int .u32 0, .int .i64 0, .int .i64 0] 36)))
          have hL_22 : w_21.heap.size < (w_21.alloc (.cells #[.string ⟨#[]⟩, .slice none 0 0, .int .i64 0, .int .u32 0, .int .i64 0, .int .i64 0] 36)).heap.size := by rw [World.size_alloc]; omega
          have hG_22 := hB_21.size
          have hT5_22 := there_later hT5_21 hb_22 hL5_21
          have hL5_22 := Nat.lt_of_lt_of_le hL5_21 hb_22.size
          have hN_22 : w_21.heap.size ≠ w_1.heap.size := by have := hL5_21; omega
          go_simp
          refine hK.out _ _ ⟨keep_cell a0 hB_22 hlta, keep_cell a1' hB_22 hlta, keep_cell a2' hB_22 hlta, keep_cell a3 hB_22 hlta, keep_cell a4 hB_22 hlta, keep_cell a5 hB_22 hlta, keep_cell b0 hB_22 hltb, keep_cell b1 hB_22 hltb, keep_cell b2 hB_22 hltb, keep_cell b3 hB_22 hltb, keep_cell b4 hB_22 hltb, keep_cell b5 hB_22 hltb⟩ (fun hHeld => ?_)
          clear hK K
          (try simp only [Act.put, List.setIfInBounds_toArray, List.set_cons_zero, List.set_cons_succ])
          generalize w_21.alloc (.cells #[.string ⟨#[]⟩, .slice none 0 0, .int .i64 0, .int .u32 0, .int .i64 0, .int .i64 0] 36) = w_22 at *
          have hNE := hN_22
          have q0 := there_free hT_22 0 (by decide)
          have q1 := there_free hT_22 1 (by decide)
          have q2 := there_free hT_22 2 (by decide)
          have q3 := there_free hT_22 3 (by decide)
          have q4 := there_free hT_22 4 (by decide)
          have q5 := there_free hT_22 5 (by decide)
          obtain ⟨y0, hy0⟩ := there_cell hT_22 0 (by decide)
          obtain ⟨y1, hy1⟩ := there_cell hT_22 1 (by decide)
          obtain ⟨y2, hy2⟩ := there_cell hT_22 2 (by decide)
          obtain ⟨y3, hy3⟩ := there_cell hT_22 3 (by decide)
          obtain ⟨y4, hy4⟩ := there_cell hT_22 4 (by decide)
          obtain ⟨y5, hy5⟩ := there_cell hT_22 5 (by decide)
          have HB_23 : Hid (Below w5.heap.size w5 (w_22.setCells w_21.heap.size 0 [.string s1, .slice a1 L1.length m1, .int .i64 l1, .int .u32 c1, .int .i64 f1, .int .i64 t1])) := Lib.hid (below_puts (g := w_21.heap.size) (o := 0) hB_22 hG_22 [.string s1, .slice a1 L1.length m1, .int .i64 l1, .int .u32 c1, .int .i64 f1, .int .i64 t1])
          have HZ_23 := Lib.hid (below_puts_base (g := w_21.heap.size) (o := 0) (Below.refl 0 w_22) (Nat.zero_le _) [.string s1, .slice a1 L1.length m1, .int .i64 l1, .int .u32 c1, .int .i64 f1, .int .i64 t1]).size
          have HC_23 := Lib.hid (c6_puts w_22 w_21.heap.size (.string s1) (.slice a1 L1.length m1) (.int .i64 l1) (.int .u32 c1) (.int .i64 f1) (.int .i64 t1) hT_22)
          have HT_23 := Lib.hid (World.there_setCells hT5_22 w_21.heap.size 0 [.string s1, .slice a1 L1.length m1, .int .i64 l1, .int .u32 c1, .int .i64 f1, .int .i64 t1])
          refine held_step (i := 6) rfl (by kernel_rfl) (fun K hK => ?_)
          go_simp
          refine hK.out _ (w_22.setCells w_21.heap.size 0 [.string s1, .slice a1 L1.length m1, .int .i64 l1, .int .u32 c1, .int .i64 f1, .int .i64 t1]) ⟨keep_cell a0 HB_23.out hlta, keep_cell a1' HB_23.out hlta, keep_cell a2' HB_23.out hlta, keep_cell a3 HB_23.out hlta, keep_cell a4 HB_23.out hlta, keep_cell a5 HB_23.out hlta, keep_cell b0 HB_23.out hltb, keep_cell b1 HB_23.out hltb, keep_cell b2 HB_23.out hltb, keep_cell b3 HB_23.out hltb, keep_cell b4 HB_23.out hltb, keep_cell b5 HB_23.out hltb⟩ (fun hHeld => ?_)
          clear hK K
          (try simp only [Act.put, List.setIfInBounds_toArray, List.set_cons_zero, List.set_cons_succ])
          generalize (w_22.setCells w_21.heap.size 0 [.string s1, .slice a1 L1.length m1, .int .i64 l1, .int .u32 c1, .int .i64 f1, .int .i64 t1]) = w_23 at *
          clear q0 q1 q2 q3 q4 q5 hy0 hy1 hy2 hy3 hy4 hy5 y0 y1 y2 y3 y4 y5
          have q0 := there_free HT_23.out 0 (by decide)
          have q1 := there_free HT_23.out 1 (by decide)
          have q2 := there_free HT_23.out 2 (by decide)
          have q3 := there_free HT_23.out 3 (by decide)
          have q4 := there_free HT_23.out 4 (by decide)
          have q5 := there_free HT_23.out 5 (by decide)
          obtain ⟨y0, hy0⟩ := there_cell HT_23.out 0 (by decide)
          obtain ⟨y1, hy1⟩ := there_cell HT_23.out 1 (by decide)
          obtain ⟨y2, hy2⟩ := there_cell HT_23.out 2 (by decide)
          obtain ⟨y3, hy3⟩ := there_cell HT_23.out 3 (by decide)
          obtain ⟨y4, hy4⟩ := there_cell HT_23.out 4 (by decide)
          obtain ⟨y5, hy5⟩ := there_cell HT_23.out 5 (by decide)
          have HB_24 : Hid (Below w5.heap.size w5 (w_23.setCells w_1.heap.size 0 [.string s2, .slice a2 L2.length m2, .int .i64 l2, .int .u32 c2, .int .i64 f2, .int .i64 t2])) := Lib.hid (below_puts (g := w_1.heap.size) (o := 0) HB_23.out hG_20 [.string s2, .slice a2 L2.length m2, .int .i64 l2, .int .u32 c2, .int .i64 f2, .int .i64 t2])
          have HZ_24 := Lib.hid (below_puts_base (g := w_1.heap.size) (o := 0) (Below.refl 0 w_23) (Nat.zero_le _) [.string s2, .slice a2 L2.length m2, .int .i64 l2, .int .u32 c2, .int .i64 f2, .int .i64 t2]).size
          have HC_24 := Lib.hid (c6_puts w_23 w_1.heap.size (.string s2) (.slice a2 L2.length m2) (.int .i64 l2) (.int .u32 c2) (.int .i64 f2) (.int .i64 t2) HT_23.out)
          have HD_24 := Lib.hid (c6_out HC_23.out hNE 0 [.string s2, .slice a2 L2.length m2, .int .i64 l2, .int .u32 c2, .int .i64 f2, .int .i64 t2])
          refine held_step (i := 7) rfl (by kernel_rfl) (fun K hK => ?_)
          go_simp
          refine hK.out _ (w_23.setCells w_1.heap.size 0 [.string s2, .slice a2 L2.length m2, .int .i64 l2, .int .u32 c2, .int .i64 f2, .int .i64 t2]) ⟨keep_cell a0 HB_24.out hlta, keep_cell a1' HB_24.out hlta, keep_cell a2' HB_24.out hlta, keep_cell a3 HB_24.out hlta, keep_cell a4 HB_24.out hlta, keep_cell a5 HB_24.out hlta, keep_cell b0 HB_24.out hltb, keep_cell b1 HB_24.out hltb, keep_cell b2 HB_24.out hltb, keep_cell b3 HB_24.out hltb, keep_cell b4 HB_24.out hltb, keep_cell b5 HB_24.out hltb⟩ (fun hHeld => ?_)
          clear hK K
          (try simp only [Act.put, List.setIfInBounds_toArray, List.set_cons_zero, List.set_cons_succ])
          generalize (w_23.setCells w_1.heap.size 0 [.string s2, .slice a2 L2.length m2, .int .i64 l2, .int .u32 c2, .int .i64 f2, .int .i64 t2]) = w_24 at *
          refine wpAnyH_done (by kernel_rfl) ?_ _
          go_wp2
          go_meet
          exact ⟨w_21.heap.size, w_1.heap.size, rfl, rfl, HD_24.out, HC_24.out, Nat.lt_of_lt_of_le hL_22 (Nat.le_trans HZ_23.out HZ_24.out), Nat.lt_of_lt_of_le hL5_22 (Nat.le_trans HZ_23.out HZ_24.out), HB_24.out⟩
        · have hb_25 := alloc_below w_20 (.cells #[.string ⟨#[]⟩, .slice none 0 0, .int .i64 0, .int .u32 0, .int .i64 0, .int .i64 0] 36)
          have hB_25 := hB_20.trans (hb_25.mono hB_20.size)
          have hT_25 := box_there (Below.refl (w_20.alloc (.cells #[.string ⟨#[]⟩, .slice none 0 0, .int .i64 0, .int .u32 0, .int .i64 0, .int .i64 0] 36)).heap.size (w_20.alloc (.cells #[.string ⟨#[]⟩, .slice none 0 0, .int .i64 0, .int .u32 0, .int .i64 0, .int .i64 0] 36)))
          have hL_25 : w_20.heap.size < (w_20.alloc (.cells #[.string ⟨#[]⟩, .slice none 0 0, .int .i64 0, .int .u32 0, .int .i64 0, .int .i64 0] 36)).heap.size := by rw [World.size_alloc]; omega
          have hG_25 := hB_20.size
          have hT5_25 := there_later hT_20 hb_25 hL_20
          have hL5_25 := Nat.lt_of_lt_of_le hL_20 hb_25.size
          have hN_25 : w_20.heap.size ≠ w_1.heap.size := by have := hL_20; omega
          go_simp
          refine hK.out _ _ ⟨keep_cell a0 hB_25 hlta, keep_cell a1' hB_25 hlta, keep_cell a2' hB_25 hlta, keep_cell a3 hB_25 hlta, keep_cell a4 hB_25 hlta, keep_cell a5 hB_25 hlta, keep_cell b0 hB_25 hltb, keep_cell b1 hB_25 hltb, keep_cell b2 hB_25 hltb, keep_cell b3 hB_25 hltb, keep_cell b4 hB_25 hltb, keep_cell b5 hB_25 hltb⟩ (fun hHeld => ?_)
          clear hK K
          (try simp only [Act.put, List.setIfInBounds_toArray, List.set_cons_zero, List.set_cons_succ])
          generalize w_20.alloc (.cells #[.string ⟨#[]⟩, .slice none 0 0, .int .i64 0, .int .u32 0, .int .i64 0, .int .i64 0] 36) = w_25 at *
          refine held_step (i := 3) rfl (by kernel_rfl) (fun K hK => ?_)
          go_simp; go_at_call 8; refine (K2.out _ hB_25).mono ?_; rintro e w_26 ⟨rfl, hb_26⟩
          have hB_26 := hB_25.trans (hb_26.mono hB_25.size)
          have hT5_26 := there_later hT5_25 hb_26 hL5_25
          have hL5_26 := Nat.lt_of_lt_of_le hL5_25 hb_26.size
          have hT4_26 := there_later hT_25 hb_26 hL_25
          have hL4_26 := Nat.lt_of_lt_of_le hL_25 hb_26.size
          refine hK.out _ _ ⟨keep_cell a0 hB_26 hlta, keep_cell a1' hB_26 hlta, keep_cell a2' hB_26 hlta, keep_cell a3 hB_26 hlta, keep_cell a4 hB_26 hlta, keep_cell a5 hB_26 hlta, keep_cell b0 hB_26 hltb, keep_cell b1 hB_26 hltb, keep_cell b2 hB_26 hltb, keep_cell b3 hB_26 hltb, keep_cell b4 hB_26 hltb, keep_cell b5 hB_26 hltb⟩ (fun hHeld => ?_)
          clear hK K
          (try simp only [Act.put, List.setIfInBounds_toArray, List.set_cons_zero, List.set_cons_succ])
          have hNE := hN_25
          have q0 := there_free hT4_26 0 (by decide)
          have q1 := there_free hT4_26 1 (by decide)
          have q2 := there_free hT4_26 2 (by decide)
          have q3 := there_free hT4_26 3 (by decide)
          have q4 := there_free hT4_26 4 (by decide)
          have q5 := there_free hT4_26 5 (by decide)
          obtain ⟨y0, hy0⟩ := there_cell hT4_26 0 (by decide)
          obtain ⟨y1, hy1⟩ := there_cell hT4_26 1 (by decide)
          obtain ⟨y2, hy2⟩ := there_cell hT4_26 2 (by decide)
          obtain ⟨y3, hy3⟩ := there_cell hT4_26 3 (by decide)
          obtain ⟨y4, hy4⟩ := there_cell hT4_26 4 (by decide)
          obtain ⟨y5, hy5⟩ := there_cell hT4_26 5 (by decide)
          have HB_27 : Hid (Below w5.heap.size w5 (w_26.setCells w_20.heap.size 0 [.string s1, .slice a1 L1.length m1, .int .i64 l1, .int .u32 c1, .int .i64 f1, .int .i64 t1])) := Lib.hid (below_puts (g := w_20.heap.size) (o := 0) hB_26 hG_25 [.string s1, .slice a1 L1.length m1, .int .i64 l1, .int .u32 c1, .int .i64 f1, .int .i64 t1])
          have HZ_27 := Lib.hid (below_puts_base (g := w_20.heap.size) (o := 0) (Below.refl 0 w_26) (Nat.zero_le _) [.string s1, .slice a1 L1.length m1, .int .i64 l1, .int .u32 c1, .int .i64 f1, .int .i64 t1]).size
          have HC_27 := Lib.hid (c6_puts w_26 w_20.heap.size (.string s1) (.slice a1 L1.length m1) (.int .i64 l1) (.int .u32 c1) (.int .i64 f1) (.int .i64 t1) hT4_26)
          have HT_27 := Lib.hid (World.there_setCells hT5_26 w_20.heap.size 0 [.string s1, .slice a1 L1.length m1, .int .i64 l1, .int .u32 c1, .int .i64 f1, .int .i64 t1])
          refine held_step (i := 6) rfl (by kernel_rfl) (fun K hK => ?_)
          go_simp
          refine hK.out _ (w_26.setCells w_20.heap.size 0 [.string s1, .slice a1 L1.length m1, .int .i64 l1, .int .u32 c1, .int .i64 f1, .int .i64 t1]) ⟨keep_cell a0 HB_27.out hlta, keep_cell a1' HB_27.out hlta, keep_cell a2' HB_27.out hlta, keep_cell a3 HB_27.out hlta, keep_cell a4 HB_27.out hlta, keep_cell a5 HB_27.out hlta, keep_cell b0 HB_27.out hltb, keep_cell b1 HB_27.out hltb, keep_cell b2 HB_27.out hltb, keep_cell b3 HB_27.out hltb, keep_cell b4 HB_27.out hltb, keep_cell b5 HB_27.out hltb⟩ (fun hHeld => ?_)
          clear hK K
          (try simp only [Act.put, List.setIfInBounds_toArray, List.set_cons_zero, List.set_cons_succ])
          generalize (w_26.setCells w_20.heap.size 0 [.string s1, .slice a1 L1.length m1, .int .i64 l1, .int .u32 c1, .int .i64 f1, .int .i64 t1]) = w_27 at *
          clear q0 q1 q2 q3 q4 q5 hy0 hy1 hy2 hy3 hy4 hy5 y0 y1 y2 y3 y4 y5
          have q0 := there_free HT_27.out 0 (by decide)
          have q1 := there_free HT_27.out 1 (by decide)
          have q2 := there_free HT_27.out 2 (by decide)
          have q3 := there_free HT_27.out 3 (by decide)
          have q4 := there_free HT_27.out 4 (by decide)
          have q5 := there_free HT_27.out 5 (by decide)
          obtain ⟨y0, hy0⟩ := there_cell HT_27.out 0 (by decide)
          obtain ⟨y1, hy1⟩ := there_cell HT_27.out 1 (by decide)
          obtain ⟨y2, hy2⟩ := there_cell HT_27.out 2 (by decide)
          obtain ⟨y3, hy3⟩ := there_cell HT_27.out 3 (by decide)
          obtain ⟨y4, hy4⟩ := there_cell HT_27.out 4 (by decide)
          obtain ⟨y5, hy5⟩ := there_cell HT_27.out 5 (by decide)
          have HB_28 : Hid (Below w5.heap.size w5 (w_27.setCells w_1.heap.size 0 [.string s2, .slice a2 L2.length m2, .int .i64 l2, .int .u32 c2, .int .i64 f2, .int .i64 t2])) := Lib.hid (below_puts (g := w_1.heap.size) (o := 0) HB_27.out hG_20 [.string s2, .slice a2 L2.length m2, .int .i64 l2, .int .u32 c2, .int .i64 f2, .int .i64 t2])
          have HZ_28 := Lib.hid (below_puts_base (g := w_1.heap.size) (o := 0) (Below.refl 0 w_27) (Nat.zero_le _) [.string s2, .slice a2 L2.length m2, .int .i64 l2, .int .u32 c2, .int .i64 f2, .int .i64 t2]).size
          have HC_28 := Lib.hid (c6_puts w_27 w_1.heap.size (.string s2) (.slice a2 L2.length m2) (.int .i64 l2) (.int .u32 c2) (.int .i64 f2) (.int .i64 t2) HT_27.out)
          have HD_28 := Lib.hid (c6_out HC_27.out hNE 0 [.string s2, .slice a2 L2.length m2, .int .i64 l2, .int .u32 c2, .int .i64 f2, .int .i64 t2])
          refine held_step (i := 7) rfl (by kernel_rfl) (fun K hK => ?_)
          go_simp
          refine hK.out _ (w_27.setCells w_1.heap.size 0 [.string s2, .slice a2 L2.length m2, .int .i64 l2, .int .u32 c2, .int .i64 f2, .int .i64 t2]) ⟨keep_cell a0 HB_28.out hlta, keep_cell a1' HB_28.out hlta, keep_cell a2' HB_28.out hlta, keep_cell a3 HB_28.out hlta, keep_cell a4 HB_28.out hlta, keep_cell a5 HB_28.out hlta, keep_cell b0 HB_28.out hltb, keep_cell b1 HB_28.out hltb, keep_cell b2 HB_28.out hltb, keep_cell b3 HB_28.out hltb, keep_cell b4 HB_28.out hltb, keep_cell b5 HB_28.out hltb⟩ (fun hHeld => ?_)
          clear hK K
          (try simp only [Act.put, List.setIfInBounds_toArray, List.set_cons_zero, List.set_cons_succ])
          generalize (w_27.setCells w_1.heap.size 0 [.string s2, .slice a2 L2.length m2, .int .i64 l2, .int .u32 c2, .int .i64 f2, .int .i64 t2]) = w_28 at *
          refine wpAnyH_done (by kernel_rfl) ?_ _
          go_wp2
          go_meet
          exact ⟨w_20.heap.size, w_1.heap.size, rfl, rfl, HD_28.out, HC_28.out, Nat.lt_of_lt_of_le hL4_26 (Nat.le_trans HZ_27.out HZ_28.out), Nat.lt_of_lt_of_le hL5_26 (Nat.le_trans HZ_27.out HZ_28.out), HB_28.out⟩
    · have hb_29 := alloc_below wd (.cells #[.string ⟨#[]⟩, .slice none 0 0, .int .i64 0, .int .u32 0, .int .i64 0, .int .i64 0] 36)
      have hB_29 := hd.trans (hb_29.mono hd.size)
      have hT_29 := box_there (Below.refl (wd.alloc (.cells #[.string ⟨#[]⟩, .slice none 0 0, .int .i64 0, .int .u32 0, .int .i64 0, .int .i64 0] 36)).heap.size (wd.alloc (.cells #[.string ⟨#[]⟩, .slice none 0 0, .int .i64 0, .int .u32 0, .int .i64 0, .int .i64 0] 36)))
      have hL_29 : wd.heap.size < (wd.alloc (.cells #[.string ⟨#[]⟩, .slice none 0 0, .int .i64 0, .int .u32 0, .int .i64 0, .int .i64 0] 36)).heap.size := by rw [World.size_alloc]; omega
      have hG_29 := hd.size
      go_simp
      refine hK.out _ _ ⟨keep_cell a0 hB_29 hlta, keep_cell a1' hB_29 hlta, keep_cell a2' hB_29 hlta, keep_cell a3 hB_29 hlta, keep_cell a4 hB_29 hlta, keep_cell a5 hB_29 hlta, keep_cell b0 hB_29 hltb, keep_cell b1 hB_29 hltb, keep_cell b2 hB_29 hltb, keep_cell b3 hB_29 hltb, keep_cell b4 hB_29 hltb, keep_cell b5 hB_29 hltb⟩ (fun hHeld => ?_)
      clear hK K
      (try simp only [Act.put, List.setIfInBounds_toArray, List.set_cons_zero, List.set_cons_succ])
      generalize wd.alloc (.cells #[.string ⟨#[]⟩, .slice none 0 0, .int .i64 0, .int .u32 0, .int .i64 0, .int .i64 0] 36) = w_29 at *
      refine held_two (i := 1) (j := 5) rfl rfl (by kernel_rfl) (fun K hK => ?_) (fun K hK => ?_)
      · go_simp; go_at_call 8; refine (K1.out _ hB_29).mono ?_; rintro e w_30 ⟨rfl, hb_30⟩
        have hB_30 := hB_29.trans (hb_30.mono hB_29.size)
        have hT4_30 := there_later hT_29 hb_30 hL_29
        have hL4_30 := Nat.lt_of_lt_of_le hL_29 hb_30.size
        refine hK.out _ _ ⟨keep_cell a0 hB_30 hlta, keep_cell a1' hB_30 hlta, keep_cell a2' hB_30 hlta, keep_cell a3 hB_30 hlta, keep_cell a4 hB_30 hlta, keep_cell a5 hB_30 hlta, keep_cell b0 hB_30 hltb, keep_cell b1 hB_30 hltb, keep_cell b2 hB_30 hltb, keep_cell b3 hB_30 hltb, keep_cell b4 hB_30 hltb, keep_cell b5 hB_30 hltb⟩ (fun hHeld => ?_)
        clear hK K
        (try simp only [Act.put, List.setIfInBounds_toArray, List.set_cons_zero, List.set_cons_succ])
        refine held_two (i := 3) (j := 5) rfl rfl (by kernel_rfl) (fun K hK => ?_) (fun K hK => ?_)
        · go_simp; go_at_call 8; refine (K2.out _ hB_30).mono ?_; rintro e w_31 ⟨rfl, hb_31⟩
          have hB_31 := hB_30.trans (hb_31.mono hB_30.size)
          have hT4_31 := there_later hT4_30 hb_31 hL4_30
          have hL4_31 := Nat.lt_of_lt_of_le hL4_30 hb_31.size
          refine hK.out _ _ ⟨keep_cell a0 hB_31 hlta, keep_cell a1' hB_31 hlta, keep_cell a2' hB_31 hlta, keep_cell a3 hB_31 hlta, keep_cell a4 hB_31 hlta, keep_cell a5 hB_31 hlta, keep_cell b0 hB_31 hltb, keep_cell b1 hB_31 hltb, keep_cell b2 hB_31 hltb, keep_cell b3 hB_31 hltb, keep_cell b4 hB_31 hltb, keep_cell b5 hB_31 hltb⟩ (fun hHeld => ?_)
          clear hK K
          (try simp only [Act.put, List.setIfInBounds_toArray, List.set_cons_zero, List.set_cons_succ])
          refine held_step (i := 5) rfl (by kernel_rfl) (fun K hK => ?_)
          have hb_32 := alloc_below w_31 (.cells #[.string ⟨#[]⟩, .slice none 0 0, .int .i64 0, .int .u32 0, .int .i64 0, .int .i64 0] 36)
          have hB_32 := hB_31.trans (hb_32.mono hB_31.size)
          have hT_32 := box_there (Below.refl (w_31.alloc (.cells #[.string ⟨#[]⟩, .slice none 0 0, .int .i64 0, .int .u32 0, .int .i64 0, .int .i64 0] 36)).heap.size (w_31.alloc (.cells #[.string ⟨#[]⟩, .slice none 0 0, .int .i64 0, .int .u32 0, .int .i64 0, .int .i64 0] 36)))
          have hL_32 : w_31.heap.size < (w_31.alloc (.cells #[.string ⟨#[]⟩, .slice none 0 0, .int .i64 0, .int .u32 0, .int .i64 0, .int .i64 0] 36)).heap.size := by rw [World.size_alloc]; omega
          have hG_32 := hB_31.size
          have hT4_32 := there_later hT4_31 hb_32 hL4_31
          have hL4_32 := Nat.lt_of_lt_of_le hL4_31 hb_32.size
          have hN_32 : wd.heap.size ≠ w_31.heap.size := by have := hL4_31; omega
          go_simp
          refine hK.out _ _ ⟨keep_cell a0 hB_32 hlta, keep_cell a1' hB_32 hlta, keep_cell a2' hB_32 hlta, keep_cell a3 hB_32 hlta, keep_cell a4 hB_32 hlta, keep_cell a5 hB_32 hlta, keep_cell b0 hB_32 hltb, keep_cell b1 hB_32 hltb, keep_cell b2 hB_32 hltb, keep_cell b3 hB_32 hltb, keep_cell b4 hB_32 hltb, keep_cell b5 hB_32 hltb⟩ (fun hHeld => ?_)
          clear hK K
          (try simp only [Act.put, List.setIfInBounds_toArray, List.set_cons_zero, List.set_cons_succ])
          generalize w_31.alloc (.cells #[.string ⟨#[]⟩, .slice none 0 0, .int .i64 0, .int .u32 0, .int .i64 0, .int .i64 0] 36) = w_32 at *
          have hNE := hN_32
          have q0 := there_free hT4_32 0 (by decide)
          have q1 := there_free hT4_32 1 (by decide)
          have q2 := there_free hT4_32 2 (by decide)
          have q3 := there_free hT4_32 3 (by decide)
          have q4 := there_free hT4_32 4 (by decide)
          have q5 := there_free hT4_32 5 (by decide)
          obtain ⟨y0, hy0⟩ := there_cell hT4_32 0 (by decide)
          obtain ⟨y1, hy1⟩ := there_cell hT4_32 1 (by decide)
          obtain ⟨y2, hy2⟩ := there_cell hT4_32 2 (by decide)
          obtain ⟨y3, hy3⟩ := there_cell hT4_32 3 (by decide)
          obtain ⟨y4, hy4⟩ := there_cell hT4_32 4 (by decide)
          obtain ⟨y5, hy5⟩ := there_cell hT4_32 5 (by decide)
          have HB_33 : Hid (Below w5.heap.size w5 (w_32.setCells wd.heap.size 0 [.string s1, .slice a1 L1.length m1, .int .i64 l1, .int .u32 c1, .int .i64 f1, .int .i64 t1])) := Lib.hid (below_puts (g := wd.heap.size) (o := 0) hB_32 hG_29 [.string s1, .slice a1 L1.length m1, .int .i64 l1, .int .u32 c1, .int .i64 f1, .int .i64 t1])
          have HZ_33 := Lib.hid (below_puts_base (g := wd.heap.size) (o := 0) (Below.refl 0 w_32) (Nat.zero_le _) [.string s1, .slice a1 L1.length m1, .int .i64 l1, .int .u32 c1, .int .i64 f1, .int .i64 t1]).size
          have HC_33 := Lib.hid (c6_puts w_32 wd.heap.size (.string s1) (.slice a1 L1.length m1) (.int .i64 l1) (.int .u32 c1) (.int .i64 f1) (.int .i64 t1) hT4_32)
          have HT_33 := Lib.hid (World.there_setCells hT_32 wd.heap.size 0 [.string s1, .slice a1 L1.length m1, .int .i64 l1, .int .u32 c1, .int .i64 f1, .int .i64 t1])
          refine held_step (i := 6) rfl (by kernel_rfl) (fun K hK => ?_)
          go_simp
          refine hK.out _ (w_32.setCells wd.heap.size 0 [.string s1, .slice a1 L1.length m1, .int .i64 l1, .int .u32 c1, .int .i64 f1, .int .i64 t1]) ⟨keep_cell a0 HB_33.out hlta, keep_cell a1' HB_33.out hlta, keep_cell a2' HB_33.out hlta, keep_cell a3 HB_33.out hlta, keep_cell a4 HB_33.out hlta, keep_cell a5 HB_33.out hlta, keep_cell b0 HB_33.out hltb, keep_cell b1 HB_33.out hltb, keep_cell b2 HB_33.out hltb, keep_cell b3 HB_33.out hltb, keep_cell b4 HB_33.out hltb, keep_cell b5 HB_33.out hltb⟩ (fun hHeld => ?_)
          clear hK K
          (try simp only [Act.put, List.setIfInBounds_toArray, List.set_cons_zero, List.set_cons_succ])
          generalize (w_32.setCells wd.heap.size 0 [.string s1, .slice a1 L1.length m1, .int .i64 l1, .int .u32 c1, .int .i64 f1, .int .i64 t1]) = w_33 at *
          clear q0 q1 q2 q3 q4 q5 hy0 hy1 hy2 hy3 hy4 hy5 y0 y1 y2 y3 y4 y5
          have q0 := there_free HT_33.out 0 (by decide)
          have q1 := there_free HT_33.out 1 (by decide)
          have q2 := there_free HT_33.out 2 (by decide)
          have q3 := there_free HT_33.out 3 (by decide)
          have q4 := there_free HT_33.out 4 (by decide)
          have q5 := there_free HT_33.out 5 (by decide)
          obtain ⟨y0, hy0⟩ := there_cell HT_33.out 0 (by decide)
          obtain ⟨y1, hy1⟩ := there_cell HT_33.out 1 (by decide)
          obtain ⟨y2, hy2⟩ := there_cell HT_33.out 2 (by decide)
          obtain ⟨y3, hy3⟩ := there_cell HT_33.out 3 (by decide)
          obtain ⟨y4, hy4⟩ := there_cell HT_33.out 4 (by decide)
          obtain ⟨y5, hy5⟩ := there_cell HT_33.out 5 (by decide)
          have HB_34 : Hid (Below w5.heap.size w5 (w_33.setCells w_31.heap.size 0 [.string s2, .slice a2 L2.length m2, .int .i64 l2, .int .u32 c2, .int .i64 f2, .int .i64 t2])) := Lib.hid (below_puts (g := w_31.heap.size) (o := 0) HB_33.out hG_32 [.string s2, .slice a2 L2.length m2, .int .i64 l2, .int .u32 c2, .int .i64 f2, .int .i64 t2])
          have HZ_34 := Lib.hid (below_puts_base (g := w_31.heap.size) (o := 0) (Below.refl 0 w_33) (Nat.zero_le _) [.string s2, .slice a2 L2.length m2, .int .i64 l2, .int .u32 c2, .int .i64 f2, .int .i64 t2]).size
          have HC_34 := Lib.hid (c6_puts w_33 w_31.heap.size (.string s2) (.slice a2 L2.length m2) (.int .i64 l2) (.int .u32 c2) (.int .i64 f2) (.int .i64 t2) HT_33.out)
          have HD_34 := Lib.hid (c6_out HC_33.out hNE 0 [.string s2, .slice a2 L2.length m2, .int .i64 l2, .int .u32 c2, .int .i64 f2, .int .i64 t2])
          refine held_step (i := 7) rfl (by kernel_rfl) (fun K hK => ?_)
          go_simp
          refine hK.out _ (w_33.setCells w_31.heap.size 0 [.string s2, .slice a2 L2.length m2, .int .i64 l2, .int .u32 c2, .int .i64 f2, .int .i64 t2]) ⟨keep_cell a0 HB_34.out hlta, keep_cell a1' HB_34.out hlta, keep_cell a2' HB_34.out hlta, keep_cell a3 HB_34.out hlta, keep_cell a4 HB_34.out hlta, keep_cell a5 HB_34.out hlta, keep_cell b0 HB_34.out hltb, keep_cell b1 HB_34.out hltb, keep_cell b2 HB_34.out hltb, keep_cell b3 HB_34.out hltb, keep_cell b4 HB_34.out hltb, keep_cell b5 HB_34.out hltb⟩ (fun hHeld => ?_)
          clear hK K
          (try simp only [Act.put, List.setIfInBounds_toArray, List.set_cons_zero, List.set_cons_succ])
          generalize (w_33.setCells w_31.heap.size 0 [.string s2, .slice a2 L2.length m2, .int .i64 l2, .int .u32 c2, .int .i64 f2, .int .i64 t2]) = w_34 at *
          refine wpAnyH_done (by kernel_rfl) ?_ _
          go_wp2
          go_meet
          exact ⟨wd.heap.size, w_31.heap.size, rfl, rfl, HD_34.out, HC_34.out, Nat.lt_of_lt_of_le hL4_32 (Nat.le_trans HZ_33.out HZ_34.out), Nat.lt_of_lt_of_le hL_32 (Nat.le_trans HZ_33.out HZ_34.out), HB_34.out⟩
        · have hb_35 := alloc_below w_30 (.cells #[.string ⟨#[]⟩, .slice none 0 0, .int .i64 0, .int .u32 0, .int .i64 0, .int .i64 0] 36)
          have hB_35 := hB_30.trans (hb_35.mono hB_30.size)
          have hT_35 := box_there (Below.refl (w_30.alloc (.cells #[.string ⟨#[]⟩, .slice none 0 0, .int .i64 0, .int .u32 0, .int .i64 0, .int .i64 0] 36)).heap.size (w_30.alloc (.cells #[.string ⟨#[]⟩, .slice none 0 0, .int .i64 0, .int .u32 0, .int .i64 0, .int .i64 0] 36)))
          have hL_35 : w_30.heap.size < (w_30.alloc (.cells #[.string ⟨#[]⟩, .slice none 0 0, .int .i64 0, .int .u32 0, .int .i64 0, .int .i64 0] 36)).heap.size := by rw [World.size_alloc]; omega
          have hG_35 := hB_30.size
          have hT4_35 := there_later hT4_30 hb_35 hL4_30
          have hL4_35 := Nat.lt_of_lt_of_le hL4_30 hb_35.size
          have hN_35 : wd.heap.size ≠ w_30.heap.size := by have := hL4_30; omega
          go_simp
          refine hK.out _ _ ⟨keep_cell a0 hB_35 hlta, keep_cell a1' hB_35 hlta, keep_cell a2' hB_35 hlta, keep_cell a3 hB_35 hlta, keep_cell a4 hB_35 hlta, keep_cell a5 hB_35 hlta, keep_cell b0 hB_35 hltb, keep_cell b1 hB_35 hltb, keep_cell b2 hB_35 hltb, keep_cell b3 hB_35 hltb, keep_cell b4 hB_35 hltb, keep_cell b5 hB_35 hltb⟩ (fun hHeld => ?_)
          clear hK K
          (try simp only [Act.put, List.setIfInBounds_toArray, List.set_cons_zero, List.set_cons_succ])
          generalize w_30.alloc (.cells #[.string ⟨#[]⟩, .slice none 0 0, .int .i64 0, .int .u32 0, .int .i64 0, .int .i64 0] 36) = w_35 at *
          refine held_step (i := 3) rfl (by kernel_rfl) (fun K hK => ?_)
          go_simp; go_at_call 8; refine (K2.out _ hB_35).mono ?_; rintro e w_36 ⟨rfl, hb_36⟩
          have hB_36 := hB_35.trans (hb_36.mono hB_35.size)
          have hT4_36 := there_later hT4_35 hb_36 hL4_35
          have hL4_36 := Nat.lt_of_lt_of_le hL4_35 hb_36.size
          have hT5_36 := there_later hT_35 hb_36 hL_35
          have hL5_36 := Nat.lt_of_lt_of_le hL_35 hb_36.size
          refine hK.out _ _ ⟨keep_cell a0 hB_36 hlta, keep_cell a1' hB_36 hlta, keep_cell a2' hB_36 hlta, keep_cell a3 hB_36 hlta, keep_cell a4 hB_36 hlta, keep_cell a5 hB_36 hlta, keep_cell b0 hB_36 hltb, keep_cell b1 hB_36 hltb, keep_cell b2 hB_36 hltb, keep_cell b3 hB_36 hltb, keep_cell b4 hB_36 hltb, keep_cell b5 hB_36 hltb⟩ (fun hHeld => ?_)
          clear hK K
          (try simp only [Act.put, List.setIfInBounds_toArray, List.set_cons_zero, List.set_cons_succ])
          have hNE := hN_35
          have q0 := there_free hT4_36 0 (by decide)
          have q1 := there_free hT4_36 1 (by decide)
          have q2 := there_free hT4_36 2 (by decide)
          have q3 := there_free hT4_36 3 (by decide)
          have q4 := there_free hT4_36 4 (by decide)
          have q5 := there_free hT4_36 5 (by decide)
          obtain ⟨y0, hy0⟩ := there_cell hT4_36 0 (by decide)
          obtain ⟨y1, hy1⟩ := there_cell hT4_36 1 (by decide)
          obtain ⟨y2, hy2⟩ := there_cell hT4_36 2 (by decide)
          obtain ⟨y3, hy3⟩ := there_cell hT4_36 3 (by decide)
          obtain ⟨y4, hy4⟩ := there_cell hT4_36 4 (by decide)
          obtain ⟨y5, hy5⟩ := there_cell hT4_36 5 (by decide)
          have HB_37 : Hid (Below w5.heap.size w5 (w_36.setCells wd.heap.size 0 [.string s1, .slice a1 L1.length m1, .int .i64 l1, .int .u32 c1, .int .i64 f1, .int .i64 t1])) := Lib.hid (below_puts (g := wd.heap.size) (o := 0) hB_36 hG_29 [.string s1, .slice a1 L1.length m1, .int .i64 l1, .int .u32 c1, .int .i64 f1, .int .i64 t1])
          have HZ_37 := Lib.hid (below_puts_base (g := wd.heap.size) (o := 0) (Below.refl 0 w_36) (Nat.zero_le _) [.string s1, .slice a1 L1.length m1, .int .i64 l1, .int .u32 c1, .int .i64 f1, .int .i64 t1]).size
          have HC_37 := Lib.hid (c6_puts w_36 wd.heap.size (.string s1) (.slice a1 L1.length m1) (.int .i64 l1) (.int .u32 c1) (.int .i64 f1) (.int .i64 t1) hT4_36)
          have HT_37 := Lib.hid (World.there_setCells hT5_36 wd.heap.size 0 [.string s1, .slice a1 L1.length m1, .int .i64 l1, .int .u32 c1, .int .i64 f1, .int .i64 t1])
          refine held_step (i := 6) rfl (by kernel_rfl) (fun K hK => ?_)
          go_simp
          refine hK.out _ (w_36.setCells wd.heap.size 0 [.string s1, .slice a1 L1.length m1, .int .i64 l1, .int .u32 c1, .int .i64 f1, .int .i64 t1]) ⟨keep_cell a0 HB_37.out hlta, keep_cell a1' HB_37.out hlta, keep_cell a2' HB_37.out hlta, keep_cell a3 HB_37.out hlta, keep_cell a4 HB_37.out hlta, keep_cell a5 HB_37.out hlta, keep_cell b0 HB_37.out hltb, keep_cell b1 HB_37.out hltb, keep_cell b2 HB_37.out hltb, keep_cell b3 HB_37.out hltb, keep_cell b4 HB_37.out hltb, keep_cell b5 HB_37.out hltb⟩ (fun hHeld => ?_)
          clear hK K
          (try simp only [Act.put, List.setIfInBounds_toArray, List.set_cons_zero, List.set_cons_succ])
          generalize (w_36.setCells wd.heap.size 0 [.string s1, .slice a1 L1.length m1, .int .i64 l1, .int .u32 c1, .int .i64 f1, .int .i64 t1]) = w_37 at *
          clear q0 q1 q2 q3 q4 q5 hy0 hy1 hy2 hy3 hy4 hy5 y0 y1 y2 y3 y4 y5
          have q0 := there_free HT_37.out 0 (by decide)
          have q1 := there_free HT_37.out 1 (by decide)
          have q2 := there_free HT_37.out 2 (by decide)
          have q3 := there_free HT_37.out 3 (by decide)
          have q4 := there_free HT_37.out 4 (by decide)
          have q5 := there_free HT_37.out 5 (by decide)
          obtain ⟨y0, hy0⟩ := there_cell HT_37.out 0 (by decide)
          obtain ⟨y1, hy1⟩ := there_cell HT_37.out 1 (by decide)
          obtain ⟨y2, hy2⟩ := there_cell HT_37.out 2 (by decide)
          obtain ⟨y3, hy3⟩ := there_cell HT_37.out 3 (by decide)
          obtain ⟨y4, hy4⟩ := there_cell HT_37.out 4 (by decide)
          obtain ⟨y5, hy5⟩ := there_cell HT_37.out 5 (by decide)
          have HB_38 : Hid (Below w5.heap.size w5 (w_37.setCells w_30.heap.size 0 [.string s2, .slice a2 L2.length m2, .int .i64 l2, .int .u32 c2, .int .i64 f2, .int .i64 t2])) := Lib.hid (below_puts (g := w_30.heap.size) (o := 0) HB_37.out hG_35 [.string s2, .slice a2 L2.length m2, .int .i64 l2, .int .u32 c2, .int .i64 f2, .int .i64 t2])
          have HZ_38 := Lib.hid (below_puts_base (g := w_30.heap.size) (o := 0) (Below.refl 0 w_37) (Nat.zero_le _) [.string s2, .slice a2 L2.length m2, .int .i64 l2, .int .u32 c2, .int .i64 f2, .int .i64 t2]).size
          have HC_38 := Lib.hid (c6_puts w_37 w_30.heap.size (.string s2) (.slice a2 L2.length m2) (.int .i64 l2) (.int .u32 c2) (.int .i64 f2) (.int .i64 t2) HT_37.out)
          have HD_38 := Lib.hid (c6_out HC_37.out hNE 0 [.string s2, .slice a2 L2.length m2, .int .i64 l2, .int .u32 c2, .int .i64 f2, .int .i64 t2])
          refine held_step (i := 7) rfl (by kernel_rfl) (fun K hK => ?_)
          go_simp
          refine hK.out _ (w_37.setCells w_30.heap.size 0 [.string s2, .slice a2 L2.length m2, .int .i64 l2, .int .u32 c2, .int .i64 f2, .int .i64 t2]) ⟨keep_cell a0 HB_38.out hlta, keep_cell a1' HB_38.out hlta, keep_cell a2' HB_38.out hlta, keep_cell a3 HB_38.out hlta, keep_cell a4 HB_38.out hlta, keep_cell a5 HB_38.out hlta, keep_cell b0 HB_38.out hltb, keep_cell b1 HB_38.out hltb, keep_cell b2 HB_38.out hltb, keep_cell b3 HB_38.out hltb, keep_cell b4 HB_38.out hltb, keep_cell b5 HB_38.out hltb⟩ (fun hHeld => ?_)
          clear hK K
          (try simp only [Act.put, List.setIfInBounds_toArray, List.set_cons_zero, List.set_cons_succ])
          generalize (w_37.setCells w_30.heap.size 0 [.string s2, .slice a2 L2.length m2, .int .i64 l2, .int .u32 c2, .int .i64 f2, .int .i64 t2]) = w_38 at *
          refine wpAnyH_done (by kernel_rfl) ?_ _
          go_wp2
          go_meet
          exact ⟨wd.heap.size, w_30.heap.size, rfl, rfl, HD_38.out, HC_38.out, Nat.lt_of_lt_of_le hL4_36 (Nat.le_trans HZ_37.out HZ_38.out), Nat.lt_of_lt_of_le hL5_36 (Nat.le_trans HZ_37.out HZ_38.out), HB_38.out⟩
      · have hb_39 := alloc_below w_29 (.cells #[.string ⟨#[]⟩, .slice none 0 0, .int .i64 0, .int .u32 0, .int .i64 0, .int .i64 0] 36)
        have hB_39 := hB_29.trans (hb_39.mono hB_29.size)
        have hT_39 := box_there (Below.refl (w_29.alloc (.cells #[.string ⟨#[]⟩, .slice none 0 0, .int .i64 0, .int .u32 0, .int .i64 0, .int .i64 0] 36)).heap.size (w_29.alloc (.cells #[.string ⟨#[]⟩, .slice none 0 0, .int .i64 0, .int .u32 0, .int .i64 0, .int .i64 0] 36)))
        have hL_39 : w_29.heap.size < (w_29.alloc (.cells #[.string ⟨#[]⟩, .slice none 0 0, .int .i64 0, .int .u32 0, .int .i64 0, .int .i64 0] 36)).heap.size := by rw [World.size_alloc]; omega
        have hG_39 := hB_29.size
        have hT4_39 := there_later hT_29 hb_39 hL_29
        have hL4_39 := Nat.lt_of_lt_of_le hL_29 hb_39.size
        have hN_39 : wd.heap.size ≠ w_29.heap.size := by have := hL_29; omega
        go_simp
        refine hK.out _ _ ⟨keep_cell a0 hB_39 hlta, keep_cell a1' hB_39 hlta, keep_cell a2' hB_39 hlta, keep_cell a3 hB_39 hlta, keep_cell a4 hB_39 hlta, keep_cell a5 hB_39 hlta, keep_cell b0 hB_39 hltb, keep_cell b1 hB_39 hltb, keep_cell b2 hB_39 hltb, keep_cell b3 hB_39 hltb, keep_cell b4 hB_39 hltb, keep_cell b5 hB_39 hltb⟩ (fun hHeld => ?_)
        clear hK K
        (try simp only [Act.put, List.setIfInBounds_toArray, List.set_cons_zero, List.set_cons_succ])
        generalize w_29.alloc (.cells #[.string ⟨#[]⟩, .slice none 0 0, .int .i64 0, .int .u32 0, .int .i64 0, .int .i64 0] 36) = w_39 at *
        refine held_step (i := 1) rfl (by kernel_rfl) (fun K hK => ?_)
        go_simp; go_at_call 8; refine (K1.out _ hB_39).mono ?_; rintro e w_40 ⟨rfl, hb_40⟩
        have hB_40 := hB_39.trans (hb_40.mono hB_39.size)
        have hT4_40 := there_later hT4_39 hb_40 hL4_39
        have hL4_40 := Nat.lt_of_lt_of_le hL4_39 hb_40.size
        have hT5_40 := there_later hT_39 hb_40 hL_39
        have hL5_40 := Nat.lt_of_lt_of_le hL_39 hb_40.size
        refine hK.out _ _ ⟨keep_cell a0 hB_40 hlta, keep_cell a1' hB_40 hlta, keep_cell a2' hB_40 hlta, keep_cell a3 hB_40 hlta, keep_cell a4 hB_40 hlta, keep_cell a5 hB_40 hlta, keep_cell b0 hB_40 hltb, keep_cell b1 hB_40 hltb, keep_cell b2 hB_40 hltb, keep_cell b3 hB_40 hltb, keep_cell b4 hB_40 hltb, keep_cell b5 hB_40 hltb⟩ (fun hHeld => ?_)
        clear hK K
        (try simp only [Act.put, List.setIfInBounds_toArray, List.set_cons_zero, List.set_cons_succ])
        refine held_step (i := 3) rfl (by kernel_rfl) (fun K hK => ?_)
        go_simp; go_at_call 8; refine (K2.out _ hB_40).mono ?_; rintro e w_41 ⟨rfl, hb_41⟩
        have hB_41 := hB_40.trans (hb_41.mono hB_40.size)
        have hT4_41 := there_later hT4_40 hb_41 hL4_40
        have hL4_41 := Nat.lt_of_lt_of_le hL4_40 hb_41.size
        have hT5_41 := there_later hT5_40 hb_41 hL5_40
        have hL5_41 := Nat.lt_of_lt_of_le hL5_40 hb_41.size
        refine hK.out _ _ ⟨keep_cell a0 hB_41 hlta, keep_cell a1' hB_41 hlta, keep_cell a2' hB_41 hlta, keep_cell a3 hB_41 hlta, keep_cell a4 hB_41 hlta, keep_cell a5 hB_41 hlta, keep_cell b0 hB_41 hltb, keep_cell b1 hB_41 hltb, keep_cell b2 hB_41 hltb, keep_cell b3 hB_41 hltb, keep_cell b4 hB_41 hltb, keep_cell b5 hB_41 hltb⟩ (fun hHeld => ?_)
        clear hK K
        (try simp only [Act.put, List.setIfInBounds_toArray, List.set_cons_zero, List.set_cons_succ])
        have hNE := hN_39
        have q0 := there_free hT4_41 0 (by decide)
        have q1 := there_free hT4_41 1 (by decide)
        have q2 := there_free hT4_41 2 (by decide)
        have q3 := there_free hT4_41 3 (by decide)
        have q4 := there_free hT4_41 4 (by decide)
        have q5 := there_free hT4_41 5 (by decide)
        obtain ⟨y0, hy0⟩ := there_cell hT4_41 0 (by decide)
        obtain ⟨y1, hy1⟩ := there_cell hT4_41 1 (by decide)
        obtain ⟨y2, hy2⟩ := there_cell hT4_41 2 (by decide)
        obtain ⟨y3, hy3⟩ := there_cell hT4_41 3 (by decide)
        obtain ⟨y4, hy4⟩ := there_cell hT4_41 4 (by decide)
        obtain ⟨y5, hy5⟩ := there_cell hT4_41 5 (by decide)
        have HB_42 : Hid (Below w5.heap.size w5 (w_41.setCells wd.heap.size 0 [.string s1, .slice a1 L1.length m1, .int .i64 l1, .int .u32 c1, .int .i64 f1, .int .i64 t1])) := Lib.hid (below_puts (g := wd.heap.size) (o := 0) hB_41 hG_29 [.string s1, .slice a1 L1.length m1, .int .i64 l1, .int .u32 c1, .int .i64 f1, .int .i64 t1])
        have HZ_42 := Lib.hid (below_puts_base (g := wd.heap.size) (o := 0) (Below.refl 0 w_41) (Nat.zero_le _) [.string s1, .slice a1 L1.length m1, .int .i64 l1, .int .u32 c1, .int .i64 f1, .int .i64 t1]).size
        have HC_42 := Lib.hid (c6_puts w_41 wd.heap.size (.string s1) (.slice a1 L1.length m1) (.int .i64 l1) (.int .u32 c1) (.int .i64 f1) (.int .i64 t1) hT4_41)
        have HT_42 := Lib.hid (World.there_setCells hT5_41 wd.heap.size 0 [.string s1, .slice a1 L1.length m1, .int .i64 l1, .int .u32 c1, .int .i64 f1, .int .i64 t1])
        refine held_step (i := 6) rfl (by kernel_rfl) (fun K hK => ?_)
        go_simp
        refine hK.out _ (w_41.setCells wd.heap.size 0 [.string s1, .slice a1 L1.length m1, .int .i64 l1, .int .u32 c1, .int .i64 f1, .int .i64 t1]) ⟨keep_cell a0 HB_42.out hlta, keep_cell a1' HB_42.out hlta, keep_cell a2' HB_42.out hlta, keep_cell a3 HB_42.out hlta, keep_cell a4 HB_42.out hlta, keep_cell a5 HB_42.out hlta, keep_cell b0 HB_42.out hltb, keep_cell b1 HB_42.out hltb, keep_cell b2 HB_42.out hltb, keep_cell b3 HB_42.out hltb, keep_cell b4 HB_42.out hltb, keep_cell b5 HB_42.out hltb⟩ (fun hHeld => ?_)
        clear hK K
        (try simp only [Act.put, List.setIfInBounds_toArray, List.set_cons_zero, List.set_cons_succ])
        generalize (w_41.setCells wd.heap.size 0 [.string s1, .slice a1 L1.length m1, .int .i64 l1, .int .u32 c1, .int .i64 f1, .int .i64 t1]) = w_42 at *
        clear q0 q1 q2 q3 q4 q5 hy0 hy1 hy2 hy3 hy4 hy5 y0 y1 y2 y3 y4 y5
        have q0 := there_free HT_42.out 0 (by decide)
        have q1 := there_free HT_42.out 1 (by decide)
        have q2 := there_free HT_42.out 2 (by decide)
        have q3 := there_free HT_42.out 3 (by decide)
        have q4 := there_free HT_42.out 4 (by decide)
        have q5 := there_free HT_42.out 5 (by decide)
        obtain ⟨y0, hy0⟩ := there_cell HT_42.out 0 (by decide)
        obtain ⟨y1, hy1⟩ := there_cell HT_42.out 1 (by decide)
        obtain ⟨y2, hy2⟩ := there_cell HT_42.out 2 (by decide)
        obtain ⟨y3, hy3⟩ := there_cell HT_42.out 3 (by decide)
        obtain ⟨y4, hy4⟩ := there_cell HT_42.out 4 (by decide)
        obtain ⟨y5, hy5⟩ := there_cell HT_42.out 5 (by decide)
        have HB_43 : Hid (Below w5.heap.size w5 (w_42.setCells w_29.heap.size 0 [.string s2, .slice a2 L2.length m2, .int .i64 l2, .int .u32 c2, .int .i64 f2, .int .i64 t2])) := Lib.hid (below_puts (g := w_29.heap.size) (o := 0) HB_42.out hG_39 [.string s2, .slice a2 L2.length m2, .int .i64 l2, .int .u32 c2, .int .i64 f2, .int .i64 t2])
        have HZ_43 := Lib.hid (below_puts_base (g := w_29.heap.size) (o := 0) (Below.refl 0 w_42) (Nat.zero_le _) [.string s2, .slice a2 L2.length m2, .int .i64 l2, .int .u32 c2, .int .i64 f2, .int .i64 t2]).size
        have HC_43 := Lib.hid (c6_puts w_42 w_29.heap.size (.string s2) (.slice a2 L2.length m2) (.int .i64 l2) (.int .u32 c2) (.int .i64 f2) (.int .i64 t2) HT_42.out)
        have HD_43 := Lib.hid (c6_out HC_42.out hNE 0 [.string s2, .slice a2 L2.length m2, .int .i64 l2, .int .u32 c2, .int .i64 f2, .int .i64 t2])
        refine held_step (i := 7) rfl (by kernel_rfl) (fun K hK => ?_)
        go_simp
        refine hK.out _ (w_42.setCells w_29.heap.size 0 [.string s2, .slice a2 L2.length m2, .int .i64 l2, .int .u32 c2, .int .i64 f2, .int .i64 t2]) ⟨keep_cell a0 HB_43.out hlta, keep_cell a1' HB_43.out hlta, keep_cell a2' HB_43.out hlta, keep_cell a3 HB_43.out hlta, keep_cell a4 HB_43.out hlta, keep_cell a5 HB_43.out hlta, keep_cell b0 HB_43.out hltb, keep_cell b1 HB_43.out hltb, keep_cell b2 HB_43.out hltb, keep_cell b3 HB_43.out hltb, keep_cell b4 HB_43.out hltb, keep_cell b5 HB_43.out hltb⟩ (fun hHeld => ?_)
        clear hK K
        (try simp only [Act.put, List.setIfInBounds_toArray, List.set_cons_zero, List.set_cons_succ])
        generalize (w_42.setCells w_29.heap.size 0 [.string s2, .slice a2 L2.length m2, .int .i64 l2, .int .u32 c2, .int .i64 f2, .int .i64 t2]) = w_43 at *
        refine wpAnyH_done (by kernel_rfl) ?_ _
        go_wp2
        go_meet
        exact ⟨wd.heap.size, w_29.heap.size, rfl, rfl, HD_43.out, HC_43.out, Nat.lt_of_lt_of_le hL4_41 (Nat.le_trans HZ_42.out HZ_43.out), Nat.lt_of_lt_of_le hL5_41 (Nat.le_trans HZ_42.out HZ_43.out), HB_43.out⟩
    · have hb_44 := alloc_below wd (.cells #[.string ⟨#[]⟩, .slice none 0 0, .int .i64 0, .int .u32 0, .int .i64 0, .int .i64 0] 36)
      have hB_44 := hd.trans (hb_44.mono hd.size)
      have hT_44 := box_there (Below.refl (wd.alloc (.cells #[.string ⟨#[]⟩, .slice none 0 0, .int .i64 0, .int .u32 0, .int .i64 0, .int .i64 0] 36)).heap.size (wd.alloc (.cells #[.string ⟨#[]⟩, .slice none 0 0, .int .i64 0, .int .u32 0, .int .i64 0, .int .i64 0] 36)))
      have hL_44 : wd.heap.size < (wd.alloc (.cells #[.string ⟨#[]⟩, .slice none 0 0, .int .i64 0, .int .u32 0, .int .i64 0, .int .i64 0] 36)).heap.size := by rw [World.size_alloc]; omega
      have hG_44 := hd.size
      go_simp
      refine hK.out _ _ ⟨keep_cell a0 hB_44 hlta, keep_cell a1' hB_44 hlta, keep_cell a2' hB_44 hlta, keep_cell a3 hB_44 hlta, keep_cell a4 hB_44 hlta, keep_cell a5 hB_44 hlta, keep_cell b0 hB_44 hltb, keep_cell b1 hB_44 hltb, keep_cell b2 hB_44 hltb, keep_cell b3 hB_44 hltb, keep_cell b4 hB_44 hltb, keep_cell b5 hB_44 hltb⟩ (fun hHeld => ?_)
      clear hK K
      (try simp only [Act.put, List.setIfInBounds_toArray, List.set_cons_zero, List.set_cons_succ])
      generalize wd.alloc (.cells #[.string ⟨#[]⟩, .slice none 0 0, .int .i64 0, .int .u32 0, .int .i64 0, .int .i64 0] 36) = w_44 at *
      refine held_two (i := 1) (j := 4) rfl rfl (by kernel_rfl) (fun K hK => ?_) (fun K hK => ?_)
      · go_simp; go_at_call 8; refine (K1.out _ hB_44).mono ?_; rintro e w_45 ⟨rfl, hb_45⟩
        have hB_45 := hB_44.trans (hb_45.mono hB_44.size)
        have hT5_45 := there_later hT_44 hb_45 hL_44
        have hL5_45 := Nat.lt_of_lt_of_le hL_44 hb_45.size
        refine hK.out _ _ ⟨keep_cell a0 hB_45 hlta, keep_cell a1' hB_45 hlta, keep_cell a2' hB_45 hlta, keep_cell a3 hB_45 hlta, keep_cell a4 hB_45 hlta, keep_cell a5 hB_45 hlta, keep_cell b0 hB_45 hltb, keep_cell b1 hB_45 hltb, keep_cell b2 hB_45 hltb, keep_cell b3 hB_45 hltb, keep_cell b4 hB_45 hltb, keep_cell b5 hB_45 hltb⟩ (fun hHeld => ?_)
        clear hK K
        (try simp only [Act.put, List.setIfInBounds_toArray, List.set_cons_zero, List.set_cons_succ])
        refine held_two (i := 3) (j := 4) rfl rfl (by kernel_rfl) (fun K hK => ?_) (fun K hK => ?_)
        · go_simp; go_at_call 8; refine (K2.out _ hB_45).mono ?_; rintro e w_46 ⟨rfl, hb_46⟩
          have hB_46 := hB_45.trans (hb_46.mono hB_45.size)
          have hT5_46 := there_later hT5_45 hb_46 hL5_45
          have hL5_46 := Nat.lt_of_lt_of_le hL5_45 hb_46.size
          refine hK.out _ _ ⟨keep_cell a0 hB_46 hlta, keep_cell a1' hB_46 hlta, keep_cell a2' hB_46 hlta, keep_cell a3 hB_46 hlta, keep_cell a4 hB_46 hlta, keep_cell a5 hB_46 hlta, keep_cell b0 hB_46 hltb, keep_cell b1 hB_46 hltb, keep_cell b2 hB_46 hltb, keep_cell b3 hB_46 hltb, keep_cell b4 hB_46 hltb, keep_cell b5 hB_46 hltb⟩ (fun hHeld => ?_)
          clear hK K
          (try simp only [Act.put, List.setIfInBounds_toArray, List.set_cons_zero, List.set_cons_succ])
          refine held_step (i := 4) rfl (by kernel_rfl) (fun K hK => ?_)
          have hb_47 := alloc_below w_46 (.cells #[.string ⟨#[]⟩, .slice none 0 0, .int .i64 0, .int .u32 0, .int .i64 0, .int .i64 0] 36)
          have hB_47 := hB_46.trans (hb_47.mono hB_46.size)
          have hT_47 := box_there (Below.refl (w_46.alloc (.cells #[.string ⟨#[]⟩, .slice none 0 0, .int .i64 0, .int .u32 0, .int .i64 0, .int .i64 0] 36)).heap.size (w_46.alloc (.cells #[.string ⟨#[]⟩, .slice none 0 0, .int .i64 0, .int .u32 0, .int .i64 0, .int .i64 0] 36)))
          have hL_47 : w_46.heap.size < (w_46.alloc (.cells #[.string ⟨#[]⟩, .slice none 0 0, .int .i64 0, .int .u32 0, .int .i64 0, .int .i64 0] 36)).heap.size := by rw [World.size_alloc]; omega
          have hG_47 := hB_46.size
          have hT5_47 := there_later hT5_46 hb_47 hL5_46
          have hL5_47 := Nat.lt_of_lt_of_le hL5_46 hb_47.size
          have hN_47 : w_46.heap.size ≠ wd.heap.size := by have := hL5_46; omega
          go_simp
          refine hK.out _ _ ⟨keep_cell a0 hB_47 hlta, keep_cell a1' hB_47 hlta, keep_cell a2' hB_47 hlta, keep_cell a3 hB_47 hlta, keep_cell a4 hB_47 hlta, keep_cell a5 hB_47 hlta, keep_cell b0 hB_47 hltb, keep_cell b1 hB_47 hltb, keep_cell b2 hB_47 hltb, keep_cell b3 hB_47 hltb, keep_cell b4 hB_47 hltb, keep_cell b5 hB_47 hltb⟩ (fun hHeld => ?_)
          clear hK K
          (try simp only [Act.put, List.setIfInBounds_toArray, List.set_cons_zero, List.set_cons_succ])
          generalize w_46.alloc (.cells #[.string ⟨#[]⟩, .slice none 0 0, .int .i64 0, .int .u32 0, .int .i64 0, .int .i64 0] 36) = w_47 at *
          have hNE := hN_47
          have q0 := there_free hT_47 0 (by decide)
          have q1 := there_free hT_47 1 (by decide)
          have q2 := there_free hT_47 2 (by decide)
          have q3 := there_free hT_47 3 (by decide)
          have q4 := there_free hT_47 4 (by decide)
          have q5 := there_free hT_47 5 (by decide)
          obtain ⟨y0, hy0⟩ := there_cell hT_47 0 (by decide)
          obtain ⟨y1, hy1⟩ := there_cell hT_47 1 (by decide)
          obtain ⟨y2, hy2⟩ := there_cell hT_47 2 (by decide)
          obtain ⟨y3, hy3⟩ := there_cell hT_47 3 (by decide)
          obtain ⟨y4, hy4⟩ := there_cell hT_47 4 (by decide)
          obtain ⟨y5, hy5⟩ := there_cell hT_47 5 (by decide)
          have HB_48 : Hid (Below w5.heap.size w5 (w_47.setCells w_46.heap.size 0 [.string s1, .slice a1 L1.length m1, .int .i64 l1, .int .u32 c1, .int .i64 f1, .int .i64 t1])) := Lib.hid (below_puts (g := w_46.heap.size) (o := 0) hB_47 hG_47 [.string s1, .slice a1 L1.length m1, .int .i64 l1, .int .u32 c1, .int .i64 f1, .int .i64 t1])
          have HZ_48 := Lib.hid (below_puts_base (g := w_46.heap.size) (o := 0) (Below.refl 0 w_47) (Nat.zero_le _) [.string s1, .slice a1 L1.length m1, .int .i64 l1, .int .u32 c1, .int .i64 f1, .int .i64 t1]).size
          have HC_48 := Lib.hid (c6_puts w_47 w_46.heap.size (.string s1) (.slice a1 L1.length m1) (.int .i64 l1) (.int .u32 c1) (.int .i64 f1) (.int .i64 t1) hT_47)
          have HT_48 := Lib.hid (World.there_setCells hT5_47 w_46.heap.size 0 [.string s1, .slice a1 L1.length m1, .int .i64 l1, .int .u32 c1, .int .i64 f1, .int .i64 t1])
          refine held_step (i := 6) rfl (by kernel_rfl) (fun K hK => ?_)
          go_simp
          refine hK.out _ (w_47.setCells w_46.heap.size 0 [.string s1, .slice a1 L1.length m1, .int .i64 l1, .int .u32 c1, .int .i64 f1, .int .i64 t1]) ⟨keep_cell a0 HB_48.out hlta, keep_cell a1' HB_48.out hlta, keep_cell a2' HB_48.out hlta, keep_cell a3 HB_48.out hlta, keep_cell a4 HB_48.out hlta, keep_cell a5 HB_48.out hlta, keep_cell b0 HB_48.out hltb, keep_cell b1 HB_48.out hltb, keep_cell b2 HB_48.out hltb, keep_cell b3 HB_48.out hltb, keep_cell b4 HB_48.out hltb, keep_cell b5 HB_48.out hltb⟩ (fun hHeld => ?_)
          clear hK K
          (try simp only [Act.put, List.setIfInBounds_toArray, List.set_cons_zero, List.set_cons_succ])
          generalize (w_47.setCells w_46.heap.size 0 [.string s1, .slice a1 L1.length m1, .int .i64 l1, .int .u32 c1, .int .i64 f1, .int .i64 t1]) = w_48 at *
          clear q0 q1 q2 q3 q4 q5 hy0 hy1 hy2 hy3 hy4 hy5 y0 y1 y2 y3 y4 y5
          have q0 := there_free HT_48.out 0 (by decide)
          have q1 := there_free HT_48.out 1 (by decide)
          have q2 := there_free HT_48.out 2 (by decide)
          have q3 := there_free HT_48.out 3 (by decide)
          have q4 := there_free HT_48.out 4 (by decide)
          have q5 := there_free HT_48.out 5 (by decide)
          obtain ⟨y0, hy0⟩ := there_cell HT_48.out 0 (by decide)
          obtain ⟨y1, hy1⟩ := there_cell HT_48.out 1 (by decide)
          obtain ⟨y2, hy2⟩ := there_cell HT_48.out 2 (by decide)
          obtain ⟨y3, hy3⟩ := there_cell HT_48.out 3 (by decide)
          obtain ⟨y4, hy4⟩ := there_cell HT_48.out 4 (by decide)
          obtain ⟨y5, hy5⟩ := there_cell HT_48.out 5 (by decide)
          have HB_49 : Hid (Below w5.heap.size w5 (w_48.setCells wd.heap.size 0 [.string s2, .slice a2 L2.length m2, .int .i64 l2, .int .u32 c2, .int .i64 f2, .int .i64 t2])) := Lib.hid (below_puts (g := wd.heap.size) (o := 0) HB_48.out hG_44 [.string s2, .slice a2 L2.length m2, .int .i64 l2, .int .u32 c2, .int .i64 f2, .int .i64 t2])
          have HZ_49 := Lib.hid (below_puts_base (g := wd.heap.size) (o := 0) (Below.refl 0 w_48) (Nat.zero_le _) [.string s2, .slice a2 L2.length m2, .int .i64 l2, .int .u32 c2, .int .i64 f2, .int .i64 t2]).size
          have HC_49 := Lib.hid (c6_puts w_48 wd.heap.size (.string s2) (.slice a2 L2.length m2) (.int .i64 l2) (.int .u32 c2) (.int .i64 f2) (.int .i64 t2) HT_48.out)
          have HD_49 := Lib.hid (c6_out HC_48.out hNE 0 [.string s2, .slice a2 L2.length m2, .int .i64 l2, .int .u32 c2, .int .i64 f2, .int .i64 t2])
          refine held_step (i := 7) rfl (by kernel_rfl) (fun K hK => ?_)
          go_simp
          refine hK.out _ (w_48.setCells wd.heap.size 0 [.string s2, .slice a2 L2.length m2, .int .i64 l2, .int .u32 c2, .int .i64 f2, .int .i64 t2]) ⟨keep_cell a0 HB_49.out hlta, keep_cell a1' HB_49.out hlta, keep_cell a2' HB_49.out hlta, keep_cell a3 HB_49.out hlta, keep_cell a4 HB_49.out hlta, keep_cell a5 HB_49.out hlta, keep_cell b0 HB_49.out hltb, keep_cell b1 HB_49.out hltb, keep_cell b2 HB_49.out hltb, keep_cell b3 HB_49.out hltb, keep_cell b4 HB_49.out hltb, keep_cell b5 HB_49.out hltb⟩ (fun hHeld => ?_)
          clear hK K
          (try simp only [Act.put, List.setIfInBounds_toArray, List.set_cons_zero, List.set_cons_succ])
          generalize (w_48.setCells wd.heap.size 0 [.string s2, .slice a2 L2.length m2, .int .i64 l2, .int .u32 c2, .int .i64 f2, .int .i64 t2]) = w_49 at *
          refine wpAnyH_done (by kernel_rfl) ?_ _
          go_wp2
          go_meet
          exact ⟨w_46.heap.size, wd.heap.size, rfl, rfl, HD_49.out, HC_49.out, Nat.lt_of_lt_of_le hL_47 (Nat.le_trans HZ_48.out HZ_49.out), Nat.lt_of_lt_of_le hL5_47 (Nat.le_trans HZ_48.out HZ_49.out), HB_49.out⟩
        · have hb_50 := alloc_below w_45 (.cells #[.string ⟨#[]⟩, .slice none 0 0, .int .i64 0, .int .u32 0, .int .i64 0, .int .i64 0] 36)
          have hB_50 := hB_45.trans (hb_50.mono hB_45.size)
          have hT_50 := box_there (Below.refl (w_45.alloc (.cells #[.string ⟨#[]⟩, .slice none 0 0, .int .i64 0, .int .u32 0, .int .i64 0, .int .i64 0] 36)).heap.size (w_45.alloc (.cells #[.string ⟨#[]⟩, .slice none 0 0, .int .i64 0, .int .u32 0, .int .i64 0, .int .i64 0] 36)))
          have hL_50 : w_45.heap.size < (w_45.alloc (.cells #[.string ⟨#[]⟩, .slice none 0 0, .int .i64 0, .int .u32 0, .int .i64 0, .int .i64 0] 36)).heap.size := by rw [World.size_alloc]; omega
          have hG_50 := hB_45.size
          have hT5_50 := there_later hT5_45 hb_50 hL5_45
          have hL5_50 := Nat.lt_of_lt_of_le hL5_45 hb_50.size
          have hN_50 : w_45.heap.size ≠ wd.heap.size := by have := hL5_45; omega
          go_simp
          refine hK.out _ _ ⟨keep_cell a0 hB_50 hlta, keep_cell a1' hB_50 hlta, keep_cell a2' hB_50 hlta, keep_cell a3 hB_50 hlta, keep_cell a4 hB_50 hlta, keep_cell a5 hB_50 hlta, keep_cell b0 hB_50 hltb, keep_cell b1 hB_50 hltb, keep_cell b2 hB_50 hltb, keep_cell b3 hB_50 hltb, keep_cell b4 hB_50 hltb, keep_cell b5 hB_50 hltb⟩ (fun hHeld => ?_)
          clear hK K
          (try simp only [Act.put, List.setIfInBounds_toArray, List.set_cons_zero, List.set_cons_succ])
          generalize w_45.alloc (.cells #[.string ⟨#[]⟩, .slice none 0 0, .int .i64 0, .int .u32 0, .int .i64 0, .int .i64 0] 36) = w_50 at *
          refine held_step (i := 3) rfl (by kernel_rfl) (fun K hK => ?_)
          go_simp; go_at_call 8; refine (K2.out _ hB_50).mono ?_; rintro e w_51 ⟨rfl, hb_51⟩
          have hB_51 := hB_50.trans (hb_51.mono hB_50.size)
          have hT5_51 := there_later hT5_50 hb_51 hL5_50
          have hL5_51 := Nat.lt_of_lt_of_le hL5_50 hb_51.size
          have hT4_51 := there_later hT_50 hb_51 hL_50
          have hL4_51 := Nat.lt_of_lt_of_le hL_50 hb_51.size
          refine hK.out _ _ ⟨keep_cell a0 hB_51 hlta, keep_cell a1' hB_51 hlta, keep_cell a2' hB_51 hlta, keep_cell a3 hB_51 hlta, keep_cell a4 hB_51 hlta, keep_cell a5 hB_51 hlta, keep_cell b0 hB_51 hltb, keep_cell b1 hB_51 hltb, keep_cell b2 hB_51 hltb, keep_cell b3 hB_51 hltb, keep_cell b4 hB_51 hltb, keep_cell b5 hB_51 hltb⟩ (fun hHeld => ?_)
          clear hK K
          (try simp only [Act.put, List.setIfInBounds_toArray, List.set_cons_zero, List.set_cons_succ])
          have hNE := hN_50
          have q0 := there_free hT4_51 0 (by decide)
          have q1 := there_free hT4_51 1 (by decide)
          have q2 := there_free hT4_51 2 (by decide)
          have q3 := there_free hT4_51 3 (by decide)
          have q4 := there_free hT4_51 4 (by decide)
          have q5 := there_free hT4_51 5 (by decide)
          obtain ⟨y0, hy0⟩ := there_cell hT4_51 0 (by decide)
          obtain ⟨y1, hy1⟩ := there_cell hT4_51 1 (by decide)
          obtain ⟨y2, hy2⟩ := there_cell hT4_51 2 (by decide)
          obtain ⟨y3, hy3⟩ := there_cell hT4_51 3 (by decide)
          obtain ⟨y4, hy4⟩ := there_cell hT4_51 4 (by decide)
          obtain ⟨y5, hy5⟩ := there_cell hT4_51 5 (by decide)
          have HB_52 : Hid (Below w5.heap.size w5 (w_51.setCells w_45.heap.size 0 [.string s1, .slice a1 L1.length m1, .int .i64 l1, .int .u32 c1, .int .i64 f1, .int .i64 t1])) := Lib.hid (below_puts (g := w_45.heap.size) (o := 0) hB_51 hG_50 [.string s1, .slice a1 L1.length m1, .int .i64 l1, .int .u32 c1, .int .i64 f1, .int .i64 t1])
          have HZ_52 := Lib.hid (below_puts_base (g := w_45.heap.size) (o := 0) (Below.refl 0 w_51) (Nat.zero_le _) [.string s1, .slice a1 L1.length m1, .int .i64 l1, .int .u32 c1, .int .i64 f1, .int .i64 t1]).size
          have HC_52 := Lib.hid (c6_puts w_51 w_45.heap.size (.string s1) (.slice a1 L1.length m1) (.int .i64 l1) (.int .u32 c1) (.int .i64 f1) (.int .i64 t1) hT4_51)
          have HT_52 := Lib.hid (World.there_setCells hT5_51 w_45.heap.size 0 [.string s1, .slice a1 L1.length m1, .int .i64 l1, .int .u32 c1, .int .i64 f1, .int .i64 t1])
          refine held_step (i := 6) rfl (by kernel_rfl) (fun K hK => ?_)
          go_simp
          refine hK.out _ (w_51.setCells w_45.heap.size 0 [.string s1, .slice a1 L1.length m1, .int .i64 l1, .int .u32 c1, .int .i64 f1, .int .i64 t1]) ⟨keep_cell a0 HB_52.out hlta, keep_cell a1' HB_52.out hlta, keep_cell a2' HB_52.out hlta, keep_cell a3 HB_52.out hlta, keep_cell a4 HB_52.out hlta, keep_cell a5 HB_52.out hlta, keep_cell b0 HB_52.out hltb, keep_cell b1 HB_52.out hltb, keep_cell b2 HB_52.out hltb, keep_cell b3 HB_52.out hltb, keep_cell b4 HB_52.out hltb, keep_cell b5 HB_52.out hltb⟩ (fun hHeld => ?_)
          clear hK K
          (try simp only [Act.put, List.setIfInBounds_toArray, List.set_cons_zero, List.set_cons_succ])
          generalize (w_51.setCells w_45.heap.size 0 [.string s1, .slice a1 L1.length m1, .int .i64 l1, .int .u32 c1, .int .i64 f1, .int .i64 t1]) = w_52 at *
          clear q0 q1 q2 q3 q4 q5 hy0 hy1 hy2 hy3 hy4 hy5 y0 y1 y2 y3 y4 y5
          have q0 := there_free HT_52.out 0 (by decide)
          have q1 := there_free HT_52.out 1 (by decide)
          have q2 := there_free HT_52.out 2 (by decide)
          have q3 := there_free HT_52.out 3 (by decide)
          have q4 := there_free HT_52.out 4 (by decide)
          have q5 := there_free HT_52.out 5 (by decide)
          obtain ⟨y0, hy0⟩ := there_cell HT_52.out 0 (by decide)
          obtain ⟨y1, hy1⟩ := there_cell HT_52.out 1 (by decide)
          obtain ⟨y2, hy2⟩ := there_cell HT_52.out 2 (by decide)
          obtain ⟨y3, hy3⟩ := there_cell HT_52.out 3 (by decide)
          obtain ⟨y4, hy4⟩ := there_cell HT_52.out 4 (by decide)
          obtain ⟨y5, hy5⟩ := there_cell HT_52.out 5 (by decide)
          have HB_53 : Hid (Below w5.heap.size w5 (w_52.setCells wd.heap.size 0 [.string s2, .slice a2 L2.length m2, .int .i64 l2, .int .u32 c2, .int .i64 f2, .int .i64 t2])) := Lib.hid (below_puts (g := wd.heap.size) (o := 0) HB_52.out hG_44 [.string s2, .slice a2 L2.length m2, .int .i64 l2, .int .u32 c2, .int .i64 f2, .int .i64 t2])
          have HZ_53 := Lib.hid (below_puts_base (g := wd.heap.size) (o := 0) (Below.refl 0 w_52) (Nat.zero_le _) [.string s2, .slice a2 L2.length m2, .int .i64 l2, .int .u32 c2, .int .i64 f2, .int .i64 t2]).size
          have HC_53 := Lib.hid (c6_puts w_52 wd.heap.size (.string s2) (.slice a2 L2.length m2) (.int .i64 l2) (.int .u32 c2) (.int .i64 f2) (.int .i64 t2) HT_52.out)
          have HD_53 := Lib.hid (c6_out HC_52.out hNE 0 [.string s2, .slice a2 L2.length m2, .int .i64 l2, .int .u32 c2, .int .i64 f2, .int .i64 t2])
          refine held_step (i := 7) rfl (by kernel_rfl) (fun K hK => ?_)
          go_simp
          refine hK.out _ (w_52.setCells wd.heap.size 0 [.string s2, .slice a2 L2.length m2, .int .i64 l2, .int .u32 c2, .int .i64 f2, .int .i64 t2]) ⟨keep_cell a0 HB_53.out hlta, keep_cell a1' HB_53.out hlta, keep_cell a2' HB_53.out hlta, keep_cell a3 HB_53.out hlta, keep_cell a4 HB_53.out hlta, keep_cell a5 HB_53.out hlta, keep_cell b0 HB_53.out hltb, keep_cell b1 HB_53.out hltb, keep_cell b2 HB_53.out hltb, keep_cell b3 HB_53.out hltb, keep_cell b4 HB_53.out hltb, keep_cell b5 HB_53.out hltb⟩ (fun hHeld => ?_)
          clear hK K
          (try simp only [Act.put, List.setIfInBounds_toArray, List.set_cons_zero, List.set_cons_succ])
          generalize (w_52.setCells wd.heap.size 0 [.string s2, .slice a2 L2.length m2, .int .i64 l2, .int .u32 c2, .int .i64 f2, .int .i64 t2]) = w_53 at *
          refine wpAnyH_done (by kernel_rfl) ?_ _
          go_wp2
          go_meet
          exact ⟨w_45.heap.size, wd.heap.size, rfl, rfl, HD_53.out, HC_53.out, Nat.lt_of_lt_of_le hL4_51 (Nat.le_trans HZ_52.out HZ_53.out), Nat.lt_of_lt_of_le hL5_51 (Nat.le_trans HZ_52.out HZ_53.out), HB_53.out⟩
      · have hb_54 := alloc_below w_44 (.cells #[.string ⟨#[]⟩, .slice none 0 0, .int .i64 0, .int .u32 0, .int .i64 0, .int .i64 0] 36)
        have hB_54 := hB_44.trans (hb_54.mono hB_44.size)
        have hT_54 := box_there (Below.refl (w_44.alloc (.cells #[.string ⟨#[]⟩, .slice none 0 0, .int .i64 0, .int .u32 0, .int .i64 0, .int .i64 0] 36)).heap.size (w_44.alloc (.cells #[.string ⟨#[]⟩, .slice none 0 0, .int .i64 0, .int .u32 0, .int .i64 0, .int .i64 0] 36)))
        have hL_54 : w_44.heap.size < (w_44.alloc (.cells #[.string ⟨#[]⟩, .slice none 0 0, .int .i64 0, .int .u32 0, .int .i64 0, .int .i64 0] 36)).heap.size := by rw [World.size_alloc]; omega
        have hG_54 := hB_44.size
        have hT5_54 := there_later hT_44 hb_54 hL_44
        have hL5_54 := Nat.lt_of_lt_of_le hL_44 hb_54.size
        have hN_54 : w_44.heap.size ≠ wd.heap.size := by have := hL_44; omega
        go_simp
        refine hK.out _ _ ⟨keep_cell a0 hB_54 hlta, keep_cell a1' hB_54 hlta, keep_cell a2' hB_54 hlta, keep_cell a3 hB_54 hlta, keep_cell a4 hB_54 hlta, keep_cell a5 hB_54 hlta, keep_cell b0 hB_54 hltb, keep_cell b1 hB_54 hltb, keep_cell b2 hB_54 hltb, keep_cell b3 hB_54 hltb, keep_cell b4 hB_54 hltb, keep_cell b5 hB_54 hltb⟩ (fun hHeld => ?_)
        clear hK K
        (try simp only [Act.put, List.setIfInBounds_toArray, List.set_cons_zero, List.set_cons_succ])
        generalize w_44.alloc (.cells #[.string ⟨#[]⟩, .slice none 0 0, .int .i64 0, .int .u32 0, .int .i64 0, .int .i64 0] 36) = w_54 at *
        refine held_step (i := 1) rfl (by kernel_rfl) (fun K hK => ?_)
        go_simp; go_at_call 8; refine (K1.out _ hB_54).mono ?_; rintro e w_55 ⟨rfl, hb_55⟩
        have hB_55 := hB_54.trans (hb_55.mono hB_54.size)
        have hT5_55 := there_later hT5_54 hb_55 hL5_54
        have hL5_55 := Nat.lt_of_lt_of_le hL5_54 hb_55.size
        have hT4_55 := there_later hT_54 hb_55 hL_54
        have hL4_55 := Nat.lt_of_lt_of_le hL_54 hb_55.size
        refine hK.out _ _ ⟨keep_cell a0 hB_55 hlta, keep_cell a1' hB_55 hlta, keep_cell a2' hB_55 hlta, keep_cell a3 hB_55 hlta, keep_cell a4 hB_55 hlta, keep_cell a5 hB_55 hlta, keep_cell b0 hB_55 hltb, keep_cell b1 hB_55 hltb, keep_cell b2 hB_55 hltb, keep_cell b3 hB_55 hltb, keep_cell b4 hB_55 hltb, keep_cell b5 hB_55 hltb⟩ (fun hHeld => ?_)
        clear hK K
        (try simp only [Act.put, List.setIfInBounds_toArray, List.set_cons_zero, List.set_cons_succ])
        refine held_step (i := 3) rfl (by kernel_rfl) (fun K hK => ?_)
        go_simp; go_at_call 8; refine (K2.out _ hB_55).mono ?_; rintro e w_56 ⟨rfl, hb_56⟩
        have hB_56 := hB_55.trans (hb_56.mono hB_55.size)
        have hT5_56 := there_later hT5_55 hb_56 hL5_55
        have hL5_56 := Nat.lt_of_lt_of_le hL5_55 hb_56.size
        have hT4_56 := there_later hT4_55 hb_56 hL4_55
        have hL4_56 := Nat.lt_of_lt_of_le hL4_55 hb_56.size
        refine hK.out _ _ ⟨keep_cell a0 hB_56 hlta, keep_cell a1' hB_56 hlta, keep_cell a2' hB_56 hlta, keep_cell a3 hB_56 hlta, keep_cell a4 hB_56 hlta, keep_cell a5 hB_56 hlta, keep_cell b0 hB_56 hltb, keep_cell b1 hB_56 hltb, keep_cell b2 hB_56 hltb, keep_cell b3 hB_56 hltb, keep_cell b4 hB_56 hltb, keep_cell b5 hB_56 hltb⟩ (fun hHeld => ?_)
        clear hK K
        (try simp only [Act.put, List.setIfInBounds_toArray, List.set_cons_zero, List.set_cons_succ])
        have hNE := hN_54
        have q0 := there_free hT4_56 0 (by decide)
        have q1 := there_free hT4_56 1 (by decide)
        have q2 := there_free hT4_56 2 (by decide)
        have q3 := there_free hT4_56 3 (by decide)
        have q4 := there_free hT4_56 4 (by decide)
        have q5 := there_free hT4_56 5 (by decide)
        obtain ⟨y0, hy0⟩ := there_cell hT4_56 0 (by decide)
        obtain ⟨y1, hy1⟩ := there_cell hT4_56 1 (by decide)
        obtain ⟨y2, hy2⟩ := there_cell hT4_56 2 (by decide)
        obtain ⟨y3, hy3⟩ := there_cell hT4_56 3 (by decide)
        obtain ⟨y4, hy4⟩ := there_cell hT4_56 4 (by decide)
        obtain ⟨y5, hy5⟩ := there_cell hT4_56 5 (by decide)
        have HB_57 : Hid (Below w5.heap.size w5 (w_56.setCells w_44.heap.size 0 [.string s1, .slice a1 L1.length m1, .int .i64 l1, .int .u32 c1, .int .i64 f1, .int .i64 t1])) := Lib.hid (below_puts (g := w_44.heap.size) (o := 0) hB_56 hG_54 [.string s1, .slice a1 L1.length m1, .int .i64 l1, .int .u32 c1, .int .i64 f1, .int .i64 t1])
        have HZ_57 := Lib.hid (below_puts_base (g := w_44.heap.size) (o := 0) (Below.refl 0 w_56) (Nat.zero_le _) [.string s1, .slice a1 L1.length m1, .int .i64 l1, .int .u32 c1, .int .i64 f1, .int .i64 t1]).size
        have HC_57 := Lib.hid (c6_puts w_56 w_44.heap.size (.string s1) (.slice a1 L1.length m1) (.int .i64 l1) (.int .u32 c1) (.int .i64 f1) (.int .i64 t1) hT4_56)
        have HT_57 := Lib.hid (World.there_setCells hT5_56 w_44.heap.size 0 [.string s1, .slice a1 L1.length m1, .int .i64 l1, .int .u32 c1, .int .i64 f1, .int .i64 t1])
        refine held_step (i := 6) rfl (by kernel_rfl) (fun K hK => ?_)
        go_simp
        refine hK.out _ (w_56.setCells w_44.heap.size 0 [.string s1, .slice a1 L1.length m1, .int .i64 l1, .int .u32 c1, .int .i64 f1, .int .i64 t1]) ⟨keep_cell a0 HB_57.out hlta, keep_cell a1' HB_57.out hlta, keep_cell a2' HB_57.out hlta, keep_cell a3 HB_57.out hlta, keep_cell a4 HB_57.out hlta, keep_cell a5 HB_57.out hlta, keep_cell b0 HB_57.out hltb, keep_cell b1 HB_57.out hltb, keep_cell b2 HB_57.out hltb, keep_cell b3 HB_57.out hltb, keep_cell b4 HB_57.out hltb, keep_cell b5 HB_57.out hltb⟩ (fun hHeld => ?_)
        clear hK K
        (try simp only [Act.put, List.setIfInBounds_toArray, List.set_cons_zero, List.set_cons_succ])
        generalize (w_56.setCells w_44.heap.size 0 [.string s1, .slice a1 L1.length m1, .int .i64 l1, .int .u32 c1, .int .i64 f1, .int .i64 t1]) = w_57 at *
        clear q0 q1 q2 q3 q4 q5 hy0 hy1 hy2 hy3 hy4 hy5 y0 y1 y2 y3 y4 y5
        have q0 := there_free HT_57.out 0 (by decide)
        have q1 := there_free HT_57.out 1 (by decide)
        have q2 := there_free HT_57.out 2 (by decide)
        have q3 := there_free HT_57.out 3 (by decide)
        have q4 := there_free HT_57.out 4 (by decide)
        have q5 := there_free HT_57.out 5 (by decide)
        obtain ⟨y0, hy0⟩ := there_cell HT_57.out 0 (by decide)
        obtain ⟨y1, hy1⟩ := there_cell HT_57.out 1 (by decide)
        obtain ⟨y2, hy2⟩ := there_cell HT_57.out 2 (by decide)
        obtain ⟨y3, hy3⟩ := there_cell HT_57.out 3 (by decide)
        obtain ⟨y4, hy4⟩ := there_cell HT_57.out 4 (by decide)
        obtain ⟨y5, hy5⟩ := there_cell HT_57.out 5 (by decide)
        have HB_58 : Hid (Below w5.heap.size w5 (w_57.setCells wd.heap.size 0 [.string s2, .slice a2 L2.length m2, .int .i64 l2, .int .u32 c2, .int .i64 f2, .int .i64 t2])) := Lib.hid (below_puts (g := wd.heap.size) (o := 0) HB_57.out hG_44 [.string s2, .slice a2 L2.length m2, .int .i64 l2, .int .u32 c2, .int .i64 f2, .int .i64 t2])
        have HZ_58 := Lib.hid (below_puts_base (g := wd.heap.size) (o := 0) (Below.refl 0 w_57) (Nat.zero_le _) [.string s2, .slice a2 L2.length m2, .int .i64 l2, .int .u32 c2, .int .i64 f2, .int .i64 t2]).size
        have HC_58 := Lib.hid (c6_puts w_57 wd.heap.size (.string s2) (.slice a2 L2.length m2) (.int .i64 l2) (.int .u32 c2) (.int .i64 f2) (.int .i64 t2) HT_57.out)
        have HD_58 := Lib.hid (c6_out HC_57.out hNE 0 [.string s2, .slice a2 L2.length m2, .int .i64 l2, .int .u32 c2, .int .i64 f2, .int .i64 t2])
        refine held_step (i := 7) rfl (by kernel_rfl) (fun K hK => ?_)
        go_simp
        refine hK.out _ (w_57.setCells wd.heap.size 0 [.string s2, .slice a2 L2.length m2, .int .i64 l2, .int .u32 c2, .int .i64 f2, .int .i64 t2]) ⟨keep_cell a0 HB_58.out hlta, keep_cell a1' HB_58.out hlta, keep_cell a2' HB_58.out hlta, keep_cell a3 HB_58.out hlta, keep_cell a4 HB_58.out hlta, keep_cell a5 HB_58.out hlta, keep_cell b0 HB_58.out hltb, keep_cell b1 HB_58.out hltb, keep_cell b2 HB_58.out hltb, keep_cell b3 HB_58.out hltb, keep_cell b4 HB_58.out hltb, keep_cell b5 HB_58.out hltb⟩ (fun hHeld => ?_)
        clear hK K
        (try simp only [Act.put, List.setIfInBounds_toArray, List.set_cons_zero, List.set_cons_succ])
        generalize (w_57.setCells wd.heap.size 0 [.string s2, .slice a2 L2.length m2, .int .i64 l2, .int .u32 c2, .int .i64 f2, .int .i64 t2]) = w_58 at *
        refine wpAnyH_done (by kernel_rfl) ?_ _
        go_wp2
        go_meet
        exact ⟨w_44.heap.size, wd.heap.size, rfl, rfl, HD_58.out, HC_58.out, Nat.lt_of_lt_of_le hL4_56 (Nat.le_trans HZ_57.out HZ_58.out), Nat.lt_of_lt_of_le hL5_56 (Nat.le_trans HZ_57.out HZ_58.out), HB_58.out⟩
  case rest =>
    obtain ⟨gx, gy, rfl, rfl, hX, hY, hltx, hlty, hB⟩ := hcut
    replace HBW : Hid (Below w.heap.size w wc) := Lib.hid (HBW.out.trans (hB.mono HBW.out.size))
    have HXB : Hid (ABx gx s1 L1 a1 m1 l1 c1 f1 t1 wc) := Lib.hid ⟨hX, hltx, HV1.out.later HBW.out⟩
    have HYB : Hid (ABx gy s2 L2 a2 m2 l2 c2 f2 t2 wc) := Lib.hid ⟨hY, hlty, HV2.out.later HBW.out⟩
    clear hX hY hltx hlty hB K1 K2 a0 a1' a2' a3 a4 a5 b0 b1 b2 b3 b4 b5 hlta hltb HV1 HV2
    obtain ⟨ok, hok⟩ : ∃ z, mergeOk ⟨s1, L1, l1, c1, f1, t1⟩ ⟨s2, L2, l2, c2, f2, t2⟩ = z := ⟨_, rfl⟩
    obtain ⟨am, ham⟩ : ∃ z, mrgA ⟨s1, L1, l1, c1, f1, t1⟩ ⟨s2, L2, l2, c2, f2, t2⟩ = z := ⟨_, rfl⟩
    have K3 := Lib.hid (fun W (h1 : FldsAt W (.slice a1 L1.length m1) L1) (h2 : FldsAt W (.slice a2 L2.length m2) L2) => merge_l _ _ am ok (.slice a1 L1.length m1) (.slice a2 L2.length m2) W HX.out HY.out h1 h2 hok ham)
    have K4 := Lib.hid (fun W (h1 : FldsAt W (.slice a1 L1.length m1) L1) (h2 : FldsAt W (.slice a2 L2.length m2) L2) => merge_r _ _ am ok a1 a2 m1 m2 W HX.out HY.out h1 h2 hok ham)
    have HML := Lib.hid (mrg_len ham HXL.out)
    clear hok ham
    obtain ⟨sm, Lm, lm, cm, fm, tm⟩ := am
    dsimp only [AlV] at K3 K4 HML
    obtain ⟨a0, a1', a2', a3, a4, a5⟩ := HXB.out.x
    obtain ⟨b0, b1, b2, b3, b4, b5⟩ := HYB.out.x
    go_wp2_with fail
    refine (K3.out _ HXB.out.f HYB.out.f).mono ?_
    rintro e w6c ⟨ma, mc, rfl, hF, hb⟩
    have Hm := Lib.hid (abx_new (src := sm) (lv := lm) (c := cm) (fr := fm) (til := tm) (t := 36) hF)
    have hbb := hb.trans ((alloc_below w6c (.cells #[.string sm, .slice ma Lm.length mc, .int .i64 lm, .int .u32 cm, .int .i64 fm, .int .i64 tm] 36)).mono hb.size)
    replace HXB := Lib.hid (HXB.out.later hbb)
    replace HYB := Lib.hid (HYB.out.later hbb)
    replace HBW := Lib.hid (HBW.out.trans (hbb.mono HBW.out.size))
    clear a0 a1' a2' a3 a4 a5 b0 b1 b2 b3 b4 b5 hF hb hbb K3
    go_upto_region 5 with fail
    change Code.wp _ _ _ _ (w6c.alloc (.cells #[.string sm, .slice ma Lm.length mc, .int .i64 lm, .int .u32 cm, .int .i64 fm, .int .i64 tm] 36))
    generalize w6c.alloc (.cells #[.string sm, .slice ma Lm.length mc, .int .i64 lm, .int .u32 cm, .int .i64 fm, .int .i64 tm] 36) = w6 at *
    generalize w6c.heap.size = gm at *
    obtain ⟨na, nc, hN, k4⟩ := K4.out _ HXB.out.f HYB.out.f
    have K5 := Lib.hid k4
    have HN := Lib.hid hN
    clear hN k4 K4
    obtain ⟨a0, a1', a2', a3, a4, a5⟩ := HXB.out.x
    obtain ⟨b0, b1, b2, b3, b4, b5⟩ := HYB.out.x
    have hlta := HXB.out.lt
    have hltb := HYB.out.lt
    have KA1 : Hid (∀ W, Calls Try.prog 9 #[.agg #[.string s1, .slice a1 L1.length m1, .int .i64 l1, .int .u32 c1, .int .i64 f1, .int .i64 t1]] W fun e w' => e = .returned (.agg #[.string s1, .slice a1 L1.length m1, .int .i64 l1, .int .u32 c1, .int .i64 f1, .int .i64 t1]) ∧ Below W.heap.size W w') := Lib.hid (fun W => as_any s1 a1 L1.length m1 l1 c1 f1 t1 W)
    have KA2 : Hid (∀ W, Calls Try.prog 9 #[.agg #[.string s2, .slice a2 L2.length m2, .int .i64 l2, .int .u32 c2, .int .i64 f2, .int .i64 t2]] W fun e w' => e = .returned (.agg #[.string s2, .slice a2 L2.length m2, .int .i64 l2, .int .u32 c2, .int .i64 f2, .int .i64 t2]) ∧ Below W.heap.size W w') := Lib.hid (fun W => as_any s2 a2 L2.length m2 l2 c2 f2 t2 W)
    go_cut [11, 12] from 25 to 32 (fun s11 s12 wx => ∃ gn, s11 = .pointer (some ⟨gn, 0, none⟩) ∧ s12 = .bool ok ∧ C6 gn (.string sm) (.slice na Lm.length nc) (.int .i64 lm) (.int .u32 cm) (.int .i64 fm) (.int .i64 tm) wx ∧ gn < wx.heap.size ∧ Below w6.heap.size w6 wx)
    case first =>
      refine wp_region_held_drew (S := (fun W => W.cell? ⟨gx, 0, none⟩ = some (.string s1) ∧ W.cell? ⟨gx, 1, none⟩ = some (.slice a1 L1.length m1) ∧ W.cell? ⟨gx, 2, none⟩ = some (.int .i64 l1) ∧ W.cell? ⟨gx, 3, none⟩ = some (.int .u32 c1) ∧ W.cell? ⟨gx, 4, none⟩ = some (.int .i64 f1) ∧ W.cell? ⟨gx, 5, none⟩ = some (.int .i64 t1) ∧ W.cell? ⟨gy, 0, none⟩ = some (.string s2) ∧ W.cell? ⟨gy, 1, none⟩ = some (.slice a2 L2.length m2) ∧ W.cell? ⟨gy, 2, none⟩ = some (.int .i64 l2) ∧ W.cell? ⟨gy, 3, none⟩ = some (.int .u32 c2) ∧ W.cell? ⟨gy, 4, none⟩ = some (.int .i64 f2) ∧ W.cell? ⟨gy, 5, none⟩ = some (.int .i64 t2))) (by kernel_rfl) ⟨a0, a1', a2', a3, a4, a5, b0, b1, b2, b3, b4, b5⟩ (fun hHeld => ?_)
      have hd : Below w6.heap.size w6 w6.drew := (Below.refl _ _).drew
      generalize w6.drew = wd at *
      refine held_take (i := 0) (v := ?_) rfl rfl (by kernel_rfl) (by kernel_rfl) (by kernel_rfl) (fun _ _ _ h => h) (by rfl) hHeld ?_ ?_
      rotate_left
      · rintro wh ⟨z0, z1, z2, z3, z4, z5, z6, z7, z8, z9, z10, z11⟩
        go_simp
        (try with_reducible rfl)
      simp only [Act.put, List.setIfInBounds_toArray, List.set_cons_zero, List.set_cons_succ]
      refine held_take (i := 2) (v := ?_) rfl rfl (by kernel_rfl) (by kernel_rfl) (by kernel_rfl) (fun _ _ _ h => h) (by rfl) hHeld ?_ ?_
      rotate_left
      · rintro wh ⟨z0, z1, z2, z3, z4, z5, z6, z7, z8, z9, z10, z11⟩
        go_simp
        (try with_reducible rfl)
      simp only [Act.put, List.setIfInBounds_toArray, List.set_cons_zero, List.set_cons_succ]
      refine held_two (i := 1) (j := 8) rfl rfl (by kernel_rfl) (fun K hK => ?_) (fun K hK => ?_)
      · go_simp; go_at_call 9; refine (KA1.out _).mono ?_; rintro e w_59 ⟨rfl, hb_59⟩
        have hB_59 := hd.trans (hb_59.mono hd.size)
        refine hK.out _ _ ⟨keep_cell a0 hB_59 hlta, keep_cell a1' hB_59 hlta, keep_cell a2' hB_59 hlta, keep_cell a3 hB_59 hlta, keep_cell a4 hB_59 hlta, keep_cell a5 hB_59 hlta, keep_cell b0 hB_59 hltb, keep_cell b1 hB_59 hltb, keep_cell b2 hB_59 hltb, keep_cell b3 hB_59 hltb, keep_cell b4 hB_59 hltb, keep_cell b5 hB_59 hltb⟩ (fun hHeld => ?_)
        clear hK K
        (try simp only [Act.put, List.setIfInBounds_toArray, List.set_cons_zero, List.set_cons_succ])
        refine held_two (i := 3) (j := 8) rfl rfl (by kernel_rfl) (fun K hK => ?_) (fun K hK => ?_)
        · go_simp; go_at_call 9; refine (KA2.out _).mono ?_; rintro e w_60 ⟨rfl, hb_60⟩
          have hB_60 := hB_59.trans (hb_60.mono hB_59.size)
          refine hK.out _ _ ⟨keep_cell a0 hB_60 hlta, keep_cell a1' hB_60 hlta, keep_cell a2' hB_60 hlta, keep_cell a3 hB_60 hlta, keep_cell a4 hB_60 hlta, keep_cell a5 hB_60 hlta, keep_cell b0 hB_60 hltb, keep_cell b1 hB_60 hltb, keep_cell b2 hB_60 hltb, keep_cell b3 hB_60 hltb, keep_cell b4 hB_60 hltb, keep_cell b5 hB_60 hltb⟩ (fun hHeld => ?_)
          clear hK K
          (try simp only [Act.put, List.setIfInBounds_toArray, List.set_cons_zero, List.set_cons_succ])
          refine held_two (i := 4) (j := 8) rfl rfl (by kernel_rfl) (fun K hK => ?_) (fun K hK => ?_)
          · go_simp; go_at_call 24; refine (K5.out _ hB_60).mono ?_; rintro e w_61 ⟨rfl, hb_61⟩
            have hB_61 := hB_60.trans (hb_61.mono hB_60.size)
            refine hK.out _ _ ⟨keep_cell a0 hB_61 hlta, keep_cell a1' hB_61 hlta, keep_cell a2' hB_61 hlta, keep_cell a3 hB_61 hlta, keep_cell a4 hB_61 hlta, keep_cell a5 hB_61 hlta, keep_cell b0 hB_61 hltb, keep_cell b1 hB_61 hltb, keep_cell b2 hB_61 hltb, keep_cell b3 hB_61 hltb, keep_cell b4 hB_61 hltb, keep_cell b5 hB_61 hltb⟩ (fun hHeld => ?_)
            clear hK K
            (try simp only [Act.put, List.setIfInBounds_toArray, List.set_cons_zero, List.set_cons_succ])
            refine held_take (i := 5) (v := ?_) rfl rfl (by kernel_rfl) (by kernel_rfl) (by kernel_rfl) (fun _ _ _ h => h) (by rfl) hHeld ?_ ?_
            rotate_left
            · rintro wh ⟨z0, z1, z2, z3, z4, z5, z6, z7, z8, z9, z10, z11⟩
              go_simp
              (try with_reducible rfl)
            simp only [Act.put, List.setIfInBounds_toArray, List.set_cons_zero, List.set_cons_succ]
            refine held_take (i := 6) (v := ?_) rfl rfl (by kernel_rfl) (by kernel_rfl) (by kernel_rfl) (fun _ _ _ h => h) (by rfl) hHeld ?_ ?_
            rotate_left
            · rintro wh ⟨z0, z1, z2, z3, z4, z5, z6, z7, z8, z9, z10, z11⟩
              go_simp
              (try with_reducible rfl)
            simp only [Act.put, List.setIfInBounds_toArray, List.set_cons_zero, List.set_cons_succ]
            refine held_take (i := 7) (v := ?_) rfl rfl (by kernel_rfl) (by kernel_rfl) (by kernel_rfl) (fun _ _ _ h => h) (by rfl) hHeld ?_ ?_
            rotate_left
            · rintro wh ⟨z0, z1, z2, z3, z4, z5, z6, z7, z8, z9, z10, z11⟩
              go_simp
              (try with_reducible rfl)
            simp only [Act.put, List.setIfInBounds_toArray, List.set_cons_zero, List.set_cons_succ]
            refine held_step (i := 8) rfl (by kernel_rfl) (fun K hK => ?_)
            have hb_62 := alloc_below w_61 (.cells #[.string ⟨#[]⟩, .slice none 0 0, .int .i64 0, .int .u32 0, .int .i64 0, .int .i64 0] 38)
            have hB_62 := hB_61.trans (hb_62.mono hB_61.size)
            have hT_62 := box_there (Below.refl (w_61.alloc (.cells #[.string ⟨#[]⟩, .slice none 0 0, .int .i64 0, .int .u32 0, .int .i64 0, .int .i64 0] 38)).heap.size (w_61.alloc (.cells #[.string ⟨#[]⟩, .slice none 0 0, .int .i64 0, .int .u32 0, .int .i64 0, .int .i64 0] 38)))
            have hL_62 : w_61.heap.size < (w_61.alloc (.cells #[.string ⟨#[]⟩, .slice none 0 0, .int .i64 0, .int .u32 0, .int .i64 0, .int .i64 0] 38)).heap.size := by rw [World.size_alloc]; omega
            have hG_62 := hB_61.size
            go_simp
            refine hK.out _ _ ⟨keep_cell a0 hB_62 hlta, keep_cell a1' hB_62 hlta, keep_cell a2' hB_62 hlta, keep_cell a3 hB_62 hlta, keep_cell a4 hB_62 hlta, keep_cell a5 hB_62 hlta, keep_cell b0 hB_62 hltb, keep_cell b1 hB_62 hltb, keep_cell b2 hB_62 hltb, keep_cell b3 hB_62 hltb, keep_cell b4 hB_62 hltb, keep_cell b5 hB_62 hltb⟩ (fun hHeld => ?_)
            clear hK K
            (try simp only [Act.put, List.setIfInBounds_toArray, List.set_cons_zero, List.set_cons_succ])
            generalize w_61.alloc (.cells #[.string ⟨#[]⟩, .slice none 0 0, .int .i64 0, .int .u32 0, .int .i64 0, .int .i64 0] 38) = w_62 at *
            have q0 := there_free hT_62 0 (by decide)
            have q1 := there_free hT_62 1 (by decide)
            have q2 := there_free hT_62 2 (by decide)
            have q3 := there_free hT_62 3 (by decide)
            have q4 := there_free hT_62 4 (by decide)
            have q5 := there_free hT_62 5 (by decide)
            obtain ⟨y0, hy0⟩ := there_cell hT_62 0 (by decide)
            obtain ⟨y1, hy1⟩ := there_cell hT_62 1 (by decide)
            obtain ⟨y2, hy2⟩ := there_cell hT_62 2 (by decide)
            obtain ⟨y3, hy3⟩ := there_cell hT_62 3 (by decide)
            obtain ⟨y4, hy4⟩ := there_cell hT_62 4 (by decide)
            obtain ⟨y5, hy5⟩ := there_cell hT_62 5 (by decide)
            have HB_63 : Hid (Below w6.heap.size w6 (w_62.setCells w_61.heap.size 0 [.string sm, .slice na Lm.length nc, .int .i64 lm, .int .u32 cm, .int .i64 fm, .int .i64 tm])) := Lib.hid (below_puts (g := w_61.heap.size) (o := 0) hB_62 hG_62 [.string sm, .slice na Lm.length nc, .int .i64 lm, .int .u32 cm, .int .i64 fm, .int .i64 tm])
            have HZ_63 := Lib.hid (below_puts_base (g := w_61.heap.size) (o := 0) (Below.refl 0 w_62) (Nat.zero_le _) [.string sm, .slice na Lm.length nc, .int .i64 lm, .int .u32 cm, .int .i64 fm, .int .i64 tm]).size
            have HC_63 := Lib.hid (c6_puts w_62 w_61.heap.size (.string sm) (.slice na Lm.length nc) (.int .i64 lm) (.int .u32 cm) (.int .i64 fm) (.int .i64 tm) hT_62)
            refine held_step (i := 9) rfl (by kernel_rfl) (fun K hK => ?_)
            go_simp
            refine hK.out _ (w_62.setCells w_61.heap.size 0 [.string sm, .slice na Lm.length nc, .int .i64 lm, .int .u32 cm, .int .i64 fm, .int .i64 tm]) ⟨keep_cell a0 HB_63.out hlta, keep_cell a1' HB_63.out hlta, keep_cell a2' HB_63.out hlta, keep_cell a3 HB_63.out hlta, keep_cell a4 HB_63.out hlta, keep_cell a5 HB_63.out hlta, keep_cell b0 HB_63.out hltb, keep_cell b1 HB_63.out hltb, keep_cell b2 HB_63.out hltb, keep_cell b3 HB_63.out hltb, keep_cell b4 HB_63.out hltb, keep_cell b5 HB_63.out hltb⟩ (fun hHeld => ?_)
            clear hK K
            (try simp only [Act.put, List.setIfInBounds_toArray, List.set_cons_zero, List.set_cons_succ])
            generalize (w_62.setCells w_61.heap.size 0 [.string sm, .slice na Lm.length nc, .int .i64 lm, .int .u32 cm, .int .i64 fm, .int .i64 tm]) = w_63 at *
            refine held_take (i := 10) (v := ?_) rfl rfl (by kernel_rfl) (by kernel_rfl) (by kernel_rfl) (fun _ _ _ h => h) (by rfl) hHeld ?_ ?_
            rotate_left
            · rintro wh ⟨z0, z1, z2, z3, z4, z5, z6, z7, z8, z9, z10, z11⟩
              go_simp
              (try with_reducible rfl)
            simp only [Act.put, List.setIfInBounds_toArray, List.set_cons_zero, List.set_cons_succ]
            refine wpAnyH_done (by kernel_rfl) ?_ _
            go_wp2
            go_meet
            exact ⟨w_61.heap.size, rfl, rfl, HC_63.out, Nat.lt_of_lt_of_le hL_62 HZ_63.out, HB_63.out⟩
          · have hb_64 := alloc_below w_60 (.cells #[.string ⟨#[]⟩, .slice none 0 0, .int .i64 0, .int .u32 0, .int .i64 0, .int .i64 0] 38)
            have hB_64 := hB_60.trans (hb_64.mono hB_60.size)
            have hT_64 := box_there (Below.refl (w_60.alloc (.cells #[.string ⟨#[]⟩, .slice none 0 0, .int .i64 0, .int .u32 0, .int .i64 0, .int .i64 0] 38)).heap.size (w_60.alloc (.cells #[.string ⟨#[]⟩, .slice none 0 0, .int .i64 0, .int .u32 0, .int .i64 0, .int .i64 0] 38)))
            have hL_64 : w_60.heap.size < (w_60.alloc (.cells #[.string ⟨#[]⟩, .slice none 0 0, .int .i64 0, .int .u32 0, .int .i64 0, .int .i64 0] 38)).heap.size := by rw [World.size_alloc]; omega
            have hG_64 := hB_60.size
            go_simp
            refine hK.out _ _ ⟨keep_cell a0 hB_64 hlta, keep_cell a1' hB_64 hlta, keep_cell a2' hB_64 hlta, keep_cell a3 hB_64 hlta, keep_cell a4 hB_64 hlta, keep_cell a5 hB_64 hlta, keep_cell b0 hB_64 hltb, keep_cell b1 hB_64 hltb, keep_cell b2 hB_64 hltb, keep_cell b3 hB_64 hltb, keep_cell b4 hB_64 hltb, keep_cell b5 hB_64 hltb⟩ (fun hHeld => ?_)
            clear hK K
            (try simp only [Act.put, List.setIfInBounds_toArray, List.set_cons_zero, List.set_cons_succ])
            generalize w_60.alloc (.cells #[.string ⟨#[]⟩, .slice none 0 0, .int .i64 0, .int .u32 0, .int .i64 0, .int .i64 0] 38) = w_64 at *
            refine held_step (i := 4) rfl (by kernel_rfl) (fun K hK => ?_)
            go_simp; go_at_call 24; refine (K5.out _ hB_64).mono ?_; rintro e w_65 ⟨rfl, hb_65⟩
            have hB_65 := hB_64.trans (hb_65.mono hB_64.size)
            have hT8_65 := there_later hT_64 hb_65 hL_64
            have hL8_65 := Nat.lt_of_lt_of_le hL_64 hb_65.size
            refine hK.out _ _ ⟨keep_cell a0 hB_65 hlta, keep_cell a1' hB_65 hlta, keep_cell a2' hB_65 hlta, keep_cell a3 hB_65 hlta, keep_cell a4 hB_65 hlta, keep_cell a5 hB_65 hlta, keep_cell b0 hB_65 hltb, keep_cell b1 hB_65 hltb, keep_cell b2 hB_65 hltb, keep_cell b3 hB_65 hltb, keep_cell b4 hB_65 hltb, keep_cell b5 hB_65 hltb⟩ (fun hHeld => ?_)
            clear hK K
            (try simp only [Act.put, List.setIfInBounds_toArray, List.set_cons_zero, List.set_cons_succ])
            refine held_take (i := 5) (v := ?_) rfl rfl (by kernel_rfl) (by kernel_rfl) (by kernel_rfl) (fun _ _ _ h => h) (by rfl) hHeld ?_ ?_
            rotate_left
            · rintro wh ⟨z0, z1, z2, z3, z4, z5, z6, z7, z8, z9, z10, z11⟩
              go_simp
              (try with_reducible rfl)
            simp only [Act.put, List.setIfInBounds_toArray, List.set_cons_zero, List.set_cons_succ]
            refine held_take (i := 6) (v := ?_) rfl rfl (by kernel_rfl) (by kernel_rfl) (by kernel_rfl) (fun _ _ _ h => h) (by rfl) hHeld ?_ ?_
            rotate_left
            · rintro wh ⟨z0, z1, z2, z3, z4, z5, z6, z7, z8, z9, z10, z11⟩
              go_simp
              (try with_reducible rfl)
            simp only [Act.put, List.setIfInBounds_toArray, List.set_cons_zero, List.set_cons_succ]
            refine held_take (i := 7) (v := ?_) rfl rfl (by kernel_rfl) (by kernel_rfl) (by kernel_rfl) (fun _ _ _ h => h) (by rfl) hHeld ?_ ?_
            rotate_left
            · rintro wh ⟨z0, z1, z2, z3, z4, z5, z6, z7, z8, z9, z10, z11⟩
              go_simp
              (try with_reducible rfl)
            simp only [Act.put, List.setIfInBounds_toArray, List.set_cons_zero, List.set_cons_succ]
            have q0 := there_free hT8_65 0 (by decide)
            have q1 := there_free hT8_65 1 (by decide)
            have q2 := there_free hT8_65 2 (by decide)
            have q3 := there_free hT8_65 3 (by decide)
            have q4 := there_free hT8_65 4 (by decide)
            have q5 := there_free hT8_65 5 (by decide)
            obtain ⟨y0, hy0⟩ := there_cell hT8_65 0 (by decide)
            obtain ⟨y1, hy1⟩ := there_cell hT8_65 1 (by decide)
            obtain ⟨y2, hy2⟩ := there_cell hT8_65 2 (by decide)
            obtain ⟨y3, hy3⟩ := there_cell hT8_65 3 (by decide)
            obtain ⟨y4, hy4⟩ := there_cell hT8_65 4 (by decide)
            obtain ⟨y5, hy5⟩ := there_cell hT8_65 5 (by decide)
            have HB_66 : Hid (Below w6.heap.size w6 (w_65.setCells w_60.heap.size 0 [.string sm, .slice na Lm.length nc, .int .i64 lm, .int .u32 cm, .int .i64 fm, .int .i64 tm])) := Lib.hid (below_puts (g := w_60.heap.size) (o := 0) hB_65 hG_64 [.string sm, .slice na Lm.length nc, .int .i64 lm, .int .u32 cm, .int .i64 fm, .int .i64 tm])
            have HZ_66 := Lib.hid (below_puts_base (g := w_60.heap.size) (o := 0) (Below.refl 0 w_65) (Nat.zero_le _) [.string sm, .slice na Lm.length nc, .int .i64 lm, .int .u32 cm, .int .i64 fm, .int .i64 tm]).size
            have HC_66 := Lib.hid (c6_puts w_65 w_60.heap.size (.string sm) (.slice na Lm.length nc) (.int .i64 lm) (.int .u32 cm) (.int .i64 fm) (.int .i64 tm) hT8_65)
            refine held_step (i := 9) rfl (by kernel_rfl) (fun K hK => ?_)
            go_simp
            refine hK.out _ (w_65.setCells w_60.heap.size 0 [.string sm, .slice na Lm.length nc, .int .i64 lm, .int .u32 cm, .int .i64 fm, .int .i64 tm]) ⟨keep_cell a0 HB_66.out hlta, keep_cell a1' HB_66.out hlta, keep_cell a2' HB_66.out hlta, keep_cell a3 HB_66.out hlta, keep_cell a4 HB_66.out hlta, keep_cell a5 HB_66.out hlta, keep_cell b0 HB_66.out hltb, keep_cell b1 HB_66.out hltb, keep_cell b2 HB_66.out hltb, keep_cell b3 HB_66.out hltb, keep_cell b4 HB_66.out hltb, keep_cell b5 HB_66.out hltb⟩ (fun hHeld => ?_)
            clear hK K
            (try simp only [Act.put, List.setIfInBounds_toArray, List.set_cons_zero, List.set_cons_succ])
            generalize (w_65.setCells w_60.heap.size 0 [.string sm, .slice na Lm.length nc, .int .i64 lm, .int .u32 cm, .int .i64 fm, .int .i64 tm]) = w_66 at *
            refine held_take (i := 10) (v := ?_) rfl rfl (by kernel_rfl) (by kernel_rfl) (by kernel_rfl) (fun _ _ _ h => h) (by rfl) hHeld ?_ ?_
            rotate_left
            · rintro wh ⟨z0, z1, z2, z3, z4, z5, z6, z7, z8, z9, z10, z11⟩
              go_simp
              (try with_reducible rfl)
            simp only [Act.put, List.setIfInBounds_toArray, List.set_cons_zero, List.set_cons_succ]
            refine wpAnyH_done (by kernel_rfl) ?_ _
            go_wp2
            go_meet
            exact ⟨w_60.heap.size, rfl, rfl, HC_66.out, Nat.lt_of_lt_of_le hL8_65 HZ_66.out, HB_66.out⟩
        · have hb_67 := alloc_below w_59 (.cells #[.string ⟨#[]⟩, .slice none 0 0, .int .i64 0, .int .u32 0, .int .i64 0, .int .i64 0] 38)
          have hB_67 := hB_59.trans (hb_67.mono hB_59.size)
          have hT_67 := box_there (Below.refl (w_59.alloc (.cells #[.string ⟨#[]⟩, .slice none 0 0, .int .i64 0, .int .u32 0, .int .i64 0, .int .i64 0] 38)).heap.size (w_59.alloc (.cells #[.string ⟨#[]⟩, .slice none 0 0, .int .i64 0, .int .u32 0, .int .i64 0, .int .i64 0] 38)))
          have hL_67 : w_59.heap.size < (w_59.alloc (.cells #[.string ⟨#[]⟩, .slice none 0 0, .int .i64 0, .int .u32 0, .int .i64 0, .int .i64 0] 38)).heap.size := by rw [World.size_alloc]; omega
          have hG_67 := hB_59.size
          go_simp
          refine hK.out _ _ ⟨keep_cell a0 hB_67 hlta, keep_cell a1' hB_67 hlta, keep_cell a2' hB_67 hlta, keep_cell a3 hB_67 hlta, keep_cell a4 hB_67 hlta, keep_cell a5 hB_67 hlta, keep_cell b0 hB_67 hltb, keep_cell b1 hB_67 hltb, keep_cell b2 hB_67 hltb, keep_cell b3 hB_67 hltb, keep_cell b4 hB_67 hltb, keep_cell b5 hB_67 hltb⟩ (fun hHeld => ?_)
          clear hK K
          (try simp only [Act.put, List.setIfInBounds_toArray, List.set_cons_zero, List.set_cons_succ])
          generalize w_59.alloc (.cells #[.string ⟨#[]⟩, .slice none 0 0, .int .i64 0, .int .u32 0, .int .i64 0, .int .i64 0] 38) = w_67 at *
          refine held_step (i := 3) rfl (by kernel_rfl) (fun K hK => ?_)
          go_simp; go_at_call 9; refine (KA2.out _).mono ?_; rintro e w_68 ⟨rfl, hb_68⟩
          have hB_68 := hB_67.trans (hb_68.mono hB_67.size)
          have hT8_68 := there_later hT_67 hb_68 hL_67
          have hL8_68 := Nat.lt_of_lt_of_le hL_67 hb_68.size
          refine hK.out _ _ ⟨keep_cell a0 hB_68 hlta, keep_cell a1' hB_68 hlta, keep_cell a2' hB_68 hlta, keep_cell a3 hB_68 hlta, keep_cell a4 hB_68 hlta, keep_cell a5 hB_68 hlta, keep_cell b0 hB_68 hltb, keep_cell b1 hB_68 hltb, keep_cell b2 hB_68 hltb, keep_cell b3 hB_68 hltb, keep_cell b4 hB_68 hltb, keep_cell b5 hB_68 hltb⟩ (fun hHeld => ?_)
          clear hK K
          (try simp only [Act.put, List.setIfInBounds_toArray, List.set_cons_zero, List.set_cons_succ])
          refine held_step (i := 4) rfl (by kernel_rfl) (fun K hK => ?_)
          go_simp; go_at_call 24; refine (K5.out _ hB_68).mono ?_; rintro e w_69 ⟨rfl, hb_69⟩
          have hB_69 := hB_68.trans (hb_69.mono hB_68.size)
          have hT8_69 := there_later hT8_68 hb_69 hL8_68
          have hL8_69 := Nat.lt_of_lt_of_le hL8_68 hb_69.size
          refine hK.out _ _ ⟨keep_cell a0 hB_69 hlta, keep_cell a1' hB_69 hlta, keep_cell a2' hB_69 hlta, keep_cell a3 hB_69 hlta, keep_cell a4 hB_69 hlta, keep_cell a5 hB_69 hlta, keep_cell b0 hB_69 hltb, keep_cell b1 hB_69 hltb, keep_cell b2 hB_69 hltb, keep_cell b3 hB_69 hltb, keep_cell b4 hB_69 hltb, keep_cell b5 hB_69 hltb⟩ (fun hHeld => ?_)
          clear hK K
          (try simp only [Act.put, List.setIfInBounds_toArray, List.set_cons_zero, List.set_cons_succ])
          refine held_take (i := 5) (v := ?_) rfl rfl (by kernel_rfl) (by kernel_rfl) (by kernel_rfl) (fun _ _ _ h => h) (by rfl) hHeld ?_ ?_
          rotate_left
          · rintro wh ⟨z0, z1, z2, z3, z4, z5, z6, z7, z8, z9, z10, z11⟩
            go_simp
            (try with_reducible rfl)
          simp only [Act.put, List.setIfInBounds_toArray, List.set_cons_zero, List.set_cons_succ]
          refine held_take (i := 6) (v := ?_) rfl rfl (by kernel_rfl) (by kernel_rfl) (by kernel_rfl) (fun _ _ _ h => h) (by rfl) hHeld ?_ ?_
          rotate_left
          · rintro wh ⟨z0, z1, z2, z3, z4, z5, z6, z7, z8, z9, z10, z11⟩
            go_simp
            (try with_reducible rfl)
          simp only [Act.put, List.setIfInBounds_toArray, List.set_cons_zero, List.set_cons_succ]
          refine held_take (i := 7) (v := ?_) rfl rfl (by kernel_rfl) (by kernel_rfl) (by kernel_rfl) (fun _ _ _ h => h) (by rfl) hHeld ?_ ?_
          rotate_left
          · rintro wh ⟨z0, z1, z2, z3, z4, z5, z6, z7, z8, z9, z10, z11⟩
            go_simp
            (try with_reducible rfl)
          simp only [Act.put, List.setIfInBounds_toArray, List.set_cons_zero, List.set_cons_succ]
          have q0 := there_free hT8_69 0 (by decide)
          have q1 := there_free hT8_69 1 (by decide)
          have q2 := there_free hT8_69 2 (by decide)
          have q3 := there_free hT8_69 3 (by decide)
          have q4 := there_free hT8_69 4 (by decide)
          have q5 := there_free hT8_69 5 (by decide)
          obtain ⟨y0, hy0⟩ := there_cell hT8_69 0 (by decide)
          obtain ⟨y1, hy1⟩ := there_cell hT8_69 1 (by decide)
          obtain ⟨y2, hy2⟩ := there_cell hT8_69 2 (by decide)
          obtain ⟨y3, hy3⟩ := there_cell hT8_69 3 (by decide)
          obtain ⟨y4, hy4⟩ := there_cell hT8_69 4 (by decide)
          obtain ⟨y5, hy5⟩ := there_cell hT8_69 5 (by decide)
          have HB_70 : Hid (Below w6.heap.size w6 (w_69.setCells w_59.heap.size 0 [.string sm, .slice na Lm.length nc, .int .i64 lm, .int .u32 cm, .int .i64 fm, .int .i64 tm])) := Lib.hid (below_puts (g := w_59.heap.size) (o := 0) hB_69 hG_67 [.string sm, .slice na Lm.length nc, .int .i64 lm, .int .u32 cm, .int .i64 fm, .int .i64 tm])
          have HZ_70 := Lib.hid (below_puts_base (g := w_59.heap.size) (o := 0) (Below.refl 0 w_69) (Nat.zero_le _) [.string sm, .slice na Lm.length nc, .int .i64 lm, .int .u32 cm, .int .i64 fm, .int .i64 tm]).size
          have HC_70 := Lib.hid (c6_puts w_69 w_59.heap.size (.string sm) (.slice na Lm.length nc) (.int .i64 lm) (.int .u32 cm) (.int .i64 fm) (.int .i64 tm) hT8_69)
          refine held_step (i := 9) rfl (by kernel_rfl) (fun K hK => ?_)
          go_simp
          refine hK.out _ (w_69.setCells w_59.heap.size 0 [.string sm, .slice na Lm.length nc, .int .i64 lm, .int .u32 cm, .int .i64 fm, .int .i64 tm]) ⟨keep_cell a0 HB_70.out hlta, keep_cell a1' HB_70.out hlta, keep_cell a2' HB_70.out hlta, keep_cell a3 HB_70.out hlta, keep_cell a4 HB_70.out hlta, keep_cell a5 HB_70.out hlta, keep_cell b0 HB_70.out hltb, keep_cell b1 HB_70.out hltb, keep_cell b2 HB_70.out hltb, keep_cell b3 HB_70.out hltb, keep_cell b4 HB_70.out hltb, keep_cell b5 HB_70.out hltb⟩ (fun hHeld => ?_)
          clear hK K
          (try simp only [Act.put, List.setIfInBounds_toArray, List.set_cons_zero, List.set_cons_succ])
          generalize (w_69.setCells w_59.heap.size 0 [.string sm, .slice na Lm.length nc, .int .i64 lm, .int .u32 cm, .int .i64 fm, .int .i64 tm]) = w_70 at *
          refine held_take (i := 10) (v := ?_) rfl rfl (by kernel_rfl) (by kernel_rfl) (by kernel_rfl) (fun _ _ _ h => h) (by rfl) hHeld ?_ ?_
          rotate_left
          · rintro wh ⟨z0, z1, z2, z3, z4, z5, z6, z7, z8, z9, z10, z11⟩
            go_simp
            (try with_reducible rfl)
          simp only [Act.put, List.setIfInBounds_toArray, List.set_cons_zero, List.set_cons_succ]
          refine wpAnyH_done (by kernel_rfl) ?_ _
          go_wp2
          go_meet
          exact ⟨w_59.heap.size, rfl, rfl, HC_70.out, Nat.lt_of_lt_of_le hL8_69 HZ_70.out, HB_70.out⟩
      · have hb_71 := alloc_below wd (.cells #[.string ⟨#[]⟩, .slice none 0 0, .int .i64 0, .int .u32 0, .int .i64 0, .int .i64 0] 38)
        have hB_71 := hd.trans (hb_71.mono hd.size)
        have hT_71 := box_there (Below.refl (wd.alloc (.cells #[.string ⟨#[]⟩, .slice none 0 0, .int .i64 0, .int .u32 0, .int .i64 0, .int .i64 0] 38)).heap.size (wd.alloc (.cells #[.string ⟨#[]⟩, .slice none 0 0, .int .i64 0, .int .u32 0, .int .i64 0, .int .i64 0] 38)))
        have hL_71 : wd.heap.size < (wd.alloc (.cells #[.string ⟨#[]⟩, .slice none 0 0, .int .i64 0, .int .u32 0, .int .i64 0, .int .i64 0] 38)).heap.size := by rw [World.size_alloc]; omega
        have hG_71 := hd.size
        go_simp
        refine hK.out _ _ ⟨keep_cell a0 hB_71 hlta, keep_cell a1' hB_71 hlta, keep_cell a2' hB_71 hlta, keep_cell a3 hB_71 hlta, keep_cell a4 hB_71 hlta, keep_cell a5 hB_71 hlta, keep_cell b0 hB_71 hltb, keep_cell b1 hB_71 hltb, keep_cell b2 hB_71 hltb, keep_cell b3 hB_71 hltb, keep_cell b4 hB_71 hltb, keep_cell b5 hB_71 hltb⟩ (fun hHeld => ?_)
        clear hK K
        (try simp only [Act.put, List.setIfInBounds_toArray, List.set_cons_zero, List.set_cons_succ])
        generalize wd.alloc (.cells #[.string ⟨#[]⟩, .slice none 0 0, .int .i64 0, .int .u32 0, .int .i64 0, .int .i64 0] 38) = w_71 at *
        refine held_step (i := 1) rfl (by kernel_rfl) (fun K hK => ?_)
        go_simp; go_at_call 9; refine (KA1.out _).mono ?_; rintro e w_72 ⟨rfl, hb_72⟩
        have hB_72 := hB_71.trans (hb_72.mono hB_71.size)
        have hT8_72 := there_later hT_71 hb_72 hL_71
        have hL8_72 := Nat.lt_of_lt_of_le hL_71 hb_72.size
        refine hK.out _ _ ⟨keep_cell a0 hB_72 hlta, keep_cell a1' hB_72 hlta, keep_cell a2' hB_72 hlta, keep_cell a3 hB_72 hlta, keep_cell a4 hB_72 hlta, keep_cell a5 hB_72 hlta, keep_cell b0 hB_72 hltb, keep_cell b1 hB_72 hltb, keep_cell b2 hB_72 hltb, keep_cell b3 hB_72 hltb, keep_cell b4 hB_72 hltb, keep_cell b5 hB_72 hltb⟩ (fun hHeld => ?_)
        clear hK K
        (try simp only [Act.put, List.setIfInBounds_toArray, List.set_cons_zero, List.set_cons_succ])
        refine held_step (i := 3) rfl (by kernel_rfl) (fun K hK => ?_)
        go_simp; go_at_call 9; refine (KA2.out _).mono ?_; rintro e w_73 ⟨rfl, hb_73⟩
        have hB_73 := hB_72.trans (hb_73.mono hB_72.size)
        have hT8_73 := there_later hT8_72 hb_73 hL8_72
        have hL8_73 := Nat.lt_of_lt_of_le hL8_72 hb_73.size
        refine hK.out _ _ ⟨keep_cell a0 hB_73 hlta, keep_cell a1' hB_73 hlta, keep_cell a2' hB_73 hlta, keep_cell a3 hB_73 hlta, keep_cell a4 hB_73 hlta, keep_cell a5 hB_73 hlta, keep_cell b0 hB_73 hltb, keep_cell b1 hB_73 hltb, keep_cell b2 hB_73 hltb, keep_cell b3 hB_73 hltb, keep_cell b4 hB_73 hltb, keep_cell b5 hB_73 hltb⟩ (fun hHeld => ?_)
        clear hK K
        (try simp only [Act.put, List.setIfInBounds_toArray, List.set_cons_zero, List.set_cons_succ])
        refine held_step (i := 4) rfl (by kernel_rfl) (fun K hK => ?_)
        go_simp; go_at_call 24; refine (K5.out _ hB_73).mono ?_; rintro e w_74 ⟨rfl, hb_74⟩
        have hB_74 := hB_73.trans (hb_74.mono hB_73.size)
        have hT8_74 := there_later hT8_73 hb_74 hL8_73
        have hL8_74 := Nat.lt_of_lt_of_le hL8_73 hb_74.size
        refine hK.out _ _ ⟨keep_cell a0 hB_74 hlta, keep_cell a1' hB_74 hlta, keep_cell a2' hB_74 hlta, keep_cell a3 hB_74 hlta, keep_cell a4 hB_74 hlta, keep_cell a5 hB_74 hlta, keep_cell b0 hB_74 hltb, keep_cell b1 hB_74 hltb, keep_cell b2 hB_74 hltb, keep_cell b3 hB_74 hltb, keep_cell b4 hB_74 hltb, keep_cell b5 hB_74 hltb⟩ (fun hHeld => ?_)
        clear hK K
        (try simp only [Act.put, List.setIfInBounds_toArray, List.set_cons_zero, List.set_cons_succ])
        refine held_take (i := 5) (v := ?_) rfl rfl (by kernel_rfl) (by kernel_rfl) (by kernel_rfl) (fun _ _ _ h => h) (by rfl) hHeld ?_ ?_
        rotate_left
        · rintro wh ⟨z0, z1, z2, z3, z4, z5, z6, z7, z8, z9, z10, z11⟩
          go_simp
          (try with_reducible rfl)
        simp only [Act.put, List.setIfInBounds_toArray, List.set_cons_zero, List.set_cons_succ]
        refine held_take (i := 6) (v := ?_) rfl rfl (by kernel_rfl) (by kernel_rfl) (by kernel_rfl) (fun _ _ _ h => h) (by rfl) hHeld ?_ ?_
        rotate_left
        · rintro wh ⟨z0, z1, z2, z3, z4, z5, z6, z7, z8, z9, z10, z11⟩
          go_simp
          (try with_reducible rfl)
        simp only [Act.put, List.setIfInBounds_toArray, List.set_cons_zero, List.set_cons_succ]
        refine held_take (i := 7) (v := ?_) rfl rfl (by kernel_rfl) (by kernel_rfl) (by kernel_rfl) (fun _ _ _ h => h) (by rfl) hHeld ?_ ?_
        rotate_left
        · rintro wh ⟨z0, z1, z2, z3, z4, z5, z6, z7, z8, z9, z10, z11⟩
          go_simp
          (try with_reducible rfl)
        simp only [Act.put, List.setIfInBounds_toArray, List.set_cons_zero, List.set_cons_succ]
        have q0 := there_free hT8_74 0 (by decide)
        have q1 := there_free hT8_74 1 (by decide)
        have q2 := there_free hT8_74 2 (by decide)
        have q3 := there_free hT8_74 3 (by decide)
        have q4 := there_free hT8_74 4 (by decide)
        have q5 := there_free hT8_74 5 (by decide)
        obtain ⟨y0, hy0⟩ := there_cell hT8_74 0 (by decide)
        obtain ⟨y1, hy1⟩ := there_cell hT8_74 1 (by decide)
        obtain ⟨y2, hy2⟩ := there_cell hT8_74 2 (by decide)
        obtain ⟨y3, hy3⟩ := there_cell hT8_74 3 (by decide)
        obtain ⟨y4, hy4⟩ := there_cell hT8_74 4 (by decide)
        obtain ⟨y5, hy5⟩ := there_cell hT8_74 5 (by decide)
        have HB_75 : Hid (Below w6.heap.size w6 (w_74.setCells wd.heap.size 0 [.string sm, .slice na Lm.length nc, .int .i64 lm, .int .u32 cm, .int .i64 fm, .int .i64 tm])) := Lib.hid (below_puts (g := wd.heap.size) (o := 0) hB_74 hG_71 [.string sm, .slice na Lm.length nc, .int .i64 lm, .int .u32 cm, .int .i64 fm, .int .i64 tm])
        have HZ_75 := Lib.hid (below_puts_base (g := wd.heap.size) (o := 0) (Below.refl 0 w_74) (Nat.zero_le _) [.string sm, .slice na Lm.length nc, .int .i64 lm, .int .u32 cm, .int .i64 fm, .int .i64 tm]).size
        have HC_75 := Lib.hid (c6_puts w_74 wd.heap.size (.string sm) (.slice na Lm.length nc) (.int .i64 lm) (.int .u32 cm) (.int .i64 fm) (.int .i64 tm) hT8_74)
        refine held_step (i := 9) rfl (by kernel_rfl) (fun K hK => ?_)
        go_simp
        refine hK.out _ (w_74.setCells wd.heap.size 0 [.string sm, .slice na Lm.length nc, .int .i64 lm, .int .u32 cm, .int .i64 fm, .int .i64 tm]) ⟨keep_cell a0 HB_75.out hlta, keep_cell a1' HB_75.out hlta, keep_cell a2' HB_75.out hlta, keep_cell a3 HB_75.out hlta, keep_cell a4 HB_75.out hlta, keep_cell a5 HB_75.out hlta, keep_cell b0 HB_75.out hltb, keep_cell b1 HB_75.out hltb, keep_cell b2 HB_75.out hltb, keep_cell b3 HB_75.out hltb, keep_cell b4 HB_75.out hltb, keep_cell b5 HB_75.out hltb⟩ (fun hHeld => ?_)
        clear hK K
        (try simp only [Act.put, List.setIfInBounds_toArray, List.set_cons_zero, List.set_cons_succ])
        generalize (w_74.setCells wd.heap.size 0 [.string sm, .slice na Lm.length nc, .int .i64 lm, .int .u32 cm, .int .i64 fm, .int .i64 tm]) = w_75 at *
        refine held_take (i := 10) (v := ?_) rfl rfl (by kernel_rfl) (by kernel_rfl) (by kernel_rfl) (fun _ _ _ h => h) (by rfl) hHeld ?_ ?_
        rotate_left
        · rintro wh ⟨z0, z1, z2, z3, z4, z5, z6, z7, z8, z9, z10, z11⟩
          go_simp
          (try with_reducible rfl)
        simp only [Act.put, List.setIfInBounds_toArray, List.set_cons_zero, List.set_cons_succ]
        refine wpAnyH_done (by kernel_rfl) ?_ _
        go_wp2
        go_meet
        exact ⟨wd.heap.size, rfl, rfl, HC_75.out, Nat.lt_of_lt_of_le hL8_74 HZ_75.out, HB_75.out⟩
    case rest =>
      obtain ⟨gn, rfl, rfl, hNx, hltn, hB⟩ := hcut
      replace HXB := Lib.hid (HXB.out.later hB)
      replace HYB := Lib.hid (HYB.out.later hB)
      replace Hm := Lib.hid (Hm.out.later hB)
      have HNB : Hid (ABx gn sm Lm na nc lm cm fm tm wc) := Lib.hid ⟨hNx, hltn, HN.out.later hB⟩
      replace HBW := Lib.hid (HBW.out.trans (hB.mono HBW.out.size))
      clear a0 a1' a2' a3 a4 a5 b0 b1 b2 b3 b4 b5 hNx hltn hB hlta hltb HN K5
      obtain ⟨r, hr⟩ : ∃ z, (whoA s1 L1 l1 && beginsA f1 && endsA f1 t1) = z := ⟨_, rfl⟩
      obtain ⟨nid, hnid⟩ : ∃ z, shortL (idB s1 L1) = z := ⟨_, rfl⟩
      obtain ⟨f, hf⟩ : ∃ z, (decide (f1 ≤ now) && (decide (t1 = 0) || decide (now < t1))) = z := ⟨_, rfl⟩
      obtain ⟨q, hq⟩ : ∃ z, sameA s1 s2 L1 L2 l1 c1 f1 t1 l2 c2 f2 t2 = z := ⟨_, rfl⟩
      have KR : Hid (∀ W, Below wc.heap.size wc W → Calls Try.prog 25 #[.agg #[.string s1, .slice a1 L1.length m1, .int .i64 l1, .int .u32 c1, .int .i64 f1, .int .i64 t1]] W fun e w' => e = .returned (.bool r) ∧ Below W.heap.size W w') := Lib.hid (fun W h => hr ▸ aright_any s1 L1 l1 c1 f1 t1 (.slice a1 L1.length m1) W HX.out.src (HXB.out.f.later h) HX.out.fl HX.out.len)
      have KS : Hid (∀ W, Below wc.heap.size wc W → Calls Try.prog 13 #[.agg #[.string s1, .slice a1 L1.length m1, .int .i64 l1, .int .u32 c1, .int .i64 f1, .int .i64 t1]] W fun e w' => e = .returned (.bool r) ∧ Below W.heap.size W w') := Lib.hid (fun W h => hr ▸ r9right_any s1 L1 l1 c1 f1 t1 (.slice a1 L1.length m1) W HX.out.src (HXB.out.f.later h) HX.out.fl HX.out.len)
      have KI : Hid (∀ W, Below wc.heap.size wc W → Calls Try.prog 26 #[.agg #[.string s1, .slice a1 L1.length m1, .int .i64 l1, .int .u32 c1, .int .i64 f1, .int .i64 t1]] W fun e w' => e = .returned (.int .u64 nid) ∧ Below W.heap.size W w') := Lib.hid (fun W h => hnid ▸ id_any s1 L1 l1 c1 f1 t1 (.slice a1 L1.length m1) W (HXB.out.f.later h) HBK.out)
      have KJ : Hid (∀ W, Below wc.heap.size wc W → Calls Try.prog 27 #[.agg #[.string s1, .slice a1 L1.length m1, .int .i64 l1, .int .u32 c1, .int .i64 f1, .int .i64 t1]] W fun e w' => e = .returned (.int .u64 nid) ∧ Below W.heap.size W w') := Lib.hid (fun W h => hnid ▸ refid_any s1 L1 l1 c1 f1 t1 (.slice a1 L1.length m1) W (HXB.out.f.later h) HBK.out)
      have KF : Hid (∀ W, Calls Try.prog 22 #[.agg #[.string s1, .slice a1 L1.length m1, .int .i64 l1, .int .u32 c1, .int .i64 f1, .int .i64 t1], .int .i64 now] W fun e w' => e = .returned (.bool f) ∧ Below W.heap.size W w') := Lib.hid (fun W => hf ▸ fires_any s1 a1 L1.length m1 l1 c1 f1 t1 now W)
      have KG : Hid (∀ W, Calls Try.prog 28 #[.agg #[.string s1, .slice a1 L1.length m1, .int .i64 l1, .int .u32 c1, .int .i64 f1, .int .i64 t1], .int .i64 now] W fun e w' => e = .returned (.bool f) ∧ Below W.heap.size W w') := Lib.hid (fun W => hf ▸ r9fires_any s1 a1 L1.length m1 l1 c1 f1 t1 now W)
      have KA3 : Hid (∀ W, Calls Try.prog 9 #[.agg #[.string sm, .slice ma Lm.length mc, .int .i64 lm, .int .u32 cm, .int .i64 fm, .int .i64 tm]] W fun e w' => e = .returned (.agg #[.string sm, .slice ma Lm.length mc, .int .i64 lm, .int .u32 cm, .int .i64 fm, .int .i64 tm]) ∧ Below W.heap.size W w') := Lib.hid (fun W => as_any sm ma Lm.length mc lm cm fm tm W)
      have KM : Hid (∀ W, Below wc.heap.size wc W → Calls Try.prog 29 #[.agg #[.string sm, .slice ma Lm.length mc, .int .i64 lm, .int .u32 cm, .int .i64 fm, .int .i64 tm], .agg #[.string sm, .slice na Lm.length nc, .int .i64 lm, .int .u32 cm, .int .i64 fm, .int .i64 tm]] W fun e w' => e = .returned (.bool true) ∧ Below W.heap.size W w') := Lib.hid (fun W h => by
        have := rsame9_any sm sm Lm Lm (.slice ma Lm.length mc) (.slice na Lm.length nc) lm cm fm tm lm cm fm tm W (Hm.out.f.later h) (HNB.out.f.later h) (by have := HML.out; unfold maxLen; omega) (by have := HML.out; unfold maxLen; omega)
        rw [same_self] at this
        exact this)
      have KQ : Hid (∀ W, Below wc.heap.size wc W → Calls Try.prog 21 #[.agg #[.string s1, .slice a1 L1.length m1, .int .i64 l1, .int .u32 c1, .int .i64 f1, .int .i64 t1], .agg #[.string s2, .slice a2 L2.length m2, .int .i64 l2, .int .u32 c2, .int .i64 f2, .int .i64 t2]] W fun e w' => e = .returned (.bool q) ∧ Below W.heap.size W w') := Lib.hid (fun W h => hq ▸ asame_any s1 s2 L1 L2 (.slice a1 L1.length m1) (.slice a2 L2.length m2) l1 c1 f1 t1 l2 c2 f2 t2 W (HXB.out.f.later h) (HYB.out.f.later h) HX.out.len HY.out.len)
      have KP : Hid (∀ W, Below wc.heap.size wc W → Calls Try.prog 29 #[.agg #[.string s1, .slice a1 L1.length m1, .int .i64 l1, .int .u32 c1, .int .i64 f1, .int .i64 t1], .agg #[.string s2, .slice a2 L2.length m2, .int .i64 l2, .int .u32 c2, .int .i64 f2, .int .i64 t2]] W fun e w' => e = .returned (.bool q) ∧ Below W.heap.size W w') := Lib.hid (fun W h => hq ▸ rsame9_any s1 s2 L1 L2 (.slice a1 L1.length m1) (.slice a2 L2.length m2) l1 c1 f1 t1 l2 c2 f2 t2 W (HXB.out.f.later h) (HYB.out.f.later h) HX.out.len HY.out.len)
      clear hr hnid hf hq
      have hrr : (r == r) = true := by simp
      have hnn : (nid == nid) = true := by simp
      have hff : (f == f) = true := by simp
      have hoo : (ok == ok) = true := by simp
      have hqq : (q == q) = true := by simp
      obtain ⟨x0, x1, x2, x3, x4, x5⟩ := HXB.out.x
      obtain ⟨y0, y1, y2, y3, y4, y5⟩ := HYB.out.x
      obtain ⟨u0, u1, u2, u3, u4, u5⟩ := Hm.out.x
      obtain ⟨p0, p1, p2, p3, p4, p5⟩ := HNB.out.x
      have ltx := HXB.out.lt
      have lty := HYB.out.lt
      have ltu := Hm.out.lt
      have ltp := HNB.out.lt
      clear HXB HYB Hm HNB HX HY HXL HBK HML
      go_upto_region 6 with fail
      refine wp_region_held_drew (S := (fun W => W.cell? ⟨gx, 0, none⟩ = some (.string s1) ∧ W.cell? ⟨gx, 1, none⟩ = some (.slice a1 L1.length m1) ∧ W.cell? ⟨gx, 2, none⟩ = some (.int .i64 l1) ∧ W.cell? ⟨gx, 3, none⟩ = some (.int .u32 c1) ∧ W.cell? ⟨gx, 4, none⟩ = some (.int .i64 f1) ∧ W.cell? ⟨gx, 5, none⟩ = some (.int .i64 t1) ∧ W.cell? ⟨gy, 0, none⟩ = some (.string s2) ∧ W.cell? ⟨gy, 1, none⟩ = some (.slice a2 L2.length m2) ∧ W.cell? ⟨gy, 2, none⟩ = some (.int .i64 l2) ∧ W.cell? ⟨gy, 3, none⟩ = some (.int .u32 c2) ∧ W.cell? ⟨gy, 4, none⟩ = some (.int .i64 f2) ∧ W.cell? ⟨gy, 5, none⟩ = some (.int .i64 t2) ∧ W.cell? ⟨gm, 0, none⟩ = some (.string sm) ∧ W.cell? ⟨gm, 1, none⟩ = some (.slice ma Lm.length mc) ∧ W.cell? ⟨gm, 2, none⟩ = some (.int .i64 lm) ∧ W.cell? ⟨gm, 3, none⟩ = some (.int .u32 cm) ∧ W.cell? ⟨gm, 4, none⟩ = some (.int .i64 fm) ∧ W.cell? ⟨gm, 5, none⟩ = some (.int .i64 tm) ∧ W.cell? ⟨gn, 0, none⟩ = some (.string sm) ∧ W.cell? ⟨gn, 1, none⟩ = some (.slice na Lm.length nc) ∧ W.cell? ⟨gn, 2, none⟩ = some (.int .i64 lm) ∧ W.cell? ⟨gn, 3, none⟩ = some (.int .u32 cm) ∧ W.cell? ⟨gn, 4, none⟩ = some (.int .i64 fm) ∧ W.cell? ⟨gn, 5, none⟩ = some (.int .i64 tm))) (by kernel_rfl) ⟨x0, x1, x2, x3, x4, x5, y0, y1, y2, y3, y4, y5, u0, u1, u2, u3, u4, u5, p0, p1, p2, p3, p4, p5⟩ (fun hHeld => ?_)
      have hd : Below wc.heap.size wc wc.drew := (Below.refl _ _).drew
      refine held_take (i := 0) (v := ?_) rfl rfl (by kernel_rfl) (by kernel_rfl) (by kernel_rfl) (fun _ _ _ h => h) (by rfl) hHeld ?_ ?_
      rotate_left
      · rintro wh ⟨z0, z1, z2, z3, z4, z5, z6, z7, z8, z9, z10, z11, z12, z13, z14, z15, z16, z17, z18, z19, z20, z21, z22, z23⟩
        go_simp
        (try with_reducible rfl)
      simp only [Act.put, List.setIfInBounds_toArray, List.set_cons_zero, List.set_cons_succ]
      refine held_take (i := 2) (v := ?_) rfl rfl (by kernel_rfl) (by kernel_rfl) (by kernel_rfl) (fun _ _ _ h => h) (by rfl) hHeld ?_ ?_
      rotate_left
      · rintro wh ⟨z0, z1, z2, z3, z4, z5, z6, z7, z8, z9, z10, z11, z12, z13, z14, z15, z16, z17, z18, z19, z20, z21, z22, z23⟩
        go_simp
        (try with_reducible rfl)
      simp only [Act.put, List.setIfInBounds_toArray, List.set_cons_zero, List.set_cons_succ]
      refine held_call (i := 1) rfl (by kernel_rfl) (by rfl) (fun K hK => ?_)
      (go_simp; go_at_call 25; refine (KR.out _ hd).mono ?_; rintro e v0 ⟨rfl, hb0⟩; have hB0 := hd.trans (hb0.mono hd.size))
      refine hK.out _ _ ⟨keep_cell x0 hB0 ltx, keep_cell x1 hB0 ltx, keep_cell x2 hB0 ltx, keep_cell x3 hB0 ltx, keep_cell x4 hB0 ltx, keep_cell x5 hB0 ltx, keep_cell y0 hB0 lty, keep_cell y1 hB0 lty, keep_cell y2 hB0 lty, keep_cell y3 hB0 lty, keep_cell y4 hB0 lty, keep_cell y5 hB0 lty, keep_cell u0 hB0 ltu, keep_cell u1 hB0 ltu, keep_cell u2 hB0 ltu, keep_cell u3 hB0 ltu, keep_cell u4 hB0 ltu, keep_cell u5 hB0 ltu, keep_cell p0 hB0 ltp, keep_cell p1 hB0 ltp, keep_cell p2 hB0 ltp, keep_cell p3 hB0 ltp, keep_cell p4 hB0 ltp, keep_cell p5 hB0 ltp⟩ (fun hHeld => ?_)
      clear hK K
      (try simp only [Act.put, List.setIfInBounds_toArray, List.set_cons_zero, List.set_cons_succ])
      refine held_call (i := 3) rfl (by kernel_rfl) (by rfl) (fun K hK => ?_)
      (go_simp; go_at_call 9; refine (KA1.out _).mono ?_; rintro e v1 ⟨rfl, hb1⟩; have hB1 := hB0.trans (hb1.mono hB0.size))
      refine hK.out _ _ ⟨keep_cell x0 hB1 ltx, keep_cell x1 hB1 ltx, keep_cell x2 hB1 ltx, keep_cell x3 hB1 ltx, keep_cell x4 hB1 ltx, keep_cell x5 hB1 ltx, keep_cell y0 hB1 lty, keep_cell y1 hB1 lty, keep_cell y2 hB1 lty, keep_cell y3 hB1 lty, keep_cell y4 hB1 lty, keep_cell y5 hB1 lty, keep_cell u0 hB1 ltu, keep_cell u1 hB1 ltu, keep_cell u2 hB1 ltu, keep_cell u3 hB1 ltu, keep_cell u4 hB1 ltu, keep_cell u5 hB1 ltu, keep_cell p0 hB1 ltp, keep_cell p1 hB1 ltp, keep_cell p2 hB1 ltp, keep_cell p3 hB1 ltp, keep_cell p4 hB1 ltp, keep_cell p5 hB1 ltp⟩ (fun hHeld => ?_)
      clear hK K
      (try simp only [Act.put, List.setIfInBounds_toArray, List.set_cons_zero, List.set_cons_succ])
      refine held_call (i := 4) rfl (by kernel_rfl) (by rfl) (fun K hK => ?_)
      (go_simp; go_at_call 13; refine (KS.out _ hB1).mono ?_; rintro e v2 ⟨rfl, hb2⟩; have hB2 := hB1.trans (hb2.mono hB1.size))
      refine hK.out _ _ ⟨keep_cell x0 hB2 ltx, keep_cell x1 hB2 ltx, keep_cell x2 hB2 ltx, keep_cell x3 hB2 ltx, keep_cell x4 hB2 ltx, keep_cell x5 hB2 ltx, keep_cell y0 hB2 lty, keep_cell y1 hB2 lty, keep_cell y2 hB2 lty, keep_cell y3 hB2 lty, keep_cell y4 hB2 lty, keep_cell y5 hB2 lty, keep_cell u0 hB2 ltu, keep_cell u1 hB2 ltu, keep_cell u2 hB2 ltu, keep_cell u3 hB2 ltu, keep_cell u4 hB2 ltu, keep_cell u5 hB2 ltu, keep_cell p0 hB2 ltp, keep_cell p1 hB2 ltp, keep_cell p2 hB2 ltp, keep_cell p3 hB2 ltp, keep_cell p4 hB2 ltp, keep_cell p5 hB2 ltp⟩ (fun hHeld => ?_)
      clear hK K
      (try simp only [Act.put, List.setIfInBounds_toArray, List.set_cons_zero, List.set_cons_succ])
      refine held_take (i := 5) (v := ?_) rfl rfl (by kernel_rfl) (by kernel_rfl) (by kernel_rfl) (fun _ _ _ h => h) (by rfl) hHeld ?_ ?_
      rotate_left
      · rintro wh ⟨z0, z1, z2, z3, z4, z5, z6, z7, z8, z9, z10, z11, z12, z13, z14, z15, z16, z17, z18, z19, z20, z21, z22, z23⟩
        go_simp
        (try with_reducible rfl)
      simp only [Act.put, List.setIfInBounds_toArray, List.set_cons_zero, List.set_cons_succ]
      refine held_take (i := 6) (v := ?_) rfl rfl (by kernel_rfl) (by kernel_rfl) (by kernel_rfl) (fun _ _ _ h => h) (by rfl) hHeld ?_ ?_
      rotate_left
      · rintro wh ⟨z0, z1, z2, z3, z4, z5, z6, z7, z8, z9, z10, z11, z12, z13, z14, z15, z16, z17, z18, z19, z20, z21, z22, z23⟩
        go_simp
        (try with_reducible rfl)
      simp only [Act.put, List.setIfInBounds_toArray, List.set_cons_zero, List.set_cons_succ]
      refine held_take (i := 7) (v := ?_) rfl rfl (by kernel_rfl) (by kernel_rfl) (by kernel_rfl) (fun _ _ _ h => h) (by rfl) hHeld ?_ ?_
      rotate_left
      · rintro wh ⟨z0, z1, z2, z3, z4, z5, z6, z7, z8, z9, z10, z11, z12, z13, z14, z15, z16, z17, z18, z19, z20, z21, z22, z23⟩
        go_simp
        (try with_reducible rfl)
      simp only [Act.put, List.setIfInBounds_toArray, List.set_cons_zero, List.set_cons_succ]
      refine held_take (i := 9) (v := ?_) rfl rfl (by kernel_rfl) (by kernel_rfl) (by kernel_rfl) (fun _ _ _ h => h) (by rfl) hHeld ?_ ?_
      rotate_left
      · rintro wh ⟨z0, z1, z2, z3, z4, z5, z6, z7, z8, z9, z10, z11, z12, z13, z14, z15, z16, z17, z18, z19, z20, z21, z22, z23⟩
        go_simp
        (try with_reducible rfl)
      simp only [Act.put, List.setIfInBounds_toArray, List.set_cons_zero, List.set_cons_succ]
      refine held_call (i := 8) rfl (by kernel_rfl) (by rfl) (fun K hK => ?_)
      (go_simp; go_at_call 26; refine (KI.out _ hB2).mono ?_; rintro e v3 ⟨rfl, hb3⟩; have hB3 := hB2.trans (hb3.mono hB2.size))
      refine hK.out _ _ ⟨keep_cell x0 hB3 ltx, keep_cell x1 hB3 ltx, keep_cell x2 hB3 ltx, keep_cell x3 hB3 ltx, keep_cell x4 hB3 ltx, keep_cell x5 hB3 ltx, keep_cell y0 hB3 lty, keep_cell y1 hB3 lty, keep_cell y2 hB3 lty, keep_cell y3 hB3 lty, keep_cell y4 hB3 lty, keep_cell y5 hB3 lty, keep_cell u0 hB3 ltu, keep_cell u1 hB3 ltu, keep_cell u2 hB3 ltu, keep_cell u3 hB3 ltu, keep_cell u4 hB3 ltu, keep_cell u5 hB3 ltu, keep_cell p0 hB3 ltp, keep_cell p1 hB3 ltp, keep_cell p2 hB3 ltp, keep_cell p3 hB3 ltp, keep_cell p4 hB3 ltp, keep_cell p5 hB3 ltp⟩ (fun hHeld => ?_)
      clear hK K
      (try simp only [Act.put, List.setIfInBounds_toArray, List.set_cons_zero, List.set_cons_succ])
      refine held_call (i := 10) rfl (by kernel_rfl) (by rfl) (fun K hK => ?_)
      (go_simp; go_at_call 9; refine (KA1.out _).mono ?_; rintro e v4 ⟨rfl, hb4⟩; have hB4 := hB3.trans (hb4.mono hB3.size))
      refine hK.out _ _ ⟨keep_cell x0 hB4 ltx, keep_cell x1 hB4 ltx, keep_cell x2 hB4 ltx, keep_cell x3 hB4 ltx, keep_cell x4 hB4 ltx, keep_cell x5 hB4 ltx, keep_cell y0 hB4 lty, keep_cell y1 hB4 lty, keep_cell y2 hB4 lty, keep_cell y3 hB4 lty, keep_cell y4 hB4 lty, keep_cell y5 hB4 lty, keep_cell u0 hB4 ltu, keep_cell u1 hB4 ltu, keep_cell u2 hB4 ltu, keep_cell u3 hB4 ltu, keep_cell u4 hB4 ltu, keep_cell u5 hB4 ltu, keep_cell p0 hB4 ltp, keep_cell p1 hB4 ltp, keep_cell p2 hB4 ltp, keep_cell p3 hB4 ltp, keep_cell p4 hB4 ltp, keep_cell p5 hB4 ltp⟩ (fun hHeld => ?_)
      clear hK K
      (try simp only [Act.put, List.setIfInBounds_toArray, List.set_cons_zero, List.set_cons_succ])
      refine held_call (i := 11) rfl (by kernel_rfl) (by rfl) (fun K hK => ?_)
      (go_simp; go_at_call 27; refine (KJ.out _ hB4).mono ?_; rintro e v5 ⟨rfl, hb5⟩; have hB5 := hB4.trans (hb5.mono hB4.size))
      refine hK.out _ _ ⟨keep_cell x0 hB5 ltx, keep_cell x1 hB5 ltx, keep_cell x2 hB5 ltx, keep_cell x3 hB5 ltx, keep_cell x4 hB5 ltx, keep_cell x5 hB5 ltx, keep_cell y0 hB5 lty, keep_cell y1 hB5 lty, keep_cell y2 hB5 lty, keep_cell y3 hB5 lty, keep_cell y4 hB5 lty, keep_cell y5 hB5 lty, keep_cell u0 hB5 ltu, keep_cell u1 hB5 ltu, keep_cell u2 hB5 ltu, keep_cell u3 hB5 ltu, keep_cell u4 hB5 ltu, keep_cell u5 hB5 ltu, keep_cell p0 hB5 ltp, keep_cell p1 hB5 ltp, keep_cell p2 hB5 ltp, keep_cell p3 hB5 ltp, keep_cell p4 hB5 ltp, keep_cell p5 hB5 ltp⟩ (fun hHeld => ?_)
      clear hK K
      (try simp only [Act.put, List.setIfInBounds_toArray, List.set_cons_zero, List.set_cons_succ])
      refine held_take (i := 12) (v := ?_) rfl rfl (by kernel_rfl) (by kernel_rfl) (by kernel_rfl) (fun _ _ _ h => h) (by rfl) hHeld ?_ ?_
      rotate_left
      · rintro wh ⟨z0, z1, z2, z3, z4, z5, z6, z7, z8, z9, z10, z11, z12, z13, z14, z15, z16, z17, z18, z19, z20, z21, z22, z23⟩
        go_simp
        (try with_reducible rfl)
      simp only [Act.put, List.setIfInBounds_toArray, List.set_cons_zero, List.set_cons_succ]
      refine held_take (i := 13) (v := ?_) rfl rfl (by kernel_rfl) (by kernel_rfl) (by kernel_rfl) (fun _ _ _ h => h) (by rfl) hHeld ?_ ?_
      rotate_left
      · rintro wh ⟨z0, z1, z2, z3, z4, z5, z6, z7, z8, z9, z10, z11, z12, z13, z14, z15, z16, z17, z18, z19, z20, z21, z22, z23⟩
        go_simp
        (try with_reducible rfl)
      simp only [Act.put, List.setIfInBounds_toArray, List.set_cons_zero, List.set_cons_succ]
      refine held_take (i := 14) (v := ?_) rfl rfl (by kernel_rfl) (by kernel_rfl) (by kernel_rfl) (fun _ _ _ h => h) (by rfl) hHeld ?_ ?_
      rotate_left
      · rintro wh ⟨z0, z1, z2, z3, z4, z5, z6, z7, z8, z9, z10, z11, z12, z13, z14, z15, z16, z17, z18, z19, z20, z21, z22, z23⟩
        go_simp
        (try with_reducible rfl)
      simp only [Act.put, List.setIfInBounds_toArray, List.set_cons_zero, List.set_cons_succ]
      refine held_take (i := 15) (v := ?_) rfl rfl (by kernel_rfl) (by kernel_rfl) (by kernel_rfl) (fun _ _ _ h => h) (by rfl) hHeld ?_ ?_
      rotate_left
      · rintro wh ⟨z0, z1, z2, z3, z4, z5, z6, z7, z8, z9, z10, z11, z12, z13, z14, z15, z16, z17, z18, z19, z20, z21, z22, z23⟩
        go_simp
        (try with_reducible rfl)
      simp only [Act.put, List.setIfInBounds_toArray, List.set_cons_zero, List.set_cons_succ]
      refine held_take (i := 16) (v := ?_) rfl rfl (by kernel_rfl) (by kernel_rfl) (by kernel_rfl) (fun _ _ _ h => h) (by rfl) hHeld ?_ ?_
      rotate_left
      · rintro wh ⟨z0, z1, z2, z3, z4, z5, z6, z7, z8, z9, z10, z11, z12, z13, z14, z15, z16, z17, z18, z19, z20, z21, z22, z23⟩
        go_simp
        (try with_reducible rfl)
      simp only [Act.put, List.setIfInBounds_toArray, List.set_cons_zero, List.set_cons_succ]
      refine held_take (i := 18) (v := ?_) rfl rfl (by kernel_rfl) (by kernel_rfl) (by kernel_rfl) (fun _ _ _ h => h) (by rfl) hHeld ?_ ?_
      rotate_left
      · rintro wh ⟨z0, z1, z2, z3, z4, z5, z6, z7, z8, z9, z10, z11, z12, z13, z14, z15, z16, z17, z18, z19, z20, z21, z22, z23⟩
        go_simp
        (try with_reducible rfl)
      simp only [Act.put, List.setIfInBounds_toArray, List.set_cons_zero, List.set_cons_succ]
      refine held_take (i := 20) (v := ?_) rfl rfl (by kernel_rfl) (by kernel_rfl) (by kernel_rfl) (fun _ _ _ h => h) (by rfl) hHeld ?_ ?_
      rotate_left
      · rintro wh ⟨z0, z1, z2, z3, z4, z5, z6, z7, z8, z9, z10, z11, z12, z13, z14, z15, z16, z17, z18, z19, z20, z21, z22, z23⟩
        go_simp
        (try with_reducible rfl)
      simp only [Act.put, List.setIfInBounds_toArray, List.set_cons_zero, List.set_cons_succ]
      refine held_call (i := 17) rfl (by kernel_rfl) (by rfl) (fun K hK => ?_)
      (go_simp; go_at_call 22; refine (KF.out _).mono ?_; rintro e v6 ⟨rfl, hb6⟩; have hB6 := hB5.trans (hb6.mono hB5.size))
      refine hK.out _ _ ⟨keep_cell x0 hB6 ltx, keep_cell x1 hB6 ltx, keep_cell x2 hB6 ltx, keep_cell x3 hB6 ltx, keep_cell x4 hB6 ltx, keep_cell x5 hB6 ltx, keep_cell y0 hB6 lty, keep_cell y1 hB6 lty, keep_cell y2 hB6 lty, keep_cell y3 hB6 lty, keep_cell y4 hB6 lty, keep_cell y5 hB6 lty, keep_cell u0 hB6 ltu, keep_cell u1 hB6 ltu, keep_cell u2 hB6 ltu, keep_cell u3 hB6 ltu, keep_cell u4 hB6 ltu, keep_cell u5 hB6 ltu, keep_cell p0 hB6 ltp, keep_cell p1 hB6 ltp, keep_cell p2 hB6 ltp, keep_cell p3 hB6 ltp, keep_cell p4 hB6 ltp, keep_cell p5 hB6 ltp⟩ (fun hHeld => ?_)
      clear hK K
      (try simp only [Act.put, List.setIfInBounds_toArray, List.set_cons_zero, List.set_cons_succ])
      refine held_call (i := 19) rfl (by kernel_rfl) (by rfl) (fun K hK => ?_)
      (go_simp; go_at_call 9; refine (KA1.out _).mono ?_; rintro e v7 ⟨rfl, hb7⟩; have hB7 := hB6.trans (hb7.mono hB6.size))
      refine hK.out _ _ ⟨keep_cell x0 hB7 ltx, keep_cell x1 hB7 ltx, keep_cell x2 hB7 ltx, keep_cell x3 hB7 ltx, keep_cell x4 hB7 ltx, keep_cell x5 hB7 ltx, keep_cell y0 hB7 lty, keep_cell y1 hB7 lty, keep_cell y2 hB7 lty, keep_cell y3 hB7 lty, keep_cell y4 hB7 lty, keep_cell y5 hB7 lty, keep_cell u0 hB7 ltu, keep_cell u1 hB7 ltu, keep_cell u2 hB7 ltu, keep_cell u3 hB7 ltu, keep_cell u4 hB7 ltu, keep_cell u5 hB7 ltu, keep_cell p0 hB7 ltp, keep_cell p1 hB7 ltp, keep_cell p2 hB7 ltp, keep_cell p3 hB7 ltp, keep_cell p4 hB7 ltp, keep_cell p5 hB7 ltp⟩ (fun hHeld => ?_)
      clear hK K
      (try simp only [Act.put, List.setIfInBounds_toArray, List.set_cons_zero, List.set_cons_succ])
      refine held_call (i := 21) rfl (by kernel_rfl) (by rfl) (fun K hK => ?_)
      (go_simp; go_at_call 28; refine (KG.out _).mono ?_; rintro e v8 ⟨rfl, hb8⟩; have hB8 := hB7.trans (hb8.mono hB7.size))
      refine hK.out _ _ ⟨keep_cell x0 hB8 ltx, keep_cell x1 hB8 ltx, keep_cell x2 hB8 ltx, keep_cell x3 hB8 ltx, keep_cell x4 hB8 ltx, keep_cell x5 hB8 ltx, keep_cell y0 hB8 lty, keep_cell y1 hB8 lty, keep_cell y2 hB8 lty, keep_cell y3 hB8 lty, keep_cell y4 hB8 lty, keep_cell y5 hB8 lty, keep_cell u0 hB8 ltu, keep_cell u1 hB8 ltu, keep_cell u2 hB8 ltu, keep_cell u3 hB8 ltu, keep_cell u4 hB8 ltu, keep_cell u5 hB8 ltu, keep_cell p0 hB8 ltp, keep_cell p1 hB8 ltp, keep_cell p2 hB8 ltp, keep_cell p3 hB8 ltp, keep_cell p4 hB8 ltp, keep_cell p5 hB8 ltp⟩ (fun hHeld => ?_)
      clear hK K
      (try simp only [Act.put, List.setIfInBounds_toArray, List.set_cons_zero, List.set_cons_succ])
      refine held_take (i := 22) (v := ?_) rfl rfl (by kernel_rfl) (by kernel_rfl) (by kernel_rfl) (fun _ _ _ h => h) (by rfl) hHeld ?_ ?_
      rotate_left
      · rintro wh ⟨z0, z1, z2, z3, z4, z5, z6, z7, z8, z9, z10, z11, z12, z13, z14, z15, z16, z17, z18, z19, z20, z21, z22, z23⟩
        go_simp
        (try with_reducible rfl)
      simp only [Act.put, List.setIfInBounds_toArray, List.set_cons_zero, List.set_cons_succ]
      refine held_take (i := 23) (v := ?_) rfl rfl (by kernel_rfl) (by kernel_rfl) (by kernel_rfl) (fun _ _ _ h => h) (by rfl) hHeld ?_ ?_
      rotate_left
      · rintro wh ⟨z0, z1, z2, z3, z4, z5, z6, z7, z8, z9, z10, z11, z12, z13, z14, z15, z16, z17, z18, z19, z20, z21, z22, z23⟩
        go_simp
        (try with_reducible rfl)
      simp only [Act.put, List.setIfInBounds_toArray, List.set_cons_zero, List.set_cons_succ]
      refine held_take (i := 24) (v := ?_) rfl rfl (by kernel_rfl) (by kernel_rfl) (by kernel_rfl) (fun _ _ _ h => h) (by rfl) hHeld ?_ ?_
      rotate_left
      · rintro wh ⟨z0, z1, z2, z3, z4, z5, z6, z7, z8, z9, z10, z11, z12, z13, z14, z15, z16, z17, z18, z19, z20, z21, z22, z23⟩
        go_simp
        (try with_reducible rfl)
      simp only [Act.put, List.setIfInBounds_toArray, List.set_cons_zero, List.set_cons_succ]
      refine held_take (i := 25) (v := ?_) rfl rfl (by kernel_rfl) (by kernel_rfl) (by kernel_rfl) (fun _ _ _ h => h) (by rfl) hHeld ?_ ?_
      rotate_left
      · rintro wh ⟨z0, z1, z2, z3, z4, z5, z6, z7, z8, z9, z10, z11, z12, z13, z14, z15, z16, z17, z18, z19, z20, z21, z22, z23⟩
        go_simp
        (try with_reducible rfl)
      simp only [Act.put, List.setIfInBounds_toArray, List.set_cons_zero, List.set_cons_succ]
      refine held_take (i := 26) (v := ?_) rfl rfl (by kernel_rfl) (by kernel_rfl) (by kernel_rfl) (fun _ _ _ h => h) (by rfl) hHeld ?_ ?_
      rotate_left
      · rintro wh ⟨z0, z1, z2, z3, z4, z5, z6, z7, z8, z9, z10, z11, z12, z13, z14, z15, z16, z17, z18, z19, z20, z21, z22, z23⟩
        go_simp
        (try with_reducible rfl)
      simp only [Act.put, List.setIfInBounds_toArray, List.set_cons_zero, List.set_cons_succ]
      refine held_take (i := 27) (v := ?_) rfl rfl (by kernel_rfl) (by kernel_rfl) (by kernel_rfl) (fun _ _ _ h => h) (by rfl) hHeld ?_ ?_
      rotate_left
      · rintro wh ⟨z0, z1, z2, z3, z4, z5, z6, z7, z8, z9, z10, z11, z12, z13, z14, z15, z16, z17, z18, z19, z20, z21, z22, z23⟩
        go_simp
        (try with_reducible rfl)
      simp only [Act.put, List.setIfInBounds_toArray, List.set_cons_zero, List.set_cons_succ]
      refine held_take (i := 28) (v := ?_) rfl rfl (by kernel_rfl) (by kernel_rfl) (by kernel_rfl) (fun _ _ _ h => h) (by rfl) hHeld ?_ ?_
      rotate_left
      · rintro wh ⟨z0, z1, z2, z3, z4, z5, z6, z7, z8, z9, z10, z11, z12, z13, z14, z15, z16, z17, z18, z19, z20, z21, z22, z23⟩
        go_simp
        (try with_reducible rfl)
      simp only [Act.put, List.setIfInBounds_toArray, List.set_cons_zero, List.set_cons_succ]
      refine held_take (i := 29) (v := ?_) rfl rfl (by kernel_rfl) (by kernel_rfl) (by kernel_rfl) (fun _ _ _ h => h) (by rfl) hHeld ?_ ?_
      rotate_left
      · rintro wh ⟨z0, z1, z2, z3, z4, z5, z6, z7, z8, z9, z10, z11, z12, z13, z14, z15, z16, z17, z18, z19, z20, z21, z22, z23⟩
        go_simp
        (try with_reducible rfl)
      simp only [Act.put, List.setIfInBounds_toArray, List.set_cons_zero, List.set_cons_succ]
      refine held_take (i := 30) (v := ?_) rfl rfl (by kernel_rfl) (by kernel_rfl) (by kernel_rfl) (fun _ _ _ h => h) (by rfl) hHeld ?_ ?_
      rotate_left
      · rintro wh ⟨z0, z1, z2, z3, z4, z5, z6, z7, z8, z9, z10, z11, z12, z13, z14, z15, z16, z17, z18, z19, z20, z21, z22, z23⟩
        go_simp
        (try with_reducible rfl)
      simp only [Act.put, List.setIfInBounds_toArray, List.set_cons_zero, List.set_cons_succ]
      refine held_take (i := 32) (v := ?_) rfl rfl (by kernel_rfl) (by kernel_rfl) (by kernel_rfl) (fun _ _ _ h => h) (by rfl) hHeld ?_ ?_
      rotate_left
      · rintro wh ⟨z0, z1, z2, z3, z4, z5, z6, z7, z8, z9, z10, z11, z12, z13, z14, z15, z16, z17, z18, z19, z20, z21, z22, z23⟩
        go_simp
        (try with_reducible rfl)
      simp only [Act.put, List.setIfInBounds_toArray, List.set_cons_zero, List.set_cons_succ]
      refine held_call (i := 31) rfl (by kernel_rfl) (by rfl) (fun K hK => ?_)
      (go_simp; go_at_call 9; refine (KA3.out _).mono ?_; rintro e v9 ⟨rfl, hb9⟩; have hB9 := hB8.trans (hb9.mono hB8.size))
      refine hK.out _ _ ⟨keep_cell x0 hB9 ltx, keep_cell x1 hB9 ltx, keep_cell x2 hB9 ltx, keep_cell x3 hB9 ltx, keep_cell x4 hB9 ltx, keep_cell x5 hB9 ltx, keep_cell y0 hB9 lty, keep_cell y1 hB9 lty, keep_cell y2 hB9 lty, keep_cell y3 hB9 lty, keep_cell y4 hB9 lty, keep_cell y5 hB9 lty, keep_cell u0 hB9 ltu, keep_cell u1 hB9 ltu, keep_cell u2 hB9 ltu, keep_cell u3 hB9 ltu, keep_cell u4 hB9 ltu, keep_cell u5 hB9 ltu, keep_cell p0 hB9 ltp, keep_cell p1 hB9 ltp, keep_cell p2 hB9 ltp, keep_cell p3 hB9 ltp, keep_cell p4 hB9 ltp, keep_cell p5 hB9 ltp⟩ (fun hHeld => ?_)
      clear hK K
      (try simp only [Act.put, List.setIfInBounds_toArray, List.set_cons_zero, List.set_cons_succ])
      refine held_call (i := 33) rfl (by kernel_rfl) (by rfl) (fun K hK => ?_)
      (go_simp; go_at_call 29; refine (KM.out _ hB9).mono ?_; rintro e v10 ⟨rfl, hb10⟩; have hB10 := hB9.trans (hb10.mono hB9.size))
      refine hK.out _ _ ⟨keep_cell x0 hB10 ltx, keep_cell x1 hB10 ltx, keep_cell x2 hB10 ltx, keep_cell x3 hB10 ltx, keep_cell x4 hB10 ltx, keep_cell x5 hB10 ltx, keep_cell y0 hB10 lty, keep_cell y1 hB10 lty, keep_cell y2 hB10 lty, keep_cell y3 hB10 lty, keep_cell y4 hB10 lty, keep_cell y5 hB10 lty, keep_cell u0 hB10 ltu, keep_cell u1 hB10 ltu, keep_cell u2 hB10 ltu, keep_cell u3 hB10 ltu, keep_cell u4 hB10 ltu, keep_cell u5 hB10 ltu, keep_cell p0 hB10 ltp, keep_cell p1 hB10 ltp, keep_cell p2 hB10 ltp, keep_cell p3 hB10 ltp, keep_cell p4 hB10 ltp, keep_cell p5 hB10 ltp⟩ (fun hHeld => ?_)
      clear hK K
      (try simp only [Act.put, List.setIfInBounds_toArray, List.set_cons_zero, List.set_cons_succ])
      refine held_take (i := 34) (v := ?_) rfl rfl (by kernel_rfl) (by kernel_rfl) (by kernel_rfl) (fun _ _ _ h => h) (by rfl) hHeld ?_ ?_
      rotate_left
      · rintro wh ⟨z0, z1, z2, z3, z4, z5, z6, z7, z8, z9, z10, z11, z12, z13, z14, z15, z16, z17, z18, z19, z20, z21, z22, z23⟩
        go_simp
        (try with_reducible rfl)
      simp only [Act.put, List.setIfInBounds_toArray, List.set_cons_zero, List.set_cons_succ]
      refine held_take (i := 35) (v := ?_) rfl rfl (by kernel_rfl) (by kernel_rfl) (by kernel_rfl) (fun _ _ _ h => h) (by rfl) hHeld ?_ ?_
      rotate_left
      · rintro wh ⟨z0, z1, z2, z3, z4, z5, z6, z7, z8, z9, z10, z11, z12, z13, z14, z15, z16, z17, z18, z19, z20, z21, z22, z23⟩
        go_simp
        (try with_reducible rfl)
      simp only [Act.put, List.setIfInBounds_toArray, List.set_cons_zero, List.set_cons_succ]
      refine held_take (i := 36) (v := ?_) rfl rfl (by kernel_rfl) (by kernel_rfl) (by kernel_rfl) (fun _ _ _ h => h) (by rfl) hHeld ?_ ?_
      rotate_left
      · rintro wh ⟨z0, z1, z2, z3, z4, z5, z6, z7, z8, z9, z10, z11, z12, z13, z14, z15, z16, z17, z18, z19, z20, z21, z22, z23⟩
        go_simp
        (try with_reducible rfl)
      simp only [Act.put, List.setIfInBounds_toArray, List.set_cons_zero, List.set_cons_succ]
      refine held_take (i := 37) (v := ?_) rfl rfl (by kernel_rfl) (by kernel_rfl) (by kernel_rfl) (fun _ _ _ h => h) (by rfl) hHeld ?_ ?_
      rotate_left
      · rintro wh ⟨z0, z1, z2, z3, z4, z5, z6, z7, z8, z9, z10, z11, z12, z13, z14, z15, z16, z17, z18, z19, z20, z21, z22, z23⟩
        go_simp
        (try with_reducible rfl)
      simp only [Act.put, List.setIfInBounds_toArray, List.set_cons_zero, List.set_cons_succ]
      refine held_take (i := 39) (v := ?_) rfl rfl (by kernel_rfl) (by kernel_rfl) (by kernel_rfl) (fun _ _ _ h => h) (by rfl) hHeld ?_ ?_
      rotate_left
      · rintro wh ⟨z0, z1, z2, z3, z4, z5, z6, z7, z8, z9, z10, z11, z12, z13, z14, z15, z16, z17, z18, z19, z20, z21, z22, z23⟩
        go_simp
        (try with_reducible rfl)
      simp only [Act.put, List.setIfInBounds_toArray, List.set_cons_zero, List.set_cons_succ]
      refine held_take (i := 41) (v := ?_) rfl rfl (by kernel_rfl) (by kernel_rfl) (by kernel_rfl) (fun _ _ _ h => h) (by rfl) hHeld ?_ ?_
      rotate_left
      · rintro wh ⟨z0, z1, z2, z3, z4, z5, z6, z7, z8, z9, z10, z11, z12, z13, z14, z15, z16, z17, z18, z19, z20, z21, z22, z23⟩
        go_simp
        (try with_reducible rfl)
      simp only [Act.put, List.setIfInBounds_toArray, List.set_cons_zero, List.set_cons_succ]
      refine held_call (i := 38) rfl (by kernel_rfl) (by rfl) (fun K hK => ?_)
      (go_simp; go_at_call 21; refine (KQ.out _ hB10).mono ?_; rintro e v11 ⟨rfl, hb11⟩; have hB11 := hB10.trans (hb11.mono hB10.size))
      refine hK.out _ _ ⟨keep_cell x0 hB11 ltx, keep_cell x1 hB11 ltx, keep_cell x2 hB11 ltx, keep_cell x3 hB11 ltx, keep_cell x4 hB11 ltx, keep_cell x5 hB11 ltx, keep_cell y0 hB11 lty, keep_cell y1 hB11 lty, keep_cell y2 hB11 lty, keep_cell y3 hB11 lty, keep_cell y4 hB11 lty, keep_cell y5 hB11 lty, keep_cell u0 hB11 ltu, keep_cell u1 hB11 ltu, keep_cell u2 hB11 ltu, keep_cell u3 hB11 ltu, keep_cell u4 hB11 ltu, keep_cell u5 hB11 ltu, keep_cell p0 hB11 ltp, keep_cell p1 hB11 ltp, keep_cell p2 hB11 ltp, keep_cell p3 hB11 ltp, keep_cell p4 hB11 ltp, keep_cell p5 hB11 ltp⟩ (fun hHeld => ?_)
      clear hK K
      (try simp only [Act.put, List.setIfInBounds_toArray, List.set_cons_zero, List.set_cons_succ])
      refine held_call (i := 40) rfl (by kernel_rfl) (by rfl) (fun K hK => ?_)
      (go_simp; go_at_call 9; refine (KA1.out _).mono ?_; rintro e v12 ⟨rfl, hb12⟩; have hB12 := hB11.trans (hb12.mono hB11.size))
      refine hK.out _ _ ⟨keep_cell x0 hB12 ltx, keep_cell x1 hB12 ltx, keep_cell x2 hB12 ltx, keep_cell x3 hB12 ltx, keep_cell x4 hB12 ltx, keep_cell x5 hB12 ltx, keep_cell y0 hB12 lty, keep_cell y1 hB12 lty, keep_cell y2 hB12 lty, keep_cell y3 hB12 lty, keep_cell y4 hB12 lty, keep_cell y5 hB12 lty, keep_cell u0 hB12 ltu, keep_cell u1 hB12 ltu, keep_cell u2 hB12 ltu, keep_cell u3 hB12 ltu, keep_cell u4 hB12 ltu, keep_cell u5 hB12 ltu, keep_cell p0 hB12 ltp, keep_cell p1 hB12 ltp, keep_cell p2 hB12 ltp, keep_cell p3 hB12 ltp, keep_cell p4 hB12 ltp, keep_cell p5 hB12 ltp⟩ (fun hHeld => ?_)
      clear hK K
      (try simp only [Act.put, List.setIfInBounds_toArray, List.set_cons_zero, List.set_cons_succ])
      refine held_call (i := 42) rfl (by kernel_rfl) (by rfl) (fun K hK => ?_)
      (go_simp; go_at_call 9; refine (KA2.out _).mono ?_; rintro e v13 ⟨rfl, hb13⟩; have hB13 := hB12.trans (hb13.mono hB12.size))
      refine hK.out _ _ ⟨keep_cell x0 hB13 ltx, keep_cell x1 hB13 ltx, keep_cell x2 hB13 ltx, keep_cell x3 hB13 ltx, keep_cell x4 hB13 ltx, keep_cell x5 hB13 ltx, keep_cell y0 hB13 lty, keep_cell y1 hB13 lty, keep_cell y2 hB13 lty, keep_cell y3 hB13 lty, keep_cell y4 hB13 lty, keep_cell y5 hB13 lty, keep_cell u0 hB13 ltu, keep_cell u1 hB13 ltu, keep_cell u2 hB13 ltu, keep_cell u3 hB13 ltu, keep_cell u4 hB13 ltu, keep_cell u5 hB13 ltu, keep_cell p0 hB13 ltp, keep_cell p1 hB13 ltp, keep_cell p2 hB13 ltp, keep_cell p3 hB13 ltp, keep_cell p4 hB13 ltp, keep_cell p5 hB13 ltp⟩ (fun hHeld => ?_)
      clear hK K
      (try simp only [Act.put, List.setIfInBounds_toArray, List.set_cons_zero, List.set_cons_succ])
      refine held_call (i := 43) rfl (by kernel_rfl) (by rfl) (fun K hK => ?_)
      (go_simp; go_at_call 29; refine (KP.out _ hB13).mono ?_; rintro e v14 ⟨rfl, hb14⟩; have hB14 := hB13.trans (hb14.mono hB13.size))
      refine hK.out _ _ ⟨keep_cell x0 hB14 ltx, keep_cell x1 hB14 ltx, keep_cell x2 hB14 ltx, keep_cell x3 hB14 ltx, keep_cell x4 hB14 ltx, keep_cell x5 hB14 ltx, keep_cell y0 hB14 lty, keep_cell y1 hB14 lty, keep_cell y2 hB14 lty, keep_cell y3 hB14 lty, keep_cell y4 hB14 lty, keep_cell y5 hB14 lty, keep_cell u0 hB14 ltu, keep_cell u1 hB14 ltu, keep_cell u2 hB14 ltu, keep_cell u3 hB14 ltu, keep_cell u4 hB14 ltu, keep_cell u5 hB14 ltu, keep_cell p0 hB14 ltp, keep_cell p1 hB14 ltp, keep_cell p2 hB14 ltp, keep_cell p3 hB14 ltp, keep_cell p4 hB14 ltp, keep_cell p5 hB14 ltp⟩ (fun hHeld => ?_)
      clear hK K
      (try simp only [Act.put, List.setIfInBounds_toArray, List.set_cons_zero, List.set_cons_succ])
      refine held_take (i := 44) (v := ?_) rfl rfl (by kernel_rfl) (by kernel_rfl) (by kernel_rfl) (fun _ _ _ h => h) (by rfl) hHeld ?_ ?_
      rotate_left
      · rintro wh ⟨z0, z1, z2, z3, z4, z5, z6, z7, z8, z9, z10, z11, z12, z13, z14, z15, z16, z17, z18, z19, z20, z21, z22, z23⟩
        go_simp
        (try with_reducible rfl)
      simp only [Act.put, List.setIfInBounds_toArray, List.set_cons_zero, List.set_cons_succ]
      refine held_take (i := 45) (v := ?_) rfl rfl (by kernel_rfl) (by kernel_rfl) (by kernel_rfl) (fun _ _ _ h => h) (by rfl) hHeld ?_ ?_
      rotate_left
      · rintro wh ⟨z0, z1, z2, z3, z4, z5, z6, z7, z8, z9, z10, z11, z12, z13, z14, z15, z16, z17, z18, z19, z20, z21, z22, z23⟩
        go_simp
        (try with_reducible rfl)
      simp only [Act.put, List.setIfInBounds_toArray, List.set_cons_zero, List.set_cons_succ]
      refine held_take (i := 46) (v := ?_) rfl rfl (by kernel_rfl) (by kernel_rfl) (by kernel_rfl) (fun _ _ _ h => h) (by rfl) hHeld ?_ ?_
      rotate_left
      · rintro wh ⟨z0, z1, z2, z3, z4, z5, z6, z7, z8, z9, z10, z11, z12, z13, z14, z15, z16, z17, z18, z19, z20, z21, z22, z23⟩
        go_simp
        (try with_reducible rfl)
      simp only [Act.put, List.setIfInBounds_toArray, List.set_cons_zero, List.set_cons_succ]
      refine wpAnyH_done (by kernel_rfl) ?_ _
      go_wp2
      go_ret
      exact ⟨rfl, HBW.out.trans (hB14.mono HBW.out.size)⟩
theorem walk (v : Value) (x : Al) (fv : Value) (v' : Value) (y : Al) (fv' : Value) (now : Int) (w : World) (h1 : ArgAl w v x fv) (h2 : ArgAl w v' y fv') (hb : (idB x.src x.fl).length ≤ 4000000) : Calls Try.prog 5 #[v, v', .int .i64 now] w fun e w' => e = .returned (.bool true) ∧ Below w.heap.size w w' := by
  obtain ⟨rfl, r2, r3⟩ := h1
  obtain ⟨rfl, q2, q3⟩ := h2
  exact walk0 x.src x.fl fv x.lv x.c x.fr x.til y.src y.fl fv' y.lv y.c y.fr y.til now w r2 q2 r3 q3 (Nat.le_trans (idB_le x.src x.fl 12) hb)
end lawIs
end Go.Proofs.Ytipnhpfpppblhaa

/- What the bound of an Upto statement gives of an alert: the bytes of its id. -/
namespace Go.Proofs.Ytipnhpfpppblhaa
open Go.RowKit Go.WideShapes Go.ChangeShapes Go.Deep
theorem bulkAll_range {H : Type} (D : Nat → DataW H) (g : Nat → Nat) : ∀ n, (∀ i, i < n → g i ≤ Rows.uptoBulk (D i)) → ((List.range n).map g).sum ≤ Rows.uptoBulkAll ((List.range n).map D) := by
  have happ : ∀ (l r : List (DataW H)), Rows.uptoBulkAll (l ++ r) = Rows.uptoBulkAll l + Rows.uptoBulkAll r := by
    intro l r
    induction l with
    | nil => simp [Rows.uptoBulkAll]
    | cons x l ih => simp only [List.cons_append, Rows.uptoBulkAll, ih]; omega
  intro n
  induction n with
  | zero => intro _; simp
  | succ n ih =>
    intro h
    rw [List.range_succ, List.map_append, List.map_append, List.sum_append, happ]
    have h1 := ih (fun i hi => h i (by omega))
    have h2 := h n (Nat.lt_succ_self n)
    simp [Rows.uptoBulkAll]
    omega
theorem fldB_len (f : Fld) : (fldB f).length = f.1.size + f.2.size + 2 := by
  simp only [fldB, List.length_append, List.length_cons, List.length_nil, byL_len]; omega
theorem flat_sum (fl : List Fld) : (fl.flatMap fldB).length = ((List.range fl.length).map fun i => (fl.getD i default).1.size + (fl.getD i default).2.size + 2).sum := by
  induction fl with
  | nil => rfl
  | cons f l ih =>
    rw [List.flatMap_cons, List.length_append, fldB_len, ih, List.length_cons, List.range_succ_eq_map, List.map_cons, List.map_map, List.sum_cons]
    rfl
set_option maxRecDepth 100000 in
theorem flds_bulk {H : Type} {enc : TypeId × Value → H} {W : World} {n : Nat} {v : Value} {x : DataW H × List MemPlace} {fl : List Fld} (h : DataW.trod enc Try.prog W 0 (fun _ => true) true n 31 [v] = some x) (hv : FldsAt W v fl) : (fl.flatMap fldB).length ≤ Rows.uptoBulk x.1 := by
  have hC : Try.prog.cellsOf 48 = 2 := by kernel_rfl
  have hcs1 : Try.prog.cellsOf 9 = 1 := by kernel_rfl
  rcases open_slice Try.underlying31 h with ⟨hcs, hx⟩ | ⟨a, len, cap, m, n, D, Pl, hcs, hb, hl, hm, hmm, hx, hi⟩
  · cases hcs
    have : fl = [] := by
      rcases hv.2 with ⟨_, h0⟩ | ⟨a, c, h0, _⟩
      · exact List.length_eq_zero_iff.1 h0
      · simp at h0
    subst this
    simp
  · cases hcs
    rw [hC] at hi
    obtain ⟨a', c', he, hc', hr⟩ := RdAt.shape hv
    simp only [Value.slice.injEq] at he
    obtain ⟨he1, he2, he3⟩ := he
    subst he2
    have hle : fl.length ≤ m := by rw [hmm]; split <;> omega
    have key : ∀ i, i < fl.length → (fl.getD i default).1.size + (fl.getD i default).2.size + 2 ≤ Rows.uptoBulk (D i) := by
      intro i hi'
      obtain ⟨b, o, ha, hlt, hcell⟩ := hr (by omega)
      obtain ⟨cs', hcc, ht⟩ := hi i (by omega)
      obtain ⟨_, hcl, hat⟩ := World.cells?_some hcc
      obtain ⟨q0, q1⟩ := fldCells_at fl i hi'
      have c0 := hcell _ _ q0
      have c1 := hcell _ _ q1
      rw [ha] at he1
      have he1' := Option.some.inj he1
      subst he1'
      have d0 := hat 0 (by decide)
      have d1 := hat 1 (by decide)
      rw [add_off, add_off] at d0 d1
      rw [Nat.add_zero] at d0
      rw [c0] at d0
      rw [show o + i * 2 + 1 = o + (i * 2 + 1) by omega, c1] at d1
      match cs', hcl with
      | [e0, e1], _ =>
        simp at d0 d1
        subst d0 d1
        obtain ⟨ys, n', hn', hy, hlen, hyl, hf⟩ := DataW.trod_struct Try.underlying48 ht
        have t0 := hf 0 _ rfl
        have t1 := hf 1 _ rfl
        match ys, hyl with
        | [y0, y1], _ =>
          obtain ⟨s0, r0, w0, _⟩ := DataW.trod_string Try.underlying9 t0
          obtain ⟨s1, r1, w1, _⟩ := DataW.trod_string Try.underlying9 t1
          simp [hcs1] at r0 r1
          have hD : D i = .agg [y0.1, y1.1] := by simpa using congrArg Prod.fst hy
          rw [hD, w0, w1, List.getD_eq_getElem?_getD, List.getElem?_eq_getElem hi', Option.getD_some, r0, r1]
          simp only [Rows.uptoBulk, Rows.uptoBulkAll]
          rw [Array.length_toList, Array.length_toList]
          show s0.size + s1.size + 2 ≤ s0.size + 1 + (s1.size + 1 + 0) + 1
          omega
    rw [flat_sum, hx]
    simp only [Rows.uptoBulk]
    have := bulkAll_range D _ _ key
    omega
set_option maxRecDepth 100000 in
theorem al_bulk {H : Type} {enc : TypeId × Value → H} {W : World} {x : Al} {fv v : Value} {d : DataW H} {p : List MemPlace} (h : DataW.Trod enc Try.prog W 0 (fun _ => true) true 38 v d p) (hx : ArgAl W v x fv) : (idB x.src x.fl).length ≤ Rows.uptoBulk d := by
  have hcs : Try.prog.cellsOf 9 = 1 := by kernel_rfl
  have hcf : Try.prog.cellsOf 31 = 1 := by kernel_rfl
  obtain ⟨rfl, hf2, _⟩ := hx
  obtain ⟨fuel, hf0⟩ := h
  have hf1 : DataW.trod enc Try.prog W 0 (fun _ => true) true fuel 38 [.string x.src, fv, .int .i64 x.lv, .int .u32 x.c, .int .i64 x.fr, .int .i64 x.til] = some (d, p) := hf0
  obtain ⟨ys, n', hn', hy, hlen, hyl, hf⟩ := DataW.trod_struct Try.underlying38 hf1
  have t0 := hf 0 _ rfl
  have t1 := hf 1 _ rfl
  match ys, hyl with
  | [y0, y1, y2, y3, y4], _ =>
    obtain ⟨s, q0, w0, z0⟩ := DataW.trod_string Try.underlying9 t0
    simp [hcs] at q0
    have t1' : DataW.trod enc Try.prog W 0 (fun _ => true) true n' 31 [fv] = some y1 := by simpa [hcf] using t1
    have hb := flds_bulk t1' hf2
    have hd : d = .agg [y0.1, y1.1, y2.1, y3.1, y4.1] := by simpa using congrArg Prod.fst hy
    rw [hd, w0]
    have e : (idB x.src x.fl).length = x.src.size + 1 + (x.fl.flatMap fldB).length := by
      unfold idB
      rw [List.length_append, List.length_append, byL_len]; rfl
    have e2 : s.data.toList.length = x.src.size := by rw [q0]; exact len_B s
    rw [e]
    simp only [Rows.uptoBulk, Rows.uptoBulkAll]
    rw [e2]
    omega
theorem upto_all {H : Type} {l : List (DataW H)} (hk : Rows.uptoSmall H l = true) : Rows.uptoBulkAll l ≤ 1048576 := of_decide_eq_true hk
end Go.Proofs.Ytipnhpfpppblhaa

/- AlertIs: the card: whatever the arguments, the law returns true and its arguments read as they did. No condition. -/
namespace Go.Proofs.Ytipnhpfpppblhaa.lawIs
open Go.ChangeShapes Go.WideShapes Go.ChangeAt Go.RowKit
open Go.ChangeMaps (open_string)
set_option maxRecDepth 100000 in
theorem contract (H : Type) (enc : TypeId × Value → H) (W : World) (base : Nat) (args : Array Value) (ds gs : List (DataW H)) (before : List MemPlace)
    (hval : ∀ (j : Nat) t v, Try.f5.params[j]? = some t → args[j]? = some v → Value.okWide Try.prog W .any base t v)
    (hW : DataW.Whole enc Try.prog Try.f5.params.toList Rows.alertIsSpec.vars false W args.toList ds gs before) (hk : Rows.uptoSmall H (ds ++ gs) = true) :
    Calls Try.prog 5 args W fun e W' => ∃ v, e = .returned v ∧ Rows.alertIsSpec.post enc Try.prog Try.f5 false true false false W args v W' := by
  have hW' := hW
  obtain ⟨p, q, hA0, hV, rfl, hfz, hnd⟩ := hW
  have hA : DataW.TrodAll enc Try.prog W 0 (fun _ => true) true Try.f5.params.toList args.toList ds p := hA0
  rw [Try.params5] at hA hval
  obtain ⟨v0, vs0, d0, ds0, p0, q0, hargs, rfl, rfl, h0, r0⟩ := trodAll_cons hA
  obtain ⟨v1, vs1, d1, ds1, p1, q1, rfl, rfl, rfl, h1, r1⟩ := trodAll_cons r0
  obtain ⟨v2, vs2, d2, ds2, p2, q2, rfl, rfl, rfl, h2, r2⟩ := trodAll_cons r1
  obtain ⟨rfl, rfl, rfl⟩ := trodAll_nil r2
  obtain rfl : args = #[v0, v1, v2] := by cases args; simp_all
  obtain ⟨rfl, rfl⟩ := trodVars_none hV
  obtain ⟨x0, y0, hx0⟩ := al_of_arg (hval 0 38 v0 rfl rfl) h0
  obtain ⟨x1, y1, hx1⟩ := al_of_arg (hval 1 38 v1 rfl rfl) h1
  obtain ⟨x2, rfl, rfl, rfl, wx2⟩ := open_int Try.underlying3 (hval 2 3 v2 rfl rfl) h2
  clear hA0
  have hbk := upto_all hk
  simp only [List.append_nil, Rows.uptoBulkAll] at hbk
  refine (walk v0 x0 y0 v1 x1 y1 x2 W hx0 hx1 (Nat.le_trans (al_bulk h0 hx0) (by omega))).mono ?_
  rintro e W' ⟨rfl, hb⟩
  exact ⟨_, rfl, law_post laidOut Try.underlying4 rfl rfl (by kernel_rfl) hW' rfl rfl rfl hb⟩
theorem laid_met (os : Os) : laidMet Try.prog Rows.alertIsUptoRow.laid ((laidWorld os).forCall (fun _ _ => 0) ⟨#[], #[.agg #[.string ⟨#[]⟩, .slice none 0 0, .int .i64 0, .int .u32 0, .int .i64 0, .int .i64 0], .agg #[.string ⟨#[]⟩, .slice none 0 0, .int .i64 0, .int .u32 0, .int .i64 0, .int .i64 0], .int .i64 0], []⟩).memory :=
  ⟨[], rfl, List.nodup_nil, fun _ _ h => by cases h⟩
theorem reads (os : Os) {H : Type} (enc : TypeId × Value → H) : ∃ places, DataW.whole enc Try.prog ((laidWorld os).forCall (fun _ _ => 0) ⟨#[], #[.agg #[.string ⟨#[]⟩, .slice none 0 0, .int .i64 0, .int .u32 0, .int .i64 0, .int .i64 0], .agg #[.string ⟨#[]⟩, .slice none 0 0, .int .i64 0, .int .u32 0, .int .i64 0, .int .i64 0], .int .i64 0], []⟩).memory Try.f5.params.toList Rows.alertIsSpec.vars false (#[.agg #[.string ⟨#[]⟩, .slice none 0 0, .int .i64 0, .int .u32 0, .int .i64 0, .int .i64 0], .agg #[.string ⟨#[]⟩, .slice none 0 0, .int .i64 0, .int .u32 0, .int .i64 0, .int .i64 0], .int .i64 0] : Array Value).toList 8 = some ([.agg [.lit (.string []), .nil, .agg [.lit (.int .i64 0), .lit (.int .u32 0)], .lit (.int .i64 0), .lit (.int .i64 0)], .agg [.lit (.string []), .nil, .agg [.lit (.int .i64 0), .lit (.int .u32 0)], .lit (.int .i64 0), .lit (.int .i64 0)], .lit (.int .i64 0)], [], places) :=
  ⟨[], by kernel_rfl⟩
set_option maxRecDepth 100000 in
theorem lifted (os : Os) (started : os.Started) (H : Type) (enc : TypeId × Value → H) (F : Stop.Interp) :
    ReturnsInHanded {} Try.checked os 5 .any ((Rows.OpenSpec.upto Rows.alertIsSpec).preRow enc Try.prog Try.f5 Rows.alertIsUptoRow.domain false Rows.alertIsUptoRow.laid) (((Rows.OpenSpec.upto Rows.alertIsSpec).at F).post enc Try.prog Try.f5 false true false false) := by
  obtain ⟨places, hx⟩ := reads os enc
  refine returnsInHanded_of_row (C := Try.checked) (s := Rows.OpenSpec.upto Rows.alertIsSpec) ownNone started (by kernel_rfl) Try.func5
    (witness_row_at (enc := enc) (C := Try.checked) false (laidWorld os) #[.agg #[.string ⟨#[]⟩, .slice none 0 0, .int .i64 0, .int .u32 0, .int .i64 0, .int .i64 0], .agg #[.string ⟨#[]⟩, .slice none 0 0, .int .i64 0, .int .u32 0, .int .i64 0, .int .i64 0], .int .i64 0] rfl (by kernel_rfl) (by kernel_rfl) (by kernel_rfl)
      (OpenSpec.preRow_of_cond 8 hx (by kernel_rfl) (fun k hk => by cases hk; exact of_decide_eq_true (by kernel_rfl) |> decide_eq_true) (by kernel_rfl) (laid_met os))) ?_
  intro W base args ds gs before hval hW _ hcond _ _ _ _
  exact contract H enc W base args ds gs before hval hW (hcond _ rfl)
theorem said : Rows.AlertIsUptoSaid :=
  OpenClaim.holds_of_cond 5 Try.f5 rfl rfl rfl rfl rfl rfl rfl ⟨rfl, rfl, rfl, rfl, rfl⟩ rfl rfl rfl rfl rfl (by kernel_rfl) Try.func5 (by kernel_rfl)
    (of_decide_eq_true (by kernel_rfl)) (by unfold Func.isWrapper; first | (rw [if_pos (by decide +kernel)]; kernel_rfl) | (rw [if_neg (by decide +kernel)]; exact ⟨rfl, rfl⟩))
    (fun os started H enc _ F => by rw [OpenClaim.pre_eq_preRow]; exact lifted os started H enc F)
end Go.Proofs.Ytipnhpfpppblhaa.lawIs

