/- The arguments of chapter 09's laws: labels, policies. -/
import Derived.Test.YtnmgfmmjdiephaaAlArgs
import Derived.Test.YtnmgfmmjdiephaaRefA
namespace Go.Proofs.Ytnmgfmmjdiephaa
open Go.RowKit Go.WideShapes Go.ChangeShapes Go.Deep

/-- a label of an argument -/
def ArgLab (v : Value) (x : Int × Nat) : Prop := v = Lab x.1 x.2 ∧ x.2 < 4294967296
set_option maxRecDepth 100000 in
theorem lab_of_arg {H : Type} {enc : TypeId × Value → H} {W : World} {base : Nat} {v : Value} {d : DataW H} {p : List MemPlace} (hval : Value.okWide Try.prog W .any base 30 v) (h : DataW.Trod enc Try.prog W 0 (fun _ => true) true 30 v d p) : ∃ x, ArgLab v x := by
  obtain ⟨cs, rfl, hsz, _⟩ : ∃ cs, v = .agg cs ∧ cs.size = Try.prog.cellsOf 30 ∧ Row.okWide Try.prog W .any base 30 cs := by
    simpa [Value.okWide, Try.underlying30] using hval
  rw [show Try.prog.cellsOf 30 = 2 by kernel_rfl] at hsz
  obtain ⟨fuel, hf⟩ := h
  obtain ⟨l⟩ := cs
  match l, hsz with
  | [c0, c1], _ =>
    obtain ⟨l, c, rfl, rfl, hc⟩ := lab_of_trod hf
    exact ⟨(l, c), rfl, hc⟩
/-- two labels of an argument -/
def ArgLabs2 (v : Value) (x : (Int × Nat) × (Int × Nat)) : Prop := v = .agg #[.int .i64 x.1.1, .int .u32 x.1.2, .int .i64 x.2.1, .int .u32 x.2.2] ∧ x.1.2 < 4294967296 ∧ x.2.2 < 4294967296
set_option maxRecDepth 100000 in
theorem labs2_of_arg {H : Type} {enc : TypeId × Value → H} {W : World} {base : Nat} {v : Value} {d : DataW H} {p : List MemPlace} (hval : Value.okWide Try.prog W .any base 60 v) (h : DataW.Trod enc Try.prog W 0 (fun _ => true) true 60 v d p) : ∃ x, ArgLabs2 v x := by
  obtain ⟨cs, rfl, hsz, _⟩ : ∃ cs, v = .agg cs ∧ cs.size = Try.prog.cellsOf 60 ∧ Row.okWide Try.prog W .any base 60 cs := by
    simpa [Value.okWide, Try.underlying60] using hval
  rw [show Try.prog.cellsOf 60 = 4 by kernel_rfl] at hsz
  have hcl : Try.prog.cellsOf 30 = 2 := by kernel_rfl
  obtain ⟨fuel, hf⟩ := h
  obtain ⟨l⟩ := cs
  match l, hsz with
  | [c0, c1, c2, c3], _ =>
    obtain ⟨xs, m, _, _, _, hxl, hx⟩ := DataW.trod_array Try.underlying60 hf
    rw [hcl] at hx
    match xs, hxl with
    | [y0, y1], _ =>
      obtain ⟨l0, k0, rfl, rfl, h0⟩ := lab_of_trod (hx 0 (by decide))
      obtain ⟨l1, k1, rfl, rfl, h1⟩ := lab_of_trod (hx 1 (by decide))
      exact ⟨((l0, k0), (l1, k1)), rfl, h0, h1⟩
theorem trod_array2 {H : Type} {enc : TypeId × Value → H} {P : Program} {w : World} {base : Nat} {spare : Nat → Bool} {held : Bool} {t e : TypeId} {fuel : Nat} {c0 c1 : Value} {x : DataW H × List MemPlace} (ht : P.underlying t = some (.array 2 e)) (hce : P.cellsOf e = 1)
    (h : DataW.trod enc P w base spare held fuel t [c0, c1] = some x) :
    ∃ y0 y1 n, x = (.agg [y0.1, y1.1], y0.2 ++ y1.2) ∧ DataW.trod enc P w base spare held n e [c0] = some y0 ∧ DataW.trod enc P w base spare held n e [c1] = some y1 := by
  cases fuel with
  | zero => simp [DataW.trod] at h
  | succ n =>
    unfold DataW.trod at h
    rw [ht] at h
    have r2 : List.range 2 = [0, 1] := rfl
    simp [r2, hce] at h
    obtain ⟨_, h⟩ := h
    cases h0 : DataW.trod enc P w base spare held n e [c0] with
    | none => simp [h0] at h
    | some y0 =>
      cases h1 : DataW.trod enc P w base spare held n e [c1] with
      | none => simp [h0, h1] at h
      | some y1 =>
        simp [h0, h1] at h
        exact ⟨y0, y1, n, h.symm, h0, h1⟩
set_option maxRecDepth 100000 in
theorem open_two {H : Type} {enc : TypeId × Value → H} {W : World} {base : Nat} {v : Value} {d : DataW H} {p : List MemPlace} (hval : Value.okWide Try.prog W .any base 69 v) (h : DataW.Trod enc Try.prog W 0 (fun _ => true) true 69 v d p) :
    ∃ a b : Int, v = .agg #[.int .i64 a, .int .i64 b] := by
  obtain ⟨cs, rfl, hsz, _⟩ : ∃ cs, v = .agg cs ∧ cs.size = Try.prog.cellsOf 69 ∧ Row.okWide Try.prog W .any base 69 cs := by
    simpa [Value.okWide, Try.underlying69] using hval
  rw [show Try.prog.cellsOf 69 = 2 by kernel_rfl] at hsz
  obtain ⟨fuel, hf⟩ := h
  obtain ⟨l⟩ := cs
  match l, hsz with
  | [c0, c1], _ =>
    obtain ⟨y0, y1, m, hx, hy0, hy1⟩ := trod_array2 Try.underlying69 (by kernel_rfl) hf
    obtain ⟨x0, e0, _, _⟩ := DataW.trod_int Try.underlying3 hy0
    obtain ⟨x1, e1, _, _⟩ := DataW.trod_int Try.underlying3 hy1
    cases e0; cases e1
    exact ⟨x0, x1, rfl⟩
set_option maxRecDepth 100000 in
theorem open_three {H : Type} {enc : TypeId × Value → H} {W : World} {base : Nat} {v : Value} {d : DataW H} {p : List MemPlace} (hval : Value.okWide Try.prog W .any base 78 v) (h : DataW.Trod enc Try.prog W 0 (fun _ => true) true 78 v d p) :
    ∃ a b c : Int, v = .agg #[.int .i64 a, .int .i64 b, .int .i64 c] := by
  obtain ⟨cs, rfl, hsz, _⟩ : ∃ cs, v = .agg cs ∧ cs.size = Try.prog.cellsOf 78 ∧ Row.okWide Try.prog W .any base 78 cs := by
    simpa [Value.okWide, Try.underlying78] using hval
  rw [show Try.prog.cellsOf 78 = 3 by kernel_rfl] at hsz
  obtain ⟨fuel, hf⟩ := h
  obtain ⟨l⟩ := cs
  match l, hsz with
  | [c0, c1, c2], _ =>
    obtain ⟨y0, y1, y2, m, hx, hy0, hy1, hy2⟩ := trod_array3 Try.underlying78 (by kernel_rfl) hf
    obtain ⟨x0, e0, _, _⟩ := DataW.trod_int Try.underlying3 hy0
    obtain ⟨x1, e1, _, _⟩ := DataW.trod_int Try.underlying3 hy1
    obtain ⟨x2, e2, _, _⟩ := DataW.trod_int Try.underlying3 hy2
    cases e0; cases e1; cases e2
    exact ⟨x0, x1, x2, rfl⟩
/-! ### policies -/
structure Pol where
  a0 : Option Addr
  n0 : Nat
  c0 : Nat
  a1 : Option Addr
  n1 : Nat
  c1 : Nat
  a2 : Option Addr
  n2 : Nat
  c2 : Nat
  a3 : Option Addr
  n3 : Nat
  c3 : Nat
  a4 : Option Addr
  n4 : Nat
  c4 : Nat
  a5 : Option Addr
  n5 : Nat
  c5 : Nat
structure PolFit (p : Pol) : Prop where
  h0 : p.n0 ≤ p.c0 ∧ p.c0 ≤ maxLen
  h1 : p.n1 ≤ p.c1 ∧ p.c1 ≤ maxLen
  h2 : p.n2 ≤ p.c2 ∧ p.c2 ≤ maxLen
  h3 : p.n3 ≤ p.c3 ∧ p.c3 ≤ maxLen
  h4 : p.n4 ≤ p.c4 ∧ p.c4 ≤ maxLen
  h5 : p.n5 ≤ p.c5 ∧ p.c5 ≤ maxLen
/-- a policy of an argument: its slices, and what its list of raises reads -/
def ArgPol (w : World) (v : Value) (p : Pol) (rs : List Nmd) : Prop := v = .agg #[.slice p.a0 p.n0 p.c0, .slice p.a1 p.n1 p.c1, .slice p.a2 p.n2 p.c2, .slice p.a3 p.n3 p.c3, .slice p.a4 p.n4 p.c4, .slice p.a5 p.n5 p.c5] ∧ PolFit p ∧ NmdsAt w (.slice p.a3 p.n3 p.c3) rs ∧ NmdFit rs
section
variable {H : Type} {enc : TypeId × Value → H} {P : Program} {w : World} {base : Nat} {spare : Nat → Bool} {held : Bool}
theorem slice_of_trod {t e : TypeId} {fuel : Nat} {cs : List Value} {x : DataW H × List MemPlace} (ht : P.underlying t = some (.slice e)) (h : DataW.trod enc P w base spare held fuel t cs = some x) :
    ∃ a n c, cs = [.slice a n c] ∧ n ≤ c ∧ c ≤ maxLen := by
  rcases open_slice ht h with ⟨h0, _⟩ | ⟨a, len, cap, m, n, D, Pl, hcs, hb, hl, hm, hmm, hx, hi⟩
  · exact ⟨none, 0, 0, h0, Nat.le_refl _, Nat.zero_le _⟩
  · exact ⟨some a, len, cap, hcs, hl, hm⟩
end
set_option maxRecDepth 100000 in
theorem nmds_of_trod {H : Type} {enc : TypeId × Value → H} {W : World} {n : Nat} {v : Value} {x : DataW H × List MemPlace} (h : DataW.trod enc Try.prog W 0 (fun _ => true) true n 22 [v] = some x) : ∃ a n c rs, v = .slice a n c ∧ n ≤ c ∧ c ≤ maxLen ∧ NmdsAt W v rs ∧ NmdFit rs := by
  have hC : Try.prog.cellsOf 82 = 3 := by kernel_rfl
  have hcs1 : Try.prog.cellsOf 9 = 1 := by kernel_rfl
  have hcl : Try.prog.cellsOf 30 = 2 := by kernel_rfl
  rcases open_slice_structs Try.underlying22 Try.underlying82 h with hcs | ⟨a, len, cap, hcs, hl, hm, hf⟩
  · cases hcs
    exact ⟨none, 0, 0, [], rfl, Nat.le_refl _, Nat.zero_le _, RdAt.nil W 3, fun _ h => by cases h⟩
  · cases hcs
    rw [hC] at hf
    have hone : ∀ i, i < len → ∃ s : Nmd, W.cell? (a.add (i * 3)) = some (.string s.1) ∧ W.cell? (a.add (i * 3 + 1)) = some (.int .i64 s.2.1) ∧ W.cell? (a.add (i * 3 + 2)) = some (.int .u32 s.2.2) ∧ s.2.2 < 4294967296 := by
      intro i hi
      obtain ⟨es, n, hlen, hat, hfs⟩ := hf i hi
      match es, hlen with
      | [e0, e1, e2], _ =>
        obtain ⟨y0, t0⟩ := hfs 0 _ rfl
        obtain ⟨y1, t1⟩ := hfs 1 _ rfl
        obtain ⟨s0, q0, _, z0⟩ := DataW.trod_string Try.underlying9 t0
        simp [hcs1] at q0
        subst q0
        have t1' : DataW.trod enc Try.prog W 0 (fun _ => true) true n 30 [e1, e2] = some y1 := by simpa [hcl] using t1
        obtain ⟨l, c, r1, r2, hc⟩ := lab_of_trod t1'
        subst r1 r2
        exact ⟨(s0, l, c), hat 0 (by omega), hat 1 (by omega), hat 2 (by omega), hc⟩
    have hg : ∃ g : Nat → Nmd, ∀ i, i < len → W.cell? (a.add (i * 3)) = some (.string (g i).1) ∧ W.cell? (a.add (i * 3 + 1)) = some (.int .i64 (g i).2.1) ∧ W.cell? (a.add (i * 3 + 2)) = some (.int .u32 (g i).2.2) ∧ (g i).2.2 < 4294967296 :=
      ⟨fun i => if h : i < len then Classical.choose (hone i h) else default, fun i h => by have := Classical.choose_spec (hone i h); simpa only [dif_pos h] using this⟩
    obtain ⟨g, hg⟩ := hg
    have hgl : ((List.range len).map g).length = len := by simp
    refine ⟨some a, len, cap, (List.range len).map g, rfl, hl, hm, ⟨nmdCells_len _, .inr ⟨a, cap, by rw [hgl], by omega, fun hn => ?_⟩⟩, fun s hs => ?_⟩
    · rw [hgl] at hn
      obtain ⟨b, off, spot⟩ := a
      have h0 := (hg 0 hn).1
      have hspot : spot = none := by simpa [Addr.add] using World.cell?_spot h0
      subst hspot
      refine ⟨b, off, rfl, by have := cell_ltA h0; simpa [Addr.add] using this, fun j x hj => ?_⟩
      have hjl := (List.getElem?_eq_some_iff.1 hj).1
      rw [nmdCells_len, hgl] at hjl
      obtain ⟨m, r, hr2, rfl⟩ : ∃ m r, r < 3 ∧ j = m * 3 + r := ⟨j / 3, j % 3, Nat.mod_lt _ (by decide), by omega⟩
      have q := nmdCells_at ((List.range len).map g) m (by rw [hgl]; omega)
      obtain ⟨h1, h2, h3, _⟩ := hg m (by omega)
      simp only [List.getElem_map, List.getElem_range] at q
      rw [add_off] at h1 h2 h3
      match r, hr2 with
      | 0, _ => have q0 := q 0 _ rfl; rw [q0] at hj; rw [← Option.some.inj hj]; exact h1
      | 1, _ => have q0 := q 1 _ rfl; rw [q0] at hj; rw [← Option.some.inj hj]; exact h2
      | 2, _ => have q0 := q 2 _ rfl; rw [q0] at hj; rw [← Option.some.inj hj]; exact h3
    · obtain ⟨i, hi, rfl⟩ := List.mem_map.1 hs
      exact (hg i (List.mem_range.1 hi)).2.2.2
theorem pol_of_trod {H : Type} {enc : TypeId × Value → H} {W : World} {n : Nat} {e0 e1 e2 e3 e4 e5 : Value} {x : DataW H × List MemPlace} (h : DataW.trod enc Try.prog W 0 (fun _ => true) true n 26 [e0, e1, e2, e3, e4, e5] = some x) : ∃ x y, ArgPol W (.agg #[e0, e1, e2, e3, e4, e5]) x y := by
  have hcn : Try.prog.cellsOf 22 = 1 := by kernel_rfl
  have hcr : Try.prog.cellsOf 23 = 1 := by kernel_rfl
  have hci : Try.prog.cellsOf 24 = 1 := by kernel_rfl
  obtain ⟨ys, n', hn', hy, hlen, hyl, hf⟩ := DataW.trod_struct Try.underlying26 h
  have t0 := hf 0 _ rfl
  have t1 := hf 1 _ rfl
  have t2 := hf 2 _ rfl
  have t3 := hf 3 _ rfl
  have t4 := hf 4 _ rfl
  have t5 := hf 5 _ rfl
  match ys, hyl with
  | [y0, y1, y2, y3, y4, y5], _ =>
    obtain ⟨a0, n0, k0, q0, r0⟩ := slice_of_trod Try.underlying22 t0
    obtain ⟨a1, n1, k1, q1, r1⟩ := slice_of_trod Try.underlying22 t1
    obtain ⟨a2, n2, k2, q2, r2⟩ := slice_of_trod Try.underlying22 t2
    obtain ⟨a4, n4, k4, q4, r4⟩ := slice_of_trod Try.underlying23 t4
    obtain ⟨a5, n5, k5, q5, r5⟩ := slice_of_trod Try.underlying24 t5
    simp [hcn] at q0 q1 q2
    simp [hcr] at q4
    simp [hci] at q5
    have t3' : DataW.trod enc Try.prog W 0 (fun _ => true) true n' 22 [e3] = some y3 := by simpa [hcn] using t3
    obtain ⟨a3, n3, k3, rs, rfl, h1, h2, h3, h4⟩ := nmds_of_trod t3'
    subst q0 q1 q2 q4 q5
    exact ⟨⟨a0, n0, k0, a1, n1, k1, a2, n2, k2, a3, n3, k3, a4, n4, k4, a5, n5, k5⟩, rs, rfl, ⟨r0, r1, r2, ⟨h1, h2⟩, r4, r5⟩, h3, h4⟩
set_option maxRecDepth 100000 in
theorem pol_of_arg {H : Type} {enc : TypeId × Value → H} {W : World} {base : Nat} {v : Value} {d : DataW H} {p : List MemPlace} (hval : Value.okWide Try.prog W .any base 26 v) (h : DataW.Trod enc Try.prog W 0 (fun _ => true) true 26 v d p) : ∃ x y, ArgPol W v x y := by
  obtain ⟨cs, rfl, hsz, _⟩ : ∃ cs, v = .agg cs ∧ cs.size = Try.prog.cellsOf 26 ∧ Row.okWide Try.prog W .any base 26 cs := by
    simpa [Value.okWide, Try.underlying26] using hval
  rw [show Try.prog.cellsOf 26 = 6 by kernel_rfl] at hsz
  obtain ⟨fuel, hf⟩ := h
  obtain ⟨l⟩ := cs
  match l, hsz with
  | [c0, c1, c2, c3, c4, c5], _ => exact pol_of_trod hf
end Go.Proofs.Ytnmgfmmjdiephaa
