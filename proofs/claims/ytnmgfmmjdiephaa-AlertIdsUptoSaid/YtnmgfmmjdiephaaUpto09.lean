/- What the bound of an Upto statement gives of an alert: the bytes of its id. -/
import Derived.Test.YtnmgfmmjdiephaaAlArgs
import Derived.Test.YtnmgfmmjdiephaaRows
namespace Go.Proofs.Ytnmgfmmjdiephaa
open Go.RowKit Go.WideShapes Go.ChangeShapes Go.Deep

theorem bulkAll_range {H : Type} (D : Nat → DataW H) (g : Nat → Nat) : ∀ n, (∀ i, i < n → g i ≤ Rows.uptoBulk (D i)) → ((List.range n).map g).sum ≤ Rows.uptoBulkAll ((List.range n).map D) := by
  have happ : ∀ (l r : List (DataW H)), Rows.uptoBulkAll (l ++ r) = Rows.uptoBulkAll l + Rows.uptoBulkAll r := by
    intro l r
    induction l with
    | nil => simp [Rows.uptoBulkAll]
    | cons x l ih => simp only [List.cons_append, Rows.uptoBulkAll, ih]; omega
  intro n
  induction n with
  | zero => intro _; simp
  | succ n ih =>
    intro h
    rw [List.range_succ, List.map_append, List.map_append, List.sum_append, happ]
    have h1 := ih (fun i hi => h i (by omega))
    have h2 := h n (Nat.lt_succ_self n)
    simp [Rows.uptoBulkAll]
    omega
theorem fldB_len (f : Fld) : (fldB f).length = f.1.size + f.2.size + 2 := by
  simp only [fldB, List.length_append, List.length_cons, List.length_nil, byL_len]; omega
theorem flat_sum (fl : List Fld) : (fl.flatMap fldB).length = ((List.range fl.length).map fun i => (fl.getD i default).1.size + (fl.getD i default).2.size + 2).sum := by
  induction fl with
  | nil => rfl
  | cons f l ih =>
    rw [List.flatMap_cons, List.length_append, fldB_len, ih, List.length_cons, List.range_succ_eq_map, List.map_cons, List.map_map, List.sum_cons]
    rfl
set_option maxRecDepth 100000 in
theorem flds_bulk {H : Type} {enc : TypeId × Value → H} {W : World} {n : Nat} {v : Value} {x : DataW H × List MemPlace} {fl : List Fld} (h : DataW.trod enc Try.prog W 0 (fun _ => true) true n 27 [v] = some x) (hv : FldsAt W v fl) : (fl.flatMap fldB).length ≤ Rows.uptoBulk x.1 := by
  have hC : Try.prog.cellsOf 54 = 2 := by kernel_rfl
  have hcs1 : Try.prog.cellsOf 9 = 1 := by kernel_rfl
  rcases open_slice Try.underlying27 h with ⟨hcs, hx⟩ | ⟨a, len, cap, m, n, D, Pl, hcs, hb, hl, hm, hmm, hx, hi⟩
  · cases hcs
    have : fl = [] := by
      rcases hv.2 with ⟨_, h0⟩ | ⟨a, c, h0, _⟩
      · exact List.length_eq_zero_iff.1 h0
      · simp at h0
    subst this
    simp
  · cases hcs
    rw [hC] at hi
    obtain ⟨a', c', he, hc', hr⟩ := RdAt.shape hv
    simp only [Value.slice.injEq] at he
    obtain ⟨he1, he2, he3⟩ := he
    subst he2
    have hle : fl.length ≤ m := by rw [hmm]; split <;> omega
    have key : ∀ i, i < fl.length → (fl.getD i default).1.size + (fl.getD i default).2.size + 2 ≤ Rows.uptoBulk (D i) := by
      intro i hi'
      obtain ⟨b, o, ha, hlt, hcell⟩ := hr (by omega)
      obtain ⟨cs', hcc, ht⟩ := hi i (by omega)
      obtain ⟨_, hcl, hat⟩ := World.cells?_some hcc
      obtain ⟨q0, q1⟩ := fldCells_at fl i hi'
      have c0 := hcell _ _ q0
      have c1 := hcell _ _ q1
      rw [ha] at he1
      have he1' := Option.some.inj he1
      subst he1'
      have d0 := hat 0 (by decide)
      have d1 := hat 1 (by decide)
      rw [add_off, add_off] at d0 d1
      rw [Nat.add_zero] at d0
      rw [c0] at d0
      rw [show o + i * 2 + 1 = o + (i * 2 + 1) by omega, c1] at d1
      match cs', hcl with
      | [e0, e1], _ =>
        simp at d0 d1
        subst d0 d1
        obtain ⟨ys, n', hn', hy, hlen, hyl, hf⟩ := DataW.trod_struct Try.underlying54 ht
        have t0 := hf 0 _ rfl
        have t1 := hf 1 _ rfl
        match ys, hyl with
        | [y0, y1], _ =>
          obtain ⟨s0, r0, w0, _⟩ := DataW.trod_string Try.underlying9 t0
          obtain ⟨s1, r1, w1, _⟩ := DataW.trod_string Try.underlying9 t1
          simp [hcs1] at r0 r1
          have hD : D i = .agg [y0.1, y1.1] := by simpa using congrArg Prod.fst hy
          rw [hD, w0, w1, List.getD_eq_getElem?_getD, List.getElem?_eq_getElem hi', Option.getD_some, r0, r1]
          simp only [Rows.uptoBulk, Rows.uptoBulkAll]
          rw [Array.length_toList, Array.length_toList]
          show s0.size + s1.size + 2 ≤ s0.size + 1 + (s1.size + 1 + 0) + 1
          omega
    rw [flat_sum, hx]
    simp only [Rows.uptoBulk]
    have := bulkAll_range D _ _ key
    omega
set_option maxRecDepth 100000 in
theorem al_bulk {H : Type} {enc : TypeId × Value → H} {W : World} {x : Al} {fv v : Value} {d : DataW H} {p : List MemPlace} (h : DataW.Trod enc Try.prog W 0 (fun _ => true) true 32 v d p) (hx : ArgAl W v x fv) : (idB x.src x.fl).length ≤ Rows.uptoBulk d := by
  have hcs : Try.prog.cellsOf 9 = 1 := by kernel_rfl
  have hcf : Try.prog.cellsOf 27 = 1 := by kernel_rfl
  obtain ⟨rfl, hf2, _⟩ := hx
  obtain ⟨fuel, hf0⟩ := h
  have hf1 : DataW.trod enc Try.prog W 0 (fun _ => true) true fuel 32 [.string x.src, fv, .int .i64 x.lv, .int .u32 x.c, .int .i64 x.fr, .int .i64 x.til] = some (d, p) := hf0
  obtain ⟨ys, n', hn', hy, hlen, hyl, hf⟩ := DataW.trod_struct Try.underlying32 hf1
  have t0 := hf 0 _ rfl
  have t1 := hf 1 _ rfl
  match ys, hyl with
  | [y0, y1, y2, y3, y4], _ =>
    obtain ⟨s, q0, w0, z0⟩ := DataW.trod_string Try.underlying9 t0
    simp [hcs] at q0
    have t1' : DataW.trod enc Try.prog W 0 (fun _ => true) true n' 27 [fv] = some y1 := by simpa [hcf] using t1
    have hb := flds_bulk t1' hf2
    have hd : d = .agg [y0.1, y1.1, y2.1, y3.1, y4.1] := by simpa using congrArg Prod.fst hy
    rw [hd, w0]
    have e : (idB x.src x.fl).length = x.src.size + 1 + (x.fl.flatMap fldB).length := by
      unfold idB
      rw [List.length_append, List.length_append, byL_len]; rfl
    have e2 : s.data.toList.length = x.src.size := by rw [q0]; exact len_B s
    rw [e]
    simp only [Rows.uptoBulk, Rows.uptoBulkAll]
    rw [e2]
    omega
theorem upto_all {H : Type} {l : List (DataW H)} (hk : Rows.uptoSmall H l = true) : Rows.uptoBulkAll l ≤ 1048576 := of_decide_eq_true hk
end Go.Proofs.Ytnmgfmmjdiephaa
