/- slices.DeleteFunc at Field, policy.Visible: contracts. -/
import Derived.Test.YtipnhpfpppblhaaAlDel
namespace Go.Proofs.Ytipnhpfpppblhaa
open Go.RowKit

theorem zc_len (n : Nat) : (Builtin.zeroCells (Value.agg #[.string ⟨#[]⟩, .string ⟨#[]⟩]).cells n).toList.length = n * 2 := by simp [Builtin.zeroCells, Value.cells]
theorem zc_cell (n : Nat) : ∀ v ∈ (Builtin.zeroCells (Value.agg #[.string ⟨#[]⟩, .string ⟨#[]⟩]).cells n).toList, v.oneCell' = true := by
  intro v hv
  simp only [Builtin.zeroCells, Value.cells, Array.toList_map, List.mem_map] at hv
  obtain ⟨i, _, rfl⟩ := hv
  have h2 : i % (#[Value.string ⟨#[]⟩, Value.string ⟨#[]⟩] : Array Value).size < 2 := Nat.mod_lt _ (by decide)
  generalize i % (#[Value.string ⟨#[]⟩, Value.string ⟨#[]⟩] : Array Value).size = j at h2
  match j, h2 with
  | 0, _ => rfl
  | 1, _ => rfl
theorem filter_step {p : Fld → Bool} {l : List Fld} {j : Nat} (h : j < l.length) : (l.take (j + 1)).filter (fun x => !p x) = (l.take j).filter (fun x => !p x) ++ (if p l[j] then [] else [l[j]]) := by
  rw [List.take_succ_eq_append_getElem h, List.filter_append]
  congr 1
  cases hp : p l[j] <;> simp [hp]
theorem filter_none {p : Fld → Bool} {l : List Fld} {k : Nat} (hk : k ≤ l.length) (h : ∀ j (hj : j < l.length), j < k → p l[j] = false) : (l.take k).filter (fun x => !p x) = l.take k := by
  rw [List.filter_eq_self]
  intro x hx
  obtain ⟨j, hj, rfl⟩ := List.getElem_of_mem hx
  rw [List.length_take] at hj
  rw [List.getElem_take, h j (by omega) (by omega)]; rfl
theorem row_range {w : World} {g : Nat} {o : Nat} {Y : List Fld} (h : w.rangeAt g o (fldCells Y)) {j : Nat} (hj : j < Y.length) : w.cell? ⟨g, o + j * 2, none⟩ = some (.string Y[j].1) ∧ w.cell? ⟨g, o + j * 2 + 1, none⟩ = some (.string Y[j].2) := by
  obtain ⟨h1, h2⟩ := fldCells_at Y j hj
  exact ⟨h _ _ h1, by have := h _ _ h2; rwa [← Nat.add_assoc] at this⟩
theorem below_put_base {B : Nat} {w W : World} {g j : Nat} {x : Value} (h : Below B w W) (hb : B ≤ g) : Below B w (W.setCell ⟨g, j, none⟩ x) :=
  h.trans ((Below.refl B W).setCell (p := ⟨g, j, none⟩) hb x)
theorem below_puts_base {B : Nat} {w W : World} {g o : Nat} (h : Below B w W) (hb : B ≤ g) : ∀ (vs : List Value), Below B w (W.setCells g o vs) := by
  intro vs
  induction vs generalizing W o with
  | nil => exact h
  | cons v r ih => exact ih (below_put_base h hb)
/-- element i of a row is put -/
theorem row_put {w : World} {g n i : Nat} {Y : List Fld} {x : Fld} (h : w.rangeAt g 0 (fldCells Y)) (ht : w.there g 0 (n * 2)) (hn : Y.length = n) (hi : i < n) :
    ((w.setCell ⟨g, i * 2, none⟩ (.string x.1)).setCell ⟨g, i * 2 + 1, none⟩ (.string x.2)).rangeAt g 0 (fldCells (Y.set i x)) ∧ ((w.setCell ⟨g, i * 2, none⟩ (.string x.1)).setCell ⟨g, i * 2 + 1, none⟩ (.string x.2)).there g 0 (n * 2) := by
  have e : (w.setCell ⟨g, i * 2, none⟩ (.string x.1)).setCell ⟨g, i * 2 + 1, none⟩ (.string x.2) = w.setCells g (i * 2) [.string x.1, .string x.2] := rfl
  rw [e]
  have hti : w.there g (i * 2) 2 := fun j hj => by have := ht (i * 2 + j) (by omega); rwa [Nat.zero_add] at this
  refine ⟨fun j v hj => ?_, World.there_setCells ht g (i * 2) _⟩
  rw [Nat.zero_add]
  have hjl := (List.getElem?_eq_some_iff.1 hj).1
  rw [fldCells_len, List.length_set] at hjl
  have hr := World.rangeAt_setCells_same w g (i * 2) [.string x.1, .string x.2] hti
  obtain ⟨m, r, hr2, rfl⟩ : ∃ m r, r < 2 ∧ j = m * 2 + r := ⟨j / 2, j % 2, Nat.mod_lt _ (by decide), by omega⟩
  obtain ⟨q0, q1⟩ := fldCells_at (Y.set i x) m (by rw [List.length_set]; omega)
  by_cases hm : m = i
  · subst hm
    rw [List.getElem_set_self] at q0 q1
    match r, hr2 with
    | 0, _ => rw [Nat.add_zero] at hj ⊢; rw [q0] at hj; rw [← Option.some.inj hj]; exact hr 0 _ rfl
    | 1, _ => rw [q1] at hj; rw [← Option.some.inj hj]; exact hr 1 _ rfl
  · rw [List.getElem_set_ne (Ne.symm hm)] at q0 q1
    obtain ⟨p0, p1⟩ := row_range h (j := m) (by omega)
    rw [Nat.zero_add] at p0 p1
    match r, hr2 with
    | 0, _ =>
      rw [Nat.add_zero] at hj ⊢; rw [q0] at hj; rw [← Option.some.inj hj]
      rw [World.cell?_setCells_out _ _ _ _ _ (fun _ _ => by simp; omega)]
      exact p0
    | 1, _ =>
      rw [q1] at hj; rw [← Option.some.inj hj]
      rw [World.cell?_setCells_out _ _ _ _ _ (fun _ _ => by simp; omega)]
      exact p1
set_option maxHeartbeats 1600000 in
set_option maxRecDepth 100000 in
theorem del_any (l : List Fld) (p : Fld → Bool) (bp bf bt base : Nat) (v : Value) (w : World) (hown : w.ownsRow base 48 2 v l.length (fldCells l)) (hbase : base ≤ w.heap.size) (hl : l.length ≤ 1000000000000)
    (hp : ∀ W (x : Fld), Below base w W → Calls Try.prog 66 #[.agg #[.string x.1, .string x.2], .pointer (some ⟨bp, 0, none⟩), .pointer (some ⟨bf, 0, none⟩), .pointer (some ⟨bt, 0, none⟩)] W fun e w' => e = .returned (.bool (p x)) ∧ Below W.heap.size W w') :
    Calls Try.prog 65 #[v, .func (.func 66) #[] #[.pointer (some ⟨bp, 0, none⟩), .pointer (some ⟨bf, 0, none⟩), .pointer (some ⟨bt, 0, none⟩)]] w fun e w' =>
      ∃ v', e = .returned v' ∧ FldsAt w' v' (l.filter fun x => !p x) ∧ (∀ q, v'.ownBlock = some q → base ≤ q) ∧ Below base w w' := by
  have hv : FldsAt w v l := RdAt.own hown
  have k1 := idxf_any l p bp bf bt v w hv hl (fun W x hW => hp W x (hW.mono hbase))
  rcases idx_find p default l 0 with ⟨k, hk, h1, _, hpk, hpn⟩ | ⟨h1, _, hpn⟩
  · rw [Nat.zero_add] at h1
    rw [h1] at k1
    rcases hown.2 with ⟨_, h0⟩ | ⟨g, cap, cur, rfl, hgb, hg, hle, hcap, hsz, htk⟩
    · omega
    have hr0 : w.rangeAt g 0 (fldCells l) := by
      obtain ⟨a, c, he, _, hr⟩ := RdAt.shape hv
      obtain ⟨b, o, hb, _, hcell⟩ := hr (by omega)
      cases he
      cases hb
      exact fun j x hj => hcell j x hj
    have ht0 : w.there g 0 (l.length * 2) := fun j hj => by
      refine ⟨World.rangeAt.isSome hr0 j (by rw [fldCells_len]; exact hj), by simp [World.frozen?, hg]⟩
    have hglt : g < w.heap.size := (Array.getElem?_eq_some_iff.1 hg).1
    have hT1 : (l.take k).filter (fun x => !p x) = l.take k := filter_none (by omega) hpn
    have hT2 : l.take k = (l.take (k + 1)).filter (fun x => !p x) := by rw [filter_step hk, hT1, hpk]; simp
    have hk1 : ((k : Int) == -1) = false := by rw [beq_eq_false_iff_ne]; omega
    have HP := Lib.hid hp
    have HT2 := Lib.hid hT2
    have HR0 := Lib.hid hr0
    have HTH0 := Lib.hid ht0
    clear hv hown hp hr0 ht0 hT1 hT2 hpk hpn h1 hg htk hsz
    go_enter Try.func65, Try.ntmps65
    go_wp2_with fail
    refine k1.mono ?_
    rintro e w1 ⟨rfl, hb1⟩
    have HR1 := Lib.hid (range_later HR0.out hb1 hglt)
    have HTH1 := Lib.hid (there_later HTH0.out hb1 hglt)
    have HB1 := Lib.hid (hb1.mono hbase)
    clear k1 HR0 HTH0 hb1
    go_wp2
    go_loopw [5, 6] (fun vi vj wr => ∃ (i j : Nat) (Y : List Fld), vi = .int .i64 i ∧ vj = .int .i64 j ∧ i < j ∧ j ≤ l.length ∧ Hid (Y.length = l.length) ∧ Hid (Y.take i = (l.take j).filter (fun x => !p x)) ∧ Hid (Y.drop j = l.drop j) ∧ Hid (wr.rangeAt g 0 (fldCells Y)) ∧ Hid (wr.there g 0 (l.length * 2)) ∧ Hid (Below base w wr)) (fun _ vj _ => l.length - (intOf vj).toNat)
    case atStart => exact ⟨k, k + 1, l, rfl, by go_num, by omega, by omega, Lib.hid rfl, HT2, Lib.hid rfl, HR1, HTH1, HB1⟩
    case round =>
      clear HR1 HTH1 HB1 HT2
      obtain ⟨i, j, Y, rfl, rfl, hij, hjl, HY, HT, HD, HR, HTH, HB⟩ := hrel
      have hgr : g < wr.heap.size := Nat.lt_of_lt_of_le hglt HB.out.size
      by_cases hjj : j < l.length
      · have hYj : Y[j]'(by have := HY.out; omega) = l[j] := by
          have h := congrArg (fun z => z[0]?) HD.out
          simp only [List.getElem?_drop, Nat.add_zero] at h
          rw [List.getElem?_eq_getElem hjj, List.getElem?_eq_getElem (by have := HY.out; omega)] at h
          exact Option.some.inj h
        obtain ⟨hc0, hc1⟩ := row_range HR.out (j := j) (by have := HY.out; omega)
        rw [hYj] at hc0 hc1
        rw [Nat.zero_add] at hc0 hc1
        obtain ⟨x, hx⟩ : ∃ x, l[j] = x := ⟨_, rfl⟩
        rw [hx] at hc0 hc1
        obtain ⟨x0, x1⟩ := x
        dsimp only at hc0 hc1
        have hba := alloc_below wr (.cells #[.string x0, .string x1] 48)
        have y0 : (wr.alloc (.cells #[.string x0, .string x1] 48)).cell? ⟨wr.heap.size, 0, none⟩ = some (.string x0) := World.cell?_alloc_at _ _ _ _ rfl
        have y1 : (wr.alloc (.cells #[.string x0, .string x1] 48)).cell? ⟨wr.heap.size, 1, none⟩ = some (.string x1) := World.cell?_alloc_at _ _ _ _ rfl
        have HA := Lib.hid (HB.out.trans (hba.mono (Nat.le_trans hbase HB.out.size)))
        have HRa := Lib.hid (range_later HR.out hba hgr)
        have HTa := Lib.hid (there_later HTH.out hba hgr)
        have hga : g < (wr.alloc (.cells #[.string x0, .string x1] 48)).heap.size := Nat.lt_of_lt_of_le hgr hba.size
        have hgw := cell_lt y0
        have HX := Lib.hid hx
        clear hba hYj hx HR HTH HB
        go_upto_region 8 with fail
        change Code.wp _ _ _ _ (wr.alloc (.cells #[.string x0, .string x1] 48))
        generalize wr.alloc (.cells #[.string x0, .string x1] 48) = wa at *
        have kp := HP.out wa (x0, x1) HA.out
        clear hc0 hc1
        obtain ⟨q, hq⟩ : ∃ q, p (x0, x1) = q := ⟨_, rfl⟩
        rw [hq] at kp
        have HQ := Lib.hid hq
        clear hq
        dsimp only at kp
        go_wp2_with fail
        refine kp.mono ?_
        rintro e w2 ⟨rfl, hb2⟩
        have HB2 := Lib.hid (HA.out.trans (hb2.mono (Nat.le_trans hbase HA.out.size)))
        have HR2 := Lib.hid (range_later HRa.out hb2 hga)
        have HT2 := Lib.hid (there_later HTa.out hb2 hga)
        have HD2 : Hid (Y.drop (j + 1) = l.drop (j + 1)) := by
          show _ = _
          have h := congrArg (List.drop 1) HD.out
          rw [List.drop_drop, List.drop_drop] at h
          first | exact h | (rw [Nat.add_comm j 1]; exact h)
        cases q
        · have z0 := keep_cell y0 hb2 hgw
          have z1 := keep_cell y1 hb2 hgw
          obtain ⟨c0, c1⟩ := row_range HR2.out (j := i) (by have := HY.out; omega)
          rw [Nat.zero_add] at c0 c1
          have f0 := there_free HT2.out (i * 2) (by omega)
          have f1 := there_free HT2.out (i * 2 + 1) (by omega)
          clear kp hb2 HRa HTa HA y0 y1
          go_wp2
          go_roundw
          case rel =>
            have hYi : i < Y.length := by have := HY.out; omega
            have hlen : (Y.take i).length = i := by rw [List.length_take]; omega
            refine ⟨i + 1, j + 1, Y.set i (x0, x1), by go_num, by go_num, by omega, by omega, Lib.hid (by rw [List.length_set]; exact HY.out), Lib.hid ?_, Lib.hid ?_, Lib.hid ?_, Lib.hid ?_, Lib.hid ?_⟩
            · rw [filter_step hjj, HX.out, HQ.out, ← HT.out]
              simp only [Bool.false_eq_true, if_false]
              apply List.ext_getElem?
              intro m
              rcases Nat.lt_trichotomy m i with hm | hm | hm
              · rw [List.getElem?_take_of_lt (by omega), List.getElem?_set_ne (by omega), List.getElem?_append_left (by omega), List.getElem?_take_of_lt hm]
              · subst hm
                rw [List.getElem?_take_of_lt (by omega), List.getElem?_set_self hYi, List.getElem?_append_right (by omega), hlen]; simp
              · rw [List.getElem?_take_eq_none (by omega), List.getElem?_eq_none (by simp; omega)]
            · apply List.ext_getElem?
              intro m
              have h := congrArg (fun z => z[m]?) HD2.out
              simp only [List.getElem?_drop] at h ⊢
              rw [List.getElem?_set_ne (by omega)]
              exact h
            · exact (row_put (x := (x0, x1)) HR2.out HT2.out HY.out (by omega)).1
            · exact (row_put (x := (x0, x1)) HR2.out HT2.out HY.out (by omega)).2
            · exact below_put_base (below_put_base HB2.out hgb) hgb
          case measure => (simp [intOf]; try omega)
        · clear kp hb2 HRa HTa HA y0 y1
          go_wp2
          go_roundw
          case rel => exact ⟨i, j + 1, Y, rfl, by go_num, by omega, by omega, HY, Lib.hid (by rw [HT.out, filter_step hjj, HX.out, HQ.out]; simp), HD2, HR2, HT2, HB2⟩
          case measure => (simp [intOf]; try omega)
      · obtain rfl : j = l.length := by omega
        have HZ := Lib.hid (zc_cell (l.length - i))
        have hcl : ∀ ty, (Builtin.clear_ #[31] ty #[.slice (some ⟨g, i * 2, none⟩) (l.length - i) (cap - i)]).run Try.prog wr = .ok (.tuple #[]) (wr.setCells g (i * 2) (Builtin.zeroCells (Value.agg #[.string ⟨#[]⟩, .string ⟨#[]⟩]).cells (l.length - i)).toList) := fun ty =>
          run_clear_row wr 31 48 ty _ Try.underlying31 Try.zeroValue48 g (i * 2) (l.length - i) (cap - i) (by omega) (fun j hj => by
            have := HTH.out (i * 2 + j) (by rw [zc_len] at hj; omega)
            rw [Nat.zero_add] at this
            exact this) (zc_cell _)
        generalize hzc : (Builtin.zeroCells (Value.agg #[.string ⟨#[]⟩, .string ⟨#[]⟩]).cells (l.length - i)).toList = zc at *
        go_wp2
        go_ret
        have hYl : (Y.take i).length = i := by rw [List.length_take, HY.out]; omega
        have hFl : l.filter (fun x => !p x) = Y.take i := by have := HT.out; rw [List.take_length] at this; exact this.symm
        refine ⟨_, rfl, ?_, fun q hq => by (have : g = q := by simpa [Value.ownBlock] using hq); omega, below_puts_base HB.out hgb _⟩
        rw [hFl]
        unfold FldsAt
        rw [hYl, fldCells_take]
        refine RdAt.mk (by rw [List.length_take, fldCells_len, HY.out]; omega) (by omega) ?_ (fun m y hm => ?_)
        · have := (below_puts_base (o := i * 2) HB.out hgb zc).size; omega
        · have hml := (List.getElem?_eq_some_iff.1 hm).1
          rw [List.length_take] at hml
          rw [World.cell?_setCells_out _ _ _ _ _ (fun _ _ => by simp; omega)]
          have := HR.out m y (by rw [List.getElem?_take_of_lt (by omega)] at hm; exact hm)
          exact this
  · rw [h1] at k1
    obtain ⟨a, c, rfl, _, _⟩ := RdAt.shape hv
    have HN : Hid (l.filter (fun x => !p x) = l) := by
      have := filter_none (Nat.le_refl _) (fun j hj _ => hpn j hj) (p := p) (l := l)
      rwa [List.take_length] at this
    have HV := Lib.hid hv
    have HO := Lib.hid (fun q hq => (hown.lt q hq).1)
    clear hv hown hp h1 hpn
    go_enter Try.func65, Try.ntmps65
    go_wp2_with fail
    refine k1.mono ?_
    rintro e w1 ⟨rfl, hb1⟩
    have HV1 := Lib.hid (HV.out.later hb1)
    have HB1 := Lib.hid (hb1.mono hbase)
    clear k1 hb1 HV
    go_wp2
    go_ret
    exact ⟨_, rfl, by rw [HN.out]; exact HV1.out, HO.out, HB1.out⟩
/-- policy.Visible -/
def visL (rs : List Nmd) (fl : List Fld) (f t : Int × Nat) : List Fld := fl.filter (seesL rs f t)
set_option maxHeartbeats 1600000 in
set_option maxRecDepth 100000 in
theorem vis_any (s0 s1 s2 s4 s5 : Option Addr × Nat × Nat) (rs : List Nmd) (rv : Value) (fl : List Fld) (fv : Value) (lv : Int) (c : Nat) (tl : Int) (tc : Nat) (w : World) (hv : NmdsAt w rv rs) (hl : rs.length ≤ maxLen) (hf : FldsAt w fv fl) (hfl : fl.length ≤ 1000000000000) :
    Calls Try.prog 43 #[.agg #[SV s0, SV s1, SV s2, rv, SV s4, SV s5], fv, Lab lv c, Lab tl tc] w fun e w' => ∃ v', e = .returned v' ∧ FldsAt w' v' (visL rs fl (lv, c) (tl, tc)) ∧ (∀ q, v'.ownBlock = some q → w.heap.size ≤ q) ∧ Below w.heap.size w w' := by
  obtain ⟨ra, rc, rfl, _, _⟩ := RdAt.shape hv
  obtain ⟨fa, fc, rfl, _, _⟩ := RdAt.shape hf
  obtain ⟨a0, n0, c0⟩ := s0
  obtain ⟨a1, n1, c1⟩ := s1
  obtain ⟨a2, n2, c2⟩ := s2
  obtain ⟨a4, n4, c4⟩ := s4
  obtain ⟨a5, n5, c5⟩ := s5
  obtain ⟨W0, hW0⟩ : ∃ z, ((w.alloc (.cells #[.slice a0 n0 c0, .slice a1 n1 c1, .slice a2 n2 c2, .slice ra rs.length rc, .slice a4 n4 c4, .slice a5 n5 c5] 26)).alloc (.cells #[.int .i64 lv, .int .u32 c] 34)).alloc (.cells #[.int .i64 tl, .int .u32 tc] 34) = z := ⟨_, rfl⟩
  have hb0 : Below w.heap.size w W0 := by rw [← hW0]; exact ((alloc_below _ _).trans ((alloc_below _ _).mono (by simp))).trans ((alloc_below _ _).mono (by simp; omega))
  have hz : W0.heap.size = w.heap.size + 1 + 1 + 1 := by rw [← hW0]; simp
  have hbb := (Below.refl W0.heap.size W0)
  rw [← hW0] at hbb
  obtain ⟨h1, h2, h3⟩ := box_cells hbb
  obtain ⟨h4, h5, h6, h7⟩ := box_two h3
  rw [hW0] at h1 h4 h5
  simp only [World.size_alloc] at h1
  have hC6 : C6 w.heap.size (SV (a0, n0, c0)) (SV (a1, n1, c1)) (SV (a2, n2, c2)) (.slice ra rs.length rc) (SV (a4, n4, c4)) (SV (a5, n5, c5)) W0 := ⟨h4 0 _ rfl, h4 1 _ rfl, h4 2 _ rfl, h4 3 _ rfl, h4 4 _ rfl, h4 5 _ rfl⟩
  have hf0 := h5 0 _ rfl
  have hf1 := h5 1 _ rfl
  have ht0 := h1 0 _ rfl
  have ht1 := h1 1 _ rfl
  have kp : ∀ W (x : Fld), Below W0.heap.size W0 W → Calls Try.prog 66 #[.agg #[.string x.1, .string x.2], .pointer (some ⟨w.heap.size, 0, none⟩), .pointer (some ⟨w.heap.size + 1, 0, none⟩), .pointer (some ⟨w.heap.size + 1 + 1, 0, none⟩)] W fun e w' => e = .returned (.bool (!seesL rs (lv, c) (tl, tc) x)) ∧ Below W.heap.size W w' := fun W x hW =>
    vis1_any (a0, n0, c0) (a1, n1, c1) (a2, n2, c2) (a4, n4, c4) (a5, n5, c5) rs _ x.1 x.2 w.heap.size (w.heap.size + 1) (w.heap.size + 1 + 1) lv c tl tc W ((hv.later hb0).later hW) hl (hC6.later hW (by omega)) (keep_cell hf0 hW (by omega)) (keep_cell hf1 hW (by omega)) (keep_cell ht0 hW (by omega)) (keep_cell ht1 hW (by omega))
  have kc := cloneF_any fl W0 _ (hf.later hb0) hfl
  have kd : ∀ v' w', w'.ownsRow W0.heap.size 48 2 v' fl.length (fldCells fl) → Below W0.heap.size W0 w' → Calls Try.prog 65 #[v', .func (.func 66) #[] #[.pointer (some ⟨w.heap.size, 0, none⟩), .pointer (some ⟨w.heap.size + 1, 0, none⟩), .pointer (some ⟨w.heap.size + 1 + 1, 0, none⟩)]] w' fun e w2 =>
      ∃ v2, e = .returned v2 ∧ FldsAt w2 v2 (visL rs fl (lv, c) (tl, tc)) ∧ (∀ q, v2.ownBlock = some q → w.heap.size ≤ q) ∧ Below w.heap.size w w2 := fun v' w' h hb => by
    refine (del_any fl (fun x => !seesL rs (lv, c) (tl, tc) x) w.heap.size (w.heap.size + 1) (w.heap.size + 1 + 1) W0.heap.size v' w' h hb.size hfl (fun W x hW => kp W x (hb.trans hW))).mono ?_
    rintro e w2 ⟨v2, rfl, hF, hO, hB⟩
    refine ⟨v2, rfl, ?_, fun q hq => Nat.le_trans hb0.size (hO q hq), hb0.trans ((hb.trans hB).mono hb0.size)⟩
    unfold visL
    simp only [Bool.not_not] at hF
    exact hF
  have KD := Lib.hid kd
  clear kd kp hC6 hf0 hf1 ht0 ht1 h1 h2 h3 h4 h5 h6 h7 hbb hv hf
  go_enter Try.func43, Try.ntmps43
  go_wp2_with fail
  refine kc.mono ?_
  rintro e w1 ⟨v1, rfl, hown, hb1⟩
  have kd := KD.out v1 w1 hown hb1
  clear kc hown hb1 KD
  go_wp2_with fail
  refine kd.mono ?_
  rintro e w2 ⟨v2, rfl, hF, hO, hB⟩
  go_wp2
  go_ret
  exact ⟨_, rfl, hF, hO, hB⟩
end Go.Proofs.Ytipnhpfpppblhaa
