/- MatchPicks: the card: whatever the arguments, the law returns true and its arguments read as they did. No condition. -/
import Derived.Test.YtgbapkechngnmaaGreatU6EP2
import Derived.Shelf.Spec.SlicesInsertGrow
import Derived.Deep.RegionLaw
import Derived.SliceStrings
import Derived.OpenShut
import Derived.Deep.LoopGhost
import Derived.Test.YtgbapkechngnmaaGreatFrame12

/- slices.DeleteFunc at Field, whatever the closure: a contract; what is handed back is a row of its own. -/
namespace Go.Proofs.YtgbapkechngnmaaGreat
open Go.RowKit

structure RowG (w : World) (g cap : Nat) : Prop where
 ex : ∃ cur, w.heap[g]? = some (.cells cur 46 (0, 0)) ∧ cur.size = cap * 2
theorem RowG.later {w w' : World} {g cap : Nat} (h : RowG w g cap) (hb : Below w.heap.size w w') : RowG w' g cap := by
 obtain ⟨cur, h1, h2⟩ := h.ex
 exact ⟨cur, (hb.block g (Array.getElem?_eq_some_iff.1 h1).1).trans h1, h2⟩
theorem RowG.set {w : World} {g cap : Nat} (h : RowG w g cap) (j : Nat) (u : Value) : RowG (w.setCell ⟨g, j, none⟩ u) g cap := by
 obtain ⟨cur, h1, h2⟩ := h.ex
 exact ⟨cur.setIfInBounds j u, heap_setCell_same w g j cur _ u h1, by simpa using h2⟩
theorem RowG.sets {g cap : Nat} : ∀ {w : World} (_ : RowG w g cap) (o : Nat) (vs : List Value), RowG (w.setCells g o vs) g cap
 | _, h, _, [] => h
 | _, h, o, v :: vs => RowG.sets (h.set o v) (o + 1) vs
theorem RowG.own {w : World} {g cap n base : Nat} {xs : List Value} (h : RowG w g cap) (hr : w.rangeAt g 0 xs) (hl : xs.length = n * 2) (hn : n ≤ cap) (hc : cap ≤ maxLen) (hb : base ≤ g) :
  w.ownsRow base 46 2 (.slice (some ⟨g, 0, none⟩) n cap) n xs := by
 obtain ⟨cur, h1, h2⟩ := h.ex
 refine ⟨hl, .inr ⟨g, cap, cur, rfl, hb, h1, hn, hc, h2, ?_⟩⟩
 apply List.ext_getElem?
 intro j
 by_cases hj : j < n * 2
 ·have hx := hr j (xs[j]'(by omega)) (List.getElem?_eq_getElem (by omega))
  rw [Nat.zero_add, cell_of_row _ _ _ _ _ _ h1] at hx
  rw [List.getElem?_take_of_lt hj, List.getElem?_eq_getElem (show j < xs.length by omega), ← hx]
  simp
 ·rw [List.getElem?_take_eq_none (by omega), List.getElem?_eq_none (by omega)]
set_option maxHeartbeats 1600000 in
set_option maxRecDepth 100000 in
theorem del_gen (l : List Fld) (p : Fld → Bool) (cg : Nat) (lb : Array Value) (eg : ∀ args w, (callFunc cg args).run Tryz.prog w = .ok (.enter cg args) w) (base : Nat) (v : Value) (w : World) (hown : w.ownsRow base 46 2 v l.length (fldCells l)) (hbase : base ≤ w.heap.size) (hl : l.length ≤ 1000000000000)
  (hp : ∀ W (x : Fld), Below base w W → Calls Tryz.prog cg (#[.agg #[.string x.1, .string x.2]] ++ lb) W fun e w' => e = .returned (.bool (p x)) ∧ Below W.heap.size W w') :
  Calls Tryz.prog 60 #[v, .func (.func cg) #[] lb] w fun e w' =>
   ∃ v', e = .returned v' ∧ w'.ownsRow base 46 2 v' (l.filter fun x => !p x).length (fldCells (l.filter fun x => !p x)) ∧ Below base w w' := by
 have hv : FldsAt w v l := RdAt.own hown
 have k1 := idxf_gen l p cg lb eg v w hv hl (fun W x hW => hp W x (hW.mono hbase))
 rcases idx_find p default l 0 with ⟨k, hk, h1, _, hpk, hpn⟩ | ⟨h1, _, hpn⟩
 ·rw [Nat.zero_add] at h1
  rw [h1] at k1
  rcases hown.2 with ⟨_, h0⟩ | ⟨g, cap, cur, rfl, hgb, hg, hle, hcap, hsz, htk⟩
  ·omega
  have hr0 : w.rangeAt g 0 (fldCells l) := by
   obtain ⟨a, c, he, _, hr⟩ := RdAt.shape hv
   obtain ⟨b, o, hb, _, hcell⟩ := hr (by omega)
   cases he
   cases hb
   exact fun j x hj => hcell j x hj
  have ht0 : w.there g 0 (l.length * 2) := fun j hj => by
   refine ⟨World.rangeAt.isSome hr0 j (by rw [fldCells_len]; exact hj), by simp [World.frozen?, hg]⟩
  have hglt : g < w.heap.size := (Array.getElem?_eq_some_iff.1 hg).1
  have hT1 : (l.take k).filter (fun x => !p x) = l.take k := filter_none (by omega) hpn
  have hT2 : l.take k = (l.take (k + 1)).filter (fun x => !p x) := by rw [filter_step hk, hT1, hpk]; simp
  have hk1 : ((k : Int) == -1) = false := by rw [beq_eq_false_iff_ne]; omega
  have HP := Lib.hid hp
  have HT2 := Lib.hid hT2
  have HR0 := Lib.hid hr0
  have HG0 : Hid (RowG w g cap) := Lib.hid ⟨cur, hg, hsz⟩
  have HTH0 := Lib.hid ht0
  clear hv hown hp hr0 ht0 hT1 hT2 hpk hpn h1 hg htk hsz
  go_enter Tryz.func60, Tryz.ntmps60
  go_wp2_with fail
  refine k1.mono ?_
  rintro e w1 ⟨rfl, hb1⟩
  have HR1 := Lib.hid (range_later HR0.out hb1 hglt)
  have HG1 := Lib.hid (HG0.out.later hb1)
  have HTH1 := Lib.hid (there_later HTH0.out hb1 hglt)
  have HB1 := Lib.hid (hb1.mono hbase)
  clear k1 HR0 HTH0 HG0 hb1
  go_wp2
  go_loopw [5, 6] (fun vi vj wr => ∃ (i j : Nat) (Y : List Fld), vi = .int .i64 i ∧ vj = .int .i64 j ∧ i < j ∧ j ≤ l.length ∧ Hid (Y.length = l.length) ∧ Hid (Y.take i = (l.take j).filter (fun x => !p x)) ∧ Hid (Y.drop j = l.drop j) ∧ Hid (wr.rangeAt g 0 (fldCells Y)) ∧ Hid (wr.there g 0 (l.length * 2)) ∧ Hid (RowG wr g cap) ∧ Hid (Below base w wr)) (fun _ vj _ => l.length - (intOf vj).toNat)
  case atStart => exact ⟨k, k + 1, l, rfl, by go_num, by omega, by omega, Lib.hid rfl, HT2, Lib.hid rfl, HR1, HTH1, HG1, HB1⟩
  case round =>
   clear HR1 HTH1 HB1 HT2 HG1
   obtain ⟨i, j, Y, rfl, rfl, hij, hjl, HY, HT, HD, HR, HTH, HG, HB⟩ := hrel
   have hgr : g < wr.heap.size := Nat.lt_of_lt_of_le hglt HB.out.size
   by_cases hjj : j < l.length
   ·have hYj : Y[j]'(by have := HY.out; omega) = l[j] := by
     have h := congrArg (fun z => z[0]?) HD.out
     simp only [List.getElem?_drop, Nat.add_zero] at h
     rw [List.getElem?_eq_getElem hjj, List.getElem?_eq_getElem (by have := HY.out; omega)] at h
     exact Option.some.inj h
    obtain ⟨hc0, hc1⟩ := row_range HR.out (j := j) (by have := HY.out; omega)
    rw [hYj] at hc0 hc1
    rw [Nat.zero_add] at hc0 hc1
    obtain ⟨x, hx⟩ : ∃ x, l[j] = x := ⟨_, rfl⟩
    rw [hx] at hc0 hc1
    obtain ⟨x0, x1⟩ := x
    dsimp only at hc0 hc1
    have hba := alloc_below wr (.cells #[.string x0, .string x1] 46)
    have y0 : (wr.alloc (.cells #[.string x0, .string x1] 46)).cell? ⟨wr.heap.size, 0, none⟩ = some (.string x0) := World.cell?_alloc_at _ _ _ _ rfl
    have y1 : (wr.alloc (.cells #[.string x0, .string x1] 46)).cell? ⟨wr.heap.size, 1, none⟩ = some (.string x1) := World.cell?_alloc_at _ _ _ _ rfl
    have HA := Lib.hid (HB.out.trans (hba.mono (Nat.le_trans hbase HB.out.size)))
    have HRa := Lib.hid (range_later HR.out hba hgr)
    have HTa := Lib.hid (there_later HTH.out hba hgr)
    have HGa := Lib.hid (HG.out.later hba)
    have hga : g < (wr.alloc (.cells #[.string x0, .string x1] 46)).heap.size := Nat.lt_of_lt_of_le hgr hba.size
    have hgw := cell_lt y0
    have HX := Lib.hid hx
    clear hba hYj hx HR HTH HB HG
    go_upto_region 8 with fail
    change Code.wp _ _ _ _ (wr.alloc (.cells #[.string x0, .string x1] 46))
    generalize wr.alloc (.cells #[.string x0, .string x1] 46) = wa at *
    have kp := HP.out wa (x0, x1) HA.out
    clear hc0 hc1
    obtain ⟨q, hq⟩ : ∃ q, p (x0, x1) = q := ⟨_, rfl⟩
    rw [hq] at kp
    have HQ := Lib.hid hq
    clear hq
    dsimp only at kp
    go_wp2_with fail
    refine kp.mono ?_
    rintro e w2 ⟨rfl, hb2⟩
    have HB2 := Lib.hid (HA.out.trans (hb2.mono (Nat.le_trans hbase HA.out.size)))
    have HR2 := Lib.hid (range_later HRa.out hb2 hga)
    have HT2 := Lib.hid (there_later HTa.out hb2 hga)
    have HG2 := Lib.hid (HGa.out.later hb2)
    have HD2 : Hid (Y.drop (j + 1) = l.drop (j + 1)) := by
     show _ = _
     have h := congrArg (List.drop 1) HD.out
     rw [List.drop_drop, List.drop_drop] at h
     first | exact h | (rw [Nat.add_comm j 1]; exact h)
    cases q
    ·have z0 := keep_cell y0 hb2 hgw
     have z1 := keep_cell y1 hb2 hgw
     obtain ⟨c0, c1⟩ := row_range HR2.out (j := i) (by have := HY.out; omega)
     rw [Nat.zero_add] at c0 c1
     have f0 := there_free HT2.out (i * 2) (by omega)
     have f1 := there_free HT2.out (i * 2 + 1) (by omega)
     clear kp hb2 HRa HTa HGa HA y0 y1
     go_wp2
     go_roundw
     case rel =>
      have hYi : i < Y.length := by have := HY.out; omega
      have hlen : (Y.take i).length = i := by rw [List.length_take]; omega
      refine ⟨i + 1, j + 1, Y.set i (x0, x1), by go_num, by go_num, by omega, by omega, Lib.hid (by rw [List.length_set]; exact HY.out), Lib.hid ?_, Lib.hid ?_, Lib.hid ?_, Lib.hid ?_, Lib.hid ?_, Lib.hid ?_⟩
      ·rw [filter_step hjj, HX.out, HQ.out, ← HT.out]
       simp only [Bool.false_eq_true, if_false]
       apply List.ext_getElem?
       intro m
       rcases Nat.lt_trichotomy m i with hm | hm | hm
       ·rw [List.getElem?_take_of_lt (by omega), List.getElem?_set_ne (by omega), List.getElem?_append_left (by omega), List.getElem?_take_of_lt hm]
       ·subst hm
        rw [List.getElem?_take_of_lt (by omega), List.getElem?_set_self hYi, List.getElem?_append_right (by omega), hlen]; simp
       ·rw [List.getElem?_take_eq_none (by omega), List.getElem?_eq_none (by simp; omega)]
      ·apply List.ext_getElem?
       intro m
       have h := congrArg (fun z => z[m]?) HD2.out
       simp only [List.getElem?_drop] at h ⊢
       rw [List.getElem?_set_ne (by omega)]
       exact h
      ·exact (row_put (x := (x0, x1)) HR2.out HT2.out HY.out (by omega)).1
      ·exact (row_put (x := (x0, x1)) HR2.out HT2.out HY.out (by omega)).2
      ·exact (HG2.out.set _ _).set _ _
      ·exact below_put_base (below_put_base HB2.out hgb) hgb
     case measure => (simp [intOf]; try omega)
    ·clear kp hb2 HRa HTa HGa HA y0 y1
     go_wp2
     go_roundw
     case rel => exact ⟨i, j + 1, Y, rfl, by go_num, by omega, by omega, HY, Lib.hid (by rw [HT.out, filter_step hjj, HX.out, HQ.out]; simp), HD2, HR2, HT2, HG2, HB2⟩
     case measure => (simp [intOf]; try omega)
   ·obtain rfl : j = l.length := by omega
    have HZ := Lib.hid (zc_cell (l.length - i))
    have hcl : ∀ ty, (Builtin.clear_ #[22] ty #[.slice (some ⟨g, i * 2, none⟩) (l.length - i) (cap - i)]).run Tryz.prog wr = .ok (.tuple #[]) (wr.setCells g (i * 2) (Builtin.zeroCells (Value.agg #[.string ⟨#[]⟩, .string ⟨#[]⟩]).cells (l.length - i)).toList) := fun ty =>
     run_clear_row wr 22 46 ty _ Tryz.underlying22 Tryz.zeroValue46 g (i * 2) (l.length - i) (cap - i) (by omega) (fun j hj => by
      have := HTH.out (i * 2 + j) (by rw [zc_len] at hj; omega)
      rw [Nat.zero_add] at this
      exact this) (zc_cell _)
    generalize hzc : (Builtin.zeroCells (Value.agg #[.string ⟨#[]⟩, .string ⟨#[]⟩]).cells (l.length - i)).toList = zc at *
    go_wp2
    go_ret
    have hYl : (Y.take i).length = i := by rw [List.length_take, HY.out]; omega
    have hFl : l.filter (fun x => !p x) = Y.take i := by have := HT.out; rw [List.take_length] at this; exact this.symm
    refine ⟨_, rfl, ?_, below_puts_base HB.out hgb _⟩
    rw [hFl, hYl, fldCells_take]
    refine (HG.out.sets _ _).own ?_ (by rw [List.length_take, fldCells_len, HY.out]; omega) (by omega) hcap hgb
    intro m y hm
    have hml := (List.getElem?_eq_some_iff.1 hm).1
    rw [List.length_take] at hml
    rw [World.cell?_setCells_out _ _ _ _ _ (fun _ _ => by simp; omega)]
    exact HR.out m y (by rw [List.getElem?_take_of_lt (by omega)] at hm; exact hm)
 ·rw [h1] at k1
  obtain ⟨a, c, rfl, _, _⟩ := RdAt.shape hv
  have HN : Hid (l.filter (fun x => !p x) = l) := by
   have := filter_none (Nat.le_refl _) (fun j hj _ => hpn j hj) (p := p) (l := l)
   rwa [List.take_length] at this
  have HV := Lib.hid hown
  clear hv hown hp h1 hpn
  go_enter Tryz.func60, Tryz.ntmps60
  go_wp2_with fail
  refine k1.mono ?_
  rintro e w1 ⟨rfl, hb1⟩
  have HV1 := Lib.hid (own_later HV.out hb1)
  have HB1 := Lib.hid (hb1.mono hbase)
  clear k1 hb1 HV
  go_wp2
  go_ret
  exact ⟨_, rfl, by rw [HN.out]; exact HV1.out, HB1.out⟩
end Go.Proofs.YtgbapkechngnmaaGreat
/- slices.Insert of one field: a contract: whatever room there is. -/
namespace Go.Proofs.YtgbapkechngnmaaGreat
open Go.RowKit

/-! plain -/
theorem fldCells_app (a b : List Fld) : fldCells (a ++ b) = fldCells a ++ fldCells b := by
 induction a with
 | nil => rfl
 | cons f a ih => simp [fldCells, ih]
theorem fldCells_drop (l : List Fld) (i : Nat) : fldCells (l.drop i) = (fldCells l).drop (i * 2) := by
 induction l generalizing i with
 | nil => simp [fldCells]
 | cons f l ih =>
  cases i with
  | zero => simp
  | succ i =>
   rw [List.drop_succ_cons, ih, fldCells]
   rw [show (i + 1) * 2 = i * 2 + 2 by omega]
   simp
theorem run_copy_flds {P : Program} (w : World) (dT sT ty elem : TypeId) (b o dLen dCap : Nat) (a : Addr) (sLen sCap n size : Nat) (cs : List Value)
  (hu : P.underlying dT = some (.slice elem)) (hs : (P.info? elem).map (·.size) = some size) (hn : Nat.min sLen dLen = n) (hcl : cs.length = n * size)
  (hsrc : ∀ j v, cs[j]? = some v → w.cell? (a.add j) = some v) (hc : ∀ j, j < cs.length → (w.cell? ⟨b, o + j, none⟩).isSome = true) (hf : ∀ j, j < cs.length → w.frozen? ⟨b, o + j, none⟩ = false) (h1 : ∀ v ∈ cs, v.oneCell' = true) :
  (Builtin.copy_ #[dT, sT] ty #[.slice (some ⟨b, o, none⟩) dLen dCap, .slice (some a) sLen sCap]).run P w = .ok (goInt n) (w.setCells b o cs) := by
 have hl := run_loadCells_list (P := P) w a cs hsrc
 have hst := run_storeCells_cells (P := P) b o cs 0 w (by simpa using hc) (by simpa using hf) h1
 cases hq : P.info? elem with
 | none => simp [hq] at hs
 | some i =>
  have hi : i.size = size := by simpa [hq] using hs
  simp [Builtin.copy_, run_underlying hu, Builtin.lenOf, Builtin.firstCells, sizeOf, typeInfo, hq, hi, hn, ← hcl, hl, hst]
theorem ins_cells {W : World} {g : Nat} {A V D : List Value} (hA : ∀ j v, A[j]? = some v → W.cell? ⟨g, j, none⟩ = some v)
  (hs : ∀ j, j < A.length + V.length + D.length → (W.cell? ⟨g, j, none⟩).isSome = true) :
  ∀ j v, (A ++ (V ++ D))[j]? = some v → ((W.setCells g (A.length + V.length) D).setCells g A.length V).cell? ⟨g, j, none⟩ = some v := by
 intro j v hj
 by_cases h1 : j < A.length
 ·rw [List.getElem?_append_left h1] at hj
  rw [World.cell?_setCells_out _ _ _ _ _ (fun _ _ => by dsimp only; omega), World.cell?_setCells_out _ _ _ _ _ (fun _ _ => by dsimp only; omega)]
  exact hA j v hj
 ·rw [List.getElem?_append_right (by omega)] at hj
  obtain ⟨k, rfl⟩ : ∃ k, j = A.length + k := ⟨j - A.length, by omega⟩
  rw [Nat.add_sub_cancel_left] at hj
  by_cases h2 : k < V.length
  ·rw [List.getElem?_append_left h2, List.getElem?_eq_getElem h2] at hj
   rw [World.cell?_setCells_in g V A.length _ (fun t ht => isSome_setCells _ _ _ _ (fun u hu => hs _ (by omega)) _ (hs _ (by omega))) k h2, hj]
  ·rw [List.getElem?_append_right (by omega)] at hj
   obtain ⟨m, rfl⟩ : ∃ m, k = V.length + m := ⟨k - V.length, by omega⟩
   rw [Nat.add_sub_cancel_left] at hj
   have hm := (List.getElem?_eq_some_iff.1 hj).1
   rw [List.getElem?_eq_getElem hm] at hj
   rw [World.cell?_setCells_out _ _ _ _ _ (fun _ _ => by dsimp only; omega), ← Nat.add_assoc, World.cell?_setCells_in g D (A.length + V.length) _ (fun t ht => hs _ (by omega)) m hm, hj]
theorem ins_cells' {W : World} {g : Nat} {A V D : List Value} (hA : ∀ j v, A[j]? = some v → W.cell? ⟨g, j, none⟩ = some v)
  (hs : ∀ j, j < A.length + V.length + D.length → (W.cell? ⟨g, j, none⟩).isSome = true) :
  ∀ j v, (A ++ (V ++ D))[j]? = some v → ((W.setCells g A.length V).setCells g (A.length + V.length) D).cell? ⟨g, j, none⟩ = some v := by
 intro j v hj
 by_cases h1 : j < A.length
 ·rw [List.getElem?_append_left h1] at hj
  rw [World.cell?_setCells_out _ _ _ _ _ (fun _ _ => by dsimp only; omega), World.cell?_setCells_out _ _ _ _ _ (fun _ _ => by dsimp only; omega)]
  exact hA j v hj
 ·rw [List.getElem?_append_right (by omega)] at hj
  obtain ⟨k, rfl⟩ : ∃ k, j = A.length + k := ⟨j - A.length, by omega⟩
  rw [Nat.add_sub_cancel_left] at hj
  by_cases h2 : k < V.length
  ·rw [List.getElem?_append_left h2, List.getElem?_eq_getElem h2] at hj
   rw [World.cell?_setCells_out _ _ _ _ _ (fun _ _ => by dsimp only; omega), World.cell?_setCells_in g V A.length _ (fun t ht => hs _ (by omega)) k h2, hj]
  ·rw [List.getElem?_append_right (by omega)] at hj
   obtain ⟨m, rfl⟩ : ∃ m, k = V.length + m := ⟨k - V.length, by omega⟩
   rw [Nat.add_sub_cancel_left] at hj
   have hm := (List.getElem?_eq_some_iff.1 hj).1
   rw [List.getElem?_eq_getElem hm] at hj
   rw [← Nat.add_assoc, World.cell?_setCells_in g D (A.length + V.length) _ (fun t ht => isSome_setCells _ _ _ _ (fun u hu => hs _ (by omega)) _ (hs _ (by omega))) m hm, hj]
theorem ovl_fn : (Tryz.prog.funcs[81]?.map fun fn => (fn.name == "runtime.NumGoroutine", fn.body.isNone, (Extern.findNext fn).isNone)) = some (false, true, true) := by kernel_rfl
theorem ovl_ext : (Tryz.prog.funcs[81]?.bind Extern.find) = some (Extern.SlicesOverlaps.overlaps #[22, 22] #[4]) := by kernel_rfl
theorem ovl_is (w : World) (a b : Addr) (la ca lb cb : Nat) (hne : a.block ≠ b.block) (tA tB : TypeId) (kA kB : Nat)
  (hsa : w.shape? a.block = some (tA, kA)) (hsb : w.shape? b.block = some (tB, kB)) (hkB : kB ≠ 0)
  (hfa : w.frozen? a = false) (hfe : w.frozen? { block := a.block, off := kA } = false) :
  (callFunc 81 #[.slice (some a) la ca, .slice (some b) lb cb]).run Tryz.prog w = .ok (.value (.bool false)) w := by
 have h1 := ovl_fn
 have h2 := ovl_ext
 cases hf : Tryz.prog.funcs[81]? with
 | none => rw [hf] at h1; cases h1
 | some fn =>
  rw [hf] at h1 h2
  simp only [Option.map_some, Option.some.injEq, Prod.mk.injEq, Option.bind_some] at h1 h2
  obtain ⟨e1, e2, e3⟩ := h1
  rw [run_callFunc_extern hf e1 e2 (Option.isNone_iff_eq_none.1 e3) h2,
   Lib.run_overlaps_apart w 22 4 46 Tryz.underlying22 2 Tryz.sizeOf46 a b la ca lb cb hne tA tB kA kB hsa hsb hkB hfa hfe]
  rfl
set_option maxHeartbeats 3200000 in
set_option maxRecDepth 100000 in
theorem ins_end (l : List Fld) (x : Fld) (base vb : Nat) (v : Value) (w : World) (hown : w.ownsRow base 46 2 v l.length (fldCells l)) (hbase : base ≤ w.heap.size) (hl : l.length ≤ 1000000)
  (hx : w.heap[vb]? = some (.cells #[.string x.1, .string x.2] 46 (0, 0))) :
  Calls Tryz.prog 59 #[v, .int .i64 l.length, .slice (some ⟨vb, 0, none⟩) 1 1] w fun e w' => ∃ v', e = .returned v' ∧ FldsAt w' v' (l ++ [x]) ∧ Below base w w' := by
 obtain ⟨i0, hi0, hz0, hz1, hz2⟩ := info_parts info_fld
 obtain ⟨a, c, rfl, hc, _⟩ := RdAt.shape (RdAt.own hown)
 have hrow : RdAt w (.slice (some ⟨vb, 0, none⟩) 1 1) 1 2 [.string x.1, .string x.2] := RdAt.mk rfl (Nat.le_refl _) (Array.getElem?_eq_some_iff.1 hx).1 (fun j y hj => by
  rw [Nat.zero_add, cell_of_row _ _ _ _ _ _ hx]; simpa using hj)
 have hone : ∀ y ∈ ([.string x.1, .string x.2] : List Value), y.oneCell' = true := by
  intro y hy
  simp at hy
  rcases hy with rfl | rfl <;> rfl
 have hn0 : (0 : Int) ≤ (l.length : Int) := by omega
 go_enter Tryz.func59, Tryz.ntmps59
 go_wp2_with (at_builtin; (refine wpList_append_rd rfl (.tmp 23) (.tmp 24) 22 rfl base 46 i0 (.agg #[.string ⟨#[]⟩, .string ⟨#[]⟩]) 2 32 Tryz.underlying22 hi0 hz0 hz1 hz2 rfl (by decide) _ l.length (fldCells l) rfl hown _ 1 _ rfl hrow hone (by unfold maxLen; omega) (by omega) hbase ?_); intro v' w6 hown6 hgrow6; have HO6 := Lib.hid hown6; have HB6 := Lib.hid ((Below.refl base w).grown hgrow6 hbase (fun q hq => (hown.lt q hq).1)); clear hown6 hgrow6)
 all_goals
  go_ret
  exact ⟨_, rfl, by
   have := RdAt.own HO6.out
   unfold FldsAt
   rw [List.length_append, fldCells_app]
   exact this, HB6.out⟩
set_option maxHeartbeats 3200000 in
set_option maxRecDepth 100000 in
theorem ins_shift (l : List Fld) (i : Nat) (x : Fld) (base g cap vb : Nat) (w : World) (hown : w.ownsRow base 46 2 (.slice (some ⟨g, 0, none⟩) l.length cap) l.length (fldCells l)) (hi : i < l.length) (hl : l.length ≤ 1000000)
  (hx : w.heap[vb]? = some (.cells #[.string x.1, .string x.2] 46 (0, 0))) (hvb : vb ≠ g) (hroom : l.length + 1 ≤ cap) :
  Calls Tryz.prog 59 #[.slice (some ⟨g, 0, none⟩) l.length cap, .int .i64 i, .slice (some ⟨vb, 0, none⟩) 1 1] w fun e w' => ∃ v', e = .returned v' ∧ FldsAt w' v' (l.take i ++ x :: l.drop i) ∧ Below base w w' := by
 rcases hown.2 with ⟨h, _⟩ | ⟨g', cap', cur, he, hgb, hg, hle, hcap, hsz, htk⟩
 ·cases h
 obtain ⟨rfl, rfl⟩ : g' = g ∧ cap' = cap := by injection he with h1 _ h3; injection h1 with h1; injection h1 with h1; exact ⟨h1.symm, h3.symm⟩
 obtain ⟨i0, hi0, hz0, hz1, hz2⟩ := info_parts info_fld
 unfold maxLen at hcap
 have hglt : g' < w.heap.size := (Array.getElem?_eq_some_iff.1 hg).1
 have hcs : ∀ j v, (fldCells l)[j]? = some v → w.cell? ⟨g', j, none⟩ = some v := fun j v hj => by
  rw [cell_of_row _ _ _ _ _ _ hg]
  rw [← htk] at hj
  have hj2 := (List.getElem?_eq_some_iff.1 hj).1
  rw [List.length_take] at hj2
  rw [List.getElem?_take_of_lt (by omega)] at hj
  simpa using hj
 have hsp : ∀ j, j < (l.length + 1) * 2 → (w.cell? ⟨g', j, none⟩).isSome = true := fun j hj => by
  rw [cell_of_row _ _ _ _ _ _ hg, Array.getElem?_eq_getElem (by omega)]; rfl
 have hfz : ∀ j, w.frozen? ⟨g', j, none⟩ = false := fun j => frozen_of_row w g' j cur _ hg
 have hxs : ∀ j v, ([.string x.1, .string x.2] : List Value)[j]? = some v → w.cell? ⟨vb, j, none⟩ = some v := fun j v hj => by
  rw [cell_of_row _ _ _ _ _ _ hx]; simpa using hj
 have hxf : ∀ j, w.frozen? ⟨vb, j, none⟩ = false := fun j => frozen_of_row w vb j _ _ hx
 have h1v : ∀ y ∈ ([.string x.1, .string x.2] : List Value), y.oneCell' = true := by
  intro y hy
  simp at hy
  rcases hy with rfl | rfl <;> rfl
 have hnz1 : ¬ ((i : Int) = (l.length : Int)) := by omega
 have hnz2 : ¬ (cap' : Int) < (l.length : Int) + 1 := by omega
 have hsize : (Tryz.prog.info? 46).map (·.size) = some 2 := by rw [hi0]; simp [hz1]
 have hdl : (fldCells (l.drop i)).length = (l.length - i) * 2 := by rw [fldCells_len, List.length_drop]
 obtain ⟨tA, kA, hsa, _⟩ := World.shape?_of_cell? (hxs 0 _ rfl)
 obtain ⟨tB, kB, hsb, hkB, _⟩ := World.shape?_of_cell? (hcs 0 _ (List.getElem?_eq_getElem (by rw [fldCells_len]; omega)))
 have hov : ∀ lb cb, (callFunc 81 #[.slice (some ⟨vb, 0, none⟩) 1 1, .slice (some ⟨g', (i + 1) * 2, none⟩) lb cb]).run Tryz.prog w = .ok (.value (.bool false)) w := fun lb cb =>
  ovl_is w ⟨vb, 0, none⟩ ⟨g', (i + 1) * 2, none⟩ 1 1 lb cb hvb tA tB kA kB hsa hsb (by dsimp only at hkB; omega) (hxf 0) (hxf kA)
 have hcp1 : ∀ ty dc sc, (Builtin.copy_ #[22, 22] ty #[.slice (some ⟨g', (i + 1) * 2, none⟩) (l.length - i) dc, .slice (some ⟨g', i * 2, none⟩) (l.length + 1 - i) sc]).run Tryz.prog w.drew = .ok (goInt (l.length - i : Nat)) (w.drew.setCells g' ((i + 1) * 2) (fldCells (l.drop i))) := fun ty dc sc =>
  run_copy_flds w.drew _ _ ty 46 g' ((i + 1) * 2) _ dc ⟨g', i * 2, none⟩ _ sc (l.length - i) 2 _ Tryz.underlying22 hsize (by simp only [Nat.min_def]; split <;> omega) hdl
   (fun j v hj => by
    rw [Addr.add_lit]
    rw [fldCells_drop, List.getElem?_drop] at hj
    exact hcs _ v hj)
   (fun j hj => hsp _ (by rw [hdl] at hj; omega)) (fun j _ => hfz _) (fld_cells1 _)
 obtain ⟨W1, hW1⟩ : ∃ W1, W1 = w.drew.setCells g' ((i + 1) * 2) (fldCells (l.drop i)) := ⟨_, rfl⟩
 have hcp2 : ∀ (W : World), (∀ x, W.cell? x = W1.cell? x) → (∀ x, W.frozen? x = W1.frozen? x) → ∀ ty dc, (Builtin.copy_ #[22, 22] ty #[.slice (some ⟨g', i * 2, none⟩) (l.length + 1 - i) dc, .slice (some ⟨vb, 0, none⟩) 1 1]).run Tryz.prog W = .ok (goInt (1 : Nat)) (W.setCells g' (i * 2) [.string x.1, .string x.2]) := fun W hWc hWf ty dc =>
  run_copy_flds W _ _ ty 46 g' (i * 2) _ dc ⟨vb, 0, none⟩ 1 1 1 2 _ Tryz.underlying22 hsize (by simp only [Nat.min_def]; split <;> omega) rfl
   (fun j v hj => by
    rw [Addr.add_lit, hWc, hW1, World.cell?_setCells_out _ _ _ _ _ (fun h _ => absurd h hvb), Nat.zero_add]
    exact hxs j v hj)
   (fun j hj => by
    rw [hWc, hW1]
    simp only [List.length_cons, List.length_nil] at hj
    exact isSome_setCells g' (fldCells (l.drop i)) ((i + 1) * 2) w.drew (fun t ht => hsp _ (by rw [hdl] at ht; omega)) (i * 2 + j) (hsp _ (by omega)))
   (fun j hj => by rw [hWf, hW1, World.frozen?_setCells]; exact hfz _) h1v
 rw [← hW1] at hcp1
 have hcapi : ¬ cap' = i + 1 := by omega
 have hcapi2 : ¬ cap' = i := by omega
 have hwr1 : IntKind.i64.wrap ((i : Int) + 1) = (i : Int) + 1 := wrap_succ i (by omega)
 have hA : (fldCells (l.take i)).length = i * 2 := by rw [fldCells_len, List.length_take]; omega
 have hq1 : (0 : Int) ≤ (i : Int) + 1 := by omega
 have hq2 : i ≤ l.length := by omega
 have hq3 : (i : Int) ≤ (l.length : Int) + 1 := by omega
 have hq4 : (i : Int) + 1 ≤ (l.length : Int) + 1 := by omega
 have HEND : Hid (∀ W2, W2 = W1.setCells g' (i * 2) [.string x.1, .string x.2] → FldsAt W2 (.slice (some ⟨g', 0, none⟩) (l.length + 1) cap') (l.take i ++ x :: l.drop i) ∧ Below base w W2) := Lib.hid (fun W2 hW2 => by
  subst hW2
  have hbl : Below base w (W1.setCells g' (i * 2) [.string x.1, .string x.2]) := by
   rw [hW1]
   exact below_puts_base (below_puts_base (Below.refl _ _).drew hgb _) hgb _
  refine ⟨?_, hbl⟩
  have hlen : (l.take i ++ x :: l.drop i).length = l.length + 1 := by simp; omega
  unfold FldsAt
  rw [hlen]
  refine RdAt.mk (by rw [fldCells_len, hlen]) (by omega) (Nat.lt_of_lt_of_le hglt hbl.size) (fun j y hj => ?_)
  rw [fldCells_app] at hj
  have hj' : (fldCells (l.take i) ++ ([.string x.1, .string x.2] ++ fldCells (l.drop i)))[j]? = some y := hj
  have hc := ins_cells (W := w.drew) (g := g') (A := fldCells (l.take i)) (V := [.string x.1, .string x.2]) (D := fldCells (l.drop i)) (fun m u hm => hcs m u (by
   rw [fldCells_take] at hm
   have := (List.getElem?_eq_some_iff.1 hm).1
   rw [List.length_take] at this
   rwa [List.getElem?_take_of_lt (by omega)] at hm)) (fun m hm => hsp m (by
    rw [hA, hdl] at hm
    simp only [List.length_cons, List.length_nil] at hm
    omega)) j y hj'
  rw [hA, show i * 2 + ([.string x.1, .string x.2] : List Value).length = (i + 1) * 2 by simp only [List.length_cons, List.length_nil]; omega, ← hW1] at hc
  rw [Nat.zero_add]
  exact hc)
 clear hown he hcs hsp hfz hxs hxf h1v hsize hsa hsb hA hg htk hx
 go_enter Tryz.func59, Tryz.ntmps59
 go_wp2_with (simp only [hov])
 go_region_law (refine step_copy_runI rfl _ _ 22 22 rfl _ _ (by simp [Act.eval, Act.put]) (by simp [Act.eval, Act.put]) (hcp1 _ _ _) ?_)
 go_wp2_with (at_builtin; refine wpList_copy_runI _ rfl _ _ 22 22 rfl _ _ rfl rfl (hcp2 _ (fun _ => rfl) (fun _ => rfl) _ _) ?_)
 go_ret
 exact ⟨_, rfl, HEND.out _ (by rw [hW1])⟩
set_option maxHeartbeats 3200000 in
set_option maxRecDepth 100000 in
theorem ins_grow (l : List Fld) (i : Nat) (x : Fld) (base g cap vb : Nat) (w : World) (hown : w.ownsRow base 46 2 (.slice (some ⟨g, 0, none⟩) l.length cap) l.length (fldCells l)) (hbase : base ≤ w.heap.size) (hi : i < l.length) (hl : l.length ≤ 1000000)
  (hx : w.heap[vb]? = some (.cells #[.string x.1, .string x.2] 46 (0, 0))) (hroom : cap < l.length + 1) :
  Calls Tryz.prog 59 #[.slice (some ⟨g, 0, none⟩) l.length cap, .int .i64 i, .slice (some ⟨vb, 0, none⟩) 1 1] w fun e w' => ∃ v', e = .returned v' ∧ FldsAt w' v' (l.take i ++ x :: l.drop i) ∧ Below base w w' := by
 have hcs : ∀ j v, (fldCells l)[j]? = some v → w.cell? ⟨g, j, none⟩ = some v := fun j v hj => by
  have := (hown.cells rfl) j v hj
  rwa [Addr.add_lit, Nat.zero_add] at this
 have hcapl : l.length ≤ cap := by
  obtain ⟨_, _, he, h, _⟩ := RdAt.shape (RdAt.own hown)
  injection he with _ _ h3
  omega
 have hglt : g < w.heap.size := (hown.lt g rfl).2
 obtain ⟨i0, hi0, hz0, hz1, hz2⟩ := info_parts info_fld
 have hvlt : vb < w.heap.size := (Array.getElem?_eq_some_iff.1 hx).1
 have hxs : ∀ j v, ([.string x.1, .string x.2] : List Value)[j]? = some v → w.cell? ⟨vb, j, none⟩ = some v := fun j v hj => by
  rw [cell_of_row _ _ _ _ _ _ hx]; simpa using hj
 have h1v : ∀ y ∈ ([.string x.1, .string x.2] : List Value), y.oneCell' = true := by
  intro y hy
  simp at hy
  rcases hy with rfl | rfl <;> rfl
 have hnz1 : ¬ ((i : Int) = (l.length : Int)) := by omega
 have hnz2 : (cap : Int) < (l.length : Int) + 1 := by omega
 have hsize : (Tryz.prog.info? 46).map (·.size) = some 2 := by rw [hi0]; simp [hz1]
 have hdl : (fldCells (l.drop i)).length = (l.length - i) * 2 := by rw [fldCells_len, List.length_drop]
 have hA : (fldCells (l.take i)).length = i * 2 := by rw [fldCells_len, List.length_take]; omega
 have hcsA : ∀ j v, (fldCells (l.take i))[j]? = some v → w.cell? ⟨g, j, none⟩ = some v := fun j v hj => by
  rw [fldCells_take] at hj
  have := (List.getElem?_eq_some_iff.1 hj).1
  rw [List.length_take] at this
  rw [List.getElem?_take_of_lt (by omega)] at hj
  exact hcs j v hj
 have hold : (Builtin.firstCells i0.size i (.slice (some ⟨g, 0, none⟩) i cap)).run Tryz.prog w.drew = .ok (fldCells (l.take i)).toArray w.drew := by
  rw [hz1]
  exact run_firstCells_some w.drew 2 i ⟨g, 0, none⟩ i cap _ hA (fun j v hj => by
   rw [Addr.add_lit, Nat.zero_add]
   exact hcsA j v hj)
 have hkk : (l.length : Int) + 1 - (i : Int) = ((l.length + 1 - i : Nat) : Int) := by omega
 have hik : i + (l.length + 1 - i) = l.length + 1 := by omega
 have hrz : ∀ ty, (Builtin.append_ #[22, 3] ty #[.slice (some ⟨g, 0, none⟩) i cap, .int .i64 ((l.length : Int) + 1 - (i : Int))]).run Tryz.prog w =
   .ok (.slice (some ⟨w.heap.size, 0, none⟩) (l.length + 1) (grownCap w (l.length + 1) cap 46)) (w.drew.alloc (.cells ((fldCells (l.take i)).toArray ++ Builtin.zeroCells (Value.agg #[.string ⟨#[]⟩, .string ⟨#[]⟩]).cells (l.length + 1 - i) ++ Builtin.zeroCells (Value.agg #[.string ⟨#[]⟩, .string ⟨#[]⟩]).cells (grownCap w (l.length + 1) cap 46 - (l.length + 1))) 46)) := fun ty => by
  have h := Lib.run_append_grow_zeros w 22 3 ty 46 i0 _ .i64 .i64 Tryz.underlying22 Tryz.underlying3 hi0 hz0 (some ⟨g, 0, none⟩) i cap _ hold (l.length + 1 - i) (by omega) (by omega) (by omega) (by omega) (by rw [hz2]; omega) (by rw [hz2, hik]; exact growslice_fits hroom (by omega))
  rw [hik] at h
  rw [hkk]
  exact h
 obtain ⟨G, hG⟩ : ∃ G, G = grownCap w (l.length + 1) cap 46 := ⟨_, rfl⟩
 obtain ⟨ROW, hROW⟩ : ∃ ROW : Array Value, ROW = (fldCells (l.take i)).toArray ++ Builtin.zeroCells (Value.agg #[.string ⟨#[]⟩, .string ⟨#[]⟩]).cells (l.length + 1 - i) ++ Builtin.zeroCells (Value.agg #[.string ⟨#[]⟩, .string ⟨#[]⟩]).cells (G - (l.length + 1)) := ⟨_, rfl⟩
 rw [← hG, ← hROW] at hrz
 have hz2l : ∀ n, (Builtin.zeroCells (Value.agg #[.string ⟨#[]⟩, .string ⟨#[]⟩]).cells n).size = n * 2 := fun n => by rw [← zc_len n, Array.length_toList]
 have hRl : (l.length + 1) * 2 ≤ ROW.size := by
  rw [hROW, Array.size_append, Array.size_append, hz2l, hz2l, List.size_toArray, hA]
  omega
 have hRA : ∀ j v, (fldCells (l.take i))[j]? = some v → ROW[j]? = some v := fun j v hj => by
  have hjl := (List.getElem?_eq_some_iff.1 hj).1
  rw [hROW, Array.append_assoc, Array.getElem?_append_left (by rw [List.size_toArray]; exact hjl)]
  simpa using hj
 obtain ⟨W1, hW1⟩ : ∃ W1, W1 = w.drew.alloc (.cells ROW 46) := ⟨_, rfl⟩
 rw [← hW1] at hrz
 have hNc : ∀ j, W1.cell? ⟨w.heap.size, j, none⟩ = ROW[j]? := fun j => by rw [hW1]; exact World.cell?_alloc_at (w := w.drew) ROW _ w.heap.size j rfl
 have hN : ∀ j, j < (l.length + 1) * 2 → (W1.cell? ⟨w.heap.size, j, none⟩).isSome = true := fun j hj => by
  rw [hNc, Array.getElem?_eq_getElem (by omega)]; rfl
 have hNf : ∀ j, W1.frozen? ⟨w.heap.size, j, none⟩ = false := fun j => by rw [hW1]; exact World.frozen?_alloc_at (w := w.drew) ROW _ w.heap.size j rfl
 have hOb : ∀ j v, w.cell? ⟨g, j, none⟩ = some v → W1.cell? ⟨g, j, none⟩ = some v := fun j v h => by rw [hW1, World.cell?_alloc_past (w := w.drew) _ g j hglt]; exact h
 have hOv : ∀ j v, w.cell? ⟨vb, j, none⟩ = some v → W1.cell? ⟨vb, j, none⟩ = some v := fun j v h => by rw [hW1, World.cell?_alloc_past (w := w.drew) _ vb j hvlt]; exact h
 have hcpA : ∀ (W : World), (∀ x, W.cell? x = W1.cell? x) → (∀ x, W.frozen? x = W1.frozen? x) → ∀ ty dc, (Builtin.copy_ #[22, 22] ty #[.slice (some ⟨w.heap.size, i * 2, none⟩) (l.length + 1 - i) dc, .slice (some ⟨vb, 0, none⟩) 1 1]).run Tryz.prog W = .ok (goInt (1 : Nat)) (W.setCells w.heap.size (i * 2) [.string x.1, .string x.2]) := fun W hWc hWf ty dc =>
  run_copy_flds W _ _ ty 46 w.heap.size (i * 2) _ dc ⟨vb, 0, none⟩ 1 1 1 2 _ Tryz.underlying22 hsize (by simp only [Nat.min_def]; split <;> omega) rfl
   (fun j v hj => by rw [Addr.add_lit, hWc, Nat.zero_add]; exact hOv _ v (hxs j v hj))
   (fun j hj => by
    simp only [List.length_cons, List.length_nil] at hj
    rw [hWc]; exact hN _ (by omega)) (fun j hj => by rw [hWf]; exact hNf _) h1v
 have hGn : l.length + 1 ≤ G := by rw [hG]; exact grownCap_ge w _ _ _
 have hG63 : G ≤ 9223372036854775807 := by
  have := grownCap_le_maxLen w (l.length + 1) cap 46 (by unfold maxLen; omega)
  rw [← hG] at this
  unfold maxLen at this
  omega
 have hbN : g ≠ w.heap.size := by omega
 have hcpB : ∀ (W : World), (∀ y, W.cell? y = (W1.setCells w.heap.size (i * 2) [.string x.1, .string x.2]).cell? y) → (∀ y, W.frozen? y = (W1.setCells w.heap.size (i * 2) [.string x.1, .string x.2]).frozen? y) → ∀ ty dc sc, (Builtin.copy_ #[22, 22] ty #[.slice (some ⟨w.heap.size, (i + 1) * 2, none⟩) (l.length - i) dc, .slice (some ⟨g, i * 2, none⟩) (l.length - i) sc]).run Tryz.prog W = .ok (goInt (l.length - i : Nat)) (W.setCells w.heap.size ((i + 1) * 2) (fldCells (l.drop i))) := fun W hWc hWf ty dc sc =>
  run_copy_flds W _ _ ty 46 w.heap.size ((i + 1) * 2) _ dc ⟨g, i * 2, none⟩ _ sc (l.length - i) 2 _ Tryz.underlying22 hsize (Nat.min_self _) hdl
   (fun j v hj => by
    rw [Addr.add_lit, hWc, World.cell?_setCells_out _ _ _ _ _ (fun h _ => absurd h hbN)]
    rw [fldCells_drop, List.getElem?_drop] at hj
    exact hOb _ v (hcs _ v hj))
   (fun j hj => by
    rw [hdl] at hj
    rw [hWc]
    exact isSome_setCells w.heap.size _ (i * 2) W1 (fun t ht => hN _ (by simp only [List.length_cons, List.length_nil] at ht; omega)) _ (hN _ (by omega)))
   (fun j hj => by rw [hWf, World.frozen?_setCells]; exact hNf _) (fld_cells1 _)
 have HEND : Hid (∀ W2, (∀ y, W2.cell? y = ((W1.setCells w.heap.size (i * 2) [.string x.1, .string x.2]).setCells w.heap.size ((i + 1) * 2) (fldCells (l.drop i))).cell? y) → w.heap.size < W2.heap.size → FldsAt W2 (.slice (some ⟨w.heap.size, 0, none⟩) (l.length + 1) G) (l.take i ++ x :: l.drop i)) := Lib.hid (fun W2 hW2 hsz => by
  have hlen : (l.take i ++ x :: l.drop i).length = l.length + 1 := by simp; omega
  unfold FldsAt
  rw [hlen]
  refine RdAt.mk (by rw [fldCells_len, hlen]) (by omega) hsz (fun j y hj => ?_)
  rw [fldCells_app] at hj
  have hj' : (fldCells (l.take i) ++ ([.string x.1, .string x.2] ++ fldCells (l.drop i)))[j]? = some y := hj
  have hc := ins_cells' (W := W1) (g := w.heap.size) (A := fldCells (l.take i)) (V := [.string x.1, .string x.2]) (D := fldCells (l.drop i)) (fun m u hm => by rw [hNc]; exact hRA m u hm) (fun m hm => hN m (by
    rw [hA, hdl] at hm
    simp only [List.length_cons, List.length_nil] at hm
    omega)) j y hj'
  rw [hA, show i * 2 + ([.string x.1, .string x.2] : List Value).length = (i + 1) * 2 by simp only [List.length_cons, List.length_nil]; omega] at hc
  rw [Nat.zero_add, hW2]
  exact hc)
 have HBL : Hid (Below base w (((w.alloc (.cells ROW 46)).drew.setCells w.heap.size (i * 2) [.string x.1, .string x.2]).drew.setCells w.heap.size ((i + 1) * 2) (fldCells (l.drop i))) ∧ w.heap.size < (((w.alloc (.cells ROW 46)).drew.setCells w.heap.size (i * 2) [.string x.1, .string x.2]).drew.setCells w.heap.size ((i + 1) * 2) (fldCells (l.drop i))).heap.size) := Lib.hid (by
  have b1 := (alloc_below w (.cells ROW 46)).drew
  have b3 := (below_puts_base (o := i * 2) b1 (Nat.le_refl _) [.string x.1, .string x.2]).drew
  have b5 := below_puts_base (o := (i + 1) * 2) b3 (Nat.le_refl _) (fldCells (l.drop i))
  refine ⟨b5.mono hbase, ?_⟩
  have c1 := (Below.refl w.heap.size (w.alloc (.cells ROW 46))).drew
  have c3 := (below_puts_base (o := i * 2) c1 (Nat.le_refl _) [.string x.1, .string x.2]).drew
  have c5 := below_puts_base (o := (i + 1) * 2) c3 (Nat.le_refl _) (fldCells (l.drop i))
  have c6 := c5.size
  rw [World.size_alloc] at c6
  omega)
 subst hW1
 have hE1 : ∀ y, ((w.alloc (.cells ROW 46)).drew).cell? y = (w.drew.alloc (.cells ROW 46)).cell? y := fun y => rfl
 have hE2 : ∀ y, ((w.alloc (.cells ROW 46)).drew).frozen? y = (w.drew.alloc (.cells ROW 46)).frozen? y := fun y => rfl
 have hF1 : ∀ y, (((w.alloc (.cells ROW 46)).drew.setCells w.heap.size (i * 2) [.string x.1, .string x.2]).drew).cell? y = ((w.drew.alloc (.cells ROW 46)).setCells w.heap.size (i * 2) [.string x.1, .string x.2]).cell? y := fun y => rfl
 have hF2 : ∀ y, (((w.alloc (.cells ROW 46)).drew.setCells w.heap.size (i * 2) [.string x.1, .string x.2]).drew).frozen? y = ((w.drew.alloc (.cells ROW 46)).setCells w.heap.size (i * 2) [.string x.1, .string x.2]).frozen? y := fun y => rfl
 have hGi : ¬ (G = i) := by omega
 have hGim : ¬ (G = i + 1) := by omega
 have hci : ¬ (cap = i) := by omega
 have hwr1 : IntKind.i64.wrap ((i : Int) + 1) = (i : Int) + 1 := wrap_succ i (by omega)
 have hq1 : (0 : Int) ≤ (i : Int) + 1 := by omega
 have hq2 : i ≤ l.length := by omega
 have hq3 : (i : Int) ≤ (l.length : Int) + 1 := by omega
 have hq4 : (i : Int) + 1 ≤ (l.length : Int) + 1 := by omega
 have hq5 : (i : Int) ≤ (l.length : Int) := by omega
 have hq6 : (i : Int) ≤ (cap : Int) := by omega
 clear hkk hik hold hROW hG hRl hRA hcs hcsA hxs h1v hsize hA hNc hN hNf hOb hOv hx hown
 go_enter Tryz.func59, Tryz.ntmps59
 go_wp2_with (first
  | (at_builtin; refine Lib.wpList_append_run _ rfl _ _ _ _ rfl _ _ rfl rfl _ _ (hrz _) ?_)
  | (at_builtin; refine wpList_copy_runI _ rfl _ _ 22 22 rfl _ _ rfl rfl (hcpA _ hE1 hE2 _ _) ?_)
  | (at_builtin; refine wpList_copy_runI _ rfl _ _ 22 22 rfl _ _ rfl rfl (hcpB _ (fun _ => rfl) (fun _ => rfl) _ _ _) ?_))
 go_region_law (refine step_copy_runI rfl _ _ 22 22 rfl (.slice (some ⟨w.heap.size, (i + 1) * 2, none⟩) (l.length - i) (G - (i + 1))) (.slice (some ⟨g, i * 2, none⟩) (l.length - i) (cap - i)) (by simp [Act.eval, Act.put]) (by simp [Act.eval, Act.put]) (hcpB _ hF1 hF2 3 (G - (i + 1)) (cap - i)) ?_)
 go_wp2
 go_ret
 have hE : (((w.alloc (.cells ROW 46)).drew.setCells w.heap.size (i * 2) [.string x.1, .string x.2]).drew.setCells w.heap.size ((i + 1) * 2) (fldCells (l.drop i))) = (((w.drew.alloc (.cells ROW 46)).setCells w.heap.size (i * 2) [.string x.1, .string x.2]).setCells w.heap.size ((i + 1) * 2) (fldCells (l.drop i))).drew := by
  simp only [drew_setCells]
  rfl
 exact ⟨_, rfl, HEND.out _ (fun _ => by rw [hE]; rfl) HBL.out.2, HBL.out.1⟩
theorem ins_any (l : List Fld) (i : Nat) (x : Fld) (base vb : Nat) (v : Value) (w : World) (hown : w.ownsRow base 46 2 v l.length (fldCells l)) (hbase : base ≤ w.heap.size) (hi : i ≤ l.length) (hl : l.length ≤ 1000000)
  (hx : w.heap[vb]? = some (.cells #[.string x.1, .string x.2] 46 (0, 0))) (hvb : v.ownBlock ≠ some vb) :
  Calls Tryz.prog 59 #[v, .int .i64 i, .slice (some ⟨vb, 0, none⟩) 1 1] w fun e w' => ∃ v', e = .returned v' ∧ FldsAt w' v' (l.take i ++ x :: l.drop i) ∧ Below base w w' := by
 by_cases he : i = l.length
 ·subst he
  rw [List.take_length, List.drop_length]
  exact ins_end l x base vb v w hown hbase hl hx
 ·have hil : i < l.length := by omega
  rcases hown.2 with ⟨_, h0⟩ | ⟨g, cap, cur, rfl, hgb, hg, _⟩
  ·omega
  by_cases hr : l.length + 1 ≤ cap
  ·exact ins_shift l i x base g cap vb w hown hil hl hx (fun e => hvb (by rw [e]; rfl)) hr
  ·exact ins_grow l i x base g cap vb w hown hbase hil hl hx (by omega)
end Go.Proofs.YtgbapkechngnmaaGreat
/- match.Without, match.With, match.Pick: contracts. -/
namespace Go.Proofs.YtgbapkechngnmaaGreat
open Go.RowKit

theorem woclos (x : Fld) (b : Nat) (n : ByteArray) (w : World) (hn : w.cell? ⟨b, 0, none⟩ = some (.string n)) (hlt : b < w.heap.size) :
  Calls Tryz.prog 62 #[.agg #[.string x.1, .string x.2], .pointer (some ⟨b, 0, none⟩)] w fun e w' => e = .returned (.bool (eqN n x)) ∧ Below w.heap.size w w' := by
 have h1 := keep_cell hn (alloc_below w (.cells #[.string x.1, .string x.2] 46)) hlt
 go_enter Tryz.func62, Tryz.ntmps62
 go_wp2
 go_ret
 exact ⟨rfl, alloc_below _ _⟩
theorem gt_lt (a n : ByteArray) : (!Op.bytesLess a.toList n.toList && !a.toList == n.toList) = ltS n a := by
 rcases ltW_tri a n with h | rfl | h
 ·have h1 : Op.bytesLess a.toList n.toList = true := h
  rw [h1, ltW_asym h]; rfl
 ·rw [show ltS a a = false from ltW_irrefl a]; simp
 ·have h1 : Op.bytesLess a.toList n.toList = false := ltW_asym h
  have h2 : (a.toList == n.toList) = false := by
   rw [beq_eq_false_iff_ne]
   exact fun e => ltW_ne h (toListW_inj e).symm
  rw [h1, h2, h]; rfl
theorem gtclos (x : Fld) (b : Nat) (n : ByteArray) (w : World) (hn : w.cell? ⟨b, 0, none⟩ = some (.string n)) (hlt : b < w.heap.size) :
  Calls Tryz.prog 58 #[.agg #[.string x.1, .string x.2], .pointer (some ⟨b, 0, none⟩)] w fun e w' => e = .returned (.bool (ltS n x.1)) ∧ Below w.heap.size w w' := by
 have h1 := keep_cell hn (alloc_below w (.cells #[.string x.1, .string x.2] 46)) hlt
 go_enter Tryz.func58, Tryz.ntmps58
 go_wp2
 go_ret
 exact ⟨by rw [← gt_lt]; rfl, alloc_below _ _⟩
set_option maxHeartbeats 1600000 in
set_option maxRecDepth 100000 in
theorem without_any (l : List Fld) (nm : ByteArray) (v : Value) (w : World) (hv : FldsAt w v l) (hl : l.length ≤ 1000000) :
  Calls Tryz.prog 33 #[v, .string nm] w fun e w' => ∃ v', e = .returned v' ∧ w'.ownsRow w.heap.size 46 2 v' (woL l nm).length (fldCells (woL l nm)) ∧ Below w.heap.size w w' := by
 have hb0 := alloc_below w (.cells #[.string nm] 9)
 have hn0 : (w.alloc (.cells #[.string nm] 9)).cell? ⟨w.heap.size, 0, none⟩ = some (.string nm) := by rw [cell_of_row _ _ _ _ _ _ (heap_alloc_new w _)]; rfl
 have hlt0 : w.heap.size < (w.alloc (.cells #[.string nm] 9)).heap.size := by rw [World.size_alloc]; omega
 have kc := cloneF_any l _ v (hv.later hb0) (by omega)
 clear hv
 go_enter Tryz.func33, Tryz.ntmps33
 go_wp2_with fail
 refine kc.mono ?_
 rintro e w1 ⟨cv, rfl, hown, hb1⟩
 have kd := del_gen l (eqN nm) 62 #[.pointer (some ⟨w.heap.size, 0, none⟩)] (enters_of Tryz.func62 (by kernel_rfl) rfl) _ cv w1 hown hb1.size (by omega)
  (fun W x hW => woclos x w.heap.size nm W (keep_cell hn0 (hb1.trans hW) hlt0) (Nat.lt_of_lt_of_le hlt0 (hb1.trans hW).size))
 have HB1 := Lib.hid (hb0.trans (hb1.mono hb0.size))
 clear kc hown hb1 hn0
 go_wp2_with fail
 refine kd.mono ?_
 rintro e w2 ⟨dv, rfl, hown2, hb2⟩
 go_wp2
 go_ret
 exact ⟨_, rfl, own_base hown2 (Nat.le_of_lt hlt0), HB1.out.trans (hb2.mono (Nat.le_of_lt hlt0))⟩
theorem find_idx (p : Fld → Bool) (x : Fld) (l : List Fld) : (l.findIdx p < l.length ∧ Lib.idxByFrom (fun _ y => p y) x l 0 = ((l.findIdx p : Nat) : Int)) ∨ (l.findIdx p = l.length ∧ Lib.idxByFrom (fun _ y => p y) x l 0 = -1) := by
 have key : ∀ (l : List Fld) (i : Nat), (l.findIdx p < l.length ∧ Lib.idxByFrom (fun _ y => p y) x l i = ((i + l.findIdx p : Nat) : Int)) ∨ (l.findIdx p = l.length ∧ Lib.idxByFrom (fun _ y => p y) x l i = -1) := by
  intro l
  induction l with
  | nil => intro i; exact .inr ⟨rfl, rfl⟩
  | cons y r ih =>
   intro i
   rw [List.findIdx_cons]
   by_cases h : p y = true
   ·exact .inl ⟨by simp [h], by simp [Lib.idxByFrom, h]⟩
   ·have h' : p y = false := by simpa using h
    rcases ih (i + 1) with ⟨h1, h2⟩ | ⟨h1, h2⟩
    ·refine .inl ⟨by simp [h', h1], ?_⟩
     simp only [Lib.idxByFrom, h', Bool.false_eq_true, if_false, cond_false]
     rw [h2]; omega
    ·refine .inr ⟨by simp [h', h1], ?_⟩
     simp only [Lib.idxByFrom, h', Bool.false_eq_true, if_false]
     exact h2
 rcases key l 0 with ⟨h1, h2⟩ | h
 ·exact .inl ⟨h1, by rw [h2, Nat.zero_add]⟩
 ·exact .inr h
theorem wo_len (l : List Fld) (nm : ByteArray) : (woL l nm).length ≤ l.length := List.length_filter_le _ _
set_option maxHeartbeats 1600000 in
set_option maxRecDepth 100000 in
theorem with_any (l : List Fld) (nm val : ByteArray) (v : Value) (w : World) (hv : FldsAt w v l) (hl : l.length ≤ 1000000) :
  Calls Tryz.prog 32 #[v, .string nm, .string val] w fun e w' => ∃ v', e = .returned v' ∧ FldsAt w' v' (owL l nm val) ∧ Below w.heap.size w w' := by
 have hb0 := alloc_below w (.cells #[.string nm] 9)
 have hn0 : (w.alloc (.cells #[.string nm] 9)).cell? ⟨w.heap.size, 0, none⟩ = some (.string nm) := by rw [cell_of_row _ _ _ _ _ _ (heap_alloc_new w _)]; rfl
 have hlt0 : w.heap.size < (w.alloc (.cells #[.string nm] 9)).heap.size := by rw [World.size_alloc]; omega
 have kw := without_any l nm v _ (hv.later hb0) hl
 have HO : Hid (owL l nm val = (woL l nm).take (gtI (woL l nm) nm) ++ (nm, val) :: (woL l nm).drop (gtI (woL l nm) nm)) := Lib.hid rfl
 have hwl := wo_len l nm
 clear hv
 go_enter Tryz.func32, Tryz.ntmps32
 go_upto_region 1 with fail
 change Code.wp _ _ _ _ (w.alloc (.cells #[.string nm] 9))
 obtain ⟨w0, hw0⟩ : ∃ w0, w.alloc (.cells #[.string nm] 9) = w0 := ⟨_, rfl⟩
 rw [hw0] at hb0 hn0 hlt0 kw
 rw [hw0]
 clear hw0
 go_wp2_with fail
 refine kw.mono ?_
 rintro e w1 ⟨ov, rfl, hown, hb1⟩
 have hn1 := keep_cell hn0 hb1 hlt0
 have HB1 := Lib.hid (hb0.trans (hb1.mono hb0.size))
 have hlt1 : w.heap.size < w1.heap.size := Nat.lt_of_lt_of_le hlt0 hb1.size
 generalize woL l nm = L at *
 have hLl : L.length ≤ 1000000 := by omega
 have ki := idxf_gen L (fun f => ltS nm f.1) 58 #[.pointer (some ⟨w.heap.size, 0, none⟩)] (enters_of Tryz.func58 (by kernel_rfl) rfl) ov w1 (RdAt.own hown) (by omega)
  (fun W x hW => gtclos x w.heap.size nm W (keep_cell hn1 hW hlt1) (Nat.lt_of_lt_of_le hlt1 hW.size))
 have HOWN := Lib.hid (own_base hown (Nat.le_of_lt hlt0))
 obtain ⟨oa, oc, rfl, _, _⟩ := RdAt.shape (RdAt.own hown)
 clear kw hn0 hb1 hown hwl
 go_wp2_with fail
 refine ki.mono ?_
 rintro e w2 ⟨rfl, hb2⟩
 have hn2 := keep_cell hn1 hb2 hlt1
 have HB2 := Lib.hid (HB1.out.trans (hb2.mono HB1.out.size))
 have HOWN2 := Lib.hid (own_later HOWN.out hb2)
 clear ki hn1
 have hgi : Hid (gtI L nm = L.findIdx (fun f => ltS nm f.1)) := Lib.hid rfl
 obtain ⟨k, hk⟩ : ∃ k, L.findIdx (fun f => ltS nm f.1) = k := ⟨_, rfl⟩
 have hkl : k ≤ L.length := by rw [← hk]; exact List.findIdx_le_length
 have HK := Lib.hid (hgi.out.trans hk)
 have hba := alloc_below w2 (.cells #[.string nm, .string val] 46)
 have kins := fun (u : Nat) (h : u = k) => ins_any L k (nm, val) w.heap.size w2.heap.size _ _ (own_later HOWN2.out hba) (Nat.le_trans HB2.out.size hba.size) hkl hLl (heap_alloc_new w2 _) (fun e => by
  have := (HOWN2.out.lt _ e).2
  omega)
 have HB3 := Lib.hid (HB2.out.trans (hba.mono HB2.out.size))
 have kins := kins k rfl
 have HFIN : Hid (owL l nm val = L.take k ++ (nm, val) :: L.drop k) := Lib.hid (by rw [HO.out, HK.out])
 rcases find_idx (fun f => ltS nm f.1) default L with ⟨h1, h2⟩ | ⟨h1, h2⟩
 ·rw [hk] at h1 h2
  have hk0 : ¬ (k : Int) < 0 := by omega
  rw [h2]
  clear h1 h2 hk hba HO hb0 hlt0
  go_wp2_with fail
  refine kins.mono ?_
  rintro e w3 ⟨v', rfl, hf, hb3⟩
  go_wp2
  go_ret
  exact ⟨_, rfl, by rw [HFIN.out]; exact hf, HB3.out.trans hb3⟩
 ·rw [hk] at h1
  subst h1
  rw [h2]
  clear h2 hk hba HO hb0 hlt0
  go_wp2_with fail
  refine kins.mono ?_
  rintro e w3 ⟨v', rfl, hf, hb3⟩
  go_wp2
  go_ret
  exact ⟨_, rfl, by rw [HFIN.out]; exact hf, HB3.out.trans hb3⟩
end Go.Proofs.YtgbapkechngnmaaGreat
/- match.Pick, lychgateref06.Pick: contracts. -/
namespace Go.Proofs.YtgbapkechngnmaaGreat
open Go.RowKit

def NmsAt (w : World) (v : Value) (ns : List ByteArray) : Prop := RdAt w v ns.length 1 (ns.map Value.string)
theorem NmsAt.later {w w' : World} {v : Value} {ns : List ByteArray} (h : NmsAt w v ns) (hb : Below w.heap.size w w') : NmsAt w' v ns := RdAt.later h hb
theorem hasnm_any (ns : List ByteArray) (x : ByteArray) (v : Value) (w : World) (hv : NmsAt w v ns) (hl : ns.length ≤ 1000000) :
  Calls Tryz.prog 64 #[v, .string x] w fun e w' => e = .returned (.bool (Lib.containsS ns x)) ∧ w' = w := by
 obtain ⟨a, c, rfl, hc, hr⟩ := RdAt.shape hv
 rcases Nat.eq_zero_or_pos ns.length with h0 | h0
 ·have hn : ns = [] := List.length_eq_zero_iff.1 h0
  subst hn
  exact Tryz.slices_Contains_string_empty a c x w
 ·obtain ⟨b, o, rfl, hb, hcell⟩ := hr h0
  have := Tryz.slices_Contains_string b o ns.length c ns x w (Nat.le_refl _) (by omega) (fun j hj => hcell j _ (by
   rw [List.getElem?_map, List.getElem?_eq_getElem hj]
   simp [List.getD, List.getElem?_eq_getElem hj]))
  rw [List.take_length] at this
  exact this
theorem in_has (ns : List ByteArray) (f : Fld) : Lib.containsS ns f.1 = inN ns f := by
 rw [Bool.eq_iff_iff, Lib.containsS_iff]
 unfold inN
 rw [List.any_eq_true]
 constructor
 ·intro h
  exact ⟨f.1, h, by simp⟩
 ·rintro ⟨x, hx, he⟩
  rw [beq_iff_eq] at he
  rwa [toListW_inj he]
set_option maxHeartbeats 800000 in
set_option maxRecDepth 100000 in
theorem pkclos (x : Fld) (b : Nat) (ns : List ByteArray) (nv : Value) (w : World) (hn : w.cell? ⟨b, 0, none⟩ = some nv) (hlt : b < w.heap.size) (hv : NmsAt w nv ns) (hl : ns.length ≤ 1000000) :
  Calls Tryz.prog 63 #[.agg #[.string x.1, .string x.2], .pointer (some ⟨b, 0, none⟩)] w fun e w' => e = .returned (.bool (!(inN ns x))) ∧ Below w.heap.size w w' := by
 have hba := alloc_below w (.cells #[.string x.1, .string x.2] 46)
 have h1 := keep_cell hn hba hlt
 have kh := hasnm_any ns x.1 nv _ (hv.later hba) hl
 rw [in_has ns x] at kh
 obtain ⟨a, c, rfl, _, _⟩ := RdAt.shape hv
 clear hv
 go_enter Tryz.func63, Tryz.ntmps63
 go_wp2_with fail
 refine kh.mono ?_
 rintro e w1 ⟨rfl, rfl⟩
 go_wp2
 go_ret
 exact ⟨rfl, hba⟩
set_option maxHeartbeats 1600000 in
set_option maxRecDepth 100000 in
theorem pick_any (l : List Fld) (ns : List ByteArray) (v nv : Value) (w : World) (hv : FldsAt w v l) (hl : l.length ≤ 1000000) (hn : NmsAt w nv ns) (hnl : ns.length ≤ 1000000) :
  Calls Tryz.prog 36 #[v, nv] w fun e w' => ∃ v', e = .returned v' ∧ w'.ownsRow w.heap.size 46 2 v' (pickL l ns).length (fldCells (pickL l ns)) ∧ Below w.heap.size w w' := by
 have hb0 := alloc_below w (.cells #[nv] 49)
 have hn0 : (w.alloc (.cells #[nv] 49)).cell? ⟨w.heap.size, 0, none⟩ = some nv := by rw [cell_of_row _ _ _ _ _ _ (heap_alloc_new w _)]; rfl
 have hlt0 : w.heap.size < (w.alloc (.cells #[nv] 49)).heap.size := by rw [World.size_alloc]; omega
 have kc := cloneF_any l _ v (hv.later hb0) (by omega)
 have HN := Lib.hid hn
 obtain ⟨na, nc, rfl, _, _⟩ := RdAt.shape hn
 have hF : Hid ((l.filter fun x => !(!(inN ns x))) = pickL l ns) := Lib.hid (by unfold pickL; simp)
 clear hv hn
 go_enter Tryz.func36, Tryz.ntmps36
 go_wp2_with fail
 refine kc.mono ?_
 rintro e w1 ⟨cv, rfl, hown, hb1⟩
 have kd := del_gen l (fun x => !(inN ns x)) 63 #[.pointer (some ⟨w.heap.size, 0, none⟩)] (enters_of Tryz.func63 (by kernel_rfl) rfl) _ cv w1 hown hb1.size (by omega)
  (fun W x hW => pkclos x w.heap.size ns _ W (keep_cell hn0 (hb1.trans hW) hlt0) (Nat.lt_of_lt_of_le hlt0 (hb1.trans hW).size) ((HN.out.later hb0).later (hb1.trans hW)) hnl)
 rw [hF.out] at kd
 have HB1 := Lib.hid (hb0.trans (hb1.mono hb0.size))
 clear kc hown hb1 hn0
 go_wp2_with fail
 refine kd.mono ?_
 rintro e w2 ⟨dv, rfl, hown2, hb2⟩
 go_wp2
 go_ret
 exact ⟨_, rfl, own_base hown2 (Nat.le_of_lt hlt0), HB1.out.trans (hb2.mono (Nat.le_of_lt hlt0))⟩
theorem row_fld (w : World) (x : Fld) : RdAt (w.alloc (.cells #[.string x.1, .string x.2] 46)) (.slice (some ⟨w.heap.size, 0, none⟩) 1 1) 1 2 [.string x.1, .string x.2] :=
 RdAt.mk rfl (Nat.le_refl _) (by rw [World.size_alloc]; omega) (fun j y hj => by
  rw [Nat.zero_add, cell_of_row _ _ _ _ _ _ (heap_alloc_new _ _)]
  simpa using hj)
theorem fld1_cells (x : Fld) : ∀ y ∈ ([.string x.1, .string x.2] : List Value), y.oneCell' = true := by
 intro y hy
 simp at hy
 rcases hy with rfl | rfl <;> rfl
theorem pick_step {l : List Fld} {ns : List ByteArray} {k : Nat} (h : k < l.length) : pickL (l.take (k + 1)) ns = pickL (l.take k) ns ++ (if inN ns l[k] then [l[k]] else []) := by
 unfold pickL
 rw [List.take_succ_eq_append_getElem h, List.filter_append]
 congr 1
 cases hp : inN ns l[k] <;> simp [hp]
theorem pick_le (l : List Fld) (ns : List ByteArray) : (pickL l ns).length ≤ l.length := List.length_filter_le _ _
set_option maxHeartbeats 1600000 in
set_option maxRecDepth 100000 in
theorem rpick_any (l : List Fld) (ns : List ByteArray) (v nv : Value) (w : World) (hv : FldsAt w v l) (hl : l.length ≤ 1000000) (hn : NmsAt w nv ns) (hnl : ns.length ≤ 1000000) :
  Calls Tryz.prog 37 #[v, nv] w fun e w' => ∃ v', e = .returned v' ∧ FldsAt w' v' (pickL l ns) ∧ Below w.heap.size w w' := by
 obtain ⟨i0, hi0, hz0, hz1, hz2⟩ := info_parts info_fld
 obtain ⟨a, c, rfl, hc, hr⟩ := RdAt.shape hv
 obtain ⟨na, nc, rfl, hnc, hnr⟩ := RdAt.shape hn
 have HR := Lib.hid hr
 have HNR := Lib.hid hnr
 clear hr hv hn hnr
 go_enter Tryz.func37, Tryz.ntmps37
 go_wp2_with fail
 go_loopw [5, 6] (fun v5 v6 wr => ∃ (k : Nat) (ov : Value), v6 = .int .i64 k ∧ ov = v5 ∧ k ≤ l.length ∧ Hid (wr.ownsRow w.heap.size 46 2 ov (pickL (l.take k) ns).length (fldCells (pickL (l.take k) ns))) ∧ Hid (Below w.heap.size w wr)) (fun _ v _ => l.length - (intOf v).toNat)
 case atStart => exact ⟨0, _, rfl, rfl, Nat.zero_le _, Lib.hid (World.ownsRow_nil _ _ _ _), Lib.hid (Below.refl _ _)⟩
 case round =>
  obtain ⟨k, ov, rfl, rfl, hk, HOW, HB⟩ := hrel
  have hk0 : (0 : Int) ≤ (k : Int) := by omega
  obtain ⟨oa, oc, rfl, hoc, _⟩ := RdAt.shape (RdAt.own HOW.out)
  by_cases hkl : k < l.length
  ·have hkl' : (k : Int) < (l.length : Int) := by omega
   obtain ⟨g, o, rfl, hg, hcell⟩ := HR.out (by omega)
   obtain ⟨x, hx⟩ : ∃ x, l[k] = x := ⟨_, rfl⟩
   obtain ⟨q0, q1⟩ := fldCells_at l k hkl
   rw [hx] at q0 q1
   have p0 := keep_cell (hcell _ _ q0) HB.out hg
   have p1 := keep_cell (hcell _ _ q1) HB.out hg
   rw [← Nat.add_assoc] at p1
   have HST := Lib.hid (pick_step (ns := ns) hkl)
   rw [hx] at HST
   have hpl := pick_le (l.take k) ns
   rw [List.length_take] at hpl
   have hgr : g < wr.heap.size := Nat.lt_of_lt_of_le hg HB.out.size
   clear hx q0 q1 hcell
   obtain ⟨nm, val⟩ := x
   dsimp only at p0 p1
   go_wp2_with fail
   go_loopw [5, 7] (fun v5 v7 wy => ∃ j : Nat, v7 = .int .i64 j ∧ v5 = .slice oa (pickL (l.take k) ns).length oc ∧ j ≤ ns.length ∧ Hid (∀ n ∈ ns.take j, (nm.toList == n.toList) = false) ∧ Hid (Below wr.heap.size wr wy)) (fun _ v _ => ns.length - (intOf v).toNat)
   case atStart => exact ⟨0, rfl, rfl, Nat.zero_le _, Lib.hid (fun n h => by simp at h), Lib.hid (Below.refl _ _)⟩
   case round =>
    obtain ⟨j, rfl, rfl, hj, HJ, HY⟩ := hrel
    have hj0 : (0 : Int) ≤ (j : Int) := by omega
    have HBW := Lib.hid (HB.out.trans (HY.out.mono HB.out.size))
    by_cases hjl : j < ns.length
    ·have hjl' : (j : Int) < (ns.length : Int) := by omega
     obtain ⟨ng, no, rfl, hng, hncell⟩ := HNR.out (by omega)
     obtain ⟨y, hy⟩ : ∃ y, ns[j] = y := ⟨_, rfl⟩
     have c0 : w.cell? ⟨ng, no + j, none⟩ = some (.string y) := hncell j _ (by rw [List.getElem?_map, List.getElem?_eq_getElem hjl, hy]; rfl)
     have d0 := keep_cell c0 HBW.out hng
     have e0 := keep_cell p0 HY.out hgr
     have e1 := keep_cell p1 HY.out hgr
     have HTK := Lib.hid (show ns.take (j + 1) = ns.take j ++ [y] by rw [List.take_succ_eq_append_getElem hjl, hy])
     have HIN : Hid ((nm.toList == y.toList) = true → inN ns (nm, val) = true) := Lib.hid (fun h => by
      unfold inN
      rw [List.any_eq_true]
      exact ⟨y, by rw [← hy]; exact List.getElem_mem hjl, h⟩)
     clear c0 hncell hy
     cases hyn : (nm.toList == y.toList) with
     | true =>
      have hyn' : (y.toList == nm.toList) = true := by rw [beq_iff_eq] at hyn ⊢; exact hyn.symm
      have HS2 := HST
      rw [HIN.out hyn, if_pos rfl] at HS2
      clear hyn HIN HTK HJ
      go_wp2
      go_quiet (fail)
      have hbq : Below wr.heap.size wr (wr.drewN nq) := bl_drewN (Below.refl _ _) nq
      have hgw : g < wr.heap.size := Nat.lt_of_lt_of_le hgr HY.out.size
      have f0 := keep_cell e0 hbq hgw
      have f1 := keep_cell e1 hbq hgw
      have HY5 := Lib.hid (HY.out.trans (hbq.mono HY.out.size))
      have HBW5 := Lib.hid (HBW.out.trans (hbq.mono HBW.out.size))
      generalize wr.drewN nq = w5 at *
      clear e0 e1 d0 hbq HY HBW
      have hown := own_later (own_later HOW.out HY5.out) (alloc_below w5 (.cells #[.string nm, .string val] 46))
      have hrow := row_fld w5 (nm, val)
      have HBX := Lib.hid (HBW5.out.trans ((alloc_below w5 (.cells #[.string nm, .string val] 46)).mono HBW5.out.size))
      have hbase := HBX.out.size
      dsimp only at hrow
      go_wp2_with (at_builtin; (refine wpList_append_rd rfl (.tmp 30) (.tmp 35) 22 rfl w.heap.size 46 i0 (.agg #[.string ⟨#[]⟩, .string ⟨#[]⟩]) 2 32 Tryz.underlying22 hi0 hz0 hz1 hz2 rfl (by decide) _ _ _ rfl hown _ 1 _ rfl hrow (fld1_cells (nm, val)) (by unfold maxLen; omega) (by omega) hbase ?_); intro v' w6 hown6 hgrow6; have HO6 := Lib.hid hown6; have HB6 := Lib.hid (HBX.out.grown hgrow6 hbase (fun q hq => (hown.lt q hq).1)); clear hown6 hgrow6)
      go_roundw
      case rel => exact ⟨k + 1, v', by go_num, rfl, by omega, Lib.hid (by rw [HS2.out, List.length_append, fldCells_app]; exact HO6.out), HB6⟩
      case measure => (simp [intOf]; try omega)
     | false =>
      have hyn' : (y.toList == nm.toList) = false := by rw [beq_eq_false_iff_ne] at hyn ⊢; exact fun e => hyn e.symm
      have HJ2 : Hid (∀ n ∈ ns.take (j + 1), (nm.toList == n.toList) = false) := Lib.hid (fun n hn => by
       rw [HTK.out] at hn
       rcases List.mem_append.1 hn with h | h
       ·exact HJ.out n h
       ·rw [List.mem_singleton.1 h]; exact hyn)
      clear hyn HIN HTK HJ
      go_wp2
      go_quiet (fail)
      have HY5 := Lib.hid (bl_drewN HY.out nq)
      generalize wr.drewN nq = w5 at *
      go_wp2
      go_roundw
      case rel => exact ⟨j + 1, by go_num, rfl, by omega, HJ2, HY5⟩
      case measure => (simp [intOf]; try omega)
    ·obtain rfl : j = ns.length := by omega
     have hjl' : ¬ (ns.length : Int) < (ns.length : Int) := by omega
     have HIN : Hid (inN ns (nm, val) = false) := Lib.hid (by
      unfold inN
      rw [List.any_eq_false]
      intro n hn
      have := HJ.out n (by rw [List.take_length]; exact hn)
      rw [this]; decide)
     have HS2 := HST
     rw [HIN.out] at HS2
     simp only [Bool.false_eq_true, if_false, List.append_nil] at HS2
     go_wp2
     go_roundw
     case rel => exact ⟨k + 1, _, by go_num, rfl, by omega, Lib.hid (by rw [HS2.out]; exact own_later HOW.out HY.out), HBW⟩
     case measure => (simp [intOf]; try omega)
  ·obtain rfl : k = l.length := by omega
   have hkl' : ¬ (l.length : Int) < (l.length : Int) := by omega
   have HF : Hid (FldsAt wr (.slice oa (pickL l ns).length oc) (pickL l ns)) := Lib.hid (by
    have := RdAt.own HOW.out
    rw [List.take_length] at this
    exact this)
   clear HOW
   go_wp2
   go_ret
   exact ⟨_, rfl, HF.out, HB.out⟩
end Go.Proofs.YtgbapkechngnmaaGreat
/- The arguments of MatchFields and MatchPicks: a field, names. -/
namespace Go.Proofs.YtgbapkechngnmaaGreat
open Go.RowKit Go.WideShapes Go.ChangeShapes Go.Deep

def ArgFld (v : Value) (x : Fld) : Prop := v = .agg #[.string x.1, .string x.2] ∧ x.1.size ≤ maxLen ∧ x.2.size ≤ maxLen
set_option maxRecDepth 100000 in
theorem fld_of_trod1 {H : Type} {enc : TypeId × Value → H} {W : World} {n : Nat} {c0 c1 : Value} {x : DataW H × List MemPlace} (h : DataW.trod enc Tryz.prog W 0 (fun _ => true) true n 46 [c0, c1] = some x) : ∃ m, ArgFld (.agg #[c0, c1]) m := by
 have hcs : Tryz.prog.cellsOf 9 = 1 := by kernel_rfl
 obtain ⟨ys, n', hn', hy, hlen, hyl, hf⟩ := DataW.trod_struct Tryz.underlying46 h
 have t0 := hf 0 _ rfl
 have t1 := hf 1 _ rfl
 match ys, hyl with
 | [y0, y1], _ =>
  obtain ⟨s0, q0, _, z0⟩ := DataW.trod_string Tryz.underlying9 t0
  obtain ⟨s1, q1, _, z1⟩ := DataW.trod_string Tryz.underlying9 t1
  simp [hcs] at q0 q1
  subst q0 q1
  exact ⟨(s0, s1), rfl, z0, z1⟩
set_option maxRecDepth 100000 in
theorem fld_of_arg {H : Type} {enc : TypeId × Value → H} {W : World} {base : Nat} {v : Value} {d : DataW H} {p : List MemPlace} (hval : Value.okWide Tryz.prog W .any base 46 v) (h : DataW.Trod enc Tryz.prog W 0 (fun _ => true) true 46 v d p) : ∃ x, ArgFld v x := by
 obtain ⟨cs, rfl, hsz, _⟩ : ∃ cs, v = .agg cs ∧ cs.size = Tryz.prog.cellsOf 46 ∧ Row.okWide Tryz.prog W .any base 46 cs := by
  simpa [Value.okWide, Tryz.underlying46] using hval
 rw [show Tryz.prog.cellsOf 46 = 2 by kernel_rfl] at hsz
 obtain ⟨fuel, hf⟩ := h
 obtain ⟨l⟩ := cs
 match l, hsz with
 | [c0, c1], _ => exact fld_of_trod1 hf
def ArgNms (w : World) (v : Value) (ns : List ByteArray) : Prop := NmsAt w v ns ∧ ns.length ≤ maxLen ∧ ∀ x ∈ ns, x.size ≤ maxLen
set_option maxRecDepth 100000 in
theorem nms_of_arg {H : Type} {enc : TypeId × Value → H} {W : World} {base : Nat} {v : Value} {d : DataW H} {p : List MemPlace} (hval : Value.okWide Tryz.prog W .any base 49 v) (h : DataW.Trod enc Tryz.prog W 0 (fun _ => true) true 49 v d p) : ∃ x, ArgNms W v x := by
 obtain ⟨a0, len, cap, rfl⟩ := okWide_slice Tryz.underlying49 hval
 obtain ⟨fuel, hf⟩ := h
 rcases open_strings Tryz.underlying49 Tryz.underlying9 (by kernel_rfl) hf with ⟨hcs, _⟩ | ⟨a, len', cap', ss, hcs, _, hl, hm, hz, _, hcell, hws⟩
 ·simp only [Value.cells] at hcs
  cases hcs
  exact ⟨[], RdAt.nil W 1, Nat.zero_le _, by simp⟩
 ·simp only [Value.cells] at hcs
  cases hcs
  simp only [if_true] at hz
  have hlen : (ss.take len).length = len := by rw [List.length_take]; omega
  refine ⟨ss.take len, ⟨by simp, .inr ⟨a, cap, by rw [hlen], by omega, fun hn => ?_⟩⟩, by rw [hlen]; omega, fun x hx => hws x (List.mem_of_mem_take hx)⟩
  rw [hlen] at hn
  obtain ⟨b, off, spot⟩ := a
  have hspot : spot = none := by simpa [Addr.add] using World.cell?_spot (hcell 0 (by omega))
  subst hspot
  have hall : ∀ j, j < ss.length → W.cell? ⟨b, off + j, none⟩ = some (.string (ss.getD j ByteArray.empty)) := fun j hj => by rw [← Go.WideShapes.add_plain]; exact hcell j hj
  refine ⟨b, off, rfl, block_lt_of_cell (a := ⟨b, off + 0, none⟩) (hall 0 (by omega)), fun j x hx => ?_⟩
  rw [List.getElem?_map, Option.map_eq_some_iff] at hx
  obtain ⟨y, hy, rfl⟩ := hx
  have hj : j < len := by have := (List.getElem?_eq_some_iff.1 hy).1; rw [hlen] at this; exact this
  rw [hall j (by omega)]
  rw [List.getElem?_take_of_lt hj] at hy
  simp [List.getD, hy]
theorem cut_nms {w : World} {v : Value} {ns : List ByteArray} (h : NmsAt w v ns) : ∃ a n c, v = .slice a n c ∧ n = ns.length ∧ n ≤ c ∧ NmsAt w (.slice a (min (n : Int) 20).toNat c) (ns.take 20) := by
 obtain ⟨a, c, rfl, hc, hr⟩ := RdAt.shape h
 refine ⟨a, _, c, rfl, rfl, hc, ?_⟩
 have hl : (ns.take 20).length = (min (ns.length : Int) 20).toNat := by rw [List.length_take]; omega
 rw [← hl]
 rcases Nat.eq_zero_or_pos ns.length with h0 | h0
 ·have : ns = [] := List.length_eq_zero_iff.1 h0
  subst this
  refine ⟨by simp, ?_⟩
  rcases h.2 with ⟨h1, _⟩ | ⟨a', c', h1, h2, h3⟩
  ·exact .inl ⟨h1, rfl⟩
  ·exact .inr ⟨a', c', h1, h2, h3⟩
 ·obtain ⟨b, o, rfl, hb, hcell⟩ := hr h0
  refine ⟨by simp, .inr ⟨_, c, rfl, by rw [hl]; omega, fun _ => ⟨b, o, rfl, hb, fun j x hj => hcell j x ?_⟩⟩⟩
  rw [List.getElem?_map] at hj ⊢
  have hjl : j < (ns.take 20).length := by
   rcases Nat.lt_or_ge j (ns.take 20).length with h' | h'
   ·exact h'
   ·rw [List.getElem?_eq_none h'] at hj; cases hj
  rw [List.length_take] at hjl
  rwa [List.getElem?_take_of_lt (by omega)] at hj
end Go.Proofs.YtgbapkechngnmaaGreat
/- lychgateref06.Same: a contract (out of XRefS). -/
namespace Go.Proofs.YtgbapkechngnmaaGreat
open Go.RowKit

set_option maxHeartbeats 1600000 in
set_option maxRecDepth 100000 in
theorem rsame6_any (xs ys : List Fld) (w : World) (u v : Value) (hx : FldsAt w u xs) (hy : FldsAt w v ys) (hl : xs.length ≤ maxLen) (hl2 : ys.length ≤ maxLen) :
  Calls Tryz.prog 34 #[u, v] w fun e w' => e = .returned (.bool (decide (xs = ys))) ∧ Below w.heap.size w w' := by
 obtain ⟨a, c, rfl, hc, hr⟩ := RdAt.shape hx
 obtain ⟨a', c', rfl, hc', hr'⟩ := RdAt.shape hy
 have HR := Lib.hid hr
 have HR' := Lib.hid hr'
 have hm1 : xs.length < 9223372036854775808 := by unfold maxLen at hl; omega
 have hm2 : ys.length < 9223372036854775808 := by unfold maxLen at hl2; omega
 clear hr hr' hx hy hl hl2
 by_cases hlen : xs.length = ys.length
 ·have hlen' : (xs.length : Int) = (ys.length : Int) := by omega
  have hb0 : ((xs.length : Int) != (ys.length : Int)) = false := by simp [hlen]
  have HLEN := Lib.hid hlen
  clear hlen hlen'
  go_enter Tryz.func34, Tryz.ntmps34
  go_wp2
  go_loopw [5] (fun i wr => ∃ k : Nat, k ≤ xs.length ∧ i = .int .i64 k ∧ Hid (xs.take k = ys.take k) ∧ Below w.heap.size w wr) (fun i _ => xs.length - (intOf i).toNat)
  case atStart => exact ⟨0, Nat.zero_le _, rfl, Lib.hid rfl, Below.refl _ _⟩
  case round =>
   obtain ⟨k, hk, rfl, HT, hbr⟩ := hrel
   by_cases hkl : k < xs.length
   ·have hkl2 : k < ys.length := by have := HLEN.out; omega
    obtain ⟨⟨x1, x2⟩, hxe⟩ : ∃ x, xs[k] = x := ⟨_, rfl⟩
    obtain ⟨⟨y1, y2⟩, hye⟩ : ∃ y, ys[k] = y := ⟨_, rfl⟩
    obtain ⟨b0, o0, rfl, hb0', hcell⟩ := HR.out (by omega)
    obtain ⟨b1, o1, rfl, hb1', hcell'⟩ := HR'.out (by omega)
    obtain ⟨q0, q1⟩ := fldCells_at xs k hkl
    obtain ⟨q2, q3⟩ := fldCells_at ys k hkl2
    rw [hxe] at q0 q1
    rw [hye] at q2 q3
    have c0 : wr.cell? ⟨b0, o0 + k * 2, none⟩ = some (.string x1) := keep_cell (hcell _ _ q0) hbr hb0'
    have c1 : wr.cell? ⟨b0, o0 + k * 2 + 1, none⟩ = some (.string x2) := keep_cell (by have := hcell _ _ q1; rwa [← Nat.add_assoc] at this) hbr hb0'
    have c2 : wr.cell? ⟨b1, o1 + k * 2, none⟩ = some (.string y1) := keep_cell (hcell' _ _ q2) hbr hb1'
    have c3 : wr.cell? ⟨b1, o1 + k * 2 + 1, none⟩ = some (.string y2) := keep_cell (by have := hcell' _ _ q3; rwa [← Nat.add_assoc] at this) hbr hb1'
    clear hcell hcell' q0 q1 q2 q3
    by_cases h1 : x1 = y1
    ·have hb1 : (x1.toList == y1.toList) = true := bytes_eq_iff.2 h1
     by_cases h2 : x2 = y2
     ·have hb2 : (x2.toList == y2.toList) = true := bytes_eq_iff.2 h2
      have HN : Hid (xs.take (k + 1) = ys.take (k + 1)) := take_step HT.out hkl hkl2 (by rw [hxe, hye, h1, h2])
      clear h1 h2 hxe hye
      go_wp2
      go_quiet (fail)
      have hb2 : Below w.heap.size w (wr.drewN nq) := bl_drewN hbr nq
      generalize wr.drewN nq = wq at *
      go_wp2
      go_roundw
      case rel => exact ⟨k + 1, by omega, by go_num, HN, hb2⟩
      case measure => simp [intOf]; omega
     ·have hb2 : (x2.toList == y2.toList) = false := by rw [bytes_beq]; exact decide_eq_false h2
      have HN : Hid (xs ≠ ys) := ne_at hkl hkl2 (by rw [hxe, hye]; intro h; exact h2 (congrArg Prod.snd h))
      clear h1 h2 hxe hye
      go_wp2
      go_quiet (fail)
      have hb2 : Below w.heap.size w (wr.drewN nq) := bl_drewN hbr nq
      generalize wr.drewN nq = wq at *
      go_wp2
      go_ret
      exact ⟨by rw [decide_eq_false HN.out]; rfl, hb2⟩
    ·have hb1 : (x1.toList == y1.toList) = false := by rw [bytes_beq]; exact decide_eq_false h1
     have HN : Hid (xs ≠ ys) := ne_at hkl hkl2 (by rw [hxe, hye]; intro h; exact h1 (congrArg Prod.fst h))
     clear h1 hxe hye
     go_wp2
     go_quiet (fail)
     have hb2 : Below w.heap.size w (wr.drewN nq) := bl_drewN hbr nq
     generalize wr.drewN nq = wq at *
     go_wp2
     go_ret
     exact ⟨by rw [decide_eq_false HN.out]; rfl, hb2⟩
   ·obtain rfl : k = xs.length := by omega
    have HN : Hid (xs = ys) := take_done HLEN.out HT.out
    clear HT
    go_wp2
    go_ret
    exact ⟨by rw [decide_eq_true HN.out]; rfl, hbr⟩
 ·have hlen' : ¬ (xs.length : Int) = (ys.length : Int) := by omega
  go_enter Tryz.func34, Tryz.ntmps34
  go_wp2
  go_ret
  exact ⟨by rw [decide_eq_false (fun h => hlen (by rw [h]))]; rfl, Below.refl _ _⟩
end Go.Proofs.YtgbapkechngnmaaGreat
/- What MatchFields and MatchPicks say, plainly: values of fields with one, without one, of some names. -/
namespace Go.Proofs.YtgbapkechngnmaaGreat
open Go.RowKit

theorem valF_none {l : List Fld} {n : ByteArray} (h : ∀ f ∈ l, f.1 ≠ n) : valueF l n = ⟨#[]⟩ := by
 unfold valueF
 have : (l.find? fun f => f.1.toList == n.toList) = none := List.find?_eq_none.2 (fun f hf => by
  have := eqN_no.2 (h f hf)
  unfold eqN at this
  rw [this]; decide)
 rw [this]
theorem valF_mem {l : List Fld} (h : SortF l) : ∀ f ∈ l, valueF l f.1 = f.2 := by
 intro f hf
 unfold valueF
 cases hx : l.find? fun x => x.1.toList == f.1.toList with
 | none =>
  have := List.find?_eq_none.1 hx f hf
  simp at this
 | some g =>
  have hg := List.mem_of_find?_eq_some hx
  have he : g.1 = f.1 := by
   have := List.find?_some hx
   exact toListW_inj (by simpa using this)
  obtain ⟨i, hi, rfl⟩ := List.getElem_of_mem hf
  obtain ⟨j, hj, rfl⟩ := List.getElem_of_mem hg
  rcases Nat.lt_trichotomy i j with hij | rfl | hij
  ·exact absurd he.symm (ltW_ne (List.pairwise_iff_getElem.1 h i j hi hj hij))
  ·rfl
  ·exact absurd he (ltW_ne (List.pairwise_iff_getElem.1 h j i hj hi hij))
theorem valF_ow {l : List Fld} {nm val : ByteArray} (h : SortF l) : valueF (owL l nm val) nm = val :=
 valF_mem (sort_ow h) (nm, val) ((mem_ow (f := (nm, val)) h).2 (.inl rfl))
theorem valF_wo (l : List Fld) (nm : ByteArray) : valueF (woL l nm) nm = ⟨#[]⟩ :=
 valF_none (fun f hf => by
  have := (List.mem_filter.1 hf).2
  rw [Bool.not_eq_true'] at this
  exact eqN_no.1 this)
theorem valF_rest {l : List Fld} {ns : List ByteArray} : ∀ f ∈ pickL l ns, valueF (restL l ns) f.1 = ⟨#[]⟩ := by
 intro f hf
 refine valF_none (fun g hg e => ?_)
 rw [rest_eq] at hg
 have a := (List.mem_filter.1 hf).2
 have b := (List.mem_filter.1 hg).2
 unfold inN at a b
 rw [e, a] at b
 cases b
theorem ow_fit {l : List Fld} {nm val : ByteArray} (h : FldsFit l) (h1 : nm.size ≤ maxLen) (h2 : val.size ≤ maxLen) : FldsFit (owL l nm val) := by
 intro f hf
 unfold owL at hf
 have hw : ∀ g ∈ woL l nm, g.1.size ≤ maxLen ∧ g.2.size ≤ maxLen := fun g hg => h g (List.mem_filter.1 hg).1
 rcases List.mem_append.1 hf with hf | hf
 ·exact hw f (List.mem_of_mem_take hf)
 ·rcases List.mem_cons.1 hf with rfl | hf
  ·exact ⟨h1, h2⟩
  ·exact hw f (List.mem_of_mem_drop hf)
theorem wo_le (l : List Fld) (nm : ByteArray) : (woL l nm).length ≤ l.length := List.length_filter_le _ _
theorem ow_le (l : List Fld) (nm val : ByteArray) : (owL l nm val).length ≤ l.length + 1 := by
 have := wo_le l nm
 unfold owL
 rw [List.length_append, List.length_cons, List.length_take, List.length_drop]
 omega
theorem sort_right {l : List Fld} (h : rightF l = true) : SortF l := ((right_iff l).1 h).2.1
theorem rest_step {l : List Fld} {ns : List ByteArray} {k : Nat} (h : k < ns.length) : restL l (ns.take (k + 1)) = woL (restL l (ns.take k)) ns[k] := by
 unfold restL
 rw [List.take_succ_eq_append_getElem h, List.foldl_append]
 rfl
theorem allW_step {l p : List Fld} {k : Nat} (h : k < p.length) : allW l (p.take (k + 1)) = owL (allW l (p.take k)) p[k].1 p[k].2 := by
 unfold allW
 rw [List.take_succ_eq_append_getElem h, List.foldl_append]
 rfl
theorem rest_le (l : List Fld) (ns : List ByteArray) : (restL l ns).length ≤ l.length := by
 rw [rest_eq]; exact List.length_filter_le _ _
theorem rest_fit {l : List Fld} (h : FldsFit l) (ns : List ByteArray) : FldsFit (restL l ns) := by
 rw [rest_eq]; exact fun g hg => h g (List.mem_filter.1 hg).1
theorem pick_fit {l : List Fld} (h : FldsFit l) (ns : List ByteArray) : FldsFit (pickL l ns) := fun g hg => h g (List.mem_filter.1 hg).1
theorem rest_right {l : List Fld} (h : rightF l = true) (ns : List ByteArray) : rightF (restL l ns) = true := by
 rw [rest_eq]; exact right_filter _ h
theorem allW_fit {l p : List Fld} (h : FldsFit l) (hp : FldsFit p) (k : Nat) : FldsFit (allW l (p.take k)) ∧ (allW l (p.take k)).length ≤ l.length + k := by
 induction k with
 | zero => exact ⟨by simpa [allW] using h, by simp [allW]⟩
 | succ k ih =>
  by_cases hk : k < p.length
  ·rw [allW_step hk]
   have := hp p[k] (List.getElem_mem hk)
   refine ⟨ow_fit ih.1 this.1 this.2, ?_⟩
   have := ow_le (allW l (p.take k)) p[k].1 p[k].2
   omega
  ·rw [List.take_of_length_le (by omega)]
   rw [List.take_of_length_le (by omega)] at ih
   exact ⟨ih.1, by omega⟩
theorem same_dec (l : List Fld) : decide (l = l) = true := decide_eq_true rfl
end Go.Proofs.YtgbapkechngnmaaGreat
/- MatchPicks: the law's walk: whatever the arguments, it returns true. No condition. (Region 14 is printed by wip/genmapw.py.) -/
namespace Go.Proofs.YtgbapkechngnmaaGreat
open Go.RowKit

theorem value_pick (l : List Fld) (f : Fld) (w : World) (v : Value) (hs : SortF l) (hf : f ∈ l) (hv : FldsAt w v l) (hl : l.length ≤ 1000) :
  Calls Tryz.prog 16 #[v, .string f.1] w fun e w' => e = .returned (.string f.2) ∧ Below w.heap.size w w' := by
 have := value_any l f.1 w v hv (by omega)
 rwa [valF_mem hs f hf] at this
theorem value_rest (l : List Fld) (ns : List ByteArray) (f : Fld) (w : World) (v : Value) (hf : f ∈ pickL l ns) (hv : FldsAt w v (restL l ns)) (hl : l.length ≤ 1000) :
  Calls Tryz.prog 16 #[v, .string f.1] w fun e w' => e = .returned (.string ⟨#[]⟩) ∧ Below w.heap.size w w' := by
 have := value_any (restL l ns) f.1 w v hv (by have := rest_le l ns; omega)
 rwa [valF_rest f hf] at this
theorem rsame_is (xs : List Fld) (w : World) (u v : Value) (hx : FldsAt w u xs) (hy : FldsAt w v xs) (hl : xs.length ≤ maxLen) :
  Calls Tryz.prog 34 #[u, v] w fun e w' => e = .returned (.bool true) ∧ Below w.heap.size w w' := by
 have := rsame6_any xs xs w u v hx hy hl hl
 rwa [same_dec] at this
namespace lawPicks
set_option maxHeartbeats 3200000 in
set_option maxRecDepth 100000 in
theorem walk (v0 : Value) (l : List Fld) (v2 : Value) (ns0 : List ByteArray) (w : World) (hv : ArgFlds w v0 l) (hn : ArgNms w v2 ns0) :
  Calls Tryz.prog 10 #[v0, v2] w fun e w' => e = .returned (.bool true) ∧ Below w.heap.size w w' := by
 have kl := lives6_any w
 have KG := Lib.hid (fun W (h : Below w.heap.size w W) => rgood6_any l W v0 (hv.1.later h) hv.2.2 hv.2.1)
 obtain ⟨na, nn, nc, rfl, hnn, hnc, hcut⟩ := cut_nms hn.1
 have hnl := hn.2.1
 rw [← hnn] at hnl
 have hNl : (ns0.take 20).length ≤ 20 := by rw [List.length_take]; omega
 have HN := Lib.hid hcut
 unfold maxLen at hnl
 have hmin2 : (0 : Int) ≤ min (nn : Int) 20 := by omega
 have hmin3 : min (nn : Int) 20 ≤ (nc : Int) := by omega
 have hNe : (min (nn : Int) 20).toNat = (ns0.take 20).length := by rw [List.length_take]; omega
 rw [hNe] at HN
 have HNE := Lib.hid hNe
 generalize ns0.take 20 = N at *
 clear hv hn hcut hnn
 go_enter Tryz.func10, Tryz.ntmps10
 go_wp2_with fail
 refine kl.mono ?_
 rintro e w1 ⟨rfl, hb1⟩
 have HB1 := Lib.hid hb1
 have kg := KG.out w1 HB1.out
 clear kl hb1 KG
 go_wp2_with fail
 refine kg.mono ?_
 rintro e w2 ⟨gv, rfl, hgv, hgf, hgr, _, hb2⟩
 have HB2 := Lib.hid (HB1.out.trans (hb2.mono HB1.out.size))
 have HG2 := Lib.hid hgv
 have HGF := Lib.hid hgf
 have HGR := Lib.hid hgr
 have hgl := ((right_iff _).1 hgr).1
 have HN2 := Lib.hid (HN.out.later HB2.out)
 generalize goodF l = L at *
 have HGS := Lib.hid (sort_right HGR.out)
 have kp := pick_any L N gv _ w2 HG2.out (by omega) HN2.out (by omega)
 clear kg hb2 hgv hgf hgr HN
 go_upto_region 5 with fail
 clear hmin2 hmin3 hNe HNE
 go_wp2_with fail
 refine kp.mono ?_
 rintro e w3 ⟨pv, rfl, hpv, hb3⟩
 have HB3 := Lib.hid (HB2.out.trans (hb3.mono HB2.out.size))
 have HP3 := Lib.hid (show FldsAt w3 pv (pickL L N) from RdAt.own hpv)
 have HG3 := Lib.hid (HG2.out.later hb3)
 have HN3 := Lib.hid (HN2.out.later hb3)
 have hPl := pick_le L N
 obtain ⟨na', nc', hnv, hnc', hncell⟩ := RdAt.shape HN3.out
 cases hnv
 have HNC := Lib.hid hncell
 clear kp hb3 hpv hncell HN2 HG2
 go_wp2_with fail
 go_loopw [6, 7] (fun s6 s7 wr => ∃ (k : Nat) (rv : Value), s7 = .int .i64 k ∧ rv = s6 ∧ k ≤ N.length ∧ Hid (FldsAt wr rv (restL L (N.take k))) ∧ Hid (Below w3.heap.size w3 wr)) (fun _ v _ => N.length - (intOf v).toNat)
 case atStart => exact ⟨0, _, rfl, rfl, Nat.zero_le _, HG3, Lib.hid (Below.refl _ _)⟩
 case round =>
  obtain ⟨k, rv, rfl, rfl, hk, HRV, HB⟩ := hrel
  by_cases hkl : k < N.length
  ·have hkl' : (k : Int) < (N.length : Int) := by omega
   have hk0 : (0 : Int) ≤ (k : Int) := by omega
   obtain ⟨ng, no, rfl, hng, hcell⟩ := HNC.out (by omega)
   obtain ⟨y, hy⟩ : ∃ y, N[k] = y := ⟨_, rfl⟩
   have c0 := keep_cell (hcell k _ (by rw [List.getElem?_map, List.getElem?_eq_getElem hkl, hy]; rfl)) HB.out hng
   have hRl := rest_le L (N.take k)
   have kw := without_any (restL L (N.take k)) y rv wr HRV.out (by omega)
   have HST := Lib.hid (rest_step (l := L) hkl)
   rw [hy] at HST
   rw [← HST.out] at kw
   clear hcell hy
   go_wp2_with fail
   refine kw.mono ?_
   rintro e w4 ⟨v4, rfl, hv4, hb4⟩
   have H4 := Lib.hid (show FldsAt w4 v4 (restL L (N.take (k + 1))) from RdAt.own hv4)
   have HB4 := Lib.hid (HB.out.trans (hb4.mono HB.out.size))
   clear kw hv4 hb4 c0 HST HRV HB
   go_wp2
   go_roundw
   case rel => exact ⟨k + 1, v4, by go_num, rfl, by omega, H4, HB4⟩
   case measure => (simp [intOf]; try omega)
  ·obtain rfl : k = N.length := by omega
   have hkl' : ¬ (N.length : Int) < (N.length : Int) := by omega
   have HR4 : Hid (FldsAt wr rv (restL L N)) := Lib.hid (by have := HRV.out; rwa [List.take_length] at this)
   have HB4 := Lib.hid HB.out
   have HP4 := Lib.hid (HP3.out.later HB.out)
   have HG4 := Lib.hid (HG3.out.later HB.out)
   obtain ⟨w4, rfl⟩ : ∃ z, z = wr := ⟨_, rfl⟩
   clear HRV HB HN3 HNC
   have HLN := Lib.hid (pick_len (l := L) (ns := N))
   have HPF := Lib.hid (pick_fit HGF.out N)
   have HRF := Lib.hid (rest_fit HGF.out N)
   have hRl := rest_le L N
   have HPM : Hid (∀ f ∈ pickL L N, f ∈ L) := Lib.hid (fun f hf => (List.mem_filter.1 hf).1)
   have HPR := Lib.hid (pick_rest (ns := N) HGS.out)
   have KV := Lib.hid (fun (f : Fld) (hf : f ∈ pickL L N) W (h : Below w4.heap.size w4 W) => value_pick L f W gv HGS.out (HPM.out f hf) (HG4.out.later h) (by omega))
   have KW := Lib.hid (fun (f : Fld) (hf : f ∈ pickL L N) W (h : Below w4.heap.size w4 W) => value_rest L N f W rv hf (HR4.out.later h) (by omega))
   have KP := Lib.hid (fun W (h : Below w4.heap.size w4 W) => rightf_any (pickL L N) W pv (HP4.out.later h) HPF.out (by unfold maxLen; omega))
   have KR := Lib.hid (fun W (h : Below w4.heap.size w4 W) => rightf_any (restL L N) W rv (HR4.out.later h) HRF.out (by unfold maxLen; omega))
   rw [show rightF (pickL L N) = true from right_filter _ HGR.out] at KP
   rw [rest_right HGR.out N] at KR
   generalize pickL L N = P at *
   generalize restL L N = R at *
   obtain ⟨pa, pc, rfl, hpc, hpr⟩ := RdAt.shape HP4.out
   have HPC := Lib.hid hpr
   clear hpr
   go_wp2_with fail
   go_loopw [8] (fun s8 wr => ∃ k : Nat, s8 = .int .i64 k ∧ k ≤ P.length ∧ Hid (Below w4.heap.size w4 wr)) (fun v _ => P.length - (intOf v).toNat)
   case atStart => exact ⟨0, rfl, Nat.zero_le _, Lib.hid (Below.refl _ _)⟩
   case round =>
    obtain ⟨k, rfl, hk, HB⟩ := hrel
    by_cases hkp : k < P.length
    ·have hkp' : (k : Int) < (P.length : Int) := by omega
     have hk0 : (0 : Int) ≤ (k : Int) := by omega
     obtain ⟨pg, po, rfl, hpg, hpcell⟩ := HPC.out (by omega)
     obtain ⟨x, hx⟩ : ∃ x, P[k] = x := ⟨_, rfl⟩
     have hmem : x ∈ P := by rw [← hx]; exact List.getElem_mem hkp
     obtain ⟨q0, q1⟩ := fldCells_at P k hkp
     rw [hx] at q0 q1
     have p0 := keep_cell (hpcell _ _ q0) HB.out hpg
     have p1 := keep_cell (hpcell _ _ q1) HB.out hpg
     rw [← Nat.add_assoc] at p1
     have hpgr : pg < wr.heap.size := Nat.lt_of_lt_of_le hpg HB.out.size
     have SK : Hid (∀ W, Below wr.heap.size wr W → W.cell? ⟨pg, po + k * 2, none⟩ = some (.string x.1) ∧ W.cell? ⟨pg, po + k * 2 + 1, none⟩ = some (.string x.2)) := Lib.hid (fun W h => ⟨keep_cell p0 h hpgr, keep_cell p1 h hpgr⟩)
     have k1 := Lib.hid (fun W (h : Below wr.heap.size wr W) => KV.out x hmem W (HB.out.trans (h.mono HB.out.size)))
     have k2 := Lib.hid (fun W (h : Below wr.heap.size wr W) => KW.out x hmem W (HB.out.trans (h.mono HB.out.size)))
     clear hx q0 q1 hpcell hmem p0 p1 hpg hpgr
     obtain ⟨nm, val⟩ := x
     dsimp only at *
     have hne : (!(val.toList == val.toList)) = false := by simp
     go_upto_region 14 with fail
     refine wp_region_held_drew (S := (fun W => W.cell? ⟨pg, po + k * 2, none⟩ = some (.string nm) ∧ W.cell? ⟨pg, po + k * 2 + 1, none⟩ = some (.string val))) (by kernel_rfl) (SK.out _ ((Below.refl _ _).drew)) (fun hHeld => ?_)
     have hbd : Below wr.heap.size wr wr.drew := (Below.refl _ _).drew
     have HBD := Lib.hid hbd
     clear hbd
     generalize wr.drew = wd at *
     refine plIn [0, 1, 2, 3, 4, 5, 7, 8, 9, 10, 11] ?_
     iterate 11
      refine hP (v := ?_) rfl rfl hHeld ?_ ?_
      rotate_left
      ·rintro wh ⟨z0, z1⟩
       go_simp
       (try with_reducible rfl)
      simp only [Act.put, List.setIfInBounds_toArray, List.set_cons_zero, List.set_cons_succ]
     refine plOut ?_
     refine held_call (i := 6) rfl (by kernel_rfl) (by rfl) (fun K hK => ?_)
     go_simp; refine (k1.out _ HBD.out).mono ?_; rintro e x1 ⟨rfl, hb1⟩; have HL1 := Lib.hid (HBD.out.trans (hb1.mono HBD.out.size)); clear hb1
     refine hK.out _ _ (SK.out _ HL1.out) (fun hHeld => ?_)
     clear hK K
     (try simp only [Act.put, List.setIfInBounds_toArray, List.set_cons_zero, List.set_cons_succ])
     refine plIn [12, 13, 14, 15, 16, 17, 18, 19] ?_
     iterate 8
      refine hP (v := ?_) rfl rfl hHeld ?_ ?_
      rotate_left
      ·rintro wh ⟨z0, z1⟩
       go_simp
       (try with_reducible rfl)
      simp only [Act.put, List.setIfInBounds_toArray, List.set_cons_zero, List.set_cons_succ]
     refine plOut ?_
     refine held_call (i := 20) rfl (by kernel_rfl) (by rfl) (fun K hK => ?_)
     go_simp; refine (k2.out _ HL1.out).mono ?_; rintro e x2 ⟨rfl, hb2⟩; have HL2 := Lib.hid (HL1.out.trans (hb2.mono HL1.out.size)); clear hb2
     refine hK.out _ _ (SK.out _ HL2.out) (fun hHeld => ?_)
     clear hK K
     (try simp only [Act.put, List.setIfInBounds_toArray, List.set_cons_zero, List.set_cons_succ])
     refine plIn [21, 22] ?_
     iterate 2
      refine hP (v := ?_) rfl rfl hHeld ?_ ?_
      rotate_left
      ·rintro wh ⟨z0, z1⟩
       go_simp
       (try with_reducible rfl)
      simp only [Act.put, List.setIfInBounds_toArray, List.set_cons_zero, List.set_cons_succ]
     refine plOut ?_
     refine plIn [23, 24, 25, 26, 27, 28] ?_
     iterate 6
      refine hK rfl rfl hHeld ?_
      simp only [Act.put, List.setIfInBounds_toArray, List.set_cons_zero, List.set_cons_succ]
     refine plOut ?_
     refine plIn [29, 30] ?_
     iterate 2
      refine hP (v := ?_) rfl rfl hHeld ?_ ?_
      rotate_left
      ·rintro wh ⟨z0, z1⟩
       go_simp
       (try with_reducible rfl)
      simp only [Act.put, List.setIfInBounds_toArray, List.set_cons_zero, List.set_cons_succ]
     refine plOut ?_
     refine wpAnyH_done (by kernel_rfl) ?_ _
     have HE := Lib.hid (HB.out.trans (HL2.out.mono HB.out.size))
     go_wp2
     go_roundw
     case rel => exact ⟨k + 1, by go_num, by omega, HE⟩
     case measure => (simp [intOf]; try omega)
    ·obtain rfl : k = P.length := by omega
     have hkp' : ¬ (P.length : Int) < (P.length : Int) := by omega
     have HB5 := Lib.hid HB.out
     obtain ⟨w5, rfl⟩ : ∃ z, z = wr := ⟨_, rfl⟩
     have HR5 := Lib.hid (HR4.out.later HB.out)
     obtain ⟨ra, rc, rfl, hrc, _⟩ := RdAt.shape HR5.out
     clear HB KV KW
     go_wp2_with fail
     go_loopw [9, 10] (fun s9 s10 wr => ∃ (k : Nat) (av : Value), s10 = .int .i64 k ∧ av = s9 ∧ k ≤ P.length ∧ Hid (FldsAt wr av (allW R (P.take k))) ∧ Hid (Below w5.heap.size w5 wr)) (fun _ v _ => P.length - (intOf v).toNat)
     case atStart => exact ⟨0, _, rfl, rfl, Nat.zero_le _, HR5, Lib.hid (Below.refl _ _)⟩
     case round =>
      obtain ⟨k, av, rfl, rfl, hk, HAV, HB⟩ := hrel
      have HB45 := Lib.hid (HB5.out.trans (HB.out.mono HB5.out.size))
      by_cases hkp : k < P.length
      ·have hkp' : (k : Int) < (P.length : Int) := by omega
       have hk0 : (0 : Int) ≤ (k : Int) := by omega
       obtain ⟨pg, po, rfl, hpg, hpcell⟩ := HPC.out (by omega)
       obtain ⟨x, hx⟩ : ∃ x, P[k] = x := ⟨_, rfl⟩
       obtain ⟨q0, q1⟩ := fldCells_at P k hkp
       rw [hx] at q0 q1
       have p0 := keep_cell (hpcell _ _ q0) HB45.out hpg
       have p1 := keep_cell (hpcell _ _ q1) HB45.out hpg
       rw [← Nat.add_assoc] at p1
       have hAl := (allW_fit HRF.out HPF.out k).2
       have HST := Lib.hid (allW_step (l := R) hkp)
       rw [hx] at HST
       have hpgr : pg < wr.heap.size := Nat.lt_of_lt_of_le hpg HB45.out.size
       have SK : Hid (∀ W, Below wr.heap.size wr W → W.cell? ⟨pg, po + k * 2, none⟩ = some (.string x.1) ∧ W.cell? ⟨pg, po + k * 2 + 1, none⟩ = some (.string x.2)) := Lib.hid (fun W h => ⟨keep_cell p0 h hpgr, keep_cell p1 h hpgr⟩)
       have kw := Lib.hid (fun W (h : Below wr.heap.size wr W) => with_any (allW R (P.take k)) x.1 x.2 av W (HAV.out.later h) (by omega))
       rw [← HST.out] at kw
       clear hx q0 q1 hpcell p0 p1 hpg hpgr HST
       obtain ⟨nm, val⟩ := x
       dsimp only at *
       go_upto_region 20 with fail
       refine wp_region_held_drew (S := (fun W => W.cell? ⟨pg, po + k * 2, none⟩ = some (.string nm) ∧ W.cell? ⟨pg, po + k * 2 + 1, none⟩ = some (.string val))) (by kernel_rfl) (SK.out _ ((Below.refl _ _).drew)) (fun hHeld => ?_)
       have hbd : Below wr.heap.size wr wr.drew := (Below.refl _ _).drew
       have HBD := Lib.hid hbd
       clear hbd
       generalize wr.drew = wd at *
       refine plIn [0, 1, 2, 3, 4, 5, 6, 7, 8, 9, 10] ?_
       iterate 11
        refine hP (v := ?_) rfl rfl hHeld ?_ ?_
        rotate_left
        ·rintro wh ⟨z0, z1⟩
         go_simp
         (try with_reducible rfl)
        simp only [Act.put, List.setIfInBounds_toArray, List.set_cons_zero, List.set_cons_succ]
       refine plOut ?_
       refine held_call (i := 11) rfl (by kernel_rfl) (by rfl) (fun K hK => ?_)
       go_simp; refine (kw.out _ HBD.out).mono ?_; rintro e x1 ⟨y1, rfl, hy1, hb1⟩; have HL1 := Lib.hid (HBD.out.trans (hb1.mono HBD.out.size)); have HX1 := Lib.hid hy1; clear hy1; clear hb1
       refine hK.out _ _ (SK.out _ HL1.out) (fun hHeld => ?_)
       clear hK K
       (try simp only [Act.put, List.setIfInBounds_toArray, List.set_cons_zero, List.set_cons_succ])
       refine hT (i := 12) (v := ?_) rfl rfl hHeld ?_ ?_
       rotate_left
       ·rintro wh ⟨z0, z1⟩
        go_simp
        (try with_reducible rfl)
       simp only [Act.put, List.setIfInBounds_toArray, List.set_cons_zero, List.set_cons_succ]
       refine wpAnyH_done (by kernel_rfl) ?_ _
       have HE := Lib.hid (HB.out.trans (HL1.out.mono HB.out.size))
       go_wp2
       go_roundw
       case rel => exact ⟨k + 1, y1, by go_num, rfl, by omega, HX1, HE⟩
       case measure => (simp [intOf]; try omega)
      ·obtain rfl : k = P.length := by omega
       have hkp' : ¬ (P.length : Int) < (P.length : Int) := by omega
       have HA6 : Hid (FldsAt wr av L) := Lib.hid (by have := HAV.out; rwa [List.take_length, HPR.out] at this)
       have HG6 := Lib.hid (HG4.out.later HB45.out)
       obtain ⟨w6, rfl⟩ : ∃ z, z = wr := ⟨_, rfl⟩
       have kp := KP.out w6 HB45.out
       have KS := Lib.hid (fun W (h : Below w6.heap.size w6 W) => rsame_is L W av gv (HA6.out.later h) (HG6.out.later h) (by unfold maxLen; omega))
       obtain ⟨ga, gc, rfl, _, _⟩ := RdAt.shape HG6.out
       have hsum : (P.length : Int) + (R.length : Int) = (L.length : Int) := by have := HLN.out; omega
       have hPR := HLN.out
       clear HAV HA6 HG6 KP
       go_wp2_with fail
       refine kp.mono ?_
       rintro e w7 ⟨rfl, hb7⟩
       have H7 := Lib.hid hb7
       have kr := KR.out w7 (HB45.out.trans (hb7.mono HB45.out.size))
       clear kp hb7 KR
       go_wp2_with fail
       refine kr.mono ?_
       rintro e w8 ⟨rfl, hb8⟩
       have H8 := Lib.hid (H7.out.trans (hb8.mono H7.out.size))
       have ks := KS.out w8 H8.out
       clear kr hb8 KS
       go_wp2_with fail
       refine ks.mono ?_
       rintro e w9 ⟨rfl, hb9⟩
       have H9 := Lib.hid (H8.out.trans (hb9.mono H8.out.size))
       have HF := Lib.hid (HB3.out.trans ((HB4.out.trans ((HB45.out.trans (H9.out.mono HB45.out.size)).mono HB4.out.size)).mono HB3.out.size))
       clear ks hb9
       go_wp2
       go_ret
       exact ⟨rfl, HF.out⟩
end lawPicks
end Go.Proofs.YtgbapkechngnmaaGreat
/- MatchPicks: the card: whatever the arguments, the law returns true and its arguments read as they did. No condition. -/
namespace Go.Proofs.YtgbapkechngnmaaGreat.lawPicks
open Go.ChangeShapes Go.WideShapes Go.ChangeAt Go.RowKit
open Go.ChangeMaps (open_string)

set_option maxRecDepth 100000 in
theorem contract (H : Type) (enc : TypeId × Value → H) (W : World) (base : Nat) (args : Array Value) (ds gs : List (DataW H)) (before : List MemPlace)
  (hval : ∀ (j : Nat) t v, Tryz.f10.params[j]? = some t → args[j]? = some v → Value.okWide Tryz.prog W .any base t v)
  (hW : DataW.Whole enc Tryz.prog Tryz.f10.params.toList Rows.matchPicksSpec.vars false W args.toList ds gs before) :
  Calls Tryz.prog 10 args W fun e W' => ∃ v, e = .returned v ∧ Rows.matchPicksSpec.post enc Tryz.prog Tryz.f10 false true false false W args v W' := by
 have hW' := hW
 obtain ⟨p, q, hA0, hV, rfl, hfz, hnd⟩ := hW
 have hA : DataW.TrodAll enc Tryz.prog W 0 (fun _ => true) true Tryz.f10.params.toList args.toList ds p := hA0
 rw [Tryz.params10] at hA hval
 obtain ⟨v0, vs0, d0, ds0, p0, q0, hargs, rfl, rfl, h0, r0⟩ := trodAll_cons hA
 obtain ⟨v1, vs1, d1, ds1, p1, q1, rfl, rfl, rfl, h1, r1⟩ := trodAll_cons r0
 obtain ⟨rfl, rfl, rfl⟩ := trodAll_nil r1
 obtain rfl : args = #[v0, v1] := by cases args; simp_all
 obtain ⟨rfl, rfl⟩ := trodVars_none hV
 obtain ⟨x0, hx0⟩ := flds_of_arg (hval 0 22 v0 rfl rfl) h0
 obtain ⟨x1, hx1⟩ := nms_of_arg (hval 1 49 v1 rfl rfl) h1
 clear hA0
 refine (walk v0 x0 v1 x1 W hx0 hx1).mono ?_
 rintro e W' ⟨rfl, hb⟩
 exact ⟨_, rfl, law_post laidOut Tryz.underlying4 rfl rfl (by kernel_rfl) hW' rfl rfl rfl hb⟩

theorem laid_met (os : Os) : laidMet Tryz.prog Rows.matchPicksRow.laid ((laidWorld os).forCall (fun _ _ => 0) ⟨#[], #[.slice none 0 0, .slice none 0 0], []⟩).memory :=
 ⟨[], rfl, List.nodup_nil, fun _ _ h => by cases h⟩
theorem reads (os : Os) {H : Type} (enc : TypeId × Value → H) : ∃ places, DataW.whole enc Tryz.prog ((laidWorld os).forCall (fun _ _ => 0) ⟨#[], #[.slice none 0 0, .slice none 0 0], []⟩).memory Tryz.f10.params.toList Rows.matchPicksSpec.vars false (#[.slice none 0 0, .slice none 0 0] : Array Value).toList 8 = some ([.nil, .nil], [], places) :=
 ⟨[], by kernel_rfl⟩

set_option maxRecDepth 100000 in
theorem lifted (os : Os) (started : os.Started) (H : Type) (enc : TypeId × Value → H) (F : Stop.Interp) :
  ReturnsInHanded {} Tryz.checked os 10 .any ((OpenSpec.ofChange Rows.matchPicksSpec).preRow enc Tryz.prog Tryz.f10 Rows.matchPicksRow.domain false Rows.matchPicksRow.laid) (((OpenSpec.ofChange Rows.matchPicksSpec).at F).post enc Tryz.prog Tryz.f10 false true false false) := by
 obtain ⟨places, hx⟩ := reads os enc
 refine returnsInHanded_of_row (C := Tryz.checked) (s := OpenSpec.ofChange Rows.matchPicksSpec) ownNone started (by kernel_rfl) Tryz.func10
  (witness_row_at (enc := enc) (C := Tryz.checked) false (laidWorld os) #[.slice none 0 0, .slice none 0 0] rfl (by kernel_rfl) (by kernel_rfl) (by kernel_rfl)
   (OpenSpec.preRow_of_cond 8 hx (by kernel_rfl) (fun k hk => by cases hk) (by kernel_rfl) (laid_met os))) ?_
 intro W base args ds gs before hval hW _ _ _ _ _ _
 exact contract H enc W base args ds gs before hval hW

theorem said : Rows.MatchPicksSaid :=
 OpenClaim.holds_of_cond 10 Tryz.f10 rfl rfl rfl rfl rfl rfl rfl ⟨rfl, rfl, rfl, rfl, rfl⟩ rfl rfl rfl rfl rfl (by kernel_rfl) Tryz.func10 (by kernel_rfl)
  (of_decide_eq_true (by kernel_rfl)) (by unfold Func.isWrapper; first | (rw [if_pos (by decide +kernel)]; kernel_rfl) | (rw [if_neg (by decide +kernel)]; exact ⟨rfl, rfl⟩))
  (fun os started H enc _ F => by rw [OpenClaim.pre_eq_preRow]; exact lifted os started H enc F)

end Go.Proofs.YtgbapkechngnmaaGreat.lawPicks
