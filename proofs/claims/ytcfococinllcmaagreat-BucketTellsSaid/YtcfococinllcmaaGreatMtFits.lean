/- match.Fits: a contract. -/
import Derived.Test.YtcfococinllcmaaGreatMtI
import Derived.Test.YtcfococinllcmaaGreatHeld
namespace Go.Proofs.YtcfococinllcmaaGreat
open Go.RowKit

/-- does a text fit? -/
noncomputable def fitB (p t : ByteArray) : Bool := @decide (FitsP p t) (Classical.propDecidable _)
theorem fitB_iff {p t : ByteArray} : fitB p t = true ↔ FitsP p t := @decide_eq_true_iff _ (Classical.propDecidable _)
theorem fits_b (p t : ByteArray) (W : World) (ht : t.size ≤ maxLen) : Calls Tryz.prog 118 #[.string p, .string t] W fun e w' => e = .returned (.bool (fitB p t)) ∧ Below W.heap.size W w' := by
  refine (tfits_is p t W ht).mono ?_
  rintro e w' ⟨b, rfl, h1, h2⟩
  have : b = fitB p t := by rw [Bool.eq_iff_iff, fitB_iff]; exact h1
  rw [this]
  exact ⟨rfl, h2⟩
/-- does a matcher fit fields? -/
noncomputable def opM (m : Mt) (v : ByteArray) : Bool :=
  if m.op = 0 then v.toList == m.val.toList else if m.op = 1 then !(v.toList == m.val.toList) else if m.op = 2 then fitB m.val v else !(fitB m.val v)
noncomputable def fitM (l : List Fld) (m : Mt) : Bool := fineM m && opM m (valueF l m.nm)
theorem valueF_size {l : List Fld} (hf : FldsFit l) (n : ByteArray) : (valueF l n).size ≤ maxLen := by
  unfold valueF
  split
  · rename_i f h
    exact (hf f (List.mem_of_find?_eq_some h)).2
  · exact Nat.zero_le _
theorem not_fn (g : Nat) (w : World) : Calls Tryz.prog 117 #[.func (.func g) #[] #[]] w fun e w' => e = .returned (.func (.func 134) #[] #[.pointer (some ⟨w.heap.size, 0, none⟩)]) ∧ w' = w.alloc (.cells #[.func (.func g) #[] #[]] 179) := by
  go_enter Tryz.func117, Tryz.ntmps117
  go_wp2
  go_ret
  exact ⟨rfl, rfl⟩
theorem not_is (a v : ByteArray) (b : Nat) (w : World) (hc : w.cell? ⟨b, 0, none⟩ = some (.func (.func 116) #[] #[])) : Calls Tryz.prog 134 #[.string a, .string v, .pointer (some ⟨b, 0, none⟩)] w fun e w' => e = .returned (.bool (!(v.toList == a.toList))) ∧ Below w.heap.size w w' := by
  have k := is_any a v w
  go_enter Tryz.func134, Tryz.ntmps134
  go_wp2_with fail
  refine k.mono ?_
  rintro e w1 ⟨rfl, hb⟩
  clear k
  go_wp2
  go_ret
  exact ⟨rfl, hb⟩
theorem not_fits (a v : ByteArray) (b : Nat) (w : World) (hv : v.size ≤ maxLen) (hc : w.cell? ⟨b, 0, none⟩ = some (.func (.func 118) #[] #[])) : Calls Tryz.prog 134 #[.string a, .string v, .pointer (some ⟨b, 0, none⟩)] w fun e w' => e = .returned (.bool (!(fitB a v))) ∧ Below w.heap.size w w' := by
  have k := fits_b a v w hv
  generalize fitB a v = r at *
  go_enter Tryz.func134, Tryz.ntmps134
  go_wp2_with fail
  refine k.mono ?_
  rintro e w1 ⟨rfl, hb⟩
  clear k
  go_wp2
  go_ret
  exact ⟨rfl, hb⟩
/-- what lies in the boxes of a call of Fits -/
structure FitBox (w : World) (nm : ByteArray) (op : Int) (val : ByteArray) (W : World) : Prop where
  b : Below w.heap.size w W
  z : w.heap.size + 2 < W.heap.size
  a0 : W.cell? ⟨w.heap.size, 0, none⟩ = some (.string nm)
  a1 : W.cell? ⟨w.heap.size, 1, none⟩ = some (.int .i64 op)
  a2 : W.cell? ⟨w.heap.size, 2, none⟩ = some (.string val)
  f1 : W.cell? ⟨w.heap.size + 1, 0, none⟩ = some (.func (.func 116) #[] #[])
  f2 : W.cell? ⟨w.heap.size + 2, 0, none⟩ = some (.func (.func 118) #[] #[])
theorem FitBox.later {w : World} {nm : ByteArray} {op : Int} {val : ByteArray} {W W' : World} (h : FitBox w nm op val W) (hb : Below W.heap.size W W') : FitBox w nm op val W' := by
  obtain ⟨b, z, a0, a1, a2, f1, f2⟩ := h
  exact ⟨b.trans (hb.mono b.size), Nat.lt_of_lt_of_le z hb.size, keep_cell a0 hb (by omega), keep_cell a1 hb (by omega), keep_cell a2 hb (by omega), keep_cell f1 hb (by omega), keep_cell f2 hb (by omega)⟩
theorem FitBox.mk3 (w : World) (nm : ByteArray) (op : Int) (val : ByteArray) (t u : TypeId) : FitBox w nm op val (((w.alloc (.cells #[.string nm, .int .i64 op, .string val] t)).alloc (.cells #[.func (.func 116) #[] #[]] u)).alloc (.cells #[.func (.func 118) #[] #[]] u)) := by
  have b1 := alloc_below w (.cells #[.string nm, .int .i64 op, .string val] t)
  have s1 := World.size_alloc w (.cells #[.string nm, .int .i64 op, .string val] t)
  have x1 := heap_alloc_new w (.cells #[.string nm, .int .i64 op, .string val] t)
  generalize w.alloc (.cells #[.string nm, .int .i64 op, .string val] t) = w1 at *
  have b2 := alloc_below w1 (.cells #[.func (.func 116) #[] #[]] u)
  have s2 := World.size_alloc w1 (.cells #[.func (.func 116) #[] #[]] u)
  have x2 := heap_alloc_new w1 (.cells #[.func (.func 116) #[] #[]] u)
  generalize w1.alloc (.cells #[.func (.func 116) #[] #[]] u) = w2 at *
  have b3 := alloc_below w2 (.cells #[.func (.func 118) #[] #[]] u)
  have s3 := World.size_alloc w2 (.cells #[.func (.func 118) #[] #[]] u)
  have x3 := heap_alloc_new w2 (.cells #[.func (.func 118) #[] #[]] u)
  generalize w2.alloc (.cells #[.func (.func 118) #[] #[]] u) = w3 at *
  rw [s1] at x2
  rw [show w2.heap.size = w.heap.size + 2 by omega] at x3
  have k : ∀ i v, w1.cell? ⟨w.heap.size, i, none⟩ = some v → w3.cell? ⟨w.heap.size, i, none⟩ = some v := fun i v h => keep_cell (keep_cell h b2 (by omega)) b3 (by omega)
  refine ⟨(b1.trans (b2.mono (by omega))).trans (b3.mono (by omega)), by omega, k _ _ ?_, k _ _ ?_, k _ _ ?_, keep_cell ?_ b3 (by omega), ?_⟩
  · rw [cell_of_row _ _ _ _ _ _ x1]; rfl
  · rw [cell_of_row _ _ _ _ _ _ x1]; rfl
  · rw [cell_of_row _ _ _ _ _ _ x1]; rfl
  · rw [cell_of_row _ _ _ _ _ _ x2]; rfl
  · rw [cell_of_row _ _ _ _ _ _ x3]; rfl
theorem store_row_step {P : Program} {W : World} {g j : Nat} {arr : Array Value} {t : TypeId} {v : Value} (hg : W.heap[g]? = some (.cells arr t (0, 0))) (hj : j < arr.size) (h1 : v.oneCell' = true) :
    ∃ W', (store ⟨g, j, none⟩ v).run P W = .ok () W' ∧ W'.heap[g]? = some (.cells (arr.setIfInBounds j v) t (0, 0)) ∧ Below g W W' := by
  have hc : W.cell? ⟨g, j, none⟩ = some arr[j] := by rw [cell_of_row _ _ _ _ _ _ hg]; exact Array.getElem?_eq_getElem hj
  have hf : W.frozen? ⟨g, j, none⟩ = false := by simp [World.frozen?, hg]
  refine ⟨W.setCell ⟨g, j, none⟩ v, ?_, ?_, ?_⟩
  · rw [run_store P W _ v _ h1, hc, hf]; rfl
  · simp [World.setCell, Array.getElem?_modify, hg]
  · refine ⟨rfl, rfl, rfl, by simp [World.setCell], fun k hk => ?_⟩
    have : g ≠ k := by omega
    simp [World.setCell, Array.getElem?_modify, this]
set_option maxHeartbeats 3200000 in
set_option maxRecDepth 100000 in
theorem fits_any (l : List Fld) (m : Mt) (w : World) (v : Value) (hv : FldsAt w v l) (hl : l.length ≤ 1000000000000) (hfit : FldsFit l) (hf : MtFit m) :
    Calls Tryz.prog 94 #[v, .agg #[.string m.nm, .int .i64 m.op, .string m.val]] w fun e w' => e = .returned (.bool (fitM l m)) ∧ Below w.heap.size w w' := by
  have kn := fun W => not_fn 116 W
  have kp := fun W => not_fn 118 W
  have kf := fun W => mfine_any m W hf
  have kv := fun W (hW : Below w.heap.size w W) => value_any l m.nm W v (hv.later hW) hl
  have hvs := valueF_size hfit m.nm
  have HM : Hid (fitM l m = (fineM m && opM m (valueF l m.nm))) := Lib.hid rfl
  have HO : Hid (∀ u, opM m u = if m.op = 0 then u.toList == m.val.toList else if m.op = 1 then !(u.toList == m.val.toList) else if m.op = 2 then fitB m.val u else !(fitB m.val u)) := Lib.hid (fun _ => rfl)
  have HT : Hid (fineM m = true → 0 ≤ m.op ∧ m.op ≤ 3) := Lib.hid (fun h => ⟨(fineM_true h).2.1, (fineM_true h).2.2.1⟩)
  obtain ⟨fa, fc, rfl, _, _⟩ := RdAt.shape hv
  generalize l.length = fn at *
  generalize valueF l m.nm = u at *
  generalize fitM l m = R at *
  generalize fineM m = N at *
  have HOU := Lib.hid (HO.out u)
  clear HO
  generalize opM m u = OU at *
  obtain ⟨nm, op, val⟩ := m
  dsimp only at *
  have HN := Lib.hid kn
  have HP := Lib.hid kp
  have HFI := Lib.hid kf
  have HV := Lib.hid kv
  clear hv hfit hf kn kp kf kv
  have kn := HN.out (w.alloc (.cells #[.string nm, .int .i64 op, .string val] 108))
  go_enter Tryz.func94, Tryz.ntmps94
  go_wp2_with fail
  refine kn.mono ?_
  rintro e w1 ⟨rfl, hw1⟩
  clear kn
  obtain rfl := hw1.symm
  clear hw1
  have kp := HP.out ((w.alloc (.cells #[.string nm, .int .i64 op, .string val] 108)).alloc (.cells #[.func (.func 116) #[] #[]] 179))
  go_wp2_with fail
  refine kp.mono ?_
  rintro e w2 ⟨rfl, hw2⟩
  clear kp
  have FB : FitBox w nm op val w2 := by rw [hw2]; exact FitBox.mk3 w nm op val _ _
  clear hw2
  have HFB := Lib.hid FB
  clear FB
  rw [World.size_alloc]
  have hx := heap_alloc_new w2 (.cells #[.nilFunc, .nilFunc, .nilFunc, .nilFunc] 181)
  have hba := alloc_below w2 (.cells #[.nilFunc, .nilFunc, .nilFunc, .nilFunc] 181)
  obtain ⟨s1, hs1, hx1, hb1⟩ := store_row_step (P := Tryz.prog) (j := 0) (v := .func (.func 116) #[] #[]) hx (by simp) rfl
  obtain ⟨s2, hs2, hx2, hb2⟩ := store_row_step (P := Tryz.prog) (j := 1) (v := .func (.func 134) #[] #[.pointer (some ⟨w.heap.size + 1, 0, none⟩)]) hx1 (by simp) rfl
  obtain ⟨s3, hs3, hx3, hb3⟩ := store_row_step (P := Tryz.prog) (j := 2) (v := .func (.func 118) #[] #[]) hx2 (by simp) rfl
  obtain ⟨s4, hs4, hx4, hb4⟩ := store_row_step (P := Tryz.prog) (j := 3) (v := .func (.func 134) #[] #[.pointer (some ⟨w.heap.size + 1 + 1, 0, none⟩)]) hx3 (by simp) rfl
  have FB := HFB.out.later ((((hba.trans hb1).trans hb2).trans hb3).trans hb4)
  have hz4 : w2.heap.size < s4.heap.size := (Array.getElem?_eq_some_iff.1 hx4).1
  have D0 : s4.cell? ⟨w2.heap.size, 0, none⟩ = some (.func (.func 116) #[] #[]) := by rw [cell_of_row _ _ _ _ _ _ hx4]; rfl
  have D1 : s4.cell? ⟨w2.heap.size, 1, none⟩ = some (.func (.func 134) #[] #[.pointer (some ⟨w.heap.size + 1, 0, none⟩)]) := by rw [cell_of_row _ _ _ _ _ _ hx4]; rfl
  have D2 : s4.cell? ⟨w2.heap.size, 2, none⟩ = some (.func (.func 118) #[] #[]) := by rw [cell_of_row _ _ _ _ _ _ hx4]; rfl
  have D3 : s4.cell? ⟨w2.heap.size, 3, none⟩ = some (.func (.func 134) #[] #[.pointer (some ⟨w.heap.size + 1 + 1, 0, none⟩)]) := by rw [cell_of_row _ _ _ _ _ _ hx4]; rfl
  clear hx hx1 hx2 hx3 hx4 hba hb1 hb2 hb3 hb4 HFB
  go_upto_region 2 with fail
  obtain ⟨fb, fz, a0, a1, a2, f1, f2⟩ := FB
  have y0 : w.heap.size < s4.heap.size := by omega
  have y1 : w.heap.size + 1 < s4.heap.size := by omega
  have y2 : w.heap.size + 1 + 1 < s4.heap.size := by omega
  have F1 := Lib.hid f1
  have F2 := Lib.hid f2
  have FBB := Lib.hid fb
  clear f1 f2 fb fz hs1 hs2 hs3 hs4
  cases N with
  | false =>
    refine wp_region_held_drew (S := (fun W' => W'.cell? ⟨w.heap.size, 0, none⟩ = some (.string nm) ∧ W'.cell? ⟨w.heap.size, 1, none⟩ = some (.int .i64 op) ∧ W'.cell? ⟨w.heap.size, 2, none⟩ = some (.string val))) (by kernel_rfl) ⟨a0, a1, a2⟩ (fun hHeld => ?_)
    refine held_take (i := 0) (v := ?_) rfl rfl (by kernel_rfl) (by kernel_rfl) (by kernel_rfl) (fun _ _ _ h => h) (by rfl) hHeld ?_ ?_
    rotate_left
    · rintro wh ⟨z0, z1, z2⟩
      go_simp
      (try with_reducible rfl)
    simp only [Act.put, List.setIfInBounds_toArray, List.set_cons_zero, List.set_cons_succ]
    refine held_call (i := 1) rfl (by kernel_rfl) (by rfl) (fun K hK => ?_)
    (go_simp; go_at_call 49; refine (HFI.out _).mono ?_; rintro e w5 ⟨rfl, hb5⟩; have hB5 : Below s4.heap.size s4 w5 := ((Below.refl _ _).drew).trans hb5)
    refine hK.out _ _ ⟨keep_cell a0 hB5 y0, keep_cell a1 hB5 y0, keep_cell a2 hB5 y0⟩ (fun hHeld => ?_)
    clear hK K
    (try simp only [Act.put, List.setIfInBounds_toArray, List.set_cons_zero, List.set_cons_succ])
    refine held_take (i := 2) (v := ?_) rfl rfl (by kernel_rfl) (by kernel_rfl) (by kernel_rfl) (fun _ _ _ h => h) (by rfl) hHeld ?_ ?_
    rotate_left
    · rintro wh ⟨z0, z1, z2⟩
      go_simp
      (try with_reducible rfl)
    simp only [Act.put, List.setIfInBounds_toArray, List.set_cons_zero, List.set_cons_succ]
    refine held_skip (i := 3) rfl rfl (by kernel_rfl) (by kernel_rfl) (by kernel_rfl) (fun _ _ _ h => h) (by rfl) hHeld ?_
    simp only [Act.put, List.setIfInBounds_toArray, List.set_cons_zero, List.set_cons_succ]
    refine held_skip (i := 4) rfl rfl (by kernel_rfl) (by kernel_rfl) (by kernel_rfl) (fun _ _ _ h => h) (by rfl) hHeld ?_
    simp only [Act.put, List.setIfInBounds_toArray, List.set_cons_zero, List.set_cons_succ]
    refine held_skip (i := 5) rfl rfl (by kernel_rfl) (by kernel_rfl) (by kernel_rfl) (fun _ _ _ h => h) (by rfl) hHeld ?_
    simp only [Act.put, List.setIfInBounds_toArray, List.set_cons_zero, List.set_cons_succ]
    refine held_skip (i := 6) rfl rfl (by kernel_rfl) (by kernel_rfl) (by kernel_rfl) (fun _ _ _ h => h) (by rfl) hHeld ?_
    simp only [Act.put, List.setIfInBounds_toArray, List.set_cons_zero, List.set_cons_succ]
    refine held_skip (i := 7) rfl rfl (by kernel_rfl) (by kernel_rfl) (by kernel_rfl) (fun _ _ _ h => h) (by rfl) hHeld ?_
    simp only [Act.put, List.setIfInBounds_toArray, List.set_cons_zero, List.set_cons_succ]
    refine held_skip (i := 8) rfl rfl (by kernel_rfl) (by kernel_rfl) (by kernel_rfl) (fun _ _ _ h => h) (by rfl) hHeld ?_
    simp only [Act.put, List.setIfInBounds_toArray, List.set_cons_zero, List.set_cons_succ]
    refine held_skip (i := 9) rfl rfl (by kernel_rfl) (by kernel_rfl) (by kernel_rfl) (fun _ _ _ h => h) (by rfl) hHeld ?_
    simp only [Act.put, List.setIfInBounds_toArray, List.set_cons_zero, List.set_cons_succ]
    refine held_skip (i := 10) rfl rfl (by kernel_rfl) (by kernel_rfl) (by kernel_rfl) (fun _ _ _ h => h) (by rfl) hHeld ?_
    simp only [Act.put, List.setIfInBounds_toArray, List.set_cons_zero, List.set_cons_succ]
    refine held_skip (i := 11) rfl rfl (by kernel_rfl) (by kernel_rfl) (by kernel_rfl) (fun _ _ _ h => h) (by rfl) hHeld ?_
    simp only [Act.put, List.setIfInBounds_toArray, List.set_cons_zero, List.set_cons_succ]
    refine held_skip (i := 12) rfl rfl (by kernel_rfl) (by kernel_rfl) (by kernel_rfl) (fun _ _ _ h => h) (by rfl) hHeld ?_
    simp only [Act.put, List.setIfInBounds_toArray, List.set_cons_zero, List.set_cons_succ]
    refine held_skip (i := 13) rfl rfl (by kernel_rfl) (by kernel_rfl) (by kernel_rfl) (fun _ _ _ h => h) (by rfl) hHeld ?_
    simp only [Act.put, List.setIfInBounds_toArray, List.set_cons_zero, List.set_cons_succ]
    refine held_take (i := 14) (v := ?_) rfl rfl (by kernel_rfl) (by kernel_rfl) (by kernel_rfl) (fun _ _ _ h => h) (by rfl) hHeld ?_ ?_
    rotate_left
    · rintro wh ⟨z0, z1, z2⟩
      go_simp
      (try with_reducible rfl)
    simp only [Act.put, List.setIfInBounds_toArray, List.set_cons_zero, List.set_cons_succ]
    refine held_take (i := 15) (v := ?_) rfl rfl (by kernel_rfl) (by kernel_rfl) (by kernel_rfl) (fun _ _ _ h => h) (by rfl) hHeld ?_ ?_
    rotate_left
    · rintro wh ⟨z0, z1, z2⟩
      go_simp
      (try with_reducible rfl)
    simp only [Act.put, List.setIfInBounds_toArray, List.set_cons_zero, List.set_cons_succ]
    refine wpAnyH_done (by kernel_rfl) ?_ _
    have HB := Lib.hid (FBB.out.trans (hB5.mono FBB.out.size))
    go_wp2
    go_ret
    exact ⟨by rw [HM.out]; rfl, HB.out⟩
  | true =>
    have ht := HT.out rfl
    rcases (show op = 0 ∨ op = 1 ∨ op = 2 ∨ op = 3 by omega) with rfl | rfl | rfl | rfl
    · clear ht
      rw [if_pos rfl] at HOU
      refine wp_region_held_drew (S := (fun W' => W'.cell? ⟨w.heap.size, 0, none⟩ = some (.string nm) ∧ W'.cell? ⟨w.heap.size, 1, none⟩ = some (.int .i64 0) ∧ W'.cell? ⟨w.heap.size, 2, none⟩ = some (.string val) ∧ W'.cell? ⟨w2.heap.size, 0, none⟩ = some (.func (.func 116) #[] #[]))) (by kernel_rfl) ⟨a0, a1, a2, D0⟩ (fun hHeld => ?_)
      refine held_take (i := 0) (v := ?_) rfl rfl (by kernel_rfl) (by kernel_rfl) (by kernel_rfl) (fun _ _ _ h => h) (by rfl) hHeld ?_ ?_
      rotate_left
      · rintro wh ⟨z0, z1, z2, z3⟩
        go_simp
        (try with_reducible rfl)
      simp only [Act.put, List.setIfInBounds_toArray, List.set_cons_zero, List.set_cons_succ]
      refine held_call (i := 1) rfl (by kernel_rfl) (by rfl) (fun K hK => ?_)
      (go_simp; go_at_call 49; refine (HFI.out _).mono ?_; rintro e w5 ⟨rfl, hb5⟩; have hB5 : Below s4.heap.size s4 w5 := ((Below.refl _ _).drew).trans hb5)
      refine hK.out _ _ ⟨keep_cell a0 hB5 y0, keep_cell a1 hB5 y0, keep_cell a2 hB5 y0, keep_cell D0 hB5 hz4⟩ (fun hHeld => ?_)
      clear hK K
      (try simp only [Act.put, List.setIfInBounds_toArray, List.set_cons_zero, List.set_cons_succ])
      refine held_take (i := 2) (v := ?_) rfl rfl (by kernel_rfl) (by kernel_rfl) (by kernel_rfl) (fun _ _ _ h => h) (by rfl) hHeld ?_ ?_
      rotate_left
      · rintro wh ⟨z0, z1, z2, z3⟩
        go_simp
        (try with_reducible rfl)
      simp only [Act.put, List.setIfInBounds_toArray, List.set_cons_zero, List.set_cons_succ]
      refine held_take (i := 3) (v := ?_) rfl rfl (by kernel_rfl) (by kernel_rfl) (by kernel_rfl) (fun _ _ _ h => h) (by rfl) hHeld ?_ ?_
      rotate_left
      · rintro wh ⟨z0, z1, z2, z3⟩
        go_simp
        (try with_reducible rfl)
      simp only [Act.put, List.setIfInBounds_toArray, List.set_cons_zero, List.set_cons_succ]
      refine held_take (i := 4) (v := ?_) rfl rfl (by kernel_rfl) (by kernel_rfl) (by kernel_rfl) (fun _ _ _ h => h) (by rfl) hHeld ?_ ?_
      rotate_left
      · rintro wh ⟨z0, z1, z2, z3⟩
        go_simp
        (try with_reducible rfl)
      simp only [Act.put, List.setIfInBounds_toArray, List.set_cons_zero, List.set_cons_succ]
      refine held_take (i := 5) (v := ?_) rfl rfl (by kernel_rfl) (by kernel_rfl) (by kernel_rfl) (fun _ _ _ h => h) (by rfl) hHeld ?_ ?_
      rotate_left
      · rintro wh ⟨z0, z1, z2, z3⟩
        go_simp
        (try with_reducible rfl)
      simp only [Act.put, List.setIfInBounds_toArray, List.set_cons_zero, List.set_cons_succ]
      refine held_take (i := 6) (v := ?_) rfl rfl (by kernel_rfl) (by kernel_rfl) (by kernel_rfl) (fun _ _ _ h => h) (by rfl) hHeld ?_ ?_
      rotate_left
      · rintro wh ⟨z0, z1, z2, z3⟩
        go_simp
        (try with_reducible rfl)
      simp only [Act.put, List.setIfInBounds_toArray, List.set_cons_zero, List.set_cons_succ]
      refine held_take (i := 7) (v := ?_) rfl rfl (by kernel_rfl) (by kernel_rfl) (by kernel_rfl) (fun _ _ _ h => h) (by rfl) hHeld ?_ ?_
      rotate_left
      · rintro wh ⟨z0, z1, z2, z3⟩
        go_simp
        (try with_reducible rfl)
      simp only [Act.put, List.setIfInBounds_toArray, List.set_cons_zero, List.set_cons_succ]
      refine held_take (i := 8) (v := ?_) rfl rfl (by kernel_rfl) (by kernel_rfl) (by kernel_rfl) (fun _ _ _ h => h) (by rfl) hHeld ?_ ?_
      rotate_left
      · rintro wh ⟨z0, z1, z2, z3⟩
        go_simp
        (try with_reducible rfl)
      simp only [Act.put, List.setIfInBounds_toArray, List.set_cons_zero, List.set_cons_succ]
      refine held_take (i := 9) (v := ?_) rfl rfl (by kernel_rfl) (by kernel_rfl) (by kernel_rfl) (fun _ _ _ h => h) (by rfl) hHeld ?_ ?_
      rotate_left
      · rintro wh ⟨z0, z1, z2, z3⟩
        go_simp
        (try with_reducible rfl)
      simp only [Act.put, List.setIfInBounds_toArray, List.set_cons_zero, List.set_cons_succ]
      refine held_take (i := 10) (v := ?_) rfl rfl (by kernel_rfl) (by kernel_rfl) (by kernel_rfl) (fun _ _ _ h => h) (by rfl) hHeld ?_ ?_
      rotate_left
      · rintro wh ⟨z0, z1, z2, z3⟩
        go_simp
        (try with_reducible rfl)
      simp only [Act.put, List.setIfInBounds_toArray, List.set_cons_zero, List.set_cons_succ]
      refine held_take (i := 11) (v := ?_) rfl rfl (by kernel_rfl) (by kernel_rfl) (by kernel_rfl) (fun _ _ _ h => h) (by rfl) hHeld ?_ ?_
      rotate_left
      · rintro wh ⟨z0, z1, z2, z3⟩
        go_simp
        (try with_reducible rfl)
      simp only [Act.put, List.setIfInBounds_toArray, List.set_cons_zero, List.set_cons_succ]
      refine held_call (i := 12) rfl (by kernel_rfl) (by rfl) (fun K hK => ?_)
      (go_simp; go_at_call 119; refine (HV.out _ (FBB.out.trans (hB5.mono FBB.out.size))).mono ?_; rintro e w6 ⟨rfl, hb6⟩; have hB6 : Below s4.heap.size s4 w6 := hB5.trans (hb6.mono hB5.size))
      refine hK.out _ _ ⟨keep_cell a0 hB6 y0, keep_cell a1 hB6 y0, keep_cell a2 hB6 y0, keep_cell D0 hB6 hz4⟩ (fun hHeld => ?_)
      clear hK K
      (try simp only [Act.put, List.setIfInBounds_toArray, List.set_cons_zero, List.set_cons_succ])
      refine held_call (i := 13) rfl (by kernel_rfl) (by rfl) (fun K hK => ?_)
      (go_simp; go_at_call 116; refine (is_any _ _ _).mono ?_; rintro e w7 ⟨rfl, hb7⟩; have hB7 : Below s4.heap.size s4 w7 := hB6.trans (hb7.mono hB6.size))
      refine hK.out _ _ ⟨keep_cell a0 hB7 y0, keep_cell a1 hB7 y0, keep_cell a2 hB7 y0, keep_cell D0 hB7 hz4⟩ (fun hHeld => ?_)
      clear hK K
      (try simp only [Act.put, List.setIfInBounds_toArray, List.set_cons_zero, List.set_cons_succ])
      refine held_take (i := 14) (v := ?_) rfl rfl (by kernel_rfl) (by kernel_rfl) (by kernel_rfl) (fun _ _ _ h => h) (by rfl) hHeld ?_ ?_
      rotate_left
      · rintro wh ⟨z0, z1, z2, z3⟩
        go_simp
        (try with_reducible rfl)
      simp only [Act.put, List.setIfInBounds_toArray, List.set_cons_zero, List.set_cons_succ]
      refine held_take (i := 15) (v := ?_) rfl rfl (by kernel_rfl) (by kernel_rfl) (by kernel_rfl) (fun _ _ _ h => h) (by rfl) hHeld ?_ ?_
      rotate_left
      · rintro wh ⟨z0, z1, z2, z3⟩
        go_simp
        (try with_reducible rfl)
      simp only [Act.put, List.setIfInBounds_toArray, List.set_cons_zero, List.set_cons_succ]
      refine wpAnyH_done (by kernel_rfl) ?_ _
      have HB := Lib.hid (FBB.out.trans (hB7.mono FBB.out.size))
      go_wp2
      go_ret
      exact ⟨by rw [HM.out, HOU.out]; rfl, HB.out⟩
    · clear ht
      rw [if_neg (by decide), if_pos rfl] at HOU
      refine wp_region_held_drew (S := (fun W' => W'.cell? ⟨w.heap.size, 0, none⟩ = some (.string nm) ∧ W'.cell? ⟨w.heap.size, 1, none⟩ = some (.int .i64 1) ∧ W'.cell? ⟨w.heap.size, 2, none⟩ = some (.string val) ∧ W'.cell? ⟨w2.heap.size, 1, none⟩ = some (.func (.func 134) #[] #[.pointer (some ⟨w.heap.size + 1, 0, none⟩)]))) (by kernel_rfl) ⟨a0, a1, a2, D1⟩ (fun hHeld => ?_)
      refine held_take (i := 0) (v := ?_) rfl rfl (by kernel_rfl) (by kernel_rfl) (by kernel_rfl) (fun _ _ _ h => h) (by rfl) hHeld ?_ ?_
      rotate_left
      · rintro wh ⟨z0, z1, z2, z3⟩
        go_simp
        (try with_reducible rfl)
      simp only [Act.put, List.setIfInBounds_toArray, List.set_cons_zero, List.set_cons_succ]
      refine held_call (i := 1) rfl (by kernel_rfl) (by rfl) (fun K hK => ?_)
      (go_simp; go_at_call 49; refine (HFI.out _).mono ?_; rintro e w5 ⟨rfl, hb5⟩; have hB5 : Below s4.heap.size s4 w5 := ((Below.refl _ _).drew).trans hb5)
      refine hK.out _ _ ⟨keep_cell a0 hB5 y0, keep_cell a1 hB5 y0, keep_cell a2 hB5 y0, keep_cell D1 hB5 hz4⟩ (fun hHeld => ?_)
      clear hK K
      (try simp only [Act.put, List.setIfInBounds_toArray, List.set_cons_zero, List.set_cons_succ])
      refine held_take (i := 2) (v := ?_) rfl rfl (by kernel_rfl) (by kernel_rfl) (by kernel_rfl) (fun _ _ _ h => h) (by rfl) hHeld ?_ ?_
      rotate_left
      · rintro wh ⟨z0, z1, z2, z3⟩
        go_simp
        (try with_reducible rfl)
      simp only [Act.put, List.setIfInBounds_toArray, List.set_cons_zero, List.set_cons_succ]
      refine held_take (i := 3) (v := ?_) rfl rfl (by kernel_rfl) (by kernel_rfl) (by kernel_rfl) (fun _ _ _ h => h) (by rfl) hHeld ?_ ?_
      rotate_left
      · rintro wh ⟨z0, z1, z2, z3⟩
        go_simp
        (try with_reducible rfl)
      simp only [Act.put, List.setIfInBounds_toArray, List.set_cons_zero, List.set_cons_succ]
      refine held_take (i := 4) (v := ?_) rfl rfl (by kernel_rfl) (by kernel_rfl) (by kernel_rfl) (fun _ _ _ h => h) (by rfl) hHeld ?_ ?_
      rotate_left
      · rintro wh ⟨z0, z1, z2, z3⟩
        go_simp
        (try with_reducible rfl)
      simp only [Act.put, List.setIfInBounds_toArray, List.set_cons_zero, List.set_cons_succ]
      refine held_take (i := 5) (v := ?_) rfl rfl (by kernel_rfl) (by kernel_rfl) (by kernel_rfl) (fun _ _ _ h => h) (by rfl) hHeld ?_ ?_
      rotate_left
      · rintro wh ⟨z0, z1, z2, z3⟩
        go_simp
        (try with_reducible rfl)
      simp only [Act.put, List.setIfInBounds_toArray, List.set_cons_zero, List.set_cons_succ]
      refine held_take (i := 6) (v := ?_) rfl rfl (by kernel_rfl) (by kernel_rfl) (by kernel_rfl) (fun _ _ _ h => h) (by rfl) hHeld ?_ ?_
      rotate_left
      · rintro wh ⟨z0, z1, z2, z3⟩
        go_simp
        (try with_reducible rfl)
      simp only [Act.put, List.setIfInBounds_toArray, List.set_cons_zero, List.set_cons_succ]
      refine held_take (i := 7) (v := ?_) rfl rfl (by kernel_rfl) (by kernel_rfl) (by kernel_rfl) (fun _ _ _ h => h) (by rfl) hHeld ?_ ?_
      rotate_left
      · rintro wh ⟨z0, z1, z2, z3⟩
        go_simp
        (try with_reducible rfl)
      simp only [Act.put, List.setIfInBounds_toArray, List.set_cons_zero, List.set_cons_succ]
      refine held_take (i := 8) (v := ?_) rfl rfl (by kernel_rfl) (by kernel_rfl) (by kernel_rfl) (fun _ _ _ h => h) (by rfl) hHeld ?_ ?_
      rotate_left
      · rintro wh ⟨z0, z1, z2, z3⟩
        go_simp
        (try with_reducible rfl)
      simp only [Act.put, List.setIfInBounds_toArray, List.set_cons_zero, List.set_cons_succ]
      refine held_take (i := 9) (v := ?_) rfl rfl (by kernel_rfl) (by kernel_rfl) (by kernel_rfl) (fun _ _ _ h => h) (by rfl) hHeld ?_ ?_
      rotate_left
      · rintro wh ⟨z0, z1, z2, z3⟩
        go_simp
        (try with_reducible rfl)
      simp only [Act.put, List.setIfInBounds_toArray, List.set_cons_zero, List.set_cons_succ]
      refine held_take (i := 10) (v := ?_) rfl rfl (by kernel_rfl) (by kernel_rfl) (by kernel_rfl) (fun _ _ _ h => h) (by rfl) hHeld ?_ ?_
      rotate_left
      · rintro wh ⟨z0, z1, z2, z3⟩
        go_simp
        (try with_reducible rfl)
      simp only [Act.put, List.setIfInBounds_toArray, List.set_cons_zero, List.set_cons_succ]
      refine held_take (i := 11) (v := ?_) rfl rfl (by kernel_rfl) (by kernel_rfl) (by kernel_rfl) (fun _ _ _ h => h) (by rfl) hHeld ?_ ?_
      rotate_left
      · rintro wh ⟨z0, z1, z2, z3⟩
        go_simp
        (try with_reducible rfl)
      simp only [Act.put, List.setIfInBounds_toArray, List.set_cons_zero, List.set_cons_succ]
      refine held_call (i := 12) rfl (by kernel_rfl) (by rfl) (fun K hK => ?_)
      (go_simp; go_at_call 119; refine (HV.out _ (FBB.out.trans (hB5.mono FBB.out.size))).mono ?_; rintro e w6 ⟨rfl, hb6⟩; have hB6 : Below s4.heap.size s4 w6 := hB5.trans (hb6.mono hB5.size))
      refine hK.out _ _ ⟨keep_cell a0 hB6 y0, keep_cell a1 hB6 y0, keep_cell a2 hB6 y0, keep_cell D1 hB6 hz4⟩ (fun hHeld => ?_)
      clear hK K
      (try simp only [Act.put, List.setIfInBounds_toArray, List.set_cons_zero, List.set_cons_succ])
      refine held_call (i := 13) rfl (by kernel_rfl) (by rfl) (fun K hK => ?_)
      (go_simp; go_at_call 134; refine (not_is _ _ _ _ (keep_cell F1.out hB6 y1)).mono ?_; rintro e w7 ⟨rfl, hb7⟩; have hB7 : Below s4.heap.size s4 w7 := hB6.trans (hb7.mono hB6.size))
      refine hK.out _ _ ⟨keep_cell a0 hB7 y0, keep_cell a1 hB7 y0, keep_cell a2 hB7 y0, keep_cell D1 hB7 hz4⟩ (fun hHeld => ?_)
      clear hK K
      (try simp only [Act.put, List.setIfInBounds_toArray, List.set_cons_zero, List.set_cons_succ])
      refine held_take (i := 14) (v := ?_) rfl rfl (by kernel_rfl) (by kernel_rfl) (by kernel_rfl) (fun _ _ _ h => h) (by rfl) hHeld ?_ ?_
      rotate_left
      · rintro wh ⟨z0, z1, z2, z3⟩
        go_simp
        (try with_reducible rfl)
      simp only [Act.put, List.setIfInBounds_toArray, List.set_cons_zero, List.set_cons_succ]
      refine held_take (i := 15) (v := ?_) rfl rfl (by kernel_rfl) (by kernel_rfl) (by kernel_rfl) (fun _ _ _ h => h) (by rfl) hHeld ?_ ?_
      rotate_left
      · rintro wh ⟨z0, z1, z2, z3⟩
        go_simp
        (try with_reducible rfl)
      simp only [Act.put, List.setIfInBounds_toArray, List.set_cons_zero, List.set_cons_succ]
      refine wpAnyH_done (by kernel_rfl) ?_ _
      have HB := Lib.hid (FBB.out.trans (hB7.mono FBB.out.size))
      go_wp2
      go_ret
      exact ⟨by rw [HM.out, HOU.out]; rfl, HB.out⟩
    · clear ht
      rw [if_neg (by decide), if_neg (by decide), if_pos rfl] at HOU
      refine wp_region_held_drew (S := (fun W' => W'.cell? ⟨w.heap.size, 0, none⟩ = some (.string nm) ∧ W'.cell? ⟨w.heap.size, 1, none⟩ = some (.int .i64 2) ∧ W'.cell? ⟨w.heap.size, 2, none⟩ = some (.string val) ∧ W'.cell? ⟨w2.heap.size, 2, none⟩ = some (.func (.func 118) #[] #[]))) (by kernel_rfl) ⟨a0, a1, a2, D2⟩ (fun hHeld => ?_)
      refine held_take (i := 0) (v := ?_) rfl rfl (by kernel_rfl) (by kernel_rfl) (by kernel_rfl) (fun _ _ _ h => h) (by rfl) hHeld ?_ ?_
      rotate_left
      · rintro wh ⟨z0, z1, z2, z3⟩
        go_simp
        (try with_reducible rfl)
      simp only [Act.put, List.setIfInBounds_toArray, List.set_cons_zero, List.set_cons_succ]
      refine held_call (i := 1) rfl (by kernel_rfl) (by rfl) (fun K hK => ?_)
      (go_simp; go_at_call 49; refine (HFI.out _).mono ?_; rintro e w5 ⟨rfl, hb5⟩; have hB5 : Below s4.heap.size s4 w5 := ((Below.refl _ _).drew).trans hb5)
      refine hK.out _ _ ⟨keep_cell a0 hB5 y0, keep_cell a1 hB5 y0, keep_cell a2 hB5 y0, keep_cell D2 hB5 hz4⟩ (fun hHeld => ?_)
      clear hK K
      (try simp only [Act.put, List.setIfInBounds_toArray, List.set_cons_zero, List.set_cons_succ])
      refine held_take (i := 2) (v := ?_) rfl rfl (by kernel_rfl) (by kernel_rfl) (by kernel_rfl) (fun _ _ _ h => h) (by rfl) hHeld ?_ ?_
      rotate_left
      · rintro wh ⟨z0, z1, z2, z3⟩
        go_simp
        (try with_reducible rfl)
      simp only [Act.put, List.setIfInBounds_toArray, List.set_cons_zero, List.set_cons_succ]
      refine held_take (i := 3) (v := ?_) rfl rfl (by kernel_rfl) (by kernel_rfl) (by kernel_rfl) (fun _ _ _ h => h) (by rfl) hHeld ?_ ?_
      rotate_left
      · rintro wh ⟨z0, z1, z2, z3⟩
        go_simp
        (try with_reducible rfl)
      simp only [Act.put, List.setIfInBounds_toArray, List.set_cons_zero, List.set_cons_succ]
      refine held_take (i := 4) (v := ?_) rfl rfl (by kernel_rfl) (by kernel_rfl) (by kernel_rfl) (fun _ _ _ h => h) (by rfl) hHeld ?_ ?_
      rotate_left
      · rintro wh ⟨z0, z1, z2, z3⟩
        go_simp
        (try with_reducible rfl)
      simp only [Act.put, List.setIfInBounds_toArray, List.set_cons_zero, List.set_cons_succ]
      refine held_take (i := 5) (v := ?_) rfl rfl (by kernel_rfl) (by kernel_rfl) (by kernel_rfl) (fun _ _ _ h => h) (by rfl) hHeld ?_ ?_
      rotate_left
      · rintro wh ⟨z0, z1, z2, z3⟩
        go_simp
        (try with_reducible rfl)
      simp only [Act.put, List.setIfInBounds_toArray, List.set_cons_zero, List.set_cons_succ]
      refine held_take (i := 6) (v := ?_) rfl rfl (by kernel_rfl) (by kernel_rfl) (by kernel_rfl) (fun _ _ _ h => h) (by rfl) hHeld ?_ ?_
      rotate_left
      · rintro wh ⟨z0, z1, z2, z3⟩
        go_simp
        (try with_reducible rfl)
      simp only [Act.put, List.setIfInBounds_toArray, List.set_cons_zero, List.set_cons_succ]
      refine held_take (i := 7) (v := ?_) rfl rfl (by kernel_rfl) (by kernel_rfl) (by kernel_rfl) (fun _ _ _ h => h) (by rfl) hHeld ?_ ?_
      rotate_left
      · rintro wh ⟨z0, z1, z2, z3⟩
        go_simp
        (try with_reducible rfl)
      simp only [Act.put, List.setIfInBounds_toArray, List.set_cons_zero, List.set_cons_succ]
      refine held_take (i := 8) (v := ?_) rfl rfl (by kernel_rfl) (by kernel_rfl) (by kernel_rfl) (fun _ _ _ h => h) (by rfl) hHeld ?_ ?_
      rotate_left
      · rintro wh ⟨z0, z1, z2, z3⟩
        go_simp
        (try with_reducible rfl)
      simp only [Act.put, List.setIfInBounds_toArray, List.set_cons_zero, List.set_cons_succ]
      refine held_take (i := 9) (v := ?_) rfl rfl (by kernel_rfl) (by kernel_rfl) (by kernel_rfl) (fun _ _ _ h => h) (by rfl) hHeld ?_ ?_
      rotate_left
      · rintro wh ⟨z0, z1, z2, z3⟩
        go_simp
        (try with_reducible rfl)
      simp only [Act.put, List.setIfInBounds_toArray, List.set_cons_zero, List.set_cons_succ]
      refine held_take (i := 10) (v := ?_) rfl rfl (by kernel_rfl) (by kernel_rfl) (by kernel_rfl) (fun _ _ _ h => h) (by rfl) hHeld ?_ ?_
      rotate_left
      · rintro wh ⟨z0, z1, z2, z3⟩
        go_simp
        (try with_reducible rfl)
      simp only [Act.put, List.setIfInBounds_toArray, List.set_cons_zero, List.set_cons_succ]
      refine held_take (i := 11) (v := ?_) rfl rfl (by kernel_rfl) (by kernel_rfl) (by kernel_rfl) (fun _ _ _ h => h) (by rfl) hHeld ?_ ?_
      rotate_left
      · rintro wh ⟨z0, z1, z2, z3⟩
        go_simp
        (try with_reducible rfl)
      simp only [Act.put, List.setIfInBounds_toArray, List.set_cons_zero, List.set_cons_succ]
      refine held_call (i := 12) rfl (by kernel_rfl) (by rfl) (fun K hK => ?_)
      (go_simp; go_at_call 119; refine (HV.out _ (FBB.out.trans (hB5.mono FBB.out.size))).mono ?_; rintro e w6 ⟨rfl, hb6⟩; have hB6 : Below s4.heap.size s4 w6 := hB5.trans (hb6.mono hB5.size))
      refine hK.out _ _ ⟨keep_cell a0 hB6 y0, keep_cell a1 hB6 y0, keep_cell a2 hB6 y0, keep_cell D2 hB6 hz4⟩ (fun hHeld => ?_)
      clear hK K
      (try simp only [Act.put, List.setIfInBounds_toArray, List.set_cons_zero, List.set_cons_succ])
      refine held_call (i := 13) rfl (by kernel_rfl) (by rfl) (fun K hK => ?_)
      (go_simp; go_at_call 118; refine (fits_b _ _ _ hvs).mono ?_; rintro e w7 ⟨rfl, hb7⟩; have hB7 : Below s4.heap.size s4 w7 := hB6.trans (hb7.mono hB6.size))
      refine hK.out _ _ ⟨keep_cell a0 hB7 y0, keep_cell a1 hB7 y0, keep_cell a2 hB7 y0, keep_cell D2 hB7 hz4⟩ (fun hHeld => ?_)
      clear hK K
      (try simp only [Act.put, List.setIfInBounds_toArray, List.set_cons_zero, List.set_cons_succ])
      refine held_take (i := 14) (v := ?_) rfl rfl (by kernel_rfl) (by kernel_rfl) (by kernel_rfl) (fun _ _ _ h => h) (by rfl) hHeld ?_ ?_
      rotate_left
      · rintro wh ⟨z0, z1, z2, z3⟩
        go_simp
        (try with_reducible rfl)
      simp only [Act.put, List.setIfInBounds_toArray, List.set_cons_zero, List.set_cons_succ]
      refine held_take (i := 15) (v := ?_) rfl rfl (by kernel_rfl) (by kernel_rfl) (by kernel_rfl) (fun _ _ _ h => h) (by rfl) hHeld ?_ ?_
      rotate_left
      · rintro wh ⟨z0, z1, z2, z3⟩
        go_simp
        (try with_reducible rfl)
      simp only [Act.put, List.setIfInBounds_toArray, List.set_cons_zero, List.set_cons_succ]
      refine wpAnyH_done (by kernel_rfl) ?_ _
      have HB := Lib.hid (FBB.out.trans (hB7.mono FBB.out.size))
      go_wp2
      go_ret
      exact ⟨by rw [HM.out, HOU.out]; rfl, HB.out⟩
    · clear ht
      rw [if_neg (by decide), if_neg (by decide), if_neg (by decide)] at HOU
      refine wp_region_held_drew (S := (fun W' => W'.cell? ⟨w.heap.size, 0, none⟩ = some (.string nm) ∧ W'.cell? ⟨w.heap.size, 1, none⟩ = some (.int .i64 3) ∧ W'.cell? ⟨w.heap.size, 2, none⟩ = some (.string val) ∧ W'.cell? ⟨w2.heap.size, 3, none⟩ = some (.func (.func 134) #[] #[.pointer (some ⟨w.heap.size + 1 + 1, 0, none⟩)]))) (by kernel_rfl) ⟨a0, a1, a2, D3⟩ (fun hHeld => ?_)
      refine held_take (i := 0) (v := ?_) rfl rfl (by kernel_rfl) (by kernel_rfl) (by kernel_rfl) (fun _ _ _ h => h) (by rfl) hHeld ?_ ?_
      rotate_left
      · rintro wh ⟨z0, z1, z2, z3⟩
        go_simp
        (try with_reducible rfl)
      simp only [Act.put, List.setIfInBounds_toArray, List.set_cons_zero, List.set_cons_succ]
      refine held_call (i := 1) rfl (by kernel_rfl) (by rfl) (fun K hK => ?_)
      (go_simp; go_at_call 49; refine (HFI.out _).mono ?_; rintro e w5 ⟨rfl, hb5⟩; have hB5 : Below s4.heap.size s4 w5 := ((Below.refl _ _).drew).trans hb5)
      refine hK.out _ _ ⟨keep_cell a0 hB5 y0, keep_cell a1 hB5 y0, keep_cell a2 hB5 y0, keep_cell D3 hB5 hz4⟩ (fun hHeld => ?_)
      clear hK K
      (try simp only [Act.put, List.setIfInBounds_toArray, List.set_cons_zero, List.set_cons_succ])
      refine held_take (i := 2) (v := ?_) rfl rfl (by kernel_rfl) (by kernel_rfl) (by kernel_rfl) (fun _ _ _ h => h) (by rfl) hHeld ?_ ?_
      rotate_left
      · rintro wh ⟨z0, z1, z2, z3⟩
        go_simp
        (try with_reducible rfl)
      simp only [Act.put, List.setIfInBounds_toArray, List.set_cons_zero, List.set_cons_succ]
      refine held_take (i := 3) (v := ?_) rfl rfl (by kernel_rfl) (by kernel_rfl) (by kernel_rfl) (fun _ _ _ h => h) (by rfl) hHeld ?_ ?_
      rotate_left
      · rintro wh ⟨z0, z1, z2, z3⟩
        go_simp
        (try with_reducible rfl)
      simp only [Act.put, List.setIfInBounds_toArray, List.set_cons_zero, List.set_cons_succ]
      refine held_take (i := 4) (v := ?_) rfl rfl (by kernel_rfl) (by kernel_rfl) (by kernel_rfl) (fun _ _ _ h => h) (by rfl) hHeld ?_ ?_
      rotate_left
      · rintro wh ⟨z0, z1, z2, z3⟩
        go_simp
        (try with_reducible rfl)
      simp only [Act.put, List.setIfInBounds_toArray, List.set_cons_zero, List.set_cons_succ]
      refine held_take (i := 5) (v := ?_) rfl rfl (by kernel_rfl) (by kernel_rfl) (by kernel_rfl) (fun _ _ _ h => h) (by rfl) hHeld ?_ ?_
      rotate_left
      · rintro wh ⟨z0, z1, z2, z3⟩
        go_simp
        (try with_reducible rfl)
      simp only [Act.put, List.setIfInBounds_toArray, List.set_cons_zero, List.set_cons_succ]
      refine held_take (i := 6) (v := ?_) rfl rfl (by kernel_rfl) (by kernel_rfl) (by kernel_rfl) (fun _ _ _ h => h) (by rfl) hHeld ?_ ?_
      rotate_left
      · rintro wh ⟨z0, z1, z2, z3⟩
        go_simp
        (try with_reducible rfl)
      simp only [Act.put, List.setIfInBounds_toArray, List.set_cons_zero, List.set_cons_succ]
      refine held_take (i := 7) (v := ?_) rfl rfl (by kernel_rfl) (by kernel_rfl) (by kernel_rfl) (fun _ _ _ h => h) (by rfl) hHeld ?_ ?_
      rotate_left
      · rintro wh ⟨z0, z1, z2, z3⟩
        go_simp
        (try with_reducible rfl)
      simp only [Act.put, List.setIfInBounds_toArray, List.set_cons_zero, List.set_cons_succ]
      refine held_take (i := 8) (v := ?_) rfl rfl (by kernel_rfl) (by kernel_rfl) (by kernel_rfl) (fun _ _ _ h => h) (by rfl) hHeld ?_ ?_
      rotate_left
      · rintro wh ⟨z0, z1, z2, z3⟩
        go_simp
        (try with_reducible rfl)
      simp only [Act.put, List.setIfInBounds_toArray, List.set_cons_zero, List.set_cons_succ]
      refine held_take (i := 9) (v := ?_) rfl rfl (by kernel_rfl) (by kernel_rfl) (by kernel_rfl) (fun _ _ _ h => h) (by rfl) hHeld ?_ ?_
      rotate_left
      · rintro wh ⟨z0, z1, z2, z3⟩
        go_simp
        (try with_reducible rfl)
      simp only [Act.put, List.setIfInBounds_toArray, List.set_cons_zero, List.set_cons_succ]
      refine held_take (i := 10) (v := ?_) rfl rfl (by kernel_rfl) (by kernel_rfl) (by kernel_rfl) (fun _ _ _ h => h) (by rfl) hHeld ?_ ?_
      rotate_left
      · rintro wh ⟨z0, z1, z2, z3⟩
        go_simp
        (try with_reducible rfl)
      simp only [Act.put, List.setIfInBounds_toArray, List.set_cons_zero, List.set_cons_succ]
      refine held_take (i := 11) (v := ?_) rfl rfl (by kernel_rfl) (by kernel_rfl) (by kernel_rfl) (fun _ _ _ h => h) (by rfl) hHeld ?_ ?_
      rotate_left
      · rintro wh ⟨z0, z1, z2, z3⟩
        go_simp
        (try with_reducible rfl)
      simp only [Act.put, List.setIfInBounds_toArray, List.set_cons_zero, List.set_cons_succ]
      refine held_call (i := 12) rfl (by kernel_rfl) (by rfl) (fun K hK => ?_)
      (go_simp; go_at_call 119; refine (HV.out _ (FBB.out.trans (hB5.mono FBB.out.size))).mono ?_; rintro e w6 ⟨rfl, hb6⟩; have hB6 : Below s4.heap.size s4 w6 := hB5.trans (hb6.mono hB5.size))
      refine hK.out _ _ ⟨keep_cell a0 hB6 y0, keep_cell a1 hB6 y0, keep_cell a2 hB6 y0, keep_cell D3 hB6 hz4⟩ (fun hHeld => ?_)
      clear hK K
      (try simp only [Act.put, List.setIfInBounds_toArray, List.set_cons_zero, List.set_cons_succ])
      refine held_call (i := 13) rfl (by kernel_rfl) (by rfl) (fun K hK => ?_)
      (go_simp; go_at_call 134; refine (not_fits _ _ _ _ hvs (keep_cell F2.out hB6 y2)).mono ?_; rintro e w7 ⟨rfl, hb7⟩; have hB7 : Below s4.heap.size s4 w7 := hB6.trans (hb7.mono hB6.size))
      refine hK.out _ _ ⟨keep_cell a0 hB7 y0, keep_cell a1 hB7 y0, keep_cell a2 hB7 y0, keep_cell D3 hB7 hz4⟩ (fun hHeld => ?_)
      clear hK K
      (try simp only [Act.put, List.setIfInBounds_toArray, List.set_cons_zero, List.set_cons_succ])
      refine held_take (i := 14) (v := ?_) rfl rfl (by kernel_rfl) (by kernel_rfl) (by kernel_rfl) (fun _ _ _ h => h) (by rfl) hHeld ?_ ?_
      rotate_left
      · rintro wh ⟨z0, z1, z2, z3⟩
        go_simp
        (try with_reducible rfl)
      simp only [Act.put, List.setIfInBounds_toArray, List.set_cons_zero, List.set_cons_succ]
      refine held_take (i := 15) (v := ?_) rfl rfl (by kernel_rfl) (by kernel_rfl) (by kernel_rfl) (fun _ _ _ h => h) (by rfl) hHeld ?_ ?_
      rotate_left
      · rintro wh ⟨z0, z1, z2, z3⟩
        go_simp
        (try with_reducible rfl)
      simp only [Act.put, List.setIfInBounds_toArray, List.set_cons_zero, List.set_cons_succ]
      refine wpAnyH_done (by kernel_rfl) ?_ _
      have HB := Lib.hid (FBB.out.trans (hB7.mono FBB.out.size))
      go_wp2
      go_ret
      exact ⟨by rw [HM.out, HOU.out]; rfl, HB.out⟩
end Go.Proofs.YtcfococinllcmaaGreat
