/- pattern's builder: node, free, one: contracts. -/
import Derived.Test.YtcfococinllcmaaGreatPatC
import Derived.Test.YtcfococinllcmaaGreatHeldS
import Derived.Deep.RegionHeldLaw
import Derived.StillTailTactics
namespace Go.Proofs.YtcfococinllcmaaGreat
open Go.RowKit

theorem info_state : (Tryz.prog.info? 231).map (fun i => (i.zero, i.size, i.bytes)) = some (some (.agg #[.pointer none, .int .i64 0, .slice none 0 0]), 3, 40) := by kernel_rfl
theorem info_intP : (Tryz.prog.info? 3).map (fun i => (i.zero, i.size, i.bytes)) = some (some (.int .i64 0), 1, 8) := by kernel_rfl
set_option maxHeartbeats 1600000 in
set_option maxRecDepth 100000 in
theorem node_is (w : World) (g : Nat) (s : ByteArray) (b : Bs) (own : Nat → Prop) (h : Bld w g s b own) (hn : b.sts.length ≤ 1000000) :
    Calls Tryz.prog 151 #[.pointer (some ⟨g, 0, none⟩)] w fun e w' => e = .returned (.int .i64 b.sts.length) ∧ ∃ own', Bld w' g s (nodeM b) own' ∧ Stp own w own' w' := by
  obtain ⟨sv, es, hB⟩ := h
  obtain ⟨c0, c1, c2, c3, fz⟩ := hB.cells
  have f3 := fz 3
  have hgl := hB.lt g hB.og
  obtain ⟨i0, hi, hz0, hz1, hz2⟩ := info_parts info_state
  have hba := alloc_below w (.cells #[.pointer none, .int .i64 0, .slice none 0 0] 231)
  have hnb : (w.alloc (.cells #[.pointer none, .int .i64 0, .slice none 0 0] 231)).heap[w.heap.size]? = some (.cells #[.pointer none, .int .i64 0, .slice none 0 0] 231 (0, 0)) := heap_alloc_new _ _
  have hB1 := hB.kept hba.size (fun k hk => hba.block k (hB.lt k hk))
  have hsz : (w.alloc (.cells #[.pointer none, .int .i64 0, .slice none 0 0] 231)).heap.size = w.heap.size + 1 := World.size_alloc _ _
  have HB1 := Lib.hid hB1
  have HNB := Lib.hid hnb
  have HSZ := Lib.hid hsz
  have hrow := hB1.row
  have hone : ∀ u ∈ ([.pointer none, .int .i64 0, .slice none 0 0] : List Value), u.oneCell' = true := by
    intro u hu; simp at hu; rcases hu with rfl | rfl | rfl <;> rfl
  have hgs : sv.ownBlock ≠ some g := fun e => (hB.orow g e).2 rfl
  have hg1 := HB1.out.blk
  have hgl1 := HB1.out.lt g HB1.out.og
  have HG1 := Lib.hid hg1
  clear fz hB1 hnb hsz hB hg1
  go_enter Tryz.func151, Tryz.ntmps151
  go_wp2_with (at_builtin; (refine wpList_append_lies _ rfl (.tmp 7) (.tmp 9) 188 rfl 0 231 i0 (.agg #[.pointer none, .int .i64 0, .slice none 0 0]) 3 40 Tryz.underlying188 hi hz0 hz1 hz2 rfl (by decide) sv b.sts.length (stC b.sts es) rfl hrow ⟨w.heap.size, 0, none⟩ 1 1 [.pointer none, .int .i64 0, .slice none 0 0] rfl rfl (World.news_of_block HNB.out) hone (by decide) (by unfold maxLen; omega) (by omega) (Nat.zero_le _) (w.heap.size + 1) (by simp) ?_); intro gr cap w1 hown hgrow hat hlt; have HW := Lib.hid (And.intro hown (And.intro hgrow (And.intro hat hlt))); have hg2 := (hgrow.block g hgl1 (fun e => hgs e.symm)).trans HG1.out; have c3' := cell_of_row w1 g 3 _ _ _ hg2; have f3' := frozen_of_row w1 g 3 _ _ hg2; clear hown hgrow hat hlt hg2)
  go_ret
  obtain ⟨hown, hgrow, hat, hlt⟩ := HW.out
  refine ⟨rfl, ⟨_, ⟨_, _, HB1.out.node hgrow hown (k' := gr) rfl (by rw [HSZ.out]; exact hat.imp id (fun h => Nat.le_of_eq h.symm)) hlt⟩, ?_⟩⟩
  refine ⟨(((Keep.refl own w).alloc _).grown hgrow (fun k e => .inl (HB1.out.orow k e).1)).setCell (p := ⟨g, 3, none⟩) HB1.out.og _, ?_⟩
  rintro k (hk | rfl)
  · exact .inl hk
  · rcases hat with h | h
    · exact .inl (HB1.out.orow _ h).1
    · exact .inr (by omega)
set_option maxHeartbeats 3200000 in
set_option maxRecDepth 100000 in
theorem free_is (w : World) (g : Nat) (s : ByteArray) (b : Bs) (own : Nat → Prop) (f t : Nat) (h : Bld w g s b own) (hf : f < b.sts.length) (hn : tot b.sts ≤ 1000000) :
    Calls Tryz.prog 153 #[.pointer (some ⟨g, 0, none⟩), .int .i64 f, .int .i64 t] w fun e w' => e = .returned (.tuple #[]) ∧ ∃ own', Bld w' g s (freeM b f t) own' ∧ Stp own w own' w' := by
  obtain ⟨sv, es, hB⟩ := h
  obtain ⟨c0, c1, c2, c3, fz⟩ := hB.cells
  have hgl := hB.lt g hB.og
  obtain ⟨i0, hi, hz0, hz1, hz2⟩ := info_parts info_intP
  obtain ⟨x, hx⟩ : ∃ x, b.sts[f]? = some x := ⟨_, List.getElem?_eq_getElem hf⟩
  obtain ⟨⟨ep, ev⟩, he⟩ : ∃ e, es[f]? = some e := ⟨_, List.getElem?_eq_getElem (by rw [hB.len]; exact hf)⟩
  obtain ⟨r, cap, rfl, _, hrlt⟩ := hB.row.form (by omega)
  have hxt : x.free.length ≤ 1000000 := Nat.le_trans (free_tot b.sts x (List.mem_of_getElem? hx)) hn
  have hnl : b.sts.length ≤ 1000000 := Nat.le_trans (len_tot b.sts) hn
  obtain ⟨hr0, hr1⟩ := hB.free f x (ep, ev) hx he
  dsimp only at hr0 hr1
  obtain ⟨_, _, q2⟩ := stC_at b.sts es f x (ep, ev) hx he
  obtain ⟨cf, ff⟩ := ownsRow_cell hB.row (g := r) rfl q2
  dsimp only at cf
  have hne : ev.ownBlock ≠ some r := fun e => (hB.far f (ep, ev) r he e).2 rfl
  have hneg : ev.ownBlock ≠ some g := fun e => (hB.far f (ep, ev) g he e).1 rfl
  have hHB := Lib.hid hB
  have HR0 := Lib.hid hr0
  have HX := Lib.hid hx
  have HE := Lib.hid he
  have hfl : (f : Int) < (b.sts.length : Int) := by omega
  have hf0 : (0 : Int) ≤ (f : Int) := by omega
  clear fz hr0 hB hx he q2 c0 c1 c2
  have hba : Below w.heap.size w (w.alloc (.cells #[.int .i64 t] 3)).drew := (alloc_below w _).drew
  have hnb : (w.alloc (.cells #[.int .i64 t] 3)).drew.heap[w.heap.size]? = some (.cells #[.int .i64 t] 3 (0, 0)) := heap_alloc_new w _
  have hsz : (w.alloc (.cells #[.int .i64 t] 3)).drew.heap.size = w.heap.size + 1 := World.size_alloc w _
  have hB1 := hHB.out.kept hba.size (fun k hk => hba.block k (hHB.out.lt k hk))
  obtain ⟨hrow, _⟩ := hB1.free f x (ep, ev) HX.out HE.out
  have c3a := keep_cell c3 hba hgl
  have cfa := keep_cell cf hba hrlt
  have hone : ∀ u ∈ ([.int .i64 t] : List Value), u.oneCell' = true := by
    intro u hu; simp at hu; subst hu; rfl
  go_enter Tryz.func153, Tryz.ntmps153
  refine wp_region_heldS 18 (S := (fun W => W.cell? ⟨g, 3, none⟩ = some (.slice (some ⟨r, 0, none⟩) b.sts.length cap) ∧ W.cell? ⟨r, f * 3 + 2, none⟩ = some ev)) (by kernel_rfl) ⟨c3, cf⟩ (fun hHeld => ?_)
  refine heldS_take (i := 0) (v := ?_) rfl rfl (by kernel_rfl) (by kernel_rfl) (by kernel_rfl) (by kernel_rfl) (by kernel_rfl) (fun _ _ _ h => h) (by rfl) hHeld ?_ ?_
  rotate_left
  · rintro wh ⟨z0, z1⟩
    go_simp
    (try with_reducible rfl)
  simp only [Act.put, List.setIfInBounds_toArray, List.set_cons_zero, List.set_cons_succ]
  refine heldS_take (i := 1) (v := ?_) rfl rfl (by kernel_rfl) (by kernel_rfl) (by kernel_rfl) (by kernel_rfl) (by kernel_rfl) (fun _ _ _ h => h) (by rfl) hHeld ?_ ?_
  rotate_left
  · rintro wh ⟨z0, z1⟩
    go_simp
    (try with_reducible rfl)
  simp only [Act.put, List.setIfInBounds_toArray, List.set_cons_zero, List.set_cons_succ]
  refine heldS_take (i := 2) (v := ?_) rfl rfl (by kernel_rfl) (by kernel_rfl) (by kernel_rfl) (by kernel_rfl) (by kernel_rfl) (fun _ _ _ h => h) (by rfl) hHeld ?_ ?_
  rotate_left
  · rintro wh ⟨z0, z1⟩
    go_simp
    (try with_reducible rfl)
  simp only [Act.put, List.setIfInBounds_toArray, List.set_cons_zero, List.set_cons_succ]
  refine heldS_take (i := 3) (v := ?_) rfl rfl (by kernel_rfl) (by kernel_rfl) (by kernel_rfl) (by kernel_rfl) (by kernel_rfl) (fun _ _ _ h => h) (by rfl) hHeld ?_ ?_
  rotate_left
  · rintro wh ⟨z0, z1⟩
    go_simp
    (try with_reducible rfl)
  simp only [Act.put, List.setIfInBounds_toArray, List.set_cons_zero, List.set_cons_succ]
  refine heldS_take (i := 4) (v := ?_) rfl rfl (by kernel_rfl) (by kernel_rfl) (by kernel_rfl) (by kernel_rfl) (by kernel_rfl) (fun _ _ _ h => h) (by rfl) hHeld ?_ ?_
  rotate_left
  · rintro wh ⟨z0, z1⟩
    go_simp
    (try with_reducible rfl)
  simp only [Act.put, List.setIfInBounds_toArray, List.set_cons_zero, List.set_cons_succ]
  refine heldS_take (i := 5) (v := ?_) rfl rfl (by kernel_rfl) (by kernel_rfl) (by kernel_rfl) (by kernel_rfl) (by kernel_rfl) (fun _ _ _ h => h) (by rfl) hHeld ?_ ?_
  rotate_left
  · rintro wh ⟨z0, z1⟩
    go_simp
    (try with_reducible rfl)
  simp only [Act.put, List.setIfInBounds_toArray, List.set_cons_zero, List.set_cons_succ]
  refine heldS_take (i := 6) (v := ?_) rfl rfl (by kernel_rfl) (by kernel_rfl) (by kernel_rfl) (by kernel_rfl) (by kernel_rfl) (fun _ _ _ h => h) (by rfl) hHeld ?_ ?_
  rotate_left
  · rintro wh ⟨z0, z1⟩
    go_simp
    (try with_reducible rfl)
  simp only [Act.put, List.setIfInBounds_toArray, List.set_cons_zero, List.set_cons_succ]
  refine heldS_take (i := 7) (v := ?_) rfl rfl (by kernel_rfl) (by kernel_rfl) (by kernel_rfl) (by kernel_rfl) (by kernel_rfl) (fun _ _ _ h => h) (by rfl) hHeld ?_ ?_
  rotate_left
  · rintro wh ⟨z0, z1⟩
    go_simp
    (try with_reducible rfl)
  simp only [Act.put, List.setIfInBounds_toArray, List.set_cons_zero, List.set_cons_succ]
  refine heldS_take (i := 8) (v := ?_) rfl rfl (by kernel_rfl) (by kernel_rfl) (by kernel_rfl) (by kernel_rfl) (by kernel_rfl) (fun _ _ _ h => h) (by rfl) hHeld ?_ ?_
  rotate_left
  · rintro wh ⟨z0, z1⟩
    go_simp
    (try with_reducible rfl)
  simp only [Act.put, List.setIfInBounds_toArray, List.set_cons_zero, List.set_cons_succ]
  refine heldS_take (i := 9) (v := ?_) rfl rfl (by kernel_rfl) (by kernel_rfl) (by kernel_rfl) (by kernel_rfl) (by kernel_rfl) (fun _ _ _ h => h) (by rfl) hHeld ?_ ?_
  rotate_left
  · rintro wh ⟨z0, z1⟩
    go_simp
    (try with_reducible rfl)
  simp only [Act.put, List.setIfInBounds_toArray, List.set_cons_zero, List.set_cons_succ]
  refine heldS_take (i := 10) (v := ?_) rfl rfl (by kernel_rfl) (by kernel_rfl) (by kernel_rfl) (by kernel_rfl) (by kernel_rfl) (fun _ _ _ h => h) (by rfl) hHeld ?_ ?_
  rotate_left
  · rintro wh ⟨z0, z1⟩
    go_simp
    (try with_reducible rfl)
  simp only [Act.put, List.setIfInBounds_toArray, List.set_cons_zero, List.set_cons_succ]
  refine heldS_take (i := 11) (v := ?_) rfl rfl (by kernel_rfl) (by kernel_rfl) (by kernel_rfl) (by kernel_rfl) (by kernel_rfl) (fun _ _ _ h => h) (by rfl) hHeld ?_ ?_
  rotate_left
  · rintro wh ⟨z0, z1⟩
    go_simp
    (try with_reducible rfl)
  simp only [Act.put, List.setIfInBounds_toArray, List.set_cons_zero, List.set_cons_succ]
  refine heldS_take (i := 12) (v := ?_) rfl rfl (by kernel_rfl) (by kernel_rfl) (by kernel_rfl) (by kernel_rfl) (by kernel_rfl) (fun _ _ _ h => h) (by rfl) hHeld ?_ ?_
  rotate_left
  · rintro wh ⟨z0, z1⟩
    go_simp
    (try with_reducible rfl)
  simp only [Act.put, List.setIfInBounds_toArray, List.set_cons_zero, List.set_cons_succ]
  refine heldS_take (i := 13) (v := ?_) rfl rfl (by kernel_rfl) (by kernel_rfl) (by kernel_rfl) (by kernel_rfl) (by kernel_rfl) (fun _ _ _ h => h) (by rfl) hHeld ?_ ?_
  rotate_left
  · rintro wh ⟨z0, z1⟩
    go_simp
    (try with_reducible rfl)
  simp only [Act.put, List.setIfInBounds_toArray, List.set_cons_zero, List.set_cons_succ]
  refine heldS_step (i := 14) rfl (by kernel_rfl) (fun K hK => ?_)
  go_simp
  refine hK.out _ _ ⟨c3a, cfa⟩ (fun hHeld => ?_)
  clear hK K
  (try simp only [Act.put, List.setIfInBounds_toArray])
  have HB1 := Lib.hid hB1
  have HNB := Lib.hid hnb
  have HSZ := Lib.hid hsz
  have HBA := Lib.hid hba
  have FFA := Lib.hid ((hba.frozen (p := ⟨r, f * 3 + 2, none⟩) hrlt).trans ff)
  clear hB1 hnb hsz hba ff
  generalize (w.alloc (.cells #[.int .i64 t] 3)).drew = wa at *
  refine heldS_step (i := 15) rfl (by kernel_rfl) (fun K hK => ?_)
  (refine step_append_lies _ (by rfl) (.tmp 18) (.tmp 20) 32 (by rfl) 0 3 i0 (.int .i64 0) 1 8 Tryz.underlying32 hi hz0 hz1 hz2 rfl (by decide) ev x.free.length (freeC x.free) (by rfl) hrow ⟨w.heap.size, 0, none⟩ 1 1 [.int .i64 t] (by rfl) rfl (World.news_of_block HNB.out) hone (by decide) (by unfold maxLen; omega) (by omega) (Nat.zero_le _) (w.heap.size + 1) HSZ.out ?_); intro gr cp w1 hown hgrow hat hlt; have HW := Lib.hid (And.intro hown (And.intro hgrow (And.intro hat hlt))); have c3' := (hgrow.cell_far ⟨g, 3, none⟩ (Nat.lt_of_lt_of_le hgl HBA.out.size) (fun e => hneg e.symm)).trans c3a; have cf' := (hgrow.cell_far ⟨r, f * 3 + 2, none⟩ (Nat.lt_of_lt_of_le hrlt HBA.out.size) (fun e => hne e.symm)).trans cfa; have ff' := (hgrow.frozen_far ⟨r, f * 3 + 2, none⟩ (Nat.lt_of_lt_of_le hrlt HBA.out.size) (fun e => hne e.symm)).trans FFA.out; clear hown hgrow hat hlt
  refine hK.out _ _ ⟨c3', cf'⟩ (fun hHeld => ?_)
  clear hK K
  (try simp only [Act.put, List.setIfInBounds_toArray])
  refine heldS_step (i := 16) rfl (by kernel_rfl) (fun K hK => ?_)
  go_simp
  refine hK.out _ _ ⟨c3', cf'⟩ (fun hHeld => ?_)
  clear hK K
  (try simp only [Act.put, List.setIfInBounds_toArray])
  refine heldS_step (i := 17) rfl (by kernel_rfl) (fun K hK => ?_)
  go_simp
  refine hK.out _ _ ⟨c3', cf'⟩ (fun hHeld => ?_)
  clear hK K
  (try simp only [Act.put, List.setIfInBounds_toArray])
  refine heldS_last (i := 18) rfl (by kernel_rfl) (by kernel_rfl) (fun K hK => ?_)
  go_simp
  refine hK.out _ _ ?_
  clear hK K
  (try simp only [Act.put, List.setIfInBounds_toArray])
  refine wpAnyEnd_done (by kernel_rfl) ?_ _
  go_wp2
  go_end0
  obtain ⟨hown, hgrow, hat, hlt⟩ := HW.out
  refine ⟨rfl, _, ⟨_, _, HB1.out.way HX.out HE.out hgrow (k' := gr) (r := r) hown rfl (by rw [HSZ.out]; exact hat.imp id (fun h => Nat.le_of_eq h.symm)) hlt rfl⟩, ?_⟩
  refine ⟨(((Keep.of_below HBA.out).grown hgrow (fun k e => .inl (hr1 k e))).setCell (p := ⟨r, f * 3 + 2, none⟩) (HB1.out.orow r rfl).1 _), ?_⟩
  rintro k (hk | rfl)
  · exact .inl hk
  · rcases hat with h | h
    · exact .inl (hr1 _ h)
    · exact .inr (by omega)
end Go.Proofs.YtcfococinllcmaaGreat
