/- silences: Get. -/
import Derived.Test.YtcfococinllcmaaGreatSlEnd
import Derived.Test.YtcfococinllcmaaGreatBox3
namespace Go.Proofs.YtcfococinllcmaaGreat
open Go.RowKit Go.Maps

/-- what Get hands back -/
abbrev zeroS : Sil := ⟨0, (none, 0, 0), [], 0, 0, 0, 0⟩
def getS (S : List Sil) (id : Int) : Sil := (S.find? fun s => s.id == id).getD zeroS
set_option maxHeartbeats 3200000 in
set_option maxRecDepth 100000 in
theorem get_any (lp m n : Nat) (S : List Sil) (last id : Int) (w : World) (h : SlAt w lp m n S last) (hw : (Lit.int .i64 id).wf = true) :
    Calls Tryz.prog 38 #[.pointer (some ⟨lp, 0, none⟩), .int .i64 id] w fun e w' =>
      ∃ mv : Option Addr × Nat × Nat, e = .returned (.tuple #[({ getS S id with mv := mv } : Sil).v, .bool (S.find? fun s => s.id == id).isSome]) ∧ MtsAt w' (SV mv) (getS S id).ms ∧ Below w.heap.size w w' := by
  obtain ⟨W1, h1⟩ : ∃ z, w.alloc (.cells #[.slice none 0 0, .int .i64 0, .int .i64 0, .int .i64 0, .int .u32 0] 67) = z := ⟨_, rfl⟩
  have s1 : W1.heap.size = w.heap.size + 1 := by rw [← h1, World.size_alloc]
  have b1 : Below w.heap.size w W1 := by rw [← h1]; exact alloc_below _ _
  have t1 : W1.there w.heap.size 0 5 := by
    have := box_there (Below.refl _ (w.alloc (.cells #[.slice none 0 0, .int .i64 0, .int .i64 0, .int .i64 0, .int .u32 0] 67)))
    rw [h1] at this; exact this
  have z1 : C5 w.heap.size (.slice none 0 0) (.int .i64 0) (.int .i64 0) (.int .i64 0) (.int .u32 0) W1 := by
    have := alc5 w (.slice none 0 0) (.int .i64 0) (.int .i64 0) (.int .i64 0) (.int .u32 0) 67
    rw [h1] at this; exact this
  have h' := h.later b1
  have l0 := h'.h0
  obtain ⟨z, hz, hzs, hm⟩ : ∃ z : Sil, (Instr.lookup 115 (.map (some m)) (.int .i64 id) true).run Tryz.prog W1 = .ok (.tuple #[z.v, .bool (S.find? fun s => s.id == id).isSome]) W1 ∧ z = getS S id ∧ (MtsAt W1 (SV z.mv) z.ms ∧ z.ms.length ≤ 12) := by
    cases hf : (S.find? fun s => s.id == id) with
    | none =>
      obtain ⟨z, hr, rfl⟩ := look_none h' hw hf
      exact ⟨_, hr, by unfold getS; rw [hf]; rfl, RdAt.nil _ _, by decide⟩
    | some s =>
      have hs := List.mem_of_find?_eq_some hf
      have hid : s.id = id := by simpa using List.find?_some hf
      have hr := (look_some h' hs).1
      rw [hid] at hr
      exact ⟨s, hr, by unfold getS; rw [hf]; rfl, (h'.ms s hs).1, (h'.ms s hs).2.2.1⟩
  rw [← hzs]
  generalize (S.find? fun s => s.id == id).isSome = OK at *
  clear hzs h h'
  obtain ⟨hm1, hm2⟩ := hm
  obtain ⟨za, zc, e, _, _⟩ := RdAt.shape hm1
  unfold Sil.v at hz ⊢
  obtain ⟨zid, zmv, ms, fr, til, lv, c⟩ := z
  dsimp only [SV] at *
  rw [e] at hz hm1
  clear e
  obtain ⟨W2, h2⟩ : ∃ z, W1.alloc (.cells #[.slice za ms.length zc, .int .i64 fr, .int .i64 til, .int .i64 lv, .int .u32 c] 67) = z := ⟨_, rfl⟩
  have s2 : W2.heap.size = w.heap.size + 1 + 1 := by rw [← h2, World.size_alloc, s1]
  have b2 : Below W1.heap.size W1 W2 := by rw [← h2]; exact alloc_below _ _
  have x2 : C5 (w.heap.size + 1) (.slice za ms.length zc) (.int .i64 fr) (.int .i64 til) (.int .i64 lv) (.int .u32 c) W2 := by
    have := alc5 W1 (.slice za ms.length zc) (.int .i64 fr) (.int .i64 til) (.int .i64 lv) (.int .u32 c) 67
    rw [h2, s1] at this; exact this
  have t2 : W2.there (w.heap.size + 1) 0 5 := by
    have := box_there (Below.refl _ (W1.alloc (.cells #[.slice za ms.length zc, .int .i64 fr, .int .i64 til, .int .i64 lv, .int .u32 c] 67)))
    rw [h2, s1] at this; exact this
  have t12 := there_later t1 b2 (by omega)
  have hB2 : Below w.heap.size w W2 := b1.trans (b2.mono (by omega))
  have kc := cloneM_any ms W2 (.slice za ms.length zc) (RdAt.later hm1 b2) (by omega)
  have HB2 := Lib.hid hB2
  have HX2 := Lib.hid x2
  have HZ2 := Lib.hid (z1.later b2)
  clear z1
  have HT1 := Lib.hid t12
  have HT2 := Lib.hid t2
  have HBB := Lib.hid b2
  clear b1 b2 t1 t2 t12 hB2 x2 hm1 hw
  go_enter Tryz.func38, Tryz.ntmps38
  go_upto_region 3 with fail
  try rw [h1]
  clear h1
  go_upto_region 4 with fail
  try rw [s1]
  clear h2 hz l0
  obtain ⟨x0, x1, x2, x3, x4⟩ := HX2.out
  go_wp2_with fail
  refine kc.mono ?_
  rintro e w3 ⟨v', rfl, hown, hb3⟩
  obtain ⟨ga, gc, rfl, _, _⟩ := RdAt.shape (RdAt.own hown)
  have HO := Lib.hid hown
  have HX3 := Lib.hid (HX2.out.later hb3)
  obtain ⟨z0, z1, z2, z3, z4⟩ := HZ2.out.later hb3
  have HT3 := Lib.hid (there_later HT1.out hb3 (by omega))
  have HT4 := Lib.hid (there_later HT2.out hb3 (by omega))
  have HB3 := Lib.hid (HB2.out.trans (hb3.mono HB2.out.size))
  have hs3 := hb3.size
  clear kc hown hb3 x0 x1 x2 x3 x4 HX2 HT1 HT2 HB2
  obtain ⟨x0, x1, x2, x3, x4⟩ := HX3.out
  have g0 := there_free HT4.out 0 (by omega)
  have f0 := there_free HT3.out 0 (by omega)
  have f1 := there_free HT3.out 1 (by omega)
  have f2 := there_free HT3.out 2 (by omega)
  have f3 := there_free HT3.out 3 (by omega)
  have f4 := there_free HT3.out 4 (by omega)
  go_wp2
  have hT := World.there_setCells HT3.out (w.heap.size + 1) 0 [.slice ga ms.length gc]
  refine bodyPost_ret (results_agg2 rfl _ _ w.heap.size [.slice ga ms.length gc, .int .i64 fr, .int .i64 til, .int .i64 lv, .int .u32 c] (.struct _) rfl (World.rangeAt_setCells_same _ w.heap.size 0 [.slice ga ms.length gc, .int .i64 fr, .int .i64 til, .int .i64 lv, .int .u32 c] hT) Tryz.underlying67 rfl (by kernel_rfl)) rfl ?_
  have hba := below_puts (g := w.heap.size + 1) (o := 0) HB3.out (by omega) [.slice ga ms.length gc]
  have hbb := below_puts (g := w.heap.size) (o := 0) hba (by omega) [.slice ga ms.length gc, .int .i64 fr, .int .i64 til, .int .i64 lv, .int .u32 c]
  have ho : ∀ q, (Value.slice ga ms.length gc).ownBlock = some q → w.heap.size + 1 + 1 ≤ q := fun q hq => by
    have := (HO.out.lt q hq).1
    omega
  have hF3 := rd_puts (g := w.heap.size + 1) (o := 0) (RdAt.own HO.out) (fun q hq => by have := ho q hq; omega) [.slice ga ms.length gc]
  have hF4 := rd_puts (g := w.heap.size) (o := 0) hF3 (fun q hq => by have := ho q hq; omega) [.slice ga ms.length gc, .int .i64 fr, .int .i64 til, .int .i64 lv, .int .u32 c]
  exact ⟨(ga, ms.length, gc), rfl, hF4, hbb⟩
set_option maxHeartbeats 1600000 in
set_option maxRecDepth 100000 in
theorem get_nil (id : Int) (w : World) : Calls Tryz.prog 38 #[.pointer none, .int .i64 id] w fun e w' => e = .returned (.tuple #[zeroS.v, .bool false]) ∧ Below w.heap.size w w' := by
  have hb := alloc_below w (.cells #[.slice none 0 0, .int .i64 0, .int .i64 0, .int .i64 0, .int .u32 0] 67)
  have ht := box_there (Below.refl _ (w.alloc (.cells #[.slice none 0 0, .int .i64 0, .int .i64 0, .int .i64 0, .int .u32 0] 67)))
  have x := alc5 w (.slice none 0 0) (.int .i64 0) (.int .i64 0) (.int .i64 0) (.int .u32 0) 67
  obtain ⟨W1, h1⟩ : ∃ z, w.alloc (.cells #[.slice none 0 0, .int .i64 0, .int .i64 0, .int .i64 0, .int .u32 0] 67) = z := ⟨_, rfl⟩
  rw [h1] at hb ht x
  change W1.there w.heap.size 0 5 at ht
  have HB := Lib.hid hb
  have HT := Lib.hid ht
  have f0 := there_free ht 0 (by omega)
  have f1 := there_free ht 1 (by omega)
  have f2 := there_free ht 2 (by omega)
  have f3 := there_free ht 3 (by omega)
  have f4 := there_free ht 4 (by omega)
  obtain ⟨z0, z1, z2, z3, z4⟩ := x
  clear hb ht
  go_enter Tryz.func38, Tryz.ntmps38
  go_upto_region 1 with fail
  try rw [h1]
  clear h1
  go_wp2
  refine bodyPost_ret (results_agg2 rfl _ _ w.heap.size [.slice none 0 0, .int .i64 0, .int .i64 0, .int .i64 0, .int .u32 0] (.struct _) rfl (World.rangeAt_setCells_same _ w.heap.size 0 [.slice none 0 0, .int .i64 0, .int .i64 0, .int .i64 0, .int .u32 0] HT.out) Tryz.underlying67 rfl (by kernel_rfl)) rfl ?_
  exact ⟨rfl, below_puts (g := w.heap.size) (o := 0) HB.out (by omega) [.slice none 0 0, .int .i64 0, .int .i64 0, .int .i64 0, .int .u32 0]⟩
end Go.Proofs.YtcfococinllcmaaGreat
