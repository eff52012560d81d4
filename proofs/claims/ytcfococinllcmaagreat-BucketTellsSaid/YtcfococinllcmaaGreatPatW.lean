/- pattern.Read, pattern.Right: contracts. -/
import Derived.Test.YtcfococinllcmaaGreatPatV
namespace Go.Proofs.YtcfococinllcmaaGreat
open Go.RowKit

def bs0 : Bs := ⟨0, 0, []⟩
/-- what is read -/
def runR (s : ByteArray) : Bs × (Nat × Nat) := runM s (8 * s.size + 5) .either 0 bs0
def endR (s : ByteArray) : Bs := if (runR s).1.pos < s.size then failM (runR s).1 2 else (runR s).1
/-- why a text is no pattern -/
def errM (s : ByteArray) : Int := if 100 < s.size then 4 else (endR s).err
/-- a pattern in memory -/
structure PatV (w : World) (a : Nat) (s : ByteArray) (sts : List St) (st en : Nat) (sv : Value) (es : List (Value × Value)) : Prop where
  blk : w.heap[a]? = some (.cells #[.string s, sv, .int .i64 st, .int .i64 en] 195 (0, 0))
  len : es.length = sts.length
  row : w.ownsRow 0 231 3 sv sts.length (stC sts es)
  ptr : ∀ (i : Nat) x (e : Value × Value), sts[i]? = some x → es[i]? = some e → PtrAt w (fun _ => True) x e.1
  free : ∀ (i : Nat) x (e : Value × Value), sts[i]? = some x → es[i]? = some e → FreeAt w (fun _ => True) x e.2
def PatAt (w : World) (a : Nat) (s : ByteArray) (sts : List St) (st en : Nat) : Prop := ∃ sv es, PatV w a s sts st en sv es
theorem ownsRow_below {w w' : World} {base : Nat} {e : TypeId} {size : Nat} {v : Value} {n : Nat} {xs : List Value} (h : w.ownsRow base e size v n xs) (hb : Below w.heap.size w w') : w'.ownsRow base e size v n xs :=
  ownsRow_blk h (fun k hk => hb.block k (h.lt k hk).2)
theorem PtrAt.below {w w' : World} {own : Nat → Prop} {x : St} {v : Value} (h : PtrAt w own x v) (hb : Below w.heap.size w w') : PtrAt w' own x v := by
  unfold PtrAt at h ⊢
  split
  · rename_i e; rw [e] at h; exact h
  · rename_i f e
    rw [e] at h
    obtain ⟨k, h1, h2, h3⟩ := h
    exact ⟨k, h1, h2.blk (hb.block k h2.lt), h3⟩
theorem PatAt.below {w w' : World} {a : Nat} {s : ByteArray} {sts : List St} {st en : Nat} (h : PatAt w a s sts st en) (hb : Below w.heap.size w w') : PatAt w' a s sts st en := by
  obtain ⟨sv, es, h⟩ := h
  refine ⟨sv, es, (hb.block a (Array.getElem?_eq_some_iff.1 h.blk).1).trans h.blk, h.len, ownsRow_below h.row hb, fun i x e hx he => (h.ptr i x e hx he).below hb, fun i x e hx he => ?_⟩
  obtain ⟨h1, h2⟩ := h.free i x e hx he
  exact ⟨ownsRow_below h1 hb, h2⟩
/-- the builder's states, behind a new box -/
theorem BldV.pat {w : World} {g : Nat} {s : ByteArray} {b : Bs} {own : Nat → Prop} {sv : Value} {es : List (Value × Value)} (h : BldV w g s b own sv es) (st en : Nat) :
    PatAt (w.alloc (.cells #[.string s, sv, .int .i64 st, .int .i64 en] 195)) w.heap.size s b.sts st en := by
  have hb := alloc_below w (.cells #[.string s, sv, .int .i64 st, .int .i64 en] 195)
  refine ⟨sv, es, heap_alloc_new _ _, h.len, ownsRow_below h.row hb, fun i x e hx he => ((h.ptr i x e hx he).mono (fun _ _ => trivial)).below hb, fun i x e hx he => ?_⟩
  obtain ⟨h1, _⟩ := h.free i x e hx he
  exact ⟨ownsRow_below h1 hb, fun _ _ => trivial⟩
theorem PatAt.below' {w w' : World} {a : Nat} {s : ByteArray} {sts : List St} {st en : Nat} (h : PatAt w a s sts st en) (hb : Below w.heap.size w w') : PatAt w' a s sts st en := h.below hb
/-- a builder of its own -/
theorem Bld.new (w : World) (s : ByteArray) : Bld (w.alloc (.cells #[.string s, .int .i64 0, .int .i64 0, .slice none 0 0] 190)) w.heap.size s bs0 (fun k => k = w.heap.size) := by
  refine ⟨.slice none 0 0, [], ⟨heap_alloc_new _ _, rfl, fun k hk => by rw [hk, World.size_alloc]; omega, rfl, World.ownsRow_nil _ _ _ _, ?_, ?_, ?_, ?_, ?_, ?_⟩⟩
  · intro k hk; simp [Value.ownBlock] at hk
  · intro i x e hx; simp [bs0] at hx
  · intro i x e hx; simp [bs0] at hx
  · intro i e k he; simp at he
  · intro i e k he; simp at he
  · intro i j e e' k he; simp at he
/-- what Read hands back -/
def ReadPost (s : ByteArray) (w : World) (e : Ending) (w' : World) : Prop :=
  Below w.heap.size w w' ∧ ((errM s ≠ 0 ∧ e = .returned (.tuple #[.pointer none, .int .i64 (errM s)])) ∨
    (errM s = 0 ∧ ∃ a, e = .returned (.tuple #[.pointer (some ⟨a, 0, none⟩), .int .i64 0]) ∧ PatAt w' a s (endR s).sts (runR s).2.1 (runR s).2.2 ∧ w.heap.size ≤ a))
theorem ownsRow_slice {w : World} {base : Nat} {e : TypeId} {size : Nat} {v : Value} {n : Nat} {xs : List Value} (h : w.ownsRow base e size v n xs) : ∃ a m c, v = .slice a m c := by
  rcases h.2 with ⟨rfl, _⟩ | ⟨g, cap, _, rfl, _⟩
  · exact ⟨_, _, _, rfl⟩
  · exact ⟨_, _, _, rfl⟩
theorem endR_sts (s : ByteArray) : (endR s).sts = (runR s).1.sts := by unfold endR; split <;> simp [failM_sts]
theorem runR_ok (s : ByteArray) : RunOk s .either 0 bs0 (runR s) :=
  runM_ok s _ .either 0 bs0 (by omega) (by simp [bs0]) (fun h => by cases h) trivial (by simp [fuelM, bs0])
set_option maxHeartbeats 6400000 in
set_option maxRecDepth 100000 in
theorem read_is (s : ByteArray) (w : World) : Calls Tryz.prog 105 #[.string s] w (ReadPost s w) := by
  by_cases hs : 100 < s.size
  · have he : errM s = 4 := by unfold errM; rw [if_pos hs]
    have HE := Lib.hid he
    have hsi : (100 : Int) < (s.size : Int) := by omega
    clear he
    go_enter Tryz.func105, Tryz.ntmps105
    go_wp2
    go_ret2
    refine ⟨Below.refl _ _, .inl ⟨by rw [HE.out]; decide, by rw [HE.out]; rfl⟩⟩
  · have hs' : s.size ≤ 100 := by omega
    have he : errM s = (endR s).err := by unfold errM; rw [if_neg hs]
    have HE := Lib.hid he
    have hsi : ¬ (100 : Int) < (s.size : Int) := by omega
    have hb0 := alloc_below w (.cells #[.string s, .int .i64 0, .int .i64 0, .slice none 0 0] 190)
    have hB0 := Bld.new w s
    have ok := runR_ok s
    have k1 := (all_of s hs' (8 * s.size + 5)).1 _ w.heap.size bs0 _ 0 hB0 (by omega) (by simp [bs0]) (by simp [fuelM, bs0]) (by simp [capM, bs0, tot]; omega)
    change Calls _ _ _ _ (PartPost _ _ _ _ (runR s)) at k1
    have HEN : Hid (endR s = if (runR s).1.pos < s.size then failM (runR s).1 2 else (runR s).1) := Lib.hid rfl
    have hpos := ok.top
    obtain ⟨br, p, q, hr⟩ : ∃ br p q, runR s = (br, (p, q)) := ⟨_, _, _, rfl⟩
    have HRR := Lib.hid hr
    rw [hr] at k1 hpos HEN
    dsimp only at hpos HEN
    have HB0 := Lib.hid hb0
    clear he ok hB0 hb0 hs hr
    go_enter Tryz.func105, Tryz.ntmps105
    go_wp2_with fail
    refine k1.mono ?_
    rintro e w1 ⟨rfl, own1, hB1, hst1⟩
    have hbw : Below w.heap.size w w1 := HB0.out.trans (hst1.1.below (by rw [World.size_alloc]; omega) (fun k hk => by rw [hk]; exact Nat.le_refl _))
    have hgl : ∀ k, own1 k → w.heap.size ≤ k := fun k hk => by
      rcases hst1.2 k hk with h | h
      · rw [h]; exact Nat.le_refl _
      · rw [World.size_alloc] at h; omega
    clear k1 hst1
    go_upto_region 5 with fail
    obtain ⟨pb, hpb⟩ : ∃ pb, w1.heap.size = pb := ⟨_, rfl⟩
    refine wp_forget (fun W => Bld W w.heap.size s br own1 ∧ PBx W pb (.int .i64 p) (.int .i64 q) ∧ ¬ own1 pb ∧ Below w.heap.size w W) ?_ (fun w2 q2 => ?_)
    · have hba := alloc_below w1 (.cells #[.int .i64 p, .int .i64 q] 192)
      refine ⟨hB1.below hba, ?_, ?_, hbw.trans (hba.mono hbw.size)⟩
      · rw [← hpb]; exact heap_alloc_new _ _
      · rw [← hpb]; exact fun h0 => by have := hB1.lt _ h0; omega
    rw [hpb]
    have Q2 := Lib.hid q2
    have HGL := Lib.hid hgl
    clear q2 hbw hB1 hpb hgl
    obtain ⟨_, c1, _, _⟩ := Q2.out.1.fields
    have hfin : ∀ (W : World) (b2 : Bs), endR s = b2 → Bld W w.heap.size s b2 own1 → PBx W pb (.int .i64 p) (.int .i64 q) → Below w.heap.size w W → Hid (Bld W w.heap.size s b2 own1 ∧ PBx W pb (.int .i64 p) (.int .i64 q) ∧ Below w.heap.size w W ∧ endR s = b2) := fun W b2 h1 h2 h3 h4 => Lib.hid ⟨h2, h3, h4, h1⟩
    by_cases hlt : br.pos < s.size
    · have HE2 : Hid (endR s = failM br 2) := Lib.hid (HEN.out.trans (if_pos hlt))
      have hlti : (br.pos : Int) < (s.size : Int) := by omega
      have kf := fail_is w2 w.heap.size s br own1 2 Q2.out.1
      clear hlt HEN
      go_wp2_with fail
      refine kf.mono ?_
      rintro e w3 ⟨rfl, hB3, hs3⟩
      have H3 := hfin w3 _ HE2.out hB3 (hs3.blk Q2.out.2.1 Q2.out.2.2.1) (Q2.out.2.2.2.trans (hs3.1.below Q2.out.2.2.2.size HGL.out))
      generalize failM br 2 = b2 at *
      clear kf hB3 hs3 c1 Q2 HE2 hfin
      obtain ⟨_, _, c2, _⟩ := H3.out.1.fields
      by_cases he : b2.err = 0
      · have hee : (b2.err != 0) = false := by rw [he]; rfl
        obtain ⟨pos, err, sts⟩ := b2
        dsimp only at he
        subst he
        obtain ⟨sv, es, hV⟩ := H3.out.1
        obtain ⟨sa, sn, sc, rfl⟩ := ownsRow_slice hV.row
        have HV := Lib.hid hV
        obtain ⟨_, _, _, c3, _⟩ := hV.cells
        have c4 := H3.out.2.1.c0
        have c5 := H3.out.2.1.c1
        have HER : Hid (errM s = 0) := Lib.hid (by rw [HE.out, H3.out.2.2.2])
        have hsts : Hid ((endR s).sts = sts) := Lib.hid (by rw [H3.out.2.2.2])
        clear hV
        go_upto_region 9 with fail
        have hlg : w.heap.size < w3.heap.size := HV.out.lt _ HV.out.og
        have hlp := H3.out.2.1.lt
        have hVd : BldV w3.drew w.heap.size s ⟨pos, 0, sts⟩ own1 (.slice sa sn sc) es := HV.out.kept (Nat.le_refl _) (fun _ _ => rfl)
        have HPT := Lib.hid (hVd.pat p q)
        have hba := alloc_below w3.drew (.cells #[.string s, .slice sa sn sc, .int .i64 p, .int .i64 q] 195)
        have HBA : Hid (Below w.heap.size w (w3.drew.alloc (.cells #[.string s, .slice sa sn sc, .int .i64 p, .int .i64 q] 195))) := Lib.hid ((H3.out.2.2.1.drew).trans (hba.mono H3.out.2.2.1.size))
        have HSZ : Hid (w.heap.size ≤ w3.drew.heap.size) := Lib.hid H3.out.2.2.1.size
        refine wp_region_held_drew (S := (fun W => W.cell? ⟨w.heap.size, 3, none⟩ = some (.slice sa sn sc) ∧ W.cell? ⟨pb, 0, none⟩ = some (.int .i64 p) ∧ W.cell? ⟨pb, 1, none⟩ = some (.int .i64 q))) (by kernel_rfl) ⟨c3, c4, c5⟩ (fun hHeld => ?_)
        have c3 : w3.drew.cell? ⟨w.heap.size, 3, none⟩ = some (.slice sa sn sc) := c3
        have c4 : w3.drew.cell? ⟨pb, 0, none⟩ = some (.int .i64 p) := c4
        have c5 : w3.drew.cell? ⟨pb, 1, none⟩ = some (.int .i64 q) := c5
        have hlg : w.heap.size < w3.drew.heap.size := hlg
        have hlp : pb < w3.drew.heap.size := hlp
        clear hVd
        generalize w3.drew = wd at *
        refine held_take (i := 0) (v := ?_) rfl rfl (by kernel_rfl) (by kernel_rfl) (by kernel_rfl) (fun _ _ _ h => h) (by rfl) hHeld ?_ ?_
        rotate_left
        · rintro wh ⟨z0, z1, z2⟩
          go_simp
          (try with_reducible rfl)
        simp only [Act.put, List.setIfInBounds_toArray, List.set_cons_zero, List.set_cons_succ]
        refine held_take (i := 1) (v := ?_) rfl rfl (by kernel_rfl) (by kernel_rfl) (by kernel_rfl) (fun _ _ _ h => h) (by rfl) hHeld ?_ ?_
        rotate_left
        · rintro wh ⟨z0, z1, z2⟩
          go_simp
          (try with_reducible rfl)
        simp only [Act.put, List.setIfInBounds_toArray, List.set_cons_zero, List.set_cons_succ]
        refine held_take (i := 2) (v := ?_) rfl rfl (by kernel_rfl) (by kernel_rfl) (by kernel_rfl) (fun _ _ _ h => h) (by rfl) hHeld ?_ ?_
        rotate_left
        · rintro wh ⟨z0, z1, z2⟩
          go_simp
          (try with_reducible rfl)
        simp only [Act.put, List.setIfInBounds_toArray, List.set_cons_zero, List.set_cons_succ]
        refine held_take (i := 3) (v := ?_) rfl rfl (by kernel_rfl) (by kernel_rfl) (by kernel_rfl) (fun _ _ _ h => h) (by rfl) hHeld ?_ ?_
        rotate_left
        · rintro wh ⟨z0, z1, z2⟩
          go_simp
          (try with_reducible rfl)
        simp only [Act.put, List.setIfInBounds_toArray, List.set_cons_zero, List.set_cons_succ]
        refine held_take (i := 4) (v := ?_) rfl rfl (by kernel_rfl) (by kernel_rfl) (by kernel_rfl) (fun _ _ _ h => h) (by rfl) hHeld ?_ ?_
        rotate_left
        · rintro wh ⟨z0, z1, z2⟩
          go_simp
          (try with_reducible rfl)
        simp only [Act.put, List.setIfInBounds_toArray, List.set_cons_zero, List.set_cons_succ]
        refine held_take (i := 5) (v := ?_) rfl rfl (by kernel_rfl) (by kernel_rfl) (by kernel_rfl) (fun _ _ _ h => h) (by rfl) hHeld ?_ ?_
        rotate_left
        · rintro wh ⟨z0, z1, z2⟩
          go_simp
          (try with_reducible rfl)
        simp only [Act.put, List.setIfInBounds_toArray, List.set_cons_zero, List.set_cons_succ]
        refine held_take (i := 6) (v := ?_) rfl rfl (by kernel_rfl) (by kernel_rfl) (by kernel_rfl) (fun _ _ _ h => h) (by rfl) hHeld ?_ ?_
        rotate_left
        · rintro wh ⟨z0, z1, z2⟩
          go_simp
          (try with_reducible rfl)
        simp only [Act.put, List.setIfInBounds_toArray, List.set_cons_zero, List.set_cons_succ]
        refine held_take (i := 7) (v := ?_) rfl rfl (by kernel_rfl) (by kernel_rfl) (by kernel_rfl) (fun _ _ _ h => h) (by rfl) hHeld ?_ ?_
        rotate_left
        · rintro wh ⟨z0, z1, z2⟩
          go_simp
          (try with_reducible rfl)
        simp only [Act.put, List.setIfInBounds_toArray, List.set_cons_zero, List.set_cons_succ]
        refine held_take (i := 8) (v := ?_) rfl rfl (by kernel_rfl) (by kernel_rfl) (by kernel_rfl) (fun _ _ _ h => h) (by rfl) hHeld ?_ ?_
        rotate_left
        · rintro wh ⟨z0, z1, z2⟩
          go_simp
          (try with_reducible rfl)
        simp only [Act.put, List.setIfInBounds_toArray, List.set_cons_zero, List.set_cons_succ]
        refine held_take (i := 9) (v := ?_) rfl rfl (by kernel_rfl) (by kernel_rfl) (by kernel_rfl) (fun _ _ _ h => h) (by rfl) hHeld ?_ ?_
        rotate_left
        · rintro wh ⟨z0, z1, z2⟩
          go_simp
          (try with_reducible rfl)
        simp only [Act.put, List.setIfInBounds_toArray, List.set_cons_zero, List.set_cons_succ]
        refine held_step (i := 10) rfl (by kernel_rfl) (fun K hK => ?_)
        go_simp
        refine hK.out _ _ ⟨keep_cell c3 hba hlg, keep_cell c4 hba hlp, keep_cell c5 hba hlp⟩ (fun hHeld => ?_)
        clear hK K
        (try simp only [Act.put, List.setIfInBounds_toArray])
        refine held_take (i := 11) (v := ?_) rfl rfl (by kernel_rfl) (by kernel_rfl) (by kernel_rfl) (fun _ _ _ h => h) (by rfl) hHeld ?_ ?_
        rotate_left
        · rintro wh ⟨z0, z1, z2⟩
          go_simp
          (try with_reducible rfl)
        simp only [Act.put, List.setIfInBounds_toArray, List.set_cons_zero, List.set_cons_succ]
        refine held_take (i := 12) (v := ?_) rfl rfl (by kernel_rfl) (by kernel_rfl) (by kernel_rfl) (fun _ _ _ h => h) (by rfl) hHeld ?_ ?_
        rotate_left
        · rintro wh ⟨z0, z1, z2⟩
          go_simp
          (try with_reducible rfl)
        simp only [Act.put, List.setIfInBounds_toArray, List.set_cons_zero, List.set_cons_succ]
        refine wpAnyH_done (by kernel_rfl) ?_ _
        go_wp2
        go_ret2
        refine ⟨HBA.out, .inr ⟨HER.out, wd.heap.size, rfl, ?_, HSZ.out⟩⟩
        rw [hsts.out, HRR.out]
        exact HPT.out
      · have hee : (b2.err != 0) = true := by simpa using he
        have heb : (b2.err == 0) = false := by simpa using he
        have HER : Hid (errM s = b2.err) := Lib.hid (by rw [HE.out, H3.out.2.2.2])
        have HNE := Lib.hid he
        clear he
        go_upto_region 8 with fail
        go_quiet (fail)
        go_wp2
        go_ret2
        refine ⟨H3.out.2.2.1.trans (bl_drewN (Below.refl _ _) _), .inl ⟨by rw [HER.out]; exact HNE.out, by rw [HER.out]; rfl⟩⟩
    · have HE2 : Hid (endR s = br) := Lib.hid (HEN.out.trans (if_neg hlt))
      have hlti : ¬ (br.pos : Int) < (s.size : Int) := by omega
      have H3 := hfin w2 _ HE2.out Q2.out.1 Q2.out.2.1 Q2.out.2.2.2
      clear hlt HEN Q2 HE2 hfin
      obtain ⟨_, _, c2, _⟩ := H3.out.1.fields
      by_cases he : br.err = 0
      · have hee : (br.err != 0) = false := by rw [he]; rfl
        obtain ⟨pos, err, sts⟩ := br
        dsimp only at he
        subst he
        obtain ⟨sv, es, hV⟩ := H3.out.1
        obtain ⟨sa, sn, sc, rfl⟩ := ownsRow_slice hV.row
        have HV := Lib.hid hV
        obtain ⟨_, _, _, c3, _⟩ := hV.cells
        have c4 := H3.out.2.1.c0
        have c5 := H3.out.2.1.c1
        have HER : Hid (errM s = 0) := Lib.hid (by rw [HE.out, H3.out.2.2.2])
        have hsts : Hid ((endR s).sts = sts) := Lib.hid (by rw [H3.out.2.2.2])
        clear hV
        go_upto_region 9 with fail
        have hlg : w.heap.size < w2.heap.size := HV.out.lt _ HV.out.og
        have hlp := H3.out.2.1.lt
        have hVd : BldV w2.drew w.heap.size s ⟨pos, 0, sts⟩ own1 (.slice sa sn sc) es := HV.out.kept (Nat.le_refl _) (fun _ _ => rfl)
        have HPT := Lib.hid (hVd.pat p q)
        have hba := alloc_below w2.drew (.cells #[.string s, .slice sa sn sc, .int .i64 p, .int .i64 q] 195)
        have HBA : Hid (Below w.heap.size w (w2.drew.alloc (.cells #[.string s, .slice sa sn sc, .int .i64 p, .int .i64 q] 195))) := Lib.hid ((H3.out.2.2.1.drew).trans (hba.mono H3.out.2.2.1.size))
        have HSZ : Hid (w.heap.size ≤ w2.drew.heap.size) := Lib.hid H3.out.2.2.1.size
        refine wp_region_held_drew (S := (fun W => W.cell? ⟨w.heap.size, 3, none⟩ = some (.slice sa sn sc) ∧ W.cell? ⟨pb, 0, none⟩ = some (.int .i64 p) ∧ W.cell? ⟨pb, 1, none⟩ = some (.int .i64 q))) (by kernel_rfl) ⟨c3, c4, c5⟩ (fun hHeld => ?_)
        have c3 : w2.drew.cell? ⟨w.heap.size, 3, none⟩ = some (.slice sa sn sc) := c3
        have c4 : w2.drew.cell? ⟨pb, 0, none⟩ = some (.int .i64 p) := c4
        have c5 : w2.drew.cell? ⟨pb, 1, none⟩ = some (.int .i64 q) := c5
        have hlg : w.heap.size < w2.drew.heap.size := hlg
        have hlp : pb < w2.drew.heap.size := hlp
        clear hVd
        generalize w2.drew = wd at *
        refine held_take (i := 0) (v := ?_) rfl rfl (by kernel_rfl) (by kernel_rfl) (by kernel_rfl) (fun _ _ _ h => h) (by rfl) hHeld ?_ ?_
        rotate_left
        · rintro wh ⟨z0, z1, z2⟩
          go_simp
          (try with_reducible rfl)
        simp only [Act.put, List.setIfInBounds_toArray, List.set_cons_zero, List.set_cons_succ]
        refine held_take (i := 1) (v := ?_) rfl rfl (by kernel_rfl) (by kernel_rfl) (by kernel_rfl) (fun _ _ _ h => h) (by rfl) hHeld ?_ ?_
        rotate_left
        · rintro wh ⟨z0, z1, z2⟩
          go_simp
          (try with_reducible rfl)
        simp only [Act.put, List.setIfInBounds_toArray, List.set_cons_zero, List.set_cons_succ]
        refine held_take (i := 2) (v := ?_) rfl rfl (by kernel_rfl) (by kernel_rfl) (by kernel_rfl) (fun _ _ _ h => h) (by rfl) hHeld ?_ ?_
        rotate_left
        · rintro wh ⟨z0, z1, z2⟩
          go_simp
          (try with_reducible rfl)
        simp only [Act.put, List.setIfInBounds_toArray, List.set_cons_zero, List.set_cons_succ]
        refine held_take (i := 3) (v := ?_) rfl rfl (by kernel_rfl) (by kernel_rfl) (by kernel_rfl) (fun _ _ _ h => h) (by rfl) hHeld ?_ ?_
        rotate_left
        · rintro wh ⟨z0, z1, z2⟩
          go_simp
          (try with_reducible rfl)
        simp only [Act.put, List.setIfInBounds_toArray, List.set_cons_zero, List.set_cons_succ]
        refine held_take (i := 4) (v := ?_) rfl rfl (by kernel_rfl) (by kernel_rfl) (by kernel_rfl) (fun _ _ _ h => h) (by rfl) hHeld ?_ ?_
        rotate_left
        · rintro wh ⟨z0, z1, z2⟩
          go_simp
          (try with_reducible rfl)
        simp only [Act.put, List.setIfInBounds_toArray, List.set_cons_zero, List.set_cons_succ]
        refine held_take (i := 5) (v := ?_) rfl rfl (by kernel_rfl) (by kernel_rfl) (by kernel_rfl) (fun _ _ _ h => h) (by rfl) hHeld ?_ ?_
        rotate_left
        · rintro wh ⟨z0, z1, z2⟩
          go_simp
          (try with_reducible rfl)
        simp only [Act.put, List.setIfInBounds_toArray, List.set_cons_zero, List.set_cons_succ]
        refine held_take (i := 6) (v := ?_) rfl rfl (by kernel_rfl) (by kernel_rfl) (by kernel_rfl) (fun _ _ _ h => h) (by rfl) hHeld ?_ ?_
        rotate_left
        · rintro wh ⟨z0, z1, z2⟩
          go_simp
          (try with_reducible rfl)
        simp only [Act.put, List.setIfInBounds_toArray, List.set_cons_zero, List.set_cons_succ]
        refine held_take (i := 7) (v := ?_) rfl rfl (by kernel_rfl) (by kernel_rfl) (by kernel_rfl) (fun _ _ _ h => h) (by rfl) hHeld ?_ ?_
        rotate_left
        · rintro wh ⟨z0, z1, z2⟩
          go_simp
          (try with_reducible rfl)
        simp only [Act.put, List.setIfInBounds_toArray, List.set_cons_zero, List.set_cons_succ]
        refine held_take (i := 8) (v := ?_) rfl rfl (by kernel_rfl) (by kernel_rfl) (by kernel_rfl) (fun _ _ _ h => h) (by rfl) hHeld ?_ ?_
        rotate_left
        · rintro wh ⟨z0, z1, z2⟩
          go_simp
          (try with_reducible rfl)
        simp only [Act.put, List.setIfInBounds_toArray, List.set_cons_zero, List.set_cons_succ]
        refine held_take (i := 9) (v := ?_) rfl rfl (by kernel_rfl) (by kernel_rfl) (by kernel_rfl) (fun _ _ _ h => h) (by rfl) hHeld ?_ ?_
        rotate_left
        · rintro wh ⟨z0, z1, z2⟩
          go_simp
          (try with_reducible rfl)
        simp only [Act.put, List.setIfInBounds_toArray, List.set_cons_zero, List.set_cons_succ]
        refine held_step (i := 10) rfl (by kernel_rfl) (fun K hK => ?_)
        go_simp
        refine hK.out _ _ ⟨keep_cell c3 hba hlg, keep_cell c4 hba hlp, keep_cell c5 hba hlp⟩ (fun hHeld => ?_)
        clear hK K
        (try simp only [Act.put, List.setIfInBounds_toArray])
        refine held_take (i := 11) (v := ?_) rfl rfl (by kernel_rfl) (by kernel_rfl) (by kernel_rfl) (fun _ _ _ h => h) (by rfl) hHeld ?_ ?_
        rotate_left
        · rintro wh ⟨z0, z1, z2⟩
          go_simp
          (try with_reducible rfl)
        simp only [Act.put, List.setIfInBounds_toArray, List.set_cons_zero, List.set_cons_succ]
        refine held_take (i := 12) (v := ?_) rfl rfl (by kernel_rfl) (by kernel_rfl) (by kernel_rfl) (fun _ _ _ h => h) (by rfl) hHeld ?_ ?_
        rotate_left
        · rintro wh ⟨z0, z1, z2⟩
          go_simp
          (try with_reducible rfl)
        simp only [Act.put, List.setIfInBounds_toArray, List.set_cons_zero, List.set_cons_succ]
        refine wpAnyH_done (by kernel_rfl) ?_ _
        go_wp2
        go_ret2
        refine ⟨HBA.out, .inr ⟨HER.out, wd.heap.size, rfl, ?_, HSZ.out⟩⟩
        rw [hsts.out, HRR.out]
        exact HPT.out
      · have hee : (br.err != 0) = true := by simpa using he
        have heb : (br.err == 0) = false := by simpa using he
        have HER : Hid (errM s = br.err) := Lib.hid (by rw [HE.out, H3.out.2.2.2])
        have HNE := Lib.hid he
        clear he
        go_upto_region 8 with fail
        go_quiet (fail)
        go_wp2
        go_ret2
        refine ⟨H3.out.2.2.1.trans (bl_drewN (Below.refl _ _) _), .inl ⟨by rw [HER.out]; exact HNE.out, by rw [HER.out]; rfl⟩⟩
theorem right_is (s : ByteArray) (w : World) : Calls Tryz.prog 84 #[.string s] w fun e w' => e = .returned (.int .i64 (errM s)) ∧ Below w.heap.size w w' := by
  have k1 := read_is s w
  go_enter Tryz.func84, Tryz.ntmps84
  go_wp2_with fail
  refine k1.mono ?_
  rintro e w1 ⟨hb, ⟨h0, rfl⟩ | ⟨h0, a, rfl, _⟩⟩
  · clear k1
    go_wp2
    go_ret
    exact ⟨rfl, hb⟩
  · have H0 := Lib.hid h0
    clear k1 h0
    go_wp2
    go_ret
    exact ⟨by rw [H0.out]; rfl, hb⟩
end Go.Proofs.YtcfococinllcmaaGreat
