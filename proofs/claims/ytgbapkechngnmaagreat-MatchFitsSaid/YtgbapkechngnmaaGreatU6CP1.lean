/- What several claims of this seat share: contracts of the functions that they reach. -/
import Derived.Test.YtgbapkechngnmaaGreatU6CP0
import Derived.Test.YtgbapkechngnmaaGreatRd
import Derived.Maps.AppendAt
import Derived.RegionTactic
import Derived.Deep.AppendLies
import Derived.Maps.OwnOps
import Derived.Maps.Ext
import Derived.Sort.OwnSorted
import Derived.Lib.ConvBytes
import Derived.Test.YtgbapkechngnmaaGreatShelf
import Derived.Shelf.SlicesQ.IndexFunc
import Derived.Lib.Builder
import Derived.Lib.OthersKept
import Derived.Lib.Walk
import Derived.Laws.Externs
import Derived.Laws.CopyOwn
import Derived.Laws.MakeOwn
import Derived.Deep.RegionLaw
import Derived.Test.YtgbapkechngnmaaGreatRows
import Derived.WalkKit
import Derived.ChangeKeysEq
import Derived.Laws.StructEq
import Derived.Deep.DeepCutAuto
import Derived.Test.YtgbapkechngnmaaGreatBox
import Derived.Shelf.Spec.SlicesInsert
import Derived.Deep.OwnRows
import Derived.Deep.QuietTactic
import Derived.BigQuiet
import Derived.WalkSpells
import Derived.Lib.Hide
import Derived.Deep.MidRow
import Derived.Laws.Tables
import Derived.Deep.Upon
import Derived.OneCell
import Derived.Tactics
import Derived.Tactics2
import Derived.Defers
import Derived.Laws.Pointers
import Derived.Laws.LoneSync
import Derived.RegionCalls
import Derived.ChangeAlike
import Derived.Laws.NewBlocks

/- pattern.Read, pattern.Right: contracts. -/
namespace Go.Proofs.YtgbapkechngnmaaGreat
open Go.RowKit
def bs0 : Bs := ⟨0, 0, []⟩
def runR (s : ByteArray) : Bs × (Nat × Nat) := runM s (8 * s.size + 5) .either 0 bs0
def endR (s : ByteArray) : Bs := if (runR s).1.pos < s.size then failM (runR s).1 2 else (runR s).1
def errM (s : ByteArray) : Int := if 100 < s.size then 4 else (endR s).err
structure PatV (w : World) (a : Nat) (s : ByteArray) (sts : List St) (st en : Nat) (sv : Value) (es : List (Value × Value)) : Prop where
 blk : w.heap[a]? = some (.cells #[.string s, sv, .int .i64 st, .int .i64 en] 135 (0, 0))
 len : es.length = sts.length
 row : w.ownsRow 0 159 3 sv sts.length (stC sts es)
 ptr : ∀ (i : Nat) x (e : Value × Value), sts[i]? = some x → es[i]? = some e → PtrAt w (fun _ => True) x e.1
 free : ∀ (i : Nat) x (e : Value × Value), sts[i]? = some x → es[i]? = some e → FreeAt w (fun _ => True) x e.2
def PatAt (w : World) (a : Nat) (s : ByteArray) (sts : List St) (st en : Nat) : Prop := ∃ sv es, PatV w a s sts st en sv es
theorem ownsRow_below {w w' : World} {base : Nat} {e : TypeId} {size : Nat} {v : Value} {n : Nat} {xs : List Value} (h : w.ownsRow base e size v n xs) (hb : Below w.heap.size w w') : w'.ownsRow base e size v n xs :=
 ownsRow_blk h (fun k hk => hb.block k (h.lt k hk).2)
theorem PtrAt.below {w w' : World} {own : Nat → Prop} {x : St} {v : Value} (h : PtrAt w own x v) (hb : Below w.heap.size w w') : PtrAt w' own x v := by
 unfold PtrAt at h ⊢
 split
 ·rename_i e; rw [e] at h; exact h
 ·rename_i f e
  rw [e] at h
  obtain ⟨k, h1, h2, h3⟩ := h
  exact ⟨k, h1, h2.blk (hb.block k h2.lt), h3⟩
theorem PatAt.below {w w' : World} {a : Nat} {s : ByteArray} {sts : List St} {st en : Nat} (h : PatAt w a s sts st en) (hb : Below w.heap.size w w') : PatAt w' a s sts st en := by
 obtain ⟨sv, es, h⟩ := h
 refine ⟨sv, es, (hb.block a (Array.getElem?_eq_some_iff.1 h.blk).1).trans h.blk, h.len, ownsRow_below h.row hb, fun i x e hx he => (h.ptr i x e hx he).below hb, fun i x e hx he => ?_⟩
 obtain ⟨h1, h2⟩ := h.free i x e hx he
 exact ⟨ownsRow_below h1 hb, h2⟩
theorem BldV.pat {w : World} {g : Nat} {s : ByteArray} {b : Bs} {own : Nat → Prop} {sv : Value} {es : List (Value × Value)} (h : BldV w g s b own sv es) (st en : Nat) :
  PatAt (w.alloc (.cells #[.string s, sv, .int .i64 st, .int .i64 en] 135)) w.heap.size s b.sts st en := by
 have hb := alloc_below w (.cells #[.string s, sv, .int .i64 st, .int .i64 en] 135)
 refine ⟨sv, es, heap_alloc_new _ _, h.len, ownsRow_below h.row hb, fun i x e hx he => ((h.ptr i x e hx he).mono (fun _ _ => trivial)).below hb, fun i x e hx he => ?_⟩
 obtain ⟨h1, _⟩ := h.free i x e hx he
 exact ⟨ownsRow_below h1 hb, fun _ _ => trivial⟩
theorem Bld.new (w : World) (s : ByteArray) : Bld (w.alloc (.cells #[.string s, .int .i64 0, .int .i64 0, .slice none 0 0] 130)) w.heap.size s bs0 (fun k => k = w.heap.size) := by
 refine ⟨.slice none 0 0, [], ⟨heap_alloc_new _ _, rfl, fun k hk => by rw [hk, World.size_alloc]; omega, rfl, World.ownsRow_nil _ _ _ _, ?_, ?_, ?_, ?_, ?_, ?_⟩⟩
 ·intro k hk; simp [Value.ownBlock] at hk
 ·intro i x e hx; simp [bs0] at hx
 ·intro i x e hx; simp [bs0] at hx
 ·intro i e k he; simp at he
 ·intro i e k he; simp at he
 ·intro i j e e' k he; simp at he
def ReadPost (s : ByteArray) (w : World) (e : Ending) (w' : World) : Prop :=
 Below w.heap.size w w' ∧ ((errM s ≠ 0 ∧ e = .returned (.tuple #[.pointer none, .int .i64 (errM s)])) ∨
  (errM s = 0 ∧ ∃ a, e = .returned (.tuple #[.pointer (some ⟨a, 0, none⟩), .int .i64 0]) ∧ PatAt w' a s (endR s).sts (runR s).2.1 (runR s).2.2 ∧ w.heap.size ≤ a))
theorem ownsRow_slice {w : World} {base : Nat} {e : TypeId} {size : Nat} {v : Value} {n : Nat} {xs : List Value} (h : w.ownsRow base e size v n xs) : ∃ a m c, v = .slice a m c := by
 rcases h.2 with ⟨rfl, _⟩ | ⟨g, cap, _, rfl, _⟩
 ·exact ⟨_, _, _, rfl⟩
 ·exact ⟨_, _, _, rfl⟩
theorem endR_sts (s : ByteArray) : (endR s).sts = (runR s).1.sts := by unfold endR; split <;> simp [failM_sts]
theorem runR_ok (s : ByteArray) : RunOk s .either 0 bs0 (runR s) :=
 runM_ok s _ .either 0 bs0 (by omega) (by simp [bs0]) (fun h => by cases h) trivial (by simp [fuelM, bs0])
set_option maxHeartbeats 6400000 in
set_option maxRecDepth 100000 in
theorem read_is (s : ByteArray) (w : World) : Calls Tryz.prog 66 #[.string s] w (ReadPost s w) := by
 by_cases hs : 100 < s.size
 ·have he : errM s = 4 := by unfold errM; rw [if_pos hs]
  have HE := Lib.hid he
  have hsi : (100 : Int) < (s.size : Int) := by omega
  clear he
  go_enter Tryz.func66, Tryz.ntmps66
  go_wp2
  go_ret2
  refine ⟨Below.refl _ _, .inl ⟨by rw [HE.out]; decide, by rw [HE.out]; rfl⟩⟩
 ·have hs' : s.size ≤ 100 := by omega
  have he : errM s = (endR s).err := by unfold errM; rw [if_neg hs]
  have HE := Lib.hid he
  have hsi : ¬ (100 : Int) < (s.size : Int) := by omega
  have hb0 := alloc_below w (.cells #[.string s, .int .i64 0, .int .i64 0, .slice none 0 0] 130)
  have hB0 := Bld.new w s
  have ok := runR_ok s
  have k1 := (all_of s hs' (8 * s.size + 5)).1 _ w.heap.size bs0 _ 0 hB0 (by omega) (by simp [bs0]) (by simp [fuelM, bs0]) (by simp [capM, bs0, tot]; omega)
  change Calls _ _ _ _ (PartPost _ _ _ _ (runR s)) at k1
  have HEN : Hid (endR s = if (runR s).1.pos < s.size then failM (runR s).1 2 else (runR s).1) := Lib.hid rfl
  have hpos := ok.top
  obtain ⟨br, p, q, hr⟩ : ∃ br p q, runR s = (br, (p, q)) := ⟨_, _, _, rfl⟩
  have HRR := Lib.hid hr
  rw [hr] at k1 hpos HEN
  dsimp only at hpos HEN
  have HB0 := Lib.hid hb0
  clear he ok hB0 hb0 hs hr
  go_enter Tryz.func66, Tryz.ntmps66
  go_wp2_with fail
  refine k1.mono ?_
  rintro e w1 ⟨rfl, own1, hB1, hst1⟩
  have hbw : Below w.heap.size w w1 := HB0.out.trans (hst1.1.below (by rw [World.size_alloc]; omega) (fun k hk => by rw [hk]; exact Nat.le_refl _))
  have hgl : ∀ k, own1 k → w.heap.size ≤ k := fun k hk => by
   rcases hst1.2 k hk with h | h
   ·rw [h]; exact Nat.le_refl _
   ·rw [World.size_alloc] at h; omega
  clear k1 hst1
  go_upto_region 5 with fail
  obtain ⟨pb, hpb⟩ : ∃ pb, w1.heap.size = pb := ⟨_, rfl⟩
  refine wp_forget (fun W => Bld W w.heap.size s br own1 ∧ PBx W pb (.int .i64 p) (.int .i64 q) ∧ ¬ own1 pb ∧ Below w.heap.size w W) ?_ (fun w2 q2 => ?_)
  ·have hba := alloc_below w1 (.cells #[.int .i64 p, .int .i64 q] 132)
   refine ⟨hB1.below hba, ?_, ?_, hbw.trans (hba.mono hbw.size)⟩
   ·rw [← hpb]; exact heap_alloc_new _ _
   ·rw [← hpb]; exact fun h0 => by have := hB1.lt _ h0; omega
  rw [hpb]
  have Q2 := Lib.hid q2
  have HGL := Lib.hid hgl
  clear q2 hbw hB1 hpb hgl
  obtain ⟨_, c1, _, _⟩ := Q2.out.1.fields
  have hfin : ∀ (W : World) (b2 : Bs), endR s = b2 → Bld W w.heap.size s b2 own1 → PBx W pb (.int .i64 p) (.int .i64 q) → Below w.heap.size w W → Hid (Bld W w.heap.size s b2 own1 ∧ PBx W pb (.int .i64 p) (.int .i64 q) ∧ Below w.heap.size w W ∧ endR s = b2) := fun W b2 h1 h2 h3 h4 => Lib.hid ⟨h2, h3, h4, h1⟩
  by_cases hlt : br.pos < s.size
  ·have HE2 : Hid (endR s = failM br 2) := Lib.hid (HEN.out.trans (if_pos hlt))
   have hlti : (br.pos : Int) < (s.size : Int) := by omega
   have kf := fail_is w2 w.heap.size s br own1 2 Q2.out.1
   clear hlt HEN
   go_wp2_with fail
   refine kf.mono ?_
   rintro e w3 ⟨rfl, hB3, hs3⟩
   have H3 := hfin w3 _ HE2.out hB3 (hs3.blk Q2.out.2.1 Q2.out.2.2.1) (Q2.out.2.2.2.trans (hs3.1.below Q2.out.2.2.2.size HGL.out))
   generalize failM br 2 = b2 at *
   clear kf hB3 hs3 c1 Q2 HE2 hfin
   obtain ⟨_, _, c2, _⟩ := H3.out.1.fields
   by_cases he : b2.err = 0
   ·have hee : (b2.err != 0) = false := by rw [he]; rfl
    obtain ⟨pos, err, sts⟩ := b2
    dsimp only at he
    subst he
    obtain ⟨sv, es, hV⟩ := H3.out.1
    obtain ⟨sa, sn, sc, rfl⟩ := ownsRow_slice hV.row
    have HV := Lib.hid hV
    obtain ⟨_, _, _, c3, _⟩ := hV.cells
    have c4 := H3.out.2.1.c0
    have c5 := H3.out.2.1.c1
    have HER : Hid (errM s = 0) := Lib.hid (by rw [HE.out, H3.out.2.2.2])
    have hsts : Hid ((endR s).sts = sts) := Lib.hid (by rw [H3.out.2.2.2])
    clear hV
    go_upto_region 9 with fail
    have hlg : w.heap.size < w3.heap.size := HV.out.lt _ HV.out.og
    have hlp := H3.out.2.1.lt
    have hVd : BldV w3.drew w.heap.size s ⟨pos, 0, sts⟩ own1 (.slice sa sn sc) es := HV.out.kept (Nat.le_refl _) (fun _ _ => rfl)
    have HPT := Lib.hid (hVd.pat p q)
    have hba := alloc_below w3.drew (.cells #[.string s, .slice sa sn sc, .int .i64 p, .int .i64 q] 135)
    have HBA : Hid (Below w.heap.size w (w3.drew.alloc (.cells #[.string s, .slice sa sn sc, .int .i64 p, .int .i64 q] 135))) := Lib.hid ((H3.out.2.2.1.drew).trans (hba.mono H3.out.2.2.1.size))
    have HSZ : Hid (w.heap.size ≤ w3.drew.heap.size) := Lib.hid H3.out.2.2.1.size
    refine wp_region_held_drew (S := (fun W => W.cell? ⟨w.heap.size, 3, none⟩ = some (.slice sa sn sc) ∧ W.cell? ⟨pb, 0, none⟩ = some (.int .i64 p) ∧ W.cell? ⟨pb, 1, none⟩ = some (.int .i64 q))) (by kernel_rfl) ⟨c3, c4, c5⟩ (fun hHeld => ?_)
    have c3 : w3.drew.cell? ⟨w.heap.size, 3, none⟩ = some (.slice sa sn sc) := c3
    have c4 : w3.drew.cell? ⟨pb, 0, none⟩ = some (.int .i64 p) := c4
    have c5 : w3.drew.cell? ⟨pb, 1, none⟩ = some (.int .i64 q) := c5
    have hlg : w.heap.size < w3.drew.heap.size := hlg
    have hlp : pb < w3.drew.heap.size := hlp
    clear hVd
    generalize w3.drew = wd at *
    refine plIn [0, 1, 2, 3, 4, 5, 6, 7, 8, 9] ?_
    iterate 10
     refine hP (v := ?_) rfl rfl hHeld ?_ ?_
     rotate_left
     ·rintro wh ⟨z0, z1, z2⟩
      go_simp
      (try with_reducible rfl)
     simp only [Act.put, List.setIfInBounds_toArray, List.set_cons_zero, List.set_cons_succ]
    refine plOut ?_
    refine held_step (i := 10) rfl (by kernel_rfl) (fun K hK => ?_)
    go_simp
    refine hK.out _ _ ⟨keep_cell c3 hba hlg, keep_cell c4 hba hlp, keep_cell c5 hba hlp⟩ (fun hHeld => ?_)
    clear hK K
    (try simp only [Act.put, List.setIfInBounds_toArray])
    refine plIn [11, 12] ?_
    iterate 2
     refine hP (v := ?_) rfl rfl hHeld ?_ ?_
     rotate_left
     ·rintro wh ⟨z0, z1, z2⟩
      go_simp
      (try with_reducible rfl)
     simp only [Act.put, List.setIfInBounds_toArray, List.set_cons_zero, List.set_cons_succ]
    refine plOut ?_
    refine wpAnyH_done (by kernel_rfl) ?_ _
    go_wp2
    go_ret2
    refine ⟨HBA.out, .inr ⟨HER.out, wd.heap.size, rfl, ?_, HSZ.out⟩⟩
    rw [hsts.out, HRR.out]
    exact HPT.out
   ·have hee : (b2.err != 0) = true := by simpa using he
    have heb : (b2.err == 0) = false := by simpa using he
    have HER : Hid (errM s = b2.err) := Lib.hid (by rw [HE.out, H3.out.2.2.2])
    have HNE := Lib.hid he
    clear he
    go_upto_region 8 with fail
    go_quiet (fail)
    go_wp2
    go_ret2
    refine ⟨H3.out.2.2.1.trans (bl_drewN (Below.refl _ _) _), .inl ⟨by rw [HER.out]; exact HNE.out, by rw [HER.out]; rfl⟩⟩
  ·have HE2 : Hid (endR s = br) := Lib.hid (HEN.out.trans (if_neg hlt))
   have hlti : ¬ (br.pos : Int) < (s.size : Int) := by omega
   have H3 := hfin w2 _ HE2.out Q2.out.1 Q2.out.2.1 Q2.out.2.2.2
   clear hlt HEN Q2 HE2 hfin
   obtain ⟨_, _, c2, _⟩ := H3.out.1.fields
   by_cases he : br.err = 0
   ·have hee : (br.err != 0) = false := by rw [he]; rfl
    obtain ⟨pos, err, sts⟩ := br
    dsimp only at he
    subst he
    obtain ⟨sv, es, hV⟩ := H3.out.1
    obtain ⟨sa, sn, sc, rfl⟩ := ownsRow_slice hV.row
    have HV := Lib.hid hV
    obtain ⟨_, _, _, c3, _⟩ := hV.cells
    have c4 := H3.out.2.1.c0
    have c5 := H3.out.2.1.c1
    have HER : Hid (errM s = 0) := Lib.hid (by rw [HE.out, H3.out.2.2.2])
    have hsts : Hid ((endR s).sts = sts) := Lib.hid (by rw [H3.out.2.2.2])
    clear hV
    go_upto_region 9 with fail
    have hlg : w.heap.size < w2.heap.size := HV.out.lt _ HV.out.og
    have hlp := H3.out.2.1.lt
    have hVd : BldV w2.drew w.heap.size s ⟨pos, 0, sts⟩ own1 (.slice sa sn sc) es := HV.out.kept (Nat.le_refl _) (fun _ _ => rfl)
    have HPT := Lib.hid (hVd.pat p q)
    have hba := alloc_below w2.drew (.cells #[.string s, .slice sa sn sc, .int .i64 p, .int .i64 q] 135)
    have HBA : Hid (Below w.heap.size w (w2.drew.alloc (.cells #[.string s, .slice sa sn sc, .int .i64 p, .int .i64 q] 135))) := Lib.hid ((H3.out.2.2.1.drew).trans (hba.mono H3.out.2.2.1.size))
    have HSZ : Hid (w.heap.size ≤ w2.drew.heap.size) := Lib.hid H3.out.2.2.1.size
    refine wp_region_held_drew (S := (fun W => W.cell? ⟨w.heap.size, 3, none⟩ = some (.slice sa sn sc) ∧ W.cell? ⟨pb, 0, none⟩ = some (.int .i64 p) ∧ W.cell? ⟨pb, 1, none⟩ = some (.int .i64 q))) (by kernel_rfl) ⟨c3, c4, c5⟩ (fun hHeld => ?_)
    have c3 : w2.drew.cell? ⟨w.heap.size, 3, none⟩ = some (.slice sa sn sc) := c3
    have c4 : w2.drew.cell? ⟨pb, 0, none⟩ = some (.int .i64 p) := c4
    have c5 : w2.drew.cell? ⟨pb, 1, none⟩ = some (.int .i64 q) := c5
    have hlg : w.heap.size < w2.drew.heap.size := hlg
    have hlp : pb < w2.drew.heap.size := hlp
    clear hVd
    generalize w2.drew = wd at *
    refine plIn [0, 1, 2, 3, 4, 5, 6, 7, 8, 9] ?_
    iterate 10
     refine hP (v := ?_) rfl rfl hHeld ?_ ?_
     rotate_left
     ·rintro wh ⟨z0, z1, z2⟩
      go_simp
      (try with_reducible rfl)
     simp only [Act.put, List.setIfInBounds_toArray, List.set_cons_zero, List.set_cons_succ]
    refine plOut ?_
    refine held_step (i := 10) rfl (by kernel_rfl) (fun K hK => ?_)
    go_simp
    refine hK.out _ _ ⟨keep_cell c3 hba hlg, keep_cell c4 hba hlp, keep_cell c5 hba hlp⟩ (fun hHeld => ?_)
    clear hK K
    (try simp only [Act.put, List.setIfInBounds_toArray])
    refine plIn [11, 12] ?_
    iterate 2
     refine hP (v := ?_) rfl rfl hHeld ?_ ?_
     rotate_left
     ·rintro wh ⟨z0, z1, z2⟩
      go_simp
      (try with_reducible rfl)
     simp only [Act.put, List.setIfInBounds_toArray, List.set_cons_zero, List.set_cons_succ]
    refine plOut ?_
    refine wpAnyH_done (by kernel_rfl) ?_ _
    go_wp2
    go_ret2
    refine ⟨HBA.out, .inr ⟨HER.out, wd.heap.size, rfl, ?_, HSZ.out⟩⟩
    rw [hsts.out, HRR.out]
    exact HPT.out
   ·have hee : (br.err != 0) = true := by simpa using he
    have heb : (br.err == 0) = false := by simpa using he
    have HER : Hid (errM s = br.err) := Lib.hid (by rw [HE.out, H3.out.2.2.2])
    have HNE := Lib.hid he
    clear he
    go_upto_region 8 with fail
    go_quiet (fail)
    go_wp2
    go_ret2
    refine ⟨H3.out.2.2.1.trans (bl_drewN (Below.refl _ _) _), .inl ⟨by rw [HER.out]; exact HNE.out, by rw [HER.out]; rfl⟩⟩
theorem right_is (s : ByteArray) (w : World) : Calls Tryz.prog 54 #[.string s] w fun e w' => e = .returned (.int .i64 (errM s)) ∧ Below w.heap.size w w' := by
 have k1 := read_is s w
 go_enter Tryz.func54, Tryz.ntmps54
 go_wp2_with fail
 refine k1.mono ?_
 rintro e w1 ⟨hb, ⟨h0, rfl⟩ | ⟨h0, a, rfl, _⟩⟩
 ·clear k1
  go_wp2
  go_ret
  exact ⟨rfl, hb⟩
 ·have H0 := Lib.hid h0
  clear k1 h0
  go_wp2
  go_ret
  exact ⟨by rw [H0.out]; rfl, hb⟩
end Go.Proofs.YtgbapkechngnmaaGreat
/- Going on without a byte, said plainly; the builder's states are well made. No program in sight. -/
namespace Go.Proofs.YtgbapkechngnmaaGreat
def frees (sts : List St) (k : Nat) : List Nat := match sts[k]? with
 | some x => x.free
 | none => []
inductive FR (sts : List St) : Nat → Nat → Prop
 | refl (k : Nat) : FR sts k k
 | step {j k f : Nat} : FR sts j k → f ∈ frees sts k → FR sts j f
def Cl (sts : List St) (l : List Nat) (k : Nat) : Prop := ∃ j ∈ l, FR sts j k
def SWf (sts : List St) : Prop := ∀ x ∈ sts, (∀ f ∈ x.free, f < sts.length) ∧ x.next < sts.length
theorem frees_lt {sts : List St} (h : SWf sts) {k f : Nat} (hf : f ∈ frees sts k) : f < sts.length := by
 unfold frees at hf
 split at hf
 ·rename_i x hx
  exact (h x (List.mem_of_getElem? hx)).1 f hf
 ·cases hf
theorem FR_lt {sts : List St} (h : SWf sts) {j k : Nat} (hr : FR sts j k) (hj : j < sts.length) : k < sts.length := by
 induction hr with
 | refl => exact hj
 | step _ hf _ => exact frees_lt h hf
theorem frees_len (sts : List St) (k : Nat) : (frees sts k).length ≤ tot sts := by
 unfold frees
 split
 ·rename_i x hx
  exact free_tot sts x (List.mem_of_getElem? hx)
 ·simp
structure ReInv (sts : List St) (l out todo : List Nat) : Prop where
 nd : out.Nodup
 so : ∀ k ∈ out, Cl sts l k
 st : ∀ k ∈ todo, Cl sts l k
 c1 : ∀ j ∈ l, j ∈ out ∨ j ∈ todo
 c2 : ∀ k ∈ out, ∀ f ∈ frees sts k, f ∈ out ∨ f ∈ todo
 bo : ∀ k ∈ out, k < sts.length
 bt : ∀ k ∈ todo, k < sts.length
theorem ReInv.start (sts : List St) (l : List Nat) (hl : ∀ j ∈ l, j < sts.length) : ReInv sts l [] l :=
 ⟨List.nodup_nil, (fun _ h => by cases h), fun k h => ⟨k, h, .refl k⟩, fun _ h => .inr h, (fun _ h => by cases h), (fun _ h => by cases h), hl⟩
theorem ReInv.done {sts : List St} {l out : List Nat} (h : ReInv sts l out []) (k : Nat) : k ∈ out ↔ Cl sts l k := by
 refine ⟨h.so k, ?_⟩
 rintro ⟨j, hj, hr⟩
 induction hr with
 | refl => rcases h.c1 j hj with h1 | h1; (· exact h1); (· cases h1)
 | step _ hf ih => rcases h.c2 _ ih _ hf with h1 | h1; (· exact h1); (· cases h1)
theorem ReInv.seen {sts : List St} {l out t : List Nat} {k : Nat} (h : ReInv sts l out (t ++ [k])) (hk : k ∈ out) : ReInv sts l out t := by
 have key : ∀ x, x ∈ t ++ [k] → x ∈ out ∨ x ∈ t := fun x hx => by
  rcases List.mem_append.1 hx with h1 | h1
  ·exact .inr h1
  ·rw [List.mem_singleton.1 h1]; exact .inl hk
 refine ⟨h.nd, h.so, fun x hx => h.st x (List.mem_append_left _ hx), fun j hj => ?_, fun x hx f hf => ?_, h.bo, fun x hx => h.bt x (List.mem_append_left _ hx)⟩
 ·rcases h.c1 j hj with h1 | h1
  ·exact .inl h1
  ·exact key j h1
 ·rcases h.c2 x hx f hf with h1 | h1
  ·exact .inl h1
  ·exact key f h1
theorem ReInv.new {sts : List St} {l out t : List Nat} {k : Nat} (hw : SWf sts) (h : ReInv sts l out (t ++ [k])) (hk : k ∉ out) : ReInv sts l (out ++ [k]) (t ++ frees sts k) := by
 have hkt : k ∈ t ++ [k] := List.mem_append_right _ (List.mem_singleton.2 rfl)
 have key : ∀ x, x ∈ t ++ [k] → x ∈ out ++ [k] ∨ x ∈ t ++ frees sts k := fun x hx => by
  rcases List.mem_append.1 hx with h1 | h1
  ·exact .inr (List.mem_append_left _ h1)
  ·exact .inl (List.mem_append_right _ h1)
 refine ⟨?_, ?_, ?_, ?_, ?_, ?_, ?_⟩
 ·refine List.nodup_append.2 ⟨h.nd, by simp, fun a ha b hb => ?_⟩
  rw [List.mem_singleton.1 hb]
  exact fun e => hk (e ▸ ha)
 ·intro x hx
  rcases List.mem_append.1 hx with h1 | h1
  ·exact h.so x h1
  ·rw [List.mem_singleton.1 h1]; exact h.st k hkt
 ·intro x hx
  rcases List.mem_append.1 hx with h1 | h1
  ·exact h.st x (List.mem_append_left _ h1)
  ·obtain ⟨j, hj, hr⟩ := h.st k hkt
   exact ⟨j, hj, .step hr h1⟩
 ·intro j hj
  rcases h.c1 j hj with h1 | h1
  ·exact .inl (List.mem_append_left _ h1)
  ·exact key j h1
 ·intro x hx f hf
  rcases List.mem_append.1 hx with h1 | h1
  ·rcases h.c2 x h1 f hf with h2 | h2
   ·exact .inl (List.mem_append_left _ h2)
   ·exact key f h2
  ·rw [List.mem_singleton.1 h1] at hf
   exact .inr (List.mem_append_right _ hf)
 ·intro x hx
  rcases List.mem_append.1 hx with h1 | h1
  ·exact h.bo x h1
  ·rw [List.mem_singleton.1 h1]; exact h.bt k hkt
 ·intro x hx
  rcases List.mem_append.1 hx with h1 | h1
  ·exact h.bt x (List.mem_append_left _ h1)
  ·exact frees_lt hw h1
theorem nodup_lt : ∀ {n : Nat} {l : List Nat}, l.Nodup → (∀ k ∈ l, k < n) → l.length ≤ n
 | 0, [], _, _ => Nat.le_refl _
 | 0, k :: _, _, h => absurd (h k List.mem_cons_self) (Nat.not_lt_zero k)
 | n + 1, l, hd, hb => by
  have h1 := nodup_lt (n := n) (l := l.erase n) (hd.erase n) (fun k hk => by
   obtain ⟨h2, h3⟩ := (hd.mem_erase_iff).1 hk
   have := hb k h3
   omega)
  by_cases hm : n ∈ l
  ·rw [List.length_erase_of_mem hm] at h1; omega
  ·rw [List.erase_of_not_mem hm] at h1; omega
/-! the builder's states are well made -/
theorem swf_grow {l : List St} (h : SWf l) (y : St) (hy : ∀ f ∈ y.free, f < l.length + 1) (hn : y.next < l.length + 1) : SWf (l ++ [y]) := by
 intro x hx
 rw [List.length_append]
 rcases List.mem_append.1 hx with h1 | h1
 ·exact ⟨fun f hf => Nat.lt_of_lt_of_le ((h x h1).1 f hf) (by simp), Nat.lt_of_lt_of_le (h x h1).2 (by simp)⟩
 ·rw [List.mem_singleton.1 h1]; exact ⟨hy, hn⟩
theorem swf_node {b : Bs} (h : SWf b.sts) : SWf (nodeM b).sts := swf_grow h _ (fun _ h => by cases h) (by dsimp only; omega)
theorem swf_one {b : Bs} {S : Nat → Bool} (h : SWf b.sts) : SWf (oneM b S).1.sts := by
 intro x hx
 simp only [oneM] at hx ⊢
 rw [List.length_append]
 rcases List.mem_append.1 hx with h1 | h1
 ·exact ⟨fun f hf => Nat.lt_of_lt_of_le ((h x h1).1 f hf) (by simp), Nat.lt_of_lt_of_le (h x h1).2 (by simp)⟩
 ·simp at h1
  rcases h1 with rfl | rfl
  ·exact ⟨(fun _ h => by cases h), by simp⟩
  ·exact ⟨(fun _ h => by cases h), by simp⟩
theorem mem_addF {x : St} {t : Nat} : ∀ {l : List St} {f : Nat}, x ∈ addF l f t → ∃ y ∈ l, x.next = y.next ∧ ∀ k ∈ x.free, k ∈ y.free ∨ k = t
 | [], _, h => by cases h
 | y :: l, 0, h => by
  rcases List.mem_cons.1 h with rfl | h
  ·exact ⟨y, List.mem_cons_self, rfl, fun k hk => by simpa using hk⟩
  ·exact ⟨x, List.mem_cons_of_mem _ h, rfl, fun k hk => .inl hk⟩
 | y :: l, f + 1, h => by
  rcases List.mem_cons.1 h with rfl | h
  ·exact ⟨x, List.mem_cons_self, rfl, fun k hk => .inl hk⟩
  ·obtain ⟨z, hz, h1, h2⟩ := mem_addF h
   exact ⟨z, List.mem_cons_of_mem _ hz, h1, h2⟩
theorem swf_free {b : Bs} {f t : Nat} (h : SWf b.sts) (ht : t < b.sts.length) : SWf (freeM b f t).sts := by
 intro x hx
 simp only [freeM] at hx ⊢
 rw [addF_len]
 obtain ⟨y, hy, h1, h2⟩ := mem_addF hx
 refine ⟨fun k hk => ?_, by rw [h1]; exact (h y hy).2⟩
 rcases h2 k hk with h3 | rfl
 ·exact (h y hy).1 k h3
 ·exact ht
theorem swf_times {s : ByteArray} {b : Bs} {x : Nat × Nat} (h : SWf b.sts) (hx : x.1 < b.sts.length) : SWf (timesM s b x).1.sts := by
 unfold timesM
 split
 ·exact h
 ·split
  ·have h2 : SWf (nodeM (nodeM (stepM b))).sts := swf_node (swf_node (b := stepM b) h)
   have hl : (nodeM (nodeM (stepM b))).sts.length = b.sts.length + 2 := by simp [nodeM, stepM]
   have e : ∀ b f t, (freeM b f t).sts.length = b.sts.length := fun b f t => by simp [freeM, addF_len]
   dsimp only
   have h3 : SWf (freeM (freeM (nodeM (nodeM (stepM b))) b.sts.length x.1) x.2 (b.sts.length + 1)).sts := swf_free (swf_free h2 (by omega)) (by rw [e]; omega)
   have l3 : (freeM (freeM (nodeM (nodeM (stepM b))) b.sts.length x.1) x.2 (b.sts.length + 1)).sts.length = b.sts.length + 2 := by rw [e, e, hl]
   split
   ·split
    ·exact h3
    ·exact swf_free h3 (by omega)
   ·split
    ·exact swf_free h3 (by omega)
    ·exact swf_free (swf_free h3 (by omega)) (by rw [e]; omega)
  ·exact h
theorem runM_wf (s : ByteArray) (n : Nat) : ∀ (md : Md) (d : Nat) (b : Bs), d ≤ 8 → b.pos ≤ s.size + 12 - d → (md = .atom → b.pos < s.size) → partOk md b → fuelM s b md ≤ n → SWf b.sts → SWf (runM s n md d b).1.sts := by
 induction n with
 | zero => intro md d b _ _ _ _ hn; cases md <;> simp [fuelM] at hn
 | succ n ih =>
  intro md d b hd hp ha hk hn hw
  cases md with
  | either =>
   simp only [fuelM] at hn
   rw [runM]
   exact ih _ d _ hd hp (fun h => by cases h) ⟨by simp [nodeM], by simp [nodeM]⟩ (by simp only [fuelM, nodeM]; omega) (swf_node (swf_node hw))
  | alts p =>
   simp only [fuelM] at hn
   obtain ⟨hp1, hp2⟩ := hk
   have ok := runM_ok s n .row d b hd hp (fun h => by cases h) trivial (by simp only [fuelM]; omega)
   have h1 := ih .row d b hd hp (fun h => by cases h) trivial (by simp only [fuelM]; omega) hw
   obtain ⟨g1, q1, q2, q3, _⟩ := ok
   have e : ∀ b f t, (freeM b f t).sts.length = b.sts.length := fun b f t => by simp [freeM, addF_len]
   have hgl := g1.len
   have hgp := g1.pos
   have h2 : SWf (freeM (freeM (runM s n .row d b).1 p.1 (runM s n .row d b).2.1) (runM s n .row d b).2.2 p.2).sts := swf_free (swf_free h1 q1) (by rw [e]; omega)
   have hl2 : (freeM (freeM (runM s n .row d b).1 p.1 (runM s n .row d b).2.1) (runM s n .row d b).2.2 p.2).sts.length = (runM s n .row d b).1.sts.length := by rw [e, e]
   have hpp : (freeM (freeM (runM s n .row d b).1 p.1 (runM s n .row d b).2.1) (runM s n .row d b).2.2 p.2).pos = (runM s n .row d b).1.pos := rfl
   rw [runM]
   split
   ·rename_i hpk
    have hps := (peekM_some hpk).2.1
    exact ih (.alts p) d _ hd (by simp only [stepM]; omega) (fun h => by cases h) ⟨by simp only [stepM]; omega, by simp only [stepM]; omega⟩ (by simp only [fuelM, stepM]; omega) h2
   ·exact h2
  | row =>
   simp only [fuelM] at hn
   rw [runM]
   exact ih _ d _ hd hp (fun h => by cases h) ⟨by simp [nodeM], by simp [nodeM]⟩ (by simp only [fuelM, nodeM]; omega) (swf_node hw)
  | parts p =>
   simp only [fuelM] at hn
   obtain ⟨hp1, hp2⟩ := hk
   rw [runM]
   split
   ·exact hw
   ·rename_i c hc
    split
    ·exact hw
    ·dsimp only
     have hps := (peekM_some hc).2.1
     have ok := runM_ok s n .atom d b hd hp (fun _ => hps) trivial (by simp only [fuelM]; omega)
     have h1 := ih .atom d b hd hp (fun _ => hps) trivial (by simp only [fuelM]; omega) hw
     obtain ⟨g1, q1, q2, q3, q4⟩ := ok
     obtain ⟨q5, q6⟩ := q4 rfl
     have gt := gd_times s (runM s n .atom d b).1 (runM s n .atom d b).2
     have pt := times_part s (runM s n .atom d b).1 (runM s n .atom d b).2 ⟨q1, q2⟩
     have h2 := swf_times (s := s) h1 q1
     have tp : (timesM s (runM s n .atom d b).1 (runM s n .atom d b).2).1.pos ≤ s.size + 12 - d := by
      unfold timesM
      split
      ·exact q3
      ·rename_i c' hc'
       have := (peekM_some hc').2.1
       split
       ·have e : ∀ b f t, (freeM b f t).pos = b.pos := fun _ _ _ => rfl
        dsimp only
        split <;> split <;> simp only [e, nodeM, stepM] <;> omega
       ·exact q3
     generalize hr : runM s n .atom d b = r at *
     generalize ht : timesM s r.1 r.2 = t at *
     have hfl : (freeM t.1 p.2 t.2.1).sts.length = t.1.sts.length := by simp [freeM, addF_len]
     have hgl := gt.len
     have hgp := gt.pos
     have h1l := g1.len
     exact ih (.parts (p.1, t.2.2)) d (freeM t.1 p.2 t.2.1) hd tp (fun h => by cases h) ⟨by rw [hfl]; show p.1 < _; omega, by rw [hfl]; exact pt.2⟩ (by simp only [fuelM, freeM]; omega) (swf_free h2 pt.1)
  | atom =>
   simp only [fuelM] at hn
   have hps := ha rfl
   rw [runM]
   split
   ·split
    ·exact swf_one (by rw [failM_sts]; exact hw)
    ·rw [closeM_sts]
     exact ih .either (d + 1) (stepM b) (by omega) (by simp only [stepM]; omega) (fun h => by cases h) trivial (by simp only [fuelM, stepM]; omega) hw
   ·split
    ·exact swf_one (by rw [classM_len]; exact hw)
    ·split
     ·exact swf_one hw
     ·split
      ·split
       ·exact swf_one (by show SWf (failM (stepM b) 2).sts; rw [failM_sts]; exact hw)
       ·exact swf_one hw
      ·split
       ·exact swf_one (by rw [failM_sts]; exact hw)
       ·exact swf_one hw
end Go.Proofs.YtgbapkechngnmaaGreat
/- append of what is read, at a step of a region that draws its order. No program in sight. -/
namespace Go.Proofs.YtgbapkechngnmaaGreat
open Go.RowKit
theorem run_append_rd {P : Program} (w : World) (t ty : TypeId) (base : Nat) (e : TypeId) (i : TypeInfo) (z : Value) (size bytes : Nat) (ht : P.underlying t = some (.slice e)) (hi : P.info? e = some i) (hz : i.zero = some z)
  (hsize : i.size = size) (hby : i.bytes = bytes) (hzs : z.cells.size = size) (hsz : 0 < size)
  (v : Value) (n : Nat) (xs : List Value) (hown : w.ownsRow base e size v n xs) (u : Value) (m : Nat) (news : List Value) (hu : RdAt w u m size news) (h1 : ∀ y ∈ news, y.oneCell' = true)
  (h63 : n + m ≤ maxLen) (hbytes : (n + m) * bytes ≤ 140737488355328) (hbase : base ≤ w.heap.size) :
  ∃ v' w', (Builtin.append_ #[t, t] ty #[v, u]).run P w = .ok v' w' ∧ w'.ownsRow base e size v' (n + m) (xs ++ news) ∧ w.grownBy w' v.ownBlock ∧ (v'.ownBlock = v.ownBlock ∨ v'.ownBlock = some w.heap.size) := by
 obtain ⟨hl, ⟨rfl, hm⟩ | ⟨ad, c, rfl, _, hr⟩⟩ := hu
 ·subst hm
  have hnil : news = [] := List.length_eq_zero_iff.1 (by rw [hl]; simp)
  subst hnil
  exact ⟨v, w, run_append_owned_none w base t ty e i size ht hi v n xs hown, by simpa using hown, grownBy_refl _ _, .inl rfl⟩
 ·have hq : ∀ j y, news[j]? = some y → w.cell? (ad.add j) = some y := by
   intro j y hj
   have hj' := (List.getElem?_eq_some_iff.1 hj).1
   obtain ⟨b, o', rfl, _, hcell⟩ := hr (by rcases Nat.eq_zero_or_pos m with h0 | h0; (· subst h0; rw [hl, Nat.zero_mul] at hj'; omega); exact h0)
   have := hcell j y hj
   by_cases h0 : j = 0
   ·subst h0; simpa [Addr.add] using this
   ·simpa [Addr.add, h0] using this
  obtain ⟨v', w', hrun, h2, h3, _, h5⟩ := run_append_own_at (P := P) (w := w) base t ty e i z size bytes ht hi hz hsize hby hzs hsz v n xs hown ad m c news hl hq h1 h63 hbytes hbase
  exact ⟨v', w', hrun, h2, h3, h5⟩
theorem step_append_rd {P : Program} {w : World} {ops : Array Oper} {o : Oper} {a : Act} {K : Act → World → Prop} {Q : Exit → Act → World → Prop} {E : Prop} (hgd : o.guard = none) (s x : Operand) (t : TypeId)
  (ho : o.op = .call { callee := .builtin .append, args := #[s, x], argTypes := #[t, t] })
  (base : Nat) (e : TypeId) (i : TypeInfo) (z : Value) (size bytes : Nat) (ht : P.underlying t = some (.slice e)) (hi : P.info? e = some i) (hz : i.zero = some z)
  (hsize : i.size = size) (hby : i.bytes = bytes) (hzs : z.cells.size = size) (hsz : 0 < size)
  (v : Value) (n : Nat) (xs : List Value) (hs : a.eval s = v) (hown : w.ownsRow base e size v n xs)
  (u : Value) (m : Nat) (news : List Value) (hx : a.eval x = u) (hu : RdAt w u m size news) (h1 : ∀ y ∈ news, y.oneCell' = true)
  (h63 : n + m ≤ maxLen) (hbytes : (n + m) * bytes ≤ 140737488355328) (hbase : base ≤ w.heap.size)
  (h : ∀ v' w', w'.ownsRow base e size v' (n + m) (xs ++ news) → w.grownBy w' v.ownBlock → (v'.ownBlock = v.ownBlock ∨ v'.ownBlock = some w.heap.size) → K (a.put o.dst v') w') :
  if Region.wanted o (yielded ops a.tmps) = true then Oper.wp P o a w K Q else E := by
 have hw : Region.wanted o (yielded ops a.tmps) = true := by simp [Region.wanted, hgd]
 rw [if_pos hw]
 obtain ⟨v', w', hr, h2, h3, h4⟩ := run_append_rd (P := P) w t o.type base e i z size bytes ht hi hz hsize hby hzs hsz v n xs hown u m news hu h1 h63 hbytes hbase
 unfold Oper.wp execOp
 simp only [ho, resolve, invoke, builtin, Sem.run_bind, Sem.run_pure, Result.andThen_ok, List.map_toArray, List.map_cons, List.map_nil, hs, hx, hr]
 exact h v' w' h2 h3 h4
end Go.Proofs.YtgbapkechngnmaaGreat
/- pattern's reach: a contract. -/
namespace Go.Proofs.YtgbapkechngnmaaGreat
open Go.RowKit Go.Sort Go.Maps
/-! slices of ints: what a sort leaves -/
theorem sortI_own (g cap : Nat) (zs : List Int) (w : World) {cur : Array Value} {e0 : TypeId} (hg : w.heap[g]? = some (.cells cur e0 (0, 0))) (hH : Holds (Value.int .i64) w g 0 zs.toArray) (hsz : zs.length ≤ 1000000) :
  Calls Tryz.prog 110 #[.slice (some ⟨g, 0, none⟩) zs.length cap] w fun e w' =>
   e = .returned (.tuple #[]) ∧ w'.heap[g]? = some (.cells (putCells (Value.int .i64) 0 (zs.mergeSort fun x y => decide (x ≤ y)).toArray cur) e0 (0, 0)) ∧ Below g w w' := by
 have hlt : g < w.heap.size := (Array.getElem?_eq_some_iff.1 hg).1
 refine (Tryz.slices_Sort_int g 0 cap zs w hH hlt (by omega)).mono ?_
 rintro e w' ⟨rfl, n, os, rfl⟩
 refine ⟨rfl, ?_, rfl, rfl, rfl, by simp, fun k hk => ?_⟩
 ·rw [heap_grow_old _ _ (by simpa using hlt)]
  simp [putRow, mapBlock, Sort.ahead, Array.getElem?_modify, hg, onCells]
 ·rw [heap_grow_old _ _ (by simp; omega)]
  have : g ≠ k := by omega
  simp [putRow, mapBlock, Sort.ahead, Array.getElem?_modify, this]
theorem holdsI_own {w : World} {g : Nat} {cur : Array Value} {e : TypeId} {ids : List Int} (hb : w.heap[g]? = some (.cells cur e (0, 0))) (ht : cur.toList.take ids.length = ids.map (Value.int .i64)) : Holds (Value.int .i64) w g 0 ids.toArray := by
 intro j hj
 have hj' : j < ids.length := by simpa using hj
 refine ⟨?_, by simp [World.frozen?, hb]⟩
 have h1 : (cur.toList.take ids.length)[j]? = (ids.map (Value.int .i64))[j]? := by rw [ht]
 rw [List.getElem?_take_of_lt hj'] at h1
 simp only [World.cell?, hb, Nat.zero_add]
 simp only [Option.isSome_none, Bool.false_eq_true, if_false]
 rw [← Array.getElem?_toList, h1]
 simp [hj']
theorem putI_take (cur : Array Value) (ts : List Int) (h : ts.length ≤ cur.size) : (putCells (Value.int .i64) 0 ts.toArray cur).toList.take ts.length = ts.map (Value.int .i64) := by
 apply List.ext_getElem?
 intro j
 by_cases hj : j < ts.length
 ·rw [List.getElem?_take_of_lt hj, Array.getElem?_toList, List.getElem?_map]
  simp [putCells, hj, show j < cur.size by omega]
 ·rw [List.getElem?_take_eq_none (by omega), List.getElem?_eq_none (by simp; omega)]
def intsN (l : List Nat) : List Int := l.map fun (n : Nat) => (n : Int)
theorem freeC_ints (l : List Nat) : freeC l = (intsN l).map (Value.int .i64) := by simp [freeC, intsN]
def sortN (l : List Nat) : List Nat := l.mergeSort fun x y => decide (x ≤ y)
theorem intsN_sort (l : List Nat) : (intsN l).mergeSort (fun x y => decide (x ≤ y)) = intsN (sortN l) := by
 refine List.Perm.eq_of_pairwise (le := fun x y : Int => x ≤ y) (fun a b _ _ h1 h2 => Int.le_antisymm h1 h2) ?_ ?_ ?_
 ·have h := List.pairwise_mergeSort (le := fun (x y : Int) => decide (x ≤ y)) (fun a b c h1 h2 => by simp at h1 h2 ⊢; omega) (fun a b => by simp; omega) (intsN l)
  exact h.imp (fun h => by simpa using h)
 ·have h := List.pairwise_mergeSort (le := fun (x y : Nat) => decide (x ≤ y)) (fun a b c h1 h2 => by simp at h1 h2 ⊢; omega) (fun a b => by simp; omega) l
  unfold intsN sortN
  rw [List.pairwise_map]
  exact h.imp (fun h => by simp at h ⊢; omega)
 ·exact (List.mergeSort_perm _ _).trans ((List.mergeSort_perm l _).map _).symm
theorem mem_sortN {l : List Nat} {k : Nat} : k ∈ sortN l ↔ k ∈ l := (List.mergeSort_perm l _).mem_iff
theorem len_sortN (l : List Nat) : (sortN l).length = l.length := (List.mergeSort_perm l _).length_eq
def RisingN (l : List Nat) : Prop := l.Pairwise (· < ·)
theorem rising_sort {l : List Nat} (h : l.Nodup) : RisingN (sortN l) := by
 have h1 := List.pairwise_mergeSort (le := fun (x y : Nat) => decide (x ≤ y)) (fun a b c h1 h2 => by simp at h1 h2 ⊢; omega) (fun a b => by simp; omega) l
 have h2 : (sortN l).Nodup := (List.mergeSort_perm l _).nodup_iff.2 h
 exact (h1.and h2).imp (fun h => by simp at h; omega)
/-! a set of numbers, as a map of bools -/
def SeenAt (w : World) (b n : Nat) (S : Nat → Bool) : Prop := ∃ D : DataW Unit, w.ownsMap Tryz.prog 3 (plainElem Tryz.prog 4) b n D ∧ IsMap D ∧ ∀ k : Nat, D.atKey (.int .i64 k) (.lit (.bool false)) = .lit (.bool (S k))
theorem lawI : Keyed Tryz.prog 3 := int_keyed Tryz.underlying3
theorem keyI (k : Nat) (h : k ≤ 1000000) : keyOf Tryz.prog 3 (.int .i64 (k : Int)) = some (.int .i64 (k : Int)) := keyOf_int_mk Tryz.underlying3 (by simp [Lit.wf, IntKind.min, IntKind.max, IntKind.signed, IntKind.bits]; omega)
theorem SeenAt.made (w : World) : SeenAt (w.alloc (.map #[] 0)) w.heap.size 0 (fun _ => false) := ⟨.map [], World.ownsMap_made _ _ _ _, isMap_empty, fun _ => rfl⟩
theorem SeenAt.lt {w : World} {b n : Nat} {S : Nat → Bool} (h : SeenAt w b n S) : b < w.heap.size := by
 obtain ⟨D, h, _⟩ := h
 exact h.lt
theorem SeenAt.kept {w w' : World} {b n : Nat} {S : Nat → Bool} {row : Option Nat} (h : SeenAt w b n S) (hg : w.grownBy w' row) (hne : some b ≠ row) : SeenAt w' b n S := by
 obtain ⟨D, h1, h2⟩ := h
 exact ⟨D, h1.kept hg hne, h2⟩
set_option maxRecDepth 100000 in
theorem SeenAt.look {w : World} {b n : Nat} {S : Nat → Bool} (h : SeenAt w b n S) (k : Nat) (hk : k ≤ 1000000) : (Instr.lookup 156 (.map (some b)) (.int .i64 (k : Int)) false).run Tryz.prog w = .ok (.bool (S k)) w := by
 obtain ⟨D, h1, _, h3⟩ := h
 obtain ⟨v, ps, hr, hv⟩ := h1.lookup lawI Tryz.underlying156 (Tryz.zeroValue4 w) (zd := .lit (.bool false)) (zp := []) (plainElem_bool Tryz.underlying4 false) (keyI k hk)
 rw [h3 k] at hv
 have : v = .bool (S k) := by
  unfold plainElem at hv
  rw [Tryz.underlying4] at hv
  split at hv
  ·rename_i h1 h2; simp at hv; rw [hv.1]
  all_goals (first | cases hv | simp_all)
 rw [hr, this]
theorem SeenAt.put {w' : World} {b n : Nat} {D : DataW Unit} {S : Nat → Bool} (hD : IsMap D) (hS : ∀ k : Nat, D.atKey (.int .i64 k) (.lit (.bool false)) = .lit (.bool (S k))) (k : Nat) (h : w'.ownsMap Tryz.prog 3 (plainElem Tryz.prog 4) b n (D.put (.int .i64 (k : Int)) (.lit (.bool true)))) : SeenAt w' b n (fun j => S j || decide (j = k)) := by
 refine ⟨_, h, hD.put _ _, fun j => ?_⟩
 by_cases hj : j = k
 ·subst hj
  rw [atKey_put_same hD (show WideAt.IsKeyLit (.int .i64 (j : Int)) from trivial)]; simp
 ·rw [atKey_put_other (by simp; omega), hS j]; simp [hj]
theorem wpList_append_rd2 {P : Program} {w : World} {ops : Array Oper} {rest : List Oper} {o : Oper} {a : Act} {Q : Exit → Act → World → Prop} (hgd : o.guard = none) (s x : Operand) (t : TypeId)
  (ho : o.op = .call { callee := .builtin .append, args := #[s, x], argTypes := #[t, t] })
  (base : Nat) (e : TypeId) (i : TypeInfo) (z : Value) (size bytes : Nat) (ht : P.underlying t = some (.slice e)) (hi : P.info? e = some i) (hz : i.zero = some z)
  (hsize : i.size = size) (hby : i.bytes = bytes) (hzs : z.cells.size = size) (hsz : 0 < size)
  (v : Value) (n : Nat) (xs : List Value) (hs : a.eval s = v) (hown : w.ownsRow base e size v n xs)
  (u : Value) (m : Nat) (news : List Value) (hx : a.eval x = u) (hu : RdAt w u m size news) (h1 : ∀ y ∈ news, y.oneCell' = true)
  (h63 : n + m ≤ maxLen) (hbytes : (n + m) * bytes ≤ 140737488355328) (hbase : base ≤ w.heap.size)
  (h : ∀ v' w', w'.ownsRow base e size v' (n + m) (xs ++ news) → w.grownBy w' v.ownBlock → (v'.ownBlock = v.ownBlock ∨ v'.ownBlock = some w.heap.size) → wpList P ops Q rest (a.put o.dst v') w') : wpList P ops Q (o :: rest) a w := by
 refine wpList_plain hgd fun K hK => ?_
 obtain ⟨v', w', hr, h2, h3, h4⟩ := run_append_rd (P := P) w t o.type base e i z size bytes ht hi hz hsize hby hzs hsz v n xs hown u m news hu h1 h63 hbytes hbase
 unfold Oper.wp execOp
 simp only [ho, resolve, invoke, builtin, Sem.run_bind, Sem.run_pure, Result.andThen_ok, List.map_toArray, List.map_cons, List.map_nil, hs, hx, hr]
 exact hK _ _ (h v' w' h2 h3 h4)
theorem ownsRow_pop {w : World} {base : Nat} {e : TypeId} {g n cap : Nat} {xs : List Value} {x : Value} (h : w.ownsRow base e 1 (.slice (some ⟨g, 0, none⟩) (n + 1) cap) (n + 1) (xs ++ [x])) : w.ownsRow base e 1 (.slice (some ⟨g, 0, none⟩) n cap) n xs ∧ w.cell? ⟨g, n, none⟩ = some x ∧ n + 1 ≤ cap := by
 have hxl : xs.length = n := by have := h.1; simp at this; omega
 have hc := (ownsRow_cell h (g := g) (j := n) (u := x) rfl (by rw [List.getElem?_append_right (by omega)]; simp [hxl])).1
 rcases h.2 with ⟨h1, _⟩ | ⟨g', cap', cur, he, hb, hg, hle, hcap, hsz, htk⟩
 ·simp at h1
 ·simp only [Value.slice.injEq, Option.some.injEq, Addr.mk.injEq] at he
  obtain ⟨⟨rfl, _, _⟩, _, rfl⟩ := he
  refine ⟨⟨by simp [hxl], .inr ⟨g, cap, cur, rfl, hb, hg, by omega, hcap, hsz, ?_⟩⟩, hc, hle⟩
  have h2 : cur.toList.take (n * 1) = (cur.toList.take ((n + 1) * 1)).take n := by rw [List.take_take]; congr 1; omega
  rw [h2, htk, ← hxl, List.take_left]
theorem run_clear_map (w : World) (T : TypeId) (k e ty : TypeId) {P : Program} (ht : P.underlying T = some (.map k e)) {b : Nat} {es : Array MapEntry} {clock : Nat} (hb : w.heap[b]? = some (.map es clock)) :
  ∃ w', (Builtin.clear_ #[T] ty #[.map (some b)]).run P w = .ok (.tuple #[]) w' ∧ w.grownBy w' (some b) := by
 refine ⟨{ w with heap := w.heap.setIfInBounds b (.map #[] clock) }, ?_, ⟨rfl, rfl, rfl, by simp, fun k _ hk => ?_⟩⟩
 ·simp [Builtin.clear_, run_underlying ht, Result.andThen]
  simp [getObj, setObj, Sem.run, hb]
 ·have : b ≠ k := fun e => hk (by rw [e])
  simp [this]
def lenV : Value → Nat
 | .slice _ n _ => n
 | _ => 0
structure ReAt (w : World) (m : Nat) (sts : List St) (l out todo : List Nat) (vo vt : Value) (wr : World) : Prop where
 ge : w.heap.size ≤ m
 below : Below w.heap.size w wr
 inv : ReInv sts l out todo
 seen : ∃ n, n ≤ out.length ∧ SeenAt wr m n (fun k => decide (k ∈ out))
 ro : wr.ownsRow w.heap.size 3 1 vo out.length (freeC out)
 rt : wr.ownsRow w.heap.size 3 1 vt todo.length (freeC todo)
 mo : vo.ownBlock ≠ some m
 mt : vt.ownBlock ≠ some m
 ot : vo.ownBlock = none ∨ vo.ownBlock ≠ vt.ownBlock
 len : todo.length ≤ l.length + out.length * tot sts
theorem ReAt.bound {w : World} {m : Nat} {sts : List St} {l out todo : List Nat} {vo vt : Value} {wr : World} (h : ReAt w m sts l out todo vo vt wr) : out.length ≤ sts.length := nodup_lt h.inv.nd h.inv.bo
theorem freeC_snoc (l : List Nat) (k : Nat) : freeC (l ++ [k]) = freeC l ++ [.int .i64 k] := by simp [freeC]
theorem freeC_app (l r : List Nat) : freeC (l ++ r) = freeC l ++ freeC r := by simp [freeC]
theorem own_len {w : World} {base : Nat} {e : TypeId} {size : Nat} {v : Value} {n : Nat} {xs : List Value} (h : w.ownsRow base e size v n xs) : lenV v = n := by
 rcases h.2 with ⟨rfl, rfl⟩ | ⟨g, cap, _, rfl, _⟩ <;> rfl
theorem own_shape {w : World} {base : Nat} {e : TypeId} {size : Nat} {v : Value} {n : Nat} {xs : List Value} (h : w.ownsRow base e size v n xs) : ∃ a c, v = .slice a n c ∧ (0 < n → ∃ g, a = some ⟨g, 0, none⟩) := by
 rcases h.2 with ⟨rfl, rfl⟩ | ⟨g, cap, _, rfl, _⟩
 ·exact ⟨_, _, rfl, fun h => absurd h (Nat.lt_irrefl _)⟩
 ·exact ⟨_, _, rfl, fun _ => ⟨g, rfl⟩⟩
theorem sort_row (w : World) (base n : Nat) (l : List Nat) (v : Value) (hn : l.length = n) (h : w.ownsRow base 3 1 v n (freeC l)) (hl : n ≤ 1000000) :
  Calls Tryz.prog 110 #[v] w fun e w' => e = .returned (.tuple #[]) ∧ w'.ownsRow base 3 1 v n (freeC (sortN l)) ∧ Below base w w' := by
 subst hn
 rcases Nat.eq_zero_or_pos l.length with h0 | h0
 ·have hnil : l = [] := List.length_eq_zero_iff.1 h0
  subst hnil
  obtain ⟨a, c, rfl, _⟩ := own_shape h
  refine (Tryz.slices_Sort_int_none a c w).mono ?_
  rintro e w' ⟨rfl, rfl⟩
  exact ⟨rfl, by simpa [sortN] using h, Below.refl _ _⟩
 ·rcases h.2 with ⟨_, h1⟩ | ⟨g, cap, cur, rfl, hb, hg, hle, hcap, hsz, htk⟩
  ·omega
  ·have hil : (intsN l).length = l.length := by simp [intsN]
   have htk' : cur.toList.take (intsN l).length = (intsN l).map (Value.int .i64) := by rw [hil, ← freeC_ints, ← htk]; congr 1; omega
   have hk := sortI_own g cap (intsN l) w hg (holdsI_own hg htk') (by omega)
   rw [hil, intsN_sort] at hk
   refine hk.mono ?_
   rintro e w' ⟨rfl, h2, h3⟩
   refine ⟨rfl, ⟨?_, .inr ⟨g, cap, _, rfl, hb, h2, hle, hcap, by simpa [putCells] using hsz, ?_⟩⟩, h3.mono hb⟩
   ·simp [freeC, len_sortN]
   ·have hsl : (intsN (sortN l)).length = l.length := by simp [intsN, len_sortN]
    have := putI_take cur (intsN (sortN l)) (by rw [hsl]; omega)
    rw [hsl] at this
    rw [Nat.mul_one, this, freeC_ints]
theorem PatAt.cells {w : World} {a : Nat} {s : ByteArray} {sts : List St} {st en : Nat} (h : PatAt w a s sts st en) : ∃ sa sn sc, w.cell? ⟨a, 1, none⟩ = some (.slice sa sn sc) ∧ w.cell? ⟨a, 0, none⟩ = some (.string s) ∧ w.cell? ⟨a, 2, none⟩ = some (.int .i64 st) ∧ w.cell? ⟨a, 3, none⟩ = some (.int .i64 en) ∧ a < w.heap.size ∧
  ∀ (k : Nat) (hk : k < sts.length), ∃ r cap pv fv, (.slice sa sn sc : Value) = .slice (some ⟨r, 0, none⟩) sts.length cap ∧ r < w.heap.size ∧ w.cell? ⟨r, k * 3, none⟩ = some pv ∧ w.cell? ⟨r, k * 3 + 1, none⟩ = some (.int .i64 (sts[k].next : Nat)) ∧ w.cell? ⟨r, k * 3 + 2, none⟩ = some fv ∧
   PtrAt w (fun _ => True) sts[k] pv ∧ w.ownsRow 0 3 1 fv sts[k].free.length (freeC sts[k].free) := by
 obtain ⟨sv, es, h⟩ := h
 obtain ⟨sa, sn, sc, rfl⟩ := ownsRow_slice h.row
 refine ⟨sa, sn, sc, by rw [cell_of_row _ _ _ _ _ _ h.blk]; rfl, by rw [cell_of_row _ _ _ _ _ _ h.blk]; rfl, by rw [cell_of_row _ _ _ _ _ _ h.blk]; rfl, by rw [cell_of_row _ _ _ _ _ _ h.blk]; rfl, (Array.getElem?_eq_some_iff.1 h.blk).1, fun k hk => ?_⟩
 obtain ⟨r, cap, he, _, hlt⟩ := h.row.form (by omega)
 have hx : sts[k]? = some sts[k] := List.getElem?_eq_getElem hk
 obtain ⟨e, hee⟩ : ∃ e, es[k]? = some e := ⟨_, List.getElem?_eq_getElem (by rw [h.len]; exact hk)⟩
 obtain ⟨q0, q1, q2⟩ := stC_at sts es k _ e hx hee
 have hb : (Value.slice sa sn sc).ownBlock = some r := by rw [he]; rfl
 exact ⟨r, cap, e.1, e.2, he, hlt, (ownsRow_cell h.row hb q0).1, (ownsRow_cell h.row hb q1).1, (ownsRow_cell h.row hb q2).1, h.ptr k _ e hx hee, (h.free k _ e hx hee).1⟩
theorem own_lt {w : World} {base : Nat} {e : TypeId} {size : Nat} {v : Value} {n : Nat} {xs : List Value} (h : w.ownsRow base e size v n xs) {k : Nat} (hk : v.ownBlock = some k) : k < w.heap.size := (h.lt k hk).2
theorem ReAt.more {w : World} {m : Nat} {sts : List St} {l out t : List Nat} {k gt tc go oc : Nat} {vo vt' : Value} {wr w1 w2 w3 : World} {o : Obj} (hw : SWf sts) (h : ReAt w m sts l out (t ++ [k]) vo (.slice (some ⟨gt, 0, none⟩) (t.length + 1) tc) wr) (hk : k ∉ out)
  (n : Nat) (hn : n ≤ out.length) (hs1 : SeenAt w1 m (n + 1) (fun j => decide (j ∈ out) || decide (j = k))) (hg1 : wr.grownBy w1 (some m))
  (ho2 : w2.ownsRow w.heap.size 3 1 (.slice (some ⟨go, 0, none⟩) (out.length + 1) oc) (out.length + 1) (freeC out ++ [.int .i64 k])) (hg2 : (w1.alloc o).grownBy w2 vo.ownBlock) (ha2 : vo.ownBlock = some go ∨ go = w1.heap.size + 1)
  (hr3 : w3.ownsRow w.heap.size 3 1 vt' (t.length + (frees sts k).length) (freeC t ++ freeC (frees sts k))) (hg3 : w2.grownBy w3 (some gt)) (ha3 : vt'.ownBlock = some gt ∨ vt'.ownBlock = some w2.heap.size) :
  ReAt w m sts l (out ++ [k]) (t ++ frees sts k) (.slice (some ⟨go, 0, none⟩) (out.length + 1) oc) vt' w3 := by
 have hgm := (own_lt h.rt rfl : gt < wr.heap.size)
 obtain ⟨n0, _, hs0⟩ := h.seen
 have hml := hs0.lt
 have hg1s := hg1.size
 have hg2s : w1.heap.size + 1 ≤ w2.heap.size := by have := hg2.size; rw [World.size_alloc] at this; exact this
 have hgom : go ≠ m := by
  rcases ha2 with e | e
  ·exact fun e' => h.mo (e' ▸ e)
  ·omega
 have hgt : gt ≠ m := fun e => h.mt (by rw [← e]; rfl)
 have hgog : go ≠ gt := by
  rcases ha2 with e | e
  ·rcases h.ot with h1 | h1
   ·rw [h1] at e; cases e
   ·exact fun e' => h1 (by rw [e, e']; rfl)
  ·omega
 have hvom : vo.ownBlock ≠ some m := h.mo
 have hbase : ∀ j, (Value.slice (some ⟨gt, 0, none⟩) (t.length + 1) tc).ownBlock = some j → w.heap.size ≤ j := fun j e => (h.rt.lt j e).1
 have b1 : Below w.heap.size w w1 := h.below.grown hg1 h.below.size (fun j e => by cases e; exact h.ge)
 have b1' : Below w.heap.size w (w1.alloc o) := b1.alloc b1.size o
 have b2 : Below w.heap.size w w2 := b1'.grown hg2 b1'.size (fun j e => (h.ro.lt j e).1)
 have b3 : Below w.heap.size w w3 := b2.grown hg3 b2.size (fun j e => by cases e; exact hbase gt rfl)
 refine ⟨h.ge, b3, h.inv.new hw hk, ⟨n + 1, by simp; omega, ?_⟩, ?_, ?_, ?_, ?_, ?_, ?_⟩
 ·have hs2 : SeenAt w2 m (n + 1) (fun j => decide (j ∈ out) || decide (j = k)) := SeenAt.kept (row := vo.ownBlock) (SeenAt.kept (row := none) hs1 (World.grownBy_alloc w1 o none) (by simp)) hg2 (fun e => hvom e.symm)
  have hs3 := SeenAt.kept (row := some gt) hs2 hg3 (fun e => hgt (Option.some.inj e).symm)
  have hf : (fun j => decide (j ∈ out ++ [k])) = (fun j => decide (j ∈ out) || decide (j = k)) := by
   funext j
   rw [Bool.eq_iff_iff]
   simp
  rw [hf]
  exact hs3
 ·rw [List.length_append, freeC_snoc]
  exact ho2.kept hg3 (.inr (fun e => hgog (Option.some.inj e)))
 ·rw [List.length_append, freeC_app]
  exact hr3
 ·exact fun e => hgom (Option.some.inj e)
 ·rcases ha3 with e | e
  ·rw [e]; exact fun e' => hgt (Option.some.inj e')
  ·rw [e]; exact fun e' => by have := Option.some.inj e'; omega
 ·refine .inr (fun e => ?_)
  rcases ha3 with e' | e'
  ·rw [e'] at e; exact hgog (Option.some.inj e)
  ·rw [e'] at e
   have h5 : go = w2.heap.size := Option.some.inj e
   have h4 := own_lt ho2 (k := go) rfl
   omega
 ·have h1 := h.len
  have h2 := frees_len sts k
  simp only [List.length_append, List.length_cons, List.length_nil] at h1 ⊢
  rw [Nat.add_mul]
  omega
set_option maxHeartbeats 6400000 in
set_option maxRecDepth 100000 in
theorem reach_is (w : World) (a : Nat) (s : ByteArray) (sts : List St) (st en : Nat) (l : List Nat) (v : Value) (hp : PatAt w a s sts st en) (hw : SWf sts) (hN : tot sts ≤ 100000) (hv : RdAt w v l.length 1 (freeC l)) (hl : ∀ j ∈ l, j < sts.length) (hll : l.length ≤ 1000000) :
  Calls Tryz.prog 86 #[.pointer (some ⟨a, 0, none⟩), v] w fun e w' => ∃ v' out, e = .returned v' ∧ w'.ownsRow w.heap.size 3 1 v' out.length (freeC out) ∧ Below w.heap.size w w' ∧ RisingN out ∧ ∀ k, k ∈ out ↔ Cl sts l k := by
 have hNl : sts.length ≤ 100000 := Nat.le_trans (len_tot _) hN
 obtain ⟨sa, sn, sc, c1, _, _, _, halt, hst⟩ := hp.cells
 obtain ⟨i0, hi, hz0, hz1, hz2⟩ := info_parts info_intP
 have HW := Lib.hid hw
 have HST := Lib.hid hst
 have hmm := @run_makeMap Tryz.prog
 have hba := alloc_below w (.map #[] 0)
 have hS0 := SeenAt.made w
 have hcl : ∀ W, Below w.heap.size w W → Calls Tryz.prog 109 #[v] W fun e w' => ∃ v', e = .returned v' ∧ w'.ownsRow W.heap.size 3 1 v' l.length (freeC l) ∧ Below W.heap.size W w' := fun W hW => by
  have hvW := hv.later hW
  rcases Nat.eq_zero_or_pos l.length with h0 | h0
  ·have hnil : l = [] := List.length_eq_zero_iff.1 h0
   subst hnil
   rcases hvW.2 with ⟨rfl, _⟩ | ⟨ad, c, rfl, _, _⟩
   ·refine (Tryz.slices_Clone_int_nil 0 0 W).mono ?_
    rintro e w' ⟨rfl, rfl⟩
    exact ⟨_, rfl, World.ownsRow_nil _ _ _ _, Below.refl _ _⟩
   ·refine (Tryz.slices_Clone_int_zero ad c W).mono ?_
    rintro e w' ⟨v', rfl, h1, _, h2⟩
    exact ⟨v', rfl, h1, h2⟩
  ·obtain ⟨b, o, c, rfl, hcc, _, hcell⟩ := hvW.some h0
   have hil : (intsN l).length = l.length := by simp [intsN]
   have hlen : l.length = (intsN l).length := hil.symm
   refine (Tryz.slices_Clone_int b o l.length c (intsN l) W (by omega) (by omega) (fun j hj => ?_)).mono ?_
   ·refine hcell j _ ?_
    rw [freeC_ints, List.getElem?_map, List.getD_eq_getElem?_getD, List.getElem?_eq_getElem hj]; rfl
   ·rintro e w' ⟨v', rfl, h1, _, h2⟩
    rw [hlen, List.take_length, ← freeC_ints, ← hlen] at h1
    exact ⟨v', rfl, h1, h2⟩
 have HCL := Lib.hid hcl
 have HLt := Lib.hid hl
 clear hp hw hl hv hcl hst
 go_enter Tryz.func86, Tryz.ntmps86
 go_wp2_with fail
 refine (HCL.out _ hba).mono ?_
 rintro e w1 ⟨vt, rfl, hrt, hb1⟩
 rw [World.size_alloc] at hrt
 have hre : ReAt w w.heap.size sts l [] l (.slice none 0 0) vt w1 := by
  refine ⟨Nat.le_refl _, hba.trans (hb1.mono (by rw [World.size_alloc]; omega)), ReInv.start sts l HLt.out, ⟨0, Nat.zero_le _, ?_⟩, World.ownsRow_nil _ _ _ _, own_base hrt (by omega), by simp [Value.ownBlock], fun e => ?_, .inl rfl, by simp⟩
  ·exact SeenAt.kept (row := none) (by simpa using hS0) (below_grown hb1 none) (by simp)
  ·have := (hrt.lt _ e).1; omega
 have HRE := Lib.hid hre
 clear hba hS0 hre hrt hb1 hmm HCL HLt
 go_wp2
 go_loopw [6, 7] (fun vo vt wr => ∃ out todo, ReAt w w.heap.size sts l out todo vo vt wr) (fun vo vt _ => (sts.length - lenV vo) * (tot sts + 1) + lenV vt)
 case atStart => exact ⟨[], l, HRE.out⟩
 case round =>
  clear HRE
  obtain ⟨out, todo, hR⟩ := hrel
  have hob := hR.bound
  rcases List.eq_nil_or_concat todo with rfl | ⟨t, k, rfl⟩
  ·have HR := Lib.hid hR
   obtain ⟨n, hn, hS⟩ := hR.seen
   obtain ⟨D, hD, hDm, _⟩ := hS
   obtain ⟨es, clock, hbk, _⟩ := hD
   obtain ⟨wc, hclr, hgc⟩ := run_clear_map wr 156 3 4 0 Tryz.underlying156 hbk
   obtain ⟨ta, tc, rfl, _⟩ := own_shape hR.rt
   have hks := sort_row wc w.heap.size out.length out u6 rfl (hR.ro.kept hgc (.inr hR.mo)) (by omega)
   have HGC := Lib.hid hgc
   obtain ⟨oa, oc, rfl, _⟩ := own_shape hR.ro
   clear hR hn hDm hbk hgc
   go_wp2_with fail
   refine hks.mono ?_
   rintro e w2 ⟨rfl, hro2, hb2⟩
   go_wp2
   go_ret
   have hbc : Below w.heap.size w wc := HR.out.below.grown HGC.out HR.out.below.size (fun k e => by cases e; exact HR.out.ge)
   refine ⟨_, sortN out, rfl, by rw [len_sortN]; exact hro2, hbc.trans (hb2), rising_sort HR.out.inv.nd, fun k => by rw [mem_sortN]; exact HR.out.inv.done k⟩
  ·have hkt : k < sts.length := hR.inv.bt k (by simp)
   have htl := hR.len
   have hmul : out.length * tot sts ≤ 100000 * 100000 := Nat.mul_le_mul (by omega) hN
   simp only [List.concat_eq_append] at hR
   obtain ⟨ta, tc, rfl, hta⟩ := own_shape hR.rt
   obtain ⟨gt, rfl⟩ := hta (by simp)
   have hrt := hR.rt
   have htn : (t ++ [k]).length = t.length + 1 := by simp
   simp only [htn] at hR hrt ⊢
   rw [freeC_snoc] at hrt
   obtain ⟨hpop, hck, hcap⟩ := ownsRow_pop hrt
   obtain ⟨n, hn, hS⟩ := hR.seen
   have hlk := hS.look k (by omega)
   have HR := Lib.hid hR
   obtain ⟨oa, oc, rfl, _⟩ := own_shape hR.ro
   have hb := hR.below
   have hml := hS.lt
   have hge := hR.ge
   have hol : lenV (.slice oa out.length oc) = out.length := rfl
   have HS := Lib.hid hS
   have HN := Lib.hid hn
   simp only [List.length_concat] at htl
   have hil : (0 : Int) ≤ (t.length : Int) := by omega
   have htc : (t.length : Int) + 1 ≤ (tc : Int) := by omega
   have htm : (t.length : Int) ≤ (tc : Int) := by omega
   clear hR hrt hS hn hcap
   by_cases hk : k ∈ out
   ·rw [decide_eq_true hk] at hlk
    have HK := Lib.hid hk
    have HPOP := Lib.hid hpop
    clear hk hpop
    go_wp2
    go_roundw
    case rel =>
     refine ⟨out, t, HR.out.ge, HR.out.below, HR.out.inv.seen HK.out, HR.out.seen, HR.out.ro, HPOP.out, HR.out.mo, HR.out.mt, HR.out.ot, by have := HR.out.len; simp at this; omega⟩
    case measure => simp [lenV]
   ·rw [decide_eq_false hk] at hlk
    have HK := Lib.hid hk
    obtain ⟨D, hD, hDm, hDa⟩ := HS.out
    obtain ⟨r, cap, pv, fv, hsv, hrl, _, _, hcf, _, hfr⟩ := HST.out k hkt
    simp only [Value.slice.injEq] at hsv
    obtain ⟨hsa, hsn, hsc⟩ := hsv
    subst hsa hsn hsc
    have hft : sts[k].free.length ≤ 100000 := Nat.le_trans (free_tot sts _ (List.getElem_mem hkt)) hN
    have HFE : Hid (frees sts k = sts[k].free) := Lib.hid (by unfold frees; rw [List.getElem?_eq_getElem hkt])
    have HDM := Lib.hid hDm
    have HDA := Lib.hid hDa
    have HHD := Lib.hid hD
    have hone : ∀ u ∈ ([.int .i64 k] : List Value), u.oneCell' = true := by
     intro u hu; simp at hu; subst hu; rfl
    have hkey := keyI k (by omega)
    have hval : plainElem (H := Unit) Tryz.prog 4 (.bool true) = some (.lit (.bool true), []) := plainElem_bool Tryz.underlying4 true
    have hff : ∀ y ∈ freeC sts[k].free, y.oneCell' = true := by
     intro y hy
     obtain ⟨q, _, rfl⟩ := List.mem_map.1 hy
     rfl
    have HFR := Lib.hid hfr
    have hk0 : (0 : Int) ≤ (k : Int) := by omega
    have hk1 : (k : Int) < (sts.length : Int) := by omega
    have HPOP := Lib.hid hpop
    clear hk hDm hDa hpop hfr
    have hnn := HN.out
    have HOT : Hid ((Value.slice (some ⟨gt, 0, none⟩) t.length tc).ownBlock ≠ (Value.slice oa out.length oc).ownBlock) := Lib.hid (by
     rcases HR.out.ot with e | e
     ·rw [e]; simp [Value.ownBlock]
     ·exact fun e' => e e'.symm)
    go_wp2_with (first
     | (at_mapUpdate; (refine wpList_mapUpdate_own _ rfl _ _ _ 156 rfl 3 4 lawI Tryz.underlying156 _ w.heap.size n D rfl HHD.out (by unfold maxLen; omega) _ _ _ rfl rfl hkey _ [] hval ?_); intro w1 hown1 hgrow1; have HO1 := Lib.hid (SeenAt.put HDM.out HDA.out k hown1); have HG1 := Lib.hid hgrow1; have hro1 := (HR.out.ro.kept hgrow1 (.inr HR.out.mo)).alloc (.cells #[.int .i64 k] 3); have hnb1 : (w1.alloc (.cells #[.int .i64 k] 3)).heap[w1.heap.size]? = some (.cells #[.int .i64 k] 3 (0, 0)) := heap_alloc_new _ _; have HNB1 := Lib.hid hnb1; have hb1 := hb.grown hgrow1 hb.size (fun j e => by cases e; exact hge); have HBS1 : Hid (w.heap.size ≤ (w1.alloc (.cells #[.int .i64 k] 3)).heap.size) := Lib.hid (by rw [World.size_alloc]; have := hb1.size; omega); have HSZ1 := Lib.hid (World.size_alloc w1 (.cells #[.int .i64 k] 3)); clear hown1 hgrow1 hnb1)
     | (at_builtin; (refine wpList_append_lies _ rfl (.tmp 32) (.tmp 34) 136 rfl w.heap.size 3 i0 (.int .i64 0) 1 8 Tryz.underlying136 hi hz0 hz1 hz2 rfl (by decide) _ out.length (freeC out) rfl hro1 ⟨w1.heap.size, 0, none⟩ 1 1 [.int .i64 k] rfl rfl (World.news_of_block HNB1.out) hone (by decide) (by unfold maxLen; omega) (by omega) HBS1.out (w1.heap.size + 1) HSZ1.out ?_); intro go cp w2 hown2 hgrow2 hat2 hlt2; have HO2 := Lib.hid (And.intro hown2 (And.intro hgrow2 hat2)); have hb2 := (hb1.alloc hb1.size (.cells #[.int .i64 k] 3)).grown hgrow2 HBS1.out (fun j e => (HR.out.ro.lt j e).1); have c1' := keep_cell c1 hb2 halt; have cf' := keep_cell hcf hb2 hrl; have hrt2 := ((HPOP.out.kept HG1.out (.inr HR.out.mt)).alloc (.cells #[.int .i64 k] 3)).kept hgrow2 (.inr HOT.out); have hrd := (RdAt.own HFR.out).later hb2; clear hown2 hgrow2 hat2 hro1)
     | (at_builtin; (refine wpList_append_rd2 rfl (.tmp 36) (.tmp 44) 136 rfl w.heap.size 3 i0 (.int .i64 0) 1 8 Tryz.underlying136 hi hz0 hz1 hz2 rfl (by decide) _ t.length (freeC t) rfl hrt2 _ sts[k].free.length (freeC sts[k].free) rfl hrd hff (by unfold maxLen; omega) (by omega) hb2.size ?_); intro v3 w3 hown3 hgrow3 hat3; have HO3 := Lib.hid (And.intro hown3 (And.intro hgrow3 hat3)); clear hown3 hgrow3 hat3))
    go_roundw
    case rel =>
     obtain ⟨h2a, h2b, h2c⟩ := HO2.out
     obtain ⟨h3a, h3b, h3c⟩ := HO3.out
     rw [← HFE.out] at h3a
     exact ⟨out ++ [k], t ++ frees sts k, HR.out.more HW.out HK.out n HN.out HO1.out HG1.out h2a h2b h2c h3a h3b h3c⟩
    case measure =>
     have hne : out.length < sts.length := by
      have := (HR.out.more HW.out HK.out n HN.out HO1.out HG1.out HO2.out.1 HO2.out.2.1 HO2.out.2.2 (by rw [HFE.out]; exact HO3.out.1) HO3.out.2.1 HO3.out.2.2).bound
      rw [List.length_append] at this; simp only [List.length_cons, List.length_nil] at this; omega
     have hf := free_tot sts _ (List.getElem_mem hkt)
     have h3 : lenV v3 = t.length + sts[k].free.length := own_len HO3.out.1
     rw [h3]
     simp only [lenV]
     obtain ⟨dd, hdd⟩ : ∃ dd, sts.length - out.length = dd + 1 := ⟨sts.length - out.length - 1, by omega⟩
     rw [show sts.length - (out.length + 1) = dd by omega, hdd, Nat.add_mul]
     omega
end Go.Proofs.YtgbapkechngnmaaGreat
/- pattern's step: a contract. -/
namespace Go.Proofs.YtgbapkechngnmaaGreat
open Go.RowKit
/-! plain: one byte on -/
def goB (x : St) (c : Nat) : Bool := match x.set with
 | some f => f c
 | none => false
def go1 (sts : List St) (c k : Nat) : List Nat := match sts[k]? with
 | some x => if goB x c = true then [x.next] else []
 | none => []
def goN (sts : List St) (c : Nat) (l : List Nat) : List Nat := l.flatMap (go1 sts c)
theorem go1_len (sts : List St) (c k : Nat) : (go1 sts c k).length ≤ 1 := by
 unfold go1; split
 ·split <;> simp
 ·simp
theorem goN_len (sts : List St) (c : Nat) : ∀ l : List Nat, (goN sts c l).length ≤ l.length
 | [] => Nat.le_refl _
 | k :: l => by
  have := goN_len sts c l
  have h1 := go1_len sts c k
  unfold goN at this ⊢
  rw [List.flatMap_cons, List.length_append, List.length_cons]; omega
theorem goN_take (sts : List St) (c : Nat) {l : List Nat} {j : Nat} (hj : j < l.length) : goN sts c (l.take (j + 1)) = goN sts c (l.take j) ++ go1 sts c l[j] := by
 unfold goN
 rw [List.take_succ_eq_append_getElem hj, List.flatMap_append]; simp
theorem goN_lt {sts : List St} (h : SWf sts) {c k : Nat} {l : List Nat} (hk : k ∈ goN sts c l) : k < sts.length := by
 obtain ⟨j, _, h1⟩ := List.mem_flatMap.1 hk
 unfold go1 at h1
 split at h1
 ·rename_i x hx
  split at h1
  ·rw [List.mem_singleton.1 h1]; exact (h x (List.mem_of_getElem? hx)).2
  ·cases h1
 ·cases h1
theorem freeC_at (l : List Nat) (j : Nat) (h : j < l.length) : (freeC l)[j]? = some (.int .i64 (l[j] : Nat)) := by
 unfold freeC; rw [List.getElem?_map, List.getElem?_eq_getElem h]; rfl
set_option maxHeartbeats 3200000 in
set_option maxRecDepth 100000 in
theorem step_is (w : World) (a : Nat) (s : ByteArray) (sts : List St) (st en : Nat) (l : List Nat) (v : Value) (c : Nat) (hc : c < 256) (hp : PatAt w a s sts st en) (hw : SWf sts) (hN : tot sts ≤ 100000) (hv : RdAt w v l.length 1 (freeC l)) (hl : ∀ j ∈ l, j < sts.length) (hll : l.length ≤ 1000000) :
  Calls Tryz.prog 87 #[.pointer (some ⟨a, 0, none⟩), v, .int .u8 c] w fun e w' => ∃ v' out, e = .returned v' ∧ w'.ownsRow w.heap.size 3 1 v' out.length (freeC out) ∧ Below w.heap.size w w' ∧ RisingN out ∧ ∀ k, k ∈ out ↔ Cl sts (goN sts c l) k := by
 have hNl : sts.length ≤ 100000 := Nat.le_trans (len_tot _) hN
 obtain ⟨sa, sn, sc, c1, _, _, _, halt, hst⟩ := hp.cells
 obtain ⟨i0, hi, hz0, hz1, hz2⟩ := info_parts info_intP
 have hreach : ∀ W v', Below w.heap.size w W → W.ownsRow w.heap.size 3 1 v' (goN sts c l).length (freeC (goN sts c l)) → Calls Tryz.prog 86 #[.pointer (some ⟨a, 0, none⟩), v'] W fun e w' => ∃ v' out, e = .returned v' ∧ w'.ownsRow W.heap.size 3 1 v' out.length (freeC out) ∧ Below W.heap.size W w' ∧ RisingN out ∧ ∀ k, k ∈ out ↔ Cl sts (goN sts c l) k :=
  fun W v' hb ho => reach_is W a s sts st en _ v' (hp.below hb) hw hN (RdAt.own ho) (fun j hj => goN_lt hw hj) (Nat.le_trans (goN_len sts c l) hll)
 obtain ⟨va, vc, rfl, hvc, hr⟩ := RdAt.shape hv
 have HW := Lib.hid hw
 have HST := Lib.hid hst
 have HR := Lib.hid hr
 have HL := Lib.hid hl
 have HRE := Lib.hid hreach
 clear hp hw hv hl hst hr hreach
 go_enter Tryz.func87, Tryz.ntmps87
 go_wp2
 go_loopw [7, 13] (fun vo vi wr => ∃ j : Nat, j ≤ l.length ∧ vi = .int .i64 j ∧ wr.ownsRow w.heap.size 3 1 vo (goN sts c (l.take j)).length (freeC (goN sts c (l.take j))) ∧ Below w.heap.size w wr) (fun _ vi _ => l.length - (intOf vi).toNat)
 case atStart => exact ⟨0, Nat.zero_le _, rfl, World.ownsRow_nil _ _ _ _, Below.refl _ _⟩
 case round =>
  obtain ⟨j, hj, rfl, hown, hb⟩ := hrel
  by_cases hjl : j < l.length
  ·obtain ⟨b, o, rfl, hblt, hcell⟩ := HR.out (by omega)
   have hkc := hcell j _ (freeC_at l j hjl)
   have hk := HL.out _ (List.getElem_mem hjl)
   obtain ⟨k, hke⟩ : ∃ k, l[j] = k := ⟨_, rfl⟩
   rw [hke] at hkc hk
   obtain ⟨r, cap, pv, fv, hsv, hrl, q0, q1, q2, hptr, hfr⟩ := HST.out k hk
   simp only [Value.slice.injEq] at hsv
   obtain ⟨hsa, hsn, hsc⟩ := hsv
   subst hsa hsn hsc
   obtain ⟨fa, fc, rfl, _⟩ := own_shape hfr
   have hcw : wr.cell? ⟨b, o + j, none⟩ = some (.int .i64 k) := keep_cell hkc hb hblt
   have d1 := keep_cell c1 hb halt
   have d2 := keep_cell q0 hb hrl
   have d3 := keep_cell q1 hb hrl
   have d4 := keep_cell q2 hb hrl
   have hE : Hid (goN sts c (l.take (j + 1)) = goN sts c (l.take j) ++ if goB sts[k] c = true then [sts[k].next] else []) := Lib.hid (by
    rw [goN_take sts c hjl, hke]
    unfold go1
    rw [List.getElem?_eq_getElem hk])
   have hn0 : (goN sts c (l.take j)).length ≤ 1000000 := Nat.le_trans (goN_len sts c _) (by simp; omega)
   obtain ⟨nx, hnx⟩ : ∃ nx, sts[k].next = nx := ⟨_, rfl⟩
   obtain ⟨fn, hfn⟩ : ∃ fn, sts[k].free.length = fn := ⟨_, rfl⟩
   rw [hnx] at d3 hE
   rw [hfn] at d4
   have hk0 : (0 : Int) ≤ (k : Int) := by omega
   have hk1 : (k : Int) < (sts.length : Int) := by omega
   clear hcell hkc q0 q1 q2 hke
   cases hset : sts[k].set with
   | none =>
    have hpv : pv = .pointer none := by unfold PtrAt at hptr; rw [hset] at hptr; exact hptr
    subst hpv
    have hg : goB sts[k] c = false := by unfold goB; rw [hset]
    clear hptr hset
    rw [hg] at hE
    go_wp2
    refine ⟨⟨j + 1, by omega, by go_num, ?_, ?_⟩, by simp [intOf]; omega⟩
    ·rw [hE.out]; simp only [Bool.false_eq_true, if_false, List.append_nil]; exact hown.alloc _
    ·exact hb.alloc hb.size _
   | some f =>
    obtain ⟨kk, rfl, hS, _⟩ : ∃ kk, pv = .pointer (some ⟨kk, 0, none⟩) ∧ SetAt w kk f ∧ True := by unfold PtrAt at hptr; rw [hset] at hptr; exact hptr
    have hg : goB sts[k] c = f c := by unfold goB; rw [hset]
    clear hptr hset
    rw [hg] at hE
    go_upto_region 6 with fail
    have x0 := heap_alloc_new wr (.cells #[.pointer (some ⟨kk, 0, none⟩), .int .i64 nx, .slice fa fn fc] 159)
    have b1 : Below w.heap.size w (wr.alloc (.cells #[.pointer (some ⟨kk, 0, none⟩), .int .i64 nx, .slice fa fn fc] 159)) := hb.alloc hb.size _
    have S1 : SetAt (wr.alloc (.cells #[.pointer (some ⟨kk, 0, none⟩), .int .i64 nx, .slice fa fn fc] 159)) kk f := hS.blk (b1.block kk hS.lt)
    have o1 := hown.alloc (.cells #[.pointer (some ⟨kk, 0, none⟩), .int .i64 nx, .slice fa fn fc] 159)
    have hsz : wr.heap.size < (wr.alloc (.cells #[.pointer (some ⟨kk, 0, none⟩), .int .i64 nx, .slice fa fn fc] 159)).heap.size := by rw [World.size_alloc]; omega
    have e0 : (wr.alloc (.cells #[.pointer (some ⟨kk, 0, none⟩), .int .i64 nx, .slice fa fn fc] 159)).cell? ⟨wr.heap.size, 0, none⟩ = some (.pointer (some ⟨kk, 0, none⟩)) := by rw [cell_of_row _ _ _ _ _ _ x0]; rfl
    have e1 : (wr.alloc (.cells #[.pointer (some ⟨kk, 0, none⟩), .int .i64 nx, .slice fa fn fc] 159)).cell? ⟨wr.heap.size, 1, none⟩ = some (.int .i64 nx) := by rw [cell_of_row _ _ _ _ _ _ x0]; rfl
    generalize wr.alloc (.cells #[.pointer (some ⟨kk, 0, none⟩), .int .i64 nx, .slice fa fn fc] 159) = W at *
    have hk := has_is W kk f c S1 hc
    have hnw : (W.alloc (.cells #[.int .i64 nx] 3)).heap[W.heap.size]? = some (.cells #[.int .i64 nx] 3 (0, 0)) := heap_alloc_new _ _
    have HNW := Lib.hid hnw
    have o2 := o1.alloc (.cells #[.int .i64 nx] 3)
    have b2 := b1.alloc b1.size (.cells #[.int .i64 nx] 3)
    have hb2 : w.heap.size ≤ (W.alloc (.cells #[.int .i64 nx] 3)).heap.size := b2.size
    have hsz2 : (W.alloc (.cells #[.int .i64 nx] 3)).heap.size = W.heap.size + 1 := World.size_alloc _ _
    have hone : ∀ u ∈ ([.int .i64 nx] : List Value), u.oneCell' = true := by
     intro u hu; simp at hu; subst hu; rfl
    clear hnw
    go_wp2_with fail
    refine hk.mono ?_
    rintro e w' ⟨rfl, hww⟩
    obtain rfl := hww.symm
    cases hfc : f c with
    | false =>
     rw [hfc] at hE
     clear hk
     go_wp2
     refine ⟨⟨j + 1, by omega, by go_num, ?_, b1⟩, by simp [intOf]; omega⟩
     rw [hE.out]; simp only [Bool.false_eq_true, if_false, List.append_nil]; exact o1
    | true =>
     rw [hfc] at hE
     clear hk
     go_wp2_with (at_builtin; (refine wpList_append_lies _ rfl (.tmp 33) (.tmp 36) 136 rfl w.heap.size 3 i0 (.int .i64 0) 1 8 Tryz.underlying136 hi hz0 hz1 hz2 rfl (by decide) _ _ _ rfl o2 ⟨W.heap.size, 0, none⟩ 1 1 [.int .i64 nx] rfl rfl (World.news_of_block HNW.out) hone (by decide) (by unfold maxLen; omega) (by omega) hb2 (W.heap.size + 1) hsz2 ?_); intro go cp w2 hown2 hgrow2 hat2 hlt2)
     refine ⟨⟨j + 1, by omega, by go_num, ?_, b2.grown hgrow2 hb2 (fun m e => (o2.lt m e).1)⟩, by simp [intOf]; omega⟩
     rw [hE.out]; simp only [if_true, List.length_append, freeC_app]; exact hown2
  ·obtain rfl : j = l.length := by omega
   rw [List.take_length] at hown
   have hk := HRE.out wr _ hb hown
   go_wp2_with fail
   refine hk.mono ?_
   rintro e w' ⟨v', out, rfl, h1, h2, h3, h4⟩
   go_wp2
   go_ret
   exact ⟨v', out, rfl, own_base h1 hb.size, hb.trans (h2.mono hb.size), h3, h4⟩
end Go.Proofs.YtgbapkechngnmaaGreat
/- pattern's Fits, of a pattern and of a text: contracts. -/
namespace Go.Proofs.YtgbapkechngnmaaGreat
open Go.RowKit
/-! plain: the states behind some bytes -/
inductive Rn (sts : List St) (st : Nat) : List Nat → Nat → Prop
 | start {k : Nat} : FR sts st k → Rn sts st [] k
 | byte {cs : List Nat} {c j k : Nat} {x : St} : Rn sts st cs j → sts[j]? = some x → goB x c = true → FR sts x.next k → Rn sts st (cs ++ [c]) k
theorem Rn_nil {sts : List St} {st k : Nat} : Rn sts st [] k ↔ Cl sts [st] k := by
 constructor
 ·intro h
  cases hcs : ([] : List Nat) with
  | nil => 
   generalize hg : ([] : List Nat) = l at h
   cases h with
   | start h => exact ⟨st, List.mem_singleton.2 rfl, h⟩
   | byte => simp at hg
  | cons => cases hcs
 ·rintro ⟨j, hj, hr⟩
  rw [List.mem_singleton.1 hj] at hr
  exact .start hr
theorem Rn_snoc {sts : List St} {st : Nat} {cs : List Nat} {c k : Nat} {out : List Nat} (ho : ∀ k, k ∈ out ↔ Rn sts st cs k) : Rn sts st (cs ++ [c]) k ↔ Cl sts (goN sts c out) k := by
 constructor
 ·intro h
  generalize hg : cs ++ [c] = l at h
  cases h with
  | start h => simp at hg
  | byte h1 h2 h3 h4 =>
   rename_i cs' c' j x
   obtain ⟨h5, h6⟩ := List.append_inj' hg rfl
   subst h5
   simp only [List.cons.injEq, and_true] at h6
   subst h6
   refine ⟨x.next, List.mem_flatMap.2 ⟨j, (ho j).2 h1, ?_⟩, h4⟩
   unfold go1; rw [h2]; simp [h3]
 ·rintro ⟨j, hj, hr⟩
  obtain ⟨q, hq, h1⟩ := List.mem_flatMap.1 hj
  unfold go1 at h1
  split at h1
  ·rename_i x hx
   split at h1
   ·rename_i hg
    rw [List.mem_singleton.1 h1] at hr
    exact .byte ((ho q).1 hq) hx hg hr
   ·cases h1
  ·cases h1
theorem Rn_lt {sts : List St} (h : SWf sts) {st : Nat} (hs : st < sts.length) {cs : List Nat} {k : Nat} (hr : Rn sts st cs k) : k < sts.length := by
 cases hr with
 | start h1 => exact FR_lt h h1 hs
 | byte _ h2 _ h4 => exact FR_lt h h4 (h _ (List.mem_of_getElem? h2)).2
theorem rising_len {n : Nat} {l : List Nat} (h : RisingN l) (hb : ∀ k ∈ l, k < n) : l.length ≤ n := nodup_lt (h.imp (fun h => Nat.ne_of_lt h)) hb
def bytesN (t : ByteArray) : List Nat := (B t).map (·.toNat)
theorem bytesN_len (t : ByteArray) : (bytesN t).length = t.size := by simp [bytesN]
theorem bytesN_lt {t : ByteArray} {c : Nat} (h : c ∈ bytesN t) : c < 256 := by
 obtain ⟨x, _, rfl⟩ := List.mem_map.1 h
 exact x.toNat_lt
theorem contains_row (w : World) (base : Nat) (l : List Nat) (v : Value) (x : Nat) (h : w.ownsRow base 3 1 v l.length (freeC l)) (hl : l.length ≤ 1000000) :
  Calls Tryz.prog 88 #[v, .int .i64 x] w fun e w' => ∃ b, e = .returned (.bool b) ∧ (b = true ↔ x ∈ l) ∧ w' = w := by
 rcases Nat.eq_zero_or_pos l.length with h0 | h0
 ·have hnil : l = [] := List.length_eq_zero_iff.1 h0
  subst hnil
  obtain ⟨a, c, rfl, _⟩ := own_shape h
  refine (Tryz.slices_Contains_int_empty a c x w).mono ?_
  rintro e w' ⟨rfl, rfl⟩
  exact ⟨_, rfl, by simp, rfl⟩
 ·obtain ⟨b, o, c, rfl, hcc, _, hcell⟩ := RdAt.some (RdAt.own h) h0
  have hil : (intsN l).length = l.length := by simp [intsN]
  refine (Tryz.slices_Contains_int b o l.length c (intsN l) x w (by omega) (by omega) (fun j hj => ?_)).mono ?_
  ·refine hcell j _ ?_
   rw [freeC_ints, List.getElem?_map, List.getD_eq_getElem?_getD, List.getElem?_eq_getElem hj]; rfl
  ·rintro e w' ⟨rfl, rfl⟩
   refine ⟨_, rfl, ?_, rfl⟩
   rw [← hil, List.take_length]
   simp only [List.contains_eq_mem, decide_eq_true_eq, intsN, List.mem_map]
   exact ⟨fun ⟨a, h1, h2⟩ => by rw [← Int.ofNat.inj h2]; exact h1, fun h => ⟨x, h, rfl⟩⟩
set_option maxHeartbeats 3200000 in
set_option maxRecDepth 100000 in
theorem pfits_is (w : World) (a : Nat) (s : ByteArray) (sts : List St) (st en : Nat) (t : ByteArray) (hp : PatAt w a s sts st en) (hw : SWf sts) (hN : tot sts ≤ 100000) (hs : st < sts.length) (ht : t.size ≤ maxLen) :
  Calls Tryz.prog 67 #[.pointer (some ⟨a, 0, none⟩), .string t] w fun e w' => ∃ b, e = .returned (.bool b) ∧ (b = true ↔ Rn sts st (bytesN t) en) ∧ Below w.heap.size w w' := by
 have hNl : sts.length ≤ 100000 := Nat.le_trans (len_tot _) hN
 unfold maxLen at ht
 obtain ⟨sa, sn, sc, c1, _, c2, c3, halt, _⟩ := hp.cells
 have hr1 : ∀ W (v : Value) (l : List Nat), Below w.heap.size w W → RdAt W v l.length 1 (freeC l) → (∀ j ∈ l, j < sts.length) → l.length ≤ 1000000 → Calls Tryz.prog 86 #[.pointer (some ⟨a, 0, none⟩), v] W fun e w' => ∃ v' out, e = .returned v' ∧ w'.ownsRow W.heap.size 3 1 v' out.length (freeC out) ∧ Below W.heap.size W w' ∧ RisingN out ∧ ∀ k, k ∈ out ↔ Cl sts l k :=
  fun W v l hb hv hl hll => reach_is W a s sts st en l v (hp.below hb) hw hN hv hl hll
 have hr2 : ∀ W (v : Value) (l : List Nat) (c : Nat), c < 256 → Below w.heap.size w W → RdAt W v l.length 1 (freeC l) → (∀ j ∈ l, j < sts.length) → l.length ≤ 1000000 → Calls Tryz.prog 87 #[.pointer (some ⟨a, 0, none⟩), v, .int .u8 c] W fun e w' => ∃ v' out, e = .returned v' ∧ w'.ownsRow W.heap.size 3 1 v' out.length (freeC out) ∧ Below W.heap.size W w' ∧ RisingN out ∧ ∀ k, k ∈ out ↔ Cl sts (goN sts c l) k :=
  fun W v l c hc hb hv hl hll => step_is W a s sts st en l v c hc (hp.below hb) hw hN hv hl hll
 have H1 := Lib.hid hr1
 have H2 := Lib.hid hr2
 have HW := Lib.hid hw
 have hba := alloc_below w (.cells #[.int .i64 st] 3)
 have x0 := heap_alloc_new w (.cells #[.int .i64 st] 3)
 have hv0 : RdAt (w.alloc (.cells #[.int .i64 st] 3)) (.slice (some ⟨w.heap.size, 0, none⟩) 1 1) [st].length 1 (freeC [st]) :=
  RdAt.mk (by simp [freeC]) (Nat.le_refl _) (by rw [World.size_alloc]; omega) (fun j x hj => by
   obtain ⟨h1, h2⟩ := List.getElem?_eq_some_iff.1 hj
   have h0 : j = 0 := by simp [freeC] at h1; omega
   subst h0
   rw [cell_of_row _ _ _ _ _ _ x0]
   simp [freeC] at h2
   simp [h2])
 have hk1 := hr1 _ _ [st] hba hv0 (fun j hj => by rw [List.mem_singleton.1 hj]; exact hs) (by simp)
 have HK1 := Lib.hid hk1
 have hcv := fun W => Lib.run_convert_string_bytes (P := Tryz.prog) W 9 43 5 t Tryz.underlying9 Tryz.underlying43 Tryz.underlying5
 clear hp hw hr1 hr2 hv0 x0 hk1
 go_enter Tryz.func67, Tryz.ntmps67
 go_wp2_with fail
 refine HK1.out.mono ?_
 rintro e w1 ⟨v1, out1, rfl, ho1, hb1, hri1, hm1⟩
 rw [World.size_alloc] at ho1
 have hB1 : Below w.heap.size w w1 := hba.trans (hb1.mono (by rw [World.size_alloc]; omega))
 have hO1 := own_base ho1 (show w.heap.size ≤ w.heap.size + 1 by omega)
 have hcell : ∀ j (h : j < t.size), (Lib.bytesWorld w1 5 t).cell? ⟨w1.heap.size, j, none⟩ = some (.int .u8 ((bytesN t)[j]'(by rw [bytesN_len]; exact h) : Nat)) := by
  intro j h
  rw [Lib.bytesWorld_cell w1 5 t j h]
  simp only [List.getD, List.getElem?_eq_getElem (l := t.data.toList) (i := j) (by simpa using h)]
  simp [bytesN, B]
 have HC := Lib.hid hcell
 have hbw : Below w1.heap.size w1 (Lib.bytesWorld w1 5 t) := ⟨rfl, rfl, rfl, by rw [Lib.bytesWorld_size]; omega, fun k hk => Lib.bytesWorld_at_old w1 5 t k hk⟩
 have hB2 : Below w.heap.size w (Lib.bytesWorld w1 5 t) := hB1.trans (hbw.mono hB1.size)
 have hO2 := ownsRow_below hO1 hbw
 have hws : w1.heap.size < (Lib.bytesWorld w1 5 t).heap.size := by rw [Lib.bytesWorld_size]; omega
 have HM1 : Hid (∀ k, k ∈ out1 ↔ Rn sts st [] k) := Lib.hid (fun k => by rw [hm1 k, Rn_nil])
 have hcw := hcv w1
 clear hcell hcv hm1 ho1 HK1 hba hb1 hO1
 go_upto_region 5 with fail
 generalize Lib.bytesWorld w1 5 t = w2 at *
 generalize grownCap w1 t.size 0 5 = gc at *
 generalize hbe : w1.heap.size = be at *
 clear hcw hbw
 have HO2 := Lib.hid hO2
 have HR1 := Lib.hid hri1
 have HB2 := Lib.hid hB2
 clear hO2 hri1 hB2
 go_loopw [5, 20] (fun vl vi wr => ∃ (j : Nat) (out : List Nat), j ≤ t.size ∧ vi = .int .i64 j ∧ Hid (wr.ownsRow w.heap.size 3 1 vl out.length (freeC out)) ∧ Hid (RisingN out) ∧ Hid (Below w.heap.size w wr) ∧ Hid (∀ k, k ∈ out ↔ Rn sts st ((bytesN t).take j) k) ∧ (j < t.size → wr.cell? ⟨be, j, none⟩ = some (.int .u8 ((bytesN t).getD j 0 : Nat))) ∧ Hid (∀ j (h : j < t.size), wr.cell? ⟨be, j, none⟩ = some (.int .u8 ((bytesN t)[j]'(by rw [bytesN_len]; exact h) : Nat))) ∧ be < wr.heap.size) (fun _ vi _ => t.size - (intOf vi).toNat)
 case atStart => exact ⟨0, out1, Nat.zero_le _, rfl, HO2, HR1, HB2, HM1, fun h => by rw [HC.out 0 h, List.getD_eq_getElem?_getD, List.getElem?_eq_getElem (by rw [bytesN_len]; exact h)]; rfl, HC, hws⟩
 case round =>
  obtain ⟨j, out, hj, rfl, HO, HR, HB, HM, hcj, HCJ, hbe2⟩ := hrel
  have hlt : ∀ k ∈ out, k < sts.length := fun k hk => Rn_lt HW.out hs ((HM.out k).1 hk)
  have hle : out.length ≤ 1000000 := Nat.le_trans (rising_len HR.out hlt) (by omega)
  by_cases hjt : j < t.size
  ·replace hcj := hcj hjt
   obtain ⟨c, hce⟩ : ∃ c, (bytesN t).getD j 0 = c := ⟨_, rfl⟩
   have hjl : j < (bytesN t).length := by rw [bytesN_len]; exact hjt
   have hc : c < 256 := by
    rw [← hce, List.getD_eq_getElem?_getD, List.getElem?_eq_getElem hjl]
    exact bytesN_lt (List.getElem_mem hjl)
   have HT : Hid ((bytesN t).take (j + 1) = (bytesN t).take j ++ [c]) := Lib.hid (by
    rw [List.take_succ_eq_append_getElem hjl, ← hce, List.getD_eq_getElem?_getD, List.getElem?_eq_getElem hjl]; rfl)
   rw [hce] at hcj
   have hk := H2.out wr u5 out c hc HB.out (RdAt.own HO.out) hlt hle
   clear hlt
   go_wp2_with fail
   refine hk.mono ?_
   rintro e w3 ⟨v3, out3, rfl, h1, h2, h3, h4⟩
   have H4 : Hid (Below wr.heap.size wr w3) := Lib.hid h2
   have H5 : Hid (w3.ownsRow wr.heap.size 3 1 v3 out3.length (freeC out3)) := Lib.hid h1
   have H6 := Lib.hid h4
   have q1 : Hid (w3.ownsRow w.heap.size 3 1 v3 out3.length (freeC out3)) := Lib.hid (own_base H5.out HB.out.size)
   have q2 : Hid (RisingN out3) := Lib.hid h3
   have q3 : Hid (Below w.heap.size w w3) := Lib.hid (HB.out.trans (H4.out.mono HB.out.size))
   have q4 : Hid (∀ k, k ∈ out3 ↔ Rn sts st ((bytesN t).take (j + 1)) k) := Lib.hid (fun k => by rw [H6.out k, HT.out, Rn_snoc HM.out])
   have q6 : Hid (∀ j (h : j < t.size), w3.cell? ⟨be, j, none⟩ = some (.int .u8 ((bytesN t)[j]'(by rw [bytesN_len]; exact h) : Nat))) := Lib.hid (fun i hi => (H4.out.cell (p := ⟨be, i, none⟩) hbe2).trans (HCJ.out i hi))
   have q5 : Hid (j + 1 < t.size → w3.cell? ⟨be, j + 1, none⟩ = some (.int .u8 ((bytesN t).getD (j + 1) 0 : Nat))) := Lib.hid (fun h => by
    rw [q6.out (j + 1) h, List.getD_eq_getElem?_getD, List.getElem?_eq_getElem (by rw [bytesN_len]; exact h)]; rfl)
   have q7 : be < w3.heap.size := Nat.lt_of_lt_of_le hbe2 H4.out.size
   clear hk h1 h2 h4 h3 H4 H5 H6 HO HR HB HM HCJ hbe2 hcj HT
   go_wp2
   go_roundw
   case rel => exact ⟨j + 1, out3, by omega, by go_num, q1, q2, q3, q4, q5.out, q6, q7⟩
   case measure => (simp [intOf]; try omega)
  ·obtain rfl : j = t.size := by omega
   have hk := contains_row wr _ out u5 en HO.out hle
   have d3 := keep_cell c3 HB.out halt
   have hall : (bytesN t).take t.size = bytesN t := by rw [← bytesN_len, List.take_length]
   rw [hall] at HM
   clear hcj
   go_wp2_with fail
   refine hk.mono ?_
   rintro e w3 ⟨b, rfl, h1, hww⟩
   obtain rfl := hww.symm
   clear hk
   go_wp2
   go_ret
   exact ⟨b, rfl, h1.trans (HM.out en), HB.out⟩
theorem pfits_nil (w : World) (t : ByteArray) : Calls Tryz.prog 67 #[.pointer none, .string t] w fun e w' => e = .returned (.bool false) ∧ w' = w := by
 go_enter Tryz.func67, Tryz.ntmps67
 go_wp2
 go_ret
 exact ⟨rfl, rfl⟩
def FitsP (p t : ByteArray) : Prop := errM p = 0 ∧ Rn (endR p).sts (runR p).2.1 (bytesN t) (runR p).2.2
theorem runR_len (p : ByteArray) (h : p.size ≤ 100) : tot (endR p).sts ≤ 100000 := by
 have h1 := (runR_ok p).gd.tot
 have h2 := (runR_ok p).top
 rw [endR_sts]
 simp only [costM, bs0, tot, List.map_nil, List.sum_nil] at h1
 unfold tot
 omega
theorem errM_size {p : ByteArray} (h : errM p = 0) : p.size ≤ 100 := by
 unfold errM at h
 split at h
 ·cases h
 ·omega
theorem runR_swf (p : ByteArray) : SWf (endR p).sts := by
 rw [endR_sts]
 exact runM_wf p _ .either 0 bs0 (by omega) (by simp [bs0]) (fun h => by cases h) trivial (by simp [fuelM, bs0]) (fun x hx => by simp [bs0] at hx)
theorem runR_st (p : ByteArray) : (runR p).2.1 < (endR p).sts.length := by rw [endR_sts]; exact (runR_ok p).p1
set_option maxHeartbeats 1600000 in
theorem tfits_is (p t : ByteArray) (w : World) (ht : t.size ≤ maxLen) : Calls Tryz.prog 40 #[.string p, .string t] w fun e w' => ∃ b, e = .returned (.bool b) ∧ (b = true ↔ FitsP p t) ∧ Below w.heap.size w w' := by
 have hr := read_is p w
 have hf : ∀ W a, errM p = 0 → PatAt W a p (endR p).sts (runR p).2.1 (runR p).2.2 → Calls Tryz.prog 67 #[.pointer (some ⟨a, 0, none⟩), .string t] W fun e w' => ∃ b, e = .returned (.bool b) ∧ (b = true ↔ Rn (endR p).sts (runR p).2.1 (bytesN t) (runR p).2.2) ∧ Below W.heap.size W w' :=
  fun W a he h => pfits_is W a p _ _ _ t h (runR_swf p) (runR_len p (errM_size he)) (runR_st p) ht
 have HF := Lib.hid hf
 clear hf
 go_enter Tryz.func40, Tryz.ntmps40
 go_wp2_with fail
 refine hr.mono ?_
 rintro e w1 ⟨hb, ⟨hne, rfl⟩ | ⟨he, a, rfl, hp, _⟩⟩
 ·have hk := pfits_nil w1 t
  go_wp2_with fail
  refine hk.mono ?_
  rintro e w3 ⟨rfl, hww⟩
  obtain rfl := hww.symm
  clear hk
  go_wp2
  go_ret
  exact ⟨false, rfl, ⟨(fun h => by cases h), fun h => absurd h.1 hne⟩, hb⟩
 ·have hk := HF.out w1 a he hp
  go_wp2_with fail
  refine hk.mono ?_
  rintro e w3 ⟨b, rfl, h1, h2⟩
  clear hk
  go_wp2
  go_ret
  exact ⟨b, rfl, h1.trans ⟨fun h => ⟨he, h⟩, fun h => h.2⟩, hb.trans (h2.mono hb.size)⟩
end Go.Proofs.YtgbapkechngnmaaGreat
/- Several parts in one: Matchers: what lies in memory; match.Fine, Value, is, not: contracts. slices.IndexFunc and ContainsFunc at matchers and at fields, whatever the closure: contracts; match.Value. -/
namespace Go.Proofs.YtgbapkechngnmaaGreat
open Go.RowKit
structure Mt where
 nm : ByteArray
 op : Int
 val : ByteArray
instance : Inhabited Mt := ⟨⟨⟨#[]⟩, 0, ⟨#[]⟩⟩⟩
def mtC (m : Mt) : List Value := [.string m.nm, .int .i64 m.op, .string m.val]
abbrev mtV (m : Mt) : Value := .agg #[.string m.nm, .int .i64 m.op, .string m.val]
def mtCells : List Mt → List Value
 | [] => []
 | m :: l => .string m.nm :: .int .i64 m.op :: .string m.val :: mtCells l
theorem mtCells_len (l : List Mt) : (mtCells l).length = l.length * 3 := by
 induction l with
 | nil => rfl
 | cons s l ih => simp [mtCells, ih]; omega
theorem mtCells_append (a b : List Mt) : mtCells (a ++ b) = mtCells a ++ mtCells b := by
 induction a with
 | nil => rfl
 | cons s l ih => simp [mtCells, ih]
theorem mtCells_at (l : List Mt) (i : Nat) (h : i < l.length) : (mtCells l)[i * 3]? = some (.string l[i].nm) ∧ (mtCells l)[i * 3 + 1]? = some (.int .i64 l[i].op) ∧ (mtCells l)[i * 3 + 2]? = some (.string l[i].val) := by
 induction l generalizing i with
 | nil => cases h
 | cons s l ih =>
  cases i with
  | zero => simp [mtCells]
  | succ i =>
   obtain ⟨h1, h2, h3⟩ := ih i (by simpa using h)
   have e : (i + 1) * 3 = i * 3 + 3 := by omega
   rw [e]
   simp only [mtCells, List.getElem_cons_succ]
   refine ⟨?_, ?_, ?_⟩
   ·rw [show i * 3 + 3 = i * 3 + 1 + 1 + 1 by omega]; simpa using h1
   ·rw [show i * 3 + 3 + 1 = i * 3 + 1 + 1 + 1 + 1 by omega]; simpa using h2
   ·rw [show i * 3 + 3 + 2 = i * 3 + 2 + 1 + 1 + 1 by omega]; simpa using h3
def MtsAt (w : World) (v : Value) (l : List Mt) : Prop := RdAt w v l.length 3 (mtCells l)
theorem MtsAt.later {w w' : World} {v : Value} {l : List Mt} (h : MtsAt w v l) (hb : Below w.heap.size w w') : MtsAt w' v l := RdAt.later h hb
def MtFit (m : Mt) : Prop := m.nm.size ≤ maxLen ∧ m.val.size ≤ maxLen
def MtsFit (l : List Mt) : Prop := ∀ m ∈ l, MtFit m
def fineM (m : Mt) : Bool := nameL (B m.nm) && decide (0 ≤ m.op) && decide (m.op ≤ 3) && decide (m.val.size ≤ 200) && (decide (m.op < 2) || decide (errM m.val = 0))
theorem fineM_true {m : Mt} (h : fineM m = true) : nameL (B m.nm) = true ∧ 0 ≤ m.op ∧ m.op ≤ 3 ∧ m.val.size ≤ 200 ∧ (m.op < 2 ∨ errM m.val = 0) := by
 unfold fineM at h
 simp only [Bool.and_eq_true, Bool.or_eq_true, decide_eq_true_eq] at h
 obtain ⟨⟨⟨⟨h1, h2⟩, h3⟩, h4⟩, h5⟩ := h
 exact ⟨h1, h2, h3, h4, h5⟩
theorem box3m {w W : World} {a b c : Value} {t : TypeId} (hb : Below (w.alloc (.cells #[a, b, c] t)).heap.size (w.alloc (.cells #[a, b, c] t)) W) :
  (W.cell? ⟨w.heap.size, 0, none⟩ = some a ∧ W.cell? ⟨w.heap.size, 1, none⟩ = some b ∧ W.cell? ⟨w.heap.size, 2, none⟩ = some c) ∧ w.heap.size < W.heap.size ∧ Below w.heap.size w W := by
 obtain ⟨h, h2, h3⟩ := box_cells hb
 exact ⟨⟨h 0 _ rfl, h 1 _ rfl, h 2 _ rfl⟩, h2, h3⟩
set_option maxHeartbeats 1600000 in
set_option maxRecDepth 100000 in
theorem mfine_any (m : Mt) (w : World) (hf : MtFit m) : Calls Tryz.prog 23 #[.agg #[.string m.nm, .int .i64 m.op, .string m.val]] w fun e w' => e = .returned (.bool (fineM m)) ∧ Below w.heap.size w w' := by
 have kn := fun W => name_any m.nm W hf.1
 have kr := fun W => right_is m.val W
 have hz := hf.2
 have HF : Hid (fineM m = (nameL (B m.nm) && decide (0 ≤ m.op) && decide (m.op ≤ 3) && decide (m.val.size ≤ 200) && (decide (m.op < 2) || decide (errM m.val = 0)))) := Lib.hid rfl
 obtain ⟨nm, op, val⟩ := m
 dsimp only at *
 generalize fineM ⟨nm, op, val⟩ = R at *
 generalize nameL (B nm) = N at *
 have HR := Lib.hid kr
 unfold maxLen at hz
 clear hf kr
 have kn0 := kn (w.alloc (.cells #[.string nm, .int .i64 op, .string val] 29))
 clear kn
 go_enter Tryz.func23, Tryz.ntmps23
 go_wp2_with fail
 refine kn0.mono ?_
 rintro e w1 ⟨rfl, hb1⟩
 obtain ⟨⟨x0, x1, x2⟩, hlt, hB1⟩ := box3m hb1
 have HB := Lib.hid hB1
 clear kn0 hb1 hB1
 cases N with
 | false =>
  go_wp2
  go_ret
  exact ⟨by rw [HF.out]; rfl, HB.out⟩
 | true =>
  by_cases h0 : op < 0
  ·rw [show decide (0 ≤ op) = false from decide_eq_false (by omega)] at HF
   go_wp2
   go_ret
   exact ⟨by rw [HF.out]; rfl, HB.out⟩
  ·rw [show decide (0 ≤ op) = true from decide_eq_true (by omega)] at HF
   by_cases h3 : 3 < op
   ·rw [show decide (op ≤ 3) = false from decide_eq_false (by omega)] at HF
    go_wp2
    go_ret
    exact ⟨by rw [HF.out]; rfl, HB.out⟩
   ·rw [show decide (op ≤ 3) = true from decide_eq_true (by omega)] at HF
    by_cases hs : 200 < val.size
    ·rw [show decide (val.size ≤ 200) = false from decide_eq_false (by omega)] at HF
     go_wp2
     go_ret
     exact ⟨by rw [HF.out]; rfl, HB.out⟩
    ·rw [show decide (val.size ≤ 200) = true from decide_eq_true (by omega)] at HF
     by_cases h2 : op < 2
     ·rw [show decide (op < 2) = true from decide_eq_true h2] at HF
      go_wp2
      go_ret
      exact ⟨by rw [HF.out]; rfl, HB.out⟩
     ·rw [show decide (op < 2) = false from decide_eq_false h2] at HF
      have kr := HR.out w1
      have hde : Hid ((errM val == 0) = decide (errM val = 0)) := Lib.hid (by rw [Bool.eq_iff_iff]; simp)
      generalize errM val = E at *
      go_wp2_with fail
      refine kr.mono ?_
      rintro e w2 ⟨rfl, hb2⟩
      clear kr
      go_wp2
      go_ret
      exact ⟨by show Ending.returned (.bool (decide (op < 2) || E == 0)) = _; rw [HF.out, ← hde.out, decide_eq_false (show ¬ op < 2 by omega)]; rfl, HB.out.trans (hb2.mono HB.out.size)⟩
theorem is_any (a b : ByteArray) (w : World) : Calls Tryz.prog 38 #[.string a, .string b] w fun e w' => e = .returned (.bool (b.toList == a.toList)) ∧ Below w.heap.size w w' := by
 go_enter Tryz.func38, Tryz.ntmps38
 go_wp2
 go_ret
 exact ⟨rfl, Below.refl _ _⟩
end Go.Proofs.YtgbapkechngnmaaGreat
namespace Go.Proofs.YtgbapkechngnmaaGreat
open Go.RowKit
theorem idx_findM {α : Type} (p : α → Bool) (x : α) : ∀ (l : List α) (i : Nat),
  (∃ k, ∃ h : k < l.length, Lib.idxByFrom (fun _ y => p y) x l i = ((i + k : Nat) : Int) ∧ l.find? p = some l[k] ∧ l.any p = true) ∨
  (Lib.idxByFrom (fun _ y => p y) x l i = -1 ∧ l.find? p = none ∧ l.any p = false)
 | [], i => .inr ⟨rfl, rfl, rfl⟩
 | y :: r, i => by
  by_cases h : p y = true
  ·exact .inl ⟨0, Nat.succ_pos _, by simp [Lib.idxByFrom, h], by simp [h], by simp [h]⟩
  ·have h' : p y = false := by simpa using h
   rcases idx_findM p x r (i + 1) with ⟨k, hk, h1, h2, h3⟩ | ⟨h1, h2, h3⟩
   ·refine .inl ⟨k + 1, by simpa using hk, ?_, by simp [h', h2], by simp [h', h3]⟩
    simp only [Lib.idxByFrom, h']
    rw [show (if false = true then (i : Int) else Lib.idxByFrom (fun _ y => p y) x r (i + 1)) = Lib.idxByFrom (fun _ y => p y) x r (i + 1) from rfl, h1]
    congr 1; omega
   ·refine .inr ⟨?_, by simp [h', h2], by simp [h', h3]⟩
    simp only [Lib.idxByFrom, h']
    rw [show (if false = true then (i : Int) else Lib.idxByFrom (fun _ y => p y) x r (i + 1)) = Lib.idxByFrom (fun _ y => p y) x r (i + 1) from rfl, h1]
abbrev MtF := { m : Mt // MtFit m }
instance : Inhabited MtF := ⟨⟨⟨⟨#[]⟩, 0, ⟨#[]⟩⟩, by unfold MtFit maxLen; decide⟩⟩
theorem mtF_list : ∀ l : List Mt, MtsFit l → ∃ l' : List MtF, l'.map Subtype.val = l
 | [], _ => ⟨[], rfl⟩
 | m :: l, h => by
  obtain ⟨l', h'⟩ := mtF_list l (fun x hx => h x (List.mem_cons_of_mem _ hx))
  exact ⟨⟨m, h m List.mem_cons_self⟩ :: l', by rw [List.map_cons, h']⟩
theorem mtC_at (l : List Mt) (j : Nat) (h : j < l.length) (i : Nat) (v : Value) (hi : (mtC l[j])[i]? = some v) : (mtCells l)[j * 3 + i]? = some v := by
 obtain ⟨h1, h2, h3⟩ := mtCells_at l j h
 match i, hi with
 | 0, hi => rw [Nat.add_zero, h1]; exact hi
 | 1, hi => rw [h2]; exact hi
 | 2, hi => rw [h3]; exact hi
 | i + 3, hi => simp [mtC] at hi
theorem idxm_empty (a : Option Addr) (c : Nat) (f : Value) (w : World) :
  Calls Tryz.prog 71 #[.slice a 0 c, f] w fun e w' => e = .returned (.int .i64 (-1)) ∧ w' = w := by
 go_enter Tryz.func71, Tryz.ntmps71
 go_wp2
 refine wp_loop_rounds 1 ?_
 rw [rounds_succ]
 go_wp2
 go_ret
 exact ⟨rfl, rfl⟩
theorem idxm_gen (l : List Mt) (hfit : MtsFit l) (p : Mt → Bool) (g : Nat) (lb : Array Value) (eg : ∀ args w, (callFunc g args).run Tryz.prog w = .ok (.enter g args) w) (v : Value) (w : World) (hv : MtsAt w v l) (hl : l.length ≤ 1000000000000)
  (hp : ∀ W m, MtFit m → Below w.heap.size w W → Calls Tryz.prog g (#[mtV m] ++ lb) W fun e w' => e = .returned (.bool (p m)) ∧ Below W.heap.size W w') :
  Calls Tryz.prog 71 #[v, .func (.func g) #[] lb] w fun e w' => ∃ i : Int, e = .returned (.int .i64 i) ∧ decide (0 ≤ i) = l.any p ∧ Below w.heap.size w w' := by
 obtain ⟨a, c, rfl, hc, hr⟩ := RdAt.shape hv
 rcases Nat.eq_zero_or_pos l.length with h0 | h0
 ·have hnil : l = [] := List.length_eq_zero_iff.1 h0
  subst hnil
  refine (idxm_empty _ _ _ _).mono ?_
  rintro e w' ⟨rfl, rfl⟩
  exact ⟨_, rfl, rfl, Below.refl _ _⟩
 ·obtain ⟨gb, o, rfl, hg, hcell⟩ := hr h0
  obtain ⟨l', hl'⟩ : ∃ l' : List MtF, l'.map Subtype.val = l := mtF_list l hfit
  have hlen : l'.length = l.length := by rw [← hl', List.length_map]
  have hpb : PredBelow Tryz.prog g lb (fun x : MtF => .agg (mtC x.1).toArray) (fun x => p x.1) w := fun W x hW => by
   refine Calls.mono (hp W x.1 x.2 hW) ?_
   rintro e w' ⟨rfl, hb⟩
   exact ⟨rfl, hW.trans (hb.mono hW.size)⟩
  have h := AnyQ.slices_IndexFunc (α := MtF) Tryz.laysIdxM 3 Tryz.isAgg29 Tryz.sizeOf29 (fun x => mtC x.1) (fun _ => rfl) (fun x => p x.1) g lb eg gb o l.length c l' w hpb (by omega) (by omega) hg (fun j hj i x hx => by
    have hj' : j < l'.length := by omega
    have he : l[j]'(by omega) = (l'[j]'hj').1 := by
     have : (l'.map Subtype.val)[j]'(by rw [List.length_map]; exact hj') = (l'[j]'hj').1 := List.getElem_map ..
     rw [← this]; congr 1; exact hl'.symm
    have := hcell (j * 3 + i) x (mtC_at l j (by omega) i x (by rw [he]; rw [List.getElem!_eq_getElem?_getD, List.getElem?_eq_getElem hj'] at hx; exact hx))
    rw [show o + j * 3 + i = o + (j * 3 + i) by omega]
    exact this)
  rw [← hlen, List.take_length] at h
  rw [hlen] at h
  refine h.mono ?_
  rintro e w' ⟨rfl, hb⟩
  refine ⟨_, rfl, ?_, hb⟩
  have ha : l.any p = l'.any (fun x => p x.1) := by rw [← hl', List.any_map]; rfl
  rw [ha]
  unfold Lib.idxBy
  rcases idx_findM (fun x : MtF => p x.1) default l' 0 with ⟨k, _, h1, _, h3⟩ | ⟨h1, _, h3⟩
  ·rw [h1, h3]; simp
  ·rw [h1, h3]; decide
set_option maxHeartbeats 800000 in
theorem hasm_gen (l : List Mt) (hfit : MtsFit l) (p : Mt → Bool) (g : Nat) (lb : Array Value) (eg : ∀ args w, (callFunc g args).run Tryz.prog w = .ok (.enter g args) w) (v : Value) (w : World) (hv : MtsAt w v l) (hl : l.length ≤ 1000000000000)
  (hp : ∀ W m, MtFit m → Below w.heap.size w W → Calls Tryz.prog g (#[mtV m] ++ lb) W fun e w' => e = .returned (.bool (p m)) ∧ Below W.heap.size W w') :
  Calls Tryz.prog 45 #[v, .func (.func g) #[] lb] w fun e w' => e = .returned (.bool (l.any p)) ∧ Below w.heap.size w w' := by
 have hk := idxm_gen l hfit p g lb eg v w hv hl hp
 generalize l.any p = R at *
 obtain ⟨a, c, rfl, hc, hr⟩ := RdAt.shape hv
 clear hfit eg hv hp hr
 go_enter Tryz.func45, Tryz.ntmps45
 go_wp2_with fail
 refine hk.mono ?_
 rintro e w1 ⟨i, rfl, hi, hb1⟩
 have HI := Lib.hid hi
 clear hk hi
 go_wp2
 go_ret
 exact ⟨by rw [← HI.out]; rfl, hb1⟩
/-! fields -/
theorem fldC_at' (l : List Fld) (j : Nat) (h : j < l.length) (i : Nat) (v : Value) (hi : ([Value.string l[j].1, Value.string l[j].2])[i]? = some v) : (fldCells l)[j * 2 + i]? = some v := by
 obtain ⟨h1, h2⟩ := fldCells_at l j h
 match i, hi with
 | 0, hi => rw [Nat.add_zero, h1]; exact hi
 | 1, hi => rw [h2]; exact hi
 | i + 2, hi => simp at hi
theorem idxf_empty (a : Option Addr) (c : Nat) (f : Value) (w : World) :
  Calls Tryz.prog 43 #[.slice a 0 c, f] w fun e w' => e = .returned (.int .i64 (-1)) ∧ w' = w := by
 go_enter Tryz.func43, Tryz.ntmps43
 go_wp2
 refine wp_loop_rounds 1 ?_
 rw [rounds_succ]
 go_wp2
 go_ret
 exact ⟨rfl, rfl⟩
theorem idxf_gen (l : List Fld) (p : Fld → Bool) (g : Nat) (lb : Array Value) (eg : ∀ args w, (callFunc g args).run Tryz.prog w = .ok (.enter g args) w) (v : Value) (w : World) (hv : FldsAt w v l) (hl : l.length ≤ 1000000000000)
  (hp : ∀ W (x : Fld), Below w.heap.size w W → Calls Tryz.prog g (#[.agg #[.string x.1, .string x.2]] ++ lb) W fun e w' => e = .returned (.bool (p x)) ∧ Below W.heap.size W w') :
  Calls Tryz.prog 43 #[v, .func (.func g) #[] lb] w fun e w' =>
   e = .returned (.int .i64 (Lib.idxByFrom (fun _ (y : Fld) => p y) default l 0)) ∧ Below w.heap.size w w' := by
 obtain ⟨a, c, rfl, hc, hr⟩ := RdAt.shape hv
 rcases Nat.eq_zero_or_pos l.length with h0 | h0
 ·have hnil : l = [] := List.length_eq_zero_iff.1 h0
  subst hnil
  refine (idxf_empty _ _ _ _).mono ?_
  rintro e w' ⟨rfl, rfl⟩
  exact ⟨rfl, Below.refl _ _⟩
 ·obtain ⟨gb, o, rfl, hg, hcell⟩ := hr h0
  have hpb : PredBelow Tryz.prog g lb (fun x : Fld => .agg [Value.string x.1, Value.string x.2].toArray) p w := fun W x hW => by
   refine Calls.mono (hp W x hW) ?_
   rintro e w' ⟨rfl, hb⟩
   exact ⟨rfl, hW.trans (hb.mono hW.size)⟩
  have h := AnyQ.slices_IndexFunc (α := Fld) Tryz.laysIdxF 2 Tryz.isAgg46 Tryz.sizeOf46 (fun x => [Value.string x.1, Value.string x.2]) (fun _ => rfl) p g lb eg gb o l.length c l w hpb (Nat.le_refl _) (by omega) hg (fun j hj i x hx => by
    have := hcell (j * 2 + i) x (fldC_at' l j hj i x (by rw [List.getElem!_eq_getElem?_getD, List.getElem?_eq_getElem hj] at hx; exact hx))
    rw [show o + j * 2 + i = o + (j * 2 + i) by omega]
    exact this)
  rw [List.take_length] at h
  exact h
theorem valclos (x : Fld) (b : Nat) (n : ByteArray) (w : World) (hn : w.cell? ⟨b, 0, none⟩ = some (.string n)) (hlt : b < w.heap.size) :
  Calls Tryz.prog 44 #[.agg #[.string x.1, .string x.2], .pointer (some ⟨b, 0, none⟩)] w fun e w' => e = .returned (.bool (x.1.toList == n.toList)) ∧ Below w.heap.size w w' := by
 have h1 := keep_cell hn (alloc_below w (.cells #[.string x.1, .string x.2] 46)) hlt
 go_enter Tryz.func44, Tryz.ntmps44
 go_wp2
 go_ret
 exact ⟨rfl, alloc_below _ _⟩
def valueF (l : List Fld) (name : ByteArray) : ByteArray := match l.find? fun f => f.1.toList == name.toList with
 | some f => f.2
 | none => ⟨#[]⟩
set_option maxHeartbeats 1600000 in
set_option maxRecDepth 100000 in
theorem value_any (l : List Fld) (n : ByteArray) (w : World) (v : Value) (hv : FldsAt w v l) (hl : l.length ≤ 1000000000000) :
  Calls Tryz.prog 16 #[v, .string n] w fun e w' => e = .returned (.string (valueF l n)) ∧ Below w.heap.size w w' := by
 have hb0 := alloc_below w (.cells #[.string n] 9)
 have hv0 := FldsAt.later hv hb0
 have hlt0 : w.heap.size < (w.alloc (.cells #[.string n] 9)).heap.size := by rw [World.size_alloc]; omega
 have hn0 : (w.alloc (.cells #[.string n] 9)).cell? ⟨w.heap.size, 0, none⟩ = some (.string n) := by rw [cell_of_row _ _ _ _ _ _ (heap_alloc_new w _)]; rfl
 have kc := idxf_gen l (fun f => f.1.toList == n.toList) 44 #[.pointer (some ⟨w.heap.size, 0, none⟩)] (enters_of Tryz.func44 (by kernel_rfl) rfl) v _ hv0 hl
  (fun W x hW => valclos x w.heap.size n W (keep_cell hn0 hW hlt0) (Nat.lt_of_lt_of_le hlt0 hW.size))
 have HV := Lib.hid hv0
 obtain ⟨a, c, rfl, hc, hr⟩ := RdAt.shape hv
 clear hr hv hv0
 go_enter Tryz.func16, Tryz.ntmps16
 go_wp2_with fail
 refine kc.mono ?_
 rintro e w1 ⟨rfl, hb1⟩
 have B1 := Lib.hid (hb0.trans (hb1.mono (Nat.le_of_lt hlt0)))
 have HV1 := Lib.hid (HV.out.later hb1)
 clear kc hb0 hb1 hn0 hlt0 HV
 rcases idx_findM (fun f : Fld => f.1.toList == n.toList) default l 0 with ⟨k, hk, h1, h2, _⟩ | ⟨h1, h2, _⟩
 ·have HR : Hid (valueF l n = l[k].2) := Lib.hid (by unfold valueF; rw [h2])
  rw [h1, Nat.zero_add]
  obtain ⟨_, _, he, _, hr⟩ := RdAt.shape HV1.out
  obtain ⟨gb, o, hab, hg, hcell⟩ := hr (by omega)
  simp only [Value.slice.injEq] at he
  obtain ⟨rfl, _, rfl⟩ := he
  subst hab
  have hc2 := hcell (k * 2 + 1) _ (fldCells_at l k hk).2
  have hk0 : (0 : Int) ≤ (k : Int) := by omega
  have hk1 : (k : Int) < (l.length : Int) := by omega
  clear h1 h2 hr hcell
  rw [← Nat.add_assoc] at hc2
  go_wp2
  go_ret
  exact ⟨by rw [HR.out]; rfl, B1.out⟩
 ·have HR : Hid (valueF l n = ⟨#[]⟩) := Lib.hid (by unfold valueF; rw [h2])
  rw [h1]
  clear h1 h2
  go_wp2
  go_ret
  exact ⟨by rw [HR.out]; rfl, B1.out⟩
end Go.Proofs.YtgbapkechngnmaaGreat
/- A value with each " and \ behind a \, plainly: its length, piece by piece. -/
namespace Go.Proofs.YtgbapkechngnmaaGreat
open Go.RowKit
def escB : List UInt8 → List UInt8
 | [] => []
 | c :: l => if c = 34 ∨ c = 92 then 92 :: c :: escB l else c :: escB l
def oddE (c : UInt8) : Bool := c == 34 || c == 92
theorem oddE_iff {c : UInt8} : oddE c = true ↔ c = 34 ∨ c = 92 := by unfold oddE; simp
theorem escB_append (a b : List UInt8) : escB (a ++ b) = escB a ++ escB b := by
 induction a with
 | nil => rfl
 | cons c l ih =>
  simp only [List.cons_append, escB]
  split <;> simp [ih]
theorem escB_snoc (a : List UInt8) (c : UInt8) : escB (a ++ [c]) = escB a ++ (if oddE c then [92, c] else [c]) := by
 rw [escB_append]
 congr 1
 by_cases h : oddE c = true
 ·rw [if_pos h, escB, if_pos (oddE_iff.1 h)]; rfl
 ·rw [if_neg h, escB, if_neg (fun e => h (oddE_iff.2 e))]; rfl
theorem escB_len (l : List UInt8) : (escB l).length = l.length + l.count 92 + l.count 34 := by
 induction l with
 | nil => rfl
 | cons c l ih =>
  rw [escB, List.count_cons, List.count_cons]
  by_cases h1 : c = 34
  ·subst h1
   rw [if_pos (.inl rfl)]
   simp only [List.length_cons, ih]
   rw [show ((34 : UInt8) == 92) = false from rfl, show ((34 : UInt8) == 34) = true from rfl]
   simp; omega
  ·by_cases h2 : c = 92
   ·subst h2
    rw [if_pos (.inr rfl)]
    simp only [List.length_cons, ih]
    rw [show ((92 : UInt8) == 92) = true from rfl, show ((92 : UInt8) == 34) = false from rfl]
    simp; omega
   ·rw [if_neg (fun e => e.elim h1 h2)]
    simp only [List.length_cons, ih]
    rw [beq_eq_false_iff_ne.2 h1, beq_eq_false_iff_ne.2 h2]
    simp; omega
theorem escB_plain : ∀ {l : List UInt8}, l.any oddE = false → escB l = l
 | [], _ => rfl
 | c :: l, h => by
  rw [List.any_cons, Bool.or_eq_false_iff] at h
  rw [escB, if_neg (fun e => by rw [oddE_iff.2 e] at h; cases h.1), escB_plain h.2]
theorem any_count (l : List UInt8) : l.any oddE = (decide (0 < l.count 92) || decide (0 < l.count 34)) := by
 rw [Bool.eq_iff_iff, List.any_eq_true, Bool.or_eq_true, decide_eq_true_eq, decide_eq_true_eq, List.count_pos_iff, List.count_pos_iff]
 constructor
 ·rintro ⟨c, hc, h⟩
  rcases oddE_iff.1 h with rfl | rfl
  ·exact .inr hc
  ·exact .inl hc
 ·rintro (h | h)
  ·exact ⟨_, h, rfl⟩
  ·exact ⟨_, h, rfl⟩
theorem escB_take_len (l : List UInt8) (k : Nat) (h : k < l.length) : (escB (l.take (k + 1))).length = (escB (l.take k)).length + (if oddE l[k] then 2 else 1) := by
 rw [List.take_succ_eq_append_getElem h, escB_snoc, List.length_append]
 split <;> rfl
theorem escB_take_le (l : List UInt8) (k : Nat) : (escB (l.take k)).length ≤ (escB l).length := by
 conv => rhs; rw [← List.take_append_drop k l, escB_append]
 rw [List.length_append]; omega
theorem escB_bound (l : List UInt8) : (escB l).length ≤ 2 * l.length := by
 induction l with
 | nil => exact Nat.le_refl _
 | cons c l ih => rw [escB]; split <;> (simp only [List.length_cons]; omega)
end Go.Proofs.YtgbapkechngnmaaGreat
/- Matchers as text, plainly: what is written, what is read; there and back. -/
namespace Go.Proofs.YtgbapkechngnmaaGreat
open Go.RowKit
def wordB (op : Int) : List UInt8 := if op = 0 then [61] else if op = 1 then [33, 61] else if op = 2 then [61, 126] else [33, 126]
def oneB (m : Mt) : List UInt8 := B m.nm ++ (wordB m.op ++ 34 :: (escB (B m.val) ++ [34]))
def textB : List Mt → List UInt8
  | [] => []
  | m :: l => oneB m ++ (match l with | [] => [] | _ :: _ => 44 :: textB l)
theorem textB_one (m : Mt) : textB [m] = oneB m := by simp [textB]
theorem textB_more (m n : Mt) (l : List Mt) : textB (m :: n :: l) = oneB m ++ 44 :: textB (n :: l) := rfl
def mtsOk (l : List Mt) : Bool := decide (l.length ≤ 12) && l.all fineM
def valB : List UInt8 → Option (List UInt8 × List UInt8)
  | [] => none
  | c :: r =>
    if c = 34 then some ([], r)
    else if c = 92 then
      match r with
      | [] => none
      | d :: q => if d = 34 ∨ d = 92 then (valB q).map fun x => (d :: x.1, x.2) else none
    else (valB r).map fun x => (c :: x.1, x.2)
theorem valB_cons (c : UInt8) (r : List UInt8) : valB (c :: r) = if c = 34 then some ([], r)
    else if c = 92 then
      match r with
      | [] => none
      | d :: q => if d = 34 ∨ d = 92 then (valB q).map fun x => (d :: x.1, x.2) else none
    else (valB r).map fun x => (c :: x.1, x.2) := by rw [valB.eq_def]
theorem val_esc (v r : List UInt8) : valB (escB v ++ 34 :: r) = some (v, r) := by
  induction v with
  | nil => rw [escB, List.nil_append, valB_cons, if_pos rfl]
  | cons c l ih =>
    unfold escB
    by_cases h : c = 34 ∨ c = 92
    · rw [if_pos h]
      simp only [List.cons_append]
      rw [valB_cons, if_neg (by decide), if_pos rfl]
      show (if c = 34 ∨ c = 92 then (valB (escB l ++ 34 :: r)).map fun x => (c :: x.1, x.2) else none) = _
      rw [if_pos h, ih]
      rfl
    · rw [if_neg h]
      simp only [List.cons_append]
      rw [valB_cons, if_neg (fun e => h (.inl e)), if_neg (fun e => h (.inr e)), ih]
      rfl
theorem esc_val : ∀ (n : Nat) (s v r : List UInt8), s.length ≤ n → valB s = some (v, r) → s = escB v ++ 34 :: r
  | 0, s, v, r, hn, h => by
    have : s = [] := List.length_eq_zero_iff.1 (by omega)
    subst this
    simp [valB] at h
  | n + 1, [], v, r, hn, h => by simp [valB] at h
  | n + 1, c :: s, v, r, hn, h => by
    rw [valB_cons] at h
    split at h
    · rename_i e
      subst e
      simp only [Option.some.injEq, Prod.mk.injEq] at h
      obtain ⟨rfl, rfl⟩ := h
      rfl
    · rename_i e1
      split at h
      · rename_i e2
        subst e2
        split at h
        · cases h
        · rename_i d q
          split at h
          · rename_i e3
            cases hq : valB q with
            | none => rw [hq] at h; cases h
            | some x =>
              rw [hq] at h
              simp only [Option.map_some, Option.some.injEq, Prod.mk.injEq] at h
              obtain ⟨rfl, rfl⟩ := h
              have := esc_val n q x.1 x.2 (by simp at hn; omega) hq
              rw [escB, if_pos e3]
              simp only [List.cons_append]
              rw [← this]
          · cases h
      · rename_i e2
        cases hq : valB s with
        | none => rw [hq] at h; cases h
        | some x =>
          rw [hq] at h
          simp only [Option.map_some, Option.some.injEq, Prod.mk.injEq] at h
          obtain ⟨rfl, rfl⟩ := h
          have := esc_val n s x.1 x.2 (by simp at hn; omega) hq
          rw [escB, if_neg (fun e => e.elim e1 e2)]
          simp only [List.cons_append]
          rw [← this]
def signB (c : UInt8) : Bool := c == 61 || c == 33
def opB (t : List UInt8) : Option (Int × List UInt8) :=
  match t with
  | 61 :: 34 :: r => some (0, r)
  | 33 :: 61 :: 34 :: r => some (1, r)
  | 61 :: 126 :: 34 :: r => some (2, r)
  | 33 :: 126 :: 34 :: r => some (3, r)
  | _ => none
theorem op_word {o : Int} (h0 : 0 ≤ o) (h3 : o ≤ 3) (r : List UInt8) : opB (wordB o ++ 34 :: r) = some (o, r) := by
  rcases (show o = 0 ∨ o = 1 ∨ o = 2 ∨ o = 3 by omega) with rfl | rfl | rfl | rfl <;> rfl
theorem word_op {t : List UInt8} {o : Int} {r : List UInt8} (h : opB t = some (o, r)) : t = wordB o ++ 34 :: r ∧ 0 ≤ o ∧ o ≤ 3 := by
  unfold opB at h
  split at h
  all_goals first
    | (cases h; done)
    | (simp only [Option.some.injEq, Prod.mk.injEq] at h
       obtain ⟨rfl, rfl⟩ := h
       exact ⟨rfl, by decide, by decide⟩)
def oneR (s : List UInt8) : Option (Mt × List UInt8) :=
  match opB (s.dropWhile fun c => !signB c) with
  | none => none
  | some (o, t) => match valB t with
    | none => none
    | some (v, r) => if fineM ⟨⟨(s.takeWhile fun c => !signB c).toArray⟩, o, ⟨v.toArray⟩⟩ then some (⟨⟨(s.takeWhile fun c => !signB c).toArray⟩, o, ⟨v.toArray⟩⟩, r) else none
def rdB : Nat → List UInt8 → Option (List Mt)
  | k, s => if s = [] then some [] else match k with
    | 0 => none
    | k + 1 => match oneR s with
      | none => none
      | some (m, r) => match r with
        | [] => some [m]
        | c :: q => if c = 44 ∧ q ≠ [] then (rdB k q).map (m :: ·) else none
theorem rdB_eq (k : Nat) (s : List UInt8) : rdB k s = if s = [] then some [] else match k with
    | 0 => none
    | k + 1 => match oneR s with
      | none => none
      | some (m, r) => match r with
        | [] => some [m]
        | c :: q => if c = 44 ∧ q ≠ [] then (rdB k q).map (m :: ·) else none := by rw [rdB.eq_def]
theorem B_mk (l : List UInt8) : B ⟨l.toArray⟩ = l := by simp [B]
theorem mk_B (s : ByteArray) : (⟨(B s).toArray⟩ : ByteArray) = s := by
  cases s
  simp [B]
theorem name_sign {l : List UInt8} (h : nameL l = true) : ∀ c ∈ l, (!signB c) = true := by
  intro c hc
  unfold nameL at h
  simp only [Bool.and_eq_true, Bool.not_eq_true', List.any_eq_false] at h
  have ho := h.2 c hc
  unfold signB
  rw [Bool.not_eq_true', Bool.or_eq_false_iff]
  constructor
  · rw [beq_eq_false_iff_ne]
    rintro rfl
    exact absurd (by decide : oddN (61 : UInt8).toNat = true) (by simpa using ho)
  · rw [beq_eq_false_iff_ne]
    rintro rfl
    exact absurd (by decide : oddN (33 : UInt8).toNat = true) (by simpa using ho)
theorem word_sign {o : Int} : ∃ c t, wordB o = c :: t ∧ (!signB c) = false := by
  unfold wordB
  split
  · exact ⟨_, _, rfl, by decide⟩
  split
  · exact ⟨_, _, rfl, by decide⟩
  split
  · exact ⟨_, _, rfl, by decide⟩
  · exact ⟨_, _, rfl, by decide⟩
theorem take_sign {l t : List UInt8} {o : Int} (h : ∀ c ∈ l, (!signB c) = true) : (l ++ (wordB o ++ t)).takeWhile (fun c => !signB c) = l ∧ (l ++ (wordB o ++ t)).dropWhile (fun c => !signB c) = wordB o ++ t := by
  obtain ⟨c, u, he, hc⟩ := word_sign (o := o)
  constructor
  · rw [List.takeWhile_append_of_pos h, he, List.cons_append, List.takeWhile_cons, hc]
    simp
  · rw [List.dropWhile_append_of_pos h, he, List.cons_append, List.dropWhile_cons, hc]
    simp
theorem oneR_oneB {m : Mt} (h : fineM m = true) (r : List UInt8) : oneR (oneB m ++ r) = some (m, r) := by
  obtain ⟨h1, h2, h3, _, _⟩ := fineM_true h
  obtain ⟨e1, e2⟩ := take_sign (o := m.op) (t := 34 :: (escB (B m.val) ++ 34 :: r)) (name_sign h1)
  have e : oneB m ++ r = B m.nm ++ (wordB m.op ++ 34 :: (escB (B m.val) ++ 34 :: r)) := by
    unfold oneB
    simp
  rw [e]
  unfold oneR
  rw [e2, op_word h2 h3]
  simp only []
  rw [val_esc]
  simp only []
  rw [e1, mk_B, mk_B]
  rw [if_pos h]
theorem oneB_oneR {s r : List UInt8} {m : Mt} (h : oneR s = some (m, r)) : s = oneB m ++ r ∧ fineM m = true := by
  unfold oneR at h
  split at h
  · cases h
  · rename_i o t ho
    split at h
    · cases h
    · rename_i v q hv
      split at h
      · rename_i hf
        simp only [Option.some.injEq, Prod.mk.injEq] at h
        obtain ⟨rfl, rfl⟩ := h
        refine ⟨?_, hf⟩
        obtain ⟨e1, _, _⟩ := word_op ho
        have e2 := esc_val _ _ _ _ (Nat.le_refl _) hv
        have e3 := List.takeWhile_append_dropWhile (p := fun c => !signB c) (l := s)
        unfold oneB
        rw [B_mk, B_mk]
        conv => lhs; rw [← e3, e1, e2]
        simp
      · cases h
theorem oneB_ne {m : Mt} : oneB m ≠ [] := by
  unfold oneB
  simp
theorem rd_text : ∀ (l : List Mt) (k : Nat), l.length ≤ k → l.all fineM = true → rdB k (textB l) = some l
  | [], k, _, _ => by rw [textB, rdB_eq, if_pos rfl]
  | m :: l, 0, h, _ => by simp at h
  | [m], k + 1, _, ha => by
    rw [textB_one, rdB_eq, if_neg oneB_ne]
    have := oneR_oneB (m := m) (by simpa using ha) []
    rw [List.append_nil] at this
    simp only [this]
  | m :: n :: l, k + 1, h, ha => by
    rw [textB_more, rdB_eq, if_neg (by simp)]
    rw [List.all_cons, Bool.and_eq_true] at ha
    simp only [oneR_oneB ha.1]
    have hne : textB (n :: l) ≠ [] := by
      cases l with
      | nil => rw [textB_one]; exact oneB_ne
      | cons x l => rw [textB_more]; simp
    rw [if_pos (And.intro trivial hne), rd_text (n :: l) k (by simp at h ⊢; omega) ha.2]
    rfl
theorem text_rd : ∀ (k : Nat) (s : List UInt8) (l : List Mt), rdB k s = some l → textB l = s ∧ l.length ≤ k ∧ l.all fineM = true
  | 0, s, l, h => by
    rw [rdB_eq] at h
    split at h
    · rename_i e
      simp only [Option.some.injEq] at h
      subst h e
      exact ⟨rfl, Nat.le_refl _, rfl⟩
    · cases h
  | k + 1, s, l, h => by
    rw [rdB_eq] at h
    split at h
    · rename_i e
      simp only [Option.some.injEq] at h
      subst h e
      exact ⟨rfl, Nat.zero_le _, rfl⟩
    · dsimp only at h
      split at h
      · cases h
      · rename_i m r ho
        obtain ⟨e1, hf⟩ := oneB_oneR ho
        split at h
        · simp only [Option.some.injEq] at h
          subst h
          refine ⟨?_, by simp, by simp [hf]⟩
          rw [textB_one, e1, List.append_nil]
        · rename_i c q
          split at h
          · rename_i hc
            obtain ⟨rfl, hq⟩ := hc
            cases hr : rdB k q with
            | none => rw [hr] at h; cases h
            | some l' =>
              rw [hr] at h
              simp only [Option.map_some, Option.some.injEq] at h
              subst h
              obtain ⟨g1, g2, g3⟩ := text_rd k q l' hr
              refine ⟨?_, by simp; omega, by simp [hf]; simpa using g3⟩
              cases l' with
              | nil => rw [textB] at g1; exact absurd g1.symm hq
              | cons n l' => rw [textB_more, g1, e1]
          · cases h
theorem rd_iff (s : List UInt8) (l : List Mt) : rdB 12 s = some l ↔ mtsOk l = true ∧ textB l = s := by
  unfold mtsOk
  rw [Bool.and_eq_true, decide_eq_true_eq]
  constructor
  · intro h
    obtain ⟨h1, h2, h3⟩ := text_rd 12 s l h
    exact ⟨⟨h2, h3⟩, h1⟩
  · rintro ⟨⟨h1, h2⟩, rfl⟩
    exact rd_text l 12 h1 h2
end Go.Proofs.YtgbapkechngnmaaGreat
/- strings.Builder: WriteByte: a contract. -/
namespace Go.Proofs.YtgbapkechngnmaaGreat
open Go.RowKit
set_option maxHeartbeats 1000000 in
set_option maxRecDepth 100000 in
theorem copyCheck_is (B b : Nat) (bs : List Value) (w : World) (h : Lib.IsBuilder 114 5 B b bs w) :
  Calls Tryz.prog 95 #[.pointer (some ⟨b, 0, none⟩)] w fun e w' => e = .returned (.tuple #[]) ∧ Lib.BuilderAt 114 5 B b (.pointer (some ⟨b, 0, none⟩)) bs w' ∧ Below B w w' ∧ Lib.OthersKept 5 (some b) w w' := by
 obtain ⟨j, hj, hjs⟩ := Option.map_eq_some_iff.1 Tryz.Builder_Extra_169.sizeBuilder
 rcases h with h | h
 ·have h0 := h.cell0
  have hsh := h.shape
  have hfz := h.frozen0
  have hfin : ∀ w', w' = w.setCell ⟨b, 0, none⟩ (.pointer (some ⟨b, 0, none⟩)) → Lib.BuilderAt 114 5 B b (.pointer (some ⟨b, 0, none⟩)) bs w' ∧ Below B w w' ∧ Lib.OthersKept 5 (some b) w w' := by
   rintro w' rfl
   exact ⟨h.used _, (Below.refl B w).setCell (p := ⟨b, 0, none⟩) h.1 _, (Lib.OthersKept.refl _ _ _).setCell ⟨b, 0, none⟩ rfl _⟩
  have HF := Lib.hid hfin
  clear hfin h
  go_enter Tryz.func95, Tryz.ntmps95
  go_wp2
  rw [Lib.run_to_unsafe w ⟨b, 0, none⟩ Tryz.underlying112 Tryz.underlying177 hj (by rw [hjs]; decide) hsh (Nat.zero_lt_succ 1)]
  simp only [Result.andThen]
  rw [Oper.upon_value]
  go_wp2
  rw [run_callFunc_extern Tryz.func120 (by kernel_rfl) (by kernel_rfl) (by kernel_rfl) (e := Extern.AbiNoEscape.same) (by kernel_rfl)]
  rw [Lib.run_noEscape]
  simp only [Result.andThen]
  rw [Oper.upon_value]
  go_wp2
  rw [Lib.run_from_unsafe w ⟨b, 0, none⟩ Tryz.underlying177 Tryz.underlying112 hj hsh Tryz.Builder_Extra_169.liesBuilder]
  simp only [Result.andThen]
  rw [Oper.upon_value]
  go_wp2
  go_end0
  exact ⟨rfl, HF.out _ rfl⟩
 ·have h0 := h.cell0
  have H := Lib.hid h
  clear h
  go_enter Tryz.func95, Tryz.ntmps95
  go_wp2
  rw [Lib.run_neq_ptr_same w _ Tryz.underlying112 hj]
  go_wp2
  go_end0
  exact ⟨rfl, H.out, Below.refl B _, Lib.OthersKept.refl _ _ _⟩
theorem own_u8 {w : World} {base n : Nat} {v : Value} {xs : List Value} (h : w.ownsRow base 5 1 v n xs) {k : Nat} (e : v.ownBlock = some k) : ∃ c fz, w.heap[k]? = some (.cells c 5 fz) := by
 rcases h.2 with ⟨rfl, _⟩ | ⟨g, cap, cur, rfl, _, hg, _⟩
 ·simp [Value.ownBlock] at e
 ·simp only [Value.ownBlock, Option.some.injEq] at e
  subst e
  exact ⟨_, _, hg⟩
theorem info_u8 : (Tryz.prog.info? 5).map (fun i => (i.zero, i.size, i.bytes)) = some (some (.int .u8 0), 1, 1) := by kernel_rfl
set_option maxHeartbeats 2000000 in
set_option maxRecDepth 100000 in
theorem wbyte_is (B b : Nat) (bs : List Value) (c : Int) (w : World) (h : Lib.IsBuilder 114 5 B b bs w) (hlen : bs.length + 1 ≤ 1000000) :
  Calls Tryz.prog 101 #[.pointer (some ⟨b, 0, none⟩), .int .u8 c] w fun e w' => e = .returned .nilIface ∧ Lib.IsBuilder 114 5 B b (bs ++ [.int .u8 c]) w' ∧ Below B w w' ∧ Lib.OthersKept 5 (some b) w w' := by
 obtain ⟨i0, hi, hz0, hz1, hz2⟩ := info_parts info_u8
 have hcc := copyCheck_is B b bs w h
 clear h
 go_enter Tryz.func101, Tryz.ntmps101
 go_wp2_with fail
 refine hcc.mono ?_
 rintro e w1 ⟨rfl, h1, hb1, hk1⟩
 obtain ⟨hB, v, hbk, hown, hne⟩ := h1
 have hlt : b < w1.heap.size := (Array.getElem?_eq_some_iff.1 hbk).1
 have hBw1 : B ≤ w1.heap.size := by omega
 have c0 : w1.cell? ⟨b, 0, none⟩ = some (.pointer (some ⟨b, 0, none⟩)) := by rw [Lib.cell_of_heap hbk]; rfl
 have c1 : w1.cell? ⟨b, 1, none⟩ = some v := by rw [Lib.cell_of_heap hbk]; rfl
 have hown1 := hown.alloc (.cells #[.int .u8 c] 5)
 have hnb : (w1.alloc (.cells #[.int .u8 c] 5)).heap[w1.heap.size]? = some (.cells #[.int .u8 c] 5 (0, 0)) := heap_alloc_new _ _
 have HNB := Lib.hid hnb
 have hone : ∀ u ∈ ([.int .u8 c] : List Value), u.oneCell' = true := by
  intro u hu; simp at hu; subst hu; rfl
 have hsz1 : (w1.alloc (.cells #[.int .u8 c] 5)).heap.size = w1.heap.size + 1 := World.size_alloc _ _
 have hbase : B ≤ (w1.alloc (.cells #[.int .u8 c] 5)).heap.size := by omega
 have hb1a := hb1.alloc hBw1 (.cells #[.int .u8 c] 5)
 have hbka : (w1.alloc (.cells #[.int .u8 c] 5)).heap[b]? = some (.cells #[.pointer (some ⟨b, 0, none⟩), v] 114 (0, 0)) := by rw [Lib.alloc_old w1 _ b hlt]; exact hbk
 have HBK := Lib.hid hbka
 have HK1 := Lib.hid (hk1.alloc (.cells #[.int .u8 c] 5))
 have hub := fun k (e : v.ownBlock = some k) => own_u8 hown1 e
 have HUB := Lib.hid hub
 clear hk1 hub
 have HB1 := Lib.hid hb1a
 have hkeep : ∀ w2, (w1.alloc (.cells #[.int .u8 c] 5)).grownBy w2 v.ownBlock → w2.heap[b]? = some (.cells #[.pointer (some ⟨b, 0, none⟩), v] 114 (0, 0)) := fun w2 hg => by
  rw [hg.block b (by omega) (fun e => hne e.symm)]
  exact hbka
 have HK := Lib.hid hkeep
 clear hcc hnb hbk hbka hb1a hb1 hown hkeep HBK
 go_wp2_with (at_builtin; (refine wpList_append_lies _ rfl (.tmp 11) (.tmp 13) 43 rfl B 5 i0 (.int .u8 0) 1 1 Tryz.underlying43 hi hz0 hz1 hz2 rfl (by decide) _ bs.length bs rfl hown1 ⟨w1.heap.size, 0, none⟩ 1 1 [.int .u8 c] rfl rfl (World.news_of_block HNB.out) hone (by decide) (by unfold maxLen; omega) (by omega) hbase (w1.heap.size + 1) hsz1 ?_); intro g cap w2 hown' hgrow hat hlt2; have H2 := Lib.hid (HK.out w2 hgrow); have d0 : w2.cell? ⟨b, 0, none⟩ = some (.pointer (some ⟨b, 0, none⟩)) := (by rw [Lib.cell_of_heap H2.out]; rfl); have d1 : w2.cell? ⟨b, 1, none⟩ = some v := (by rw [Lib.cell_of_heap H2.out]; rfl); have f1 : w2.frozen? ⟨b, 1, none⟩ = false := Lib.frozen_of_heap H2.out 1; have HB2 := Lib.hid (HB1.out.grown hgrow hbase (fun k hk => (hown1.lt k hk).1)); have HO := Lib.hid hown'; have HK2 := Lib.hid (HK1.out.grown hgrow (fun k e => HUB.out k e)); clear hown' hgrow hat hown1)
 go_ret
 refine ⟨rfl, .inr ?_, HB2.out.setCell (p := ⟨b, 1, none⟩) hB _, HK2.out.setCell ⟨b, 1, none⟩ rfl _⟩
 exact Lib.BuilderAt.put (T := 114) (e := 5) hB H2.out (bs' := bs ++ [.int .u8 c]) (by simpa using HO.out) Tryz.Builder_Extra_169.neB5
end Go.Proofs.YtgbapkechngnmaaGreat
/- slices.Repeat of one number: a contract. -/
namespace Go.Proofs.YtgbapkechngnmaaGreat
open Go.RowKit
end Go.Proofs.YtgbapkechngnmaaGreat
/- How far states are from the end, said plainly. No program in sight. -/
namespace Go.Proofs.YtgbapkechngnmaaGreat
inductive Pn (sts : List St) (en : Nat) : Nat → Nat → Prop
 | done : Pn sts en en 0
 | free {k f m : Nat} : f ∈ frees sts k → Pn sts en f m → Pn sts en k m
 | byte {k c m : Nat} {x : St} : sts[k]? = some x → c < 256 → goB x c = true → Pn sts en x.next m → Pn sts en k (m + 1)
structure NJ (sts : List St) (en : Nat) (d : List Nat) : Prop where
 len : d.length = sts.length
 e0 : d.getD en 0 = 0
 ok : ∀ k, k < sts.length → d.getD k 0 ≤ 301 ∧ (d.getD k 0 = 301 ∨ Pn sts en k (d.getD k 0))
structure Best (sts : List St) (en : Nat) (d : List Nat) (k j b : Nat) (l : List Nat) : Prop where
 le : b ≤ d.getD k 0
 fr : ∀ f ∈ l.take j, b ≤ d.getD f 0
 pn : b = 301 ∨ Pn sts en k b
structure Full (sts : List St) (en : Nat) (d : List Nat) (k b : Nat) (x : St) : Prop where
 le : b ≤ d.getD k 0
 fr : ∀ f ∈ x.free, b ≤ d.getD f 0
 by1 : ∀ c, c < 256 → goB x c = true → b ≤ d.getD x.next 0 + 1
 pn : b = 301 ∨ Pn sts en k b
end Go.Proofs.YtgbapkechngnmaaGreat
/- two sets of bytes, compared. -/
namespace Go.Proofs.YtgbapkechngnmaaGreat
open Go.RowKit
end Go.Proofs.YtgbapkechngnmaaGreat
/- pattern's near: a contract. -/
namespace Go.Proofs.YtgbapkechngnmaaGreat
open Go.RowKit
def RowD (w : World) (base g cap : Nat) (d : List Nat) : Prop := w.ownsRow base 3 1 (.slice (some ⟨g, 0, none⟩) d.length cap) d.length (freeC d)
end Go.Proofs.YtgbapkechngnmaaGreat
/- slices.ContainsFunc of numbers, with Least's closure: contracts. -/
namespace Go.Proofs.YtgbapkechngnmaaGreat
open Go.RowKit
end Go.Proofs.YtgbapkechngnmaaGreat
/- The least text that fits, said plainly. No program in sight. -/
namespace Go.Proofs.YtgbapkechngnmaaGreat
inductive Pl (sts : List St) : Nat → List Nat → Nat → Prop
 | nil {k : Nat} : Pl sts k [] k
 | free {k f e : Nat} {cs : List Nat} : f ∈ frees sts k → Pl sts f cs e → Pl sts k cs e
 | byte {k c e : Nat} {cs : List Nat} {x : St} : sts[k]? = some x → c < 256 → goB x c = true → Pl sts x.next cs e → Pl sts k (c :: cs) e
theorem FR.trans {sts : List St} {a b c : Nat} (h : FR sts a b) (h' : FR sts b c) : FR sts a c := by
 induction h' with
 | refl => exact h
 | step _ h2 ih => exact .step ih h2
theorem FR.cons {sts : List St} {a b c : Nat} (h : b ∈ frees sts a) (h' : FR sts b c) : FR sts a c := FR.trans (.step (.refl a) h) h'
/-! the order of texts of one length -/
def LexLt (a b : List Nat) : Prop := ∃ p x y r s, a = p ++ x :: r ∧ b = p ++ y :: s ∧ x < y
def LexLe (a b : List Nat) : Prop := a = b ∨ LexLt a b
structure LI (sts : List St) (st en : Nat) (d ws : List Nat) (left : Nat) (out : List Nat) : Prop where
 mem : ∀ k, k ∈ out ↔ Rn sts st ws k
 ex : ∃ k ∈ out, d.getD k 0 = left
 ge : ∀ k ∈ out, left ≤ d.getD k 0
 mn : ∀ cs, (∀ c ∈ cs, c < 256) → Rn sts st cs en → ws.length + left ≤ cs.length ∧ (cs.length = ws.length + left → LexLe ws (cs.take ws.length))
end Go.Proofs.YtgbapkechngnmaaGreat
/- pattern's Least: a contract. -/
namespace Go.Proofs.YtgbapkechngnmaaGreat
open Go.RowKit
def chr (l : List Nat) : List Value := l.map fun (n : Nat) => Value.int .u8 (n : Int)
structure LsAt (w : World) (sts : List St) (st en : Nat) (d : List Nat) (g cap bd bl bb : Nat) (wr : World) (vl : Value) (ws out : List Nat) (left : Nat) : Prop where
 li : LI sts st en d ws left out
 le : ws.length + left ≤ 300
 by1 : ∀ c ∈ ws, c < 256
 cl : wr.heap[bl]? = some (.cells #[.int .i64 left] 3 (0, 0))
 cd : wr.heap[bd]? = some (.cells #[.slice (some ⟨g, 0, none⟩) d.length cap] 136 (0, 0))
 rd : RowD wr w.heap.size g cap d
 bu : Lib.IsBuilder 114 5 bb bb (chr ws) wr
 ro : wr.ownsRow (bb + 1) 3 1 vl out.length (freeC out)
 ri : RisingN out
 be : Below w.heap.size w wr
 od : w.heap.size ≤ g ∧ g < bd ∧ bd < bl ∧ bl < bb ∧ bb < wr.heap.size
theorem chr_bytes {ws : List Nat} (h : ∀ c ∈ ws, c < 256) : chr ws = Lib.byteCells (ws.map UInt8.ofNat) ∧ bytesN ⟨(ws.map UInt8.ofNat).toArray⟩ = ws := by
 have key : ∀ c, c < 256 → (UInt8.ofNat c).toNat = c := fun c hc => by simp; omega
 constructor
 ·unfold chr Lib.byteCells
  rw [List.map_map]
  exact List.map_congr_left (fun c hc => by simp only [Function.comp]; rw [key c (h c hc)])
 ·unfold bytesN
  show (List.map (fun x => x.toNat) (ws.map UInt8.ofNat)) = ws
  rw [List.map_map]
  conv => rhs; rw [← List.map_id ws]
  exact List.map_congr_left (fun c hc => key c (h c hc))
end Go.Proofs.YtgbapkechngnmaaGreat
/- match.value: a contract. -/
namespace Go.Proofs.YtgbapkechngnmaaGreat
open Go.RowKit
theorem B_extract (s : ByteArray) (k : Nat) : B (s.extract k s.size) = (B s).drop k := by
 show (s.extract k s.size).data.toList = _
 rw [ByteArray.data_extract, Array.toList_extract, List.extract_eq_take_drop]
 show ((B s).drop k).take (s.size - k) = _
 rw [List.take_of_length_le (by rw [List.length_drop, len_B]; exact Nat.le_refl _)]
theorem byteCells_snoc (l : List UInt8) (c : UInt8) : Lib.byteCells (l ++ [c]) = Lib.byteCells l ++ [.int .u8 (c.toNat : Int)] := by
 simp [Lib.byteCells]
def valAt (s : ByteArray) (i : Nat) (acc : List UInt8) : Prop := valB (B s) = (valB ((B s).drop i)).map fun x => (acc ++ x.1, x.2)
theorem valAt_zero (s : ByteArray) : valAt s 0 [] := by
 unfold valAt
 rw [List.drop_zero]
 cases valB (B s) <;> rfl
theorem drop_at (s : ByteArray) (i : Nat) (h : i < s.size) : (B s).drop i = s[i] :: (B s).drop (i + 1) := by
 rw [List.drop_eq_getElem_cons (by rw [len_B]; exact h)]; rfl
theorem valAt_end {s : ByteArray} {acc : List UInt8} (h : valAt s s.size acc) : valB (B s) = none := by
 unfold valAt at h
 rw [List.drop_of_length_le (by rw [len_B]; exact Nat.le_refl _)] at h
 exact h
theorem valAt_quote {s : ByteArray} {i : Nat} {acc : List UInt8} (h : valAt s i acc) (hi : i < s.size) (hc : s[i] = 34) : valB (B s) = some (acc, (B s).drop (i + 1)) := by
 unfold valAt at h
 rw [drop_at s i hi, valB_cons, if_pos hc] at h
 simpa using h
theorem valAt_plain {s : ByteArray} {i : Nat} {acc : List UInt8} (h : valAt s i acc) (hi : i < s.size) (h1 : s[i] ≠ 34) (h2 : s[i] ≠ 92) : valAt s (i + 1) (acc ++ [s[i]]) := by
 unfold valAt at *
 rw [drop_at s i hi, valB_cons, if_neg h1, if_neg h2] at h
 rw [h, Option.map_map]
 cases valB ((B s).drop (i + 1)) <;> simp
theorem valAt_last {s : ByteArray} {i : Nat} {acc : List UInt8} (h : valAt s i acc) (hi : i < s.size) (hc : s[i] = 92) (he : s.size ≤ i + 1) : valB (B s) = none := by
 unfold valAt at h
 rw [drop_at s i hi, valB_cons, if_neg (by rw [hc]; decide), if_pos hc, List.drop_of_length_le (by rw [len_B]; exact he)] at h
 exact h
theorem valAt_odd {s : ByteArray} {i : Nat} {acc : List UInt8} (h : valAt s i acc) (hi : i + 1 < s.size) (hc : s[i] = 92) (h1 : s[i + 1] ≠ 34) (h2 : s[i + 1] ≠ 92) : valB (B s) = none := by
 unfold valAt at h
 rw [drop_at s i (by omega), valB_cons, if_neg (by rw [hc]; decide), if_pos hc, drop_at s (i + 1) hi] at h
 simp only [] at h
 rw [if_neg (fun e => e.elim h1 h2)] at h
 exact h
theorem valAt_esc {s : ByteArray} {i : Nat} {acc : List UInt8} (h : valAt s i acc) (hi : i + 1 < s.size) (hc : s[i] = 92) (h1 : s[i + 1] = 34 ∨ s[i + 1] = 92) : valAt s (i + 2) (acc ++ [s[i + 1]]) := by
 unfold valAt at *
 rw [drop_at s i (by omega), valB_cons, if_neg (by rw [hc]; decide), if_pos hc, drop_at s (i + 1) hi] at h
 simp only [] at h
 rw [if_pos h1] at h
 rw [h, Option.map_map]
 cases valB ((B s).drop (i + 1 + 1)) <;> simp
theorem wrap_succ (i : Nat) (h : i ≤ 1000000) : IntKind.i64.wrap ((i : Int) + 1) = (i : Int) + 1 := by rw [IntKind.wrap_i64]; omega
def ValPost (s : ByteArray) (a b : ByteArray) (ok : Bool) : Prop := (ok = false ∧ valB (B s) = none ∧ a = ⟨#[]⟩ ∧ b = ⟨#[]⟩) ∨ (ok = true ∧ valB (B s) = some (B a, B b))
set_option maxHeartbeats 1600000 in
set_option maxRecDepth 100000 in
theorem mvalue_any (s : ByteArray) (w : World) (hs : s.size ≤ 900000) :
  Calls Tryz.prog 78 #[.string s] w fun e w' => ∃ a b ok, e = .returned (.tuple #[.string a, .string b, .bool ok]) ∧ ValPost s a b ok ∧ Below w.heap.size w w' := by
 have HN := Lib.hid (Lib.fresh_isBuilder 114 5 w)
 have HB0 := Lib.hid (alloc_below w (.cells #[.pointer none, .slice none 0 0] 114))
 have hsz := World.size_alloc w (.cells #[.pointer none, .slice none 0 0] 114)
 go_enter Tryz.func78, Tryz.ntmps78
 go_upto_region 2 with fail
 change Code.wp _ _ _ _ (w.alloc (.cells #[.pointer none, .slice none 0 0] 114))
 generalize w.alloc (.cells #[.pointer none, .slice none 0 0] 114) = w0 at *
 go_wp2_with fail
 go_loopw [6] (fun v wr => ∃ (i : Nat) (acc : List UInt8), v = .int .i64 i ∧ i ≤ s.size ∧ acc.length ≤ i ∧ Hid (valAt s i acc) ∧ Hid (Lib.IsBuilder 114 5 w.heap.size w.heap.size (Lib.byteCells acc) wr) ∧ Hid (Below w.heap.size w wr) ∧ w.heap.size < wr.heap.size) (fun v _ => s.size + 1 - (intOf v).toNat)
 case atStart => exact ⟨0, [], rfl, Nat.zero_le _, Nat.zero_le _, Lib.hid (valAt_zero s), HN, HB0, by omega⟩
 case round =>
  clear HN HB0 hsz
  obtain ⟨i, acc, rfl, hi, hal, HV, HI, HB, hlt⟩ := hrel
  by_cases his : i < s.size
  ·obtain ⟨x, hx⟩ : ∃ x, s[i] = x := ⟨_, rfl⟩
   have hz0 : (0 : Int) ≤ (i : Int) := by omega
   have hz1 : (i : Int) < (s.size : Int) := by omega
   by_cases h34 : x = 34
   ·have HQ := Lib.hid (valAt_quote HV.out his (by rw [hx]; exact h34))
    have hb34 : ((x.toNat : Int) == 34) = true := by subst h34; rfl
    have hstr := Tryz.Builder_String_any w.heap.size w.heap.size acc wr HI.out (by omega)
    have hstr2 := Tryz.Builder_String_any w.heap.size w.heap.size acc wr.drew HI.out (by show _ ≤ wr.heap.size; omega)
    have hz2 : ((i : Int) + 1) ≤ (s.size : Int) := by omega
    have hz3 : (0 : Int) ≤ (i : Int) + 1 := by omega
    have hz4 : ((i : Int) + 1).toNat = i + 1 := by omega
    have hz5 : i + 1 ≤ s.size := by omega
    have HBD := Lib.hid (HB.out.trans ((Below.refl _ wr).drew.mono HB.out.size))
    clear HV HI hstr
    have hwi : IntKind.i64.wrap ((i : Int) + 1) = (i : Int) + 1 := wrap_succ i (by omega)
    go_wp2_with fail
    refine wp_region_held_drew (S := (fun _ => True)) (by kernel_rfl) trivial (fun hHeld => ?_)
    refine plIn [1, 2, 3, 4] ?_
    iterate 4
     refine hP (v := ?_) rfl rfl hHeld ?_ ?_
     rotate_left
     ·rintro wh _
      go_simp
      (try with_reducible rfl)
     simp only [Act.put, List.setIfInBounds_toArray, List.set_cons_zero, List.set_cons_succ]
    refine plOut ?_
    refine held_call (i := 0) rfl (by kernel_rfl) (by rfl) (fun K hK => ?_)
    go_simp; refine hstr2.mono ?_; rintro e w5 ⟨rfl, hb5⟩
    refine hK.out _ _ trivial (fun hHeld => ?_)
    clear hK K
    (try simp only [Act.put, List.setIfInBounds_toArray, List.set_cons_zero, List.set_cons_succ])
    refine plIn [5, 6, 7] ?_
    iterate 3
     refine hP (v := ?_) rfl rfl hHeld ?_ ?_
     rotate_left
     ·rintro wh _
      go_simp
      (try with_reducible rfl)
     simp only [Act.put, List.setIfInBounds_toArray, List.set_cons_zero, List.set_cons_succ]
    refine plOut ?_
    refine wpAnyH_done (by kernel_rfl) ?_ _
    all_goals
     go_wp2
     go_ret3
     exact ⟨_, _, true, rfl, .inr ⟨rfl, by rw [HQ.out, B_mk, B_extract]⟩, HBD.out.trans (hb5.mono (Nat.le_refl _))⟩
   ·have hb34 : ((x.toNat : Int) == 34) = false := by
     rw [beq_eq_false_iff_ne]; intro e; exact h34 (UInt8.toNat_inj.1 (by show x.toNat = 34; omega))
    by_cases h92 : x = 92
    ·have hb92 : ((x.toNat : Int) == 92) = true := by subst h92; rfl
     by_cases hl : s.size ≤ i + 1
     ·have HQ := Lib.hid (valAt_last HV.out his (by rw [hx]; exact h92) hl)
      have hez : ((i : Int) + 1 == (s.size : Int)) = true := by rw [beq_iff_eq]; omega
      have hez2 : (i : Int) + 1 = (s.size : Int) := by omega
      clear HV HI
      go_wp2_with fail
      go_ret3
      exact ⟨_, _, false, rfl, .inl ⟨rfl, HQ.out, rfl, rfl⟩, HB.out⟩
     ·have hez : ((i : Int) + 1 == (s.size : Int)) = false := by rw [beq_eq_false_iff_ne]; omega
      have hez2 : ¬ ((i : Int) + 1 = (s.size : Int)) := by omega
      obtain ⟨y, hy⟩ : ∃ y, s[i + 1]'(by omega) = y := ⟨_, rfl⟩
      have hz2 : (0 : Int) ≤ (i : Int) + 1 := by omega
      have hz3 : (i : Int) + 1 < (s.size : Int) := by omega
      have hwi : IntKind.i64.wrap ((i : Int) + 1) = (i : Int) + 1 := wrap_succ i (by omega)
      have hne : ∀ {c : UInt8} {n : Nat}, c.toNat = n → y ≠ c → ((y.toNat : Int) != (n : Int)) = true := fun {c n} hc h => by
       rw [bne_iff_ne]; intro e; exact h (UInt8.toNat_inj.1 (by omega))
      by_cases hy1 : y = 34
      ·have HQ := Lib.hid (valAt_esc HV.out (by omega) (by rw [hx]; exact h92) (by rw [hy]; exact .inl hy1))
       rw [hy] at HQ
       have hyn : ((y.toNat : Int) != 34) = false := by rw [hy1]; rfl
       clear hy1
       have kb := wbyte_is w.heap.size w.heap.size (Lib.byteCells acc) (y.toNat : Int) wr HI.out (by rw [Lib.byteCells_length]; omega)
       rw [← byteCells_snoc] at kb
       clear HV HI
       go_wp2_with fail
       refine kb.mono ?_
       rintro e w5 ⟨rfl, hI5, hb5, _⟩
       have HI5 := Lib.hid hI5
       have HB5 := Lib.hid (HB.out.trans hb5)
       have hlt5 : w.heap.size < w5.heap.size := Nat.lt_of_lt_of_le hlt hb5.size
       clear kb hI5 hb5 hwi hne hez hez2
       go_wp2
       go_roundw
       case rel => exact ⟨i + 2, acc ++ [y], by go_num, by omega, by rw [List.length_append]; simp only [List.length_cons, List.length_nil]; omega, HQ, HI5, HB5, hlt5⟩
       case measure => (simp [intOf]; try omega)
      ·have hyn : ((y.toNat : Int) != 34) = true := hne (c := 34) rfl hy1
       by_cases hy2 : y = 92
       ·have HQ := Lib.hid (valAt_esc HV.out (by omega) (by rw [hx]; exact h92) (by rw [hy]; exact .inr hy2))
        rw [hy] at HQ
        have hyn2 : ((y.toNat : Int) != 92) = false := by rw [hy2]; rfl
        clear hy2 hy1
        have kb := wbyte_is w.heap.size w.heap.size (Lib.byteCells acc) (y.toNat : Int) wr HI.out (by rw [Lib.byteCells_length]; omega)
        rw [← byteCells_snoc] at kb
        clear HV HI
        go_wp2_with fail
        refine kb.mono ?_
        rintro e w5 ⟨rfl, hI5, hb5, _⟩
        have HI5 := Lib.hid hI5
        have HB5 := Lib.hid (HB.out.trans hb5)
        have hlt5 : w.heap.size < w5.heap.size := Nat.lt_of_lt_of_le hlt hb5.size
        clear kb hI5 hb5 hwi hne hez hez2
        go_wp2
        go_roundw
        case rel => exact ⟨i + 2, acc ++ [y], by go_num, by omega, by rw [List.length_append]; simp only [List.length_cons, List.length_nil]; omega, HQ, HI5, HB5, hlt5⟩
        case measure => (simp [intOf]; try omega)
       ·have HQ := Lib.hid (valAt_odd HV.out (by omega) (by rw [hx]; exact h92) (by rw [hy]; exact hy1) (by rw [hy]; exact hy2))
        have hyn2 : ((y.toNat : Int) != 92) = true := hne (c := 92) rfl hy2
        clear HV HI
        go_wp2_with fail
        go_ret3
        exact ⟨_, _, false, rfl, .inl ⟨rfl, HQ.out, rfl, rfl⟩, HB.out⟩
    ·have hb92 : ((x.toNat : Int) == 92) = false := by
      rw [beq_eq_false_iff_ne]; intro e; exact h92 (UInt8.toNat_inj.1 (by show x.toNat = 92; omega))
     have HQ := Lib.hid (valAt_plain HV.out his (by rw [hx]; exact h34) (by rw [hx]; exact h92))
     rw [hx] at HQ
     have kb := wbyte_is w.heap.size w.heap.size (Lib.byteCells acc) (x.toNat : Int) wr HI.out (by rw [Lib.byteCells_length]; omega)
     rw [← byteCells_snoc] at kb
     clear HV HI
     go_wp2_with fail
     refine kb.mono ?_
     rintro e w5 ⟨rfl, hI5, hb5, _⟩
     have HI5 := Lib.hid hI5
     have HB5 := Lib.hid (HB.out.trans hb5)
     have hlt5 : w.heap.size < w5.heap.size := Nat.lt_of_lt_of_le hlt hb5.size
     clear kb hI5 hb5
     go_wp2
     go_roundw
     case rel => exact ⟨i + 1, acc ++ [x], by go_num, by omega, by rw [List.length_append]; simp only [List.length_cons, List.length_nil]; omega, HQ, HI5, HB5, hlt5⟩
     case measure => (simp [intOf]; try omega)
  ·obtain rfl : i = s.size := by omega
   have HQ := Lib.hid (valAt_end HV.out)
   clear HV HI
   go_wp2_with fail
   go_ret3
   exact ⟨_, _, false, rfl, .inl ⟨rfl, HQ.out, rfl, rfl⟩, HB.out⟩
end Go.Proofs.YtgbapkechngnmaaGreat
/- (*strings.byteStringReplacer).Replace, where " and \ are put behind a \: a contract. -/
namespace Go.Proofs.YtgbapkechngnmaaGreat
open Go.RowKit
theorem wp_forgetB {Pr : Program} {Q : Exit → Act → World → Prop} {c : Code} {a : Act} {W : World} (P : World → Prop) (h : P W) (k : ∀ W', P W' → Code.wp Pr c Q a W') : Code.wp Pr c Q a W := k W h
structure BsR (w : World) (g a0 c0 a1 c1 t ct : Nat) : Prop where
  q : w.cell? ⟨g, 34, none⟩ = some (.slice (some ⟨a0, 0, none⟩) 2 c0)
  q0 : w.cell? ⟨a0, 0, none⟩ = some (.int .u8 92)
  q1 : w.cell? ⟨a0, 1, none⟩ = some (.int .u8 34)
  b : w.cell? ⟨g, 92, none⟩ = some (.slice (some ⟨a1, 0, none⟩) 2 c1)
  b0 : w.cell? ⟨a1, 0, none⟩ = some (.int .u8 92)
  b1 : w.cell? ⟨a1, 1, none⟩ = some (.int .u8 92)
  tt : w.cell? ⟨g, 256, none⟩ = some (.slice (some ⟨t, 0, none⟩) 2 ct)
  tt0 : w.cell? ⟨t, 0, none⟩ = some (.string ⟨#[92]⟩)
  tt1 : w.cell? ⟨t, 1, none⟩ = some (.string ⟨#[34]⟩)
  n : ∀ j, j < 256 → j ≠ 34 → j ≠ 92 → w.cell? ⟨g, j, none⟩ = some (.slice none 0 0)
theorem cell_blt {w : World} {b o : Nat} {v : Value} (h : w.cell? ⟨b, o, none⟩ = some v) : b < w.heap.size := block_lt_of_cell h
theorem BsR.later {w w' : World} {g a0 c0 a1 c1 t ct : Nat} (h : BsR w g a0 c0 a1 c1 t ct) (hb : Below w.heap.size w w') : BsR w' g a0 c0 a1 c1 t ct :=
  ⟨keep_cell h.q hb (cell_blt h.q), keep_cell h.q0 hb (cell_blt h.q0), keep_cell h.q1 hb (cell_blt h.q1), keep_cell h.b hb (cell_blt h.b), keep_cell h.b0 hb (cell_blt h.b0), keep_cell h.b1 hb (cell_blt h.b1),
   keep_cell h.tt hb (cell_blt h.tt), keep_cell h.tt0 hb (cell_blt h.tt0), keep_cell h.tt1 hb (cell_blt h.tt1), fun j h1 h2 h3 => keep_cell (h.n j h1 h2 h3) hb (cell_blt h.q)⟩
theorem BsR.at {w : World} {g a0 c0 a1 c1 t ct : Nat} (h : BsR w g a0 c0 a1 c1 t ct) (x : UInt8) :
    (oddE x = false ∧ w.cell? ⟨g, x.toNat, none⟩ = some (.slice none 0 0)) ∨
    (oddE x = true ∧ ∃ a c, w.cell? ⟨g, x.toNat, none⟩ = some (.slice (some ⟨a, 0, none⟩) 2 c) ∧ w.cell? ⟨a, 0, none⟩ = some (.int .u8 92) ∧ w.cell? ⟨a, 1, none⟩ = some (.int .u8 x.toNat)) := by
  have hx := x.toNat_lt
  by_cases h1 : x = 34
  · subst h1; exact .inr ⟨rfl, _, _, h.q, h.q0, h.q1⟩
  · by_cases h2 : x = 92
    · subst h2; exact .inr ⟨rfl, _, _, h.b, h.b0, h.b1⟩
    · refine .inl ⟨by rw [← Bool.not_eq_true, oddE_iff]; exact fun e => e.elim h1 h2, h.n _ (by omega) (fun e => h1 ?_) (fun e => h2 ?_)⟩
      · exact UInt8.toNat_inj.1 e
      · exact UInt8.toNat_inj.1 e
structure RwB (w wr : World) (b n : Nat) (E : List UInt8) (j : Nat) : Prop where
  row : ∃ f, wr.rowIs b 5 n f ∧ ∀ i, i < j → f i = .int .u8 ((E.getD i 0).toNat)
  bl : Below w.heap.size w wr
  hb : w.heap.size ≤ b
theorem RwB.new (w : World) (n : Nat) (E : List UInt8) : RwB w (w.alloc (.cells (madeCells #[.int .u8 0] n) 5)) w.heap.size n E 0 :=
  ⟨⟨_, World.rowIs_made w (.int .u8 0) n _, fun _ h => absurd h (Nat.not_lt_zero _)⟩, alloc_below _ _, Nat.le_refl _⟩
theorem RwB.put {w wr : World} {b n j : Nat} {E : List UInt8} (h : RwB w wr b n E j) {c : UInt8} (hc : E[j]? = some c) : RwB w (wr.setCell ⟨b, j, none⟩ (.int .u8 c.toNat)) b n E (j + 1) := by
  obtain ⟨⟨f, hr, hf⟩, hb, hg⟩ := h
  refine ⟨⟨_, hr.set j _, fun i hi => ?_⟩, hb.trans ((Below.refl _ _).setCell (p := ⟨b, j, none⟩) hg _), hg⟩
  by_cases e : i = j
  · subst e
    simp [List.getD, hc]
  · rw [if_neg e]; exact hf i (by omega)
theorem RwB.put2 {w wr : World} {b n j : Nat} {E : List UInt8} (h : RwB w wr b n E j) {c d : UInt8} (hc : E[j]? = some c) (hd : E[j + 1]? = some d) : RwB w (wr.setCells b j [.int .u8 c.toNat, .int .u8 d.toNat]) b n E (j + 2) :=
  (h.put hc).put hd
theorem RwB.cell {w wr : World} {b n j i : Nat} {E : List UInt8} (h : RwB w wr b n E j) (hi : i < n) : (wr.cell? ⟨b, i, none⟩).isSome = true ∧ wr.frozen? ⟨b, i, none⟩ = false := by
  obtain ⟨⟨f, hr, hf⟩, hb, hg⟩ := h
  exact ⟨by rw [hr.cell hi]; rfl, hr.frozen i⟩
theorem RwB.drew {w wr : World} {b n j : Nat} {E : List UInt8} (h : RwB w wr b n E j) : RwB w wr.drew b n E j :=
  ⟨h.row, h.bl.trans ⟨rfl, rfl, rfl, Nat.le_refl _, fun _ _ => rfl⟩, h.hb⟩
theorem esc_next (l : List UInt8) (k : Nat) (h : k < l.length) : (oddE l[k] = false → (escB l)[(escB (l.take k)).length]? = some l[k] ∧ (escB (l.take (k + 1))).length = (escB (l.take k)).length + 1) ∧
    (oddE l[k] = true → (escB l)[(escB (l.take k)).length]? = some 92 ∧ (escB l)[(escB (l.take k)).length + 1]? = some l[k] ∧ (escB (l.take (k + 1))).length = (escB (l.take k)).length + 2) := by
  have e : escB l = escB (l.take k) ++ ((if oddE l[k] then [92, l[k]] else [l[k]]) ++ escB (l.drop (k + 1))) := by
    conv => lhs; rw [← List.take_append_drop (k + 1) l, escB_append, List.take_succ_eq_append_getElem h, escB_snoc]
    simp
  have e2 := escB_take_len l k h
  constructor
  · intro ho
    rw [e, ho]
    rw [ho] at e2
    simp at e2 ⊢
    exact e2
  · intro ho
    rw [e, ho]
    rw [ho] at e2
    simp at e2 ⊢
    exact e2
theorem info_b8 : (Tryz.prog.info? 5).map (fun i => (i.zero, i.size, i.bytes)) = some (some (.int .u8 0), 1, 1) := by kernel_rfl
set_option maxHeartbeats 3200000 in
set_option maxRecDepth 100000 in
theorem bsr_any (s : ByteArray) (w : World) (g a0 c0 a1 c1 t ct : Nat) (h : BsR w g a0 c0 a1 c1 t ct) (hs : s.size ≤ 1000000)
    (hk : ∀ c W, Calls Tryz.prog 209 #[.string s, .string ⟨#[c]⟩] W fun e w' => e = .returned (.int .i64 ((B s).count c)) ∧ w' = W) :
    Calls Tryz.prog 207 #[.pointer (some ⟨g, 0, none⟩), .string s] w fun e w' => ∃ r, e = .returned (.string r) ∧ B r = escB (B s) ∧ Below w.heap.size w w' := by
  obtain ⟨i0, hi, hz0, hz1', hz2⟩ := info_parts info_b8
  have HK := Lib.hid hk
  have HB := Lib.hid (BsR.at h)
  have ht := h.tt
  have ht0 := h.tt0
  have ht1 := h.tt1
  have hq := h.q
  have hb := h.b
  have HL := Lib.hid (escB_len (B s))
  have HA := Lib.hid (any_count (B s))
  have HH := Lib.hid h
  have HE := Lib.hid (escB_bound (B s))
  have hlB := len_B s
  have e92 : ((⟨#[92]⟩ : ByteArray)[0]'(by decide)).toNat = 92 := rfl
  have e34 : ((⟨#[34]⟩ : ByteArray)[0]'(by decide)).toNat = 34 := rfl
  clear hk h
  go_enter Tryz.func207, Tryz.ntmps207
  go_upto_if 26 with fail
  go_cut [5, 6] (fun s5 s6 wx => s5 = .int .i64 ((escB (B s)).length) ∧ s6 = .bool ((B s).any oddE) ∧ Below w.heap.size w wx)
  case first =>
    cases hd : decide ((16 : Int) ≤ (s.size : Int))
    case true =>
      go_wp2_with fail
      go_loopw [32, 5, 6] (fun a b c wr => ∃ (i N : Nat) (p : Bool), i ≤ 2 ∧ a = .int .i64 i ∧ b = .int .i64 N ∧ N ≤ s.size * 2 ∧ Hid (N = s.size + (if 1 ≤ i then (B s).count 92 else 0) + (if 2 ≤ i then (B s).count 34 else 0)) ∧ c = .bool p ∧ Hid (p = ((decide (1 ≤ i) && decide (0 < (B s).count 92)) || (decide (2 ≤ i) && decide (0 < (B s).count 34)))) ∧ Hid (Below w.heap.size w wr)) (fun v _ _ _ => 3 - (intOf v).toNat)
      case atStart => exact ⟨0, s.size, false, by omega, rfl, rfl, by omega, Lib.hid (by simp), rfl, Lib.hid (by simp), Lib.hid (Below.refl _ _)⟩
      case round =>
        clear ht ht0 ht1 hq hb
        obtain ⟨i, N, p, hi2, rfl, rfl, hN, HN, rfl, HP, HW⟩ := hrel
        have HC := Lib.hid (escB_len (B s))
        have hb92 := HE.out
        rw [escB_len] at hb92
        have k92 := HK.out 92 wr
        have k34 := HK.out 34 wr
        have hr := HH.out.later HW.out
        have ht := hr.tt
        have ht0 := hr.tt0
        have ht1 := hr.tt1
        have hq := hr.q
        have hb := hr.b
        clear hr
        generalize (B s).count 92 = n92 at *
        generalize (B s).count 34 = n34 at *
        have hN0 := HN.out
        have hlB' := hlB
        rcases (show i = 0 ∨ i = 1 ∨ i = 2 by omega) with rfl | rfl | rfl
        · simp at hN0
          subst hN0
          by_cases h0 : n92 = 0
          · have hz : ((n92 : Int) != 0) = false := by rw [h0]; rfl
            go_wp2_with fail
            refine k92.mono ?_
            rintro e w1 ⟨rfl, rfl⟩
            go_wp2_with fail
            go_roundw
            case rel => exact ⟨1, s.size, p, by omega, rfl, rfl, hN, Lib.hid (by rw [h0]; simp), rfl, Lib.hid (by rw [HP.out, h0]; simp), HW⟩
            case measure => (simp [intOf]; try omega)
          · have hz : ((n92 : Int) != 0) = true := by rw [bne_iff_ne]; omega
            go_wp2_with fail
            refine k92.mono ?_
            rintro e w1 ⟨rfl, rfl⟩
            go_wp2_with fail
            go_quiet (fail)
            go_wp2_with fail
            go_roundw
            case rel => exact ⟨1, s.size + n92, true, by omega, rfl, by go_num, by omega, Lib.hid (by simp), rfl, Lib.hid (by simp; omega), Lib.hid (bl_drewN HW.out _)⟩
            case measure => (simp [intOf]; try omega)
        · have hN1 : N + n34 ≤ s.size * 2 := by simp at hN0; omega
          clear hN0
          by_cases h0 : n34 = 0
          · have hz : ((n34 : Int) != 0) = false := by rw [h0]; rfl
            go_wp2_with fail
            refine k34.mono ?_
            rintro e w1 ⟨rfl, rfl⟩
            go_wp2_with fail
            go_roundw
            case rel => exact ⟨2, N, p, by omega, rfl, rfl, hN, Lib.hid (by rw [HN.out, h0]; simp), rfl, Lib.hid (by rw [HP.out, h0]; simp), HW⟩
            case measure => (simp [intOf]; try omega)
          · have hz : ((n34 : Int) != 0) = true := by rw [bne_iff_ne]; omega
            go_wp2_with fail
            refine k34.mono ?_
            rintro e w1 ⟨rfl, rfl⟩
            go_wp2_with fail
            go_quiet (fail)
            go_wp2_with fail
            go_roundw
            case rel => exact ⟨2, N + n34, true, by omega, rfl, by go_num, by omega, Lib.hid (by rw [HN.out]; simp), rfl, Lib.hid (by simp; omega), Lib.hid (bl_drewN HW.out _)⟩
            case measure => (simp [intOf]; try omega)
        · clear hN0
          go_wp2_with fail
          go_meet
          case rel => exact ⟨by rw [HC.out, hlB', HN.out]; simp, by rw [HA.out, HP.out]; simp, HW.out⟩
    case false =>
      go_wp2_with fail
      go_loopw [10, 5, 6] (fun a b c wr => ∃ (k N : Nat) (p : Bool), k ≤ s.size ∧ a = .int .i64 k ∧ b = .int .i64 N ∧ N ≤ s.size * 2 ∧ Hid (N + k = s.size + (escB ((B s).take k)).length) ∧ c = .bool p ∧ Hid (p = ((B s).take k).any oddE) ∧ Hid (Below w.heap.size w wr)) (fun v _ _ _ => s.size + 1 - (intOf v).toNat)
      case atStart => exact ⟨0, s.size, false, by omega, rfl, rfl, by omega, Lib.hid (by simp [escB]), rfl, Lib.hid (by simp), Lib.hid (Below.refl _ _)⟩
      case round =>
        clear ht ht0 ht1 hq hb
        obtain ⟨k, N, p, hk2, rfl, rfl, hN, HN, rfl, HP, HW⟩ := hrel
        have hr := HH.out.later HW.out
        by_cases hks : k < s.size
        · have hx : (B s)[k]? = some s[k] := by rw [List.getElem?_eq_getElem (by rw [hlB]; exact hks)]; rfl
          have HT := Lib.hid (List.take_succ_eq_append_getElem (l := B s) (i := k) (by rw [hlB]; exact hks))
          have HX := Lib.hid (show (B s)[k]'(by rw [hlB]; exact hks) = s[k] from rfl)
          obtain ⟨x, hsx⟩ : ∃ x, s[k] = x := ⟨_, rfl⟩
          have hn1 := HN.out
          have HL1 := Lib.hid (escB_take_len (B s) k (by rw [hlB]; exact hks))
          rw [HX.out, hsx] at HL1
          rw [HX.out, hsx] at HT
          have hbk := escB_bound ((B s).take k)
          rw [List.length_take, hlB, Nat.min_eq_left (Nat.le_of_lt hks)] at hbk
          rcases hr.at x with ⟨ho, hc⟩ | ⟨ho, a, c, hc, hc0, hc1⟩
          · have HL2 : Hid ((escB ((B s).take (k + 1))).length = (escB ((B s).take k)).length + 1) := Lib.hid (by have := HL1.out; rw [ho] at this; simpa using this)
            have HO := Lib.hid ho
            clear hr hx HE HL1 ho
            have hz0 : (0 : Int) ≤ (k : Int) := by omega
            have hz1 : (k : Int) < (s.size : Int) := by omega
            have hx0 : (0 : Int) ≤ (x.toNat : Int) := by omega
            have hx1 : (x.toNat : Int) < 256 := by have := x.toNat_lt; omega
            go_wp2_with fail
            go_roundw
            case rel => exact ⟨k + 1, N, p, by omega, by go_num, rfl, hN, Lib.hid (by rw [HL2.out]; omega), rfl, Lib.hid (by rw [HP.out, HT.out, List.any_append, List.any_cons, HO.out]; simp), HW⟩
            case measure => (simp [intOf]; try omega)
          · have HL2 : Hid ((escB ((B s).take (k + 1))).length = (escB ((B s).take k)).length + 2) := Lib.hid (by have := HL1.out; rw [ho] at this; simpa using this)
            have HO := Lib.hid ho
            clear hr hx HE HL1 ho
            have hz0 : (0 : Int) ≤ (k : Int) := by omega
            have hz1 : (k : Int) < (s.size : Int) := by omega
            have hx0 : (0 : Int) ≤ (x.toNat : Int) := by omega
            have hx1 : (x.toNat : Int) < 256 := by have := x.toNat_lt; omega
            go_wp2_with fail
            go_roundw
            case rel => exact ⟨k + 1, N + 1, true, by omega, by go_num, by go_num, by omega, Lib.hid (by rw [HL2.out]; omega), rfl, Lib.hid (by rw [HT.out, List.any_append, List.any_cons, HO.out]; simp), HW⟩
            case measure => (simp [intOf]; try omega)
        · obtain rfl : k = s.size := by omega
          go_wp2_with fail
          go_meet
          case rel =>
            have hlB' := hlB
            rw [← hlB', List.take_length] at HN HP
            have hn := HN.out
            exact ⟨by rw [show N = (escB (B s)).length by omega], by rw [HP.out], HW.out⟩
  case rest =>
    clear ht ht0 ht1 hq hb
    obtain ⟨rfl, rfl, hW⟩ := hcut
    have HW := Lib.hid hW
    have hE := HE.out
    rw [hlB] at hE
    obtain ⟨n, hn⟩ : ∃ n, (escB (B s)).length = n := ⟨_, rfl⟩
    have Hn := Lib.hid hn
    rw [hn] at hE
    rw [hn]
    clear hn hW
    cases hany : (B s).any oddE
    case false =>
      go_wp2_with fail
      go_ret
      exact ⟨_, rfl, (escB_plain hany).symm, HW.out⟩
    case true =>
      have Hany := Lib.hid hany
      clear hany
      have HN := Lib.hid (RwB.new wc n (escB (B s)))
      go_wp2_with ((with_reducible refine wpList_make_row _ rfl _ _ 43 rfl 5 i0 (.int .u8 0) Tryz.underlying43 hi hz0 hz1' rfl .i64 .i64 n ?hl ?hc ?hb ?h63 ?_); (case hl => rfl); (case hc => rfl); (case hb => rw [hz2]; omega); (case h63 => omega))
      refine wp_forgetB (fun W => RwB wc W wc.heap.size n (escB (B s)) 0) HN.out (fun w1 hw1 => ?_)
      have H1 := Lib.hid hw1
      clear hw1 HN
      go_loopw [13, 14] (fun vj vk wr => ∃ j k : Nat, vj = .int .i64 j ∧ vk = .int .i64 k ∧ k ≤ s.size ∧ j ≤ n ∧ Hid (j = (escB ((B s).take k)).length) ∧ Hid (RwB wc wr wc.heap.size n (escB (B s)) j)) (fun _ v _ => s.size + 1 - (intOf v).toNat)
      case atStart => exact ⟨0, 0, rfl, rfl, Nat.zero_le _, Nat.zero_le _, Lib.hid rfl, H1⟩
      case round =>
        clear H1
        obtain ⟨j, k, rfl, rfl, hk2, hjn, HJ, HR⟩ := hrel
        have hr := HH.out.later (HW.out.trans (HR.out.bl.mono HW.out.size))
        by_cases hks : k < s.size
        · have HX := Lib.hid (show (B s)[k]'(by rw [hlB]; exact hks) = s[k] from rfl)
          obtain ⟨x, hsx⟩ : ∃ x, s[k] = x := ⟨_, rfl⟩
          have HN1 := Lib.hid (esc_next (B s) k (by rw [hlB]; exact hks))
          have hle2 := escB_take_le (B s) (k + 1)
          rw [HX.out, hsx] at HN1
          rw [Hn.out] at hle2
          have hz0 : (0 : Int) ≤ (k : Int) := by omega
          have hz1 : (k : Int) < (s.size : Int) := by omega
          have hx0 : (0 : Int) ≤ (x.toNat : Int) := by omega
          have hx1 : (x.toNat : Int) < 256 := by have := x.toNat_lt; omega
          have hj0 : (0 : Int) ≤ (j : Int) := by omega
          rcases hr.at x with ⟨ho, hc⟩ | ⟨ho, a, c, hc, hc0, hc1⟩
          · obtain ⟨q1, q2⟩ := HN1.out.1 ho
            have hj1 : (j : Int) < (n : Int) := by have := HJ.out; omega
            have Q1 := Lib.hid q1
            have Q2 := Lib.hid q2
            rw [← HJ.out] at Q1 Q2
            obtain ⟨hy, hf⟩ := HR.out.cell (i := j) (by omega)
            obtain ⟨y, hy⟩ := Option.isSome_iff_exists.1 hy
            clear hr HE HN1 ho q1 q2
            go_wp2_with fail
            go_roundw
            case rel => exact ⟨j + 1, k + 1, by go_num, by go_num, by omega, by omega, Lib.hid Q2.out.symm, Lib.hid (HR.out.put Q1.out)⟩
            case measure => (simp [intOf]; try omega)
          · obtain ⟨q1, q2, q3⟩ := HN1.out.2 ho
            have hj1 : (j : Int) + 1 < (n : Int) := by have := HJ.out; omega
            have hnj : ¬ (n = j) := by omega
            have HR2 := Lib.hid HR.out.drew
            have Q1 := Lib.hid q1
            have Q2 := Lib.hid q2
            have Q3 := Lib.hid q3
            rw [← HJ.out] at Q1 Q2 Q3
            have hcp : ∀ ty, (Builtin.copy_ #[43, 43] ty #[.slice (some ⟨wc.heap.size, j, none⟩) (n - j) (n - j), .slice (some ⟨a, 0, none⟩) 2 c]).run Tryz.prog wr.drew = .ok (goInt 2) (wr.drew.setCells wc.heap.size j [.int .u8 ((92 : UInt8).toNat), .int .u8 x.toNat]) := fun ty =>
              run_copy_cells wr.drew _ _ ty 5 wc.heap.size j (n - j) (n - j) ⟨a, 0, none⟩ 2 c [.int .u8 ((92 : UInt8).toNat), .int .u8 x.toNat] Tryz.underlying43 (by rw [hi]; simp [hz1']) (by show 2 = Nat.min 2 (n - j); simp only [Nat.min_def]; split <;> omega)
                (fun m v hm => by
                  match m, hm with
                  | 0, hm => exact Option.some.inj hm ▸ hc0
                  | 1, hm => exact Option.some.inj hm ▸ hc1
                  | m + 2, hm => simp at hm)
                (fun m hm => (HR.out.cell (i := j + m) (by simp at hm; omega)).1) (fun m hm => (HR.out.cell (i := j + m) (by simp at hm; omega)).2) (by simp [Value.oneCell'])
            clear hr HE HN1 ho q1 q2 q3
            go_wp2_with fail
            go_region_law (refine step_copy_runI rfl _ _ 43 43 rfl _ _ (by simp [Act.eval]) (by simp [Act.eval]) (hcp _) ?_)
            go_wp2_with fail
            go_roundw
            case rel => exact ⟨j + 2, k + 1, by go_num, by go_num, by omega, by omega, Lib.hid Q3.out.symm, Lib.hid (HR2.out.put2 Q1.out Q2.out)⟩
            case measure => (simp [intOf]; try omega)
        · obtain rfl : k = s.size := by omega
          have hj : j = n := by have := HJ.out; rw [← hlB, List.take_length, Hn.out] at this; exact this
          subst hj
          have hl : (escB (B s)).length = j := Hn.out
          have hcv : ∀ c, (convert 43 9 (.slice (some ⟨wc.heap.size, 0, none⟩) j c)).run Tryz.prog wr = .ok (.string ⟨(escB (B s)).toArray⟩) wr := fun c => by
            have := run_convert_bytes_back (P := Tryz.prog) wr 43 9 5 ⟨wc.heap.size, 0, none⟩ c (escB (B s)) Tryz.underlying43 Tryz.underlying5 Tryz.underlying9 (fun i hi => by
              obtain ⟨⟨f, hr, hf⟩, _, _⟩ := HR.out
              have h1 := hr.cell (i := i) (by omega)
              rw [hf i (by omega)] at h1
              rw [Addr.add_lit, Nat.zero_add, h1]
              simp [List.getD, hi])
            rw [hl] at this
            exact this
          have HB2 := Lib.hid (HW.out.trans (HR.out.bl.mono HW.out.size))
          clear hr HE HR HJ hl
          go_wp2
          go_ret
          exact ⟨_, rfl, by simp [B], HB2.out⟩
end Go.Proofs.YtgbapkechngnmaaGreat
/- (*strings.Replacer).build, where " and \ are put behind a \: a contract. -/
namespace Go.Proofs.YtgbapkechngnmaaGreat
open Go.RowKit
def bsC (tv : Value) : List Value := List.replicate 256 (.slice none 0 0) ++ [tv]
theorem bsC_len (tv : Value) : (bsC tv).length = 257 := by unfold bsC; rw [List.length_append, List.length_replicate]; rfl
theorem bsC_row (tv : Value) (j : Nat) (h : j < 256) : (bsC tv)[j]? = some (.slice none 0 0) := by
 unfold bsC
 rw [List.getElem?_append_left (by rw [List.length_replicate]; exact h), List.getElem?_replicate]
 simp [h]
theorem bsC_last (tv : Value) : (bsC tv)[256]? = some tv := by
 unfold bsC
 rw [List.getElem?_append_right (by rw [List.length_replicate]; exact Nat.le_refl _), List.length_replicate]
 rfl
theorem bsC_one (a : Option Addr) (n c : Nat) : ∀ y ∈ bsC (.slice a n c), y.oneCell' = true := by
 intro y hy
 unfold bsC at hy
 rcases List.mem_append.1 hy with hy | hy
 ·rw [(List.mem_replicate.1 hy).2]; rfl
 ·rw [List.mem_singleton.1 hy]; rfl
def zeroS : Array Value := (bsC (.slice none 0 0)).toArray
theorem zeroS_size : zeroS.size = 257 := by unfold zeroS; rw [List.size_toArray, bsC_len]
theorem zeroS_at (i : Nat) (h : i < 257) : zeroS[i]? = some (.slice none 0 0) := by
 unfold zeroS
 rw [List.getElem?_toArray]
 by_cases e : i < 256
 ·exact bsC_row _ i e
 ·obtain rfl : i = 256 := by omega
  exact bsC_last _
set_option maxRecDepth 100000 in
theorem bs_zero : (Tryz.prog.info? 175).map (fun i => (i.zero, i.size)) = some (some (.agg zeroS), 257) := by kernel_rfl
theorem bs_size : (Tryz.prog.info? 175).map (·.size) = some 257 := by
 have h := bs_zero
 cases hq : Tryz.prog.info? 175 with
 | none => rw [hq] at h; cases h
 | some i =>
  rw [hq] at h
  simp only [Option.map_some, Option.some.injEq, Prod.mk.injEq] at h ⊢
  exact h.2
set_option maxRecDepth 100000 in
theorem bs_built (a : Option Addr) (n c : Nat) : Tryz.prog.built 175 [(1, .slice a n c)] = some (bsC (.slice a n c)).toArray := by kernel_rfl
theorem bs_run_zero (w : World) : (zeroValue 175).run Tryz.prog w = .ok (.agg zeroS) w := by
 have h := bs_zero
 cases hq : Tryz.prog.info? 175 with
 | none => rw [hq] at h; cases h
 | some i =>
  rw [hq] at h
  simp only [Option.map_some, Option.some.injEq, Prod.mk.injEq] at h
  simp [zeroValue, typeInfo, hq, h.1]
section
variable {ops : Array Oper} {rest : List Oper} {o : Oper} {a : Act} {w : World} {Q : Exit → Act → World → Prop}
theorem wpList_allocS (hg : o.guard = none) (ho : o.op = .alloc 175) (dst : Option Tmp) (hdst : o.dst = dst) (N : Nat) (hN : w.heap.size = N)
  (h : wpList Tryz.prog ops Q rest (a.put dst (.pointer (some ⟨N, 0, none⟩))) (w.alloc (.cells zeroS 175))) : wpList Tryz.prog ops Q (o :: rest) a w := by
 subst hdst hN
 refine wpList_plain hg fun K hK => ?_
 unfold Oper.wp execOp
 simp only [ho, Sem.run_bind, Instr.alloc, newVar, newRow, bs_run_zero, run_newObj_alloc, Sem.run_pure, Result.andThen_ok, Value.cells]
 exact hK _ _ h
theorem wpList_buildS (hg : o.guard = none) (parts : Array (Nat × Operand)) (ho : o.op = .build 175 parts) (dst : Option Tmp) (hdst : o.dst = dst) (cells : Array Value)
  (hf : Tryz.prog.built 175 (parts.map fun (i, x) => (i, a.eval x)).toList = some cells)
  (h : wpList Tryz.prog ops Q rest (a.put dst (.agg cells)) w) : wpList Tryz.prog ops Q (o :: rest) a w := by
 subst hdst
 refine wpList_build hg 175 parts ho (by rw [hf]; rfl) ?_
 rw [hf]
 exact h
theorem wpList_storeS (hg : o.guard = none) (x y : Operand) (ho : o.op = .store 175 x y) (dst : Option Tmp) (hdst : o.dst = dst) (b i : Nat) (cs : List Value) (hx : a.eval x = .pointer (some ⟨b, i, none⟩)) (hy : a.eval y = .agg cs.toArray)
  (ht : w.there b i 257) (hl : cs.length = 257) (h1 : ∀ y ∈ cs, y.oneCell' = true)
  (h : wpList Tryz.prog ops Q rest (a.put dst undef) (w.setCells b i cs)) : wpList Tryz.prog ops Q (o :: rest) a w := by
 subst hdst
 refine wpList_store_mid hg 175 x y ho b i cs.toArray hx hy (by simpa [hl] using ht) (by simpa [hl] using bs_size) (all_oneCell_toArray h1) ?_
 simpa using h
end
theorem rowIs_setCells {b : Nat} {t : TypeId} {n : Nat} : ∀ (cs : List Value) (w : World) (f : Nat → Value) (o : Nat), w.rowIs b t n f → (w.setCells b o cs).rowIs b t n (fun j => if o ≤ j ∧ j < o + cs.length then cs.getD (j - o) undef else f j)
 | [], w, f, o, h => h.congr (fun j _ => by rw [if_neg (by simp)])
 | v :: r, w, f, o, h => by
  refine (rowIs_setCells r _ _ (o + 1) (h.set o v)).congr (fun j _ => ?_)
  by_cases h1 : j = o
  ·subst h1
   rw [if_neg (by omega), if_pos rfl, if_pos (by simp)]
   simp
  ·by_cases h2 : o + 1 ≤ j ∧ j < o + 1 + r.length
   ·rw [if_pos h2, if_pos (by simp; omega)]
    obtain ⟨m, rfl⟩ : ∃ m, j = o + 1 + m := ⟨j - (o + 1), by omega⟩
    rw [show o + 1 + m - (o + 1) = m by omega, show o + 1 + m - o = m + 1 by omega]
    simp
   ·rw [if_neg h2, if_neg h1, if_neg (by simp; omega)]
theorem block_alloc_lt (w : World) (o : Obj) {b : Nat} (h : b < w.heap.size) : (w.alloc o).heap[b]? = w.heap[b]? := (alloc_below w o).block b h
theorem bl_setCells {B b : Nat} {w : World} (hB : B ≤ b) : ∀ (cs : List Value) (o : Nat) {W : World}, Below B w W → Below B w (W.setCells b o cs)
 | [], _, _, h => h
 | v :: r, o, W, h => bl_setCells hB r (o + 1) (h.trans ((Below.refl B W).setCell (p := ⟨b, o, none⟩) hB v))
structure BldS (w W : World) (gb : Nat) (f : Nat → Value) (v : Value) (xs : List Value) (ks : List (Nat × Value × Value)) : Prop where
 row : W.rowIs gb 175 257 f
 own : W.ownsRow w.heap.size 9 1 v xs.length xs
 last : f 256 = v
 ne : ∀ k, v.ownBlock = some k → k ≠ gb
 bl : Below w.heap.size w W
 hb : w.heap.size ≤ gb
 kp : ∀ p ∈ ks, p.1 ≠ gb ∧ v.ownBlock ≠ some p.1 ∧ p.1 < W.heap.size ∧ W.cell? ⟨p.1, 0, none⟩ = some p.2.1 ∧ W.cell? ⟨p.1, 1, none⟩ = some p.2.2
theorem bld_new (w : World) : BldS w (((w.alloc (.cells (madeCells #[.string ⟨#[]⟩] 2) 9)).alloc (.cells zeroS 175)).setCells (w.heap.size + 1) 0 (bsC (.slice (some ⟨w.heap.size, 0, none⟩) 0 2))) (w.heap.size + 1)
  (fun j => if j = 256 then .slice (some ⟨w.heap.size, 0, none⟩) 0 2 else .slice none 0 0) (.slice (some ⟨w.heap.size, 0, none⟩) 0 2) [] [] := by
 have h0 : ((w.alloc (.cells (madeCells #[.string ⟨#[]⟩] 2) 9)).alloc (.cells zeroS 175)).rowIs (w.heap.size + 1) 175 257 (fun _ => .slice none 0 0) := by
  have := World.rowIs_alloc (w.alloc (.cells (madeCells #[.string ⟨#[]⟩] 2) 9)) zeroS 175 (fun _ => .slice none 0 0) (fun i hi => zeroS_at i (by rw [zeroS_size] at hi; exact hi))
  rw [zeroS_size, World.size_alloc] at this
  exact this
 have h1 := rowIs_setCells (bsC (.slice (some ⟨w.heap.size, 0, none⟩) 0 2)) _ _ 0 h0
 refine ⟨h1.congr (fun j hj => ?_), ?_, by simp, ?_, ?_, by omega, fun p hp => by cases hp⟩
 ·rw [if_pos ⟨Nat.zero_le _, by rw [bsC_len]; omega⟩, Nat.sub_zero, List.getD_eq_getElem?_getD]
  by_cases e : j = 256
  ·subst e; rw [bsC_last, if_pos rfl]; rfl
  ·rw [bsC_row _ j (by omega), if_neg e]; rfl
 ·refine ⟨rfl, .inr ⟨w.heap.size, 2, madeCells #[.string ⟨#[]⟩] 2, rfl, Nat.le_refl _, ?_, by simp, by unfold maxLen; decide, by simp [madeCells], rfl⟩⟩
  rw [World.heap_setCells_other _ _ _ _ (by rw [World.size_alloc, World.size_alloc]; omega) (by omega), block_alloc_lt _ _ (by rw [World.size_alloc]; omega)]
  exact heap_alloc_new _ _
 ·intro k hk
  simp [Value.ownBlock] at hk
  omega
 ·exact bl_setCells (by omega) _ _ ((alloc_below w _).trans ((alloc_below _ _).mono (by rw [World.size_alloc]; omega)))
theorem cell_farC {w : World} {b b' o o' : Nat} {v : Value} (h : b ≠ b') : (w.setCell ⟨b, o, none⟩ v).cell? ⟨b', o', none⟩ = w.cell? ⟨b', o', none⟩ := World.cell?_setCell_other _ _ _ _ (fun e => h (by have := congrArg Addr.block e; first | exact this | exact this.symm))
theorem BldS.app {w W Wb W2 : World} {gb t : Nat} {f : Nat → Value} {v v' x : Value} {xs : List Value} {ks : List (Nat × Value × Value)} (h : BldS w W gb f v xs ks) (hb : Below W.heap.size W Wb)
  (hown : W2.ownsRow w.heap.size 9 1 v' (xs.length + 1) (xs ++ [x])) (hgrow : Wb.grownBy W2 v.ownBlock) (hat : v.ownBlock = some t ∨ t = Wb.heap.size) (hv : v'.ownBlock = some t) :
  BldS w (W2.setCell ⟨gb, 256, none⟩ v') gb (fun j => if j = 256 then v' else f j) v' (xs ++ [x]) ks := by
 have hgl := h.row.lt
 have hne1 : some gb ≠ v.ownBlock := fun e => h.ne gb e.symm rfl
 have htg : t ≠ gb := by
  rcases hat with e | e
  ·exact h.ne t e
  ·have := hb.size; omega
 have hblk : ∀ k, k < W.heap.size → some k ≠ v.ownBlock → W2.heap[k]? = W.heap[k]? := fun k h1 h2 => (hgrow.block k (Nat.lt_of_lt_of_le h1 hb.size) h2).trans (hb.block k h1)
 refine ⟨(h.row.of_block (hblk gb hgl hne1)).set 256 v', ?_, by simp, ?_, ?_, h.hb, ?_⟩
 ·rw [List.length_append]
  exact ownsRow_setCell_other hown (a := ⟨gb, 256, none⟩) (by rw [hv]; simp; exact htg) v'
 ·intro k hk
  rw [hv] at hk
  obtain rfl : t = k := by simpa using hk
  exact htg
 ·exact ((h.bl.trans (hb.mono h.bl.size)).grown hgrow (Nat.le_trans h.bl.size hb.size) (fun k hk => (h.own.lt k hk).1)).trans ((Below.refl _ _).setCell (p := ⟨gb, 256, none⟩) h.hb v')
 ·intro p hp
  obtain ⟨h1, h2, h3, h4, h5⟩ := h.kp p hp
  have e := hblk p.1 h3 (fun e => h2 e.symm)
  refine ⟨h1, ?_, ?_, ?_, ?_⟩
  ·rw [hv]
   rcases hat with q | q
   ·rw [← q]; exact h2
   ·simp; have := hb.size; omega
  ·rw [World.size_setCell]; exact Nat.lt_of_lt_of_le h3 (Nat.le_trans hb.size hgrow.size)
  ·rw [cell_farC (fun q => h1 q.symm)]
   exact (World.cell?_of_block (w := W) (a := ⟨p.1, 0, none⟩) e).trans h4
  ·rw [cell_farC (fun q => h1 q.symm)]
   exact (World.cell?_of_block (w := W) (a := ⟨p.1, 1, none⟩) e).trans h5
theorem BldS.conv {w W : World} {gb o : Nat} {f : Nat → Value} {v : Value} {xs : List Value} {ks : List (Nat × Value × Value)} (h : BldS w W gb f v xs ks) (s : ByteArray) (hs : s.size = 2) (ho : o < 256) (c : Nat) :
  BldS w ((Lib.bytesWorld W 5 s).setCell ⟨gb, o, none⟩ (.slice (some ⟨W.heap.size, 0, none⟩) s.size c)) gb (fun j => if j = o then .slice (some ⟨W.heap.size, 0, none⟩) s.size c else f j) v xs
   ((W.heap.size, .int .u8 ((s.data.toList.getD 0 0).toNat), .int .u8 ((s.data.toList.getD 1 0).toNat)) :: ks) := by
 have hgl := h.row.lt
 have hB : Below W.heap.size W (Lib.bytesWorld W 5 s) := ⟨rfl, rfl, rfl, by rw [Lib.bytesWorld_size]; omega, fun k hk => Lib.bytesWorld_at_old W _ s k hk⟩
 refine ⟨(h.row.of_block (hB.block gb hgl)).set o _, ?_, by show (if 256 = o then _ else f 256) = v; rw [if_neg (by omega)]; exact h.last, h.ne, ?_, h.hb, ?_⟩
 ·exact ownsRow_setCell_other (own_later h.own hB) (a := ⟨gb, o, none⟩) (fun e => h.ne gb e rfl) _
 ·exact (h.bl.trans (hB.mono h.bl.size)).trans ((Below.refl _ _).setCell (p := ⟨gb, o, none⟩) h.hb _)
 ·intro p hp
  rcases List.mem_cons.1 hp with rfl | hp
  ·refine ⟨by simp; omega, fun e => by have := (h.own.lt _ e).2; simp at this, by rw [World.size_setCell, Lib.bytesWorld_size]; simp, ?_, ?_⟩
   ·rw [cell_farC (by omega)]
    exact Lib.bytesWorld_cell W _ s 0 (by omega)
   ·rw [cell_farC (by omega)]
    exact Lib.bytesWorld_cell W _ s 1 (by omega)
  ·obtain ⟨h1, h2, h3, h4, h5⟩ := h.kp p hp
   refine ⟨h1, h2, ?_, ?_, ?_⟩
   ·rw [World.size_setCell, Lib.bytesWorld_size]; omega
   ·rw [cell_farC (fun q => h1 q.symm)]
    exact (hB.cell (p := ⟨p.1, 0, none⟩) h3).trans h4
   ·rw [cell_farC (fun q => h1 q.symm)]
    exact (hB.cell (p := ⟨p.1, 1, none⟩) h3).trans h5
structure RepN (w : World) (b g c : Nat) (m : Int) : Prop where
 bk : w.heap[b]? = some (.cells #[.int .u32 0, .int .i32 m, .int .u32 0, .nilIface, .slice (some ⟨g, 0, none⟩) 4 c] 110 (0, 0))
 s0 : w.cell? ⟨g, 0, none⟩ = some (.string ⟨#[34]⟩)
 s1 : w.cell? ⟨g, 1, none⟩ = some (.string ⟨#[92, 34]⟩)
 s2 : w.cell? ⟨g, 2, none⟩ = some (.string ⟨#[92]⟩)
 s3 : w.cell? ⟨g, 3, none⟩ = some (.string ⟨#[92, 92]⟩)
theorem info_strC : (Tryz.prog.info? 9).map (fun i => (i.zero, i.size, i.bytes)) = some (some (.string ⟨#[]⟩), 1, 16) := by kernel_rfl
theorem thereS (w : World) : (w.alloc (.cells zeroS 175)).there w.heap.size 0 257 := fun j hj => by
 have hb := heap_alloc_new w (.cells zeroS 175)
 refine ⟨?_, ?_⟩
 rotate_left
 ·have := World.rowIs_alloc w zeroS 175 (fun _ => .slice none 0 0) (fun i hi => zeroS_at i (by rw [zeroS_size] at hi; exact hi))
  exact this.frozen _
 rw [cell_of_row _ _ _ _ _ _ hb, Nat.zero_add, zeroS_at j hj]
 rfl
set_option maxHeartbeats 3200000 in
set_option maxRecDepth 100000 in
theorem rbuild_any (w : World) (b g c : Nat) (m : Int) (h : RepN w b g c m) :
  Calls Tryz.prog 94 #[.pointer (some ⟨b, 0, none⟩)] w fun e w' => ∃ gb a0 c0 a1 c1 t ct, e = .returned (.iface 176 (.pointer (some ⟨gb, 0, none⟩))) ∧ BsR w' gb a0 c0 a1 c1 t ct ∧ Below w.heap.size w w' := by
 have c4 : w.cell? ⟨b, 4, none⟩ = some (.slice (some ⟨g, 0, none⟩) 4 c) := by rw [cell_of_row _ _ _ _ _ _ h.bk]; rfl
 have s0 := h.s0
 have s1 := h.s1
 have s2 := h.s2
 have s3 := h.s3
 have HH := Lib.hid h
 have HN := Lib.hid (bld_new w)
 obtain ⟨i0, hi, hz0, hz1, hz2⟩ := info_parts info_strC
 have hmk := run_makeSlice (P := Tryz.prog) w 49 9 i0 (.string ⟨#[]⟩) Tryz.underlying49 hi hz0 .i64 .i64 0 2 (by omega) (by omega) (by rw [hz1]; decide) (by rw [hz2]; decide) (by omega)
 rw [hz1] at hmk
 simp only [Value.cells, Int.toNat_zero, Int.reduceToNat, Nat.mul_one] at hmk
 clear h
 go_enter Tryz.func94, Tryz.ntmps94
 go_upto_region 6 with fail
 refine wp_loop_rounds 3 ?_
 rw [rounds_succ]
 go_wp2_with fail
 rw [rounds_succ]
 go_wp2_with fail
 rw [rounds_succ]
 go_upto_region 27 with (first
  | (with_reducible refine wpList_allocS rfl rfl _ rfl (w.heap.size + 1) (World.size_alloc _ _) ?_)
  | ((with_reducible refine wpList_buildS rfl _ rfl _ rfl (bsC (.slice (some ⟨w.heap.size, 0, none⟩) 0 2)).toArray ?hf ?_); (case hf => exact bs_built _ _ _))
  | ((with_reducible refine wpList_storeS rfl _ _ rfl _ rfl (w.heap.size + 1) 0 (bsC (.slice (some ⟨w.heap.size, 0, none⟩) 0 2)) ?hx ?hy ?ht (bsC_len _) (bsC_one _ _ _) ?_); (case hx => rfl); (case hy => rfl); (case ht => exact (by have := thereS (w.alloc (.cells (madeCells #[.string ⟨#[]⟩] 2) 9)); rwa [World.size_alloc] at this))))
 refine wp_forgetB (fun W => ∃ v, BldS w W (w.heap.size + 1) (fun j => if j = 256 then v else .slice none 0 0) v [] [] ∧ v = .slice (some ⟨w.heap.size, 0, none⟩) 0 2) ⟨_, HN.out, rfl⟩ (fun w1 hw1 => ?_)
 obtain ⟨v1, hB1, hv1⟩ := hw1
 subst hv1
 have e92 : ((⟨#[92]⟩ : ByteArray)[0]'(by decide)).toNat = 92 := rfl
 have e34 : ((⟨#[34]⟩ : ByteArray)[0]'(by decide)).toNat = 34 := rfl
 have qn : ∀ (w : World) (a : Option Addr) (n c n' c' : Nat), (binOp .eql 43 (.slice a n c) (.slice none n' c')).run Tryz.prog w = .ok (.bool a.isNone) w := fun w a n c n' c' => Lib.run_eql_slice_nil w _ _ a n c n' c' Tryz.underlying43
 have hcv := fun W => Lib.run_convert_string_bytes (P := Tryz.prog) W 9 43 5
 have hone : ∀ x, ∀ u ∈ ([.string x] : List Value), u.oneCell' = true := by
  intro x u hu; simp at hu; subst hu; rfl
 clear c4 hmk HN
 go_upto_region 28 with fail
 refine wp_loop_rounds 3 ?_
 have hk1 := hB1.bl
 have q01 := keep_cell s2 hk1 (cell_blt s2)
 have q11 := keep_cell s3 hk1 (cell_blt s3)
 have cn1 : w1.cell? ⟨w.heap.size + 1, 92, none⟩ = some (.slice none 0 0) := hB1.row.cell (i := 92) (by omega)
 have ct1 : w1.cell? ⟨w.heap.size + 1, 256, none⟩ = some (.slice (some ⟨w.heap.size, 0, none⟩) 0 2) := by rw [hB1.row.cell (i := 256) (by omega), hB1.last]
 have hown1 := (hB1.own.alloc (.cells #[.int .u8 92] 5)).alloc (.cells #[.string ⟨#[92]⟩] 9)
 have hbb1 := (alloc_below w1 (.cells #[.int .u8 92] 5)).trans ((alloc_below _ (.cells #[.string ⟨#[92]⟩] 9)).mono (by rw [World.size_alloc]; omega))
 have hsz1 : ((w1.alloc (.cells #[.int .u8 92] 5)).alloc (.cells #[.string ⟨#[92]⟩] 9)).heap.size = w1.heap.size + 2 := by rw [World.size_alloc, World.size_alloc]
 have hnb1 : ((w1.alloc (.cells #[.int .u8 92] 5)).alloc (.cells #[.string ⟨#[92]⟩] 9)).heap[w1.heap.size + 1]? = some (.cells #[.string ⟨#[92]⟩] 9 (0, 0)) := by
  have := heap_alloc_new (w1.alloc (.cells #[.int .u8 92] 5)) (.cells #[.string ⟨#[92]⟩] 9)
  rwa [World.size_alloc] at this
 have hst1 : (convert 43 9 (.slice (some ⟨w1.heap.size, 0, none⟩) 1 1)).run Tryz.prog (w1.alloc (.cells #[.int .u8 92] 5)) = .ok (.string ⟨#[92]⟩) (w1.alloc (.cells #[.int .u8 92] 5)) :=
  run_convert_bytes_back (P := Tryz.prog) (w1.alloc (.cells #[.int .u8 92] 5)) 43 9 5 ⟨w1.heap.size, 0, none⟩ 1 [92] Tryz.underlying43 Tryz.underlying5 Tryz.underlying9 (fun j hj => by
   obtain rfl : j = 0 := by simp at hj; omega
   rw [Addr.add_lit, cell_of_row _ _ _ _ _ _ (heap_alloc_new _ _)]
   rfl)
 have HB1 := Lib.hid hB1
 have HBB1 := Lib.hid hbb1
 have HNB1 := Lib.hid hnb1
 have hbase1 : w.heap.size ≤ ((w1.alloc (.cells #[.int .u8 92] 5)).alloc (.cells #[.string ⟨#[92]⟩] 9)).heap.size := Nat.le_trans hk1.size hbb1.size
 clear hB1 hk1 hbb1 hnb1
 rw [rounds_succ]
 go_upto_region 34 with (at_builtin; (refine wpList_append_lies _ rfl (.tmp 119) (.tmp 123) 49 rfl w.heap.size 9 i0 (.string ⟨#[]⟩) 1 16 Tryz.underlying49 hi hz0 hz1 hz2 rfl (by decide) _ 0 [] rfl hown1 ⟨w1.heap.size + 1, 0, none⟩ 1 1 [.string ⟨#[92]⟩] rfl rfl (World.news_of_block HNB1.out) (hone _) (by decide) (by decide) (by decide) hbase1 (w1.heap.size + 2) hsz1 ?_); intro t1 p1 W1 hown' hgrow hat hlt; have hr' := HB1.out.row.of_block ((hgrow.block _ (Nat.lt_of_lt_of_le HB1.out.row.lt HBB1.out.size) (fun e => HB1.out.ne _ e.symm rfl)).trans (HBB1.out.block _ HB1.out.row.lt)); have HB' := Lib.hid (HB1.out.app (x := .string ⟨#[92]⟩) HBB1.out hown' hgrow (by rw [hsz1]; exact hat) rfl); have cp := hr'.cell (i := 256) (by omega); have fp := hr'.frozen 256; clear hown' hgrow hat hlt hr' hown1 hbase1 hsz1 hst1 HNB1 HBB1 HB1 ct1 q01)
 refine wp_forgetB (fun W => BldS w W (w.heap.size + 1) _ _ _ _) HB'.out (fun x1 hx1 => ?_)
 have hrb1 := hx1.row.of_block (Lib.bytesWorld_at_old x1 5 ⟨#[92, 92]⟩ _ hx1.row.lt)
 have cm1 := hrb1.cell (i := 92) (by omega)
 have fm1 := hrb1.frozen 92
 have q21 := keep_cell s3 hx1.bl (cell_blt s3)
 have HX1 := Lib.hid hx1
 clear HB' cp fp hrb1 hx1 cn1 q11
 go_upto_region 29 with fail
 refine wp_forgetB (fun W => BldS w W (w.heap.size + 1) _ _ _ _) (HX1.out.conv (o := 92) ⟨#[92, 92]⟩ rfl (by omega) _) (fun w2 hB2 => ?_)
 clear HX1 cm1 fm1 q21
 go_wp2_with fail
 have hk2 := hB2.bl
 have q02 := keep_cell s0 hk2 (cell_blt s0)
 have q12 := keep_cell s1 hk2 (cell_blt s1)
 have cn2 : w2.cell? ⟨w.heap.size + 1, 34, none⟩ = some (.slice none 0 0) := hB2.row.cell (i := 34) (by omega)
 have ct2 : w2.cell? ⟨w.heap.size + 1, 256, none⟩ = some (.slice (some ⟨t1, 0, none⟩) 1 p1) := by rw [hB2.row.cell (i := 256) (by omega), hB2.last]
 have hown2 := (hB2.own.alloc (.cells #[.int .u8 34] 5)).alloc (.cells #[.string ⟨#[34]⟩] 9)
 have hbb2 := (alloc_below w2 (.cells #[.int .u8 34] 5)).trans ((alloc_below _ (.cells #[.string ⟨#[34]⟩] 9)).mono (by rw [World.size_alloc]; omega))
 have hsz2 : ((w2.alloc (.cells #[.int .u8 34] 5)).alloc (.cells #[.string ⟨#[34]⟩] 9)).heap.size = w2.heap.size + 2 := by rw [World.size_alloc, World.size_alloc]
 have hnb2 : ((w2.alloc (.cells #[.int .u8 34] 5)).alloc (.cells #[.string ⟨#[34]⟩] 9)).heap[w2.heap.size + 1]? = some (.cells #[.string ⟨#[34]⟩] 9 (0, 0)) := by
  have := heap_alloc_new (w2.alloc (.cells #[.int .u8 34] 5)) (.cells #[.string ⟨#[34]⟩] 9)
  rwa [World.size_alloc] at this
 have hst2 : (convert 43 9 (.slice (some ⟨w2.heap.size, 0, none⟩) 1 1)).run Tryz.prog (w2.alloc (.cells #[.int .u8 34] 5)) = .ok (.string ⟨#[34]⟩) (w2.alloc (.cells #[.int .u8 34] 5)) :=
  run_convert_bytes_back (P := Tryz.prog) (w2.alloc (.cells #[.int .u8 34] 5)) 43 9 5 ⟨w2.heap.size, 0, none⟩ 1 [34] Tryz.underlying43 Tryz.underlying5 Tryz.underlying9 (fun j hj => by
   obtain rfl : j = 0 := by simp at hj; omega
   rw [Addr.add_lit, cell_of_row _ _ _ _ _ _ (heap_alloc_new _ _)]
   rfl)
 have HB2 := Lib.hid hB2
 have HBB2 := Lib.hid hbb2
 have HNB2 := Lib.hid hnb2
 have hbase2 : w.heap.size ≤ ((w2.alloc (.cells #[.int .u8 34] 5)).alloc (.cells #[.string ⟨#[34]⟩] 9)).heap.size := Nat.le_trans hk2.size hbb2.size
 clear hB2 hk2 hbb2 hnb2
 rw [rounds_succ]
 go_upto_region 34 with (at_builtin; (refine wpList_append_lies _ rfl (.tmp 119) (.tmp 123) 49 rfl w.heap.size 9 i0 (.string ⟨#[]⟩) 1 16 Tryz.underlying49 hi hz0 hz1 hz2 rfl (by decide) _ 1 [.string ⟨#[92]⟩] rfl hown2 ⟨w2.heap.size + 1, 0, none⟩ 1 1 [.string ⟨#[34]⟩] rfl rfl (World.news_of_block HNB2.out) (hone _) (by decide) (by decide) (by decide) hbase2 (w2.heap.size + 2) hsz2 ?_); intro t2 p2 W2 hown' hgrow hat hlt; have hr' := HB2.out.row.of_block ((hgrow.block _ (Nat.lt_of_lt_of_le HB2.out.row.lt HBB2.out.size) (fun e => HB2.out.ne _ e.symm rfl)).trans (HBB2.out.block _ HB2.out.row.lt)); have HB' := Lib.hid (HB2.out.app (x := .string ⟨#[34]⟩) HBB2.out hown' hgrow (by rw [hsz2]; exact hat) rfl); have cp := hr'.cell (i := 256) (by omega); have fp := hr'.frozen 256; clear hown' hgrow hat hlt hr' hown2 hbase2 hsz2 hst2 HNB2 HBB2 HB2 ct2 q02)
 refine wp_forgetB (fun W => BldS w W (w.heap.size + 1) _ _ _ _) HB'.out (fun x2 hx2 => ?_)
 have hrb2 := hx2.row.of_block (Lib.bytesWorld_at_old x2 5 ⟨#[92, 34]⟩ _ hx2.row.lt)
 have cm2 := hrb2.cell (i := 34) (by omega)
 have fm2 := hrb2.frozen 34
 have q22 := keep_cell s1 hx2.bl (cell_blt s1)
 have HX2 := Lib.hid hx2
 clear HB' cp fp hrb2 hx2 cn2 q12
 go_upto_region 29 with fail
 refine wp_forgetB (fun W => BldS w W (w.heap.size + 1) _ _ _ _) (HX2.out.conv (o := 34) ⟨#[92, 34]⟩ rfl (by omega) _) (fun w3 hB3 => ?_)
 clear HX2 cm2 fm2 q22
 go_wp2_with fail
 have HB3 := Lib.hid hB3
 clear hB3
 rw [rounds_succ]
 go_wp2_with fail
 go_ret
 have hB := HB3.out
 obtain ⟨_, _, _, k4, k5⟩ := hB.kp _ (List.mem_cons_self)
 obtain ⟨_, _, _, k6, k7⟩ := hB.kp _ (List.mem_cons_of_mem _ List.mem_cons_self)
 have ho := hB.own
 have ht := RdAt.own ho
 refine ⟨w.heap.size + 1, x2.heap.size, grownCap x2 2 0 5, x1.heap.size, grownCap x1 2 0 5, t2, p2, rfl, ⟨?_, k4, k5, ?_, k6, k7, ?_, ?_, ?_, ?_⟩, hB.bl⟩
 ·exact hB.row.cell (i := 34) (by omega)
 ·exact hB.row.cell (i := 92) (by omega)
 ·rw [hB.row.cell (i := 256) (by omega), hB.last]
 ·exact ho.cellAt 0 (by decide)
 ·exact ho.cellAt 1 (by decide)
 ·intro j h1 h2 h3
  rw [hB.row.cell (i := j) (by omega), if_neg h2, if_neg (by omega), if_neg h3, if_neg (by omega), if_neg (by omega)]
end Go.Proofs.YtgbapkechngnmaaGreat
/- sync.Once in the run of one goroutine; strings.NewReplacer, (*strings.Replacer).Replace, where " and \ are put behind a \: contracts. (The parts: the kit's worked Lazy turned.) -/
namespace Go.Proofs.YtgbapkechngnmaaGreat
open Go.RowKit
theorem ra_disable (w : World) : (callFunc 155 #[]).run Tryz.prog w = .ok (.value (.tuple #[])) w := run_call_mark0 Tryz.func155 (by kernel_rfl) (by kernel_rfl) (by kernel_rfl) .disable (by kernel_rfl) w
theorem ra_enable (w : World) : (callFunc 157 #[]).run Tryz.prog w = .ok (.value (.tuple #[])) w := run_call_mark0 Tryz.func157 (by kernel_rfl) (by kernel_rfl) (by kernel_rfl) .enable (by kernel_rfl) w
theorem ra_acquire (a : Addr) (w : World) : (callFunc 158 #[.pointer (some a)]).run Tryz.prog w = .ok (.value (.tuple #[])) w := run_call_marked Tryz.func158 (by kernel_rfl) (by kernel_rfl) (by kernel_rfl) .acquire (by kernel_rfl) a w
theorem ra_release (a : Addr) (w : World) : (callFunc 160 #[.pointer (some a)]).run Tryz.prog w = .ok (.value (.tuple #[])) w := run_call_marked Tryz.func160 (by kernel_rfl) (by kernel_rfl) (by kernel_rfl) .releaseMerge (by kernel_rfl) a w
theorem store_deferred (a : Addr) (x : Value) (u : FrameMode) (w : World) (hc : w.cell? a = some x) (hz : w.frozen? a = false) :
  CallsD Tryz.prog 117 #[.pointer (some a), .bool true] u w fun e u' w' => u' = u ∧ (e = .returned (.tuple #[]) ∧ w' = w.drew.setCell a (.int .u32 1)) := by
 have hc' : w.drew.cell? a = some x := by go_simp
 have hz' : w.drew.frozen? a = false := by go_simp
 have hst := run_call_store (P := Tryz.prog) Tryz.func134 (by kernel_rfl) (by kernel_rfl) (by kernel_rfl) (by kernel_rfl) (k := .u32) (y := 1) hc' hz'
 go_enter_d Tryz.func117, Tryz.ntmps117
 go_wp2
 go_region_calls
 all_goals (go_end0; exact ⟨rfl, rfl⟩)
set_option maxRecDepth 100000 in
theorem unlock_deferred (a : Addr) (u : FrameMode) (w : World) (hc : w.cell? a = some (.int .i32 1)) (hz : w.frozen? a = false) :
  CallsD Tryz.prog 116 #[.pointer (some a)] u w fun e u' w' => u' = u ∧ (e = .returned (.tuple #[]) ∧ w' = w.setCell a (.int .i32 0)) := by
 have hd := ra_disable
 have he := ra_enable
 have hr := ra_release
 have hadd := run_call_add (P := Tryz.prog) Tryz.func161 (by kernel_rfl) (by kernel_rfl) (by kernel_rfl) .i32 (by kernel_rfl) (y := -1) (s := 0) hc hz (by simp [go_sem]; rfl)
 have hcv := run_convert_to_unsafe (P := Tryz.prog) (src := 221) (dst := 177) Tryz.underlying221 Tryz.underlying177 (by kernel_rfl) hc
 go_enter_d Tryz.func116, Tryz.ntmps116
 go_wp2
 go_end0
 go_wp2
 go_end0
 exact ⟨rfl, rfl⟩
set_option maxRecDepth 100000 in
theorem lock_free (a : Addr) (w : World) (hc : w.cell? a = some (.int .i32 0)) (hz : w.frozen? a = false) :
  Calls Tryz.prog 115 #[.pointer (some a)] w fun e w' => e = .returned (.tuple #[]) ∧ w' = w.setCell a (.int .i32 1) := by
 have hd := ra_disable
 have he := ra_enable
 have ha := ra_acquire
 have hcas := run_call_cas_hit (P := Tryz.prog) Tryz.func156 (by kernel_rfl) (by kernel_rfl) (by kernel_rfl) .i32 (by kernel_rfl) (y := 1) hc hz
 have hc' : (w.setCell a (.int .i32 1)).cell? a = some (.int .i32 1) := World.cell?_setCell_same w a _ hc
 have hcv := run_convert_to_unsafe (P := Tryz.prog) (src := 221) (dst := 177) Tryz.underlying221 Tryz.underlying177 (by kernel_rfl) hc'
 go_enter Tryz.func115, Tryz.ntmps115
 go_wp2
 first | go_end0 | (simp only [Exit.inBlock, Exit.then]; refine bodyPost_ret (results_none rfl _ _ _) rfl ?_) | refine bodyPost_ret (results_none rfl _ _ _) rfl ?_
 go_wp2
 go_end0
 exact ⟨rfl, rfl⟩
theorem block_setCell_o {w : World} {b i k : Nat} {v : Value} (h : k ≠ b) : (w.setCell ⟨b, i, none⟩ v).heap[k]? = w.heap[k]? := by
 simp only [World.setCell, Array.getElem?_modify]
 rw [if_neg (fun e => h e.symm)]
theorem block_setCell_s {w : World} {b i : Nat} {cs : Array Value} {T : TypeId} {fr : Nat × Nat} (hb : w.heap[b]? = some (.cells cs T fr)) (v : Value) :
  (w.setCell ⟨b, i, none⟩ v).heap[b]? = some (.cells (cs.setIfInBounds i v) T fr) := by
 simp [World.setCell, Array.getElem?_modify, hb]
theorem grownBy_trans {w w1 w2 : World} {r : Option Nat} (h : w.grownBy w1 r) (k : w1.grownBy w2 r) : w.grownBy w2 r :=
 ⟨k.os.trans h.os, k.tape.trans h.tape, k.output.trans h.output, Nat.le_trans h.size k.size, fun i hi hr => (k.block i (Nat.lt_of_lt_of_le hi h.size) hr).trans (h.block i hi hr)⟩
theorem grownBy_set {w : World} {b i : Nat} {v : Value} : w.grownBy (w.setCell ⟨b, i, none⟩ v) (some b) :=
 ⟨rfl, rfl, rfl, by rw [World.size_setCell]; exact Nat.le_refl _, fun k _ hr => block_setCell_o (fun e => hr (by rw [e]))⟩
theorem grownBy_below {w w1 : World} {r : Option Nat} (h : Below w.heap.size w w1) : w.grownBy w1 r := below_grown h r
theorem BsR.far {w W : World} {gb a0 c0 a1 c1 t ct b : Nat} {d m : Int} {x2 x3 x4 : Value} (h : BsR w gb a0 c0 a1 c1 t ct) (hb : w.heap[b]? = some (.cells #[.int .u32 d, .int .i32 m, x2, x3, x4] 110 (0, 0)))
  (hg : w.grownBy W (some b)) : BsR W gb a0 c0 a1 c1 t ct := by
 have n0 : gb ≠ b := fun e => by
  subst e
  have := h.q
  rw [cell_of_row _ _ _ _ _ _ hb] at this
  simp at this
 have ne : ∀ {k : Nat} {v : Value}, w.cell? ⟨k, 0, none⟩ = some v → v ≠ .int .u32 d → k ≠ b := fun {k v} hc hv e => by
  subst e
  rw [cell_of_row _ _ _ _ _ _ hb] at hc
  exact hv (Option.some.inj hc).symm
 have n1 := ne h.q0 (by simp)
 have n2 := ne h.b0 (by simp)
 have n3 := ne h.tt0 (by simp)
 have keep : ∀ {k j : Nat} {v : Value}, k ≠ b → w.cell? ⟨k, j, none⟩ = some v → W.cell? ⟨k, j, none⟩ = some v := fun {k j v} hk hc =>
  (World.cell?_of_block (w := w) (a := ⟨k, j, none⟩) (hg.block k (cell_blt hc) (fun e => hk (Option.some.inj e)))).trans hc
 exact ⟨keep n0 h.q, keep n1 h.q0, keep n1 h.q1, keep n0 h.b, keep n2 h.b0, keep n2 h.b1, keep n0 h.tt, keep n3 h.tt0, keep n3 h.tt1, fun j h1 h2 h3 => keep n0 (h.n j h1 h2 h3)⟩
theorem bonce_any (w : World) (b g c : Nat) (m : Int) (h : RepN w b g c m) :
  Calls Tryz.prog 73 #[.pointer (some ⟨b, 0, none⟩)] w fun e w' => e = .returned (.tuple #[]) ∧ ∃ gb a0 c0 a1 c1 t ct,
   w'.heap[b]? = some (.cells #[.int .u32 0, .int .i32 m, .int .u32 0, .iface 176 (.pointer (some ⟨gb, 0, none⟩)), .slice none 0 0] 110 (0, 0)) ∧ BsR w' gb a0 c0 a1 c1 t ct ∧ w.grownBy w' (some b) := by
 have k := rbuild_any w b g c m h
 have hlt : b < w.heap.size := (Array.getElem?_eq_some_iff.1 h.bk).1
 have HB := Lib.hid h.bk
 clear h
 go_enter Tryz.func73, Tryz.ntmps73
 go_wp2_with fail
 refine k.mono ?_
 rintro e w1 ⟨gb, a0, c0, a1, c1, t, ct, rfl, hR, hb1⟩
 have hbk := (hb1.block b hlt).trans HB.out
 have c3 : w1.cell? ⟨b, 3, none⟩ = some .nilIface := by rw [cell_of_row _ _ _ _ _ _ hbk]; rfl
 have c4 : w1.cell? ⟨b, 4, none⟩ = some (.slice (some ⟨g, 0, none⟩) 4 c) := by rw [cell_of_row _ _ _ _ _ _ hbk]; rfl
 have ff : ∀ j, w1.frozen? ⟨b, j, none⟩ = false := fun j => by simp [World.frozen?, hbk]
 have f3 := ff 3
 have f4 := ff 4
 have HR := Lib.hid hR
 have HBK := Lib.hid hbk
 have HB1 := Lib.hid hb1
 clear k hR hbk hb1 ff
 go_wp2
 go_end0
 have hg : w1.grownBy ((w1.setCell ⟨b, 3, none⟩ (.iface 176 (.pointer (some ⟨gb, 0, none⟩)))).setCell ⟨b, 4, none⟩ (.slice none 0 0)) (some b) := grownBy_trans grownBy_set grownBy_set
 refine ⟨rfl, gb, a0, c0, a1, c1, t, ct, ?_, HR.out.far HBK.out hg, grownBy_trans (grownBy_below HB1.out) hg⟩
 exact block_setCell_s (i := 4) (block_setCell_s (i := 3) HBK.out _) _
structure RepB (w : World) (b gb a0 c0 a1 c1 t ct : Nat) : Prop where
 bk : w.heap[b]? = some (.cells #[.int .u32 1, .int .i32 0, .int .u32 0, .iface 176 (.pointer (some ⟨gb, 0, none⟩)), .slice none 0 0] 110 (0, 0))
 r : BsR w gb a0 c0 a1 c1 t ct
set_option maxRecDepth 100000 in
set_option maxHeartbeats 1600000 in
theorem slow_any (w : World) (b g c : Nat) (h : RepN w b g c 0) :
  Calls Tryz.prog 93 #[.pointer (some ⟨b, 0, none⟩), .func (.func 73) #[.pointer (some ⟨b, 0, none⟩)] #[]] w fun e w' => e = .returned (.tuple #[]) ∧ ∃ gb a0 c0 a1 c1 t ct, RepB w' b gb a0 c0 a1 c1 t ct ∧ w.grownBy w' (some b) := by
 have c0 : w.cell? ⟨b, 0, none⟩ = some (.int .u32 0) := by rw [cell_of_row _ _ _ _ _ _ h.bk]; rfl
 have c1 : w.cell? ⟨b, 1, none⟩ = some (.int .i32 0) := by rw [cell_of_row _ _ _ _ _ _ h.bk]; rfl
 have f1 : w.frozen? ⟨b, 1, none⟩ = false := by simp [World.frozen?, h.bk]
 have hg1 : w.grownBy (w.setCell ⟨b, 1, none⟩ (.int .i32 1)) (some b) := grownBy_set
 have hbk1 := block_setCell_s (i := 1) h.bk (.int .i32 1)
 have ng : ∀ {v : Value} {j : Nat}, w.cell? ⟨g, j, none⟩ = some v → (w.setCell ⟨b, 1, none⟩ (.int .i32 1)).cell? ⟨g, j, none⟩ = some v := fun {v j} hc => by
  have n : b ≠ g := fun e => by
   have := h.s0
   rw [← e, c0] at this
   simp at this
  rw [cell_farC n]; exact hc
 have h1 : RepN (w.setCell ⟨b, 1, none⟩ (.int .i32 1)) b g c 1 := ⟨hbk1, ng h.s0, ng h.s1, ng h.s2, ng h.s3⟩
 have kl := lock_free ⟨b, 1, none⟩ w c1 f1
 have kb := bonce_any _ b g c 1 h1
 have hl := run_call_load (P := Tryz.prog) Tryz.func114 (by kernel_rfl) (by kernel_rfl) (by kernel_rfl) .u32 (by kernel_rfl) (w := w.setCell ⟨b, 1, none⟩ (.int .i32 1)) (a := ⟨b, 0, none⟩) (x := 0) (by rw [cell_of_row _ _ _ _ _ _ hbk1]; rfl)
 have hnot : ∀ (x : Bool) (w : World), (Op.unary .not (.bool x)).run Tryz.prog w = .ok (.bool (!x)) w := fun _ _ => rfl
 clear ng hbk1 f1 h h1 c0 c1
 go_enter_defers Tryz.func93, Tryz.ntmps93
 go_wp2_with fail
 refine kl.mono ?_
 rintro e w' ⟨rfl, rfl⟩
 clear kl
 go_wp2_with (go_at_call 92; go_in)
 refine kb.mono ?_
 rintro e w2 ⟨rfl, gb, a0, c0, a1, c1, t, ct, hbk2, hR, hg2⟩
 have d0 : w2.cell? ⟨b, 0, none⟩ = some (.int .u32 0) := by rw [cell_of_row _ _ _ _ _ _ hbk2]; rfl
 have d1 : w2.cell? ⟨b, 1, none⟩ = some (.int .i32 1) := by rw [cell_of_row _ _ _ _ _ _ hbk2]; rfl
 have ff : ∀ j, w2.frozen? ⟨b, j, none⟩ = false := fun j => by simp [World.frozen?, hbk2]
 have HBK := Lib.hid hbk2
 have HR := Lib.hid hR
 have HG := Lib.hid (grownBy_trans hg1 hg2)
 clear kb hl hbk2 hR hg1 hg2
 go_wp2
 refine leaves_cons (f := 117) (args := #[.pointer (some ⟨b, 0, none⟩), .bool true]) (by simp) (by simp [go_sem]) ?_
 refine (store_deferred ⟨b, 0, none⟩ (.int .u32 0) .returning _ d0 (ff 0)).mono ?_
 rintro e u' w'' ⟨rfl, rfl, rfl⟩
 refine leaves_cons (f := 116) (args := #[.pointer (some ⟨b, 1, none⟩)]) (by simp [settle]) (by simp [go_sem]) ?_
 refine (unlock_deferred ⟨b, 1, none⟩ _ _ ?_ (by simp [ff])).mono ?_
 ·exact (World.cell?_setCell_other _ ⟨b, 0, none⟩ ⟨b, 1, none⟩ _ (by simp)).trans (by rw [World.cell?_drew]; exact d1)
 rintro e u' w'' ⟨rfl, rfl, rfl⟩
 have hd : w2.grownBy w2.drew (some b) := grownBy_below ⟨rfl, rfl, rfl, Nat.le_refl _, fun _ _ => rfl⟩
 have hE : w2.grownBy ((w2.drew.setCell ⟨b, 0, none⟩ (.int .u32 1)).setCell ⟨b, 1, none⟩ (.int .i32 0)) (some b) := grownBy_trans hd (grownBy_trans grownBy_set grownBy_set)
 have hF : RepB ((w2.drew.setCell ⟨b, 0, none⟩ (.int .u32 1)).setCell ⟨b, 1, none⟩ (.int .i32 0)) b gb a0 c0 a1 c1 t ct :=
  ⟨block_setCell_s (i := 1) (block_setCell_s (w := w2.drew) (i := 0) HBK.out _) _, HR.out.far HBK.out hE⟩
 have hG := grownBy_trans HG.out hE
 simp [Leaves, settle, results, Tryz.results93]
 exact ⟨⟨gb, a0, c0, a1, c1, t, ct, hF⟩, hG⟩
theorem do_first (w : World) (b g c : Nat) (h : RepN w b g c 0) :
  Calls Tryz.prog 72 #[.pointer (some ⟨b, 0, none⟩), .func (.func 73) #[.pointer (some ⟨b, 0, none⟩)] #[]] w fun e w' => e = .returned (.tuple #[]) ∧ ∃ gb a0 c0 a1 c1 t ct, RepB w' b gb a0 c0 a1 c1 t ct ∧ w.grownBy w' (some b) := by
 have h0 : w.cell? ⟨b, 0, none⟩ = some (.int .u32 0) := by rw [cell_of_row _ _ _ _ _ _ h.bk]; rfl
 have hl := run_call_load (P := Tryz.prog) Tryz.func114 (by kernel_rfl) (by kernel_rfl) (by kernel_rfl) .u32 (by kernel_rfl) h0
 have hnot : ∀ (x : Bool) (w : World), (Op.unary .not (.bool x)).run Tryz.prog w = .ok (.bool (!x)) w := fun _ _ => rfl
 have ks := slow_any w b g c h
 clear h h0
 go_enter Tryz.func72, Tryz.ntmps72
 go_wp2_with (go_at_call 92; go_in)
 refine ks.mono ?_
 rintro e w2 ⟨rfl, hR⟩
 have HR := Lib.hid hR
 clear ks hl hR
 go_wp2
 go_end0
 exact ⟨rfl, HR.out⟩
theorem do_done (w : World) (a : Addr) (d : Int) (hd : ¬ d = 0) (fv : Value) (h0 : w.cell? a = some (.int .u32 d)) :
  Calls Tryz.prog 72 #[.pointer (some a), fv] w fun e w' => e = .returned (.tuple #[]) ∧ w' = w := by
 have hl := run_call_load (P := Tryz.prog) Tryz.func114 (by kernel_rfl) (by kernel_rfl) (by kernel_rfl) .u32 (by kernel_rfl) h0
 have hnot : ∀ (x : Bool) (w : World), (Op.unary .not (.bool x)).run Tryz.prog w = .ok (.bool (!x)) w := fun _ _ => rfl
 have hd' : (d != 0) = true := by simp [hd]
 go_enter Tryz.func72, Tryz.ntmps72
 go_wp2
 go_end0
 exact ⟨rfl, rfl⟩
def RepAt (w : World) (b : Nat) : Prop := (∃ g c, RepN w b g c 0) ∨ (∃ gb a0 c0 a1 c1 t ct, RepB w b gb a0 c0 a1 c1 t ct)
theorem once_any (w : World) (b : Nat) (h : RepAt w b) :
  Calls Tryz.prog 72 #[.pointer (some ⟨b, 0, none⟩), .func (.func 73) #[.pointer (some ⟨b, 0, none⟩)] #[]] w fun e w' => e = .returned (.tuple #[]) ∧ ∃ gb a0 c0 a1 c1 t ct, RepB w' b gb a0 c0 a1 c1 t ct ∧ w.grownBy w' (some b) := by
 rcases h with ⟨g, c, h⟩ | ⟨gb, a0, c0, a1, c1, t, ct, h⟩
 ·exact do_first w b g c h
 ·refine (do_done w ⟨b, 0, none⟩ 1 (by decide) _ (by rw [cell_of_row _ _ _ _ _ _ h.bk]; rfl)).mono ?_
  rintro e w' ⟨rfl, rfl⟩
  exact ⟨rfl, gb, a0, c0, a1, c1, t, ct, h, grownBy_refl _ _⟩
set_option maxHeartbeats 1600000 in
set_option maxRecDepth 100000 in
theorem rrepl_core (w : World) (b : Nat) (s : ByteArray) (hs : s.size ≤ 1000000) (P : World → Prop)
  (ko : Calls Tryz.prog 72 #[.pointer (some ⟨b, 0, none⟩), .func (.func 73) #[.pointer (some ⟨b, 0, none⟩)] #[]] w fun e w' => e = .returned (.tuple #[]) ∧ ∃ gb a0 c0 a1 c1 t ct, RepB w' b gb a0 c0 a1 c1 t ct ∧ P w') :
  Calls Tryz.prog 50 #[.pointer (some ⟨b, 0, none⟩), .string s] w fun e w' => ∃ r w1, e = .returned (.string r) ∧ B r = escB (B s) ∧ P w1 ∧ (∃ gb a0 c0 a1 c1 t ct, RepB w' b gb a0 c0 a1 c1 t ct) ∧ Below w1.heap.size w1 w' := by
 have kc : ∀ c W, Calls Tryz.prog 209 #[.string s, .string ⟨#[c]⟩] W fun e w' => e = .returned (.int .i64 ((B s).count c)) ∧ w' = W := fun c W => Tryz.strings_Count_one s c W
 go_enter Tryz.func50, Tryz.ntmps50
 go_wp2_with fail
 refine ko.mono ?_
 rintro e w1 ⟨rfl, gb, a0, c0, a1, c1, t, ct, hR, hP⟩
 have kr := bsr_any s w1 gb a0 c0 a1 c1 t ct hR.r hs kc
 have c3 : w1.cell? ⟨b, 3, none⟩ = some (.iface 176 (.pointer (some ⟨gb, 0, none⟩))) := by rw [cell_of_row _ _ _ _ _ _ hR.bk]; rfl
 have HR := Lib.hid hR
 have HP := Lib.hid hP
 have hm : ∀ w : World, (method 371 176 (.pointer (some ⟨gb, 0, none⟩)) "Replace").run Tryz.prog w = .ok (207, .pointer (some ⟨gb, 0, none⟩)) w := fun _ => by kernel_rfl
 clear ko kc hR hP
 go_wp2_with fail
 refine kr.mono ?_
 rintro e w2 ⟨r, rfl, hr, hb2⟩
 have HB := Lib.hid hr
 have HB2 := Lib.hid hb2
 clear kr hr hb2
 go_wp2
 go_ret
 have hlt : b < w1.heap.size := (Array.getElem?_eq_some_iff.1 HR.out.bk).1
 exact ⟨r, w1, rfl, HB.out, HP.out, ⟨gb, a0, c0, a1, c1, t, ct, (HB2.out.block b hlt).trans HR.out.bk, HR.out.r.later HB2.out⟩, HB2.out⟩
theorem rreplace_any (w : World) (b : Nat) (s : ByteArray) (h : RepAt w b) (hs : s.size ≤ 1000000) :
  Calls Tryz.prog 50 #[.pointer (some ⟨b, 0, none⟩), .string s] w fun e w' => ∃ r, e = .returned (.string r) ∧ B r = escB (B s) ∧ (∃ gb a0 c0 a1 c1 t ct, RepB w' b gb a0 c0 a1 c1 t ct) ∧ w.grownBy w' (some b) := by
 refine (rrepl_core w b s hs (fun W => w.grownBy W (some b)) (once_any w b h)).mono ?_
 rintro e w' ⟨r, w1, rfl, hr, hg, hR, hb⟩
 exact ⟨r, rfl, hr, hR, grownBy_trans hg (grownBy_below hb)⟩
theorem rrepS_any (w : World) (b gb a0 c0 a1 c1 t ct : Nat) (s : ByteArray) (h : RepB w b gb a0 c0 a1 c1 t ct) (hs : s.size ≤ 1000000) :
  Calls Tryz.prog 50 #[.pointer (some ⟨b, 0, none⟩), .string s] w fun e w' => ∃ r, e = .returned (.string r) ∧ B r = escB (B s) ∧ Below w.heap.size w w' := by
 refine (rrepl_core w b s hs (fun W => W = w) ?_).mono ?_
 ·refine (do_done w ⟨b, 0, none⟩ 1 (by decide) _ (by rw [cell_of_row _ _ _ _ _ _ h.bk]; rfl)).mono ?_
  rintro e w' ⟨rfl, rfl⟩
  exact ⟨rfl, gb, a0, c0, a1, c1, t, ct, h, rfl⟩
 ·rintro e w' ⟨r, w1, rfl, hr, rfl, _, hb⟩
  exact ⟨r, rfl, hr, hb⟩
theorem strs4_cells (a b c d : ByteArray) : ∀ y ∈ ([.string a, .string b, .string c, .string d] : List Value), y.oneCell' = true := by
 intro y hy
 simp at hy
 rcases hy with rfl | rfl | rfl | rfl <;> rfl
set_option maxHeartbeats 1600000 in
set_option maxRecDepth 100000 in
theorem newrep_any (w : World) (g : Nat) (hg : w.heap[g]? = some (.cells #[.string ⟨#[34]⟩, .string ⟨#[92, 34]⟩, .string ⟨#[92]⟩, .string ⟨#[92, 92]⟩] 9 (0, 0))) :
  Calls Tryz.prog 48 #[.slice (some ⟨g, 0, none⟩) 4 4] w fun e w' => ∃ b, e = .returned (.pointer (some ⟨b, 0, none⟩)) ∧ RepAt w' b ∧ Below w.heap.size w w' ∧ w.heap.size ≤ b := by
 obtain ⟨i0, hi, hz0, hz1, hz2⟩ := info_parts info_strC
 have hnews := World.news_of_block hg
 clear hg
 go_enter Tryz.func48, Tryz.ntmps48
 go_wp2_with (at_builtin; (refine wpList_append_lies _ rfl _ (.tmp 8) 49 rfl w.heap.size 9 i0 (.string ⟨#[]⟩) 1 16 Tryz.underlying49 hi hz0 hz1 hz2 rfl (by decide) _ 0 [] rfl (World.ownsRow_nil _ _ _ _) ⟨g, 0, none⟩ 4 4 _ rfl rfl hnews (strs4_cells _ _ _ _) (by decide) (by decide) (by decide) (Nat.le_refl _) _ rfl ?_); intro q cap w1 hown hgrow hat hlt; have HO := Lib.hid hown; have HG := Lib.hid hgrow; clear hown hgrow hat hlt)
 go_ret
 have hB : Below w.heap.size w w1 := (Below.refl _ _).grown HG.out (Nat.le_refl _) (fun k hk => by cases hk)
 have hc := fun j hj => HO.out.cellAt j hj
 refine ⟨w1.heap.size, rfl, .inl ⟨q, cap, ⟨heap_alloc_new _ _, ?_, ?_, ?_, ?_⟩⟩, hB.alloc hB.size _, hB.size⟩
 ·exact keep_cell (hc 0 (by decide)) (alloc_below _ _) (cell_blt (hc 0 (by decide)))
 ·exact keep_cell (hc 1 (by decide)) (alloc_below _ _) (cell_blt (hc 1 (by decide)))
 ·exact keep_cell (hc 2 (by decide)) (alloc_below _ _) (cell_blt (hc 2 (by decide)))
 ·exact keep_cell (hc 3 (by decide)) (alloc_below _ _) (cell_blt (hc 3 (by decide)))
end Go.Proofs.YtgbapkechngnmaaGreat
/- match.Fits: a contract. -/
namespace Go.Proofs.YtgbapkechngnmaaGreat
open Go.RowKit
noncomputable def fitB (p t : ByteArray) : Bool := @decide (FitsP p t) (Classical.propDecidable _)
theorem fitB_iff {p t : ByteArray} : fitB p t = true ↔ FitsP p t := @decide_eq_true_iff _ (Classical.propDecidable _)
theorem fits_b (p t : ByteArray) (W : World) (ht : t.size ≤ maxLen) : Calls Tryz.prog 40 #[.string p, .string t] W fun e w' => e = .returned (.bool (fitB p t)) ∧ Below W.heap.size W w' := by
 refine (tfits_is p t W ht).mono ?_
 rintro e w' ⟨b, rfl, h1, h2⟩
 have : b = fitB p t := by rw [Bool.eq_iff_iff, fitB_iff]; exact h1
 rw [this]
 exact ⟨rfl, h2⟩
noncomputable def opM (m : Mt) (v : ByteArray) : Bool :=
 if m.op = 0 then v.toList == m.val.toList else if m.op = 1 then !(v.toList == m.val.toList) else if m.op = 2 then fitB m.val v else !(fitB m.val v)
noncomputable def fitM (l : List Fld) (m : Mt) : Bool := fineM m && opM m (valueF l m.nm)
theorem valueF_size {l : List Fld} (hf : FldsFit l) (n : ByteArray) : (valueF l n).size ≤ maxLen := by
 unfold valueF
 split
 ·rename_i f h
  exact (hf f (List.mem_of_find?_eq_some h)).2
 ·exact Nat.zero_le _
theorem not_fn (g : Nat) (w : World) : Calls Tryz.prog 39 #[.func (.func g) #[] #[]] w fun e w' => e = .returned (.func (.func 65) #[] #[.pointer (some ⟨w.heap.size, 0, none⟩)]) ∧ w' = w.alloc (.cells #[.func (.func g) #[] #[]] 56) := by
 go_enter Tryz.func39, Tryz.ntmps39
 go_wp2
 go_ret
 exact ⟨rfl, rfl⟩
theorem not_is (a v : ByteArray) (b : Nat) (w : World) (hc : w.cell? ⟨b, 0, none⟩ = some (.func (.func 38) #[] #[])) : Calls Tryz.prog 65 #[.string a, .string v, .pointer (some ⟨b, 0, none⟩)] w fun e w' => e = .returned (.bool (!(v.toList == a.toList))) ∧ Below w.heap.size w w' := by
 have k := is_any a v w
 go_enter Tryz.func65, Tryz.ntmps65
 go_wp2_with fail
 refine k.mono ?_
 rintro e w1 ⟨rfl, hb⟩
 clear k
 go_wp2
 go_ret
 exact ⟨rfl, hb⟩
theorem not_fits (a v : ByteArray) (b : Nat) (w : World) (hv : v.size ≤ maxLen) (hc : w.cell? ⟨b, 0, none⟩ = some (.func (.func 40) #[] #[])) : Calls Tryz.prog 65 #[.string a, .string v, .pointer (some ⟨b, 0, none⟩)] w fun e w' => e = .returned (.bool (!(fitB a v))) ∧ Below w.heap.size w w' := by
 have k := fits_b a v w hv
 generalize fitB a v = r at *
 go_enter Tryz.func65, Tryz.ntmps65
 go_wp2_with fail
 refine k.mono ?_
 rintro e w1 ⟨rfl, hb⟩
 clear k
 go_wp2
 go_ret
 exact ⟨rfl, hb⟩
structure FitBox (w : World) (nm : ByteArray) (op : Int) (val : ByteArray) (W : World) : Prop where
 b : Below w.heap.size w W
 z : w.heap.size + 2 < W.heap.size
 a0 : W.cell? ⟨w.heap.size, 0, none⟩ = some (.string nm)
 a1 : W.cell? ⟨w.heap.size, 1, none⟩ = some (.int .i64 op)
 a2 : W.cell? ⟨w.heap.size, 2, none⟩ = some (.string val)
 f1 : W.cell? ⟨w.heap.size + 1, 0, none⟩ = some (.func (.func 38) #[] #[])
 f2 : W.cell? ⟨w.heap.size + 2, 0, none⟩ = some (.func (.func 40) #[] #[])
theorem FitBox.later {w : World} {nm : ByteArray} {op : Int} {val : ByteArray} {W W' : World} (h : FitBox w nm op val W) (hb : Below W.heap.size W W') : FitBox w nm op val W' := by
 obtain ⟨b, z, a0, a1, a2, f1, f2⟩ := h
 exact ⟨b.trans (hb.mono b.size), Nat.lt_of_lt_of_le z hb.size, keep_cell a0 hb (by omega), keep_cell a1 hb (by omega), keep_cell a2 hb (by omega), keep_cell f1 hb (by omega), keep_cell f2 hb (by omega)⟩
theorem FitBox.mk3 (w : World) (nm : ByteArray) (op : Int) (val : ByteArray) (t u : TypeId) : FitBox w nm op val (((w.alloc (.cells #[.string nm, .int .i64 op, .string val] t)).alloc (.cells #[.func (.func 38) #[] #[]] u)).alloc (.cells #[.func (.func 40) #[] #[]] u)) := by
 have b1 := alloc_below w (.cells #[.string nm, .int .i64 op, .string val] t)
 have s1 := World.size_alloc w (.cells #[.string nm, .int .i64 op, .string val] t)
 have x1 := heap_alloc_new w (.cells #[.string nm, .int .i64 op, .string val] t)
 generalize w.alloc (.cells #[.string nm, .int .i64 op, .string val] t) = w1 at *
 have b2 := alloc_below w1 (.cells #[.func (.func 38) #[] #[]] u)
 have s2 := World.size_alloc w1 (.cells #[.func (.func 38) #[] #[]] u)
 have x2 := heap_alloc_new w1 (.cells #[.func (.func 38) #[] #[]] u)
 generalize w1.alloc (.cells #[.func (.func 38) #[] #[]] u) = w2 at *
 have b3 := alloc_below w2 (.cells #[.func (.func 40) #[] #[]] u)
 have s3 := World.size_alloc w2 (.cells #[.func (.func 40) #[] #[]] u)
 have x3 := heap_alloc_new w2 (.cells #[.func (.func 40) #[] #[]] u)
 generalize w2.alloc (.cells #[.func (.func 40) #[] #[]] u) = w3 at *
 rw [s1] at x2
 rw [show w2.heap.size = w.heap.size + 2 by omega] at x3
 have k : ∀ i v, w1.cell? ⟨w.heap.size, i, none⟩ = some v → w3.cell? ⟨w.heap.size, i, none⟩ = some v := fun i v h => keep_cell (keep_cell h b2 (by omega)) b3 (by omega)
 refine ⟨(b1.trans (b2.mono (by omega))).trans (b3.mono (by omega)), by omega, k _ _ ?_, k _ _ ?_, k _ _ ?_, keep_cell ?_ b3 (by omega), ?_⟩
 ·rw [cell_of_row _ _ _ _ _ _ x1]; rfl
 ·rw [cell_of_row _ _ _ _ _ _ x1]; rfl
 ·rw [cell_of_row _ _ _ _ _ _ x1]; rfl
 ·rw [cell_of_row _ _ _ _ _ _ x2]; rfl
 ·rw [cell_of_row _ _ _ _ _ _ x3]; rfl
theorem store_row_step {P : Program} {W : World} {g j : Nat} {arr : Array Value} {t : TypeId} {v : Value} (hg : W.heap[g]? = some (.cells arr t (0, 0))) (hj : j < arr.size) (h1 : v.oneCell' = true) :
  ∃ W', (store ⟨g, j, none⟩ v).run P W = .ok () W' ∧ W'.heap[g]? = some (.cells (arr.setIfInBounds j v) t (0, 0)) ∧ Below g W W' := by
 have hc : W.cell? ⟨g, j, none⟩ = some arr[j] := by rw [cell_of_row _ _ _ _ _ _ hg]; exact Array.getElem?_eq_getElem hj
 have hf : W.frozen? ⟨g, j, none⟩ = false := by simp [World.frozen?, hg]
 refine ⟨W.setCell ⟨g, j, none⟩ v, ?_, ?_, ?_⟩
 ·rw [run_store P W _ v _ h1, hc, hf]; rfl
 ·simp [World.setCell, Array.getElem?_modify, hg]
 ·refine ⟨rfl, rfl, rfl, by simp [World.setCell], fun k hk => ?_⟩
  have : g ≠ k := by omega
  simp [World.setCell, Array.getElem?_modify, this]
set_option maxHeartbeats 3200000 in
set_option maxRecDepth 100000 in
theorem fits_any (l : List Fld) (m : Mt) (w : World) (v : Value) (hv : FldsAt w v l) (hl : l.length ≤ 1000000000000) (hfit : FldsFit l) (hf : MtFit m) :
  Calls Tryz.prog 14 #[v, .agg #[.string m.nm, .int .i64 m.op, .string m.val]] w fun e w' => e = .returned (.bool (fitM l m)) ∧ Below w.heap.size w w' := by
 have kn := fun W => not_fn 38 W
 have kp := fun W => not_fn 40 W
 have kf := fun W => mfine_any m W hf
 have kv := fun W (hW : Below w.heap.size w W) => value_any l m.nm W v (hv.later hW) hl
 have hvs := valueF_size hfit m.nm
 have HM : Hid (fitM l m = (fineM m && opM m (valueF l m.nm))) := Lib.hid rfl
 have HO : Hid (∀ u, opM m u = if m.op = 0 then u.toList == m.val.toList else if m.op = 1 then !(u.toList == m.val.toList) else if m.op = 2 then fitB m.val u else !(fitB m.val u)) := Lib.hid (fun _ => rfl)
 have HT : Hid (fineM m = true → 0 ≤ m.op ∧ m.op ≤ 3) := Lib.hid (fun h => ⟨(fineM_true h).2.1, (fineM_true h).2.2.1⟩)
 obtain ⟨fa, fc, rfl, _, _⟩ := RdAt.shape hv
 generalize l.length = fn at *
 generalize valueF l m.nm = u at *
 generalize fitM l m = R at *
 generalize fineM m = N at *
 have HOU := Lib.hid (HO.out u)
 clear HO
 generalize opM m u = OU at *
 obtain ⟨nm, op, val⟩ := m
 dsimp only at *
 have HN := Lib.hid kn
 have HP := Lib.hid kp
 have HFI := Lib.hid kf
 have HV := Lib.hid kv
 clear hv hfit hf kn kp kf kv
 have kn := HN.out (w.alloc (.cells #[.string nm, .int .i64 op, .string val] 29))
 go_enter Tryz.func14, Tryz.ntmps14
 go_wp2_with fail
 refine kn.mono ?_
 rintro e w1 ⟨rfl, hw1⟩
 clear kn
 obtain rfl := hw1.symm
 clear hw1
 have kp := HP.out ((w.alloc (.cells #[.string nm, .int .i64 op, .string val] 29)).alloc (.cells #[.func (.func 38) #[] #[]] 56))
 go_wp2_with fail
 refine kp.mono ?_
 rintro e w2 ⟨rfl, hw2⟩
 clear kp
 have FB : FitBox w nm op val w2 := by rw [hw2]; exact FitBox.mk3 w nm op val _ _
 clear hw2
 have HFB := Lib.hid FB
 clear FB
 rw [World.size_alloc]
 have hx := heap_alloc_new w2 (.cells #[.nilFunc, .nilFunc, .nilFunc, .nilFunc] 58)
 have hba := alloc_below w2 (.cells #[.nilFunc, .nilFunc, .nilFunc, .nilFunc] 58)
 obtain ⟨s1, hs1, hx1, hb1⟩ := store_row_step (P := Tryz.prog) (j := 0) (v := .func (.func 38) #[] #[]) hx (by simp) rfl
 obtain ⟨s2, hs2, hx2, hb2⟩ := store_row_step (P := Tryz.prog) (j := 1) (v := .func (.func 65) #[] #[.pointer (some ⟨w.heap.size + 1, 0, none⟩)]) hx1 (by simp) rfl
 obtain ⟨s3, hs3, hx3, hb3⟩ := store_row_step (P := Tryz.prog) (j := 2) (v := .func (.func 40) #[] #[]) hx2 (by simp) rfl
 obtain ⟨s4, hs4, hx4, hb4⟩ := store_row_step (P := Tryz.prog) (j := 3) (v := .func (.func 65) #[] #[.pointer (some ⟨w.heap.size + 1 + 1, 0, none⟩)]) hx3 (by simp) rfl
 have FB := HFB.out.later ((((hba.trans hb1).trans hb2).trans hb3).trans hb4)
 have hz4 : w2.heap.size < s4.heap.size := (Array.getElem?_eq_some_iff.1 hx4).1
 have D0 : s4.cell? ⟨w2.heap.size, 0, none⟩ = some (.func (.func 38) #[] #[]) := by rw [cell_of_row _ _ _ _ _ _ hx4]; rfl
 have D1 : s4.cell? ⟨w2.heap.size, 1, none⟩ = some (.func (.func 65) #[] #[.pointer (some ⟨w.heap.size + 1, 0, none⟩)]) := by rw [cell_of_row _ _ _ _ _ _ hx4]; rfl
 have D2 : s4.cell? ⟨w2.heap.size, 2, none⟩ = some (.func (.func 40) #[] #[]) := by rw [cell_of_row _ _ _ _ _ _ hx4]; rfl
 have D3 : s4.cell? ⟨w2.heap.size, 3, none⟩ = some (.func (.func 65) #[] #[.pointer (some ⟨w.heap.size + 1 + 1, 0, none⟩)]) := by rw [cell_of_row _ _ _ _ _ _ hx4]; rfl
 clear hx hx1 hx2 hx3 hx4 hba hb1 hb2 hb3 hb4 HFB
 go_upto_region 2 with fail
 obtain ⟨fb, fz, a0, a1, a2, f1, f2⟩ := FB
 have y0 : w.heap.size < s4.heap.size := by omega
 have y1 : w.heap.size + 1 < s4.heap.size := by omega
 have y2 : w.heap.size + 1 + 1 < s4.heap.size := by omega
 have F1 := Lib.hid f1
 have F2 := Lib.hid f2
 have FBB := Lib.hid fb
 clear f1 f2 fb fz hs1 hs2 hs3 hs4
 cases N with
 | false =>
  refine wp_region_held_drew (S := (fun W' => W'.cell? ⟨w.heap.size, 0, none⟩ = some (.string nm) ∧ W'.cell? ⟨w.heap.size, 1, none⟩ = some (.int .i64 op) ∧ W'.cell? ⟨w.heap.size, 2, none⟩ = some (.string val))) (by kernel_rfl) ⟨a0, a1, a2⟩ (fun hHeld => ?_)
  refine hT (i := 0) (v := ?_) rfl rfl hHeld ?_ ?_
  rotate_left
  ·rintro wh ⟨z0, z1, z2⟩
   go_simp
   (try with_reducible rfl)
  simp only [Act.put, List.setIfInBounds_toArray, List.set_cons_zero, List.set_cons_succ]
  refine held_call (i := 1) rfl (by kernel_rfl) (by rfl) (fun K hK => ?_)
  (go_simp; go_at_call 23; refine (HFI.out _).mono ?_; rintro e w5 ⟨rfl, hb5⟩; have hB5 : Below s4.heap.size s4 w5 := ((Below.refl _ _).drew).trans hb5)
  refine hK.out _ _ ⟨keep_cell a0 hB5 y0, keep_cell a1 hB5 y0, keep_cell a2 hB5 y0⟩ (fun hHeld => ?_)
  clear hK K
  (try simp only [Act.put, List.setIfInBounds_toArray, List.set_cons_zero, List.set_cons_succ])
  refine hT (i := 2) (v := ?_) rfl rfl hHeld ?_ ?_
  rotate_left
  ·rintro wh ⟨z0, z1, z2⟩
   go_simp
   (try with_reducible rfl)
  simp only [Act.put, List.setIfInBounds_toArray, List.set_cons_zero, List.set_cons_succ]
  refine plIn [3, 4, 5, 6, 7, 8, 9, 10, 11, 12, 13] ?_
  iterate 11
   refine hK rfl rfl hHeld ?_
   simp only [Act.put, List.setIfInBounds_toArray, List.set_cons_zero, List.set_cons_succ]
  refine plOut ?_
  refine plIn [14, 15] ?_
  iterate 2
   refine hP (v := ?_) rfl rfl hHeld ?_ ?_
   rotate_left
   ·rintro wh ⟨z0, z1, z2⟩
    go_simp
    (try with_reducible rfl)
   simp only [Act.put, List.setIfInBounds_toArray, List.set_cons_zero, List.set_cons_succ]
  refine plOut ?_
  refine wpAnyH_done (by kernel_rfl) ?_ _
  have HB := Lib.hid (FBB.out.trans (hB5.mono FBB.out.size))
  go_wp2
  go_ret
  exact ⟨by rw [HM.out]; rfl, HB.out⟩
 | true =>
  have ht := HT.out rfl
  rcases (show op = 0 ∨ op = 1 ∨ op = 2 ∨ op = 3 by omega) with rfl | rfl | rfl | rfl
  ·clear ht
   rw [if_pos rfl] at HOU
   refine wp_region_held_drew (S := (fun W' => W'.cell? ⟨w.heap.size, 0, none⟩ = some (.string nm) ∧ W'.cell? ⟨w.heap.size, 1, none⟩ = some (.int .i64 0) ∧ W'.cell? ⟨w.heap.size, 2, none⟩ = some (.string val) ∧ W'.cell? ⟨w2.heap.size, 0, none⟩ = some (.func (.func 38) #[] #[]))) (by kernel_rfl) ⟨a0, a1, a2, D0⟩ (fun hHeld => ?_)
   refine hT (i := 0) (v := ?_) rfl rfl hHeld ?_ ?_
   rotate_left
   ·rintro wh ⟨z0, z1, z2, z3⟩
    go_simp
    (try with_reducible rfl)
   simp only [Act.put, List.setIfInBounds_toArray, List.set_cons_zero, List.set_cons_succ]
   refine held_call (i := 1) rfl (by kernel_rfl) (by rfl) (fun K hK => ?_)
   (go_simp; go_at_call 23; refine (HFI.out _).mono ?_; rintro e w5 ⟨rfl, hb5⟩; have hB5 : Below s4.heap.size s4 w5 := ((Below.refl _ _).drew).trans hb5)
   refine hK.out _ _ ⟨keep_cell a0 hB5 y0, keep_cell a1 hB5 y0, keep_cell a2 hB5 y0, keep_cell D0 hB5 hz4⟩ (fun hHeld => ?_)
   clear hK K
   (try simp only [Act.put, List.setIfInBounds_toArray, List.set_cons_zero, List.set_cons_succ])
   refine plIn [2, 3, 4, 5, 6, 7, 8, 9, 10, 11] ?_
   iterate 10
    refine hP (v := ?_) rfl rfl hHeld ?_ ?_
    rotate_left
    ·rintro wh ⟨z0, z1, z2, z3⟩
     go_simp
     (try with_reducible rfl)
    simp only [Act.put, List.setIfInBounds_toArray, List.set_cons_zero, List.set_cons_succ]
   refine plOut ?_
   refine held_call (i := 12) rfl (by kernel_rfl) (by rfl) (fun K hK => ?_)
   (go_simp; go_at_call 16; refine (HV.out _ (FBB.out.trans (hB5.mono FBB.out.size))).mono ?_; rintro e w6 ⟨rfl, hb6⟩; have hB6 : Below s4.heap.size s4 w6 := hB5.trans (hb6.mono hB5.size))
   refine hK.out _ _ ⟨keep_cell a0 hB6 y0, keep_cell a1 hB6 y0, keep_cell a2 hB6 y0, keep_cell D0 hB6 hz4⟩ (fun hHeld => ?_)
   clear hK K
   (try simp only [Act.put, List.setIfInBounds_toArray, List.set_cons_zero, List.set_cons_succ])
   refine held_call (i := 13) rfl (by kernel_rfl) (by rfl) (fun K hK => ?_)
   (go_simp; go_at_call 38; refine (is_any _ _ _).mono ?_; rintro e w7 ⟨rfl, hb7⟩; have hB7 : Below s4.heap.size s4 w7 := hB6.trans (hb7.mono hB6.size))
   refine hK.out _ _ ⟨keep_cell a0 hB7 y0, keep_cell a1 hB7 y0, keep_cell a2 hB7 y0, keep_cell D0 hB7 hz4⟩ (fun hHeld => ?_)
   clear hK K
   (try simp only [Act.put, List.setIfInBounds_toArray, List.set_cons_zero, List.set_cons_succ])
   refine plIn [14, 15] ?_
   iterate 2
    refine hP (v := ?_) rfl rfl hHeld ?_ ?_
    rotate_left
    ·rintro wh ⟨z0, z1, z2, z3⟩
     go_simp
     (try with_reducible rfl)
    simp only [Act.put, List.setIfInBounds_toArray, List.set_cons_zero, List.set_cons_succ]
   refine plOut ?_
   refine wpAnyH_done (by kernel_rfl) ?_ _
   have HB := Lib.hid (FBB.out.trans (hB7.mono FBB.out.size))
   go_wp2
   go_ret
   exact ⟨by rw [HM.out, HOU.out]; rfl, HB.out⟩
  ·clear ht
   rw [if_neg (by decide), if_pos rfl] at HOU
   refine wp_region_held_drew (S := (fun W' => W'.cell? ⟨w.heap.size, 0, none⟩ = some (.string nm) ∧ W'.cell? ⟨w.heap.size, 1, none⟩ = some (.int .i64 1) ∧ W'.cell? ⟨w.heap.size, 2, none⟩ = some (.string val) ∧ W'.cell? ⟨w2.heap.size, 1, none⟩ = some (.func (.func 65) #[] #[.pointer (some ⟨w.heap.size + 1, 0, none⟩)]))) (by kernel_rfl) ⟨a0, a1, a2, D1⟩ (fun hHeld => ?_)
   refine hT (i := 0) (v := ?_) rfl rfl hHeld ?_ ?_
   rotate_left
   ·rintro wh ⟨z0, z1, z2, z3⟩
    go_simp
    (try with_reducible rfl)
   simp only [Act.put, List.setIfInBounds_toArray, List.set_cons_zero, List.set_cons_succ]
   refine held_call (i := 1) rfl (by kernel_rfl) (by rfl) (fun K hK => ?_)
   (go_simp; go_at_call 23; refine (HFI.out _).mono ?_; rintro e w5 ⟨rfl, hb5⟩; have hB5 : Below s4.heap.size s4 w5 := ((Below.refl _ _).drew).trans hb5)
   refine hK.out _ _ ⟨keep_cell a0 hB5 y0, keep_cell a1 hB5 y0, keep_cell a2 hB5 y0, keep_cell D1 hB5 hz4⟩ (fun hHeld => ?_)
   clear hK K
   (try simp only [Act.put, List.setIfInBounds_toArray, List.set_cons_zero, List.set_cons_succ])
   refine plIn [2, 3, 4, 5, 6, 7, 8, 9, 10, 11] ?_
   iterate 10
    refine hP (v := ?_) rfl rfl hHeld ?_ ?_
    rotate_left
    ·rintro wh ⟨z0, z1, z2, z3⟩
     go_simp
     (try with_reducible rfl)
    simp only [Act.put, List.setIfInBounds_toArray, List.set_cons_zero, List.set_cons_succ]
   refine plOut ?_
   refine held_call (i := 12) rfl (by kernel_rfl) (by rfl) (fun K hK => ?_)
   (go_simp; go_at_call 16; refine (HV.out _ (FBB.out.trans (hB5.mono FBB.out.size))).mono ?_; rintro e w6 ⟨rfl, hb6⟩; have hB6 : Below s4.heap.size s4 w6 := hB5.trans (hb6.mono hB5.size))
   refine hK.out _ _ ⟨keep_cell a0 hB6 y0, keep_cell a1 hB6 y0, keep_cell a2 hB6 y0, keep_cell D1 hB6 hz4⟩ (fun hHeld => ?_)
   clear hK K
   (try simp only [Act.put, List.setIfInBounds_toArray, List.set_cons_zero, List.set_cons_succ])
   refine held_call (i := 13) rfl (by kernel_rfl) (by rfl) (fun K hK => ?_)
   (go_simp; go_at_call 65; refine (not_is _ _ _ _ (keep_cell F1.out hB6 y1)).mono ?_; rintro e w7 ⟨rfl, hb7⟩; have hB7 : Below s4.heap.size s4 w7 := hB6.trans (hb7.mono hB6.size))
   refine hK.out _ _ ⟨keep_cell a0 hB7 y0, keep_cell a1 hB7 y0, keep_cell a2 hB7 y0, keep_cell D1 hB7 hz4⟩ (fun hHeld => ?_)
   clear hK K
   (try simp only [Act.put, List.setIfInBounds_toArray, List.set_cons_zero, List.set_cons_succ])
   refine plIn [14, 15] ?_
   iterate 2
    refine hP (v := ?_) rfl rfl hHeld ?_ ?_
    rotate_left
    ·rintro wh ⟨z0, z1, z2, z3⟩
     go_simp
     (try with_reducible rfl)
    simp only [Act.put, List.setIfInBounds_toArray, List.set_cons_zero, List.set_cons_succ]
   refine plOut ?_
   refine wpAnyH_done (by kernel_rfl) ?_ _
   have HB := Lib.hid (FBB.out.trans (hB7.mono FBB.out.size))
   go_wp2
   go_ret
   exact ⟨by rw [HM.out, HOU.out]; rfl, HB.out⟩
  ·clear ht
   rw [if_neg (by decide), if_neg (by decide), if_pos rfl] at HOU
   refine wp_region_held_drew (S := (fun W' => W'.cell? ⟨w.heap.size, 0, none⟩ = some (.string nm) ∧ W'.cell? ⟨w.heap.size, 1, none⟩ = some (.int .i64 2) ∧ W'.cell? ⟨w.heap.size, 2, none⟩ = some (.string val) ∧ W'.cell? ⟨w2.heap.size, 2, none⟩ = some (.func (.func 40) #[] #[]))) (by kernel_rfl) ⟨a0, a1, a2, D2⟩ (fun hHeld => ?_)
   refine hT (i := 0) (v := ?_) rfl rfl hHeld ?_ ?_
   rotate_left
   ·rintro wh ⟨z0, z1, z2, z3⟩
    go_simp
    (try with_reducible rfl)
   simp only [Act.put, List.setIfInBounds_toArray, List.set_cons_zero, List.set_cons_succ]
   refine held_call (i := 1) rfl (by kernel_rfl) (by rfl) (fun K hK => ?_)
   (go_simp; go_at_call 23; refine (HFI.out _).mono ?_; rintro e w5 ⟨rfl, hb5⟩; have hB5 : Below s4.heap.size s4 w5 := ((Below.refl _ _).drew).trans hb5)
   refine hK.out _ _ ⟨keep_cell a0 hB5 y0, keep_cell a1 hB5 y0, keep_cell a2 hB5 y0, keep_cell D2 hB5 hz4⟩ (fun hHeld => ?_)
   clear hK K
   (try simp only [Act.put, List.setIfInBounds_toArray, List.set_cons_zero, List.set_cons_succ])
   refine plIn [2, 3, 4, 5, 6, 7, 8, 9, 10, 11] ?_
   iterate 10
    refine hP (v := ?_) rfl rfl hHeld ?_ ?_
    rotate_left
    ·rintro wh ⟨z0, z1, z2, z3⟩
     go_simp
     (try with_reducible rfl)
    simp only [Act.put, List.setIfInBounds_toArray, List.set_cons_zero, List.set_cons_succ]
   refine plOut ?_
   refine held_call (i := 12) rfl (by kernel_rfl) (by rfl) (fun K hK => ?_)
   (go_simp; go_at_call 16; refine (HV.out _ (FBB.out.trans (hB5.mono FBB.out.size))).mono ?_; rintro e w6 ⟨rfl, hb6⟩; have hB6 : Below s4.heap.size s4 w6 := hB5.trans (hb6.mono hB5.size))
   refine hK.out _ _ ⟨keep_cell a0 hB6 y0, keep_cell a1 hB6 y0, keep_cell a2 hB6 y0, keep_cell D2 hB6 hz4⟩ (fun hHeld => ?_)
   clear hK K
   (try simp only [Act.put, List.setIfInBounds_toArray, List.set_cons_zero, List.set_cons_succ])
   refine held_call (i := 13) rfl (by kernel_rfl) (by rfl) (fun K hK => ?_)
   (go_simp; go_at_call 40; refine (fits_b _ _ _ hvs).mono ?_; rintro e w7 ⟨rfl, hb7⟩; have hB7 : Below s4.heap.size s4 w7 := hB6.trans (hb7.mono hB6.size))
   refine hK.out _ _ ⟨keep_cell a0 hB7 y0, keep_cell a1 hB7 y0, keep_cell a2 hB7 y0, keep_cell D2 hB7 hz4⟩ (fun hHeld => ?_)
   clear hK K
   (try simp only [Act.put, List.setIfInBounds_toArray, List.set_cons_zero, List.set_cons_succ])
   refine plIn [14, 15] ?_
   iterate 2
    refine hP (v := ?_) rfl rfl hHeld ?_ ?_
    rotate_left
    ·rintro wh ⟨z0, z1, z2, z3⟩
     go_simp
     (try with_reducible rfl)
    simp only [Act.put, List.setIfInBounds_toArray, List.set_cons_zero, List.set_cons_succ]
   refine plOut ?_
   refine wpAnyH_done (by kernel_rfl) ?_ _
   have HB := Lib.hid (FBB.out.trans (hB7.mono FBB.out.size))
   go_wp2
   go_ret
   exact ⟨by rw [HM.out, HOU.out]; rfl, HB.out⟩
  ·clear ht
   rw [if_neg (by decide), if_neg (by decide), if_neg (by decide)] at HOU
   refine wp_region_held_drew (S := (fun W' => W'.cell? ⟨w.heap.size, 0, none⟩ = some (.string nm) ∧ W'.cell? ⟨w.heap.size, 1, none⟩ = some (.int .i64 3) ∧ W'.cell? ⟨w.heap.size, 2, none⟩ = some (.string val) ∧ W'.cell? ⟨w2.heap.size, 3, none⟩ = some (.func (.func 65) #[] #[.pointer (some ⟨w.heap.size + 1 + 1, 0, none⟩)]))) (by kernel_rfl) ⟨a0, a1, a2, D3⟩ (fun hHeld => ?_)
   refine hT (i := 0) (v := ?_) rfl rfl hHeld ?_ ?_
   rotate_left
   ·rintro wh ⟨z0, z1, z2, z3⟩
    go_simp
    (try with_reducible rfl)
   simp only [Act.put, List.setIfInBounds_toArray, List.set_cons_zero, List.set_cons_succ]
   refine held_call (i := 1) rfl (by kernel_rfl) (by rfl) (fun K hK => ?_)
   (go_simp; go_at_call 23; refine (HFI.out _).mono ?_; rintro e w5 ⟨rfl, hb5⟩; have hB5 : Below s4.heap.size s4 w5 := ((Below.refl _ _).drew).trans hb5)
   refine hK.out _ _ ⟨keep_cell a0 hB5 y0, keep_cell a1 hB5 y0, keep_cell a2 hB5 y0, keep_cell D3 hB5 hz4⟩ (fun hHeld => ?_)
   clear hK K
   (try simp only [Act.put, List.setIfInBounds_toArray, List.set_cons_zero, List.set_cons_succ])
   refine plIn [2, 3, 4, 5, 6, 7, 8, 9, 10, 11] ?_
   iterate 10
    refine hP (v := ?_) rfl rfl hHeld ?_ ?_
    rotate_left
    ·rintro wh ⟨z0, z1, z2, z3⟩
     go_simp
     (try with_reducible rfl)
    simp only [Act.put, List.setIfInBounds_toArray, List.set_cons_zero, List.set_cons_succ]
   refine plOut ?_
   refine held_call (i := 12) rfl (by kernel_rfl) (by rfl) (fun K hK => ?_)
   (go_simp; go_at_call 16; refine (HV.out _ (FBB.out.trans (hB5.mono FBB.out.size))).mono ?_; rintro e w6 ⟨rfl, hb6⟩; have hB6 : Below s4.heap.size s4 w6 := hB5.trans (hb6.mono hB5.size))
   refine hK.out _ _ ⟨keep_cell a0 hB6 y0, keep_cell a1 hB6 y0, keep_cell a2 hB6 y0, keep_cell D3 hB6 hz4⟩ (fun hHeld => ?_)
   clear hK K
   (try simp only [Act.put, List.setIfInBounds_toArray, List.set_cons_zero, List.set_cons_succ])
   refine held_call (i := 13) rfl (by kernel_rfl) (by rfl) (fun K hK => ?_)
   (go_simp; go_at_call 65; refine (not_fits _ _ _ _ hvs (keep_cell F2.out hB6 y2)).mono ?_; rintro e w7 ⟨rfl, hb7⟩; have hB7 : Below s4.heap.size s4 w7 := hB6.trans (hb7.mono hB6.size))
   refine hK.out _ _ ⟨keep_cell a0 hB7 y0, keep_cell a1 hB7 y0, keep_cell a2 hB7 y0, keep_cell D3 hB7 hz4⟩ (fun hHeld => ?_)
   clear hK K
   (try simp only [Act.put, List.setIfInBounds_toArray, List.set_cons_zero, List.set_cons_succ])
   refine plIn [14, 15] ?_
   iterate 2
    refine hP (v := ?_) rfl rfl hHeld ?_ ?_
    rotate_left
    ·rintro wh ⟨z0, z1, z2, z3⟩
     go_simp
     (try with_reducible rfl)
    simp only [Act.put, List.setIfInBounds_toArray, List.set_cons_zero, List.set_cons_succ]
   refine plOut ?_
   refine wpAnyH_done (by kernel_rfl) ?_ _
   have HB := Lib.hid (FBB.out.trans (hB7.mono FBB.out.size))
   go_wp2
   go_ret
   exact ⟨by rw [HM.out, HOU.out]; rfl, HB.out⟩
end Go.Proofs.YtgbapkechngnmaaGreat
/- Slices of strings that are read: what lies in memory, said plainly. -/
namespace Go.Proofs.YtgbapkechngnmaaGreat
open Go.RowKit
def StrsAt (w : World) (v : Value) (ws : List ByteArray) : Prop := RdAt w v ws.length 1 (ws.map Value.string) ∧ ws.length ≤ 1073741824
theorem StrsAt.shape {w : World} {v : Value} {ws : List ByteArray} (h : StrsAt w v ws) : ∃ a c, v = .slice a ws.length c ∧ ws.length ≤ c ∧
  (ws ≠ [] → ∃ b o, a = some ⟨b, o, none⟩ ∧ b < w.heap.size ∧ ∀ (j : Nat) x, ws[j]? = some x → w.cell? ⟨b, o + j, none⟩ = some (.string x)) := by
 obtain ⟨a, c, hv, hc, hr⟩ := h.1.shape
 refine ⟨a, c, hv, hc, fun hne => ?_⟩
 obtain ⟨b, o, ha, hlt, hcell⟩ := hr (List.length_pos_iff.2 hne)
 exact ⟨b, o, ha, hlt, fun j x hx => hcell j _ (by rw [List.getElem?_map, hx]; rfl)⟩
theorem B_inj {a b : ByteArray} (h : B a = B b) : a = b := ByteArray.ext (Array.toList_inj.1 h)
theorem B_append (a b : ByteArray) : B (a ++ b) = B a ++ B b := by simp [B]
end Go.Proofs.YtgbapkechngnmaaGreat
