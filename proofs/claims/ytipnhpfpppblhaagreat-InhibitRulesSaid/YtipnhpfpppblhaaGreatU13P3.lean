/- What several claims of this seat share: contracts of the functions that they reach. -/
import Derived.Test.YtipnhpfpppblhaaGreatU13P2
import Derived.Deep.OwnRows
import Derived.Great.Ranges
import Derived.Test.YtipnhpfpppblhaaGreatShelf
import Derived.Sort.WalkA
import Derived.Sort.AssemblyPlain
import Derived.WalkKit
import Derived.BigGuard
import Derived.BigCall
import Derived.CellFam
import Derived.Deep.Draws
import Derived.Deep.QuietTactic
import Derived.BigQuiet
import Derived.Shelf.SlIter.Collect
import Derived.RangeFuncFrom
import Derived.RangeFuncBox
import Derived.RangeFuncNested
import Derived.Maps.OwnIn
import Derived.Sort.OwnSorted
import Derived.Test.YtipnhpfpppblhaaGreatBase
import Derived.Lib.Hide
import Derived.DeepKeys4
import Derived.Maps.Ext
import Derived.Maps.OwnOps
import Derived.Test.YtipnhpfpppblhaaGreatRows
import Derived.Test.YtipnhpfpppblhaaGreatBox
import Derived.WalkSpells
import Derived.Laws.Rows
import Derived.Laws.Tables
import Derived.Laws.CopyOwn
import Derived.Deep.DeepCutAuto
import Derived.StillTailTactics

/- The reference's either: a contract (with row's for less fuel). -/
namespace Go.Proofs.YtipnhpfpppblhaaGreat
open Go.RowKit
def ELoop (w0 : World) (g : Nat) (s : ByteArray) (d N : Nat) (r : Bs × (Nat × Nat)) (a : Re) (w : World) : Prop :=
 ∃ (m : Nat) (b : Bs) (p : Nat × Nat) (l : List (List Value)) (acc : Re) (kv : Value), m ≤ N ∧ b.err = 0 ∧ b.pos ≤ s.size + 12 - d ∧ fuelM s b (.alts p) ≤ m ∧ l.length ≤ b.pos ∧
  Hid (runM s m (.alts p) d b = r) ∧ Hid (reM s m (.alts p) acc d b = a) ∧ Hid (Clr w0 w g s b (nodeC 1 noB kv)) ∧ Hid (Un w0 w kv 1 l acc True)
set_option maxHeartbeats 12800000 in
set_option maxRecDepth 100000 in
theorem either_is (n : Nat) (hrow : NdK 130 .row n) : NdK 118 .either (n + 1) := by
 intro m hm w g s d b h he hd hp _ hs hf
 simp only [fuelM] at hf
 obtain ⟨m, rfl⟩ : ∃ m', m = m' + 2 := ⟨m - 2, by omega⟩
 obtain ⟨r, hr⟩ : ∃ r, runM s (m + 1) (.alts (b.sts.length, b.sts.length + 1)) d (nodeM (nodeM b)) = r := ⟨_, rfl⟩
 obtain ⟨a, ha⟩ : ∃ a, reM s (m + 1) (.alts (b.sts.length, b.sts.length + 1)) .no d (nodeM (nodeM b)) = a := ⟨_, rfl⟩
 have e1 : runM s (m + 2) .either d b = r := by rw [runM]; exact hr
 have e2 : reM s (m + 2) .either .no d b = a := by rw [reM]; exact ha
 rw [e1, e2]
 have HR0 := Lib.hid hr
 have HA0 := Lib.hid ha
 obtain ⟨b0, hb0⟩ : ∃ b0, nodeM (nodeM b) = b0 := ⟨_, rfl⟩
 have hbp : b0.pos = b.pos := by rw [← hb0]; rfl
 have hbe : b0.err = 0 := by rw [← hb0]; exact he
 have h0 : RdrAt w g s b0 := h.congr hbp.symm (by rw [hbe]; exact he)
 rw [hb0] at HR0 HA0
 have hc := Clr.new h0 1 143
 have HC0 := Lib.hid hc
 have HROW := Lib.hid hrow
 obtain ⟨i0, hi, hz0, hz1, hz2⟩ := info_parts info_node
 clear hrow hr ha e1 e2 hb0 hc h h0
 go_enter Tryz.func118, Tryz.ntmps118
 go_wp2_with (first
  | (with_reducible refine wpList_allocN rfl rfl _ rfl w.heap.size rfl ?_)
  | (with_reducible refine wpList_allocN rfl rfl _ rfl (w.heap.size + 1) (World.size_alloc _ _) ?_)
  | ((with_reducible refine wpList_buildN rfl _ rfl _ rfl (zeroN 1) ?hf ?_); (case hf => exact node_built1))
  | ((with_reducible refine wpList_storeN rfl _ _ rfl _ rfl (w.heap.size + 1) 0 (nodeC 1 noB nilS) ?hx ?hy ?ht (nodeC_len _ _ _) (oneN _ _) ?_); (case hx => rfl); (case hy => rfl); (case ht => exact (by have := there_new (w.alloc (.cells (zeroN 0) 143)) 0 143; rwa [World.size_alloc] at this))))
 refine wp_forget2 (fun W => Clr w W g s b0 (nodeC 1 noB nilS)) HC0.out (fun w1 hw1 => ?_)
 have H1 := Lib.hid hw1
 clear hw1 HC0
 simp only [Act.put, List.setIfInBounds_toArray, List.set_cons_zero, List.set_cons_succ]
 go_loopw [] (fun wr => ELoop w g s d (m + 1) r a wr) (fun wr => s.size + 15 - rposAt wr g)
 case atStart => exact ⟨m + 1, b0, _, [], .no, nilS, Nat.le_refl _, hbe, by omega, by simp only [fuelM]; omega, by simp, HR0, HA0, H1, Lib.hid (Un.nil w w1 (fun P => .a0) True)⟩
 case round =>
  clear H1 HR0 HA0 hbp hbe b0
  obtain ⟨k, b, p, l, acc, kv, hk, he, hp, hf, hl, HR, HA, HC, HU⟩ := hrel
  simp only [fuelM] at hf
  obtain ⟨k, rfl⟩ : ∃ k', k = k' + 1 := ⟨k - 1, by omega⟩
  have ok := runM_ok s k .row d b hd hp (fun h => by cases h) trivial (by simp only [fuelM]; omega)
  obtain ⟨g1, _, _, q3, _⟩ := ok
  have hgp := g1.pos
  clear g1
  have HR' := HR.out
  have HA' := HA.out
  rw [runM] at HR'
  rw [reM] at HA'
  (try dsimp only at HR' HA')
  have hkr := fun W (h : RdrAt W g s b) => HROW.out k (by omega) W g s d b h he hd hp (fun h => by cases h) hs (by simp only [fuelM]; omega)
  obtain ⟨rr, hrr⟩ : ∃ rr, runM s k .row d b = rr := ⟨_, rfl⟩
  obtain ⟨ra, hra⟩ : ∃ ra, reM s k .row .no d b = ra := ⟨_, rfl⟩
  rw [hrr] at HR' HA' hkr q3 hgp
  rw [hra] at HA' hkr
  obtain ⟨b2, hb2⟩ : ∃ b2, freeM (freeM rr.1 p.1 rr.2.1) rr.2.2 p.2 = b2 := ⟨_, rfl⟩
  have hp2 : b2.pos = rr.1.pos := by rw [← hb2]; rfl
  have he2 : b2.err = rr.1.err := by rw [← hb2]; rfl
  rw [hb2] at HR' HA'
  have HR1 := Lib.hid HR'
  have HA1 := Lib.hid HA'
  have KR := Lib.hid hkr
  clear HR' HA' hrr hra hb2 hkr HR HA
  have hl60 : l.length ≤ 200 := by omega
  have hRP : Hid (rposAt wr g = b.pos) := Lib.hid HC.out.rdr.posAt
  go_upto_region 2 with fail
  refine wp_region_heldS 8 (S := (fun W => W.cell? ⟨w.heap.size + 1, 257, none⟩ = some kv)) (by kernel_rfl) (HC.out.nd.cell (nodeC_kids _ _ _)) (fun hHeld => ?_)
  refine heldS_take (i := 0) (v := ?_) rfl rfl (by kernel_rfl) (by kernel_rfl) (by kernel_rfl) (by kernel_rfl) (by kernel_rfl) (fun _ _ _ h => h) (by rfl) hHeld ?_ ?_
  rotate_left
  ·rintro wh hS
   go_simp
   (try with_reducible rfl)
  simp only [Act.put, List.setIfInBounds_toArray, List.set_cons_zero, List.set_cons_succ]
  refine heldS_take (i := 1) (v := ?_) rfl rfl (by kernel_rfl) (by kernel_rfl) (by kernel_rfl) (by kernel_rfl) (by kernel_rfl) (fun _ _ _ h => h) (by rfl) hHeld ?_ ?_
  rotate_left
  ·rintro wh hS
   go_simp
   (try with_reducible rfl)
  simp only [Act.put, List.setIfInBounds_toArray, List.set_cons_zero, List.set_cons_succ]
  refine heldS_take (i := 2) (v := ?_) rfl rfl (by kernel_rfl) (by kernel_rfl) (by kernel_rfl) (by kernel_rfl) (by kernel_rfl) (fun _ _ _ h => h) (by rfl) hHeld ?_ ?_
  rotate_left
  ·rintro wh hS
   go_simp
   (try with_reducible rfl)
  simp only [Act.put, List.setIfInBounds_toArray, List.set_cons_zero, List.set_cons_succ]
  refine heldS_take (i := 3) (v := ?_) rfl rfl (by kernel_rfl) (by kernel_rfl) (by kernel_rfl) (by kernel_rfl) (by kernel_rfl) (fun _ _ _ h => h) (by rfl) hHeld ?_ ?_
  rotate_left
  ·rintro wh hS
   go_simp
   (try with_reducible rfl)
  simp only [Act.put, List.setIfInBounds_toArray, List.set_cons_zero, List.set_cons_succ]
  refine heldS_step (i := 4) rfl (by kernel_rfl) (fun K hK => ?_)
  go_simp; refine (KR.out _ (HC.out.below (Below.refl _ _).drew).rdr).mono ?_; rintro e w4 ⟨cs, b', rfl, hbk⟩; have hc4 := (HC.out.below (Below.refl _ _).drew).stp hbk.rdr hbk.kr; have hu4 := (HU.out.below (Below.refl _ _).drew).kr hbk.kr HC.out.gl; have HBK := Lib.hid hbk; have HC4 := Lib.hid hc4; have HU4 := Lib.hid hu4; clear hbk hc4 hu4
  refine hK.out _ _ (HC4.out.nd.cell (nodeC_kids _ _ _)) (fun hHeld => ?_)
  clear hK K
  (try simp only [Act.put, List.setIfInBounds_toArray])
  have h5 := HC4.out.below (alloc_below w4 (.cells cs.toArray 143))
  refine heldS_step (i := 5) rfl (by kernel_rfl) (fun K hK => ?_)
  rw [if_pos (by rfl)]; refine wp_buildSlice 141 143 1 _ rfl cs.toArray i0 (.agg (zeroN 0)) Tryz.underlying141 hi hz0 (by rw [hz1]; decide) (by rw [hz1]; decide) (by rw [hz1]; exact fill_one _ _ cs HBK.out.len rfl) ?_
  refine hK.out _ _ (h5.nd.cell (nodeC_kids _ _ _)) (fun hHeld => ?_)
  clear hK K
  (try simp only [Act.put, List.setIfInBounds_toArray])
  have HC5 := Lib.hid h5
  have HU5 := Lib.hid (HU4.out.below (alloc_below w4 (.cells cs.toArray 143)))
  have HRD := Lib.hid (rd_node (w := w4) HBK.out.len 143)
  have HT5 : Hid (b'.err = 0 → NA (w4.alloc (.cells cs.toArray 143)) (fun q => w.heap.size + 2 ≤ q ∧ q < (w4.alloc (.cells cs.toArray 143)).heap.size ∧ kv.ownBlock ≠ some q) 0 [cs] ra) := Lib.hid (fun h0 => (((HBK.out.tree h0).2).later (alloc_below w4 (.cells cs.toArray 143))).mono (by
   rintro q ⟨h1, h2⟩
   have hlt := HC.out.nd.lt
   have h1 : wr.heap.size ≤ q := h1
   refine ⟨by omega, by rw [World.size_alloc]; omega, fun e => ?_⟩
   have := (ownsRow_at HU.out.own q e).2
   omega))
  have HB5 : Hid (w.heap.size + 2 ≤ (w4.alloc (.cells cs.toArray 143)).heap.size) := Lib.hid (by have := HC5.out.nd.lt; omega)
  clear h5
  generalize (w4.alloc (.cells cs.toArray 143)) = w5 at *
  refine heldS_step (i := 6) rfl (by kernel_rfl) (fun K hK => ?_)
  refine step_append_rd rfl (.tmp 10) (.tmp 14) 141 rfl (w.heap.size + 2) 143 i0 (.agg (zeroN 0)) 258 288 Tryz.underlying141 hi hz0 hz1 hz2 (zeroN_size 0) (by decide) kv l.length l.flatten rfl HU5.out.own _ 1 cs rfl HRD.out HBK.out.one (by unfold maxLen; omega) (by omega) HB5.out ?_; intro kv' w6 hown hgrow hor; obtain ⟨ka, kc, rfl, -, -⟩ := RdAt.shape (RdAt.own hown); have hc6 := HC5.out.grown hgrow (fun q hq => (ownsRow_at HU5.out.own q hq).1); have f6 := hc6.nd.free (j := 257) (by omega); have HC6 := Lib.hid hc6; clear hc6; have HOWN := Lib.hid hown; have HGROW := Lib.hid hgrow; have HOR := Lib.hid hor; clear hown hgrow hor
  refine hK.out _ _ (HC6.out.nd.cell (nodeC_kids _ _ _)) (fun hHeld => ?_)
  clear hK K
  (try simp only [Act.put])
  refine heldS_step (i := 7) rfl (by kernel_rfl) (fun K hK => ?_)
  go_simp
  refine hK.out _ _ (HC6.out.nd.cell (nodeC_kids _ _ _)) (fun hHeld => ?_)
  clear hK K
  (try simp only [Act.put, List.setIfInBounds_toArray])
  refine heldS_last (i := 8) rfl (by kernel_rfl) (by kernel_rfl) (fun K hK => ?_)
  go_simp
  refine hK.out _ _ ?_
  clear hK K
  (try simp only [Act.put, List.setIfInBounds_toArray])
  refine wpAnyEnd_done (by kernel_rfl) ?_ _
  go_upto_region 3 with fail
  refine wp_forget2 (fun W => Clr w W g s b' (nodeC 1 noB (.slice ka (l.length + 1) kc)) ∧ Un w W (.slice ka (l.length + 1) kc) 1 (l ++ [cs]) (.alt acc ra) (b'.err = 0)) ⟨by
    have := HC6.out.put 257 (.slice ka (l.length + 1) kc) (by omega)
    rwa [nodeC_setK] at this, (HU5.out.app HOWN.out HGROW.out HOR.out ⟨HBK.out.len, HBK.out.one⟩ (fun _ => trivial) HT5.out (fun W P h1 h2 => .a1 h1 h2)).put _ _ _ (by omega)⟩ (fun w7 hw7 => ?_)
  have HC7 := Lib.hid hw7.1
  have HU7 := Lib.hid hw7.2
  clear hw7 HOWN HGROW HOR HC6 HU5 HC5 HT5 HB5 HRD HC HU HC4 HU4 KR f6 hHeld
  have hpk := peek_congr (s := s) (b := b') (c := b2) (HBK.out.err.trans he2.symm) (fun h0 => ((HBK.out.tree h0).1).trans hp2.symm)
  have hbp := HBK.out.pos
  have HPE : Hid (b'.err = b2.err ∧ (b'.err = 0 → b'.pos = b2.pos)) := Lib.hid ⟨HBK.out.err.trans he2.symm, fun h0 => ((HBK.out.tree h0).1).trans hp2.symm⟩
  obtain ⟨o, ho⟩ : ∃ o, peekM s b' = o := ⟨_, rfl⟩
  have k1 := next_is w7 g s b' o ho HC7.out.rdr (by omega)
  have HPK := Lib.hid (hpk.symm.trans ho)
  have HO := Lib.hid ho
  clear hpk ho HBK
  go_wp2_with fail
  refine k1.mono ?_
  rintro e w8 ⟨rfl, hb8⟩
  have HC8 := Lib.hid (HC7.out.below hb8)
  have HU8 := Lib.hid (HU7.out.below hb8)
  clear k1 hb8 HC7 HU7
  have HEND : Hid (peekM s b2 ≠ some 124 → ∃ cs' b'', Value.agg (nodeC 1 noB (.slice ka (l.length + 1) kc)).toArray = .agg cs'.toArray ∧ Back w (w8.setCells w.heap.size 0 (nodeC 1 noB (.slice ka (l.length + 1) kc))) g s d r a cs' b'') := Lib.hid (fun hne => by
   have h1 := HR1.out
   have h2 := HA1.out
   rw [if_neg hne] at h1 h2
   subst h1 h2
   have hu := HU8.out.puts w.heap.size 0 (nodeC 1 noB (.slice ka (l.length + 1) kc)) (by omega)
   exact ⟨_, b', rfl, nodeC_len _ _ _, nodeC_one _ _ _ (ownsRow_one hu.own), (HC8.out.done _).1, HPE.out.1, hbp, fun h0 => ⟨HPE.out.2 h0, .alts (hu.all h0) (hu.kids (by rw [List.length_append, List.length_singleton]; omega))⟩, (HC8.out.done _).2⟩)
  have HONE : Hid (∀ y ∈ nodeC 1 noB (.slice ka (l.length + 1) kc), y.oneCell' = true) := Lib.hid (nodeC_one _ _ _ (ownsRow_one HU8.out.own))
  rcases o with _ | c
  ·go_wp2_with (first
   | ((with_reducible refine wpList_loadN rfl _ rfl _ rfl (w.heap.size + 1) 0 ?hx (nodeC 1 noB (.slice ka (l.length + 1) kc)) ?hc (nodeC_len _ _ _) ?_); (case hx => rfl); (case hc => exact HC8.out.nd.at_))
   | ((with_reducible refine wpList_storeN rfl _ _ rfl _ rfl w.heap.size 0 (nodeC 1 noB (.slice ka (l.length + 1) kc)) ?hx ?hy ?ht (nodeC_len _ _ _) HONE.out ?_); (case hx => rfl); (case hy => rfl); (case ht => exact HC8.out.res)))
   refine bodyPost_ret (results_agg1 rfl _ _ w.heap.size (nodeC 1 noB (.slice ka (l.length + 1) kc)) (.struct _) rfl (World.rangeAt_setCells_same _ _ _ _ (by rw [nodeC_len]; exact HC8.out.res)) Tryz.underlying143 rfl (by rw [nodeC_len]; exact node_size)) rfl ?_
   obtain ⟨cs', b'', e1, e2⟩ := HEND.out (by rw [HPK.out]; simp)
   exact ⟨cs', b'', by rw [e1], e2⟩
  ·by_cases hc : c = 124
   ·subst hc
    have c1 := HC8.out.rdr.c1
    have f1 := there_free HC8.out.rdr.th 1 (by omega)
    obtain ⟨hb0, hbs, -⟩ := peekM_some HO.out
    have hq1 : b'.pos ≤ b2.pos := Nat.le_of_eq (HPE.out.2 hb0)
    have hq2 : b2.pos ≤ b'.pos := Nat.le_of_eq (HPE.out.2 hb0).symm
    have hq3 : b.pos ≤ b2.pos := by omega
    clear hp2 he2
    go_wp2
    go_roundw
    case rel =>
     refine ⟨k, stepM b2, p, l ++ [cs], .alt acc ra, (.slice ka (l.length + 1) kc), by omega, ?_, ?_, ?_, ?_, ?_, ?_, ?_, ?_⟩
     ·show b2.err = 0
      rw [← HPE.out.1]; exact hb0
     ·simp only [stepM]; omega
     ·simp only [fuelM, stepM]; omega
     ·rw [List.length_append]; simp only [stepM, List.length_singleton]; omega
     ·have h1 := HR1.out
      rw [if_pos HPK.out] at h1
      exact Lib.hid h1
     ·have h2 := HA1.out
      rw [if_pos HPK.out] at h2
      exact Lib.hid h2
     ·exact Lib.hid (HC8.out.step.congr (by simp only [stepM]; omega) (by show b'.err = b2.err; exact HPE.out.1))
     ·exact Lib.hid ((HU8.out.kr (Kr.set g w8 1 _) HC8.out.gl).ok (fun _ => hb0))
    case measure =>
     rw [HC8.out.step.rdr.posAt, hRP.out]
     simp only [stepM]
     omega
   ·have hcb : ((c : Int) != 124) = true := by simp; omega
    go_wp2_with (first
   | ((with_reducible refine wpList_loadN rfl _ rfl _ rfl (w.heap.size + 1) 0 ?hx (nodeC 1 noB (.slice ka (l.length + 1) kc)) ?hc (nodeC_len _ _ _) ?_); (case hx => rfl); (case hc => exact HC8.out.nd.at_))
   | ((with_reducible refine wpList_storeN rfl _ _ rfl _ rfl w.heap.size 0 (nodeC 1 noB (.slice ka (l.length + 1) kc)) ?hx ?hy ?ht (nodeC_len _ _ _) HONE.out ?_); (case hx => rfl); (case hy => rfl); (case ht => exact HC8.out.res)))
    refine bodyPost_ret (results_agg1 rfl _ _ w.heap.size (nodeC 1 noB (.slice ka (l.length + 1) kc)) (.struct _) rfl (World.rangeAt_setCells_same _ _ _ _ (by rw [nodeC_len]; exact HC8.out.res)) Tryz.underlying143 rfl (by rw [nodeC_len]; exact node_size)) rfl ?_
    obtain ⟨cs', b'', e1, e2⟩ := HEND.out (by rw [HPK.out]; simpa using hc)
    exact ⟨cs', b'', by rw [e1], e2⟩
end Go.Proofs.YtipnhpfpppblhaaGreat
/- The reference's row: a contract (with atom's for less fuel). -/
namespace Go.Proofs.YtipnhpfpppblhaaGreat
open Go.RowKit
theorem rtimes_no {s : ByteArray} {b : Bs} {x : Nat × Nat} {a : Re} (h : ∀ c, peekM s b = some c → postB c = false) : timesM s b x = (b, x) ∧ timesR s b a = a := by
 unfold timesM timesR
 cases hc : peekM s b with
 | none => exact ⟨rfl, rfl⟩
 | some c =>
  have h1 := h c hc
  have h2 := h1
  simp only [postB, Bool.or_eq_false_iff, decide_eq_false_iff_not] at h2
  dsimp only
  rw [if_neg (by rw [h1]; decide), if_neg h2.1.1, if_neg h2.1.2, if_neg h2.2]
  exact ⟨rfl, rfl⟩
theorem rtimes_yes {s : ByteArray} {b : Bs} {x : Nat × Nat} {c : Nat} (h : peekM s b = some c) (hp : postB c = true) : (timesM s b x).1.pos = b.pos + 1 ∧ (timesM s b x).1.err = b.err := by
 unfold timesM
 rw [h]
 dsimp only
 rw [if_pos hp]
 dsimp only
 constructor <;> (split <;> split <;> rfl)
theorem timesR_at {s : ByteArray} {b : Bs} {c : Nat} {a : Re} (h : peekM s b = some c) : timesR s b a = if c = 42 then .star a else if c = 43 then .plus a else if c = 63 then .opt a else a := by unfold timesR; rw [h]
def rmeas (w : World) (g N : Nat) : Nat := match w.cell? ⟨g, 2, none⟩ with
 | some (.int _ e) => if e = 0 then N - rposAt w g else 0
 | _ => 0
theorem RdrAt.meas {w : World} {g : Nat} {s : ByteArray} {b : Bs} (h : RdrAt w g s b) (N : Nat) : rmeas w g N = if b.err = 0 then N - b.pos else 0 := by
 unfold rmeas
 rw [h.c2, h.posAt]
def PLoop (w0 : World) (g : Nat) (s : ByteArray) (d N : Nat) (r : Bs × (Nat × Nat)) (a : Re) (w : World) : Prop :=
 ∃ (m : Nat) (b : Bs) (p : Nat × Nat) (l : List (List Value)) (acc : Re) (kv : Value) (b' : Bs), m ≤ N ∧ b.pos ≤ s.size + 12 - d ∧ fuelM s b (.parts p) ≤ m ∧ l.length ≤ b.pos ∧
  b'.err = b.err ∧ (b.err = 0 → b'.pos = b.pos) ∧ b'.pos ≤ s.size + 12 - d ∧
  Hid (runM s m (.parts p) d b = r) ∧ Hid (reM s m (.parts p) acc d b = a) ∧ Hid (Clr w0 w g s b' (nodeC 2 noB kv)) ∧ Hid (Un w0 w kv 2 l acc (b.err = 0))
structure Prt (w0 w : World) (kv : Value) (ab : Nat) (cs : List Value) (a : Re) (ok : Prop) : Prop where
 nd : NdAt w ab cs
 one : ∀ y ∈ cs, y.oneCell' = true
 lo : w0.heap.size + 2 ≤ ab
 tree : ok → NA w (fun q => w0.heap.size + 2 ≤ q ∧ q < w.heap.size ∧ kv.ownBlock ≠ some q ∧ q ≠ ab) 0 [cs] a
theorem Prt.keep {w0 w w' : World} {kv : Value} {ab : Nat} {cs : List Value} {a : Re} {ok ok' : Prop} (h : Prt w0 w kv ab cs a ok) (hs : w.heap.size ≤ w'.heap.size) (hk : ∀ q, w0.heap.size + 2 ≤ q → q < w.heap.size → w'.heap[q]? = w.heap[q]?) (o : ok' → ok) : Prt w0 w' kv ab cs a ok' :=
 ⟨h.nd.keep hs (hk ab h.lo h.nd.lt), h.one, h.lo, fun x => ((h.tree (o x)).keep hs fun q hq hlt => hk q hq.1 hlt).mono fun _ hq => ⟨hq.1, Nat.lt_of_lt_of_le hq.2.1 hs, hq.2.2⟩⟩
theorem Prt.below {w0 w w' : World} {kv : Value} {ab : Nat} {cs : List Value} {a : Re} {ok : Prop} (h : Prt w0 w kv ab cs a ok) (hb : Below w.heap.size w w') : Prt w0 w' kv ab cs a ok := h.keep hb.size (fun q _ h2 => hb.block q h2) id
theorem Prt.kr {g : Nat} {w0 w w' : World} {kv : Value} {ab : Nat} {cs : List Value} {a : Re} {ok : Prop} (h : Prt w0 w kv ab cs a ok) (hk : Kr g w w') (hg : g < w0.heap.size) : Prt w0 w' kv ab cs a ok := h.keep hk.size (fun q h1 h2 => hk.block q h2 (by omega)) id
theorem Prt.wrap {w0 w : World} {kv : Value} {ab : Nat} {cs : List Value} {a c : Re} {ok : Prop} (h : Prt w0 w kv ab cs a ok) (k : Int) (t : TypeId) (hown : ∀ q, kv.ownBlock = some q → q < w.heap.size)
  (hf : ∀ (W : World) (P : Nat → Prop) (r : Value), NA W P 0 [cs] a → KidsAt W P r [cs] → NA W P 0 [nodeC k noB r] c) :
  Prt w0 ((w.alloc (.cells cs.toArray t)).setCells ab 0 (nodeC k noB (.slice (some ⟨w.heap.size, 0, none⟩) 1 1))) kv ab (nodeC k noB (.slice (some ⟨w.heap.size, 0, none⟩) 1 1)) c ok := by
 have hb := alloc_below w (.cells cs.toArray t)
 have hs := World.size_alloc w (.cells cs.toArray t)
 have hlt := h.nd.lt
 have hab := h.lo
 have hrd := rd_node (w := w) h.nd.len t
 refine ⟨(h.nd.later hb).stored (nodeC_len _ _ _), nodeC_one _ _ _ rfl, h.lo, fun x => hf _ _ _ ?_ ⟨?_, fun y hy => by rw [List.mem_singleton.1 hy]; exact h.nd.len, ?_, by simp⟩⟩
 ·refine (((h.tree x).later hb).keep (w' := (w.alloc (.cells cs.toArray t)).setCells ab 0 (nodeC k noB (.slice (some ⟨w.heap.size, 0, none⟩) 1 1))) (by rw [size_setCells]; exact Nat.le_refl _) (fun q hq _ => heap_setCells _ _ _ hq.2.2.2 _ _)).mono (fun q hq => ⟨hq.1, by rw [size_setCells]; have := hq.2.1; omega, hq.2.2⟩)
 ·have e : ([cs] : List (List Value)).flatten = cs := by simp
  rw [e]
  exact rd_keepB hrd (by rw [size_setCells]; exact Nat.le_refl _) (fun q hq _ => heap_setCells _ _ _ (by cases hq; show w.heap.size ≠ ab; omega) _ _)
 ·intro q hq
  cases hq
  show w0.heap.size + 2 ≤ w.heap.size ∧ w.heap.size < _ ∧ _ ∧ w.heap.size ≠ ab
  refine ⟨by omega, by rw [size_setCells]; omega, fun e => ?_, by omega⟩
  have h1 : w.heap.size < w.heap.size := hown _ e
  omega
structure Kq (w0 w3 w : World) (ab : Nat) : Prop where
 eq : w3.heap.size = ab
 le : ab ≤ w.heap.size
 kp : ∀ q, w0.heap.size + 2 ≤ q → q < ab → w.heap[q]? = w3.heap[q]?
theorem Kq.below {w0 w3 w w' : World} {ab : Nat} (h : Kq w0 w3 w ab) (hb : Below w.heap.size w w') : Kq w0 w3 w' ab := ⟨h.eq, Nat.le_trans h.le hb.size, fun q h1 h2 => (hb.block q (by have := h.le; omega)).trans (h.kp q h1 h2)⟩
theorem Kq.kr {g : Nat} {w0 w3 w w' : World} {ab : Nat} (h : Kq w0 w3 w ab) (hk : Kr g w w') (hg : g < w0.heap.size) : Kq w0 w3 w' ab := ⟨h.eq, Nat.le_trans h.le hk.size, fun q h1 h2 => (hk.block q (by have := h.le; omega) (by omega)).trans (h.kp q h1 h2)⟩
theorem Kq.puts {w0 w3 w : World} {ab : Nat} (h : Kq w0 w3 w ab) (vs : List Value) : Kq w0 w3 (w.setCells ab 0 vs) ab := ⟨h.eq, by rw [size_setCells]; exact h.le, fun q h1 h2 => (heap_setCells _ _ _ (by omega) _ _).trans (h.kp q h1 h2)⟩
theorem Kq.un {w0 w3 w : World} {ab : Nat} {kv : Value} {md : Nat} {l : List (List Value)} {a : Re} {ok : Prop} (h : Kq w0 w3 w ab) (hu : Un w0 w3 kv md l a ok) : Un w0 w kv md l a ok := hu.keep (by rw [h.eq]; exact h.le) (fun q h1 h2 => h.kp q h1 (by rw [← h.eq]; exact h2))
theorem rtimes_pos (s : ByteArray) (b : Bs) (x : Nat × Nat) (N : Nat) (h1 : b.pos ≤ N) (h2 : s.size ≤ N) : (timesM s b x).1.pos ≤ N := by
 unfold timesM
 split
 ·exact h1
 ·rename_i c hc
  have := (peekM_some hc).2.1
  split
  ·have e : ∀ b f t, (freeM b f t).pos = b.pos := fun _ _ _ => rfl
   dsimp only
   split <;> split <;> simp only [e, nodeM, stepM] <;> omega
  ·exact h1
set_option maxHeartbeats 12800000 in
set_option maxRecDepth 100000 in
theorem row_is (n : Nat) (hatom : NdK 141 .atom n) : NdK 130 .row (n + 1) := by
 intro m hm w g s d b h he hd hp _ hs hf
 simp only [fuelM] at hf
 obtain ⟨m, rfl⟩ : ∃ m', m = m' + 2 := ⟨m - 2, by omega⟩
 obtain ⟨r, hr⟩ : ∃ r, runM s (m + 1) (.parts (b.sts.length, b.sts.length)) d (nodeM b) = r := ⟨_, rfl⟩
 obtain ⟨a, ha⟩ : ∃ a, reM s (m + 1) (.parts (b.sts.length, b.sts.length)) .eps d (nodeM b) = a := ⟨_, rfl⟩
 have e1 : runM s (m + 2) .row d b = r := by rw [runM]; exact hr
 have e2 : reM s (m + 2) .row .no d b = a := by rw [reM]; exact ha
 rw [e1, e2]
 have HR0 := Lib.hid hr
 have HA0 := Lib.hid ha
 obtain ⟨b0, hb0⟩ : ∃ b0, nodeM b = b0 := ⟨_, rfl⟩
 have hbp : b0.pos = b.pos := by rw [← hb0]; rfl
 have hbe : b0.err = 0 := by rw [← hb0]; exact he
 have h0 : RdrAt w g s b0 := h.congr hbp.symm (by rw [hbe]; exact he)
 rw [hb0] at HR0 HA0
 have hc := Clr.new h0 2 143
 have HC0 := Lib.hid hc
 have HATOM := Lib.hid hatom
 obtain ⟨i0, hi, hz0, hz1, hz2⟩ := info_parts info_node
 clear hatom hr ha e1 e2 hb0 hc h h0
 go_enter Tryz.func130, Tryz.ntmps130
 go_wp2_with (first
  | (with_reducible refine wpList_allocN rfl rfl _ rfl w.heap.size rfl ?_)
  | (with_reducible refine wpList_allocN rfl rfl _ rfl (w.heap.size + 1) (World.size_alloc _ _) ?_)
  | ((with_reducible refine wpList_buildN rfl _ rfl _ rfl (zeroN 2) ?hf ?_); (case hf => exact node_built2))
  | ((with_reducible refine wpList_storeN rfl _ _ rfl _ rfl (w.heap.size + 1) 0 (nodeC 2 noB nilS) ?hx ?hy ?ht (nodeC_len _ _ _) (oneN _ _) ?_); (case hx => rfl); (case hy => rfl); (case ht => exact (by have := there_new (w.alloc (.cells (zeroN 0) 143)) 0 143; rwa [World.size_alloc] at this))))
 refine wp_forget2 (fun W => Clr w W g s b0 (nodeC 2 noB nilS)) HC0.out (fun w1 hw1 => ?_)
 have H1 := Lib.hid hw1
 clear hw1 HC0
 simp only [Act.put, List.setIfInBounds_toArray, List.set_cons_zero, List.set_cons_succ]
 go_loopw [] (fun wr => PLoop w g s d (m + 1) r a wr) (fun wr => rmeas wr g (s.size + 15))
 case atStart => exact ⟨m + 1, b0, _, [], .eps, nilS, b0, Nat.le_refl _, by omega, by simp only [fuelM]; omega, by simp, rfl, fun _ => rfl, by omega, HR0, HA0, H1, Lib.hid (Un.nil w w1 (fun P => .r0) _)⟩
 case round =>
  clear H1 HR0 HA0 hbp hbe b0
  obtain ⟨k, b, p, l, acc, kv, bx, hk, hp, hf, hl, hx1, hx2, hx3, HR, HA, HC, HU⟩ := hrel
  simp only [fuelM] at hf
  obtain ⟨k, rfl⟩ : ∃ k', k = k' + 1 := ⟨k - 1, by omega⟩
  have HR' := HR.out
  have HA' := HA.out
  rw [runM] at HR'
  rw [reM] at HA'
  have hpk := peek_congr (s := s) (b := bx) (c := b) hx1 (fun h0 => hx2 (hx1.symm.trans h0))
  obtain ⟨o, ho⟩ : ∃ o, peekM s bx = o := ⟨_, rfl⟩
  have k1 := next_is wr g s bx o ho HC.out.rdr (by omega)
  have HPK := Lib.hid (hpk.symm.trans ho)
  have HO := Lib.hid ho
  rw [HPK.out] at HR' HA'
  have HR1 := Lib.hid HR'
  have HA1 := Lib.hid HA'
  have HX := Lib.hid (And.intro hx1 hx2)
  clear hpk ho HR' HA' HR HA hx1 hx2
  go_wp2_with fail
  refine k1.mono ?_
  rintro e w2 ⟨rfl, hb2⟩
  have HC2 := Lib.hid (HC.out.below hb2)
  have HU2 := Lib.hid (HU.out.below hb2)
  have HMS : Hid (rmeas wr g (s.size + 15) = if bx.err = 0 then s.size + 15 - bx.pos else 0) := Lib.hid (HC.out.rdr.meas _)
  clear k1 hb2 HC HU
  have HEND : Hid ((b, p) = r → acc = a → ∃ cs' b'', Value.agg (nodeC 2 noB kv).toArray = .agg cs'.toArray ∧ Back w (w2.setCells w.heap.size 0 (nodeC 2 noB kv)) g s d r a cs' b'') := Lib.hid (fun h1 h2 => by
   subst h1 h2
   have hu := HU2.out.puts w.heap.size 0 (nodeC 2 noB kv) (by omega)
   exact ⟨_, bx, rfl, nodeC_len _ _ _, nodeC_one _ _ _ (ownsRow_one hu.own), (HC2.out.done _).1, HX.out.1, hx3, fun h0 => ⟨HX.out.2 (HX.out.1.symm.trans h0), .row (hu.all (HX.out.1.symm.trans h0)) (hu.kids (by omega))⟩, (HC2.out.done _).2⟩)
  have HONE : Hid (∀ y ∈ nodeC 2 noB kv, y.oneCell' = true) := Lib.hid (nodeC_one _ _ _ (ownsRow_one HU2.out.own))
  rcases o with _ | c
  ·go_wp2_with (first
   | ((with_reducible refine wpList_loadN rfl _ rfl _ rfl (w.heap.size + 1) 0 ?hx (nodeC 2 noB kv) ?hc (nodeC_len _ _ _) ?_); (case hx => rfl); (case hc => exact HC2.out.nd.at_))
   | ((with_reducible refine wpList_storeN rfl _ _ rfl _ rfl w.heap.size 0 (nodeC 2 noB kv) ?hx ?hy ?ht (nodeC_len _ _ _) HONE.out ?_); (case hx => rfl); (case hy => rfl); (case ht => exact HC2.out.res)))
   refine bodyPost_ret (results_agg1 rfl _ _ w.heap.size (nodeC 2 noB kv) (.struct _) rfl (World.rangeAt_setCells_same _ _ _ _ (by rw [nodeC_len]; exact HC2.out.res)) Tryz.underlying143 rfl (by rw [nodeC_len]; exact node_size)) rfl ?_
   obtain ⟨cs', b'', e1, e2⟩ := HEND.out HR1.out HA1.out
   exact ⟨cs', b'', by rw [e1], e2⟩
  ·by_cases hc : c = 124 ∨ c = 41
   ·have HR2 : Hid ((b, p) = r) := Lib.hid (by have := HR1.out; dsimp only at this; rwa [if_pos hc] at this)
    have HA2 : Hid (acc = a) := Lib.hid (by have := HA1.out; dsimp only at this; rwa [if_pos hc] at this)
    clear HR1 HA1
    rcases hc with rfl | rfl
    ·go_wp2_with (first
   | ((with_reducible refine wpList_loadN rfl _ rfl _ rfl (w.heap.size + 1) 0 ?hx (nodeC 2 noB kv) ?hc (nodeC_len _ _ _) ?_); (case hx => rfl); (case hc => exact HC2.out.nd.at_))
   | ((with_reducible refine wpList_storeN rfl _ _ rfl _ rfl w.heap.size 0 (nodeC 2 noB kv) ?hx ?hy ?ht (nodeC_len _ _ _) HONE.out ?_); (case hx => rfl); (case hy => rfl); (case ht => exact HC2.out.res)))
     refine bodyPost_ret (results_agg1 rfl _ _ w.heap.size (nodeC 2 noB kv) (.struct _) rfl (World.rangeAt_setCells_same _ _ _ _ (by rw [nodeC_len]; exact HC2.out.res)) Tryz.underlying143 rfl (by rw [nodeC_len]; exact node_size)) rfl ?_
     obtain ⟨cs', b'', e1, e2⟩ := HEND.out HR2.out HA2.out
     exact ⟨cs', b'', by rw [e1], e2⟩
    ·go_wp2_with (first
   | ((with_reducible refine wpList_loadN rfl _ rfl _ rfl (w.heap.size + 1) 0 ?hx (nodeC 2 noB kv) ?hc (nodeC_len _ _ _) ?_); (case hx => rfl); (case hc => exact HC2.out.nd.at_))
   | ((with_reducible refine wpList_storeN rfl _ _ rfl _ rfl w.heap.size 0 (nodeC 2 noB kv) ?hx ?hy ?ht (nodeC_len _ _ _) HONE.out ?_); (case hx => rfl); (case hy => rfl); (case ht => exact HC2.out.res)))
     refine bodyPost_ret (results_agg1 rfl _ _ w.heap.size (nodeC 2 noB kv) (.struct _) rfl (World.rangeAt_setCells_same _ _ _ _ (by rw [nodeC_len]; exact HC2.out.res)) Tryz.underlying143 rfl (by rw [nodeC_len]; exact node_size)) rfl ?_
     obtain ⟨cs', b'', e1, e2⟩ := HEND.out HR2.out HA2.out
     exact ⟨cs', b'', by rw [e1], e2⟩
   ·have hc1 : ((c : Int) == 124) = false := by rw [beq_eq_false_iff_ne]; omega
    have hc2 : ((c : Int) == 41) = false := by rw [beq_eq_false_iff_ne]; omega
    have hn1 : ¬ c = 124 := fun h => hc (.inl h)
    have hn2 : ¬ c = 41 := fun h => hc (.inr h)
    have hn3 : ¬ (c : Int) = 124 := by omega
    have hn4 : ¬ (c : Int) = 41 := by omega
    obtain ⟨hb0, hbs, hbc⟩ := peekM_some HPK.out
    have HBC := Lib.hid hbc
    clear hbc
    have hbx0 : bx.err = 0 := HX.out.1.trans hb0
    have hbxp : bx.pos = b.pos := HX.out.2 hb0
    have ok := runM_ok s k .atom d b hd hp (fun _ => hbs) trivial (by simp only [fuelM]; omega)
    obtain ⟨g1, q1, q2, q3, q4⟩ := ok
    obtain ⟨q5, _⟩ := q4 rfl
    have HR' := HR1.out
    have HA' := HA1.out
    (try dsimp only at HR' HA')
    rw [if_neg hc] at HR' HA'
    have hka := fun W (h : RdrAt W g s bx) => HATOM.out k (by omega) W g s d b (h.congr hbxp (hbx0.trans hb0.symm)) hb0 hd hp (fun _ => ⟨hbs, by rw [← HBC.out]; omega, by rw [← HBC.out]; omega⟩) hs (by simp only [fuelM]; omega)
    obtain ⟨rr, hrr⟩ : ∃ rr, runM s k .atom d b = rr := ⟨_, rfl⟩
    obtain ⟨ra, hra⟩ : ∃ ra, reM s k .atom .no d b = ra := ⟨_, rfl⟩
    rw [hrr] at HR' HA' hka q3 q5 q1 q2
    rw [hra] at HA' hka
    have hgtp := (gd_times s rr.1 rr.2).pos
    have hgtq := rtimes_pos s rr.1 rr.2 (s.size + 12 - d) q3 (by omega)
    have HTY := Lib.hid (fun c (h : peekM s rr.1 = some c) (hp : postB c = true) => rtimes_yes (x := rr.2) h hp)
    have HTN := Lib.hid (fun (h : ∀ c, peekM s rr.1 = some c → postB c = false) => rtimes_no (x := rr.2) (a := ra) h)
    obtain ⟨t, ht⟩ : ∃ t, timesM s rr.1 rr.2 = t := ⟨_, rfl⟩
    obtain ⟨ta, hta⟩ : ∃ ta, timesR s rr.1 ra = ta := ⟨_, rfl⟩
    rw [ht] at HR' HA' hgtp hgtq HTY HTN
    rw [hta] at HA' HTN
    have HTA := Lib.hid hta
    have HR2 := Lib.hid HR'
    have HA2 := Lib.hid HA'
    have hk1 := hka w2 HC2.out.rdr
    clear HR' HA' HR1 HA1 hrr hra ht hta g1 hka HEND HONE hc q1 q2 q4
    go_wp2_with fail
    refine hk1.mono ?_
    rintro e w3 ⟨cs, b1, rfl, hbk⟩
    have HC3 := Lib.hid (HC2.out.stp hbk.rdr hbk.kr)
    have HU3 := Lib.hid (HU2.out.kr hbk.kr HC2.out.gl)
    have HBK := Lib.hid hbk
    have hw3 := HC3.out.nd.lt
    clear hk1 hbk
    have hn3 := NdAt.new w3 0 143
    have hprt : Prt w ((w3.alloc (.cells (zeroN 0) 143)).setCells w3.heap.size 0 cs) kv w3.heap.size cs ra (b1.err = 0) := by
     refine ⟨hn3.stored HBK.out.len, HBK.out.one, by omega, fun h0 => (((HBK.out.tree h0).2).later (alloc_below w3 (.cells (zeroN 0) 143))).keep (by rw [size_setCells]; exact Nat.le_refl _) (fun q hq _ => heap_setCells _ _ _ (by omega) _ _) |>.mono ?_⟩
     rintro q ⟨h1, h2⟩
     have hlt := HC2.out.nd.lt
     refine ⟨by omega, by rw [size_setCells, World.size_alloc]; omega, fun e => ?_, by omega⟩
     have := (ownsRow_at HU2.out.own q e).2
     omega
    have hc4 : Clr w ((w3.alloc (.cells (zeroN 0) 143)).setCells w3.heap.size 0 cs) g s b1 (nodeC 2 noB kv) := by
     have h1 := HC3.out.below (alloc_below w3 (.cells (zeroN 0) 143))
     have hgl := h1.gl
     exact ⟨h1.rdr.kept (by rw [size_setCells]; exact Nat.le_refl _) (heap_setCells _ _ _ (by omega) _ _), h1.nd.keep (by rw [size_setCells]; exact Nat.le_refl _) (heap_setCells _ _ _ (by omega) _ _), there_kept h1.res (heap_setCells _ _ _ (by omega) _ _), h1.kr.news _ (by omega) _ _, h1.gl⟩
    have hu4 : Kq w w3 ((w3.alloc (.cells (zeroN 0) 143)).setCells w3.heap.size 0 cs) w3.heap.size := (show Kq w w3 (w3.alloc (.cells (zeroN 0) 143)) w3.heap.size from ⟨rfl, (alloc_below w3 (.cells (zeroN 0) 143)).size, fun q _ h2 => (alloc_below w3 (.cells (zeroN 0) 143)).block q h2⟩).puts cs
    have HU3 := Lib.hid (HU3.out.ok (ok' := True) (fun _ => hb0))
    have HPR := Lib.hid hprt
    have HC4 := Lib.hid hc4
    have HU4 := Lib.hid hu4
    have HTH : Hid ((w3.alloc (.cells (zeroN 0) 143)).there w3.heap.size 0 258) := Lib.hid hn3.th
    clear hprt hc4 hu4 hn3 HC3 HC2 HU2
    go_upto_region 6 with (first
     | (with_reducible refine wpList_allocN rfl rfl _ rfl w3.heap.size rfl ?_)
     | ((with_reducible refine wpList_storeN rfl _ _ rfl _ rfl w3.heap.size 0 cs ?hx ?hy ?ht HBK.out.len HBK.out.one ?_); (case hx => rfl); (case hy => rfl); (case ht => exact HTH.out)))
    generalize ((w3.alloc (.cells (zeroN 0) 143)).setCells w3.heap.size 0 cs) = w4 at *
    generalize w3.heap.size = ab at *
    have hbp1 := HBK.out.pos
    have HBE : Hid (b1.err = rr.1.err ∧ (b1.err = 0 → b1.pos = rr.1.pos)) := Lib.hid ⟨HBK.out.err, fun h0 => (HBK.out.tree h0).1⟩
    have hcl := HBK.out.len
    clear HBK HTH
    obtain ⟨o2, ho2⟩ : ∃ o2, peekM s b1 = o2 := ⟨_, rfl⟩
    have k2 := next_is w4 g s b1 o2 ho2 HC4.out.rdr (by omega)
    have HPK2 := Lib.hid ((peek_congr (s := s) (b := b1) (c := rr.1) HBE.out.1 HBE.out.2).symm.trans ho2)
    have HO2 := Lib.hid ho2
    clear ho2
    go_wp2_with fail
    refine k2.mono ?_
    rintro e w5 ⟨rfl, hb5⟩
    have HC5 := Lib.hid (HC4.out.below hb5)
    have HU5 := Lib.hid (HU4.out.below hb5)
    have HP5 : Hid (Prt w w5 kv ab cs ra (b1.err = 0)) := Lib.hid (HPR.out.below hb5)
    clear k2 hb5 HC4 HU4 HPR
    obtain ⟨PB, hPB⟩ : ∃ PB, (match o2 with | none => false | some c => postB c) = PB := ⟨_, rfl⟩
    have HPB := Lib.hid hPB
    clear hPB
    go_upto_region 7 with fail
    go_cut [47] from 11 to 68 (fun v wx => v = .bool PB ∧ wx = w5)
    case first =>
     rcases o2 with _ | c2
     ·simp only [Option.getD_none, Option.isSome_none]
      go_wp2
      go_meet
      exact ⟨by rw [← HPB.out], rfl⟩
     ·simp only [Option.getD_some, Option.isSome_some]
      by_cases g1 : c2 = 42
      ·subst g1
       go_wp2
       go_meet
       exact ⟨by rw [← HPB.out]; rfl, rfl⟩
      ·have g1b : ((c2 : Int) == 42) = false := by rw [beq_eq_false_iff_ne]; omega
       by_cases g2 : c2 = 43
       ·subst g2
        go_wp2
        go_meet
        exact ⟨by rw [← HPB.out]; rfl, rfl⟩
       ·have g2b : ((c2 : Int) == 43) = false := by rw [beq_eq_false_iff_ne]; omega
        by_cases g3 : c2 = 63
        ·subst g3
         go_wp2
         go_meet
         exact ⟨by rw [← HPB.out]; rfl, rfl⟩
        ·have g3b : ((c2 : Int) == 63) = false := by rw [beq_eq_false_iff_ne]; omega
         go_wp2
         go_meet
         exact ⟨by rw [← HPB.out]; simp [postB, g1, g2, g3], rfl⟩
    case rest =>
    obtain ⟨rfl, rfl⟩ := hcut
    go_upto_if 47 with fail
    go_cut [] from 11 to 68 (fun wx => ∃ (cs2 : List Value) (b3 : Bs), b3.err = t.1.err ∧ (b3.err = 0 → b3.pos = t.1.pos) ∧ b3.pos ≤ s.size + 12 - d ∧ cs2.length = 258 ∧ Hid (Clr w wx g s b3 (nodeC 2 noB kv)) ∧ Hid (Kq w w3 wx ab) ∧ Hid (Prt w wx kv ab cs2 ta (b3.err = 0)))
    case first =>
     cases PB with
     | false =>
      have hno : ∀ c, peekM s rr.1 = some c → postB c = false := fun c h => by
       rw [HPK2.out] at h
       subst h
       exact HPB.out
      obtain ⟨e1, e2⟩ := HTN.out hno
      go_wp2
      go_meet
      refine ⟨cs, b1, ?_, ?_, hbp1, hcl, HC5, HU5, ?_⟩
      ·rw [e1]; exact HBE.out.1
      ·rw [e1]; exact HBE.out.2
      ·rw [e2]; exact HP5
     | true =>
      rcases o2 with _ | c2
      ·exact absurd HPB.out (by simp)
      ·have hPB := HPB.out
       dsimp only at hPB
       obtain ⟨e1, e2⟩ := HTY.out c2 HPK2.out hPB
       obtain ⟨hb10, hb1s, -⟩ := peekM_some HO2.out
       have HB1P := Lib.hid (HBE.out.2 hb10)
       have c1 := HC5.out.rdr.c1
       have f1 := there_free HC5.out.rdr.th 1 (by omega)
       have HTA2 : Hid (ta = if c2 = 42 then .star ra else if c2 = 43 then .plus ra else if c2 = 63 then .opt ra else ra) := Lib.hid (HTA.out.symm.trans (timesR_at HPK2.out))
       have hp3 : c2 = 42 ∨ c2 = 43 ∨ c2 = 63 := by simp only [postB, Bool.or_eq_true, decide_eq_true_eq] at hPB; omega
       have HE1 : Hid ((stepM b1).err = t.1.err ∧ (stepM b1).pos = t.1.pos) := Lib.hid ⟨by rw [e2]; exact HBE.out.1, by rw [e1]; simp only [stepM]; rw [HB1P.out]⟩
       clear hPB e1 e2
       go_upto_region 9 with fail
       refine wp_forget2 (fun W => Clr w W g s (stepM b1) (nodeC 2 noB kv) ∧ Kq w w3 W ab ∧ Prt w W kv ab cs ra (b1.err = 0)) ⟨HC5.out.step, HU5.out.kr (Kr.set g _ 1 _) HC5.out.gl, HP5.out.kr (Kr.set g _ 1 _) HC5.out.gl⟩ (fun w6 hw6 => ?_)
       have HC6 := Lib.hid hw6.1
       have HU6 := Lib.hid hw6.2.1
       have HP6 := Lib.hid hw6.2.2
       clear hw6 c1 f1 HC5 HU5 HP5 HTY HTN
       have HTH : Hid ((w6.alloc (.cells cs.toArray 143)).there ab 0 258) := Lib.hid (HP6.out.nd.later (alloc_below w6 (.cells cs.toArray 143))).th
       have hab := HP6.out.lo
       rcases hp3 with rfl | rfl | rfl
       ·have HTA3 : Hid (ta = Re.star ra) := Lib.hid (HTA2.out.trans rfl)
        go_upto_region 14 with fail
        go_wp2_with (first
         | ((with_reducible refine wpList_loadN rfl _ rfl _ rfl ab 0 ?hx cs ?hc hcl ?_); (case hx => rfl); (case hc => exact HP6.out.nd.at_))
         | ((with_reducible refine wpList_buildSlice rfl 141 143 1 _ rfl cs.toArray i0 (.agg (zeroN 0)) Tryz.underlying141 hi hz0 ?hs ?hp ?hf ?_); (case hs => rw [hz1]; decide); (case hp => rw [hz1]; decide); (case hf => rw [hz1]; exact fill_one _ _ cs hcl rfl))
         | ((with_reducible refine wpList_buildN rfl _ rfl _ rfl (nodeC 3 noB (.slice (some ⟨w6.heap.size, 0, none⟩) 1 1)).toArray ?hf ?_); (case hf => exact built_kids _ _ _ _ _ _ _ rfl rfl))
         | ((with_reducible refine wpList_storeN rfl _ _ rfl _ rfl ab 0 (nodeC 3 noB (.slice (some ⟨w6.heap.size, 0, none⟩) 1 1)) ?hx ?hy ?ht (nodeC_len _ _ _) (nodeC_one _ _ _ rfl) ?_); (case hx => rfl); (case hy => rfl); (case ht => exact HTH.out)))
        go_meet
        refine ⟨nodeC 3 noB (.slice (some ⟨w6.heap.size, 0, none⟩) 1 1), stepM b1, HE1.out.1, fun _ => HE1.out.2, by rw [HE1.out.2]; exact hgtq, nodeC_len _ _ _, ?_, ?_, ?_⟩
        ·exact Lib.hid (by
          have h1 := HC6.out.below (alloc_below w6 (.cells cs.toArray 143))
          have hgl := h1.gl
          exact ⟨h1.rdr.kept (by rw [size_setCells]; exact Nat.le_refl _) (heap_setCells _ _ _ (by omega) _ _), h1.nd.keep (by rw [size_setCells]; exact Nat.le_refl _) (heap_setCells _ _ _ (by omega) _ _), there_kept h1.res (heap_setCells _ _ _ (by omega) _ _), h1.kr.news _ (by omega) _ _, h1.gl⟩)
        ·exact Lib.hid ((HU6.out.below (alloc_below w6 (.cells cs.toArray 143))).puts _)
        ·rw [HTA3.out]
         exact Lib.hid ((HP6.out.wrap 3 143 (fun q hq => by have h1 := (ownsRow_at HU3.out.own q hq).2; have h2 := HU6.out.eq; have h3 := HU6.out.le; omega) (fun W P r h1 h2 => .star h1 h2)).keep (Nat.le_refl _) (fun _ _ _ => rfl) (fun h0 => h0))
       ·have HTA3 : Hid (ta = Re.plus ra) := Lib.hid (HTA2.out.trans rfl)
        go_upto_region 14 with fail
        go_wp2_with (first
         | ((with_reducible refine wpList_loadN rfl _ rfl _ rfl ab 0 ?hx cs ?hc hcl ?_); (case hx => rfl); (case hc => exact HP6.out.nd.at_))
         | ((with_reducible refine wpList_buildSlice rfl 141 143 1 _ rfl cs.toArray i0 (.agg (zeroN 0)) Tryz.underlying141 hi hz0 ?hs ?hp ?hf ?_); (case hs => rw [hz1]; decide); (case hp => rw [hz1]; decide); (case hf => rw [hz1]; exact fill_one _ _ cs hcl rfl))
         | ((with_reducible refine wpList_buildN rfl _ rfl _ rfl (nodeC 4 noB (.slice (some ⟨w6.heap.size, 0, none⟩) 1 1)).toArray ?hf ?_); (case hf => exact built_kids _ _ _ _ _ _ _ rfl rfl))
         | ((with_reducible refine wpList_storeN rfl _ _ rfl _ rfl ab 0 (nodeC 4 noB (.slice (some ⟨w6.heap.size, 0, none⟩) 1 1)) ?hx ?hy ?ht (nodeC_len _ _ _) (nodeC_one _ _ _ rfl) ?_); (case hx => rfl); (case hy => rfl); (case ht => exact HTH.out)))
        go_meet
        refine ⟨nodeC 4 noB (.slice (some ⟨w6.heap.size, 0, none⟩) 1 1), stepM b1, HE1.out.1, fun _ => HE1.out.2, by rw [HE1.out.2]; exact hgtq, nodeC_len _ _ _, ?_, ?_, ?_⟩
        ·exact Lib.hid (by
          have h1 := HC6.out.below (alloc_below w6 (.cells cs.toArray 143))
          have hgl := h1.gl
          exact ⟨h1.rdr.kept (by rw [size_setCells]; exact Nat.le_refl _) (heap_setCells _ _ _ (by omega) _ _), h1.nd.keep (by rw [size_setCells]; exact Nat.le_refl _) (heap_setCells _ _ _ (by omega) _ _), there_kept h1.res (heap_setCells _ _ _ (by omega) _ _), h1.kr.news _ (by omega) _ _, h1.gl⟩)
        ·exact Lib.hid ((HU6.out.below (alloc_below w6 (.cells cs.toArray 143))).puts _)
        ·rw [HTA3.out]
         exact Lib.hid ((HP6.out.wrap 4 143 (fun q hq => by have h1 := (ownsRow_at HU3.out.own q hq).2; have h2 := HU6.out.eq; have h3 := HU6.out.le; omega) (fun W P r h1 h2 => .plus h1 h2)).keep (Nat.le_refl _) (fun _ _ _ => rfl) (fun h0 => h0))
       ·have HTA3 : Hid (ta = Re.opt ra) := Lib.hid (HTA2.out.trans rfl)
        go_upto_region 14 with fail
        go_wp2_with (first
         | ((with_reducible refine wpList_loadN rfl _ rfl _ rfl ab 0 ?hx cs ?hc hcl ?_); (case hx => rfl); (case hc => exact HP6.out.nd.at_))
         | ((with_reducible refine wpList_buildSlice rfl 141 143 1 _ rfl cs.toArray i0 (.agg (zeroN 0)) Tryz.underlying141 hi hz0 ?hs ?hp ?hf ?_); (case hs => rw [hz1]; decide); (case hp => rw [hz1]; decide); (case hf => rw [hz1]; exact fill_one _ _ cs hcl rfl))
         | ((with_reducible refine wpList_buildN rfl _ rfl _ rfl (nodeC 5 noB (.slice (some ⟨w6.heap.size, 0, none⟩) 1 1)).toArray ?hf ?_); (case hf => exact built_kids _ _ _ _ _ _ _ rfl rfl))
         | ((with_reducible refine wpList_storeN rfl _ _ rfl _ rfl ab 0 (nodeC 5 noB (.slice (some ⟨w6.heap.size, 0, none⟩) 1 1)) ?hx ?hy ?ht (nodeC_len _ _ _) (nodeC_one _ _ _ rfl) ?_); (case hx => rfl); (case hy => rfl); (case ht => exact HTH.out)))
        go_meet
        refine ⟨nodeC 5 noB (.slice (some ⟨w6.heap.size, 0, none⟩) 1 1), stepM b1, HE1.out.1, fun _ => HE1.out.2, by rw [HE1.out.2]; exact hgtq, nodeC_len _ _ _, ?_, ?_, ?_⟩
        ·exact Lib.hid (by
          have h1 := HC6.out.below (alloc_below w6 (.cells cs.toArray 143))
          have hgl := h1.gl
          exact ⟨h1.rdr.kept (by rw [size_setCells]; exact Nat.le_refl _) (heap_setCells _ _ _ (by omega) _ _), h1.nd.keep (by rw [size_setCells]; exact Nat.le_refl _) (heap_setCells _ _ _ (by omega) _ _), there_kept h1.res (heap_setCells _ _ _ (by omega) _ _), h1.kr.news _ (by omega) _ _, h1.gl⟩)
        ·exact Lib.hid ((HU6.out.below (alloc_below w6 (.cells cs.toArray 143))).puts _)
        ·rw [HTA3.out]
         exact Lib.hid ((HP6.out.wrap 5 143 (fun q hq => by have h1 := (ownsRow_at HU3.out.own q hq).2; have h2 := HU6.out.eq; have h3 := HU6.out.le; omega) (fun W P r h1 h2 => .opt h1 h2)).keep (Nat.le_refl _) (fun _ _ _ => rfl) (fun h0 => h0))
    case rest =>
     obtain ⟨cs2, b3, h1, h2, h3, hcl2, HC6, HQ6, HP6⟩ := hcut
     have HU6 := Lib.hid (HQ6.out.un HU3.out)
     clear HQ6
     have c257 := HC6.out.nd.cell (nodeC_kids 2 noB kv)
     have HB7 := Lib.hid (alloc_below wc (.cells cs2.toArray 143))
     have HC7 := Lib.hid (HC6.out.below HB7.out)
     have HU7 := Lib.hid (HU6.out.below HB7.out)
     have HP7 := Lib.hid (HP6.out.below HB7.out)
     have HRD := Lib.hid (rd_node (w := wc) hcl2 143)
     have HBS : Hid (w.heap.size + 2 ≤ (wc.alloc (.cells cs2.toArray 143)).heap.size) := Lib.hid (by have := HC7.out.nd.lt; omega)
     have hl200 : l.length ≤ 200 := by omega
     clear HC5 HU5 HP5
     go_wp2_with (first
      | ((with_reducible refine wpList_loadN rfl _ rfl _ rfl ab 0 ?hx cs2 ?hc hcl2 ?_); (case hx => rfl); (case hc => exact HP6.out.nd.at_))
      | ((with_reducible refine wpList_buildSlice rfl 141 143 1 _ rfl cs2.toArray i0 (.agg (zeroN 0)) Tryz.underlying141 hi hz0 ?hs ?hp ?hf ?_); (case hs => rw [hz1]; decide); (case hp => rw [hz1]; decide); (case hf => rw [hz1]; exact fill_one _ _ cs2 hcl2 rfl))
      | (at_builtin; (refine wpList_append_rd2 rfl (.tmp 64) (.tmp 66) 141 rfl (w.heap.size + 2) 143 i0 (.agg (zeroN 0)) 258 288 Tryz.underlying141 hi hz0 hz1 hz2 (zeroN_size 0) (by decide) kv l.length l.flatten rfl HU7.out.own _ 1 cs2 rfl HRD.out HP6.out.one (by unfold maxLen; omega) (by omega) HBS.out ?_); intro kv' w8 hown hgrow hor; obtain ⟨ka, kc, rfl, -, -⟩ := RdAt.shape (RdAt.own hown); have hc8 := HC7.out.grown hgrow (fun q hq => (ownsRow_at HU7.out.own q hq).1); have c8 := hc8.nd.cell (nodeC_kids 2 noB kv); have f8 := hc8.nd.free (j := 257) (by omega); have HC8 := Lib.hid hc8; have HU8 := Lib.hid (HU7.out.app (ok' := t.1.err = 0) (b := ta) hown hgrow hor ⟨hcl2, HP6.out.one⟩ (fun _ => trivial) (fun h0 => (HP7.out.tree (h1.trans h0)).mono (fun q hq => ⟨hq.1, hq.2.1, hq.2.2.1⟩)) (fun W P h1 h2 => .r1 h1 h2)); clear hc8 hown hgrow hor))
     have HC9 : Hid (Clr w (w8.setCell ⟨w.heap.size + 1, 257, none⟩ (.slice ka (l.length + 1) kc)) g s b3 (nodeC 2 noB (.slice ka (l.length + 1) kc))) := Lib.hid (by
      have := HC8.out.put 257 (.slice ka (l.length + 1) kc) (by omega)
      rwa [nodeC_setK] at this)
     (try simp only [Act.put, List.setIfInBounds_toArray, List.set_cons_zero, List.set_cons_succ])
     go_roundw
     case rel => exact ⟨k, freeM t.1 p.2 t.2.1, (p.1, t.2.2), l ++ [cs2], .cat acc ta, (.slice ka (l.length + 1) kc), b3, by omega, hgtq, by simp only [fuelM, freeM]; omega, by rw [List.length_append]; simp only [freeM, List.length_singleton]; omega, h1, fun h0 => h2 (h1.trans h0), h3, HR2, HA2, HC9, Lib.hid (HU8.out.put _ _ _ (by omega))⟩
     case measure =>
      rw [HC9.out.rdr.meas, HMS.out, if_pos hbx0]
      split
      ·rename_i h0; have := h2 h0; omega
      ·omega
end Go.Proofs.YtipnhpfpppblhaaGreat
/- The reference's atom: a contract (with either's for less fuel). -/
namespace Go.Proofs.YtipnhpfpppblhaaGreat
open Go.RowKit
structure Ca (w0 w : World) (nb g : Nat) (s : ByteArray) (b : Bs) (cs : List Value) : Prop where
 rdr : RdrAt w g s b
 nd : NdAt w nb cs
 res : w.there w0.heap.size 0 258
 kr : Kr g w0 w
 gl : g < w0.heap.size
 nb : w0.heap.size < nb
theorem Ca.below {w0 w w' : World} {nb g : Nat} {s : ByteArray} {b : Bs} {cs : List Value} (h : Ca w0 w nb g s b cs) (hb : Below w.heap.size w w') : Ca w0 w' nb g s b cs :=
 ⟨h.rdr.below hb, h.nd.later hb, there_later h.res hb (by have := h.nd.lt; have := h.nb; omega), h.kr.trans (Kr.of_below hb), h.gl, h.nb⟩
theorem Ca.stp {w0 w w' : World} {nb g : Nat} {s : ByteArray} {b b' : Bs} {cs : List Value} (h : Ca w0 w nb g s b cs) (hr : RdrAt w' g s b') (hk : Kr g w w') : Ca w0 w' nb g s b' cs :=
 ⟨hr, h.nd.kr hk (by have := h.gl; have := h.nb; omega), there_kept h.res (hk.block _ (by have := h.nd.lt; have := h.nb; omega) (by have := h.gl; omega)), h.kr.trans hk, h.gl, h.nb⟩
theorem Ca.step {w0 w : World} {nb g : Nat} {s : ByteArray} {b : Bs} {cs : List Value} (h : Ca w0 w nb g s b cs) : Ca w0 (w.setCell ⟨g, 1, none⟩ (.int .i64 ((b.pos : Int) + 1))) nb g s (stepM b) cs :=
 h.stp h.rdr.step (Kr.set g w 1 _)
theorem Ca.put {w0 w : World} {nb g : Nat} {s : ByteArray} {b : Bs} {cs : List Value} (h : Ca w0 w nb g s b cs) (j : Nat) (v : Value) (hj : j < 258) : Ca w0 (w.setCell ⟨nb, j, none⟩ v) nb g s b (cs.set j v) :=
 ⟨h.rdr.kept (by simp) (Below.heap_setCell w _ v g (by show g ≠ nb; have := h.gl; have := h.nb; omega)), h.nd.set j v hj, rthere_set h.res _ _ _, h.kr.new _ _ _ (by have := h.nb; omega), h.gl, h.nb⟩
theorem Ca.all {w0 w : World} {nb g : Nat} {s : ByteArray} {b : Bs} {cs : List Value} (h : Ca w0 w nb g s b cs) (cs' : List Value) (hl : cs'.length = 258) : Ca w0 (w.setCells nb 0 cs') nb g s b cs' :=
 ⟨h.rdr.kept (by rw [size_setCells]; exact Nat.le_refl _) (heap_setCells _ _ _ (by have := h.gl; have := h.nb; omega) _ _), h.nd.stored hl, World.there_setCells h.res _ _ _, h.kr.news _ (by have := h.nb; omega) _ _, h.gl, h.nb⟩
theorem Ca.done {w0 w : World} {nb g : Nat} {s : ByteArray} {b : Bs} {cs : List Value} (h : Ca w0 w nb g s b cs) (vs : List Value) : RdrAt (w.setCells w0.heap.size 0 vs) g s b ∧ Kr g w0 (w.setCells w0.heap.size 0 vs) :=
 ⟨h.rdr.kept (by rw [size_setCells]; exact Nat.le_refl _) (heap_setCells _ _ _ (by have := h.gl; omega) _ _), h.kr.news _ (Nat.le_refl _) _ _⟩
theorem Ca.new {w0 w : World} {g : Nat} {s : ByteArray} {b : Bs} (h : RdrAt w g s b) (hr : w.there w0.heap.size 0 258) (hk : Kr g w0 w) (hg : g < w0.heap.size) (hl : w0.heap.size < w.heap.size) (t : TypeId) : Ca w0 ((w.alloc (.cells (zeroN 0) t)).setCells w.heap.size 0 (nodeC 0 noB nilS)) w.heap.size g s b (nodeC 0 noB nilS) := by
 have hb := alloc_below w (.cells (zeroN 0) t)
 refine ⟨(h.below hb).kept (by rw [size_setCells]; exact Nat.le_refl _) (heap_setCells _ _ _ (by omega) _ _), (NdAt.new w 0 t).stored (nodeC_len _ _ _), there_kept (there_later hr hb hl) (heap_setCells _ _ _ (by omega) _ _), (hk.trans (Kr.of_below hb)).news _ (by omega) _ _, hg, hl⟩
theorem oneS_eq (c : Nat) : (fun x => if x = c then true else noB x) = oneS c := by
 funext x
 unfold oneS addS noS noB
 by_cases h : x = c
 ·subst h; rw [if_pos rfl, decide_eq_true (Nat.le_refl x)]; rfl
 ·rw [if_neg h]
  by_cases h2 : c ≤ x
  ·rw [decide_eq_true h2, decide_eq_false (show ¬ x ≤ c by omega)]; rfl
  ·rw [decide_eq_false h2]; rfl
theorem dot_all (kv : Value) : nodeC 0 (addU noB 0 256) kv = nodeC 0 (turnS noS) kv := nodeC_congr (fun c hc => by unfold addU turnS noB noS; rw [decide_eq_true (Nat.zero_le c), decide_eq_true hc]; rfl) kv
theorem Back.mk1 {w w' : World} {g d : Nat} {s : ByteArray} {b b' : Bs} {S T : Nat → Bool} (hr : RdrAt w' g s b') (he : b'.err = b.err) (hp : b'.pos ≤ s.size + 12 - d) (ht : b'.err = 0 → b'.pos = b.pos ∧ nodeC 0 S nilS = nodeC 0 T nilS) (hk : Kr g w w') : Back w w' g s d (oneM b T) (.set T) (nodeC 0 S nilS) b' :=
 ⟨nodeC_len _ _ _, oneN _ _, hr, he, hp, fun h0 => ⟨(ht h0).1, by rw [(ht h0).2]; exact .set T nilS⟩, hk⟩
set_option maxHeartbeats 12800000 in
set_option maxRecDepth 100000 in
theorem atom_is (n : Nat) (heither : NdK 118 .either n) : NdK 141 .atom (n + 1) := by
 intro m hm w g s d b h he hd hp hat hs hf
 simp only [fuelM] at hf
 obtain ⟨m, rfl⟩ : ∃ m', m = m' + 1 := ⟨m - 1, by omega⟩
 obtain ⟨hps, hn124, hn41⟩ := hat rfl
 obtain ⟨r, hr⟩ : ∃ r, runM s (m + 1) .atom d b = r := ⟨_, rfl⟩
 obtain ⟨a, ha⟩ : ∃ a, reM s (m + 1) .atom .no d b = a := ⟨_, rfl⟩
 rw [hr, ha]
 rw [runM] at hr
 rw [reM] at ha
 (try dsimp only at hr ha)
 have hpk : peekM s b = some (byteM s b.pos) := rpeek_of he hps
 have hcl := byteM_lt s b.pos
 obtain ⟨c, hc⟩ : ∃ c, byteM s b.pos = c := ⟨_, rfl⟩
 rw [hc] at hr ha hpk hn124 hn41 hcl
 have HR := Lib.hid hr
 have HA := Lib.hid ha
 have HE := Lib.hid heither
 have hb1 : b.pos + 1 ≤ (stepM b).pos := Nat.le_refl _
 have hb1q : (stepM b).pos ≤ s.size := hps
 have hb1e : (stepM b).err = 0 := he
 have hgl := h.lt
 have hbx := alloc_below w (.cells (zeroN 0) 143)
 have hrx := h.below hbx
 have hth := there_new w 0 143
 have hsx : (w.alloc (.cells (zeroN 0) 143)).heap.size = w.heap.size + 1 := World.size_alloc _ _
 have kf := fun W b (h : RdrAt W g s b) => rfail_is W g s b 2 h
 have kf3 := fun W b (h : RdrAt W g s b) => rfail_is W g s b 3 h
 have KF := Lib.hid kf
 have KF3 := Lib.hid kf3
 have k1 := next_is (w.alloc (.cells (zeroN 0) 143)) g s b _ hpk hrx (by omega)
 have HB0 := Lib.hid hrx
 have HT0 := Lib.hid hth
 have HK0 := Lib.hid (Kr.of_below (g := g) hbx)
 clear hr ha heither hc h hat hpk hbx hrx hth kf kf3
 go_enter Tryz.func141, Tryz.ntmps141
 go_upto_region 1 with (with_reducible refine wpList_allocN rfl rfl _ rfl w.heap.size rfl ?_)
 go_wp2_with fail
 refine k1.mono ?_
 rintro e w1 ⟨rfl, hb⟩
 have c1 := (HB0.out.below hb).c1
 have f1 := there_free (HB0.out.below hb).th 1 (by omega)
 have h2 := (HB0.out.below hb).step
 have h2t := rthere_set (there_later HT0.out hb (by omega)) g 1 (.int .i64 ((b.pos : Int) + 1))
 have h2k := (HK0.out.trans (Kr.of_below (g := g) hb)).trans (Kr.set g w1 1 (.int .i64 ((b.pos : Int) + 1)))
 have h2s : w.heap.size < (w1.setCell ⟨g, 1, none⟩ (.int .i64 ((b.pos : Int) + 1))).heap.size := by rw [World.size_setCell]; have := hb.size; omega
 clear k1 hb HB0 HT0 HK0 hsx
 go_upto_region 3 with fail
 change Code.wp _ _ _ _ (w1.setCell ⟨g, 1, none⟩ (.int .i64 ((b.pos : Int) + 1)))
 clear c1 f1
 obtain ⟨b1, hb1x⟩ : ∃ b1, stepM b = b1 := ⟨_, rfl⟩
 rw [hb1x] at h2 hb1 hb1q hb1e HR HA
 generalize (w1.setCell ⟨g, 1, none⟩ (.int .i64 ((b.pos : Int) + 1))) = w2 at *
 have hca := Ca.new h2 h2t h2k hgl h2s 143
 have HTH : Hid ((w2.alloc (.cells (zeroN 0) 143)).there w2.heap.size 0 258) := Lib.hid (there_new w2 0 143)
 have HC := Lib.hid hca
 clear hca h2 h2t h2k hb1x
 go_upto_region 4 with (first
  | (with_reducible refine wpList_allocN rfl rfl _ rfl w2.heap.size rfl ?_)
  | ((with_reducible refine wpList_buildN rfl _ rfl _ rfl (zeroN 0) ?hf ?_); (case hf => exact node_built0))
  | ((with_reducible refine wpList_storeN rfl _ _ rfl _ rfl w2.heap.size 0 (nodeC 0 noB nilS) ?hx ?hy ?ht (nodeC_len _ _ _) (oneN _ _) ?_); (case hx => rfl); (case hy => rfl); (case ht => exact HTH.out)))
 clear HTH
 generalize w2.heap.size = nb at *
 refine wp_forget2 (fun W => Ca w W nb g s b1 (nodeC 0 noB nilS)) HC.out (fun w3 hw3 => ?_)
 clear HC
 have HC := Lib.hid hw3
 clear hw3
 by_cases e40 : c = 40
 ·subst e40
  have hr := HR.out
  have ha := HA.out
  rw [if_pos rfl] at hr ha
  by_cases ed : d = 8
  ·subst ed
   rw [if_pos rfl] at hr ha
   subst hr ha
   have kq := KF3.out _ _ HC.out.rdr
   go_wp2_with fail
   refine kq.mono ?_
   rintro e w4 ⟨rfl, hB, hs4⟩
   have H4 := Lib.hid (HC.out.stp hB hs4)
   clear kq hB hs4
   go_wp2_with (first
   | ((with_reducible refine wpList_loadN rfl _ rfl _ rfl nb 0 ?hx (nodeC 0 (noB) nilS) ?hc (nodeC_len _ _ _) ?_); (case hx => rfl); (case hc => exact H4.out.nd.at_))
   | ((with_reducible refine wpList_storeN rfl _ _ rfl _ rfl w.heap.size 0 (nodeC 0 (noB) nilS) ?hx ?hy ?ht (nodeC_len _ _ _) (oneN _ _) ?_); (case hx => rfl); (case hy => rfl); (case ht => exact H4.out.res)))
   refine bodyPost_ret (results_agg1 rfl _ _ w.heap.size (nodeC 0 (noB) nilS) (.struct _) rfl (World.rangeAt_setCells_same _ _ _ _ (by rw [show (nodeC 0 (noB) nilS).length = 258 from nodeC_len _ _ _]; exact H4.out.res)) Tryz.underlying143 rfl (by rw [show (nodeC 0 (noB) nilS).length = 258 from nodeC_len _ _ _]; exact node_size)) rfl ?_
   exact ⟨_, _, rfl, Back.mk1 (H4.out.done _).1 rfl (by rw [failM_pos]; omega) (fun h0 => absurd h0 (failM_err (by decide))) (H4.out.done _).2⟩
  ·rw [if_neg ed] at hr ha
   have hd8 : (d : Int) < 8 := by omega
   have hwd : IntKind.i64.wrap ((d : Int) + 1) = (((d + 1 : Nat)) : Int) := by rw [IntWalk.i64_in _ ⟨by omega, by omega⟩]; rfl
   have hke := HE.out m (by omega) w3 g s (d + 1) b1 HC.out.rdr hb1e (by omega) (by omega) (fun h => by cases h) hs (by simp only [fuelM]; omega)
   obtain ⟨rr, hrr⟩ : ∃ rr, runM s m .either (d + 1) b1 = rr := ⟨_, rfl⟩
   rw [hrr] at hr hke
   rw [ha] at hke
   clear hrr
   go_wp2_with fail
   refine hke.mono ?_
   rintro e w4 ⟨cs, b', rfl, hbk⟩
   have H4 := Lib.hid (HC.out.stp hbk.rdr hbk.kr)
   have HBK := Lib.hid hbk
   have hnb3 := HC.out.nd.lt
   have hnbw := HC.out.nb
   have hcl2 := hbk.len
   clear hke hbk
   go_upto_region 10 with ((with_reducible refine wpList_storeN rfl _ _ rfl _ rfl nb 0 cs ?hx ?hy ?ht HBK.out.len HBK.out.one ?_); (case hx => rfl); (case hy => rfl); (case ht => exact H4.out.nd.th))
   have hc5 := H4.out.all cs HBK.out.len
   have ht5 : b'.err = 0 → NA (w4.setCells nb 0 cs) (fun q => w3.heap.size ≤ q ∧ q < w4.heap.size) 0 [cs] a := fun h0 => ((HBK.out.tree h0).2).keep (by rw [size_setCells]; exact Nat.le_refl _) (fun q hq _ => heap_setCells _ _ _ (by omega) _ _)
   have hs5 : (w4.setCells nb 0 cs).heap.size = w4.heap.size := size_setCells _ _ _ _
   have HC5 := Lib.hid hc5
   have HT5 := Lib.hid ht5
   have HBE : Hid (b'.err = rr.1.err ∧ (b'.err = 0 → b'.pos = rr.1.pos) ∧ b'.pos ≤ s.size + 12 - (d + 1)) := Lib.hid ⟨HBK.out.err, fun h0 => (HBK.out.tree h0).1, HBK.out.pos⟩
   have HON := Lib.hid HBK.out.one
   have hbp := HBK.out.pos
   clear hc5 ht5 HBK H4 HC
   generalize (w4.setCells nb 0 cs) = w5 at *
   obtain ⟨o, ho⟩ : ∃ o, peekM s b' = o := ⟨_, rfl⟩
   have k2 := next_is w5 g s b' o ho HC5.out.rdr (by omega)
   have HPK := Lib.hid ((peek_congr (s := s) (b := b') (c := rr.1) HBE.out.1 HBE.out.2.1).symm.trans ho)
   have HO := Lib.hid ho
   clear ho
   go_wp2_with fail
   refine k2.mono ?_
   rintro e w6 ⟨rfl, hb6⟩
   have HC6 := Lib.hid (HC5.out.below hb6)
   have HT6 : Hid (b'.err = 0 → NA w6 (fun q => w.heap.size < q ∧ q < w6.heap.size ∧ q ≠ nb ∧ q ≠ g) 0 [cs] a) := Lib.hid (fun h0 => ((HT5.out h0).later hb6).mono (by
    rintro q ⟨h1, h2⟩
    have := hb6.size
    exact ⟨by omega, by omega, by omega, by omega⟩))
   clear k2 hb6 HC5 HT5
   have HRE : Hid (r.1 = closeM s rr.1) := Lib.hid (by rw [← hr])
   clear hr
   obtain ⟨B, hB⟩ : ∃ B, decide (o ≠ some 41) = B := ⟨_, rfl⟩
   go_upto_region 11 with fail
   go_cut [48] from 43 (fun v wx => v = .bool B ∧ wx = w6)
   case first =>
    rcases o with _ | c2
    ·go_wp2
     go_meet
     exact ⟨by rw [← hB]; rfl, rfl⟩
    ·by_cases g1 : c2 = 41
     ·subst g1
      go_wp2
      go_meet
      exact ⟨by rw [← hB]; rfl, rfl⟩
     ·have g1b : ((c2 : Int) != 41) = true := by simp; omega
      go_wp2
      go_meet
      exact ⟨by rw [← hB, decide_eq_true (by simpa using g1)], rfl⟩
   case rest =>
   obtain ⟨rfl, rfl⟩ := hcut
   go_upto_if 48 with fail
   go_cut [] from 43 (fun wx => ∃ bz : Bs, bz.err = (closeM s rr.1).err ∧ bz.pos + 1 ≤ s.size + 12 - d ∧ (bz.err = 0 → bz.pos = rr.1.pos) ∧ Hid (Ca w wx nb g s bz cs) ∧ Hid (bz.err = 0 → NA wx (fun q => w.heap.size < q ∧ q < wx.heap.size ∧ q ≠ nb ∧ q ≠ g) 0 [cs] a))
   case first =>
    cases B with
    | true =>
     have hne : ¬ peekM s rr.1 = some 41 := by rw [HPK.out]; exact of_decide_eq_true hB
     have kq := KF.out _ _ HC6.out.rdr
     clear hB
     go_wp2_with fail
     refine kq.mono ?_
     rintro e w7 ⟨rfl, hB7, hs7⟩
     have H7 := Lib.hid (HC6.out.stp hB7 hs7)
     clear kq hB7 hs7
     go_wp2
     go_meet
     refine ⟨failM b' 2, ?_, ?_, fun h0 => absurd h0 (failM_err (by decide)), H7, Lib.hid (fun h0 => absurd h0 (failM_err (by decide)))⟩
     ·unfold closeM
      rw [if_neg hne]
      show _ = (failM rr.1 2).err
      unfold failM
      rw [HBE.out.1]
      split <;> first | rfl | exact HBE.out.1
     ·rw [failM_pos]; have := HBE.out.2.2; omega
    | false =>
     have heq : peekM s rr.1 = some 41 := by rw [HPK.out]; have := of_decide_eq_false hB; simpa using this
     clear hB
     go_wp2
     go_meet
     refine ⟨b', ?_, by have := HBE.out.2.2; omega, HBE.out.2.1, HC6, HT6⟩
     unfold closeM
     rw [if_pos heq]
     exact HBE.out.1
   case rest =>
   obtain ⟨bz, hz1, hz2, hz3, HC7, HT7⟩ := hcut
   clear HC6 HT6 hB
   have c1 := HC7.out.rdr.c1
   have f1 := there_free HC7.out.rdr.th 1 (by omega)
   have hgs := HC7.out.rdr.lt
   go_upto_region 14 with fail
   refine wp_forget2 (fun W => Ca w W nb g s (stepM bz) cs ∧ (bz.err = 0 → NA W (fun q => w.heap.size < q ∧ q < W.heap.size ∧ q ≠ nb ∧ q ≠ g) 0 [cs] a)) ⟨HC7.out.step, fun h0 => ((HT7.out h0).keep (by simp) (fun q hq _ => Below.heap_setCell _ _ _ q hq.2.2.2)).mono (fun q hq => ⟨hq.1, by simpa using hq.2.1, hq.2.2⟩)⟩ (fun w8 hw8 => ?_)
   have HC8 := Lib.hid hw8.1
   have HT8 := Lib.hid hw8.2
   clear hw8 HC7 HT7 c1 f1
   go_wp2_with (first
   | ((with_reducible refine wpList_loadN rfl _ rfl _ rfl nb 0 ?hx cs ?hc hcl2 ?_); (case hx => rfl); (case hc => exact HC8.out.nd.at_))
   | ((with_reducible refine wpList_storeN rfl _ _ rfl _ rfl w.heap.size 0 cs ?hx ?hy ?ht hcl2 HON.out ?_); (case hx => rfl); (case hy => rfl); (case ht => exact HC8.out.res)))
   refine bodyPost_ret (results_agg1 rfl _ _ w.heap.size cs (.struct _) rfl (World.rangeAt_setCells_same _ _ _ _ (by rw [show cs.length = 258 from hcl2]; exact HC8.out.res)) Tryz.underlying143 rfl (by rw [show cs.length = 258 from hcl2]; exact node_size)) rfl ?_
   refine ⟨cs, stepM bz, rfl, hcl2, HON.out, (HC8.out.done _).1, ?_, ?_, fun h0 => ⟨?_, ((HT8.out h0).keep (by rw [size_setCells]; exact Nat.le_refl _) (fun q hq _ => heap_setCells _ _ _ (by omega) _ _)).mono (fun q hq => ⟨by omega, by rw [size_setCells]; exact hq.2.1⟩)⟩, (HC8.out.done _).2⟩
   ·rw [HRE.out]; exact hz1
   ·simp only [stepM]; omega
   ·rw [HRE.out, closeM_pos]
    have := hz3 h0
    simp only [stepM]; omega
 ·have hr := HR.out
  have ha := HA.out
  rw [if_neg e40] at hr ha
  have e40b : ((c : Int) == 40) = false := by rw [beq_eq_false_iff_ne]; omega
  clear HR HA HE KF3
  by_cases e91 : c = 91
  ·subst e91
   rw [if_pos rfl] at hr ha
   subst hr ha
   have kc := rclass_is w3 g s b1 HC.out.rdr (by omega) (by omega)
   go_wp2_with fail
   refine kc.mono ?_
   rintro e w4 ⟨S', b', rfl, h1, h2, h3, h4, hk4⟩
   have H4 := Lib.hid (HC.out.stp h1 hk4)
   clear kc HC h1 hk4
   go_wp2_with (first
   | ((with_reducible refine wpList_loadN rfl _ rfl _ rfl nb 0 ?hx (nodeC 0 (S') nilS) ?hc (nodeC_len _ _ _) ?_); (case hx => rfl); (case hc => exact H4.out.nd.at_))
   | ((with_reducible refine wpList_storeN rfl _ _ rfl _ rfl w.heap.size 0 (nodeC 0 (S') nilS) ?hx ?hy ?ht (nodeC_len _ _ _) (oneN _ _) ?_); (case hx => rfl); (case hy => rfl); (case ht => exact H4.out.res)))
   refine bodyPost_ret (results_agg1 rfl _ _ w.heap.size (nodeC 0 (S') nilS) (.struct _) rfl (World.rangeAt_setCells_same _ _ _ _ (by rw [show (nodeC 0 (S') nilS).length = 258 from nodeC_len _ _ _]; exact H4.out.res)) Tryz.underlying143 rfl (by rw [show (nodeC 0 (S') nilS).length = 258 from nodeC_len _ _ _]; exact node_size)) rfl ?_
   exact ⟨_, b', rfl, Back.mk1 (H4.out.done _).1 h2 (by omega) h4 (H4.out.done _).2⟩
  rw [if_neg e91] at hr ha
  have e91b : ((c : Int) == 91) = false := by rw [beq_eq_false_iff_ne]; omega
  by_cases e46 : c = 46
  ·subst e46
   rw [if_pos rfl] at hr ha
   subst hr ha
   go_wp2
   go_loopw [10] (fun v wr => ∃ k : Nat, v = .int .i64 (k : Nat) ∧ k ≤ 256 ∧ Hid (Ca w wr nb g s b1 (nodeC 0 (addU noB 0 k) nilS))) (fun v _ => 257 - (intOf v).toNat)
   case atStart => exact ⟨0, rfl, by omega, Lib.hid (by rw [addU_start]; exact HC.out)⟩
   case round =>
    clear HC
    obtain ⟨k, rfl, hk, HT⟩ := hrel
    by_cases hk2 : k < 256
    ·have n1 := HT.out.nd.cell (nodeC_set 0 (addU noB 0 k) nilS k hk2)
     have f1 := HT.out.nd.free (j := 1 + k) (by omega)
     have hki0 : (0 : Int) ≤ (k : Int) := by omega
     have hki1 : (k : Int) < 256 := by omega
     go_wp2
     go_roundw
     case rel => exact ⟨k + 1, by go_num, by omega, Lib.hid (by
      have := HT.out.put (1 + k) (.bool true) (by omega)
      rw [nodeC_setB 0 _ _ k hk2, addU_succ (Nat.zero_le k)] at this
      exact this)⟩
     case measure => (simp [intOf]; try omega)
    ·obtain rfl : k = 256 := by omega
     go_wp2_with (first
   | ((with_reducible refine wpList_loadN rfl _ rfl _ rfl nb 0 ?hx (nodeC 0 (addU noB 0 256) nilS) ?hc (nodeC_len _ _ _) ?_); (case hx => rfl); (case hc => exact HT.out.nd.at_))
   | ((with_reducible refine wpList_storeN rfl _ _ rfl _ rfl w.heap.size 0 (nodeC 0 (addU noB 0 256) nilS) ?hx ?hy ?ht (nodeC_len _ _ _) (oneN _ _) ?_); (case hx => rfl); (case hy => rfl); (case ht => exact HT.out.res)))
     refine bodyPost_ret (results_agg1 rfl _ _ w.heap.size (nodeC 0 (addU noB 0 256) nilS) (.struct _) rfl (World.rangeAt_setCells_same _ _ _ _ (by rw [show (nodeC 0 (addU noB 0 256) nilS).length = 258 from nodeC_len _ _ _]; exact HT.out.res)) Tryz.underlying143 rfl (by rw [show (nodeC 0 (addU noB 0 256) nilS).length = 258 from nodeC_len _ _ _]; exact node_size)) rfl ?_
     exact ⟨_, b1, rfl, Back.mk1 (HT.out.done _).1 rfl (by omega) (fun _ => ⟨rfl, dot_all _⟩) (HT.out.done _).2⟩
  rw [if_neg e46] at hr ha
  have e46b : ((c : Int) == 46) = false := by rw [beq_eq_false_iff_ne]; omega
  by_cases e92 : c = 92
  ·subst e92
   rw [if_pos rfl] at hr ha
   obtain ⟨o, ho⟩ : ∃ o, peekM s b1 = o := ⟨_, rfl⟩
   have k2 := next_is w3 g s b1 o ho HC.out.rdr (by omega)
   rw [ho] at hr ha
   have hlt : ∀ x, o = some x → x < 256 := fun x hx => rpeek_lt (ho.trans hx)
   clear ho
   go_wp2_with fail
   refine k2.mono ?_
   rintro e w4 ⟨rfl, hb4⟩
   have H4 := Lib.hid (HC.out.below hb4)
   clear k2 hb4 HC
   rcases o with _ | x
   ·dsimp only at hr ha
    subst hr ha
    have kq := KF.out _ _ H4.out.rdr
    go_wp2_with fail
    refine kq.mono ?_
    rintro e w5 ⟨rfl, hB5, hs5⟩
    have H5 := Lib.hid (H4.out.stp hB5 hs5)
    have c1 := H5.out.rdr.c1
    have f1 := there_free H5.out.rdr.th 1 (by omega)
    have hp5 : (failM b1 2).pos ≤ b1.pos := by rw [failM_pos]; exact Nat.le_refl _
    clear kq hB5 hs5 H4
    go_upto_region 28 with fail
    refine wp_forget2 (fun W => Ca w W nb g s (stepM (failM b1 2)) (nodeC 0 noB nilS)) H5.out.step (fun w6 hw6 => ?_)
    have H6 := Lib.hid hw6
    clear hw6 H5 c1 f1
    have n1 := H6.out.nd.cell (nodeC_set 0 noB nilS 0 (by omega))
    have f1 := H6.out.nd.free (j := 1) (by omega)
    go_upto_region 29 with fail
    refine wp_forget2 (fun W => Ca w W nb g s (stepM (failM b1 2)) (nodeC 0 (fun x => if x = 0 then true else noB x) nilS)) (by
     have := H6.out.put 1 (.bool true) (by omega)
     rw [show (1 : Nat) = 1 + 0 by rfl, nodeC_setB 0 _ _ 0 (by omega)] at this
     exact this) (fun w7 hw7 => ?_)
    have H7 := Lib.hid hw7
    clear hw7 H6 n1 f1
    go_wp2_with (first
   | ((with_reducible refine wpList_loadN rfl _ rfl _ rfl nb 0 ?hx (nodeC 0 (fun x => if x = 0 then true else noB x) nilS) ?hc (nodeC_len _ _ _) ?_); (case hx => rfl); (case hc => exact H7.out.nd.at_))
   | ((with_reducible refine wpList_storeN rfl _ _ rfl _ rfl w.heap.size 0 (nodeC 0 (fun x => if x = 0 then true else noB x) nilS) ?hx ?hy ?ht (nodeC_len _ _ _) (oneN _ _) ?_); (case hx => rfl); (case hy => rfl); (case ht => exact H7.out.res)))
    refine bodyPost_ret (results_agg1 rfl _ _ w.heap.size (nodeC 0 (fun x => if x = 0 then true else noB x) nilS) (.struct _) rfl (World.rangeAt_setCells_same _ _ _ _ (by rw [show (nodeC 0 (fun x => if x = 0 then true else noB x) nilS).length = 258 from nodeC_len _ _ _]; exact H7.out.res)) Tryz.underlying143 rfl (by rw [show (nodeC 0 (fun x => if x = 0 then true else noB x) nilS).length = 258 from nodeC_len _ _ _]; exact node_size)) rfl ?_
    exact ⟨_, _, rfl, Back.mk1 (H7.out.done _).1 rfl (by simp only [stepM]; omega) (fun h0 => absurd h0 (failM_err (by decide))) (H7.out.done _).2⟩
   ·have hx := hlt x rfl
    (try dsimp only at hr ha)
    subst hr ha
    have c1 := H4.out.rdr.c1
    have f1 := there_free H4.out.rdr.th 1 (by omega)
    go_upto_region 28 with fail
    refine wp_forget2 (fun W => Ca w W nb g s (stepM b1) (nodeC 0 noB nilS)) H4.out.step (fun w6 hw6 => ?_)
    have H6 := Lib.hid hw6
    clear hw6 H4 c1 f1
    have n1 := H6.out.nd.cell (nodeC_set 0 noB nilS x hx)
    have f1 := H6.out.nd.free (j := 1 + x) (by omega)
    go_upto_region 29 with fail
    refine wp_forget2 (fun W => Ca w W nb g s (stepM b1) (nodeC 0 (fun y => if y = x then true else noB y) nilS)) (by
     have := H6.out.put (1 + x) (.bool true) (by omega)
     rw [nodeC_setB 0 _ _ x hx] at this
     exact this) (fun w7 hw7 => ?_)
    have H7 := Lib.hid hw7
    clear hw7 H6 n1 f1
    go_wp2_with (first
   | ((with_reducible refine wpList_loadN rfl _ rfl _ rfl nb 0 ?hx (nodeC 0 (fun y => if y = x then true else noB y) nilS) ?hc (nodeC_len _ _ _) ?_); (case hx => rfl); (case hc => exact H7.out.nd.at_))
   | ((with_reducible refine wpList_storeN rfl _ _ rfl _ rfl w.heap.size 0 (nodeC 0 (fun y => if y = x then true else noB y) nilS) ?hx ?hy ?ht (nodeC_len _ _ _) (oneN _ _) ?_); (case hx => rfl); (case hy => rfl); (case ht => exact H7.out.res)))
    refine bodyPost_ret (results_agg1 rfl _ _ w.heap.size (nodeC 0 (fun y => if y = x then true else noB y) nilS) (.struct _) rfl (World.rangeAt_setCells_same _ _ _ _ (by rw [show (nodeC 0 (fun y => if y = x then true else noB y) nilS).length = 258 from nodeC_len _ _ _]; exact H7.out.res)) Tryz.underlying143 rfl (by rw [show (nodeC 0 (fun y => if y = x then true else noB y) nilS).length = 258 from nodeC_len _ _ _]; exact node_size)) rfl ?_
    exact ⟨_, _, rfl, Back.mk1 (H7.out.done _).1 rfl (by simp only [stepM]; omega) (fun _ => ⟨rfl, by rw [oneS_eq]⟩) (H7.out.done _).2⟩
  rw [if_neg e92] at hr ha
  have e92b : ((c : Int) == 92) = false := by rw [beq_eq_false_iff_ne]; omega
  by_cases eo : oddB c = true
  ·rw [if_pos eo] at hr ha
   subst hr ha
   have h4 : c = 42 ∨ c = 43 ∨ c = 63 ∨ c = 93 := by
    simp only [oddB, postB, Bool.or_eq_true, decide_eq_true_eq] at eo
    omega
   have hc2 : c < 256 := hcl
   clear eo
   have kq := KF.out _ _ HC.out.rdr
   have hp5 : (failM b1 2).pos ≤ b1.pos := by rw [failM_pos]; exact Nat.le_refl _
   rcases h4 with rfl | rfl | rfl | rfl
   ·go_wp2_with fail
    refine kq.mono ?_
    rintro e w5 ⟨rfl, hB5, hs5⟩
    have H5 := Lib.hid (HC.out.stp hB5 hs5)
    clear kq hB5 hs5 HC
    have n1 := H5.out.nd.cell (nodeC_set 0 noB nilS 42 (by omega))
    have f1 := H5.out.nd.free (j := 1 + 42) (by omega)
    simp only [Nat.reduceAdd] at n1 f1
    go_upto_region 36 with fail
    refine wp_forget2 (fun W => Ca w W nb g s (failM b1 2) (nodeC 0 (fun x => if x = 42 then true else noB x) nilS)) (by
     have := H5.out.put (1 + 42) (.bool true) (by omega)
     rw [nodeC_setB 0 _ _ 42 (by omega)] at this
     exact this) (fun w7 hw7 => ?_)
    have H7 := Lib.hid hw7
    clear hw7 H5 n1 f1
    go_wp2_with (first
   | ((with_reducible refine wpList_loadN rfl _ rfl _ rfl nb 0 ?hx (nodeC 0 (fun x => if x = 42 then true else noB x) nilS) ?hc (nodeC_len _ _ _) ?_); (case hx => rfl); (case hc => exact H7.out.nd.at_))
   | ((with_reducible refine wpList_storeN rfl _ _ rfl _ rfl w.heap.size 0 (nodeC 0 (fun x => if x = 42 then true else noB x) nilS) ?hx ?hy ?ht (nodeC_len _ _ _) (oneN _ _) ?_); (case hx => rfl); (case hy => rfl); (case ht => exact H7.out.res)))
    refine bodyPost_ret (results_agg1 rfl _ _ w.heap.size (nodeC 0 (fun x => if x = 42 then true else noB x) nilS) (.struct _) rfl (World.rangeAt_setCells_same _ _ _ _ (by rw [show (nodeC 0 (fun x => if x = 42 then true else noB x) nilS).length = 258 from nodeC_len _ _ _]; exact H7.out.res)) Tryz.underlying143 rfl (by rw [show (nodeC 0 (fun x => if x = 42 then true else noB x) nilS).length = 258 from nodeC_len _ _ _]; exact node_size)) rfl ?_
    exact ⟨_, _, rfl, Back.mk1 (H7.out.done _).1 rfl (by omega) (fun h0 => absurd h0 (failM_err (by decide))) (H7.out.done _).2⟩
   ·go_wp2_with fail
    refine kq.mono ?_
    rintro e w5 ⟨rfl, hB5, hs5⟩
    have H5 := Lib.hid (HC.out.stp hB5 hs5)
    clear kq hB5 hs5 HC
    have n1 := H5.out.nd.cell (nodeC_set 0 noB nilS 43 (by omega))
    have f1 := H5.out.nd.free (j := 1 + 43) (by omega)
    simp only [Nat.reduceAdd] at n1 f1
    go_upto_region 36 with fail
    refine wp_forget2 (fun W => Ca w W nb g s (failM b1 2) (nodeC 0 (fun x => if x = 43 then true else noB x) nilS)) (by
     have := H5.out.put (1 + 43) (.bool true) (by omega)
     rw [nodeC_setB 0 _ _ 43 (by omega)] at this
     exact this) (fun w7 hw7 => ?_)
    have H7 := Lib.hid hw7
    clear hw7 H5 n1 f1
    go_wp2_with (first
   | ((with_reducible refine wpList_loadN rfl _ rfl _ rfl nb 0 ?hx (nodeC 0 (fun x => if x = 43 then true else noB x) nilS) ?hc (nodeC_len _ _ _) ?_); (case hx => rfl); (case hc => exact H7.out.nd.at_))
   | ((with_reducible refine wpList_storeN rfl _ _ rfl _ rfl w.heap.size 0 (nodeC 0 (fun x => if x = 43 then true else noB x) nilS) ?hx ?hy ?ht (nodeC_len _ _ _) (oneN _ _) ?_); (case hx => rfl); (case hy => rfl); (case ht => exact H7.out.res)))
    refine bodyPost_ret (results_agg1 rfl _ _ w.heap.size (nodeC 0 (fun x => if x = 43 then true else noB x) nilS) (.struct _) rfl (World.rangeAt_setCells_same _ _ _ _ (by rw [show (nodeC 0 (fun x => if x = 43 then true else noB x) nilS).length = 258 from nodeC_len _ _ _]; exact H7.out.res)) Tryz.underlying143 rfl (by rw [show (nodeC 0 (fun x => if x = 43 then true else noB x) nilS).length = 258 from nodeC_len _ _ _]; exact node_size)) rfl ?_
    exact ⟨_, _, rfl, Back.mk1 (H7.out.done _).1 rfl (by omega) (fun h0 => absurd h0 (failM_err (by decide))) (H7.out.done _).2⟩
   ·go_wp2_with fail
    refine kq.mono ?_
    rintro e w5 ⟨rfl, hB5, hs5⟩
    have H5 := Lib.hid (HC.out.stp hB5 hs5)
    clear kq hB5 hs5 HC
    have n1 := H5.out.nd.cell (nodeC_set 0 noB nilS 63 (by omega))
    have f1 := H5.out.nd.free (j := 1 + 63) (by omega)
    simp only [Nat.reduceAdd] at n1 f1
    go_upto_region 36 with fail
    refine wp_forget2 (fun W => Ca w W nb g s (failM b1 2) (nodeC 0 (fun x => if x = 63 then true else noB x) nilS)) (by
     have := H5.out.put (1 + 63) (.bool true) (by omega)
     rw [nodeC_setB 0 _ _ 63 (by omega)] at this
     exact this) (fun w7 hw7 => ?_)
    have H7 := Lib.hid hw7
    clear hw7 H5 n1 f1
    go_wp2_with (first
   | ((with_reducible refine wpList_loadN rfl _ rfl _ rfl nb 0 ?hx (nodeC 0 (fun x => if x = 63 then true else noB x) nilS) ?hc (nodeC_len _ _ _) ?_); (case hx => rfl); (case hc => exact H7.out.nd.at_))
   | ((with_reducible refine wpList_storeN rfl _ _ rfl _ rfl w.heap.size 0 (nodeC 0 (fun x => if x = 63 then true else noB x) nilS) ?hx ?hy ?ht (nodeC_len _ _ _) (oneN _ _) ?_); (case hx => rfl); (case hy => rfl); (case ht => exact H7.out.res)))
    refine bodyPost_ret (results_agg1 rfl _ _ w.heap.size (nodeC 0 (fun x => if x = 63 then true else noB x) nilS) (.struct _) rfl (World.rangeAt_setCells_same _ _ _ _ (by rw [show (nodeC 0 (fun x => if x = 63 then true else noB x) nilS).length = 258 from nodeC_len _ _ _]; exact H7.out.res)) Tryz.underlying143 rfl (by rw [show (nodeC 0 (fun x => if x = 63 then true else noB x) nilS).length = 258 from nodeC_len _ _ _]; exact node_size)) rfl ?_
    exact ⟨_, _, rfl, Back.mk1 (H7.out.done _).1 rfl (by omega) (fun h0 => absurd h0 (failM_err (by decide))) (H7.out.done _).2⟩
   ·go_wp2_with fail
    refine kq.mono ?_
    rintro e w5 ⟨rfl, hB5, hs5⟩
    have H5 := Lib.hid (HC.out.stp hB5 hs5)
    clear kq hB5 hs5 HC
    have n1 := H5.out.nd.cell (nodeC_set 0 noB nilS 93 (by omega))
    have f1 := H5.out.nd.free (j := 1 + 93) (by omega)
    simp only [Nat.reduceAdd] at n1 f1
    go_upto_region 36 with fail
    refine wp_forget2 (fun W => Ca w W nb g s (failM b1 2) (nodeC 0 (fun x => if x = 93 then true else noB x) nilS)) (by
     have := H5.out.put (1 + 93) (.bool true) (by omega)
     rw [nodeC_setB 0 _ _ 93 (by omega)] at this
     exact this) (fun w7 hw7 => ?_)
    have H7 := Lib.hid hw7
    clear hw7 H5 n1 f1
    go_wp2_with (first
   | ((with_reducible refine wpList_loadN rfl _ rfl _ rfl nb 0 ?hx (nodeC 0 (fun x => if x = 93 then true else noB x) nilS) ?hc (nodeC_len _ _ _) ?_); (case hx => rfl); (case hc => exact H7.out.nd.at_))
   | ((with_reducible refine wpList_storeN rfl _ _ rfl _ rfl w.heap.size 0 (nodeC 0 (fun x => if x = 93 then true else noB x) nilS) ?hx ?hy ?ht (nodeC_len _ _ _) (oneN _ _) ?_); (case hx => rfl); (case hy => rfl); (case ht => exact H7.out.res)))
    refine bodyPost_ret (results_agg1 rfl _ _ w.heap.size (nodeC 0 (fun x => if x = 93 then true else noB x) nilS) (.struct _) rfl (World.rangeAt_setCells_same _ _ _ _ (by rw [show (nodeC 0 (fun x => if x = 93 then true else noB x) nilS).length = 258 from nodeC_len _ _ _]; exact H7.out.res)) Tryz.underlying143 rfl (by rw [show (nodeC 0 (fun x => if x = 93 then true else noB x) nilS).length = 258 from nodeC_len _ _ _]; exact node_size)) rfl ?_
    exact ⟨_, _, rfl, Back.mk1 (H7.out.done _).1 rfl (by omega) (fun h0 => absurd h0 (failM_err (by decide))) (H7.out.done _).2⟩
  ·rw [if_neg eo] at hr ha
   subst hr ha
   have g1 : ((c : Int) == 42) = false := by rw [beq_eq_false_iff_ne]; intro h; apply eo; simp [oddB, postB]; omega
   have g2 : ((c : Int) == 43) = false := by rw [beq_eq_false_iff_ne]; intro h; apply eo; simp [oddB, postB]; omega
   have g3 : ((c : Int) == 63) = false := by rw [beq_eq_false_iff_ne]; intro h; apply eo; simp [oddB, postB]; omega
   have g4 : ((c : Int) == 93) = false := by rw [beq_eq_false_iff_ne]; intro h; apply eo; simp [oddB, postB]; omega
   have n1 := HC.out.nd.cell (nodeC_set 0 noB nilS c hcl)
   have f1 := HC.out.nd.free (j := 1 + c) (by omega)
   clear eo
   go_upto_region 36 with fail
   refine wp_forget2 (fun W => Ca w W nb g s b1 (nodeC 0 (fun y => if y = c then true else noB y) nilS)) (by
    have := HC.out.put (1 + c) (.bool true) (by omega)
    rw [nodeC_setB 0 _ _ c hcl] at this
    exact this) (fun w7 hw7 => ?_)
   have H7 := Lib.hid hw7
   clear hw7 n1 f1
   go_wp2_with (first
   | ((with_reducible refine wpList_loadN rfl _ rfl _ rfl nb 0 ?hx (nodeC 0 (fun y => if y = c then true else noB y) nilS) ?hc (nodeC_len _ _ _) ?_); (case hx => rfl); (case hc => exact H7.out.nd.at_))
   | ((with_reducible refine wpList_storeN rfl _ _ rfl _ rfl w.heap.size 0 (nodeC 0 (fun y => if y = c then true else noB y) nilS) ?hx ?hy ?ht (nodeC_len _ _ _) (oneN _ _) ?_); (case hx => rfl); (case hy => rfl); (case ht => exact H7.out.res)))
   refine bodyPost_ret (results_agg1 rfl _ _ w.heap.size (nodeC 0 (fun y => if y = c then true else noB y) nilS) (.struct _) rfl (World.rangeAt_setCells_same _ _ _ _ (by rw [show (nodeC 0 (fun y => if y = c then true else noB y) nilS).length = 258 from nodeC_len _ _ _]; exact H7.out.res)) Tryz.underlying143 rfl (by rw [show (nodeC 0 (fun y => if y = c then true else noB y) nilS).length = 258 from nodeC_len _ _ _]; exact node_size)) rfl ?_
   exact ⟨_, _, rfl, Back.mk1 (H7.out.done _).1 rfl (by omega) (fun _ => ⟨rfl, by rw [oneS_eq]⟩) (H7.out.done _).2⟩
end Go.Proofs.YtipnhpfpppblhaaGreat
/- The reference's Read: a contract. -/
namespace Go.Proofs.YtipnhpfpppblhaaGreat
open Go.RowKit
theorem nd_all : ∀ n, NdK 118 .either n ∧ NdK 130 .row n ∧ NdK 141 .atom n
 | 0 => ⟨fun m hm w g s d b _ _ _ _ _ _ hf => by simp only [fuelM] at hf; omega, fun m hm w g s d b _ _ _ _ _ _ hf => by simp only [fuelM] at hf; omega, fun m hm w g s d b _ _ _ _ _ _ hf => by simp only [fuelM] at hf; omega⟩
 | n + 1 => ⟨either_is n (nd_all n).2.1, row_is n (nd_all n).2.2, atom_is n (nd_all n).1⟩
structure Rz (w wx : World) (nb : Nat) (s : ByteArray) (b : Bs) (cs : List Value) (ok : Prop) (a : Re) : Prop where
 rdr : RdrAt wx (w.heap.size + 1) s b
 nd : NdAt wx nb cs
 res : wx.there w.heap.size 0 258
 bl : Below w.heap.size w wx
 hn : w.heap.size + 1 < nb
 one : ∀ y ∈ cs, y.oneCell' = true
 tree : ok → NA wx (fun q => w.heap.size + 2 ≤ q ∧ q < wx.heap.size) 0 [cs] a
theorem Rz.below {w wx wy : World} {nb : Nat} {s : ByteArray} {b : Bs} {cs : List Value} {ok : Prop} {a : Re} (h : Rz w wx nb s b cs ok a) (hb : Below wx.heap.size wx wy) : Rz w wy nb s b cs ok a :=
 ⟨h.rdr.below hb, h.nd.later hb, there_later h.res hb (by have := h.nd.lt; have := h.hn; omega), h.bl.trans (hb.mono h.bl.size), h.hn, h.one, fun o => ((h.tree o).later hb).mono (fun _ hq => ⟨hq.1, by have := hb.size; omega⟩)⟩
theorem Rz.stp {w wx wy : World} {nb : Nat} {s : ByteArray} {b b' : Bs} {cs : List Value} {ok : Prop} {a : Re} (h : Rz w wx nb s b cs ok a) (hr : RdrAt wy (w.heap.size + 1) s b') (hk : Kr (w.heap.size + 1) wx wy) : Rz w wy nb s b' cs ok a :=
 ⟨hr, h.nd.kr hk (by have := h.hn; omega), there_kept h.res (hk.block _ (by have := h.nd.lt; have := h.hn; omega) (by omega)), h.bl.trans (hk.below h.bl.size (fun k e => by omega)), h.hn, h.one, fun o => ((h.tree o).keep hk.size (fun q hq hlt => hk.block q hlt (by omega))).mono (fun _ hq => ⟨hq.1, by have := hk.size; omega⟩)⟩
theorem Rz.fin {w wx : World} {nb : Nat} {s : ByteArray} {b : Bs} {cs : List Value} {ok : Prop} {a : Re} (h : Rz w wx nb s b cs ok a) (vs : List Value) : RdrAt (wx.setCells w.heap.size 0 vs) (w.heap.size + 1) s b ∧ Below w.heap.size w (wx.setCells w.heap.size 0 vs) ∧ (ok → NA (wx.setCells w.heap.size 0 vs) (fun q => w.heap.size ≤ q ∧ q < (wx.setCells w.heap.size 0 vs).heap.size) 0 [cs] a) :=
 ⟨h.rdr.kept (by rw [size_setCells]; exact Nat.le_refl _) (heap_setCells _ _ _ (by omega) _ _), below_puts h.bl (Nat.le_refl _) vs, fun o => ((h.tree o).keep (w' := wx.setCells w.heap.size 0 vs) (by rw [size_setCells]; exact Nat.le_refl _) (fun q hq _ => heap_setCells _ _ _ (by omega) _ _)).mono (fun q hq => ⟨by omega, by rw [size_setCells]; exact hq.2⟩)⟩
theorem endR_err {s : ByteArray} {b : Bs} (he : b.err = (runR s).1.err) (hp : b.err = 0 → b.pos = (runR s).1.pos) : (endR s).err = if b.err = 0 ∧ b.pos < s.size then 2 else b.err := by
 unfold endR
 by_cases h0 : b.err = 0
 ·rw [← hp h0]
  by_cases h1 : b.pos < s.size
  ·rw [if_pos h1, if_pos ⟨h0, h1⟩]
   unfold failM
   rw [← he, if_pos h0]
  ·rw [if_neg h1, if_neg (fun h => h1 h.2)]
   exact he.symm
 ·have hn : ¬ (b.err = 0 ∧ b.pos < s.size) := fun h => h0 h.1
  rw [if_neg hn, he]
  split
  ·unfold failM
   rw [← he, if_neg h0]
   exact he.symm
  ·rfl
set_option maxHeartbeats 6400000 in
set_option maxRecDepth 100000 in
theorem rread_any (s : ByteArray) (w : World) :
  Calls Tryz.prog 101 #[.string s] w fun e w' => ∃ cs, e = .returned (.tuple #[.agg cs.toArray, .int .i64 (errM s)]) ∧ cs.length = 258 ∧ (∀ y ∈ cs, y.oneCell' = true) ∧ (errM s = 0 → NA w' (fun q => w.heap.size ≤ q ∧ q < w'.heap.size) 0 [cs] (reT s)) ∧ Below w.heap.size w w' := by
 have hT := there_new w 0 143
 have hB := alloc_below w (.cells (zeroN 0) 143)
 by_cases hl : 100 < s.size
 ·have hl1 : (100 : Int) < (s.size : Int) := by omega
  have HE : Hid (errM s = 4) := Lib.hid (by unfold errM; rw [if_pos hl])
  have HT := Lib.hid hT
  have HB := Lib.hid hB
  clear hT hB
  go_enter Tryz.func101, Tryz.ntmps101
  go_wp2_with (first
   | (with_reducible refine wpList_allocN rfl rfl _ rfl w.heap.size rfl ?_)
   | ((with_reducible refine wpList_storeN rfl _ _ rfl _ rfl w.heap.size 0 (nodeC 0 noB nilS) ?hx ?hy ?ht (nodeC_len _ _ _) (oneN _ _) ?_); (case hx => rfl); (case hy => rfl); (case ht => exact HT.out)))
  refine bodyPost_ret (results_agg2 rfl _ _ w.heap.size (nodeC 0 noB nilS) (.struct _) rfl (World.rangeAt_setCells_same _ _ _ _ (by rw [nodeC_len]; exact HT.out)) Tryz.underlying143 rfl (by rw [nodeC_len]; exact node_size)) rfl ?_
  refine ⟨nodeC 0 noB nilS, ?_, nodeC_len _ _ _, oneN _ _, fun h0 => ?_, below_puts HB.out (Nat.le_refl _) _⟩
  ·rw [HE.out]; rfl
  ·rw [HE.out] at h0; exact absurd h0 (by decide)
 ·have hl1 : (s.size : Int) ≤ 100 := by omega
  have HL : Hid (¬ 100 < s.size) := Lib.hid hl
  have HEE : Hid (errM s = (endR s).err) := Lib.hid (by unfold errM; rw [if_neg hl])
  have hb2 := hB.trans ((alloc_below (w.alloc (.cells (zeroN 0) 143)) (.cells #[.string s, .int .i64 0, .int .i64 0] 164)).mono hB.size)
  have hsz : ((w.alloc (.cells (zeroN 0) 143)).alloc (.cells #[.string s, .int .i64 0, .int .i64 0] 164)).heap.size = w.heap.size + 2 := by rw [World.size_alloc, World.size_alloc]
  have hrd : RdrAt ((w.alloc (.cells (zeroN 0) 143)).alloc (.cells #[.string s, .int .i64 0, .int .i64 0] 164)) (w.heap.size + 1) s bs0 := by
   have hr := Below.refl ((w.alloc (.cells (zeroN 0) 143)).alloc (.cells #[.string s, .int .i64 0, .int .i64 0] 164)).heap.size ((w.alloc (.cells (zeroN 0) 143)).alloc (.cells #[.string s, .int .i64 0, .int .i64 0] 164))
   have h0 := (box_cells hr).1 0 _ rfl
   have h1 := (box_cells hr).1 1 _ rfl
   have h2 := (box_cells hr).1 2 _ rfl
   have ht := box_there hr
   rw [World.size_alloc] at h0 h1 h2 ht
   exact ⟨h0, h1, h2, ht, by rw [hsz]; omega⟩
  have ht2 := there_later hT (alloc_below _ (.cells #[.string s, .int .i64 0, .int .i64 0] 164)) (by rw [World.size_alloc]; omega)
  obtain ⟨W2, hW2⟩ : ∃ W2, ((w.alloc (.cells (zeroN 0) 143)).alloc (.cells #[.string s, .int .i64 0, .int .i64 0] 164)) = W2 := ⟨_, rfl⟩
  rw [hW2] at hb2 hsz hrd ht2
  have ke := (nd_all (8 * s.size + 5)).1 _ (Nat.le_refl _) W2 (w.heap.size + 1) s 0 bs0 hrd rfl (by omega) (by simp [bs0]) (fun h => by cases h) (by omega) (by simp [fuelM, bs0])
  have HB2 := Lib.hid hb2
  have HT2 := Lib.hid ht2
  clear hb2 hrd ht2 hT hB
  go_enter Tryz.func101, Tryz.ntmps101
  go_upto_region 4 with (with_reducible refine wpList_allocN rfl rfl _ rfl w.heap.size rfl ?_)
  (try simp only [World.size_alloc])
  (try rw [hW2])
  clear hW2
  go_wp2_with fail
  refine ke.mono ?_
  rintro e w3 ⟨cs, b', rfl, hbk⟩
  have hn3 := NdAt.new w3 0 143
  have hs3 := hbk.kr.size
  have hrz : Rz w ((w3.alloc (.cells (zeroN 0) 143)).setCells w3.heap.size 0 cs) w3.heap.size s b' cs (b'.err = 0) (reT s) := by
   have hba := alloc_below w3 (.cells (zeroN 0) 143)
   have hbl3 : Below w.heap.size w w3 := HB2.out.trans (hbk.kr.below HB2.out.size (fun k e => by omega))
   have hlt := hbk.rdr.lt
   refine ⟨(hbk.rdr.below hba).kept (by rw [size_setCells]; exact Nat.le_refl _) (heap_setCells _ _ _ (by omega) _ _), hn3.stored hbk.len, there_kept (there_later (there_kept HT2.out (hbk.kr.block _ (by omega) (by omega))) hba (by omega)) (heap_setCells _ _ _ (by omega) _ _), below_puts (hbl3.trans (hba.mono hbl3.size)) (by omega) _, by omega, hbk.one, fun h0 => ?_⟩
   refine (((hbk.tree h0).2.later hba).keep (w' := (w3.alloc (.cells (zeroN 0) 143)).setCells w3.heap.size 0 cs) (by rw [size_setCells]; exact Nat.le_refl _) (fun q hq _ => heap_setCells _ _ _ (by omega) _ _)).mono (fun q hq => ⟨by omega, by rw [size_setCells, World.size_alloc]; omega⟩)
  have HTH := Lib.hid hn3.th
  have HLN := Lib.hid hbk.len
  have HON := Lib.hid hbk.one
  have HEN := Lib.hid (endR_err hbk.err (fun h0 => (hbk.tree h0).1))
  have hbp := hbk.pos
  clear ke hbk hn3 hs3 hsz HB2 HT2
  go_upto_region 5 with (first
   | (with_reducible refine wpList_allocN rfl rfl _ rfl w3.heap.size rfl ?_)
   | ((with_reducible refine wpList_storeN rfl _ _ rfl _ rfl w3.heap.size 0 cs ?hx ?hy ?ht HLN.out HON.out ?_); (case hx => rfl); (case hy => rfl); (case ht => exact HTH.out)))
  clear HTH
  (try simp only [Act.put, List.setIfInBounds_toArray, List.set_cons_zero, List.set_cons_succ])
  generalize ((w3.alloc (.cells (zeroN 0) 143)).setCells w3.heap.size 0 cs) = w4 at *
  generalize w3.heap.size = nb at *
  have HZ := Lib.hid hrz
  clear hrz
  obtain ⟨B, hB⟩ : ∃ B, decide (b'.err = 0 ∧ b'.pos < s.size) = B := ⟨_, rfl⟩
  have HBB := Lib.hid hB
  clear hB
  go_cut [31] from 32 (fun v wx => v = .bool B ∧ Hid (Rz w wx nb s b' cs (b'.err = 0) (reT s)))
  case first =>
   have c0 := HZ.out.rdr.c0
   have c1 := HZ.out.rdr.c1
   have c2 := HZ.out.rdr.c2
   by_cases h0 : b'.err = 0
   ·have hpe : decide (b'.pos < s.size) = B := by rw [← HBB.out]; exact decide_eq_decide.2 ⟨fun h => ⟨h0, h⟩, fun h => h.2⟩
    have hpi : decide ((b'.pos : Int) < (s.size : Int)) = B := by rw [← hpe]; exact decide_eq_decide.2 (by omega)
    rw [h0] at c2
    have HPE := Lib.hid hpe
    clear hpe h0
    go_big_quiet (fail)
    go_wp2
    go_meet
    exact ⟨by first | rfl | exact congrArg Value.bool HPE.out, Lib.hid (HZ.out.below (bl_drewN (Below.refl _ _) _))⟩
   ·have hbf : false = B := by rw [← HBB.out]; exact (decide_eq_false (fun h => h0 h.1)).symm
    have h0b : (b'.err == 0) = false := by rw [beq_eq_false_iff_ne]; exact h0
    clear h0
    subst hbf
    go_big_quiet (fail)
    go_wp2
    go_meet
    exact ⟨rfl, Lib.hid (HZ.out.below (bl_drewN (Below.refl _ _) _))⟩
  case rest =>
  obtain ⟨rfl, HY⟩ := hcut
  clear HZ
  go_upto_if 31 with fail
  go_cut [] from 32 (fun wx => ∃ bz : Bs, bz.err = errM s ∧ Hid (Rz w wx nb s bz cs (errM s = 0) (reT s)))
  case first =>
   cases B with
   | true =>
    have h1 := of_decide_eq_true HBB.out
    have kq := rfail_is wc (w.heap.size + 1) s b' 2 HY.out.rdr
    go_wp2_with fail
    refine kq.mono ?_
    rintro e w5 ⟨rfl, hB5, hs5⟩
    have hz := HY.out.stp hB5 hs5
    clear kq
    go_wp2
    go_meet
    have he : errM s = 2 := by rw [HEE.out, HEN.out, if_pos h1]
    refine ⟨failM b' 2, ?_, Lib.hid ⟨hz.rdr, hz.nd, hz.res, hz.bl, hz.hn, hz.one, fun h0 => absurd (he.symm.trans h0) (by decide)⟩⟩
    rw [he]
    unfold failM
    rw [if_pos h1.1]
   | false =>
    have h1 := of_decide_eq_false HBB.out
    go_wp2
    go_meet
    have he : errM s = b'.err := by rw [HEE.out, HEN.out, if_neg h1]
    exact ⟨b', he.symm, Lib.hid (by rw [he]; exact HY.out)⟩
  case rest =>
  obtain ⟨bz, hbz, HX⟩ := hcut
  have HBZ := Lib.hid hbz
  clear HY HBB hbz
  have c2 := HX.out.rdr.c2
  by_cases h0 : bz.err = 0
  ·have HE0 : Hid (errM s = 0) := Lib.hid (HBZ.out.symm.trans h0)
   rw [h0] at c2
   go_wp2_with (first
    | ((with_reducible refine wpList_loadN rfl _ rfl _ rfl nb 0 ?hx cs ?hc HLN.out ?_); (case hx => rfl); (case hc => exact HX.out.nd.at_))
    | ((with_reducible refine wpList_storeN rfl _ _ rfl _ rfl w.heap.size 0 cs ?hx ?hy ?ht HLN.out HON.out ?_); (case hx => rfl); (case hy => rfl); (case ht => exact HX.out.res)))
   refine bodyPost_ret (results_agg2 rfl _ _ w.heap.size cs (.struct _) rfl (World.rangeAt_setCells_same _ _ _ _ (by rw [HLN.out]; exact HX.out.res)) Tryz.underlying143 rfl (by rw [HLN.out]; exact node_size)) rfl ?_
   have hf := HX.out.fin cs
   exact ⟨cs, by rw [HE0.out]; rfl, HLN.out, HON.out, fun h => hf.2.2 h, hf.2.1⟩
  ·have h0b : (bz.err != 0) = true := by simpa using h0
   have HNE : Hid (¬ errM s = 0) := Lib.hid (fun h => h0 (HBZ.out.trans h))
   clear h0
   have HXD := Lib.hid (HX.out.below ((Below.refl _ _).drew))
   go_upto_region 8 with fail
   refine wp_region_held_drew (S := (fun W => W.cell? ⟨w.heap.size + 1, 2, none⟩ = some (.int .i64 bz.err))) (by kernel_rfl) HX.out.rdr.c2 (fun hHeld => ?_)
   refine hT (i := 0) (v := ?_) rfl rfl hHeld ?_ ?_
   rotate_left
   ·rintro wh hS
    go_simp
    (try with_reducible rfl)
   simp only [Act.put, List.setIfInBounds_toArray, List.set_cons_zero, List.set_cons_succ]
   refine hT (i := 1) (v := ?_) rfl rfl hHeld ?_ ?_
   rotate_left
   ·rintro wh hS
    go_simp
    (try with_reducible rfl)
   simp only [Act.put, List.setIfInBounds_toArray, List.set_cons_zero, List.set_cons_succ]
   refine hT (i := 2) (v := ?_) rfl rfl hHeld ?_ ?_
   rotate_left
   ·rintro wh hS
    go_simp
    (try with_reducible rfl)
   simp only [Act.put, List.setIfInBounds_toArray, List.set_cons_zero, List.set_cons_succ]
   refine hT (i := 3) (v := ?_) rfl rfl hHeld ?_ ?_
   rotate_left
   ·rintro wh hS
    go_simp
    (try with_reducible rfl)
   simp only [Act.put, List.setIfInBounds_toArray, List.set_cons_zero, List.set_cons_succ]
   refine hT (i := 4) (v := ?_) rfl rfl hHeld ?_ ?_
   rotate_left
   ·rintro wh hS
    go_simp
    (try with_reducible rfl)
   simp only [Act.put, List.setIfInBounds_toArray, List.set_cons_zero, List.set_cons_succ]
   refine held_step (i := 5) rfl (by kernel_rfl) (fun K hK => ?_)
   rw [if_pos (by rfl)]; refine wp_store_mid 143 _ _ rfl w.heap.size 0 (nodeC 0 noB nilS).toArray ?hx ?hy ?ht ?hi ?h1 ?_; (case hx => rfl); (case hy => rfl); (case ht => simp only [List.size_toArray, nodeC_len]; exact HXD.out.res); (case hi => simp only [List.size_toArray, nodeC_len]; exact node_size); (case h1 => exact all_oneCell_toArray (oneN 0 noB)); simp only [List.getElem_toArray, List.getElem_cons_succ, List.getElem_cons_zero, Act.put]
   refine hK.out _ _ (HXD.out.fin (nodeC 0 noB nilS)).1.c2 (fun hHeld => ?_)
   clear hK K
   (try simp only [Act.put, List.setIfInBounds_toArray])
   refine hT (i := 6) (v := ?_) rfl rfl hHeld ?_ ?_
   rotate_left
   ·rintro wh hS
    go_simp
    (try with_reducible rfl)
   simp only [Act.put, List.setIfInBounds_toArray, List.set_cons_zero, List.set_cons_succ]
   refine wpAnyH_done (by kernel_rfl) ?_ _
   go_wp2
   refine bodyPost_ret (results_agg2 rfl _ _ w.heap.size (nodeC 0 noB nilS) (.struct _) rfl (World.rangeAt_setCells_same _ _ _ _ (by rw [nodeC_len]; exact HXD.out.res)) Tryz.underlying143 rfl (by rw [nodeC_len]; exact node_size)) rfl ?_
   have hf := HXD.out.fin (nodeC 0 noB nilS)
   exact ⟨nodeC 0 noB nilS, by rw [← HBZ.out]; rfl, nodeC_len _ _ _, oneN _ _, fun h => absurd h HNE.out, hf.2.1⟩
end Go.Proofs.YtipnhpfpppblhaaGreat
/- Rows of Booleans; lychgateref05.both: a contract. -/
namespace Go.Proofs.YtipnhpfpppblhaaGreat
open Go.RowKit
theorem wp_forget3 {Pr : Program} {Q : Exit → Act → World → Prop} {c : Code} {a : Act} {W : World} (P : World → Prop) (h : P W) (k : ∀ W', P W' → Code.wp Pr c Q a W') : Code.wp Pr c Q a W := k W h
def BsAt (w : World) (v : Value) (n : Nat) (X : Nat → Bool) : Prop := ∃ b, v = .slice (some ⟨b, 0, none⟩) n n ∧ w.rowIs b 4 n (fun j => .bool (X j))
theorem BsAt.later {w w' : World} {v : Value} {n : Nat} {X : Nat → Bool} (h : BsAt w v n X) (hb : Below w.heap.size w w') : BsAt w' v n X := by
 obtain ⟨b, e, hr⟩ := h
 exact ⟨b, e, hr.of_block (hb.block b hr.lt)⟩
theorem info_bool : (Tryz.prog.info? 4).map (fun i => (i.zero, i.size, i.bytes)) = some (some (.bool false), 1, 1) := by kernel_rfl
theorem bs_made (w : World) (n : Nat) : (w.alloc (.cells (madeCells #[.bool false] n) 4)).rowIs w.heap.size 4 n (fun j => .bool ((fun _ => false) j)) := World.rowIs_made w (.bool false) n _
theorem bs_put {w : World} {b : Nat} {n : Nat} {X : Nat → Bool} (h : w.rowIs b 4 n (fun j => .bool (X j))) (i : Nat) (v : Bool) : (w.setCell ⟨b, i, none⟩ (.bool v)).rowIs b 4 n (fun j => .bool (if j = i then v else X j)) :=
 (h.set i (.bool v)).congr (fun j _ => by by_cases e : j = i <;> simp [e])
structure BW (w wr : World) (b n : Nat) (X : Nat → Bool) : Prop where
 row : wr.rowIs b 4 n (fun j => .bool (X j))
 bl : Below w.heap.size w wr
 hb : w.heap.size ≤ b
theorem BW.new (w : World) (n : Nat) : BW w (w.alloc (.cells (madeCells #[.bool false] n) 4)) w.heap.size n (fun _ => false) := ⟨bs_made w n, alloc_below _ _, Nat.le_refl _⟩
theorem BW.put {w wr : World} {b n : Nat} {X : Nat → Bool} (h : BW w wr b n X) (i : Nat) (v : Bool) : BW w (wr.setCell ⟨b, i, none⟩ (.bool v)) b n (fun j => if j = i then v else X j) := ⟨bs_put h.row i v, below_put h.bl h.hb, h.hb⟩
theorem BW.congr {w wr : World} {b n : Nat} {X Y : Nat → Bool} (h : BW w wr b n X) (e : ∀ j, j < n → X j = Y j) : BW w wr b n Y := ⟨h.row.congr (fun j hj => by rw [e j hj]), h.bl, h.hb⟩
end Go.Proofs.YtipnhpfpppblhaaGreat
/- The reference's ends, of a set, of alternatives, of a row, of one perhaps: contracts. -/
namespace Go.Proofs.YtipnhpfpppblhaaGreat
open Go.RowKit
def EnB (s : ByteArray) (a : Re) (X Y : Nat → Bool) : Prop := ∀ j, j ≤ s.size → (Y j = true ↔ En (bytesN s) a (fun i => X i = true) j)
def EndsK (w : World) (s : ByteArray) (x : List Value) (a : Re) : Prop := ∀ (w' : World), Below w.heap.size w w' → ∀ (v : Value) (X : Nat → Bool), BsAt w' v (s.size + 1) X →
 Calls Tryz.prog 128 #[.agg x.toArray, .string s, v] w' fun e w'' => ∃ v' Y, e = .returned v' ∧ BsAt w'' v' (s.size + 1) Y ∧ EnB s a X Y ∧ Below w'.heap.size w' w''
structure Ez (w wr : World) (x : List Value) : Prop where
 at_ : wr.rangeAt w.heap.size 0 x
 lt : w.heap.size < wr.heap.size
 bl : Below w.heap.size w wr
structure Kd (w0 : World) (s : ByteArray) (P : Nat → Prop) (kv : Value) (l : List (List Value)) (bs : List Re) : Prop where
 kids : KidsAt w0 P kv l
 len : bs.length = l.length
 each : ∀ i (h : i < l.length) (h2 : i < bs.length), EndsK w0 s l[i] bs[i]
end Go.Proofs.YtipnhpfpppblhaaGreat
/- The reference's ends, of any number of times, of once and more: contracts. -/
namespace Go.Proofs.YtipnhpfpppblhaaGreat
open Go.RowKit
structure RepI (s : ByteArray) (a : Re) (X O St : Nat → Bool) (lo k : Nat) (mo : Bool) : Prop where
 st : ∀ j, j ≤ s.size → (St j = true ↔ Ei (bytesN s) a (fun i => X i = true) k j)
 out : ∀ j, j ≤ s.size → (O j = true ↔ ∃ m, lo ≤ m ∧ m ≤ k ∧ Ei (bytesN s) a (fun i => X i = true) m j)
 fin : mo = false → ∃ k', k = k' + 1 ∧ ∀ j, j ≤ s.size → Ei (bytesN s) a (fun i => X i = true) k j → ∃ m, lo ≤ m ∧ m ≤ k' ∧ Ei (bytesN s) a (fun i => X i = true) m j
end Go.Proofs.YtipnhpfpppblhaaGreat
/- The reference's ends of any tree; Fits: contracts. -/
namespace Go.Proofs.YtipnhpfpppblhaaGreat
open Go.RowKit
end Go.Proofs.YtipnhpfpppblhaaGreat
/- lychgateref06 on matchers: Fine, Value, Fits, All: contracts. -/
namespace Go.Proofs.YtipnhpfpppblhaaGreat
open Go.RowKit
set_option maxHeartbeats 1600000 in
set_option maxRecDepth 100000 in
theorem fine6_any (m : Mt) (w : World) (hf : MtFit m) : Calls Tryz.prog 76 #[.agg #[.string m.nm, .int .i64 m.op, .string m.val]] w fun e w' => e = .returned (.bool (fineM m)) ∧ Below w.heap.size w w' := by
 have kr := fun W => rread_any m.val W
 have hz := hf.2
 have HF : Hid (fineM m = (nameL (B m.nm) && decide (0 ≤ m.op) && decide (m.op ≤ 3) && decide (m.val.size ≤ 200) && (decide (m.op < 2) || decide (errM m.val = 0)))) := Lib.hid rfl
 have kn0 := refName.name_any m.nm (w.alloc (.cells #[.string m.nm, .int .i64 m.op, .string m.val] 92)) hf.1
 obtain ⟨nm, op, val⟩ := m
 dsimp only at *
 generalize fineM ⟨nm, op, val⟩ = R at *
 generalize nameL (B nm) = N at *
 have HR := Lib.hid kr
 unfold maxLen at hz
 have hbx := box3m (Below.refl _ (w.alloc (.cells #[.string nm, .int .i64 op, .string val] 92)))
 clear hf kr
 go_enter Tryz.func76, Tryz.ntmps76
 go_wp2_with fail
 refine kn0.mono ?_
 rintro e w1 ⟨rfl, hw1⟩
 obtain ⟨⟨x0, x1, x2⟩, hlt, hB1⟩ := hbx
 rw [hw1] at x0 x1 x2 hlt hB1
 have HB := Lib.hid hB1
 clear kn0 hw1 hB1
 cases N with
 | false =>
  go_wp2
  go_ret
  exact ⟨by rw [HF.out]; rfl, HB.out⟩
 | true =>
  by_cases h0 : op < 0
  ·rw [show decide (0 ≤ op) = false from decide_eq_false (by omega)] at HF
   go_wp2
   go_ret
   exact ⟨by rw [HF.out]; rfl, HB.out⟩
  ·rw [show decide (0 ≤ op) = true from decide_eq_true (by omega)] at HF
   by_cases h3 : 3 < op
   ·rw [show decide (op ≤ 3) = false from decide_eq_false (by omega)] at HF
    go_wp2
    go_ret
    exact ⟨by rw [HF.out]; rfl, HB.out⟩
   ·rw [show decide (op ≤ 3) = true from decide_eq_true (by omega)] at HF
    by_cases hs : 200 < val.size
    ·rw [show decide (val.size ≤ 200) = false from decide_eq_false (by omega)] at HF
     have hsi : (200 : Int) < (val.size : Int) := by omega
     go_wp2
     go_ret
     exact ⟨by rw [HF.out]; rfl, HB.out⟩
    ·rw [show decide (val.size ≤ 200) = true from decide_eq_true (by omega)] at HF
     have hsi : (val.size : Int) ≤ 200 := by omega
     have kr := HR.out w1
     have hde : Hid ((errM val == 0) = decide (errM val = 0)) := Lib.hid (by rw [Bool.eq_iff_iff]; simp)
     generalize errM val = E at *
     go_wp2_with fail
     refine kr.mono ?_
     rintro e w2 ⟨cs, rfl, hl, hone, -, hb2⟩
     have hlt2 := hb2.size
     have y1 := keep_cell x1 hb2 hlt
     have HBN : Hid (Below w.heap.size w ((w2.alloc (.cells (zeroN 0) 143)).setCells w2.heap.size 0 cs)) := Lib.hid (by
      have h1 := HB.out.trans (hb2.mono HB.out.size)
      exact below_puts (h1.trans ((alloc_below w2 _).mono h1.size)) (by have := h1.size; omega) _)
     have HY1 : Hid (((w2.alloc (.cells (zeroN 0) 143)).setCells w2.heap.size 0 cs).cell? ⟨w.heap.size, 1, none⟩ = some (.int .i64 op)) := Lib.hid ((World.cell?_of_block (a := ⟨w.heap.size, 1, none⟩) (heap_setCells _ _ _ (by show w.heap.size ≠ w2.heap.size; omega) _ _)).trans (keep_cell y1 (alloc_below w2 _) (by omega)))
     have HTH := Lib.hid (there_new w2 0 143)
     clear kr x0 x1 x2 y1
     go_upto_region 4 with (first
      | (with_reducible refine wpList_allocN rfl rfl _ rfl w2.heap.size rfl ?_)
      | ((with_reducible refine wpList_storeN rfl _ _ rfl _ rfl w2.heap.size 0 cs ?hx ?hy ?ht hl hone ?_); (case hx => rfl); (case hy => rfl); (case ht => exact HTH.out)))
     (try simp only [Act.put, List.setIfInBounds_toArray, List.set_cons_zero, List.set_cons_succ])
     refine wp_forget3 (fun W => W.cell? ⟨w.heap.size, 1, none⟩ = some (.int .i64 op) ∧ Below w.heap.size w W) ⟨HY1.out, HBN.out⟩ (fun w3 hw3 => ?_)
     obtain ⟨y1, hB3⟩ := hw3
     have HB3 := Lib.hid hB3
     clear HBN HY1 HTH hB3 hb2
     by_cases h2 : op < 2
     ·rw [show decide (op < 2) = true from decide_eq_true h2] at HF
      go_wp2
      go_ret
      exact ⟨by rw [HF.out]; rfl, HB3.out⟩
     ·rw [show decide (op < 2) = false from decide_eq_false h2] at HF
      go_wp2
      go_ret
      exact ⟨by rw [HF.out, ← hde.out]; first | rfl | (simp), HB3.out⟩
end Go.Proofs.YtipnhpfpppblhaaGreat
/- lychgateref08.by, when: contracts. -/
namespace Go.Proofs.YtipnhpfpppblhaaGreat
open Go.RowKit
theorem strC_at (l : List ByteArray) (j : Nat) (h : j < l.length) : (l.map Value.string)[j]? = some (.string l[j]) := by rw [List.getElem?_map, List.getElem?_eq_getElem h]; rfl
set_option maxHeartbeats 1600000 in
set_option maxRecDepth 100000 in
theorem by8_any (l : List ByteArray) (v : Value) (w : World) (hv : StrsG w v l) (hw : StrsFit l) :
  Calls Tryz.prog 44 #[v] w fun e w' => e = .returned (.bool (byP l)) ∧ Below w.heap.size w w' := by
 obtain ⟨hl, hsz⟩ := hw
 have HE := Lib.hid (byP_eq l)
 obtain ⟨a, c, rfl, hc, hr⟩ := RdAt.shape hv
 have HR := Lib.hid hr
 have HSZ := Lib.hid hsz
 have hl63 : l.length ≤ 9223372036854775807 := by unfold maxLen at hl; omega
 clear hr hv hl hsz
 go_enter Tryz.func44, Tryz.ntmps44
 go_wp2
 go_loopw [3] (fun i wr => ∃ k : Nat, i = .int .i64 k ∧ k ≤ l.length ∧ Hid (okUp id (fun x => nameL (B x)) l k) ∧ Below w.heap.size w wr) (fun i _ => l.length - (intOf i).toNat)
 case atStart => exact ⟨0, rfl, Nat.zero_le _, Lib.hid okUp_zero, Below.refl _ _⟩
 case round =>
  obtain ⟨k, rfl, hk, HT, hbr⟩ := hrel
  by_cases hkl : k < l.length
  ·obtain ⟨b, o, rfl, hb, hcell⟩ := HR.out (by omega)
   have HCELL := Lib.hid hcell
   have hstep := okUp_succ HT.out hkl
   have hbad := okAll_bad (nm := fun x : ByteArray => id x) (p := fun x => nameL (B x)) hkl
   have htw := fun j hj hjk => okAll_twice (nm := fun x : ByteArray => id x) (p := fun x => nameL (B x)) (j := j) hj hkl hjk
   have hxs := HSZ.out _ (List.getElem_mem hkl)
   have HC := strC_at l k hkl
   obtain ⟨x, hx⟩ : ∃ x, l[k] = x := ⟨_, rfl⟩
   rw [hx] at HC hstep hbad hxs
   simp only [hx, id] at htw hstep
   have HQ : Hid (∀ W, Below w.heap.size w W → W.cell? ⟨b, o + k, none⟩ = some (.string x)) := Lib.hid (fun W hW => keep_cell (hcell _ _ HC) hW hb)
   have HST := Lib.hid hstep
   have HBAD : Hid (nameL (B x) = false → byP l = false) := Lib.hid (fun h => by rw [HE.out, show okAll id (fun x => nameL (B x)) l = false from hbad h]; rfl)
   have HTW : Hid (∀ j (hj : j < l.length), j < k → l[j] = x → byP l = false) := Lib.hid (fun j hj h1 h2 => by rw [HE.out, show okAll id (fun x => nameL (B x)) l = false from htw j hj h1 h2]; rfl)
   have HBR := Lib.hid hbr
   have HXS := Lib.hid hxs
   clear hcell HC hstep hbad htw hx hbr hxs HT
   go_wp2
   obtain ⟨wo, rfl⟩ : ∃ z, z = wr := ⟨_, rfl⟩
   go_loopw [4] (fun i wi => ∃ m : Nat, i = .int .i64 m ∧ m ≤ k ∧ Hid (∀ j (_ : j < l.length), j < m → l[j] ≠ x) ∧ Below wo.heap.size wo wi) (fun i _ => k - (intOf i).toNat)
   case atStart => exact ⟨0, rfl, Nat.zero_le _, Lib.hid (fun _ _ h => absurd h (Nat.not_lt_zero _)), Below.refl _ _⟩
   case round =>
    obtain ⟨m, rfl, hm, HN, hbi⟩ := hrel
    have hbw := HBR.out.trans (hbi.mono HBR.out.size)
    by_cases hmk : m < k
    ·have hml : m < l.length := by omega
     have c0 := HQ.out _ hbw
     have HCM := strC_at l m hml
     obtain ⟨y, hy⟩ : ∃ y, l[m] = y := ⟨_, rfl⟩
     rw [hy] at HCM
     have d0 : wr.cell? ⟨b, o + m, none⟩ = some (.string y) := keep_cell (HCELL.out _ _ HCM) hbw hb
     have HY := Lib.hid hy
     clear HCM hy
     by_cases hxy : y = x
     ·have hbq : (y.toList == x.toList) = true := bytes_eq_iff.2 hxy
      have HF : Hid (byP l = false) := Lib.hid (HTW.out m hml hmk (by rw [HY.out]; exact hxy))
      clear hxy
      go_wp2
      go_quiet (fail)
      have hb2 : Below w.heap.size w (wr.drewN nq) := bl_drewN hbw nq
      generalize wr.drewN nq = wq at *
      go_wp2
      go_ret
      exact ⟨by rw [HF.out]; rfl, hb2⟩
     ·have hbq : (y.toList == x.toList) = false := by rw [bytes_beq]; exact decide_eq_false hxy
      have HN' : Hid (∀ j (_ : j < l.length), j < m + 1 → l[j] ≠ x) := Lib.hid (fun j hj h => by
       rcases Nat.lt_or_ge j m with h' | h'
       ·exact HN.out j hj h'
       ·obtain rfl : j = m := by omega
        rw [HY.out]; exact hxy)
      clear hxy
      go_wp2
      go_quiet (fail)
      have hb2 : Below wo.heap.size wo (wr.drewN nq) := bl_drewN hbi nq
      generalize wr.drewN nq = wq at *
      go_wp2
      go_roundw
      case rel => exact ⟨m + 1, by go_num, by omega, HN', hb2⟩
      case measure => (simp [intOf]; try omega)
    ·obtain rfl : m = k := by omega
     have kn : ∀ W, Calls Tryz.prog 40 #[.string x] W fun e w' => e = .returned (.bool (nameL (B x))) ∧ w' = W := fun W => (refName.name_any x W HXS.out).mono (by rintro e w' ⟨h1, h2⟩; exact ⟨h1, h2.symm⟩)
     have c0 := HQ.out _ hbw
     have HBW := Lib.hid hbw
     clear hbw hbi
     cases hnm : nameL (B x)
     ·rw [hnm] at kn
      have HF : Hid (byP l = false) := Lib.hid (HBAD.out hnm)
      clear hnm
      go_wp2_with fail
      refine (kn _).mono ?_
      rintro e w2 ⟨rfl, rfl⟩
      go_wp2
      go_ret
      exact ⟨by rw [HF.out]; rfl, HBW.out⟩
     ·rw [hnm] at kn
      have HN' := Lib.hid (HST.out (fun j hj h => HN.out j hj h) hnm)
      clear hnm
      go_wp2_with fail
      refine (kn _).mono ?_
      rintro e w2 ⟨rfl, rfl⟩
      go_wp2
      go_roundw
      case rel => exact ⟨m + 1, by go_num, by omega, HN', HBW.out⟩
      case measure => (simp [intOf]; try omega)
  ·obtain rfl : k = l.length := by omega
   have HF : Hid (byP l = decide (l.length ≤ 8)) := Lib.hid (by rw [HE.out, show okAll id (fun x => nameL (B x)) l = true from okUp_all HT.out]; rfl)
   clear HT
   by_cases h8 : l.length ≤ 8
   ·have hi8 : (l.length : Int) ≤ 8 := by omega
    go_wp2
    go_ret
    exact ⟨by rw [HF.out, decide_eq_true h8]; rfl, hbr⟩
   ·have hi8 : ¬ (l.length : Int) ≤ 8 := by omega
    go_wp2
    go_ret
    exact ⟨by rw [HF.out, decide_eq_false h8]; rfl, hbr⟩
/-! ### when -/
theorem plainT_bad {s : ByteArray} {m : Nat} (h : m < s.size) (hx : s[m].toNat < 32) : plainT s = false := by
 unfold plainT
 rw [List.all_eq_false]
 exact ⟨s[m], by rw [List.mem_iff_getElem]; exact ⟨m, by rw [len_B]; exact h, rfl⟩, by simp; omega⟩
theorem plainT_all {s : ByteArray} (h : ∀ j (_ : j < s.size), 32 ≤ s[j].toNat) : plainT s = true := by
 unfold plainT
 rw [List.all_eq_true]
 intro c hc
 obtain ⟨i, hi, rfl⟩ := List.mem_iff_getElem.1 hc
 rw [len_B] at hi
 exact decide_eq_true (h i hi)
set_option maxHeartbeats 1600000 in
set_option maxRecDepth 100000 in
theorem when8_any (l : List Mt) (v : Value) (w : World) (hv : MtsAt w v l) (hl : l.length ≤ maxLen) (hfit : MtsFit l) :
  Calls Tryz.prog 45 #[v] w fun e w' => e = .returned (.bool (whenP l)) ∧ Below w.heap.size w w' := by
 obtain ⟨a, c, rfl, hc, hr⟩ := RdAt.shape hv
 have HR := Lib.hid hr
 have HFT := Lib.hid hfit
 have hl63 : l.length ≤ 9223372036854775807 := by unfold maxLen at hl; omega
 clear hr hv hl hfit
 go_enter Tryz.func45, Tryz.ntmps45
 go_wp2
 go_loopw [3] (fun i wr => ∃ k : Nat, i = .int .i64 k ∧ k ≤ l.length ∧ Hid (∀ j (_ : j < l.length), j < k → (plainT l[j].val && fineM l[j]) = true) ∧ Below w.heap.size w wr) (fun i _ => l.length - (intOf i).toNat)
 case atStart => exact ⟨0, rfl, Nat.zero_le _, Lib.hid (fun _ _ h => absurd h (Nat.not_lt_zero _)), Below.refl _ _⟩
 case round =>
  obtain ⟨k, rfl, hk, HT, hbr⟩ := hrel
  by_cases hkl : k < l.length
  ·obtain ⟨b, o, rfl, hb, hcell⟩ := HR.out (by omega)
   have hbad : ∀ x, l[k] = x → (plainT x.val && fineM x) = false → whenP l = false := fun x hx h => by
    unfold whenP
    rw [Bool.and_eq_false_iff]
    left
    rw [List.all_eq_false]
    exact ⟨_, List.getElem_mem hkl, by rw [hx, h]; decide⟩
   have hfx := HFT.out _ (List.getElem_mem hkl)
   obtain ⟨h0, h1, h2⟩ := mtCells_at l k hkl
   obtain ⟨x, hx⟩ : ∃ x, l[k] = x := ⟨_, rfl⟩
   have hbad := hbad x hx
   rw [hx] at h0 h1 h2 hfx
   obtain ⟨nm, op, val⟩ := x
   dsimp only at h0 h1 h2 hbad
   have kf := fun W => fine6_any ⟨nm, op, val⟩ W hfx
   have hvl : val.size ≤ 9223372036854775807 := by have := hfx.2; unfold maxLen at this; dsimp only at this; omega
   have HQ : Hid (∀ W, Below w.heap.size w W → W.cell? ⟨b, o + k * 3, none⟩ = some (.string nm) ∧ W.cell? ⟨b, o + k * 3 + 1, none⟩ = some (.int .i64 op) ∧ W.cell? ⟨b, o + k * 3 + 2, none⟩ = some (.string val)) := Lib.hid (fun W hW =>
    ⟨keep_cell (hcell _ _ h0) hW hb, keep_cell (by have := hcell _ _ h1; rwa [← Nat.add_assoc] at this) hW hb, keep_cell (by have := hcell _ _ h2; rwa [← Nat.add_assoc] at this) hW hb⟩)
   have HBAD := Lib.hid hbad
   have HBR := Lib.hid hbr
   have HX := Lib.hid hx
   have KF := Lib.hid kf
   clear hcell h0 h1 h2 hbad hx hbr hfx kf
   go_wp2
   obtain ⟨wo, rfl⟩ : ∃ z, z = wr := ⟨_, rfl⟩
   go_loopw [4] (fun i wi => ∃ m : Nat, i = .int .i64 m ∧ m ≤ val.size ∧ Hid (∀ j (_ : j < val.size), j < m → 32 ≤ val[j].toNat) ∧ wi = wo) (fun i _ => val.size - (intOf i).toNat)
   case atStart => exact ⟨0, rfl, Nat.zero_le _, Lib.hid (fun _ _ h => absurd h (Nat.not_lt_zero _)), rfl⟩
   case round =>
    obtain ⟨m, rfl, hm, HN, hwi⟩ := hrel
    subst hwi
    obtain ⟨c0, c1, c2⟩ := HQ.out _ HBR.out
    by_cases hmk : m < val.size
    ·by_cases hxy : (val[m]'hmk).toNat < 32
     ·have HF : Hid (whenP l = false) := Lib.hid (HBAD.out (by rw [plainT_bad hmk hxy]; rfl))
      have hiy : (((val[m]'hmk).toNat : Nat) : Int) < 32 := by omega
      go_wp2
      go_ret
      exact ⟨by rw [HF.out]; rfl, HBR.out⟩
     ·have hiy : ¬ (((val[m]'hmk).toNat : Nat) : Int) < 32 := by omega
      have HN' : Hid (∀ j (_ : j < val.size), j < m + 1 → 32 ≤ val[j].toNat) := Lib.hid (fun j hj h => by
       rcases Nat.lt_or_ge j m with h' | h'
       ·exact HN.out j hj h'
       ·obtain rfl : j = m := by omega
        omega)
      go_wp2
      go_roundw
      case rel => exact ⟨m + 1, by go_num, by omega, HN', trivial⟩
      case measure => (simp [intOf]; try omega)
    ·obtain rfl : m = val.size := by omega
     have hpt : plainT val = true := plainT_all (fun j hj => HN.out j hj hj)
     cases hfm : fineM ⟨nm, op, val⟩
     ·have HF : Hid (whenP l = false) := Lib.hid (HBAD.out (by rw [hfm, Bool.and_false]))
      have kf := KF.out wr
      rw [hfm] at kf
      clear hfm hpt
      go_wp2_with fail
      refine kf.mono ?_
      rintro e w2 ⟨rfl, hb2⟩
      have HB2 := Lib.hid (HBR.out.trans (hb2.mono HBR.out.size))
      clear hb2 c0 c1 c2
      go_wp2
      go_ret
      exact ⟨by rw [HF.out]; rfl, HB2.out⟩
     ·have HN' : Hid (∀ j (_ : j < l.length), j < k + 1 → (plainT l[j].val && fineM l[j]) = true) := Lib.hid (fun j hj h => by
       rcases Nat.lt_or_ge j k with h' | h'
       ·exact HT.out j hj h'
       ·obtain rfl : j = k := by omega
        rw [HX.out, hfm]; dsimp only; rw [hpt]; rfl)
      have kf := KF.out wr
      rw [hfm] at kf
      clear hfm hpt
      go_wp2_with fail
      refine kf.mono ?_
      rintro e w2 ⟨rfl, hb2⟩
      have HB2 := Lib.hid (HBR.out.trans (hb2.mono HBR.out.size))
      clear hb2 c0 c1 c2
      go_wp2
      go_roundw
      case rel => exact ⟨k + 1, by go_num, by omega, HN', HB2.out⟩
      case measure => (simp [intOf]; try omega)
  ·obtain rfl : k = l.length := by omega
   have HF : Hid (whenP l = decide (l.length ≤ 12)) := Lib.hid (by
    unfold whenP
    rw [List.all_eq_true.2 (fun m hm => by obtain ⟨i, hi, rfl⟩ := List.mem_iff_getElem.1 hm; exact HT.out i hi hi)]; rfl)
   clear HT
   by_cases h8 : l.length ≤ 12
   ·have hi8 : (l.length : Int) ≤ 12 := by omega
    go_wp2
    go_ret
    exact ⟨by rw [HF.out, decide_eq_true h8]; rfl, hbr⟩
   ·have hi8 : ¬ (l.length : Int) ≤ 12 := by omega
    go_wp2
    go_ret
    exact ⟨by rw [HF.out, decide_eq_false h8]; rfl, hbr⟩
end Go.Proofs.YtipnhpfpppblhaaGreat
/- lychgateref08.Check: a contract. -/
namespace Go.Proofs.YtipnhpfpppblhaaGreat
open Go.RowKit
theorem check_long {p : PD} (h : longP p = true) : checkP p = 4 := by unfold checkP; rw [if_pos h]
theorem check_names {p : PD} (h1 : longP p = false) (h : namesP p = false) : checkP p = 1 := by unfold checkP; rw [if_neg (by rw [h1]; decide), if_pos (by rw [h]; rfl)]
theorem check_rt {p : PD} (h1 : longP p = false) (h2 : namesP p = true) {k : Nat} (hk : k < p.ro.length) (h : badRt p.re p.ro[k] = true) : checkP p = 1 := by
 unfold checkP
 rw [if_neg (by rw [h1]; decide), if_neg (by rw [h2]; decide), if_pos (List.any_eq_true.2 ⟨_, List.getElem_mem hk, h⟩)]
theorem check_ih {p : PD} (h1 : longP p = false) (h2 : namesP p = true) {k : Nat} (hk : k < p.ih.length) (h : badIh p.ih[k] = true) : checkP p = 1 := by
 unfold checkP
 rw [if_neg (by rw [h1]; decide), if_neg (by rw [h2]; decide)]
 split
 ·rfl
 ·rw [if_pos (List.any_eq_true.2 ⟨_, List.getElem_mem hk, h⟩)]
theorem check_ok {p : PD} (h1 : longP p = false) (h2 : namesP p = true) (h3 : ∀ j (_ : j < p.ro.length), badRt p.re p.ro[j] = false) (h4 : ∀ j (_ : j < p.ih.length), badIh p.ih[j] = false) : checkP p = 0 := by
 unfold checkP
 rw [if_neg (by rw [h1]; decide), if_neg (by rw [h2]; decide), if_neg, if_neg]
 ·rw [Bool.not_eq_true, List.any_eq_false]
  intro x hx
  obtain ⟨i, hi, rfl⟩ := List.mem_iff_getElem.1 hx
  rw [h4 i hi]; decide
 ·rw [Bool.not_eq_true, List.any_eq_false]
  intro x hx
  obtain ⟨i, hi, rfl⟩ := List.mem_iff_getElem.1 hx
  rw [h3 i hi]; decide
theorem timesP_no {r : PRt} (h : ¬ (0 ≤ r.wait ∧ r.wait ≤ 1000 ∧ 1 ≤ r.every ∧ r.every ≤ 1000 ∧ r.every ≤ r.again ∧ r.again ≤ 100000)) : timesP r = false := by
 rw [Bool.eq_false_iff]
 intro hc
 unfold timesP at hc
 simp only [Bool.and_eq_true, decide_eq_true_eq] at hc
 omega
theorem timesP_yes {r : PRt} (h : 0 ≤ r.wait ∧ r.wait ≤ 1000 ∧ 1 ≤ r.every ∧ r.every ≤ 1000 ∧ r.every ≤ r.again ∧ r.again ≤ 100000) : timesP r = true := by
 unfold timesP
 simp only [Bool.and_eq_true, decide_eq_true_eq]
 omega
theorem findL_some {re : List Nmd} {n : ByteArray} (hf : NmdFit re) {y : Nmd} (h : findL re n = some y) : y.2.2 < 4294967296 := hf y (List.mem_of_find?_eq_some h)
def C5 (p : Nat) (a b c d e : Value) (W : World) : Prop := W.cell? ⟨p, 0, none⟩ = some a ∧ W.cell? ⟨p, 1, none⟩ = some b ∧ W.cell? ⟨p, 2, none⟩ = some c ∧ W.cell? ⟨p, 3, none⟩ = some d ∧ W.cell? ⟨p, 4, none⟩ = some e
theorem C5.later {p : Nat} {a b c d e : Value} {W W' : World} (h : C5 p a b c d e W) (hb : Below W.heap.size W W') (hp : p < W.heap.size) : C5 p a b c d e W' := by
 obtain ⟨h0, h1, h2, h3, h4⟩ := h
 exact ⟨keep_cell h0 hb hp, keep_cell h1 hb hp, keep_cell h2 hb hp, keep_cell h3 hb hp, keep_cell h4 hb hp⟩
theorem box6n (W : World) (a b c d e f : Value) (t : TypeId) : C6 W.heap.size a b c d e f (W.alloc (.cells #[a, b, c, d, e, f] t)) := by
 have hc : ∀ (i : Nat), (W.alloc (.cells #[a, b, c, d, e, f] t)).cell? ⟨W.heap.size, i, none⟩ = _ := fun i => World.cell?_alloc_at _ _ _ _ rfl
 exact ⟨hc 0, hc 1, hc 2, hc 3, hc 4, hc 5⟩
theorem box5n (W : World) (a b c d e : Value) (t : TypeId) : C5 W.heap.size a b c d e (W.alloc (.cells #[a, b, c, d, e] t)) := by
 have hc : ∀ (i : Nat), (W.alloc (.cells #[a, b, c, d, e] t)).cell? ⟨W.heap.size, i, none⟩ = _ := fun i => World.cell?_alloc_at _ _ _ _ rfl
 exact ⟨hc 0, hc 1, hc 2, hc 3, hc 4⟩
set_option maxHeartbeats 3200000 in
set_option maxRecDepth 100000 in
theorem check8_any (v : PV) (p : PD) (w : World) (hv : PolAt w v p) (hf : PolFitD p) :
  Calls Tryz.prog 23 #[v.v] w fun e w' => e = .returned (.int .i64 (checkP p)) ∧ Below w.heap.size w w' := by
 obtain ⟨v0, v1, v2, v3, v4, v5⟩ := v
 obtain ⟨h0, h1, h2, h3, ⟨h4, h4i⟩, h5, h5i⟩ := hv
 obtain ⟨f0, f1, f2, f3, fl4, f4, fl5, f5⟩ := hf
 dsimp only at h0 h1 h2 h3 h4 h4i h5 h5i
 have k0 := fun W (h : Below w.heap.size w W) => named8_any p.so v0 W (h0.later h) f0
 have k1 := fun W (h : Below w.heap.size w W) => named8_any p.re v1 W (h1.later h) f1
 have k2 := fun W (h : Below w.heap.size w W) => named8_any p.pe v2 W (h2.later h) f2
 have k3 := fun W (h : Below w.heap.size w W) => named8_any p.ra v3 W (h3.later h) f3
 have kf := fun n W (h : Below w.heap.size w W) => rfind_any p.re n v1 W (h1.later h) f1.1
 have kfit := fun n y => findL_some (n := n) (y := y) f1.2.1
 have HL := Lib.hid (And.intro f0.1 (And.intro f1.1 (And.intro f2.1 (And.intro f3.1 (And.intro fl4 fl5)))))
 obtain ⟨a0, c0, rfl, _, _⟩ := RdAt.shape h0
 obtain ⟨a1, c1, rfl, _, _⟩ := RdAt.shape h1
 obtain ⟨a2, c2, rfl, _, _⟩ := RdAt.shape h2
 obtain ⟨a3, c3, rfl, _, _⟩ := RdAt.shape h3
 obtain ⟨a4, c4, rfl, _, hr4⟩ := RdAt.shape h4
 obtain ⟨a5, c5, rfl, _, hr5⟩ := RdAt.shape h5
 have HR4 := Lib.hid hr4
 have HR5 := Lib.hid hr5
 have HI4 := Lib.hid h4i
 have HI5 := Lib.hid h5i
 have HF4 := Lib.hid f4
 have HF5 := Lib.hid f5
 have K0 := Lib.hid k0
 have K1 := Lib.hid k1
 have K2 := Lib.hid k2
 have K3 := Lib.hid k3
 have KF := Lib.hid kf
 have KFIT := Lib.hid kfit
 obtain ⟨W0, hW0⟩ : ∃ z, w.alloc (.cells #[.slice a0 p.so.length c0, .slice a1 p.re.length c1, .slice a2 p.pe.length c2, .slice a3 p.ra.length c3, .slice a4 p.ro.length c4, .slice a5 p.ih.length c5] 26) = z := ⟨_, rfl⟩
 have hB0 : Below w.heap.size w W0 := by rw [← hW0]; exact alloc_below _ _
 have hd := (Below.refl W0.heap.size W0)
 rw [← hW0] at hd
 obtain ⟨hC, hlt, _⟩ := box6 hd
 rw [hW0] at hC hlt
 have HC : Hid (∀ W, Below W0.heap.size W0 W → C6 w.heap.size (.slice a0 p.so.length c0) (.slice a1 p.re.length c1) (.slice a2 p.pe.length c2) (.slice a3 p.ra.length c3) (.slice a4 p.ro.length c4) (.slice a5 p.ih.length c5) W) := Lib.hid (fun W h => C6.later hC h hlt)
 have HB0 := Lib.hid hB0
 have HW0 := Lib.hid hW0
 have HLT := Lib.hid hlt
 clear h0 h1 h2 h3 h4 h4i h5 h5i f0 f1 f2 f3 f4 f5 fl4 fl5 hr4 hr5 k0 k1 k2 k3 kf kfit hB0 hW0 hd hC hlt
 go_enter Tryz.func23, Tryz.ntmps23
 go_upto_region 1 with fail
 rw [HW0.out]
 clear HW0
 obtain ⟨p0, p1, p2, p3, p4, p5⟩ := HC.out W0 (Below.refl _ _)
 rcases (show 12 < p.so.length ∨ (p.so.length ≤ 12 ∧ 12 < p.re.length) ∨ (p.so.length ≤ 12 ∧ p.re.length ≤ 12 ∧ 12 < p.pe.length) ∨ (p.so.length ≤ 12 ∧ p.re.length ≤ 12 ∧ p.pe.length ≤ 12 ∧ 12 < p.ra.length) ∨ (p.so.length ≤ 12 ∧ p.re.length ≤ 12 ∧ p.pe.length ≤ 12 ∧ p.ra.length ≤ 12 ∧ 12 < p.ro.length) ∨ (p.so.length ≤ 12 ∧ p.re.length ≤ 12 ∧ p.pe.length ≤ 12 ∧ p.ra.length ≤ 12 ∧ p.ro.length ≤ 12 ∧ 12 < p.ih.length) ∨ (p.so.length ≤ 12 ∧ p.re.length ≤ 12 ∧ p.pe.length ≤ 12 ∧ p.ra.length ≤ 12 ∧ p.ro.length ≤ 12 ∧ p.ih.length ≤ 12) by omega) with l0 | ⟨l0, l1⟩ | ⟨l0, l1, l2⟩ | ⟨l0, l1, l2, l3⟩ | ⟨l0, l1, l2, l3, l4⟩ | ⟨l0, l1, l2, l3, l4, l5⟩ | ⟨l0, l1, l2, l3, l4, l5⟩
 iterate 6
  ·have HX : Hid (checkP p = 4) := Lib.hid (check_long (by unfold longP; simp only [Bool.or_eq_true, decide_eq_true_eq]; omega))
   have g0 : (12 : Int) < (p.so.length : Int) ∨ True := Or.inr trivial
   clear g0 HC
   go_wp2
   go_ret
   exact ⟨by rw [HX.out]; rfl, HB0.out⟩
 ·have HLP : Hid (longP p = false) := Lib.hid (by unfold longP; simp only [Bool.or_eq_false_iff, decide_eq_false_iff_not]; omega)
  have HNO : Hid (namesP p = false → checkP p = 1) := Lib.hid (fun h => check_names HLP.out h)
  go_upto_region 3 with fail
  clear l0 l1 l2 l3 l4 l5
  cases n0 : namedP p.so
  ·have HX : Hid (checkP p = 1) := Lib.hid (HNO.out (by unfold namesP; rw [n0]; rfl))
   have kk := K0.out _ HB0.out
   rw [n0] at kk
   clear n0
   go_wp2_with fail
   refine kk.mono ?_
   rintro e w1 ⟨rfl, hb1⟩
   have HB1 := Lib.hid (HB0.out.trans (hb1.mono HB0.out.size))
   clear hb1 p0 p1 p2 p3 p4 p5
   go_wp2
   go_ret
   exact ⟨by rw [HX.out]; rfl, HB1.out⟩
  ·have kk := K0.out _ HB0.out
   rw [n0] at kk
   have N0 := Lib.hid n0
   clear n0
   go_wp2_with fail
   refine kk.mono ?_
   rintro e w1 ⟨rfl, hb1⟩
   have HS1 := Lib.hid hb1
   have HB1 := Lib.hid (HB0.out.trans (hb1.mono HB0.out.size))
   clear hb1 kk p0 p1 p2 p3 p4 p5
   obtain ⟨p0, p1, p2, p3, p4, p5⟩ := HC.out _ HS1.out
   cases n1 : namedP p.re
   ·have HX : Hid (checkP p = 1) := Lib.hid (HNO.out (by unfold namesP; rw [n1, Bool.and_false]; rfl))
    have kk := K1.out _ HB1.out
    rw [n1] at kk
    clear n1
    go_wp2_with fail
    refine kk.mono ?_
    rintro e w2 ⟨rfl, hb2⟩
    have HB2 := Lib.hid (HB1.out.trans (hb2.mono HB1.out.size))
    clear hb2 p0 p1 p2 p3 p4 p5
    go_wp2
    go_ret
    exact ⟨by rw [HX.out]; rfl, HB2.out⟩
   ·have kk := K1.out _ HB1.out
    rw [n1] at kk
    have N1 := Lib.hid n1
    clear n1
    go_wp2_with fail
    refine kk.mono ?_
    rintro e w2 ⟨rfl, hb2⟩
    have HS2 := Lib.hid (HS1.out.trans (hb2.mono HS1.out.size))
    have HB2 := Lib.hid (HB1.out.trans (hb2.mono HB1.out.size))
    clear hb2 kk p0 p1 p2 p3 p4 p5
    obtain ⟨p0, p1, p2, p3, p4, p5⟩ := HC.out _ HS2.out
    cases n2 : namedP p.pe
    ·have HX : Hid (checkP p = 1) := Lib.hid (HNO.out (by unfold namesP; rw [n2, Bool.and_false]; rfl))
     have kk := K2.out _ HB2.out
     rw [n2] at kk
     clear n2
     go_wp2_with fail
     refine kk.mono ?_
     rintro e w3 ⟨rfl, hb3⟩
     have HB3 := Lib.hid (HB2.out.trans (hb3.mono HB2.out.size))
     clear hb3 p0 p1 p2 p3 p4 p5
     go_wp2
     go_ret
     exact ⟨by rw [HX.out]; rfl, HB3.out⟩
    ·have kk := K2.out _ HB2.out
     rw [n2] at kk
     have N2 := Lib.hid n2
     clear n2
     go_wp2_with fail
     refine kk.mono ?_
     rintro e w3 ⟨rfl, hb3⟩
     have HS3 := Lib.hid (HS2.out.trans (hb3.mono HS2.out.size))
     have HB3 := Lib.hid (HB2.out.trans (hb3.mono HB2.out.size))
     clear hb3 kk p0 p1 p2 p3 p4 p5
     obtain ⟨p0, p1, p2, p3, p4, p5⟩ := HC.out _ HS3.out
     cases n3 : namedP p.ra
     ·have HX : Hid (checkP p = 1) := Lib.hid (HNO.out (by unfold namesP; rw [n3, Bool.and_false]))
      have kk := K3.out _ HB3.out
      rw [n3] at kk
      clear n3
      go_wp2_with fail
      refine kk.mono ?_
      rintro e w4 ⟨rfl, hb4⟩
      have HB4 := Lib.hid (HB3.out.trans (hb4.mono HB3.out.size))
      clear hb4 p0 p1 p2 p3 p4 p5
      go_wp2
      go_ret
      exact ⟨by rw [HX.out]; rfl, HB4.out⟩
     ·have HNP : Hid (namesP p = true) := Lib.hid (by unfold namesP; rw [N0.out, N1.out, N2.out, n3]; rfl)
      have kk := K3.out _ HB3.out
      rw [n3] at kk
      clear n3
      go_wp2_with fail
      refine kk.mono ?_
      rintro e w4 ⟨rfl, hb4⟩
      have HS4 := Lib.hid (HS3.out.trans (hb4.mono HS3.out.size))
      have HB4 := Lib.hid (HB3.out.trans (hb4.mono HB3.out.size))
      clear hb4 kk p0 p1 p2 p3 p4 p5 N0 N1 N2 HNO K0 K1 K2 K3 HS1 HS2 HS3 HB1 HB2 HB3
      have hl4 : p.ro.length ≤ 9223372036854775807 := by have := HL.out.2.2.2.2.1; unfold maxLen at this; omega
      have hl5 : p.ih.length ≤ 9223372036854775807 := by have := HL.out.2.2.2.2.2; unfold maxLen at this; omega
      go_wp2
      go_loopw [3] (fun i wr => ∃ k : Nat, i = .int .i64 k ∧ k ≤ p.ro.length ∧ Hid (∀ j (_ : j < p.ro.length), j < k → badRt p.re p.ro[j] = false) ∧ Below W0.heap.size W0 wr) (fun i _ => p.ro.length - (intOf i).toNat)
      case atStart => exact ⟨0, rfl, Nat.zero_le _, Lib.hid (fun _ _ h => absurd h (Nat.not_lt_zero _)), HS4.out⟩
      case round =>
       obtain ⟨k, rfl, hk, HT, hbr⟩ := hrel
       have HBR := Lib.hid hbr
       obtain ⟨p0, p1, p2, p3, p4, p5⟩ := HC.out _ hbr
       have HBW : Hid (Below w.heap.size w wr) := Lib.hid (HB0.out.trans (hbr.mono HB0.out.size))
       clear hbr
       by_cases hkl : k < p.ro.length
       ·obtain ⟨b, o, rfl, hb, hcell⟩ := HR4.out (by omega)
        have hbad : badRt p.re p.ro[k] = true → checkP p = 1 := fun h => check_rt HLP.out HNP.out hkl h
        have HC4 := cellsG_at rtC_len p.ro k hkl
        have hri := HI4.out _ (List.getElem_mem hkl)
        have hrf := HF4.out _ (List.getElem_mem hkl)
        obtain ⟨x, hx⟩ : ∃ x, p.ro[k] = x := ⟨_, rfl⟩
        rw [hx] at HC4 hbad hri hrf
        have HX := Lib.hid hx
        have HBAD := Lib.hid hbad
        have kby := fun W (h : Below w.heap.size w W) => by8_any x.bys x.bv W (RdAt.later hri.b h) hrf.bys
        have kwh := fun W (h : Below w.heap.size w W) => when8_any x.whn x.wv W (hri.m.later h) hrf.len hrf.whn
        have kfd := KF.out x.rcv
        have KBY := Lib.hid kby
        have KWH := Lib.hid kwh
        have q : ∀ i v, (rtC x)[i]? = some v → wr.cell? ⟨b, o + k * 6 + i, none⟩ = some v := fun i v hi => keep_cell (by have := hcell _ _ (HC4 i v hi); rwa [← Nat.add_assoc] at this) HBW.out hb
        obtain ⟨rcv, bys, wait, every, again, whn, bv, wv⟩ := x
        dsimp only at *
        have r0 : wr.cell? ⟨b, o + k * 6, none⟩ = some (.string rcv) := q 0 _ rfl
        have r1 : wr.cell? ⟨b, o + k * 6 + 1, none⟩ = some bv := q 1 _ rfl
        have r2 : wr.cell? ⟨b, o + k * 6 + 2, none⟩ = some (.int .i64 wait) := q 2 _ rfl
        have r3 : wr.cell? ⟨b, o + k * 6 + 3, none⟩ = some (.int .i64 every) := q 3 _ rfl
        have r4 : wr.cell? ⟨b, o + k * 6 + 4, none⟩ = some (.int .i64 again) := q 4 _ rfl
        have r5 : wr.cell? ⟨b, o + k * 6 + 5, none⟩ = some wv := q 5 _ rfl
        obtain ⟨ba, bc, hba, _, _⟩ := RdAt.shape hri.b
        dsimp only at hba
        subst hba
        obtain ⟨wa, wc, hwa, _, _⟩ := RdAt.shape hri.m
        dsimp only at hwa
        subst hwa
        have KFD := Lib.hid kfd
        clear q HC4 hcell hbad hri hrf hx kby kwh kfd
        go_upto_region 9 with fail
        change Code.wp _ _ _ _ (wr.alloc (.cells #[.string rcv, .slice ba bys.length bc, .int .i64 wait, .int .i64 every, .int .i64 again, .slice wa whn.length wc] 84))
        have hbx := alloc_below wr (.cells #[.string rcv, .slice ba bys.length bc, .int .i64 wait, .int .i64 every, .int .i64 again, .slice wa whn.length wc] 84)
        have hrx := box6n wr (.string rcv) (.slice ba bys.length bc) (.int .i64 wait) (.int .i64 every) (.int .i64 again) (.slice wa whn.length wc) 84
        have hsx := World.size_alloc wr (.cells #[.string rcv, .slice ba bys.length bc, .int .i64 wait, .int .i64 every, .int .i64 again, .slice wa whn.length wc] 84)
        generalize wr.alloc (.cells #[.string rcv, .slice ba bys.length bc, .int .i64 wait, .int .i64 every, .int .i64 again, .slice wa whn.length wc] 84) = wx at *
        have hltx : wr.heap.size < wx.heap.size := by omega
        have HSX := Lib.hid (HBR.out.trans (hbx.mono HBR.out.size))
        have HBX := Lib.hid (HBW.out.trans (hbx.mono HBW.out.size))
        have HRX := Lib.hid hrx
        have HLX := Lib.hid hltx
        clear p0 p1 p2 p3 p4 p5 r0 r1 r2 r3 r4 r5 hbx hsx hrx hltx HBR
        obtain ⟨p0, p1, p2, p3, p4, p5⟩ := HC.out _ HSX.out
        obtain ⟨r0, r1, r2, r3, r4, r5⟩ := HRX.out
        generalize wr.heap.size = bx at *
        have kk := KFD.out _ HBX.out
        cases hfl : findL p.re rcv with
        | none =>
         have HX1 : Hid (checkP p = 1) := Lib.hid (HBAD.out (by unfold badRt; dsimp only; rw [hfl]; rfl))
         rw [hfl] at kk
         clear hfl
         go_wp2_with fail
         refine kk.mono ?_
         rintro e w5 ⟨rfl, hb5⟩
         have HB5 := Lib.hid (HBX.out.trans (hb5.mono HBX.out.size))
         clear hb5 p0 p1 p2 p3 p4 p5 r0 r1 r2 r3 r4 r5 kk
         unfold findV
         dsimp only [Option.isSome]
         go_wp2
         go_ret
         refine ⟨by rw [HX1.out]; rfl, ?_⟩
         exact HB5.out.trans ((alloc_below w5 _).mono HB5.out.size)
        | some y =>
         rw [hfl] at kk
         have HFL := Lib.hid hfl
         clear hfl
         go_wp2_with fail
         refine kk.mono ?_
         rintro e w5 ⟨rfl, hb5⟩
         have HB5 := Lib.hid (HBX.out.trans (hb5.mono HBX.out.size))
         have HS5 := Lib.hid (HSX.out.trans (hb5.mono HSX.out.size))
         have HR5' := Lib.hid (C6.later HRX.out hb5 HLX.out)
         have HL5 := Lib.hid (Nat.lt_of_lt_of_le HLX.out hb5.size)
         clear hb5 p0 p1 p2 p3 p4 p5 r0 r1 r2 r3 r4 r5 kk
         obtain ⟨yn, yl, yc⟩ := y
         unfold findV
         dsimp only [Option.isSome]
         go_upto_region 10 with fail
         change Code.wp _ _ _ _ (w5.alloc (.cells #[.int .i64 yl, .int .u32 yc] 36))
         have hb6 := alloc_below w5 (.cells #[.int .i64 yl, .int .u32 yc] 36)
         generalize w5.alloc (.cells #[.int .i64 yl, .int .u32 yc] 36) = w6 at *
         have HB6 := Lib.hid (HB5.out.trans (hb6.mono HB5.out.size))
         have HS6 := Lib.hid (HS5.out.trans (hb6.mono HS5.out.size))
         have HR6 := Lib.hid (C6.later HR5'.out hb6 HL5.out)
         have HL6 := Lib.hid (Nat.lt_of_lt_of_le HL5.out hb6.size)
         clear hb6 HB5 HS5 HR5' HL5 HRX HLX HBX HSX
         obtain ⟨r0, r1, r2, r3, r4, r5⟩ := HR6.out
         have kk := KBY.out _ HB6.out
         cases hby : byP bys
         ·have HX1 : Hid (checkP p = 1) := Lib.hid (HBAD.out (by unfold badRt; dsimp only; rw [hby]; simp))
          rw [hby] at kk
          clear hby
          go_wp2_with fail
          refine kk.mono ?_
          rintro e w7 ⟨rfl, hb7⟩
          have HB7 := Lib.hid (HB6.out.trans (hb7.mono HB6.out.size))
          clear hb7 r0 r1 r2 r3 r4 r5 kk
          go_wp2
          go_ret
          exact ⟨by rw [HX1.out]; rfl, HB7.out⟩
         ·rw [hby] at kk
          have HBY := Lib.hid hby
          clear hby
          go_wp2_with fail
          refine kk.mono ?_
          rintro e w7 ⟨rfl, hb7⟩
          have HB7 := Lib.hid (HB6.out.trans (hb7.mono HB6.out.size))
          have HS7 := Lib.hid (HS6.out.trans (hb7.mono HS6.out.size))
          have HR7 := Lib.hid (C6.later HR6.out hb7 HL6.out)
          clear hb7 r0 r1 r2 r3 r4 r5 kk HR6 HL6 HS6 HB6
          obtain ⟨r0, r1, r2, r3, r4, r5⟩ := HR7.out
          rcases (show wait < 0 ∨ (0 ≤ wait ∧ 1000 < wait) ∨ (0 ≤ wait ∧ wait ≤ 1000 ∧ every < 1) ∨ (0 ≤ wait ∧ wait ≤ 1000 ∧ 1 ≤ every ∧ 1000 < every) ∨ (0 ≤ wait ∧ wait ≤ 1000 ∧ 1 ≤ every ∧ every ≤ 1000 ∧ again < every) ∨ (0 ≤ wait ∧ wait ≤ 1000 ∧ 1 ≤ every ∧ every ≤ 1000 ∧ every ≤ again ∧ 100000 < again) ∨ (0 ≤ wait ∧ wait ≤ 1000 ∧ 1 ≤ every ∧ every ≤ 1000 ∧ every ≤ again ∧ again ≤ 100000) by omega) with g0 | ⟨g0, g1⟩ | ⟨g0, g1, g2⟩ | ⟨g0, g1, g2, g3⟩ | ⟨g0, g1, g2, g3, g4⟩ | ⟨g0, g1, g2, g3, g4, g5⟩ | ⟨g0, g1, g2, g3, g4, g5⟩
          iterate 6
           ·have HX1 : Hid (checkP p = 1) := Lib.hid (HBAD.out (by unfold badRt; rw [timesP_no (by dsimp only; omega)]; simp))
            clear KWH HBAD
            go_wp2
            go_ret
            exact ⟨by rw [HX1.out]; rfl, HB7.out⟩
          ·have HTY : Hid (timesP ⟨rcv, bys, wait, every, again, whn, .slice ba bys.length bc, .slice wa whn.length wc⟩ = true) := Lib.hid (timesP_yes (by dsimp only; omega))
           have kk := KWH.out _ HB7.out
           cases hwh : whenP whn
           ·have HX1 : Hid (checkP p = 1) := Lib.hid (HBAD.out (by unfold badRt; dsimp only; rw [hwh]; simp))
            rw [hwh] at kk
            clear hwh
            go_wp2_with fail
            refine kk.mono ?_
            rintro e w8 ⟨rfl, hb8⟩
            have HB8 := Lib.hid (HB7.out.trans (hb8.mono HB7.out.size))
            clear hb8 r0 r1 r2 r3 r4 r5 kk
            go_wp2
            go_ret
            exact ⟨by rw [HX1.out]; rfl, HB8.out⟩
           ·have HOK : Hid (∀ j (_ : j < p.ro.length), j < k + 1 → badRt p.re p.ro[j] = false) := Lib.hid (fun j hj h => by
             rcases Nat.lt_or_ge j k with h' | h'
             ·exact HT.out j hj h'
             ·obtain rfl : j = k := by omega
              rw [HX.out]; unfold badRt; rw [HTY.out]; dsimp only; rw [HFL.out, HBY.out, hwh]; rfl)
            rw [hwh] at kk
            clear hwh
            go_wp2_with fail
            refine kk.mono ?_
            rintro e w8 ⟨rfl, hb8⟩
            have HS8 := Lib.hid (HS7.out.trans (hb8.mono HS7.out.size))
            clear hb8 r0 r1 r2 r3 r4 r5 kk
            go_wp2
            go_roundw
            case rel => exact ⟨k + 1, by go_num, by omega, HOK, HS8.out⟩
            case measure => (simp [intOf]; try omega)
       ·obtain rfl : k = p.ro.length := by omega
        have HRO : Hid (∀ j (_ : j < p.ro.length), badRt p.re p.ro[j] = false) := Lib.hid (fun j hj => HT.out j hj hj)
        clear HT hk hkl
        go_wp2
        obtain ⟨wo, rfl⟩ : ∃ z, z = wr := ⟨_, rfl⟩
        go_loopw [7] (fun i wr => ∃ k : Nat, i = .int .i64 k ∧ k ≤ p.ih.length ∧ Hid (∀ j (_ : j < p.ih.length), j < k → badIh p.ih[j] = false) ∧ Below W0.heap.size W0 wr) (fun i _ => p.ih.length - (intOf i).toNat)
        case atStart => exact ⟨0, rfl, Nat.zero_le _, Lib.hid (fun _ _ h => absurd h (Nat.not_lt_zero _)), HBR.out⟩
        case round =>
         clear HBR HBW p0 p1 p2 p3 p4 p5
         obtain ⟨k, rfl, hk, HT, hbr⟩ := hrel
         have HBR := Lib.hid hbr
         obtain ⟨p0, p1, p2, p3, p4, p5⟩ := HC.out _ hbr
         have HBW : Hid (Below w.heap.size w wr) := Lib.hid (HB0.out.trans (hbr.mono HB0.out.size))
         clear hbr
         by_cases hkl : k < p.ih.length
         ·obtain ⟨b, o, rfl, hb, hcell⟩ := HR5.out (by omega)
          have hbad : badIh p.ih[k] = true → checkP p = 1 := fun h => check_ih HLP.out HNP.out hkl h
          have HC5 := cellsG_at ihC_len p.ih k hkl
          have hri := HI5.out _ (List.getElem_mem hkl)
          have hrf := HF5.out _ (List.getElem_mem hkl)
          obtain ⟨x, hx⟩ : ∃ x, p.ih[k] = x := ⟨_, rfl⟩
          rw [hx] at HC5 hbad hri hrf
          have HX := Lib.hid hx
          have HBAD := Lib.hid hbad
          have KBY := Lib.hid (fun W (h : Below w.heap.size w W) => by8_any x.bys x.bv W (RdAt.later hri.b h) hrf.bys)
          have KW1 := Lib.hid (fun W (h : Below w.heap.size w W) => when8_any x.frm x.fv W (hri.f.later h) hrf.lf hrf.frm)
          have KW2 := Lib.hid (fun W (h : Below w.heap.size w W) => when8_any x.whn x.wv W (hri.m.later h) hrf.lw hrf.whn)
          have KRL := Lib.hid (rright_any x.lv x.c)
          have q : ∀ i v, (ihC x)[i]? = some v → wr.cell? ⟨b, o + k * 5 + i, none⟩ = some v := fun i v hi => keep_cell (by have := hcell _ _ (HC5 i v hi); rwa [← Nat.add_assoc] at this) HBW.out hb
          obtain ⟨bys, lv, c, frm, whn, bv, fv, wv⟩ := x
          dsimp only at *
          have r0 : wr.cell? ⟨b, o + k * 5, none⟩ = some bv := q 0 _ rfl
          have r1 : wr.cell? ⟨b, o + k * 5 + 1, none⟩ = some (.int .i64 lv) := q 1 _ rfl
          have r2 : wr.cell? ⟨b, o + k * 5 + 2, none⟩ = some (.int .u32 c) := q 2 _ rfl
          have r3 : wr.cell? ⟨b, o + k * 5 + 3, none⟩ = some fv := q 3 _ rfl
          have r4 : wr.cell? ⟨b, o + k * 5 + 4, none⟩ = some wv := q 4 _ rfl
          obtain ⟨ba, bc, hba, _, _⟩ := RdAt.shape hri.b
          dsimp only at hba
          subst hba
          obtain ⟨fa, fc, hfa, _, _⟩ := RdAt.shape hri.f
          dsimp only at hfa
          subst hfa
          obtain ⟨wa, wc, hwa, _, _⟩ := RdAt.shape hri.m
          dsimp only at hwa
          subst hwa
          clear q HC5 hcell hbad hri hrf hx
          go_upto_region 16 with fail
          change Code.wp _ _ _ _ (wr.alloc (.cells #[.slice ba bys.length bc, .int .i64 lv, .int .u32 c, .slice fa frm.length fc, .slice wa whn.length wc] 51))
          have hbx := alloc_below wr (.cells #[.slice ba bys.length bc, .int .i64 lv, .int .u32 c, .slice fa frm.length fc, .slice wa whn.length wc] 51)
          have hrx := box5n wr (.slice ba bys.length bc) (.int .i64 lv) (.int .u32 c) (.slice fa frm.length fc) (.slice wa whn.length wc) 51
          have hsx := World.size_alloc wr (.cells #[.slice ba bys.length bc, .int .i64 lv, .int .u32 c, .slice fa frm.length fc, .slice wa whn.length wc] 51)
          generalize wr.alloc (.cells #[.slice ba bys.length bc, .int .i64 lv, .int .u32 c, .slice fa frm.length fc, .slice wa whn.length wc] 51) = w5 at *
          have hltx : wr.heap.size < w5.heap.size := by omega
          have HS5 := Lib.hid (HBR.out.trans (hbx.mono HBR.out.size))
          have HB5 := Lib.hid (HBW.out.trans (hbx.mono HBW.out.size))
          have HR5' := Lib.hid hrx
          have HL5 := Lib.hid hltx
          clear p0 p1 p2 p3 p4 p5 r0 r1 r2 r3 r4 hbx hsx hrx hltx HBR
          obtain ⟨r0, r1, r2, r3, r4⟩ := HR5'.out
          generalize wr.heap.size = bx at *
          have kk := KBY.out _ HB5.out
          cases hby : byP bys
          ·have HX1 : Hid (checkP p = 1) := Lib.hid (HBAD.out (by unfold badIh; dsimp only; rw [hby]; rfl))
           rw [hby] at kk
           clear hby
           go_wp2_with fail
           refine kk.mono ?_
           rintro e w6 ⟨rfl, hb6⟩
           have HB6 := Lib.hid (HB5.out.trans (hb6.mono HB5.out.size))
           clear hb6 r0 r1 r2 r3 r4 kk
           go_wp2
           go_ret
           exact ⟨by rw [HX1.out]; rfl, HB6.out⟩
          ·rw [hby] at kk
           have HBY := Lib.hid hby
           clear hby
           go_wp2_with fail
           refine kk.mono ?_
           rintro e w6 ⟨rfl, hb6⟩
           have HB6 := Lib.hid (HB5.out.trans (hb6.mono HB5.out.size))
           have HS6 := Lib.hid (HS5.out.trans (hb6.mono HS5.out.size))
           have HR6 := Lib.hid (C5.later HR5'.out hb6 HL5.out)
           have HL6 := Lib.hid (Nat.lt_of_lt_of_le HL5.out hb6.size)
           clear hb6 r0 r1 r2 r3 r4 kk HR5' HL5 HS5 HB5
           obtain ⟨r0, r1, r2, r3, r4⟩ := HR6.out
           have kk := KRL.out w6
           cases hrl : rightL lv
           ·have HX1 : Hid (checkP p = 1) := Lib.hid (HBAD.out (by unfold badIh; dsimp only; rw [hrl]; simp))
            rw [hrl] at kk
            clear hrl
            go_wp2_with fail
            refine kk.mono ?_
            rintro e w7 ⟨rfl, hb7⟩
            have HB7 := Lib.hid (HB6.out.trans (hb7.mono HB6.out.size))
            clear hb7 r0 r1 r2 r3 r4 kk
            go_wp2
            go_ret
            exact ⟨by rw [HX1.out]; rfl, HB7.out⟩
           ·rw [hrl] at kk
            have HRLt := Lib.hid hrl
            clear hrl
            go_wp2_with fail
            refine kk.mono ?_
            rintro e w7 ⟨rfl, hb7⟩
            have HB7 := Lib.hid (HB6.out.trans (hb7.mono HB6.out.size))
            have HS7 := Lib.hid (HS6.out.trans (hb7.mono HS6.out.size))
            have HR7 := Lib.hid (C5.later HR6.out hb7 HL6.out)
            have HL7 := Lib.hid (Nat.lt_of_lt_of_le HL6.out hb7.size)
            clear hb7 r0 r1 r2 r3 r4 kk HR6 HL6 HS6 HB6
            obtain ⟨r0, r1, r2, r3, r4⟩ := HR7.out
            have kk := KW1.out _ HB7.out
            cases hw1 : whenP frm
            ·have HX1 : Hid (checkP p = 1) := Lib.hid (HBAD.out (by unfold badIh; dsimp only; rw [hw1]; simp))
             rw [hw1] at kk
             clear hw1
             go_wp2_with fail
             refine kk.mono ?_
             rintro e w8 ⟨rfl, hb8⟩
             have HB8 := Lib.hid (HB7.out.trans (hb8.mono HB7.out.size))
             clear hb8 r0 r1 r2 r3 r4 kk
             go_wp2
             go_ret
             exact ⟨by rw [HX1.out]; rfl, HB8.out⟩
            ·rw [hw1] at kk
             have HW1 := Lib.hid hw1
             clear hw1
             go_wp2_with fail
             refine kk.mono ?_
             rintro e w8 ⟨rfl, hb8⟩
             have HB8 := Lib.hid (HB7.out.trans (hb8.mono HB7.out.size))
             have HS8 := Lib.hid (HS7.out.trans (hb8.mono HS7.out.size))
             have HR8 := Lib.hid (C5.later HR7.out hb8 HL7.out)
             clear hb8 r0 r1 r2 r3 r4 kk HR7 HL7 HS7 HB7
             obtain ⟨r0, r1, r2, r3, r4⟩ := HR8.out
             have kk := KW2.out _ HB8.out
             cases hw2 : whenP whn
             ·have HX1 : Hid (checkP p = 1) := Lib.hid (HBAD.out (by unfold badIh; dsimp only; rw [hw2]; simp))
              rw [hw2] at kk
              clear hw2
              go_wp2_with fail
              refine kk.mono ?_
              rintro e w9 ⟨rfl, hb9⟩
              have HB9 := Lib.hid (HB8.out.trans (hb9.mono HB8.out.size))
              clear hb9 r0 r1 r2 r3 r4 kk
              go_wp2
              go_ret
              exact ⟨by rw [HX1.out]; rfl, HB9.out⟩
             ·have HOK : Hid (∀ j (_ : j < p.ih.length), j < k + 1 → badIh p.ih[j] = false) := Lib.hid (fun j hj h => by
               rcases Nat.lt_or_ge j k with h' | h'
               ·exact HT.out j hj h'
               ·obtain rfl : j = k := by omega
                rw [HX.out]; unfold badIh; dsimp only; rw [HBY.out, HRLt.out, HW1.out, hw2]; rfl)
              rw [hw2] at kk
              clear hw2
              go_wp2_with fail
              refine kk.mono ?_
              rintro e w9 ⟨rfl, hb9⟩
              have HS9 := Lib.hid (HS8.out.trans (hb9.mono HS8.out.size))
              clear hb9 r0 r1 r2 r3 r4 kk
              go_wp2
              go_roundw
              case rel => exact ⟨k + 1, by go_num, by omega, HOK, HS9.out⟩
              case measure => (simp [intOf]; try omega)
         ·obtain rfl : k = p.ih.length := by omega
          have HX1 : Hid (checkP p = 0) := Lib.hid (check_ok HLP.out HNP.out HRO.out (fun j hj => HT.out j hj hj))
          clear HT hk hkl
          go_wp2
          go_ret
          exact ⟨by rw [HX1.out]; rfl, HBW.out⟩
end Go.Proofs.YtipnhpfpppblhaaGreat
/- slices.Sort at []uint64, of at most twelve elements: what the library's text computes is the kit's own insertion sort. -/
namespace Go.Proofs.YtipnhpfpppblhaaGreat
open Go.RowKit Go.Sort
abbrev U (x : Int) : Value := .int .u64 x
end Go.Proofs.YtipnhpfpppblhaaGreat
/- maps.Keys, slices.AppendSeq, Collect, Sort, Sorted over the keys of a map[uint64]bool: contracts. Parts turned from the library's walks of the same idiom at another kind of key. -/
namespace Go.Proofs.YtipnhpfpppblhaaGreat
open Go.RowKit Go.Maps Go.Sort Go.Shelf
attribute [local go_sem] Oper.semAt_some
/-! plain -/
section
variable {H : Type} {D0 : DataW H} {left : Lit → Bool} {ss : List Int}
variable {P : Program} {k : TypeId} {R : Value → Option (DataW H × List MemPlace)} {w : World} {b n : Nat}
end
/-! maps.Keys -/
/-! slices.AppendSeq -/
end Go.Proofs.YtipnhpfpppblhaaGreat
/- alert.Apart's maps: keys, what lies in them; the closure that puts. -/
namespace Go.Proofs.YtipnhpfpppblhaaGreat
open Go.RowKit Go.Maps
/-! the key's law -/
def wfL (x : Int × Nat) : Prop := (Lit.int .i64 x.1).wf = true ∧ (Lit.int .u32 x.2).wf = true
def kL (x : Int × Nat) : Lit := .string (keyBytes [.int .i64 x.1, .int .u32 x.2])
def R2 : Value → Option (DataW Unit × List MemPlace)
 | .map none => some (.nil, [])
 | .map (some b) => some (.lit (.int .i64 b), [])
 | _ => none
structure Ent where
 x : Int × Nat
 b : Nat
 ids : List Int
abbrev yes : DataW Unit := .lit (.bool true)
def idsD (ids : List Int) : DataW Unit := setOf yes (ids.map (Lit.int .u64))
def DT : List Ent → DataW Unit
 | [] => .map []
 | e :: T => (DT T).put (kL e.x) (.lit (.int .i64 e.b))
structure ApM (w : World) (base m : Nat) (T : List Ent) : Prop where
 outer : w.ownsMap Tryz.prog 36 R2 m T.length (DT T)
 inner : ∀ e ∈ T, w.ownsMap Tryz.prog 69 (plainElem Tryz.prog 4) e.b e.ids.length (idsD e.ids)
 far : ∀ e ∈ T, base ≤ e.b ∧ e.b ≠ m
 apart : T.Pairwise (fun e f => e.b ≠ f.b)
 once : T.Pairwise (fun e f => e.x ≠ f.x)
 wf : ∀ e ∈ T, wfL e.x ∧ ∀ i ∈ e.ids, (Lit.int .u64 i).wf = true
 low : base ≤ m
end Go.Proofs.YtipnhpfpppblhaaGreat
/- alert.Apart's closure: puts an id at a label. -/
namespace Go.Proofs.YtipnhpfpppblhaaGreat
open Go.RowKit Go.Maps
end Go.Proofs.YtipnhpfpppblhaaGreat
/- digest.mix.of, bits.RotateLeft32: contracts. -/
namespace Go.Proofs.YtipnhpfpppblhaaGreat
open Go.RowKit
def rotW (x : Int) (s : Nat) : Int := bits BinOp.or .u32 (x * 2 ^ s % 4294967296) (x / 2 ^ (32 - s))
set_option maxHeartbeats 800000 in
theorem rot_any (x k : Int) (s : Nat) (w : World) (hs : s ≤ 31) (hk : bits BinOp.and IntKind.u64 (IntKind.u64.wrap k) 31 = (s : Int)) :
  Calls Tryz.prog 146 #[.int .u32 x, .int .i64 k] w fun e w' => e = .returned (.int .u32 (rotW x s)) ∧ w' = w := by
 have h1 : IntKind.u64.wrap (32 - (s : Int)) = ((32 - s : Nat) : Int) := by rw [IntKind.wrap_u64]; omega
 go_enter Tryz.func146, Tryz.ntmps146
 go_wp2
 go_ret
 exact ⟨rfl, rfl⟩
theorem neg_and : ∀ k : Nat, k < 32 → 0 < k → bits BinOp.and IntKind.u64 (IntKind.u64.wrap (-(k : Int))) 31 = ((32 - k : Nat) : Int) := by decide +kernel
theorem rotr_any (x : Int) (k : Nat) (w : World) (h0 : 0 < k) (hk : k < 32) :
  Calls Tryz.prog 146 #[.int .u32 x, .int .i64 (-(k : Int))] w fun e w' => e = .returned (.int .u32 (rotW x (32 - k))) ∧ w' = w :=
 rot_any x (-(k : Int)) (32 - k) w (by omega) (neg_and k hk h0)
def mixW (a b c sh : Nat) (x : Int) : Int := bits BinOp.xor .u32 (bits BinOp.xor .u32 (rotW x (32 - a)) (rotW x (32 - b))) (if 0 < sh then x / 2 ^ sh else rotW x (32 - c))
set_option maxHeartbeats 1600000 in
set_option maxRecDepth 100000 in
theorem of_sh (a b c sh : Nat) (x : Int) (w : World) (ha : 0 < a ∧ a < 32) (hb : 0 < b ∧ b < 32) (hs : 0 < sh ∧ sh < 32) :
  Calls Tryz.prog 134 #[.agg #[.int .i64 a, .int .i64 b, .int .i64 c, .int .i64 sh], .int .u32 x] w fun e w' => e = .returned (.int .u32 (mixW a b c sh x)) ∧ Below w.heap.size w w' := by
 have HM : Hid (mixW a b c sh x = bits BinOp.xor .u32 (bits BinOp.xor .u32 (rotW x (32 - a)) (rotW x (32 - b))) (x / 2 ^ sh)) := by show _ = _; unfold mixW; rw [if_pos hs.1]
 have hs0 : (0 : Int) < (sh : Int) := by omega
 have hwa : IntKind.i64.wrap (-(a : Int)) = -(a : Int) := by rw [IntKind.wrap_i64]; omega
 have hwb : IntKind.i64.wrap (-(b : Int)) = -(b : Int) := by rw [IntKind.wrap_i64]; omega
 have ka := fun W => rotr_any x a W ha.1 ha.2
 have kb := fun W => rotr_any x b W hb.1 hb.2
 go_enter Tryz.func134, Tryz.ntmps134
 go_wp2
 have hc : ∀ (i : Nat), (w.alloc (.cells #[.int .i64 a, .int .i64 b, .int .i64 c, .int .i64 sh] 189)).cell? ⟨w.heap.size, i, none⟩ = (#[.int .i64 a, .int .i64 b, .int .i64 c, .int .i64 sh] : Array Value)[i]? := fun i => World.cell?_alloc_at _ _ _ _ rfl
 have a0 := hc 0
 have a1 := hc 1
 have a2 := hc 2
 have a3 := hc 3
 have hba := alloc_below w (.cells #[.int .i64 a, .int .i64 b, .int .i64 c, .int .i64 sh] 189)
 generalize w.alloc (.cells #[.int .i64 a, .int .i64 b, .int .i64 c, .int .i64 sh] 189) = wa at *
 change wa.cell? _ = some _ at a0
 change wa.cell? _ = some _ at a1
 change wa.cell? _ = some _ at a2
 change wa.cell? _ = some _ at a3
 refine wp_region_held_drew (S := (fun w' => w'.cell? ⟨w.heap.size, 0, none⟩ = some (.int .i64 a) ∧ w'.cell? ⟨w.heap.size, 1, none⟩ = some (.int .i64 b) ∧ w'.cell? ⟨w.heap.size, 2, none⟩ = some (.int .i64 c) ∧ w'.cell? ⟨w.heap.size, 3, none⟩ = some (.int .i64 sh))) (by kernel_rfl) ⟨a0, a1, a2, a3⟩ (fun hHeld => ?_)
 refine hT (i := 0) (v := ?_) rfl rfl hHeld ?_ ?_
 rotate_left
 ·rintro wh ⟨z0, z1, z2, z3⟩
  go_simp
  (try with_reducible rfl)
 simp only [Act.put, List.setIfInBounds_toArray, List.set_cons_zero, List.set_cons_succ]
 refine hT (i := 1) (v := ?_) rfl rfl hHeld ?_ ?_
 rotate_left
 ·rintro wh ⟨z0, z1, z2, z3⟩
  go_simp
  (try with_reducible rfl)
 simp only [Act.put, List.setIfInBounds_toArray, List.set_cons_zero, List.set_cons_succ]
 refine hT (i := 2) (v := ?_) rfl rfl hHeld ?_ ?_
 rotate_left
 ·rintro wh ⟨z0, z1, z2, z3⟩
  go_simp
  (try with_reducible rfl)
 simp only [Act.put, List.setIfInBounds_toArray, List.set_cons_zero, List.set_cons_succ]
 refine hT (i := 3) (v := ?_) rfl rfl hHeld ?_ ?_
 rotate_left
 ·rintro wh ⟨z0, z1, z2, z3⟩
  go_simp
  (try with_reducible rfl)
 simp only [Act.put, List.setIfInBounds_toArray, List.set_cons_zero, List.set_cons_succ]
 refine hT (i := 5) (v := ?_) rfl rfl hHeld ?_ ?_
 rotate_left
 ·rintro wh ⟨z0, z1, z2, z3⟩
  go_simp
  (try with_reducible rfl)
 simp only [Act.put, List.setIfInBounds_toArray, List.set_cons_zero, List.set_cons_succ]
 refine hT (i := 6) (v := ?_) rfl rfl hHeld ?_ ?_
 rotate_left
 ·rintro wh ⟨z0, z1, z2, z3⟩
  go_simp
  (try with_reducible rfl)
 simp only [Act.put, List.setIfInBounds_toArray, List.set_cons_zero, List.set_cons_succ]
 refine hT (i := 7) (v := ?_) rfl rfl hHeld ?_ ?_
 rotate_left
 ·rintro wh ⟨z0, z1, z2, z3⟩
  go_simp
  (try with_reducible rfl)
 simp only [Act.put, List.setIfInBounds_toArray, List.set_cons_zero, List.set_cons_succ]
 refine hT (i := 8) (v := ?_) rfl rfl hHeld ?_ ?_
 rotate_left
 ·rintro wh ⟨z0, z1, z2, z3⟩
  go_simp
  (try with_reducible rfl)
 simp only [Act.put, List.setIfInBounds_toArray, List.set_cons_zero, List.set_cons_succ]
 refine held_call (i := 4) rfl (by kernel_rfl) (by rfl) (fun K hK => ?_)
 (go_simp; go_at_call 146; refine (ka _).mono ?_; rintro e w1 ⟨rfl, rfl⟩)
 refine hK.out _ _ ⟨a0, a1, a2, a3⟩ (fun hHeld => ?_)
 clear hK K
 (try simp only [Act.put, List.setIfInBounds_toArray, List.set_cons_zero, List.set_cons_succ])
 refine held_call (i := 9) rfl (by kernel_rfl) (by rfl) (fun K hK => ?_)
 (go_simp; go_at_call 146; refine (kb _).mono ?_; rintro e w1 ⟨rfl, rfl⟩)
 refine hK.out _ _ ⟨a0, a1, a2, a3⟩ (fun hHeld => ?_)
 clear hK K
 (try simp only [Act.put, List.setIfInBounds_toArray, List.set_cons_zero, List.set_cons_succ])
 refine hT (i := 10) (v := ?_) rfl rfl hHeld ?_ ?_
 rotate_left
 ·rintro wh ⟨z0, z1, z2, z3⟩
  go_simp
  (try with_reducible rfl)
 simp only [Act.put, List.setIfInBounds_toArray, List.set_cons_zero, List.set_cons_succ]
 refine hT (i := 11) (v := ?_) rfl rfl hHeld ?_ ?_
 rotate_left
 ·rintro wh ⟨z0, z1, z2, z3⟩
  go_simp
  (try with_reducible rfl)
 simp only [Act.put, List.setIfInBounds_toArray, List.set_cons_zero, List.set_cons_succ]
 refine wpAnyH_done (by kernel_rfl) ?_ _
 go_wp2
 go_ret
 exact ⟨by rw [HM.out]; rfl, hba.drew⟩
set_option maxHeartbeats 1600000 in
set_option maxRecDepth 100000 in
theorem of_rot (a b c : Nat) (x : Int) (w : World) (ha : 0 < a ∧ a < 32) (hb : 0 < b ∧ b < 32) (hc : 0 < c ∧ c < 32) :
  Calls Tryz.prog 134 #[.agg #[.int .i64 a, .int .i64 b, .int .i64 c, .int .i64 0], .int .u32 x] w fun e w' => e = .returned (.int .u32 (mixW a b c 0 x)) ∧ Below w.heap.size w w' := by
 have HM : Hid (mixW a b c 0 x = bits BinOp.xor .u32 (bits BinOp.xor .u32 (rotW x (32 - a)) (rotW x (32 - b))) (rotW x (32 - c))) := by show _ = _; unfold mixW; rw [if_neg (Nat.lt_irrefl 0)]
 have hwc : IntKind.i64.wrap (-(c : Int)) = -(c : Int) := by rw [IntKind.wrap_i64]; omega
 have hwc' : wrap64 (-(c : Int)) = -(c : Int) := by unfold wrap64; omega
 have kc := fun W => rotr_any x c W hc.1 hc.2
 have hwa : IntKind.i64.wrap (-(a : Int)) = -(a : Int) := by rw [IntKind.wrap_i64]; omega
 have hwb : IntKind.i64.wrap (-(b : Int)) = -(b : Int) := by rw [IntKind.wrap_i64]; omega
 have ka := fun W => rotr_any x a W ha.1 ha.2
 have kb := fun W => rotr_any x b W hb.1 hb.2
 go_enter Tryz.func134, Tryz.ntmps134
 go_wp2
 have hcell : ∀ (i : Nat), (w.alloc (.cells #[.int .i64 a, .int .i64 b, .int .i64 c, .int .i64 0] 189)).cell? ⟨w.heap.size, i, none⟩ = (#[.int .i64 a, .int .i64 b, .int .i64 c, .int .i64 0] : Array Value)[i]? := fun i => World.cell?_alloc_at _ _ _ _ rfl
 have a0 := hcell 0
 have a1 := hcell 1
 have a2 := hcell 2
 have a3 := hcell 3
 have hba := alloc_below w (.cells #[.int .i64 a, .int .i64 b, .int .i64 c, .int .i64 0] 189)
 generalize w.alloc (.cells #[.int .i64 a, .int .i64 b, .int .i64 c, .int .i64 0] 189) = wa at *
 change wa.cell? _ = some _ at a0
 change wa.cell? _ = some _ at a1
 change wa.cell? _ = some _ at a2
 change wa.cell? _ = some _ at a3
 refine wp_region_held_drew (S := (fun w' => w'.cell? ⟨w.heap.size, 0, none⟩ = some (.int .i64 a) ∧ w'.cell? ⟨w.heap.size, 1, none⟩ = some (.int .i64 b) ∧ w'.cell? ⟨w.heap.size, 2, none⟩ = some (.int .i64 c) ∧ w'.cell? ⟨w.heap.size, 3, none⟩ = some (.int .i64 0))) (by kernel_rfl) ⟨a0, a1, a2, a3⟩ (fun hHeld => ?_)
 refine hT (i := 0) (v := ?_) rfl rfl hHeld ?_ ?_
 rotate_left
 ·rintro wh ⟨z0, z1, z2, z3⟩
  go_simp
  (try with_reducible rfl)
 simp only [Act.put, List.setIfInBounds_toArray, List.set_cons_zero, List.set_cons_succ]
 refine hT (i := 1) (v := ?_) rfl rfl hHeld ?_ ?_
 rotate_left
 ·rintro wh ⟨z0, z1, z2, z3⟩
  go_simp
  (try with_reducible rfl)
 simp only [Act.put, List.setIfInBounds_toArray, List.set_cons_zero, List.set_cons_succ]
 refine hT (i := 2) (v := ?_) rfl rfl hHeld ?_ ?_
 rotate_left
 ·rintro wh ⟨z0, z1, z2, z3⟩
  go_simp
  (try with_reducible rfl)
 simp only [Act.put, List.setIfInBounds_toArray, List.set_cons_zero, List.set_cons_succ]
 refine hT (i := 3) (v := ?_) rfl rfl hHeld ?_ ?_
 rotate_left
 ·rintro wh ⟨z0, z1, z2, z3⟩
  go_simp
  (try with_reducible rfl)
 simp only [Act.put, List.setIfInBounds_toArray, List.set_cons_zero, List.set_cons_succ]
 refine hT (i := 5) (v := ?_) rfl rfl hHeld ?_ ?_
 rotate_left
 ·rintro wh ⟨z0, z1, z2, z3⟩
  go_simp
  (try with_reducible rfl)
 simp only [Act.put, List.setIfInBounds_toArray, List.set_cons_zero, List.set_cons_succ]
 refine hT (i := 6) (v := ?_) rfl rfl hHeld ?_ ?_
 rotate_left
 ·rintro wh ⟨z0, z1, z2, z3⟩
  go_simp
  (try with_reducible rfl)
 simp only [Act.put, List.setIfInBounds_toArray, List.set_cons_zero, List.set_cons_succ]
 refine hT (i := 7) (v := ?_) rfl rfl hHeld ?_ ?_
 rotate_left
 ·rintro wh ⟨z0, z1, z2, z3⟩
  go_simp
  (try with_reducible rfl)
 simp only [Act.put, List.setIfInBounds_toArray, List.set_cons_zero, List.set_cons_succ]
 refine hT (i := 8) (v := ?_) rfl rfl hHeld ?_ ?_
 rotate_left
 ·rintro wh ⟨z0, z1, z2, z3⟩
  go_simp
  (try with_reducible rfl)
 simp only [Act.put, List.setIfInBounds_toArray, List.set_cons_zero, List.set_cons_succ]
 refine held_call (i := 4) rfl (by kernel_rfl) (by rfl) (fun K hK => ?_)
 (go_simp; go_at_call 146; refine (ka _).mono ?_; rintro e w1 ⟨rfl, rfl⟩)
 refine hK.out _ _ ⟨a0, a1, a2, a3⟩ (fun hHeld => ?_)
 clear hK K
 (try simp only [Act.put, List.setIfInBounds_toArray, List.set_cons_zero, List.set_cons_succ])
 refine held_call (i := 9) rfl (by kernel_rfl) (by rfl) (fun K hK => ?_)
 (go_simp; go_at_call 146; refine (kb _).mono ?_; rintro e w1 ⟨rfl, rfl⟩)
 refine hK.out _ _ ⟨a0, a1, a2, a3⟩ (fun hHeld => ?_)
 clear hK K
 (try simp only [Act.put, List.setIfInBounds_toArray, List.set_cons_zero, List.set_cons_succ])
 refine hT (i := 10) (v := ?_) rfl rfl hHeld ?_ ?_
 rotate_left
 ·rintro wh ⟨z0, z1, z2, z3⟩
  go_simp
  (try with_reducible rfl)
 simp only [Act.put, List.setIfInBounds_toArray, List.set_cons_zero, List.set_cons_succ]
 refine hT (i := 11) (v := ?_) rfl rfl hHeld ?_ ?_
 rotate_left
 ·rintro wh ⟨z0, z1, z2, z3⟩
  go_simp
  (try with_reducible rfl)
 simp only [Act.put, List.setIfInBounds_toArray, List.set_cons_zero, List.set_cons_succ]
 refine wpAnyH_done (by kernel_rfl) ?_ _
 go_wp2_with fail
 refine (kc _).mono ?_
 rintro e w1 ⟨rfl, rfl⟩
 go_wp2
 go_ret
 exact ⟨by rw [HM.out]; rfl, hba.drew⟩
end Go.Proofs.YtipnhpfpppblhaaGreat
/- digest.start, digest.keys: contracts. -/
namespace Go.Proofs.YtipnhpfpppblhaaGreat
open Go.RowKit
abbrev V32 (x : Int) : Value := .int .u32 x
def startL : List Int := [1779033703, 3144134277, 1013904242, 2773480762, 1359893119, 2600822924, 528734635, 1541459225]
def startV : Array Value := (startL.map V32).toArray
def keysV : Array Value := #[.int .u32 1116352408, .int .u32 1899447441, .int .u32 3049323471, .int .u32 3921009573, .int .u32 961987163, .int .u32 1508970993, .int .u32 2453635748, .int .u32 2870763221, .int .u32 3624381080, .int .u32 310598401, .int .u32 607225278, .int .u32 1426881987, .int .u32 1925078388, .int .u32 2162078206, .int .u32 2614888103, .int .u32 3248222580, .int .u32 3835390401, .int .u32 4022224774, .int .u32 264347078, .int .u32 604807628, .int .u32 770255983, .int .u32 1249150122, .int .u32 1555081692, .int .u32 1996064986, .int .u32 2554220882, .int .u32 2821834349, .int .u32 2952996808, .int .u32 3210313671, .int .u32 3336571891, .int .u32 3584528711, .int .u32 113926993, .int .u32 338241895, .int .u32 666307205, .int .u32 773529912, .int .u32 1294757372, .int .u32 1396182291, .int .u32 1695183700, .int .u32 1986661051, .int .u32 2177026350, .int .u32 2456956037, .int .u32 2730485921, .int .u32 2820302411, .int .u32 3259730800, .int .u32 3345764771, .int .u32 3516065817, .int .u32 3600352804, .int .u32 4094571909, .int .u32 275423344, .int .u32 430227734, .int .u32 506948616, .int .u32 659060556, .int .u32 883997877, .int .u32 958139571, .int .u32 1322822218, .int .u32 1537002063, .int .u32 1747873779, .int .u32 1955562222, .int .u32 2024104815, .int .u32 2227730452, .int .u32 2361852424, .int .u32 2428436474, .int .u32 2756734187, .int .u32 3204031479, .int .u32 3329325298]
def keyL (i : Nat) : Int := match keysV[i]? with | some (.int _ x) => x | _ => 0
theorem keysV_at (i : Nat) (h : i < 64) : keysV[i]? = some (V32 (keyL i)) := by
 have hk : ∀ i, i < 64 → (match keysV[i]? with | some (.int .u32 _) => true | _ => false) = true := by decide +kernel
 have := hk i h
 unfold keyL
 split at this
 ·next x hx => rw [hx]
 ·cases this
set_option maxHeartbeats 1600000 in
set_option maxRecDepth 100000 in
theorem start_any (w : World) : Calls Tryz.prog 122 #[] w fun e w' => e = .returned (.agg startV) ∧ Below w.heap.size w w' := by
 go_enter Tryz.func122, Tryz.ntmps122
 go_wp2
 refine bodyPost_ret (results_cell_row rfl _ _ w.heap.size 157 startV (0, 0) (.array 8 34) rfl (heap_alloc_new _ _) Tryz.underlying157 rfl (by kernel_rfl)) rfl ?_
 exact ⟨rfl, (Below.refl _ _).alloc (Nat.le_refl _) _⟩
set_option maxHeartbeats 1600000 in
set_option maxRecDepth 100000 in
theorem keys_any (w : World) : Calls Tryz.prog 135 #[] w fun e w' => e = .returned (.agg keysV) ∧ Below w.heap.size w w' := by
 go_enter Tryz.func135, Tryz.ntmps135
 go_upto_region 1 with fail
 have h1 : ∃ z : Array Value, z.size = 64 ∧ (w.alloc (.cells (Array.replicate 64 (V32 0)) 159)).heap[w.heap.size]? = some (.cells z 159 (0, 0)) := ⟨_, by simp, heap_alloc_new _ _⟩
 have hb := (Below.refl w.heap.size w).alloc (Nat.le_refl _) (.cells (Array.replicate 64 (V32 0)) 159)
 change Code.wp _ _ _ _ (w.alloc (.cells (Array.replicate 64 (V32 0)) 159))
 generalize w.alloc (.cells (Array.replicate 64 (V32 0)) 159) = w0 at *
 obtain ⟨z, hz, hg⟩ := h1
 apply wp_region_lit
 refine wpList_build rfl 159 _ rfl (by kernel_rfl) ?_
 refine wpList_store_row rfl 159 (.tmp 0) (.tmp 1) rfl w.heap.size keysV rfl (by kernel_rfl) 159 z hg (by kernel_rfl) hz (by kernel_rfl) ?_
 have hg2 := setRow_heap w0 w.heap.size z keysV _ _ hg
 have hb2 : Below w.heap.size w (w0.setRow w.heap.size keysV) := below_setRow hb (Nat.le_refl _) _
 generalize w0.setRow w.heap.size keysV = w1 at *
 generalize (Tryz.prog.built 159 _).getD #[] = X
 simp only [Act.put, List.setIfInBounds_toArray, List.set_cons_zero, List.set_cons_succ]
 show Exit.then _ _ Exit.normal _ _
 simp only [Exit.then]
 refine (by assumption : ∀ (a : Act) (w : World), Code.wp _ Code.ret _ a w → _) _ _ ?_
 go_wp2
 refine bodyPost_ret (results_cell_row rfl _ _ w.heap.size 159 keysV (0, 0) (.array 64 34) rfl hg2 Tryz.underlying159 rfl (by kernel_rfl)) rfl ?_
 exact ⟨rfl, hb2⟩
theorem run_index_keys (k : Nat) (h : k < 64) (w : World) : (Instr.index 159 (.agg keysV) (.int .i64 k)).run Tryz.prog w = .ok (V32 (keyL k)) w := by
 have hk := keysV_at k h
 have h1 : (0 : Int) ≤ (k : Int) ∧ (k : Int) < ((64 : Nat) : Int) := by omega
 simp [Instr.index, run_underlying Tryz.underlying159, asIntOf, go_sem, h1, part, Tryz.isAgg34, Tryz.sizeOf34, hk]
 intro h2; omega
end Go.Proofs.YtipnhpfpppblhaaGreat
/- digest.Sum.round: a contract. -/
namespace Go.Proofs.YtipnhpfpppblhaaGreat
open Go.RowKit
def WAt (w : World) (g : Nat) (S : List Int) : Prop := S.length ≤ 64 ∧ w.heap[g]? = some (.cells ((S.map V32 ++ List.replicate (64 - S.length) (V32 0)).toArray) 159 (0, 0))
theorem WAt.later {w w' : World} {g : Nat} {S : List Int} (h : WAt w g S) (hb : Below w.heap.size w w') : WAt w' g S :=
 ⟨h.1, by rw [hb.block g (Array.getElem?_eq_some_iff.1 h.2).1]; exact h.2⟩
theorem WAt.lt {w : World} {g : Nat} {S : List Int} (h : WAt w g S) : g < w.heap.size := (Array.getElem?_eq_some_iff.1 h.2).1
theorem cell_row {w : World} {p j : Nat} {cs : Array Value} {t : TypeId} {fr : Nat × Nat} (h : w.heap[p]? = some (.cells cs t fr)) : w.cell? ⟨p, j, none⟩ = cs[j]? := by
 simp [World.cell?, h]
theorem WAt.cell {w : World} {g : Nat} {S : List Int} (h : WAt w g S) (j : Nat) (hj : j < S.length) : w.cell? ⟨g, j, none⟩ = some (V32 S[j]) := by
 rw [cell_row h.2, List.getElem?_toArray, List.getElem?_append_left (by simpa using hj), List.getElem?_map, List.getElem?_eq_getElem hj]; rfl
theorem WAt.free {w : World} {g : Nat} {S : List Int} (h : WAt w g S) (j : Nat) : w.frozen? ⟨g, j, none⟩ = false := by simp [World.frozen?, h.2]
theorem WAt.old {w : World} {g : Nat} {S : List Int} (h : WAt w g S) (hj : S.length < 64) : w.cell? ⟨g, S.length, none⟩ = some (V32 0) := by
 rw [cell_row h.2, List.getElem?_toArray, List.getElem?_append_right (by simp)]
 rw [List.length_map, Nat.sub_self, List.getElem?_replicate, if_pos (by omega)]
theorem WAt.store {w : World} {g : Nat} {S : List Int} (h : WAt w g S) (hj : S.length < 64) (x : Int) : WAt (w.setCell ⟨g, S.length, none⟩ (V32 x)) g (S ++ [x]) := by
 refine ⟨by simp; omega, ?_⟩
 rw [heap_setCell_same w g S.length _ _ _ h.2]
 have e : 64 - S.length = (64 - (S ++ [x]).length) + 1 := by simp; omega
 rw [e, List.replicate_succ]
 congr 2
 simp [List.setIfInBounds_toArray]
theorem below_setCell {B : Nat} (w : World) (g j : Nat) (v : Value) (hB : B ≤ g) : Below B w (w.setCell ⟨g, j, none⟩ v) :=
 ⟨rfl, rfl, rfl, by simp [World.setCell], fun k hk => by have := Below.heap_setCell w ⟨g, j, none⟩ v k (by show k ≠ g; omega); exact this⟩
def word4 (a b c d : Int) : Int := bits BinOp.or .u32 (bits BinOp.or .u32 (bits BinOp.or .u32 (a * 16777216 % 4294967296) (b * 65536 % 4294967296)) (c * 256 % 4294967296)) d
def wordAt (bs : List Int) (k : Nat) : Int := word4 (bs.getD (4 * k) 0) (bs.getD (4 * k + 1) 0) (bs.getD (4 * k + 2) 0) (bs.getD (4 * k + 3) 0)
def wordsL (bs : List Int) (k : Nat) : List Int := (List.range k).map (wordAt bs)
theorem wordsL_succ (bs : List Int) (k : Nat) : wordsL bs (k + 1) = wordsL bs k ++ [wordAt bs k] := by simp [wordsL, List.range_succ]
theorem wordsL_len (bs : List Int) (k : Nat) : (wordsL bs k).length = k := by simp [wordsL]
def Bytes8 (w : World) (a : Addr) (bs : List Int) : Prop := ∃ b o, a = ⟨b, o, none⟩ ∧ b < w.heap.size ∧ ∀ j (h : j < bs.length), w.cell? ⟨b, o + j, none⟩ = some (.int .u8 bs[j]) ∧ 0 ≤ bs[j] ∧ bs[j] < 256
def nextW (S : List Int) : Int :=
 (((S.getD (S.length - 16) 0 + mixW 7 18 0 3 (S.getD (S.length - 15) 0)) % 4294967296 + S.getD (S.length - 7) 0) % 4294967296 + mixW 17 19 0 10 (S.getD (S.length - 2) 0)) % 4294967296
def schedL (bs : List Int) : Nat → List Int
 | 0 => wordsL bs 16
 | k + 1 => schedL bs k ++ [nextW (schedL bs k)]
theorem schedL_len (bs : List Int) (k : Nat) : (schedL bs k).length = 16 + k := by
 induction k with
 | zero => exact wordsL_len bs 16
 | succ k ih => rw [schedL, List.length_append, ih]; simp; omega
def C4 (p : Nat) (a b c d : Value) (W : World) : Prop := W.cell? ⟨p, 0, none⟩ = some a ∧ W.cell? ⟨p, 1, none⟩ = some b ∧ W.cell? ⟨p, 2, none⟩ = some c ∧ W.cell? ⟨p, 3, none⟩ = some d
theorem C4.later {p : Nat} {a b c d : Value} {W W' : World} (h : C4 p a b c d W) (hb : Below W.heap.size W W') (hp : p < W.heap.size) : C4 p a b c d W' :=
 ⟨keep_cell h.1 hb hp, keep_cell h.2.1 hb hp, keep_cell h.2.2.1 hb hp, keep_cell h.2.2.2 hb hp⟩
theorem C4.beside {p g j : Nat} {a b c d v : Value} {W : World} (h : C4 p a b c d W) (hne : p ≠ g) : C4 p a b c d (W.setCell ⟨g, j, none⟩ v) := by
 obtain ⟨h0, h1, h2, h3⟩ := h
 refine ⟨?_, ?_, ?_, ?_⟩ <;> (rw [World.cell?_setCell_far _ _ _ _ (by show g ≠ p; omega)]; assumption)
def SumAt (w : World) (p : Nat) (V : List Int) (rv : Value) (cnt : Int) : Prop := V.length = 8 ∧ w.heap[p]? = some (.cells (V.map V32 ++ [rv, .int .i64 cnt]).toArray 172 (0, 0))
theorem SumAt.later {w w' : World} {p : Nat} {V : List Int} {rv : Value} {cnt : Int} (h : SumAt w p V rv cnt) (hb : Below w.heap.size w w') : SumAt w' p V rv cnt :=
 ⟨h.1, by rw [hb.block p (Array.getElem?_eq_some_iff.1 h.2).1]; exact h.2⟩
theorem SumAt.lt {w : World} {p : Nat} {V : List Int} {rv : Value} {cnt : Int} (h : SumAt w p V rv cnt) : p < w.heap.size := (Array.getElem?_eq_some_iff.1 h.2).1
theorem SumAt.word {w : World} {p : Nat} {V : List Int} {rv : Value} {cnt : Int} (h : SumAt w p V rv cnt) (j : Nat) (hj : j < 8) : w.cell? ⟨p, j, none⟩ = some (V32 (V.getD j 0)) := by
 have hl := h.1
 rw [cell_row h.2, List.getElem?_toArray, List.getElem?_append_left (by simp; omega), List.getElem?_map, List.getD_eq_getElem?_getD, List.getElem?_eq_getElem (by omega)]; rfl
theorem SumAt.rest {w : World} {p : Nat} {V : List Int} {rv : Value} {cnt : Int} (h : SumAt w p V rv cnt) : w.cell? ⟨p, 8, none⟩ = some rv := by
 have hl := h.1
 rw [cell_row h.2, List.getElem?_toArray, List.getElem?_append_right (by simp; omega)]; simp [hl]
theorem SumAt.count {w : World} {p : Nat} {V : List Int} {rv : Value} {cnt : Int} (h : SumAt w p V rv cnt) : w.cell? ⟨p, 9, none⟩ = some (.int .i64 cnt) := by
 have hl := h.1
 rw [cell_row h.2, List.getElem?_toArray, List.getElem?_append_right (by simp; omega)]; simp [hl]
theorem SumAt.free {w : World} {p : Nat} {V : List Int} {rv : Value} {cnt : Int} (h : SumAt w p V rv cnt) (j : Nat) : w.frozen? ⟨p, j, none⟩ = false := by simp [World.frozen?, h.2]
theorem SumAt.put {w : World} {p : Nat} {V : List Int} {rv : Value} {cnt : Int} (h : SumAt w p V rv cnt) (j : Nat) (hj : j < 8) (x : Int) : SumAt (w.setCell ⟨p, j, none⟩ (V32 x)) p (V.set j x) rv cnt := by
 have hl := h.1
 refine ⟨by simp [hl], ?_⟩
 rw [heap_setCell_same w p j _ _ _ h.2]
 congr 2
 rw [List.setIfInBounds_toArray, List.set_append_left _ _ (by simp; omega), List.map_set]
def tL (m : Int) (v4 v5 v6 v7 k x : Int) : Int := IntKind.u32.wrap (IntKind.u32.wrap (IntKind.u32.wrap (IntKind.u32.wrap (v7 + m) + bits BinOp.xor .u32 (bits BinOp.and .u32 v4 v5) (bits BinOp.and .u32 (bits BinOp.xor .u32 (if IntKind.u32.signed = true then -1 else IntKind.u32.max) v4) v6)) + k) + x)
def uL (m : Int) (v0 v1 v2 : Int) : Int := IntKind.u32.wrap (m + bits BinOp.xor .u32 (bits BinOp.xor .u32 (bits BinOp.and .u32 v0 v1) (bits BinOp.and .u32 v0 v2)) (bits BinOp.and .u32 v1 v2))
def roundL : List Int → Int → Int → List Int
 | [v0, v1, v2, v3, v4, v5, v6, v7], k, x =>
  [(tL (mixW 6 11 25 0 v4) v4 v5 v6 v7 k x + uL (mixW 2 13 22 0 v0) v0 v1 v2) % 4294967296, v0, v1, v2, (v3 + tL (mixW 6 11 25 0 v4) v4 v5 v6 v7 k x) % 4294967296, v4, v5, v6]
 | v, _, _ => v
def roundsL (W V : List Int) : Nat → List Int
 | 0 => V
 | k + 1 => roundL (roundsL W V k) (keyL k) (W.getD k 0)
def VAt (w : World) (g : Nat) (v : List Int) : Prop := v.length = 8 ∧ w.heap[g]? = some (.cells (v.map V32).toArray 157 (0, 0))
theorem VAt.later {w w' : World} {g : Nat} {v : List Int} (h : VAt w g v) (hb : Below w.heap.size w w') : VAt w' g v :=
 ⟨h.1, by rw [hb.block g (Array.getElem?_eq_some_iff.1 h.2).1]; exact h.2⟩
theorem VAt.cell {w : World} {g : Nat} {v : List Int} (h : VAt w g v) (j : Nat) (x : Int) (hj : v[j]? = some x) : w.cell? ⟨g, j, none⟩ = some (V32 x) := by
 rw [cell_row h.2, List.getElem?_toArray, List.getElem?_map, hj]; rfl
theorem VAt.free {w : World} {g : Nat} {v : List Int} (h : VAt w g v) (j : Nat) : w.frozen? ⟨g, j, none⟩ = false := by simp [World.frozen?, h.2]
theorem VAt.put {w : World} {g : Nat} {v : List Int} (h : VAt w g v) (j : Nat) (x : Int) : VAt (w.setCell ⟨g, j, none⟩ (V32 x)) g (v.set j x) := by
 refine ⟨by simp [h.1], ?_⟩
 rw [heap_setCell_same w g j _ _ _ h.2, List.setIfInBounds_toArray, List.map_set]
theorem VAt.src {w : World} {g : Nat} {x0 x1 x2 x3 x4 x5 x6 x7 : Int} (h : VAt w g [x0, x1, x2, x3, x4, x5, x6, x7]) : ∀ j v, [V32 x0, V32 x1, V32 x2, V32 x3, V32 x4, V32 x5, V32 x6][j]? = some v → w.cell? ((⟨g, 0, none⟩ : Addr).add j) = some v := by
 intro j v hj
 rw [Addr.add_mid, Nat.zero_add]
 match j, hj with
 | 0, hj => exact (h.cell 0 _ rfl).trans hj
 | 1, hj => exact (h.cell 1 _ rfl).trans hj
 | 2, hj => exact (h.cell 2 _ rfl).trans hj
 | 3, hj => exact (h.cell 3 _ rfl).trans hj
 | 4, hj => exact (h.cell 4 _ rfl).trans hj
 | 5, hj => exact (h.cell 5 _ rfl).trans hj
 | 6, hj => exact (h.cell 6 _ rfl).trans hj
 | j + 7, hj => simp at hj
theorem heap_else (w : World) (g j k : Nat) (v : Value) (h : k ≠ g) : (w.setCell ⟨g, j, none⟩ v).heap[k]? = w.heap[k]? := Below.heap_setCell w ⟨g, j, none⟩ v k h
theorem WAt.of_heap {w w' : World} {g : Nat} {S : List Int} (h : WAt w g S) (he : w'.heap[g]? = w.heap[g]?) : WAt w' g S := ⟨h.1, he.trans h.2⟩
theorem VAt.of_heap {w w' : World} {g : Nat} {S : List Int} (h : VAt w g S) (he : w'.heap[g]? = w.heap[g]?) : VAt w' g S := ⟨h.1, he.trans h.2⟩
theorem SumAt.of_heap {w w' : World} {p : Nat} {V : List Int} {rv : Value} {cnt : Int} (h : SumAt w p V rv cnt) (he : w'.heap[p]? = w.heap[p]?) : SumAt w' p V rv cnt := ⟨h.1, he.trans h.2⟩
theorem C4.of_heap {p : Nat} {a b c d : Value} {W W' : World} (h : C4 p a b c d W) (he : W'.heap[p]? = W.heap[p]?) : C4 p a b c d W' := by
 have hk : ∀ j, W'.cell? ⟨p, j, none⟩ = W.cell? ⟨p, j, none⟩ := fun j => World.cell?_of_block (a := ⟨p, j, none⟩) he
 exact ⟨(hk 0).trans h.1, (hk 1).trans h.2.1, (hk 2).trans h.2.2.1, (hk 3).trans h.2.2.2⟩
theorem grown_two {w w1 w2 : World} {r : Option Nat} (h1 : w.grownBy w1 r) (h2 : w1.grownBy w2 r) : w.grownBy w2 r :=
 ⟨h2.os.trans h1.os, h2.tape.trans h1.tape, h2.output.trans h1.output, Nat.le_trans h1.size h2.size, fun k hk hr => (h2.block k (Nat.lt_of_lt_of_le hk h1.size) hr).trans (h1.block k hk hr)⟩
theorem grown_setCell (w : World) (p i : Nat) (v : Value) : w.grownBy (w.setCell ⟨p, i, none⟩ v) (some p) := ⟨rfl, rfl, rfl, by simp, fun k _ hne => Below.heap_setCell w ⟨p, i, none⟩ v k (fun e => hne (by rw [e]))⟩
theorem three_boxes {w W : World} {xs ys zs : Array Value} {t u v : TypeId} (hb : Below (((w.alloc (.cells xs t)).alloc (.cells ys u)).alloc (.cells zs v)).heap.size (((w.alloc (.cells xs t)).alloc (.cells ys u)).alloc (.cells zs v)) W) :
  Below w.heap.size w W ∧ W.heap[w.heap.size + 1 + 1]? = some (.cells zs v (0, 0)) ∧ (xs.size = 4 → C4 w.heap.size (xs.getD 0 undef) (xs.getD 1 undef) (xs.getD 2 undef) (xs.getD 3 undef) W) ∧ (ys.size = 4 → C4 (w.heap.size + 1) (ys.getD 0 undef) (ys.getD 1 undef) (ys.getD 2 undef) (ys.getD 3 undef) W) ∧ w.heap.size + 1 + 1 < W.heap.size := by
 have hs : (((w.alloc (.cells xs t)).alloc (.cells ys u)).alloc (.cells zs v)).heap.size = w.heap.size + 1 + 1 + 1 := by rw [World.size_alloc, World.size_alloc, World.size_alloc]
 obtain ⟨h1, h2, h3⟩ := box_cells hb
 obtain ⟨h4, h5, h6, h7⟩ := box_two h3
 refine ⟨h7, ?_, fun hx => ⟨h4 0 _ (by simp [hx]), h4 1 _ (by simp [hx]), h4 2 _ (by simp [hx]), h4 3 _ (by simp [hx])⟩, fun hx => ⟨h5 0 _ (by simp [hx]), h5 1 _ (by simp [hx]), h5 2 _ (by simp [hx]), h5 3 _ (by simp [hx])⟩, by rw [World.size_alloc, World.size_alloc] at h2; exact h2⟩
 rw [hb.block (w.heap.size + 1 + 1) (by omega)]
 have := heap_alloc_new ((w.alloc (.cells xs t)).alloc (.cells ys u)) (.cells zs v)
 rwa [World.size_alloc, World.size_alloc] at this
def addL (V U : List Int) : List Int := (List.range 8).map fun i => (V.getD i 0 + U.getD i 0) % 4294967296
def partL (V U : List Int) (k : Nat) : List Int := (List.range 8).map fun i => if i < k then (V.getD i 0 + U.getD i 0) % 4294967296 else V.getD i 0
theorem partL_zero {V U : List Int} (h : V.length = 8) : partL V U 0 = V := by
 match V, h with
 | [a, b, c, d, e, f, g, h], _ => rfl
theorem partL_all (V U : List Int) : partL V U 8 = addL V U := by
 unfold partL addL
 exact List.map_congr_left (fun i hi => by rw [if_pos (List.mem_range.1 hi)])
theorem partL_at (V U : List Int) (k : Nat) (hk : k < 8) : (partL V U k).getD k 0 = V.getD k 0 := by
 unfold partL
 rw [List.getD_eq_getElem?_getD, List.getElem?_map, List.getElem?_range hk]; simp
theorem partL_succ (V U : List Int) (k : Nat) (hk : k < 8) : (partL V U k).set k ((V.getD k 0 + U.getD k 0) % 4294967296) = partL V U (k + 1) := by
 unfold partL
 apply List.ext_getElem?
 intro j
 rw [List.getElem?_set, List.length_map, List.length_range, List.getElem?_map, List.getElem?_map]
 by_cases hj : k = j
 ·subst hj
  rw [if_pos rfl, if_pos hk, List.getElem?_range hk]; simp
 ·rw [if_neg hj]
  by_cases h8 : j < 8
  ·rw [List.getElem?_range h8]
   have e : (j < k) = (j < k + 1) := by rw [eq_iff_iff]; omega
   simp only [Option.map_some, e]
  ·rw [List.getElem?_eq_none (by simp; omega)]; simp
def blockL (bs V : List Int) : List Int := addL V (roundsL (schedL bs 48) V 64)
set_option maxHeartbeats 40000000 in
set_option maxRecDepth 100000 in
theorem round_any (bs : List Int) (V : List Int) (p : Nat) (a : Addr) (c : Nat) (w : World) (hb : bs.length = 64) (hB : Bytes8 w a bs) (rv : Value) (cnt : Int) (hS : SumAt w p V rv cnt) :
  Calls Tryz.prog 123 #[.pointer (some ⟨p, 0, none⟩), .slice (some a) 64 c] w fun e w' => e = .returned (.tuple #[]) ∧ SumAt w' p (blockL bs V) rv cnt ∧ w.grownBy w' (some p) := by
 obtain ⟨b, o, rfl, hlt, hcell⟩ := hB
 have HC := Lib.hid hcell
 have HS := Lib.hid hS
 have hpl := hS.lt
 clear hcell hS
 go_enter Tryz.func123, Tryz.ntmps123
 go_wp2
 go_loopw [17] (fun i wr => ∃ k : Nat, k ≤ 16 ∧ i = .int .i64 k ∧ Hid (WAt wr w.heap.size (wordsL bs k)) ∧ Below w.heap.size w wr) (fun i _ => 16 - (intOf i).toNat)
 case atStart => exact ⟨0, Nat.zero_le _, rfl, Lib.hid ⟨by simp [wordsL], heap_alloc_new _ _⟩, (Below.refl _ _).alloc (Nat.le_refl _) _⟩
 case round =>
  obtain ⟨k, hk, rfl, HW, hbr⟩ := hrel
  by_cases hkl : k < 16
  ·have hB4 : ∀ i, i < 4 → ∃ x : Int, bs.getD (4 * k + i) 0 = x ∧ wr.cell? ⟨b, o + (4 * k + i), none⟩ = some (.int .u8 x) ∧ 0 ≤ x ∧ x < 256 := fun i hi => by
    obtain ⟨h1, h2, h3⟩ := HC.out (4 * k + i) (by omega)
    refine ⟨_, ?_, keep_cell h1 hbr hlt, h2, h3⟩
    rw [List.getD_eq_getElem?_getD, List.getElem?_eq_getElem (by omega)]; rfl
   obtain ⟨x0, e0, c0, l0, u0⟩ := hB4 0 (by decide)
   obtain ⟨x1, e1, c1, l1, u1⟩ := hB4 1 (by decide)
   obtain ⟨x2, e2, c2, l2, u2⟩ := hB4 2 (by decide)
   obtain ⟨x3, e3, c3, l3, u3⟩ := hB4 3 (by decide)
   rw [Nat.add_zero] at e0 c0
   have HN : Hid (wordsL bs (k + 1) = wordsL bs k ++ [word4 x0 x1 x2 x3]) := by
    show _ = _; rw [wordsL_succ]; unfold wordAt; rw [e0, e1, e2, e3]
   have hwl := wordsL_len bs k
   obtain ⟨q, hq⟩ : ∃ q, 4 * k = q := ⟨_, rfl⟩
   obtain ⟨q1, hq1⟩ : ∃ q, 4 * k + 1 = q := ⟨_, rfl⟩
   obtain ⟨q2, hq2⟩ : ∃ q, 4 * k + 2 = q := ⟨_, rfl⟩
   obtain ⟨q3, hq3⟩ : ∃ q, 4 * k + 3 = q := ⟨_, rfl⟩
   rw [hq] at c0
   rw [hq1] at c1
   rw [hq2] at c2
   rw [hq3] at c3
   have hw0 : IntKind.i64.wrap (4 * (k : Int)) = (q : Int) := by rw [IntKind.wrap_i64]; omega
   have hw1 : IntKind.i64.wrap ((q : Int) + 1) = (q1 : Int) := by rw [IntKind.wrap_i64]; omega
   have hw2 : IntKind.i64.wrap ((q : Int) + 2) = (q2 : Int) := by rw [IntKind.wrap_i64]; omega
   have hw3 : IntKind.i64.wrap ((q : Int) + 3) = (q3 : Int) := by rw [IntKind.wrap_i64]; omega
   have hI0 : (q : Int) < 64 := by omega
   have hI1 : (q1 : Int) < 64 := by omega
   have hI2 : (q2 : Int) < 64 := by omega
   have hI3 : (q3 : Int) < 64 := by omega
   have hI4 : (k : Int) < 64 := by omega
   have v0 : IntKind.u32.wrap x0 = x0 := by rw [IntKind.wrap_u32']; omega
   have v1 : IntKind.u32.wrap x1 = x1 := by rw [IntKind.wrap_u32']; omega
   have v2 : IntKind.u32.wrap x2 = x2 := by rw [IntKind.wrap_u32']; omega
   have v3 : IntKind.u32.wrap x3 = x3 := by rw [IntKind.wrap_u32']; omega
   have y0 : IntKind.u32.wrap (x0 * 16777216) = x0 * 16777216 % 4294967296 := by rw [IntKind.wrap_u32']
   have y1 : IntKind.u32.wrap (x1 * 65536) = x1 * 65536 % 4294967296 := by rw [IntKind.wrap_u32']
   have y2 : IntKind.u32.wrap (x2 * 256) = x2 * 256 % 4294967296 := by rw [IntKind.wrap_u32']
   clear hB4 e0 e1 e2 e3 hq hq1 hq2 hq3
   go_wp2
   go_still_tail 35, (by kernel_rfl)
   have HW2 : Hid (WAt wr.drew w.heap.size (wordsL bs k)) := HW.out
   have hbr2 : Below w.heap.size w wr.drew := hbr.drew
   change wpList _ _ _ _ _ wr.drew
   clear HW hbr c0 c1 c2 c3
   generalize wr.drew = w2 at *
   have hold := HW2.out.old (by omega)
   have hfree := HW2.out.free k
   rw [hwl] at hold
   have HST := Lib.hid (HW2.out.store (by omega) (word4 x0 x1 x2 x3))
   rw [hwl] at HST
   have hbs := hbr2.trans (below_setCell (B := w.heap.size) w2 w.heap.size k (V32 (word4 x0 x1 x2 x3)) (Nat.le_refl _))
   unfold word4 at HST hbs
   go_wp2
   go_roundw
   case rel => exact ⟨k + 1, by omega, by go_num, by rw [HN.out]; exact HST, hbs⟩
   case measure => (simp [intOf]; try omega)
  ·obtain rfl : k = 16 := by omega
   rw [show ((16 : Nat) : Int) = 16 from rfl]
   go_wp2
   have hba : Below wr.heap.size wr ((wr.alloc (.cells #[.int .i64 7, .int .i64 18, .int .i64 0, .int .i64 3] 189)).alloc (.cells #[.int .i64 17, .int .i64 19, .int .i64 0, .int .i64 10] 189)) := ((Below.refl _ _).alloc (Nat.le_refl _) _).alloc (by simp) _
   have hbox := box_two (Below.refl ((wr.alloc (.cells #[.int .i64 7, .int .i64 18, .int .i64 0, .int .i64 3] 189)).alloc (.cells #[.int .i64 17, .int .i64 19, .int .i64 0, .int .i64 10] 189)).heap.size ((wr.alloc (.cells #[.int .i64 7, .int .i64 18, .int .i64 0, .int .i64 3] 189)).alloc (.cells #[.int .i64 17, .int .i64 19, .int .i64 0, .int .i64 10] 189)))
   have hm1 : C4 wr.heap.size (.int .i64 7) (.int .i64 18) (.int .i64 0) (.int .i64 3) ((wr.alloc (.cells #[.int .i64 7, .int .i64 18, .int .i64 0, .int .i64 3] 189)).alloc (.cells #[.int .i64 17, .int .i64 19, .int .i64 0, .int .i64 10] 189)) := ⟨hbox.1 0 _ rfl, hbox.1 1 _ rfl, hbox.1 2 _ rfl, hbox.1 3 _ rfl⟩
   have hm2 : C4 (wr.heap.size + 1) (.int .i64 17) (.int .i64 19) (.int .i64 0) (.int .i64 10) ((wr.alloc (.cells #[.int .i64 7, .int .i64 18, .int .i64 0, .int .i64 3] 189)).alloc (.cells #[.int .i64 17, .int .i64 19, .int .i64 0, .int .i64 10] 189)) := ⟨hbox.2.1 0 _ rfl, hbox.2.1 1 _ rfl, hbox.2.1 2 _ rfl, hbox.2.1 3 _ rfl⟩
   have hglt := hbox.2.2.1
   have HWa : Hid (WAt ((wr.alloc (.cells #[.int .i64 7, .int .i64 18, .int .i64 0, .int .i64 3] 189)).alloc (.cells #[.int .i64 17, .int .i64 19, .int .i64 0, .int .i64 10] 189)) w.heap.size (schedL bs 0)) := HW.out.later hba
   have hbra := hbr.trans (hba.mono hbr.size)
   have hgG : w.heap.size < wr.heap.size := HW.out.lt
   have HM1 := Lib.hid hm1
   have HM2 := Lib.hid hm2
   obtain ⟨G1, hG1⟩ : ∃ g, g = wr.heap.size := ⟨_, rfl⟩
   clear hba hbox hm1 hm2 HW hbr
   rw [← hG1] at HM1 HM2 hglt hgG ⊢
   generalize (wr.alloc (.cells #[.int .i64 7, .int .i64 18, .int .i64 0, .int .i64 3] 189)).alloc (.cells #[.int .i64 17, .int .i64 19, .int .i64 0, .int .i64 10] 189) = wa at *
   clear hG1
   go_loopw [8] (fun i wr => ∃ k : Nat, k ≤ 48 ∧ i = .int .i64 ((16 + k : Nat) : Int) ∧ Hid (WAt wr w.heap.size (schedL bs k)) ∧ Hid (C4 G1 (.int .i64 7) (.int .i64 18) (.int .i64 0) (.int .i64 3) wr) ∧ Hid (C4 (G1 + 1) (.int .i64 17) (.int .i64 19) (.int .i64 0) (.int .i64 10) wr) ∧ G1 + 1 < wr.heap.size ∧ Below w.heap.size w wr) (fun i _ => 64 - (intOf i).toNat)
   case atStart => exact ⟨0, Nat.zero_le _, rfl, HWa, HM1, HM2, hglt, hbra⟩
   case round =>
    obtain ⟨k, hk, rfl, HW, HM1, HM2, hglt, hbr⟩ := hrel
    by_cases hkl : k < 48
    ·obtain ⟨L, hL⟩ : ∃ L, schedL bs k = L := ⟨_, rfl⟩
     have hLl : L.length = 16 + k := by rw [← hL]; exact schedL_len bs k
     have HN : Hid (schedL bs (k + 1) = L ++ [nextW L]) := by show _ = _; rw [schedL, hL]
     rw [hL] at HW
     have hx : ∀ d, 0 < d → d ≤ 16 → ∃ q x, q + d = 16 + k ∧ L.getD (16 + k - d) 0 = x ∧ q < L.length ∧ ∀ W L', (∀ j, j < L.length → L'[j]? = L[j]?) → WAt W w.heap.size L' → W.cell? ⟨w.heap.size, q, none⟩ = some (V32 x) := fun d h1 h2 => by
      refine ⟨16 + k - d, _, by omega, rfl, by omega, fun W L' hag hW => ?_⟩
      have h3 := hag (16 + k - d) (by omega)
      rw [List.getElem?_eq_getElem (by omega : 16 + k - d < L.length)] at h3
      have h4 := (List.getElem?_eq_some_iff.1 h3).1
      rw [hW.cell (16 + k - d) h4, List.getD_eq_getElem?_getD, List.getElem?_eq_getElem (by omega)]
      rw [List.getElem?_eq_getElem h4] at h3
      rw [Option.some.inj h3]; rfl
     obtain ⟨q16, x16, i16, e16, l16, c16⟩ := hx 16 (by decide) (by decide)
     obtain ⟨q15, x15, i15, e15, l15, c15⟩ := hx 15 (by decide) (by decide)
     obtain ⟨q7, x7, i7, e7, l7, c7⟩ := hx 7 (by decide) (by decide)
     obtain ⟨q2, x2, i2, e2, l2, c2⟩ := hx 2 (by decide) (by decide)
     have HX : Hid (nextW L = (((x16 + mixW 7 18 0 3 x15) % 4294967296 + x7) % 4294967296 + mixW 17 19 0 10 x2) % 4294967296) := by
      show _ = _; unfold nextW; rw [hLl, e16, e15, e7, e2]
     have kA := fun W => of_sh 7 18 0 3 x15 W (by decide) (by decide) (by decide)
     have kB := fun W => of_sh 17 19 0 10 x2 W (by decide) (by decide) (by decide)
     obtain ⟨n, hn⟩ : ∃ n, 16 + k = n := ⟨_, rfl⟩
     rw [hn] at hLl i16 i15 i7 i2 ⊢
     have hw16 : IntKind.i64.wrap ((n : Int) - 16) = (q16 : Int) := by rw [IntKind.wrap_i64]; omega
     have hI16 : (q16 : Int) < 64 := by omega
     have hw15 : IntKind.i64.wrap ((n : Int) - 15) = (q15 : Int) := by rw [IntKind.wrap_i64]; omega
     have hI15 : (q15 : Int) < 64 := by omega
     have hw7 : IntKind.i64.wrap ((n : Int) - 7) = (q7 : Int) := by rw [IntKind.wrap_i64]; omega
     have hI7 : (q7 : Int) < 64 := by omega
     have hw2 : IntKind.i64.wrap ((n : Int) - 2) = (q2 : Int) := by rw [IntKind.wrap_i64]; omega
     have hI2 : (q2 : Int) < 64 := by omega
     have hIn : (n : Int) < 64 := by omega
     obtain ⟨mA, hmA⟩ : ∃ z, mixW 7 18 0 3 x15 = z := ⟨_, rfl⟩
     obtain ⟨mB, hmB⟩ : ∃ z, mixW 17 19 0 10 x2 = z := ⟨_, rfl⟩
     rw [hmA] at kA HX
     rw [hmB] at kB HX
     obtain ⟨s1, hs1⟩ : ∃ z, (x16 + mA) % 4294967296 = z := ⟨_, rfl⟩
     obtain ⟨s2, hs2⟩ : ∃ z, (s1 + x7) % 4294967296 = z := ⟨_, rfl⟩
     obtain ⟨s3, hs3⟩ : ∃ z, (s2 + mB) % 4294967296 = z := ⟨_, rfl⟩
     rw [hs1, hs2, hs3] at HX
     have y1 : IntKind.u32.wrap (x16 + mA) = s1 := by rw [IntKind.wrap_u32']; exact hs1
     have y2 : IntKind.u32.wrap (s1 + x7) = s2 := by rw [IntKind.wrap_u32']; exact hs2
     have y3 : IntKind.u32.wrap (s2 + mB) = s3 := by rw [IntKind.wrap_u32']; exact hs3
     have hcs : ∀ W L', (∀ j, j < L.length → L'[j]? = L[j]?) → WAt W w.heap.size L' → C4 G1 (.int .i64 7) (.int .i64 18) (.int .i64 0) (.int .i64 3) W → C4 (G1 + 1) (.int .i64 17) (.int .i64 19) (.int .i64 0) (.int .i64 10) W →
       W.cell? ⟨w.heap.size, q16, none⟩ = some (V32 x16) ∧ W.cell? ⟨w.heap.size, q15, none⟩ = some (V32 x15) ∧ W.cell? ⟨w.heap.size, q7, none⟩ = some (V32 x7) ∧ W.cell? ⟨w.heap.size, q2, none⟩ = some (V32 x2) ∧ C4 G1 (.int .i64 7) (.int .i64 18) (.int .i64 0) (.int .i64 3) W ∧ C4 (G1 + 1) (.int .i64 17) (.int .i64 19) (.int .i64 0) (.int .i64 10) W := fun W L' h0 h1 h2 h3 => ⟨c16 W L' h0 h1, c15 W L' h0 h1, c7 W L' h0 h1, c2 W L' h0 h1, h2, h3⟩
     have HCS := Lib.hid hcs
     have HWd : Hid (WAt wr.drew w.heap.size L) := HW.out
     have HMd1 : Hid (C4 G1 (.int .i64 7) (.int .i64 18) (.int .i64 0) (.int .i64 3) wr.drew) := HM1.out
     have HMd2 : Hid (C4 (G1 + 1) (.int .i64 17) (.int .i64 19) (.int .i64 0) (.int .i64 10) wr.drew) := HM2.out
     clear hx hL e16 e15 e7 e2 c16 c15 c7 c2 hcs hmA hmB hs1 hs2 hs3
     go_wp2
     refine wp_region_held_drew (S := (fun w' => w'.cell? ⟨w.heap.size, q16, none⟩ = some (V32 x16) ∧ w'.cell? ⟨w.heap.size, q15, none⟩ = some (V32 x15) ∧ w'.cell? ⟨w.heap.size, q7, none⟩ = some (V32 x7) ∧ w'.cell? ⟨w.heap.size, q2, none⟩ = some (V32 x2) ∧ C4 G1 (.int .i64 7) (.int .i64 18) (.int .i64 0) (.int .i64 3) w' ∧ C4 (G1 + 1) (.int .i64 17) (.int .i64 19) (.int .i64 0) (.int .i64 10) w')) (by kernel_rfl) (HCS.out _ L (fun _ _ => rfl) HWd.out HMd1.out HMd2.out) (fun hHeld => ?_)
     refine hT (i := 0) (v := ?_) rfl rfl hHeld ?_ ?_
     rotate_left
     ·rintro wh ⟨z16, z15, z7, z2, ⟨s0, s1, s2, s3⟩, ⟨r0, r1, r2, r3⟩⟩
      go_simp
      (try with_reducible rfl)
     simp only [Act.put, List.setIfInBounds_toArray, List.set_cons_zero, List.set_cons_succ]
     refine hT (i := 1) (v := ?_) rfl rfl hHeld ?_ ?_
     rotate_left
     ·rintro wh ⟨z16, z15, z7, z2, ⟨s0, s1, s2, s3⟩, ⟨r0, r1, r2, r3⟩⟩
      go_simp
      (try with_reducible rfl)
     simp only [Act.put, List.setIfInBounds_toArray, List.set_cons_zero, List.set_cons_succ]
     refine hT (i := 2) (v := ?_) rfl rfl hHeld ?_ ?_
     rotate_left
     ·rintro wh ⟨z16, z15, z7, z2, ⟨s0, s1, s2, s3⟩, ⟨r0, r1, r2, r3⟩⟩
      go_simp
      (try with_reducible rfl)
     simp only [Act.put, List.setIfInBounds_toArray, List.set_cons_zero, List.set_cons_succ]
     refine hT (i := 3) (v := ?_) rfl rfl hHeld ?_ ?_
     rotate_left
     ·rintro wh ⟨z16, z15, z7, z2, ⟨s0, s1, s2, s3⟩, ⟨r0, r1, r2, r3⟩⟩
      go_simp
      (try with_reducible rfl)
     simp only [Act.put, List.setIfInBounds_toArray, List.set_cons_zero, List.set_cons_succ]
     refine hT (i := 4) (v := ?_) rfl rfl hHeld ?_ ?_
     rotate_left
     ·rintro wh ⟨z16, z15, z7, z2, ⟨s0, s1, s2, s3⟩, ⟨r0, r1, r2, r3⟩⟩
      go_simp
      (try with_reducible rfl)
     simp only [Act.put, List.setIfInBounds_toArray, List.set_cons_zero, List.set_cons_succ]
     refine hT (i := 5) (v := ?_) rfl rfl hHeld ?_ ?_
     rotate_left
     ·rintro wh ⟨z16, z15, z7, z2, ⟨s0, s1, s2, s3⟩, ⟨r0, r1, r2, r3⟩⟩
      go_simp
      (try with_reducible rfl)
     simp only [Act.put, List.setIfInBounds_toArray, List.set_cons_zero, List.set_cons_succ]
     refine hT (i := 6) (v := ?_) rfl rfl hHeld ?_ ?_
     rotate_left
     ·rintro wh ⟨z16, z15, z7, z2, ⟨s0, s1, s2, s3⟩, ⟨r0, r1, r2, r3⟩⟩
      go_simp
      (try with_reducible rfl)
     simp only [Act.put, List.setIfInBounds_toArray, List.set_cons_zero, List.set_cons_succ]
     refine hT (i := 7) (v := ?_) rfl rfl hHeld ?_ ?_
     rotate_left
     ·rintro wh ⟨z16, z15, z7, z2, ⟨s0, s1, s2, s3⟩, ⟨r0, r1, r2, r3⟩⟩
      go_simp
      (try with_reducible rfl)
     simp only [Act.put, List.setIfInBounds_toArray, List.set_cons_zero, List.set_cons_succ]
     refine hT (i := 8) (v := ?_) rfl rfl hHeld ?_ ?_
     rotate_left
     ·rintro wh ⟨z16, z15, z7, z2, ⟨s0, s1, s2, s3⟩, ⟨r0, r1, r2, r3⟩⟩
      go_simp
      (try with_reducible rfl)
     simp only [Act.put, List.setIfInBounds_toArray, List.set_cons_zero, List.set_cons_succ]
     refine hT (i := 9) (v := ?_) rfl rfl hHeld ?_ ?_
     rotate_left
     ·rintro wh ⟨z16, z15, z7, z2, ⟨s0, s1, s2, s3⟩, ⟨r0, r1, r2, r3⟩⟩
      go_simp
      (try with_reducible rfl)
     simp only [Act.put, List.setIfInBounds_toArray, List.set_cons_zero, List.set_cons_succ]
     refine hT (i := 12) (v := ?_) rfl rfl hHeld ?_ ?_
     rotate_left
     ·rintro wh ⟨z16, z15, z7, z2, ⟨s0, s1, s2, s3⟩, ⟨r0, r1, r2, r3⟩⟩
      go_simp
      (try with_reducible rfl)
     simp only [Act.put, List.setIfInBounds_toArray, List.set_cons_zero, List.set_cons_succ]
     refine hT (i := 13) (v := ?_) rfl rfl hHeld ?_ ?_
     rotate_left
     ·rintro wh ⟨z16, z15, z7, z2, ⟨s0, s1, s2, s3⟩, ⟨r0, r1, r2, r3⟩⟩
      go_simp
      (try with_reducible rfl)
     simp only [Act.put, List.setIfInBounds_toArray, List.set_cons_zero, List.set_cons_succ]
     refine hT (i := 14) (v := ?_) rfl rfl hHeld ?_ ?_
     rotate_left
     ·rintro wh ⟨z16, z15, z7, z2, ⟨s0, s1, s2, s3⟩, ⟨r0, r1, r2, r3⟩⟩
      go_simp
      (try with_reducible rfl)
     simp only [Act.put, List.setIfInBounds_toArray, List.set_cons_zero, List.set_cons_succ]
     refine hT (i := 15) (v := ?_) rfl rfl hHeld ?_ ?_
     rotate_left
     ·rintro wh ⟨z16, z15, z7, z2, ⟨s0, s1, s2, s3⟩, ⟨r0, r1, r2, r3⟩⟩
      go_simp
      (try with_reducible rfl)
     simp only [Act.put, List.setIfInBounds_toArray, List.set_cons_zero, List.set_cons_succ]
     refine hT (i := 17) (v := ?_) rfl rfl hHeld ?_ ?_
     rotate_left
     ·rintro wh ⟨z16, z15, z7, z2, ⟨s0, s1, s2, s3⟩, ⟨r0, r1, r2, r3⟩⟩
      go_simp
      (try with_reducible rfl)
     simp only [Act.put, List.setIfInBounds_toArray, List.set_cons_zero, List.set_cons_succ]
     refine hT (i := 18) (v := ?_) rfl rfl hHeld ?_ ?_
     rotate_left
     ·rintro wh ⟨z16, z15, z7, z2, ⟨s0, s1, s2, s3⟩, ⟨r0, r1, r2, r3⟩⟩
      go_simp
      (try with_reducible rfl)
     simp only [Act.put, List.setIfInBounds_toArray, List.set_cons_zero, List.set_cons_succ]
     refine hT (i := 19) (v := ?_) rfl rfl hHeld ?_ ?_
     rotate_left
     ·rintro wh ⟨z16, z15, z7, z2, ⟨s0, s1, s2, s3⟩, ⟨r0, r1, r2, r3⟩⟩
      go_simp
      (try with_reducible rfl)
     simp only [Act.put, List.setIfInBounds_toArray, List.set_cons_zero, List.set_cons_succ]
     refine hT (i := 20) (v := ?_) rfl rfl hHeld ?_ ?_
     rotate_left
     ·rintro wh ⟨z16, z15, z7, z2, ⟨s0, s1, s2, s3⟩, ⟨r0, r1, r2, r3⟩⟩
      go_simp
      (try with_reducible rfl)
     simp only [Act.put, List.setIfInBounds_toArray, List.set_cons_zero, List.set_cons_succ]
     refine hT (i := 21) (v := ?_) rfl rfl hHeld ?_ ?_
     rotate_left
     ·rintro wh ⟨z16, z15, z7, z2, ⟨s0, s1, s2, s3⟩, ⟨r0, r1, r2, r3⟩⟩
      go_simp
      (try with_reducible rfl)
     simp only [Act.put, List.setIfInBounds_toArray, List.set_cons_zero, List.set_cons_succ]
     refine held_call (i := 10) rfl (by kernel_rfl) (by rfl) (fun K hK => ?_)
     (go_simp; go_at_call 134; refine (kA _).mono ?_; rintro e w1 ⟨rfl, hb1⟩; have HW1 := Lib.hid (HWd.out.later hb1); have HN1 := Lib.hid (HMd1.out.later hb1 (by show G1 < wr.heap.size; omega)); have HN2 := Lib.hid (HMd2.out.later hb1 hglt); have hg1 := Nat.lt_of_lt_of_le hglt hb1.size)
     refine hK.out _ _ (HCS.out _ L (fun _ _ => rfl) HW1.out HN1.out HN2.out) (fun hHeld => ?_)
     clear hK K
     (try simp only [Act.put, List.setIfInBounds_toArray, List.set_cons_zero, List.set_cons_succ])
     refine hT (i := 11) (v := ?_) rfl rfl hHeld ?_ ?_
     rotate_left
     ·rintro wh ⟨z16, z15, z7, z2, ⟨s0, s1, s2, s3⟩, ⟨r0, r1, r2, r3⟩⟩
      go_simp
      (try with_reducible rfl)
     simp only [Act.put, List.setIfInBounds_toArray, List.set_cons_zero, List.set_cons_succ]
     refine hT (i := 16) (v := ?_) rfl rfl hHeld ?_ ?_
     rotate_left
     ·rintro wh ⟨z16, z15, z7, z2, ⟨s0, s1, s2, s3⟩, ⟨r0, r1, r2, r3⟩⟩
      go_simp
      (try with_reducible rfl)
     simp only [Act.put, List.setIfInBounds_toArray, List.set_cons_zero, List.set_cons_succ]
     refine held_call (i := 22) rfl (by kernel_rfl) (by rfl) (fun K hK => ?_)
     (go_simp; go_at_call 134; refine (kB _).mono ?_; rintro e w2 ⟨rfl, hb2⟩; have HW2 := Lib.hid (HW1.out.later hb2); have HO1 := Lib.hid (HN1.out.later hb2 (by omega)); have HO2 := Lib.hid (HN2.out.later hb2 hg1); have hg2 := Nat.lt_of_lt_of_le hg1 hb2.size)
     refine hK.out _ _ (HCS.out _ L (fun _ _ => rfl) HW2.out HO1.out HO2.out) (fun hHeld => ?_)
     clear hK K
     (try simp only [Act.put, List.setIfInBounds_toArray, List.set_cons_zero, List.set_cons_succ])
     refine hT (i := 23) (v := ?_) rfl rfl hHeld ?_ ?_
     rotate_left
     ·rintro wh ⟨z16, z15, z7, z2, ⟨s0, s1, s2, s3⟩, ⟨r0, r1, r2, r3⟩⟩
      go_simp
      (try with_reducible rfl)
     simp only [Act.put, List.setIfInBounds_toArray, List.set_cons_zero, List.set_cons_succ]
     refine hT (i := 24) (v := ?_) rfl rfl hHeld ?_ ?_
     rotate_left
     ·rintro wh ⟨z16, z15, z7, z2, ⟨s0, s1, s2, s3⟩, ⟨r0, r1, r2, r3⟩⟩
      go_simp
      (try with_reducible rfl)
     simp only [Act.put, List.setIfInBounds_toArray, List.set_cons_zero, List.set_cons_succ]
     refine held_call (i := 25) rfl (by kernel_rfl) (by rfl) (fun K hK => ?_)
     (have hold := HW2.out.old (by omega); rw [hLl] at hold; have hfree := HW2.out.free n; have HST := Lib.hid (HW2.out.store (by omega) s3); rw [hLl] at HST; have HP1 := Lib.hid (HO1.out.beside (g := w.heap.size) (j := n) (v := V32 s3) (by omega)); have HP2 := Lib.hid (HO2.out.beside (g := w.heap.size) (j := n) (v := V32 s3) (by omega)); have hbs := (hbr.drew.trans (hb1.mono hbr.size)).trans (hb2.mono (by have := hb1.size; have := hbr.size; simp at *; omega)); have hbs2 := hbs.trans (below_setCell (B := w.heap.size) w2 w.heap.size n (V32 s3) (Nat.le_refl _)); go_simp)
     refine hK.out _ _ (HCS.out _ (L ++ [s3]) (fun j h => List.getElem?_append_left h) HST.out HP1.out HP2.out) (fun hHeld => ?_)
     clear hK K
     (try simp only [Act.put, List.setIfInBounds_toArray, List.set_cons_zero, List.set_cons_succ])
     refine wpAnyH_done (by kernel_rfl) ?_ _
     have hg3 : G1 + 1 < (w2.setCell ⟨w.heap.size, n, none⟩ (V32 s3)).heap.size := by rw [World.size_setCell]; exact hg2
     generalize w2.setCell ⟨w.heap.size, n, none⟩ (V32 s3) = w3 at *
     have R : Hid (WAt w3 w.heap.size (schedL bs (k + 1))) := by rw [HN.out, HX.out]; exact HST
     go_wp2
     go_roundw
     case rel => exact ⟨k + 1, by omega, by (first | go_num | (congr 1; omega)), R, HP1, HP2, hg3, hbs2⟩
     case measure => (simp [intOf]; try omega)
    ·obtain rfl : k = 48 := by omega
     rw [show ((16 + 48 : Nat) : Int) = 64 from rfl]
     have HSr := Lib.hid (HS.out.later hbr)
     obtain ⟨h0, h1, h2, h3, h4, h5, h6, h7, rfl⟩ : ∃ h0 h1 h2 h3 h4 h5 h6 h7, V = [h0, h1, h2, h3, h4, h5, h6, h7] := by
      have hl := HS.out.1
      match V, hl with
      | [a, b, c, d, e, f, g, h], _ => exact ⟨a, b, c, d, e, f, g, h, rfl⟩
     have g0 : wr.cell? ⟨p, 0, none⟩ = some (V32 h0) := HSr.out.word 0 (by decide)
     have g1 : wr.cell? ⟨p, 1, none⟩ = some (V32 h1) := HSr.out.word 1 (by decide)
     have g2 : wr.cell? ⟨p, 2, none⟩ = some (V32 h2) := HSr.out.word 2 (by decide)
     have g3 : wr.cell? ⟨p, 3, none⟩ = some (V32 h3) := HSr.out.word 3 (by decide)
     have g4 : wr.cell? ⟨p, 4, none⟩ = some (V32 h4) := HSr.out.word 4 (by decide)
     have g5 : wr.cell? ⟨p, 5, none⟩ = some (V32 h5) := HSr.out.word 5 (by decide)
     have g6 : wr.cell? ⟨p, 6, none⟩ = some (V32 h6) := HSr.out.word 6 (by decide)
     have g7 : wr.cell? ⟨p, 7, none⟩ = some (V32 h7) := HSr.out.word 7 (by decide)
     have hpr : p < wr.heap.size := HSr.out.lt
     go_wp2_with fail
     refine (keys_any _).mono ?_
     rintro e w3 ⟨rfl, hb3⟩
     clear g0 g1 g2 g3 g4 g5 g6 g7
     obtain ⟨hB3, hV3, hA3, hN3, hlt3⟩ := three_boxes hb3
     have hW3 := Lib.hid (HW.out.later hB3)
     have hS3 := Lib.hid (HSr.out.later hB3)
     have hbr3 := hbr.trans (hB3.mono hbr.size)
     obtain ⟨gA, hgA⟩ : ∃ g, g = wr.heap.size := ⟨_, rfl⟩
     have hGA : w.heap.size < gA := by rw [hgA]; exact HW.out.lt
     rw [← hgA] at hV3 hA3 hN3 hlt3 ⊢
     have HV3 : Hid (VAt w3 (gA + 1 + 1) (roundsL (schedL bs 48) [h0, h1, h2, h3, h4, h5, h6, h7] 0)) := ⟨rfl, hV3⟩
     have HA3 := Lib.hid (hA3 rfl)
     have HN3 := Lib.hid (hN3 rfl)
     clear hB3 hb3 HW HM1 HM2 HSr hbr hgA hV3 hA3 hN3 hglt
     obtain ⟨WL, hWL⟩ : ∃ W, schedL bs 48 = W := ⟨_, rfl⟩
     have hWl : WL.length = 64 := by rw [← hWL]; exact schedL_len bs 48
     rw [hWL] at hW3 HV3
     have HWL := Lib.hid hWL
     clear hWL
     go_wp2
     go_loopw [94] (fun i wr => ∃ k : Nat, k ≤ 64 ∧ i = .int .i64 k ∧ Hid (WAt wr w.heap.size WL) ∧ Hid (VAt wr (gA + 1 + 1) (roundsL WL [h0, h1, h2, h3, h4, h5, h6, h7] k)) ∧ Hid (C4 gA (.int .i64 6) (.int .i64 11) (.int .i64 25) (.int .i64 0) wr) ∧ Hid (C4 (gA + 1) (.int .i64 2) (.int .i64 13) (.int .i64 22) (.int .i64 0) wr) ∧ Hid (SumAt wr p [h0, h1, h2, h3, h4, h5, h6, h7] rv cnt) ∧ gA + 1 + 1 < wr.heap.size ∧ Below w.heap.size w wr) (fun i _ => 64 - (intOf i).toNat)
     case atStart => exact ⟨0, Nat.zero_le _, rfl, hW3, HV3, HA3, HN3, hS3, hlt3, hbr3⟩
     case round =>
      obtain ⟨k, hk, rfl, HW, HV, HA, HN, HS3, hlt3, hbr⟩ := hrel
      by_cases hkl : k < 64
      ·obtain ⟨x0, x1, x2, x3, x4, x5, x6, x7, hv⟩ : ∃ x0 x1 x2 x3 x4 x5 x6 x7, roundsL WL [h0, h1, h2, h3, h4, h5, h6, h7] k = [x0, x1, x2, x3, x4, x5, x6, x7] := by
        have hl := HV.out.1
        match roundsL WL [h0, h1, h2, h3, h4, h5, h6, h7] k, hl with
        | [a, b, c, d, e, f, g, h], _ => exact ⟨a, b, c, d, e, f, g, h, rfl⟩
       have HNX : Hid (roundsL WL [h0, h1, h2, h3, h4, h5, h6, h7] (k + 1) = roundL [x0, x1, x2, x3, x4, x5, x6, x7] (keyL k) (WL.getD k 0)) := by show _ = _; rw [roundsL, hv]
       rw [hv] at HV
       have hkv := keysV_at k hkl
       obtain ⟨xk, hxk⟩ : ∃ x, WL.getD k 0 = x := ⟨_, rfl⟩
       have hck : ∀ W, WAt W w.heap.size WL → W.cell? ⟨w.heap.size, k, none⟩ = some (V32 xk) := fun W hW => by
        rw [hW.cell k (by omega), ← hxk, List.getD_eq_getElem?_getD, List.getElem?_eq_getElem (by omega)]; rfl
       rw [hxk] at HNX
       obtain ⟨kk, hkk⟩ : ∃ x, keyL k = x := ⟨_, rfl⟩
       have hidx := run_index_keys k hkl wr
       rw [hkk] at hkv HNX hidx
       have hI : (k : Int) < 64 := by omega
       clear hv hxk hkk
       have kA := fun W => of_rot 6 11 25 x4 W (by decide) (by decide) (by decide)
       have kN := fun W => of_rot 2 13 22 x0 W (by decide) (by decide) (by decide)
       obtain ⟨mA, hmA⟩ : ∃ z, mixW 6 11 25 0 x4 = z := ⟨_, rfl⟩
       obtain ⟨mN, hmN⟩ : ∃ z, mixW 2 13 22 0 x0 = z := ⟨_, rfl⟩
       rw [hmA] at kA
       rw [hmN] at kN
       obtain ⟨t1, e1⟩ : ∃ z, IntKind.u32.wrap (x7 + mA) = z := ⟨_, rfl⟩
       obtain ⟨n1, e2⟩ : ∃ z, bits BinOp.and .u32 x4 x5 = z := ⟨_, rfl⟩
       obtain ⟨n2, e3⟩ : ∃ z, bits BinOp.xor .u32 (if IntKind.u32.signed = true then -1 else IntKind.u32.max) x4 = z := ⟨_, rfl⟩
       obtain ⟨n3, e4⟩ : ∃ z, bits BinOp.and .u32 n2 x6 = z := ⟨_, rfl⟩
       obtain ⟨n4, e5⟩ : ∃ z, bits BinOp.xor .u32 n1 n3 = z := ⟨_, rfl⟩
       obtain ⟨t2, e6⟩ : ∃ z, IntKind.u32.wrap (t1 + n4) = z := ⟨_, rfl⟩
       obtain ⟨t3, e7⟩ : ∃ z, IntKind.u32.wrap (t2 + kk) = z := ⟨_, rfl⟩
       obtain ⟨T, e8⟩ : ∃ z, IntKind.u32.wrap (t3 + xk) = z := ⟨_, rfl⟩
       have hT : tL mA x4 x5 x6 x7 kk xk = T := by unfold tL; rw [e1, e2, e3, e4, e5, e6, e7, e8]
       obtain ⟨m1, f1⟩ : ∃ z, bits BinOp.and .u32 x0 x1 = z := ⟨_, rfl⟩
       obtain ⟨m2, f2⟩ : ∃ z, bits BinOp.and .u32 x0 x2 = z := ⟨_, rfl⟩
       obtain ⟨m3, f3⟩ : ∃ z, bits BinOp.xor .u32 m1 m2 = z := ⟨_, rfl⟩
       obtain ⟨m4, f4⟩ : ∃ z, bits BinOp.and .u32 x1 x2 = z := ⟨_, rfl⟩
       obtain ⟨m5, f5⟩ : ∃ z, bits BinOp.xor .u32 m3 m4 = z := ⟨_, rfl⟩
       obtain ⟨U, f6⟩ : ∃ z, IntKind.u32.wrap (mN + m5) = z := ⟨_, rfl⟩
       have hU : uL mN x0 x1 x2 = U := by unfold uL; rw [f1, f2, f3, f4, f5, f6]
       have HR : Hid (roundsL WL [h0, h1, h2, h3, h4, h5, h6, h7] (k + 1) = [(T + U) % 4294967296, x0, x1, x2, (x3 + T) % 4294967296, x4, x5, x6]) := by
        show _ = _; rw [HNX.out]; simp only [roundL]; rw [hmA, hmN, hT, hU]
       clear hmA hmN hT hU HNX
       have hcs : ∀ W, VAt W (gA + 1 + 1) [x0, x1, x2, x3, x4, x5, x6, x7] → C4 gA (.int .i64 6) (.int .i64 11) (.int .i64 25) (.int .i64 0) W → WAt W w.heap.size WL →
         W.cell? ⟨gA + 1 + 1, 7, none⟩ = some (V32 x7) ∧ W.cell? ⟨gA + 1 + 1, 4, none⟩ = some (V32 x4) ∧ W.cell? ⟨gA + 1 + 1, 5, none⟩ = some (V32 x5) ∧ W.cell? ⟨gA + 1 + 1, 6, none⟩ = some (V32 x6) ∧ C4 gA (.int .i64 6) (.int .i64 11) (.int .i64 25) (.int .i64 0) W ∧ W.cell? ⟨w.heap.size, k, none⟩ = some (V32 xk) := fun W h1 h2 h3 => ⟨h1.cell 7 _ rfl, h1.cell 4 _ rfl, h1.cell 5 _ rfl, h1.cell 6 _ rfl, h2, hck W h3⟩
       have HCS := Lib.hid hcs
       have HVd : Hid (VAt wr.drew (gA + 1 + 1) [x0, x1, x2, x3, x4, x5, x6, x7]) := HV.out
       have HAd : Hid (C4 gA (.int .i64 6) (.int .i64 11) (.int .i64 25) (.int .i64 0) wr.drew) := HA.out
       have HWd : Hid (WAt wr.drew w.heap.size WL) := HW.out
       clear hcs hck hkv
       go_wp2
       refine wp_region_held_drew (S := (fun w' => w'.cell? ⟨gA + 1 + 1, 7, none⟩ = some (V32 x7) ∧ w'.cell? ⟨gA + 1 + 1, 4, none⟩ = some (V32 x4) ∧ w'.cell? ⟨gA + 1 + 1, 5, none⟩ = some (V32 x5) ∧ w'.cell? ⟨gA + 1 + 1, 6, none⟩ = some (V32 x6) ∧ C4 gA (.int .i64 6) (.int .i64 11) (.int .i64 25) (.int .i64 0) w' ∧ w'.cell? ⟨w.heap.size, k, none⟩ = some (V32 xk))) (by kernel_rfl) (HCS.out _ HVd.out HAd.out HWd.out) (fun hHeld => ?_)
       refine hT (i := 0) (v := ?_) rfl rfl hHeld ?_ ?_
       rotate_left
       ·rintro wh ⟨z7, z4, z5, z6, ⟨s0, s1, s2, s3⟩, zk⟩
        go_simp
        (try with_reducible rfl)
       simp only [Act.put, List.setIfInBounds_toArray, List.set_cons_zero, List.set_cons_succ]
       refine hT (i := 1) (v := ?_) rfl rfl hHeld ?_ ?_
       rotate_left
       ·rintro wh ⟨z7, z4, z5, z6, ⟨s0, s1, s2, s3⟩, zk⟩
        go_simp
        (try with_reducible rfl)
       simp only [Act.put, List.setIfInBounds_toArray, List.set_cons_zero, List.set_cons_succ]
       refine hT (i := 2) (v := ?_) rfl rfl hHeld ?_ ?_
       rotate_left
       ·rintro wh ⟨z7, z4, z5, z6, ⟨s0, s1, s2, s3⟩, zk⟩
        go_simp
        (try with_reducible rfl)
       simp only [Act.put, List.setIfInBounds_toArray, List.set_cons_zero, List.set_cons_succ]
       refine hT (i := 3) (v := ?_) rfl rfl hHeld ?_ ?_
       rotate_left
       ·rintro wh ⟨z7, z4, z5, z6, ⟨s0, s1, s2, s3⟩, zk⟩
        go_simp
        (try with_reducible rfl)
       simp only [Act.put, List.setIfInBounds_toArray, List.set_cons_zero, List.set_cons_succ]
       refine hT (i := 4) (v := ?_) rfl rfl hHeld ?_ ?_
       rotate_left
       ·rintro wh ⟨z7, z4, z5, z6, ⟨s0, s1, s2, s3⟩, zk⟩
        go_simp
        (try with_reducible rfl)
       simp only [Act.put, List.setIfInBounds_toArray, List.set_cons_zero, List.set_cons_succ]
       refine hT (i := 7) (v := ?_) rfl rfl hHeld ?_ ?_
       rotate_left
       ·rintro wh ⟨z7, z4, z5, z6, ⟨s0, s1, s2, s3⟩, zk⟩
        go_simp
        (try with_reducible rfl)
       simp only [Act.put, List.setIfInBounds_toArray, List.set_cons_zero, List.set_cons_succ]
       refine hT (i := 8) (v := ?_) rfl rfl hHeld ?_ ?_
       rotate_left
       ·rintro wh ⟨z7, z4, z5, z6, ⟨s0, s1, s2, s3⟩, zk⟩
        go_simp
        (try with_reducible rfl)
       simp only [Act.put, List.setIfInBounds_toArray, List.set_cons_zero, List.set_cons_succ]
       refine hT (i := 9) (v := ?_) rfl rfl hHeld ?_ ?_
       rotate_left
       ·rintro wh ⟨z7, z4, z5, z6, ⟨s0, s1, s2, s3⟩, zk⟩
        go_simp
        (try with_reducible rfl)
       simp only [Act.put, List.setIfInBounds_toArray, List.set_cons_zero, List.set_cons_succ]
       refine hT (i := 10) (v := ?_) rfl rfl hHeld ?_ ?_
       rotate_left
       ·rintro wh ⟨z7, z4, z5, z6, ⟨s0, s1, s2, s3⟩, zk⟩
        go_simp
        (try with_reducible rfl)
       simp only [Act.put, List.setIfInBounds_toArray, List.set_cons_zero, List.set_cons_succ]
       refine hT (i := 11) (v := ?_) rfl rfl hHeld ?_ ?_
       rotate_left
       ·rintro wh ⟨z7, z4, z5, z6, ⟨s0, s1, s2, s3⟩, zk⟩
        go_simp
        (try with_reducible rfl)
       simp only [Act.put, List.setIfInBounds_toArray, List.set_cons_zero, List.set_cons_succ]
       refine hT (i := 12) (v := ?_) rfl rfl hHeld ?_ ?_
       rotate_left
       ·rintro wh ⟨z7, z4, z5, z6, ⟨s0, s1, s2, s3⟩, zk⟩
        go_simp
        (try with_reducible rfl)
       simp only [Act.put, List.setIfInBounds_toArray, List.set_cons_zero, List.set_cons_succ]
       refine hT (i := 13) (v := ?_) rfl rfl hHeld ?_ ?_
       rotate_left
       ·rintro wh ⟨z7, z4, z5, z6, ⟨s0, s1, s2, s3⟩, zk⟩
        go_simp
        (try with_reducible rfl)
       simp only [Act.put, List.setIfInBounds_toArray, List.set_cons_zero, List.set_cons_succ]
       refine hT (i := 14) (v := ?_) rfl rfl hHeld ?_ ?_
       rotate_left
       ·rintro wh ⟨z7, z4, z5, z6, ⟨s0, s1, s2, s3⟩, zk⟩
        go_simp
        (try with_reducible rfl)
       simp only [Act.put, List.setIfInBounds_toArray, List.set_cons_zero, List.set_cons_succ]
       refine hT (i := 15) (v := ?_) rfl rfl hHeld ?_ ?_
       rotate_left
       ·rintro wh ⟨z7, z4, z5, z6, ⟨s0, s1, s2, s3⟩, zk⟩
        go_simp
        (try with_reducible rfl)
       simp only [Act.put, List.setIfInBounds_toArray, List.set_cons_zero, List.set_cons_succ]
       refine hT (i := 16) (v := ?_) rfl rfl hHeld ?_ ?_
       rotate_left
       ·rintro wh ⟨z7, z4, z5, z6, ⟨s0, s1, s2, s3⟩, zk⟩
        go_simp
        (try with_reducible rfl)
       simp only [Act.put, List.setIfInBounds_toArray, List.set_cons_zero, List.set_cons_succ]
       refine hT (i := 17) (v := ?_) rfl rfl hHeld ?_ ?_
       rotate_left
       ·rintro wh ⟨z7, z4, z5, z6, ⟨s0, s1, s2, s3⟩, zk⟩
        go_simp
        (try with_reducible rfl)
       simp only [Act.put, List.setIfInBounds_toArray, List.set_cons_zero, List.set_cons_succ]
       refine hT (i := 18) (v := ?_) rfl rfl hHeld ?_ ?_
       rotate_left
       ·rintro wh ⟨z7, z4, z5, z6, ⟨s0, s1, s2, s3⟩, zk⟩
        go_simp
        (try with_reducible rfl)
       simp only [Act.put, List.setIfInBounds_toArray, List.set_cons_zero, List.set_cons_succ]
       refine hT (i := 20) (v := ?_) rfl rfl hHeld ?_ ?_
       rotate_left
       ·rintro wh ⟨z7, z4, z5, z6, ⟨s0, s1, s2, s3⟩, zk⟩
        go_simp
        (try with_reducible rfl)
       simp only [Act.put, List.setIfInBounds_toArray, List.set_cons_zero, List.set_cons_succ]
       refine hT (i := 22) (v := ?_) rfl rfl hHeld ?_ ?_
       rotate_left
       ·rintro wh ⟨z7, z4, z5, z6, ⟨s0, s1, s2, s3⟩, zk⟩
        go_simp
        (try with_reducible rfl)
       simp only [Act.put, List.setIfInBounds_toArray, List.set_cons_zero, List.set_cons_succ]
       refine hT (i := 23) (v := ?_) rfl rfl hHeld ?_ ?_
       rotate_left
       ·rintro wh ⟨z7, z4, z5, z6, ⟨s0, s1, s2, s3⟩, zk⟩
        go_simp
        (try with_reducible rfl)
       simp only [Act.put, List.setIfInBounds_toArray, List.set_cons_zero, List.set_cons_succ]
       refine hT (i := 24) (v := ?_) rfl rfl hHeld ?_ ?_
       rotate_left
       ·rintro wh ⟨z7, z4, z5, z6, ⟨s0, s1, s2, s3⟩, zk⟩
        go_simp
        (try with_reducible rfl)
       simp only [Act.put, List.setIfInBounds_toArray, List.set_cons_zero, List.set_cons_succ]
       refine held_call (i := 5) rfl (by kernel_rfl) (by rfl) (fun K hK => ?_)
       (go_simp; go_at_call 134; refine (kA _).mono ?_; rintro e w1 ⟨rfl, hb1⟩; have HV1 := Lib.hid (HVd.out.later hb1); have HA1 := Lib.hid (HAd.out.later hb1 (by show gA < wr.heap.size; omega)); have HW1 := Lib.hid (HWd.out.later hb1))
       refine hK.out _ _ (HCS.out _ HV1.out HA1.out HW1.out) (fun hHeld => ?_)
       clear hK K
       (try simp only [Act.put, List.setIfInBounds_toArray, List.set_cons_zero, List.set_cons_succ])
       refine hT (i := 6) (v := ?_) rfl rfl hHeld ?_ ?_
       rotate_left
       ·rintro wh ⟨z7, z4, z5, z6, ⟨s0, s1, s2, s3⟩, zk⟩
        go_simp
        (try with_reducible rfl)
       simp only [Act.put, List.setIfInBounds_toArray, List.set_cons_zero, List.set_cons_succ]
       refine hT (i := 19) (v := ?_) rfl rfl hHeld ?_ ?_
       rotate_left
       ·rintro wh ⟨z7, z4, z5, z6, ⟨s0, s1, s2, s3⟩, zk⟩
        go_simp
        (try with_reducible rfl)
       simp only [Act.put, List.setIfInBounds_toArray, List.set_cons_zero, List.set_cons_succ]
       refine hT (i := 21) (v := ?_) rfl rfl hHeld ?_ ?_
       rotate_left
       ·rintro wh ⟨z7, z4, z5, z6, ⟨s0, s1, s2, s3⟩, zk⟩
        go_simp
        (try with_reducible rfl)
       simp only [Act.put, List.setIfInBounds_toArray, List.set_cons_zero, List.set_cons_succ]
       refine hT (i := 25) (v := ?_) rfl rfl hHeld ?_ ?_
       rotate_left
       ·rintro wh ⟨z7, z4, z5, z6, ⟨s0, s1, s2, s3⟩, zk⟩
        go_simp
        (try with_reducible rfl)
       simp only [Act.put, List.setIfInBounds_toArray, List.set_cons_zero, List.set_cons_succ]
       refine hT (i := 26) (v := ?_) rfl rfl hHeld ?_ ?_
       rotate_left
       ·rintro wh ⟨z7, z4, z5, z6, ⟨s0, s1, s2, s3⟩, zk⟩
        go_simp
        (try with_reducible rfl)
       simp only [Act.put, List.setIfInBounds_toArray, List.set_cons_zero, List.set_cons_succ]
       refine wpAnyH_done (by kernel_rfl) ?_ _
       clear e1 e2 e3 e4 e5 e6 e7 e8
       have hlt1 := Nat.lt_of_lt_of_le hlt3 hb1.size
       have HN1 := Lib.hid (HN.out.later (bl_drewN (Below.refl wr.heap.size wr) 1) (by omega) |>.later hb1 (by show gA + 1 < wr.heap.size; omega))
       have HS1 := Lib.hid ((HS3.out.later (bl_drewN (Below.refl wr.heap.size wr) 1)).later hb1)
       have hbr1 := (hbr.drew).trans (hb1.mono hbr.size)
       have HNd : Hid (C4 (gA + 1) (.int .i64 2) (.int .i64 13) (.int .i64 22) (.int .i64 0) w1.drew) := HN1.out
       have HV1d : Hid (VAt w1.drew (gA + 1 + 1) [x0, x1, x2, x3, x4, x5, x6, x7]) := HV1.out
       have hcs2 : ∀ W, VAt W (gA + 1 + 1) [x0, x1, x2, x3, x4, x5, x6, x7] → C4 (gA + 1) (.int .i64 2) (.int .i64 13) (.int .i64 22) (.int .i64 0) W →
         W.cell? ⟨gA + 1 + 1, 0, none⟩ = some (V32 x0) ∧ W.cell? ⟨gA + 1 + 1, 1, none⟩ = some (V32 x1) ∧ W.cell? ⟨gA + 1 + 1, 2, none⟩ = some (V32 x2) ∧ C4 (gA + 1) (.int .i64 2) (.int .i64 13) (.int .i64 22) (.int .i64 0) W := fun W h1 h2 => ⟨h1.cell 0 _ rfl, h1.cell 1 _ rfl, h1.cell 2 _ rfl, h2⟩
       have HC2 := Lib.hid hcs2
       clear hcs2 hHeld HV HA HN HS3 HW hbr kA HCS HVd HAd HWd hidx
       go_wp2
       refine wp_region_held_drew (S := (fun w' => w'.cell? ⟨gA + 1 + 1, 0, none⟩ = some (V32 x0) ∧ w'.cell? ⟨gA + 1 + 1, 1, none⟩ = some (V32 x1) ∧ w'.cell? ⟨gA + 1 + 1, 2, none⟩ = some (V32 x2) ∧ C4 (gA + 1) (.int .i64 2) (.int .i64 13) (.int .i64 22) (.int .i64 0) w')) (by kernel_rfl) (HC2.out _ HV1d.out HNd.out) (fun hHeld => ?_)
       refine hT (i := 0) (v := ?_) rfl rfl hHeld ?_ ?_
       rotate_left
       ·rintro wh ⟨z0, z1, z2, ⟨s0, s1, s2, s3⟩⟩
        go_simp
        (try with_reducible rfl)
       simp only [Act.put, List.setIfInBounds_toArray, List.set_cons_zero, List.set_cons_succ]
       refine hT (i := 1) (v := ?_) rfl rfl hHeld ?_ ?_
       rotate_left
       ·rintro wh ⟨z0, z1, z2, ⟨s0, s1, s2, s3⟩⟩
        go_simp
        (try with_reducible rfl)
       simp only [Act.put, List.setIfInBounds_toArray, List.set_cons_zero, List.set_cons_succ]
       refine hT (i := 2) (v := ?_) rfl rfl hHeld ?_ ?_
       rotate_left
       ·rintro wh ⟨z0, z1, z2, ⟨s0, s1, s2, s3⟩⟩
        go_simp
        (try with_reducible rfl)
       simp only [Act.put, List.setIfInBounds_toArray, List.set_cons_zero, List.set_cons_succ]
       refine hT (i := 4) (v := ?_) rfl rfl hHeld ?_ ?_
       rotate_left
       ·rintro wh ⟨z0, z1, z2, ⟨s0, s1, s2, s3⟩⟩
        go_simp
        (try with_reducible rfl)
       simp only [Act.put, List.setIfInBounds_toArray, List.set_cons_zero, List.set_cons_succ]
       refine hT (i := 5) (v := ?_) rfl rfl hHeld ?_ ?_
       rotate_left
       ·rintro wh ⟨z0, z1, z2, ⟨s0, s1, s2, s3⟩⟩
        go_simp
        (try with_reducible rfl)
       simp only [Act.put, List.setIfInBounds_toArray, List.set_cons_zero, List.set_cons_succ]
       refine hT (i := 6) (v := ?_) rfl rfl hHeld ?_ ?_
       rotate_left
       ·rintro wh ⟨z0, z1, z2, ⟨s0, s1, s2, s3⟩⟩
        go_simp
        (try with_reducible rfl)
       simp only [Act.put, List.setIfInBounds_toArray, List.set_cons_zero, List.set_cons_succ]
       refine hT (i := 7) (v := ?_) rfl rfl hHeld ?_ ?_
       rotate_left
       ·rintro wh ⟨z0, z1, z2, ⟨s0, s1, s2, s3⟩⟩
        go_simp
        (try with_reducible rfl)
       simp only [Act.put, List.setIfInBounds_toArray, List.set_cons_zero, List.set_cons_succ]
       refine hT (i := 8) (v := ?_) rfl rfl hHeld ?_ ?_
       rotate_left
       ·rintro wh ⟨z0, z1, z2, ⟨s0, s1, s2, s3⟩⟩
        go_simp
        (try with_reducible rfl)
       simp only [Act.put, List.setIfInBounds_toArray, List.set_cons_zero, List.set_cons_succ]
       refine hT (i := 9) (v := ?_) rfl rfl hHeld ?_ ?_
       rotate_left
       ·rintro wh ⟨z0, z1, z2, ⟨s0, s1, s2, s3⟩⟩
        go_simp
        (try with_reducible rfl)
       simp only [Act.put, List.setIfInBounds_toArray, List.set_cons_zero, List.set_cons_succ]
       refine hT (i := 10) (v := ?_) rfl rfl hHeld ?_ ?_
       rotate_left
       ·rintro wh ⟨z0, z1, z2, ⟨s0, s1, s2, s3⟩⟩
        go_simp
        (try with_reducible rfl)
       simp only [Act.put, List.setIfInBounds_toArray, List.set_cons_zero, List.set_cons_succ]
       refine hT (i := 11) (v := ?_) rfl rfl hHeld ?_ ?_
       rotate_left
       ·rintro wh ⟨z0, z1, z2, ⟨s0, s1, s2, s3⟩⟩
        go_simp
        (try with_reducible rfl)
       simp only [Act.put, List.setIfInBounds_toArray, List.set_cons_zero, List.set_cons_succ]
       refine hT (i := 12) (v := ?_) rfl rfl hHeld ?_ ?_
       rotate_left
       ·rintro wh ⟨z0, z1, z2, ⟨s0, s1, s2, s3⟩⟩
        go_simp
        (try with_reducible rfl)
       simp only [Act.put, List.setIfInBounds_toArray, List.set_cons_zero, List.set_cons_succ]
       refine hT (i := 13) (v := ?_) rfl rfl hHeld ?_ ?_
       rotate_left
       ·rintro wh ⟨z0, z1, z2, ⟨s0, s1, s2, s3⟩⟩
        go_simp
        (try with_reducible rfl)
       simp only [Act.put, List.setIfInBounds_toArray, List.set_cons_zero, List.set_cons_succ]
       refine hT (i := 14) (v := ?_) rfl rfl hHeld ?_ ?_
       rotate_left
       ·rintro wh ⟨z0, z1, z2, ⟨s0, s1, s2, s3⟩⟩
        go_simp
        (try with_reducible rfl)
       simp only [Act.put, List.setIfInBounds_toArray, List.set_cons_zero, List.set_cons_succ]
       refine hT (i := 15) (v := ?_) rfl rfl hHeld ?_ ?_
       rotate_left
       ·rintro wh ⟨z0, z1, z2, ⟨s0, s1, s2, s3⟩⟩
        go_simp
        (try with_reducible rfl)
       simp only [Act.put, List.setIfInBounds_toArray, List.set_cons_zero, List.set_cons_succ]
       refine hT (i := 16) (v := ?_) rfl rfl hHeld ?_ ?_
       rotate_left
       ·rintro wh ⟨z0, z1, z2, ⟨s0, s1, s2, s3⟩⟩
        go_simp
        (try with_reducible rfl)
       simp only [Act.put, List.setIfInBounds_toArray, List.set_cons_zero, List.set_cons_succ]
       refine hT (i := 17) (v := ?_) rfl rfl hHeld ?_ ?_
       rotate_left
       ·rintro wh ⟨z0, z1, z2, ⟨s0, s1, s2, s3⟩⟩
        go_simp
        (try with_reducible rfl)
       simp only [Act.put, List.setIfInBounds_toArray, List.set_cons_zero, List.set_cons_succ]
       refine hT (i := 18) (v := ?_) rfl rfl hHeld ?_ ?_
       rotate_left
       ·rintro wh ⟨z0, z1, z2, ⟨s0, s1, s2, s3⟩⟩
        go_simp
        (try with_reducible rfl)
       simp only [Act.put, List.setIfInBounds_toArray, List.set_cons_zero, List.set_cons_succ]
       refine hT (i := 19) (v := ?_) rfl rfl hHeld ?_ ?_
       rotate_left
       ·rintro wh ⟨z0, z1, z2, ⟨s0, s1, s2, s3⟩⟩
        go_simp
        (try with_reducible rfl)
       simp only [Act.put, List.setIfInBounds_toArray, List.set_cons_zero, List.set_cons_succ]
       refine hT (i := 20) (v := ?_) rfl rfl hHeld ?_ ?_
       rotate_left
       ·rintro wh ⟨z0, z1, z2, ⟨s0, s1, s2, s3⟩⟩
        go_simp
        (try with_reducible rfl)
       simp only [Act.put, List.setIfInBounds_toArray, List.set_cons_zero, List.set_cons_succ]
       refine held_call (i := 3) rfl (by kernel_rfl) (by rfl) (fun K hK => ?_)
       (go_simp; go_at_call 134; refine (kN _).mono ?_; rintro e w2 ⟨rfl, hb2⟩; have HV2 := Lib.hid (HV1d.out.later hb2); have HN2 := Lib.hid (HNd.out.later hb2 (by show gA + 1 < w1.heap.size; omega)))
       refine hK.out _ _ (HC2.out _ HV2.out HN2.out) (fun hHeld => ?_)
       clear hK K
       (try simp only [Act.put, List.setIfInBounds_toArray, List.set_cons_zero, List.set_cons_succ])
       refine hT (i := 21) (v := ?_) rfl rfl hHeld ?_ ?_
       rotate_left
       ·rintro wh ⟨z0, z1, z2, ⟨s0, s1, s2, s3⟩⟩
        go_simp
        (try with_reducible rfl)
       simp only [Act.put, List.setIfInBounds_toArray, List.set_cons_zero, List.set_cons_succ]
       refine hT (i := 22) (v := ?_) rfl rfl hHeld ?_ ?_
       rotate_left
       ·rintro wh ⟨z0, z1, z2, ⟨s0, s1, s2, s3⟩⟩
        go_simp
        (try with_reducible rfl)
       simp only [Act.put, List.setIfInBounds_toArray, List.set_cons_zero, List.set_cons_succ]
       refine wpAnyH_done (by kernel_rfl) ?_ _
       clear f1 f2 f3 f4 f5 f6
       have hlt2 := Nat.lt_of_lt_of_le hlt1 hb2.size
       have HA2 := Lib.hid (HA1.out.later (bl_drewN (Below.refl w1.heap.size w1) 1) (by omega) |>.later hb2 (by show gA < w1.heap.size; omega))
       have HW2 := Lib.hid ((HW1.out.later (bl_drewN (Below.refl w1.heap.size w1) 1)).later hb2)
       have HS2 := Lib.hid ((HS1.out.later (bl_drewN (Below.refl w1.heap.size w1) 1)).later hb2)
       have hbr2 := (hbr1.drew).trans (hb2.mono hbr1.size)
       clear hHeld HV1 HA1 HN1 HS1 HW1 hbr1 kN HC2 HNd HV1d hb1 hb2 hlt3 hlt1
       have HV2d : Hid (VAt w2.drew (gA + 1 + 1) [x0, x1, x2, x3, x4, x5, x6, x7]) := HV2.out
       have hv2h := HV2d.out.2
       have HV2s := Lib.hid HV2d.out.src
       have HH2 := Lib.hid hv2h
       clear hv2h
       go_wp2
       refine wp_region_held_drew (S := (fun _ => True)) (by kernel_rfl) trivial (fun hHeld => ?_)
       refine hT (i := 0) (v := ?_) rfl rfl hHeld ?_ ?_
       rotate_left
       ·rintro wh _
        go_simp
        (try with_reducible rfl)
       simp only [Act.put, List.setIfInBounds_toArray, List.set_cons_zero, List.set_cons_succ]
       refine hT (i := 1) (v := ?_) rfl rfl hHeld ?_ ?_
       rotate_left
       ·rintro wh _
        go_simp
        (try with_reducible rfl)
       simp only [Act.put, List.setIfInBounds_toArray, List.set_cons_zero, List.set_cons_succ]
       refine held_step (i := 2) rfl (by kernel_rfl) (fun K hK => ?_)
       (refine step_copy_splice rfl (.tmp 146) (.tmp 147) 191 191 rfl 34 Tryz.underlying191 (by kernel_rfl) (some ⟨gA + 1 + 1, 1, none⟩) (some ⟨gA + 1 + 1, 0, none⟩) 7 7 7 8 rfl rfl (gA + 1 + 1) 1 [V32 x0, V32 x1, V32 x2, V32 x3, V32 x4, V32 x5, V32 x6, V32 x7] 157 HH2.out [V32 x0, V32 x1, V32 x2, V32 x3, V32 x4, V32 x5, V32 x6] rfl (fun _ => ⟨rfl, _, rfl, HV2s.out⟩) (by simp) (by simp [Value.oneCell']) (gA + 1 + 1) w2 ((Below.refl _ _).drew) (Nat.le_refl _) ?_; intro w4 hg4 hb4)
       refine hK.out _ _ trivial (fun hHeld => ?_)
       clear hK K
       (try simp only [Act.put, List.setIfInBounds_toArray])
       refine wpAnyH_done (by kernel_rfl) ?_ _
       have HV4 : Hid (VAt w4 (gA + 1 + 1) [x0, x0, x1, x2, x3, x4, x5, x6]) := ⟨rfl, hg4.out⟩
       have HA4 := Lib.hid (HA2.out.of_heap (hb4.block gA (by omega)))
       have HN4 := Lib.hid (HN2.out.of_heap (hb4.block (gA + 1) (by omega)))
       have HW4 := Lib.hid (HW2.out.of_heap (hb4.block w.heap.size (by omega)))
       have HS4 := Lib.hid (HS2.out.of_heap (hb4.block p (by omega)))
       have hlt4 := Nat.lt_of_lt_of_le hlt2 hb4.size
       have hbr4 := hbr2.trans (hb4.mono (by omega))
       have d4 := HV4.out.cell 4 x3 rfl
       have f4 := HV4.out.free 4
       have HV5 := Lib.hid (HV4.out.put 4 ((x3 + T) % 4294967296))
       clear hHeld HV2 HA2 HN2 HW2 HS2 HV2d HV2s HH2 hg4 hb4 hbr2 hlt2
       go_upto_region 20 with fail
       have HA5 := Lib.hid (HA4.out.of_heap (heap_else w4 (gA + 1 + 1) 4 gA (V32 ((x3 + T) % 4294967296)) (by omega)))
       have HN5 := Lib.hid (HN4.out.of_heap (heap_else w4 (gA + 1 + 1) 4 (gA + 1) (V32 ((x3 + T) % 4294967296)) (by omega)))
       have HW5 := Lib.hid (HW4.out.of_heap (heap_else w4 (gA + 1 + 1) 4 w.heap.size (V32 ((x3 + T) % 4294967296)) (by omega)))
       have HS5 := Lib.hid (HS4.out.of_heap (heap_else w4 (gA + 1 + 1) 4 p (V32 ((x3 + T) % 4294967296)) (by omega)))
       have hbr5 := hbr4.trans (below_setCell (B := w.heap.size) w4 (gA + 1 + 1) 4 (V32 ((x3 + T) % 4294967296)) (by omega))
       have hlt5 : gA + 1 + 1 < (w4.setCell ⟨gA + 1 + 1, 4, none⟩ (V32 ((x3 + T) % 4294967296))).heap.size := by rw [World.size_setCell]; exact hlt4
       clear d4 f4 HV4 HA4 HN4 HW4 HS4 hbr4 hlt4
       generalize w4.setCell ⟨gA + 1 + 1, 4, none⟩ (V32 ((x3 + T) % 4294967296)) = w5 at *
       have d0 := HV5.out.cell 0 x0 rfl
       have f0 := HV5.out.free 0
       have HV6 : Hid (VAt (w5.setCell ⟨gA + 1 + 1, 0, none⟩ (V32 ((T + U) % 4294967296))) (gA + 1 + 1) (roundsL WL [h0, h1, h2, h3, h4, h5, h6, h7] (k + 1))) := by rw [HR.out]; exact HV5.out.put 0 ((T + U) % 4294967296)
       have HA6 := Lib.hid (HA5.out.of_heap (heap_else w5 (gA + 1 + 1) 0 gA (V32 ((T + U) % 4294967296)) (by omega)))
       have HN6 := Lib.hid (HN5.out.of_heap (heap_else w5 (gA + 1 + 1) 0 (gA + 1) (V32 ((T + U) % 4294967296)) (by omega)))
       have HW6 := Lib.hid (HW5.out.of_heap (heap_else w5 (gA + 1 + 1) 0 w.heap.size (V32 ((T + U) % 4294967296)) (by omega)))
       have HS6 := Lib.hid (HS5.out.of_heap (heap_else w5 (gA + 1 + 1) 0 p (V32 ((T + U) % 4294967296)) (by omega)))
       have hbr6 := hbr5.trans (below_setCell (B := w.heap.size) w5 (gA + 1 + 1) 0 (V32 ((T + U) % 4294967296)) (by omega))
       have hlt6 : gA + 1 + 1 < (w5.setCell ⟨gA + 1 + 1, 0, none⟩ (V32 ((T + U) % 4294967296))).heap.size := by rw [World.size_setCell]; exact hlt5
       clear HV5 HA5 HN5 HW5 HS5 hbr5 hlt5
       go_wp2
       go_roundw
       case rel => exact ⟨k + 1, by omega, by go_num, HW6, HV6, HA6, HN6, HS6, hlt6, hbr6⟩
       case measure => (simp [intOf]; try omega)
      ·obtain rfl : k = 64 := by omega
       rw [show ((64 : Nat) : Int) = 64 from rfl]
       have HVl := HV.out.1
       obtain ⟨UL, hUL⟩ : ∃ u, roundsL WL [h0, h1, h2, h3, h4, h5, h6, h7] 64 = u := ⟨_, rfl⟩
       obtain ⟨VL, hVL⟩ : ∃ v, [h0, h1, h2, h3, h4, h5, h6, h7] = v := ⟨_, rfl⟩
       have HUL : Hid (blockL bs [h0, h1, h2, h3, h4, h5, h6, h7] = addL VL UL) := by show _ = _; unfold blockL; rw [HWL.out, hUL, hVL]
       rw [hUL] at HV HVl
       rw [hVL] at HS3
       have hg := below_grown hbr (some p)
       have HVg := Lib.hid HV.out
       have HSg : Hid (SumAt wr p (partL VL UL 0) rv cnt) := by rw [partL_zero HS3.out.1]; exact HS3
       have hgvp : gA + 1 + 1 ≠ p := by omega
       clear HV HS3 HW HA HN hUL hVL hbr
       go_wp2
       go_loopw [159] (fun i wr => ∃ k : Nat, k ≤ 8 ∧ i = .int .i64 k ∧ Hid (SumAt wr p (partL VL UL k) rv cnt) ∧ Hid (VAt wr (gA + 1 + 1) UL) ∧ w.grownBy wr (some p)) (fun i _ => 8 - (intOf i).toNat)
       case atStart => exact ⟨0, Nat.zero_le _, rfl, HSg, HVg, hg⟩
       case round =>
        obtain ⟨k, hk, rfl, HS, HV, hg⟩ := hrel
        by_cases hkl : k < 8
        ·obtain ⟨x, hx⟩ : ∃ x, VL.getD k 0 = x := ⟨_, rfl⟩
         obtain ⟨y, hy⟩ : ∃ y, UL.getD k 0 = y := ⟨_, rfl⟩
         obtain ⟨z, hz⟩ : ∃ z, (x + y) % 4294967296 = z := ⟨_, rfl⟩
         have HN : Hid ((partL VL UL k).set k z = partL VL UL (k + 1)) := by show _ = _; rw [← hz, ← hx, ← hy]; exact partL_succ VL UL k hkl
         have c1 : wr.cell? ⟨p, k, none⟩ = some (V32 x) := by rw [HS.out.word k hkl, partL_at _ _ k hkl, hx]
         have c2 : wr.cell? ⟨gA + 1 + 1, k, none⟩ = some (V32 y) := HV.out.cell k y (by rw [← hy, List.getD_eq_getElem?_getD, List.getElem?_eq_getElem (by rw [HV.out.1]; exact hkl)]; rfl)
         have hwz : IntKind.u32.wrap (x + y) = z := by rw [IntKind.wrap_u32']; exact hz
         have hI : (k : Int) < 8 := by omega
         clear hx hy hz
         go_wp2
         go_still_tail 13, (by kernel_rfl)
         have HSd : Hid (SumAt wr.drew p (partL VL UL k) rv cnt) := HS.out
         have HVd : Hid (VAt wr.drew (gA + 1 + 1) UL) := HV.out
         have hgd : w.grownBy wr.drew (some p) := grown_two hg (below_grown ((Below.refl _ _).drew) (some p))
         change wpList _ _ _ _ _ wr.drew
         clear HS HV hg c2
         have c1 : wr.drew.cell? ⟨p, k, none⟩ = some (V32 x) := c1
         generalize wr.drew = w2 at *
         have f1 := HSd.out.free k
         have HS2 : Hid (SumAt (w2.setCell ⟨p, k, none⟩ (V32 z)) p (partL VL UL (k + 1)) rv cnt) := by rw [← HN.out]; exact HSd.out.put k hkl z
         have HV2 := Lib.hid (HVd.out.of_heap (heap_else w2 p k (gA + 1 + 1) (V32 z) hgvp))
         have hg2 := grown_two hgd (grown_setCell w2 p k (V32 z))
         go_wp2
         go_roundw
         case rel => exact ⟨k + 1, by omega, by go_num, HS2, HV2, hg2⟩
         case measure => (simp [intOf]; try omega)
        ·obtain rfl : k = 8 := by omega
         rw [partL_all] at HS
         go_wp2
         go_end0
         exact ⟨rfl, by rw [HUL.out]; exact HS.out, hg⟩
end Go.Proofs.YtipnhpfpppblhaaGreat
/- digest.Sum.Add: a contract. -/
namespace Go.Proofs.YtipnhpfpppblhaaGreat
open Go.RowKit
abbrev V8 (x : Int) : Value := .int .u8 x
def ByteL (bs : List Int) : Prop := ∀ x ∈ bs, 0 ≤ x ∧ x < 256
theorem v8_cells (z : List Int) : ∀ y ∈ z.map V8, y.oneCell' = true := by
 intro y hy
 obtain ⟨x, _, rfl⟩ := List.mem_map.1 hy
 rfl
def ByAt (w : World) (v : Value) (l : List Int) : Prop := RdAt w v l.length 1 (l.map V8)
theorem ByAt.later {w w' : World} {v : Value} {l : List Int} (h : ByAt w v l) (hb : Below w.heap.size w w') : ByAt w' v l := RdAt.later h hb
def blocksL (V bs : List Int) : Nat → List Int
 | 0 => V
 | k + 1 => blockL ((bs.drop (64 * k)).take 64) (blocksL V bs k)
theorem info_u8 : (Tryz.prog.info? 5).map (fun i => (i.zero, i.size, i.bytes)) = some (some (.int .u8 0), 1, 1) := by kernel_rfl
theorem by_block {w : World} {v : Value} {l : List Int} (h : ByAt w v l) (h0 : 64 ≤ l.length) (hB : ByteL l) : ∃ b o c, v = .slice (some ⟨b, o, none⟩) l.length c ∧ l.length ≤ c ∧ b < w.heap.size ∧ Bytes8 w ⟨b, o, none⟩ (l.take 64) ∧
  ∀ j x, l[j]? = some x → w.cell? ⟨b, o + j, none⟩ = some (V8 x) := by
 obtain ⟨b, o, c, hv, hc, hlt, hcell⟩ := RdAt.some h (by omega)
 have hx : ∀ j x, l[j]? = some x → w.cell? ⟨b, o + j, none⟩ = some (V8 x) := fun j x hx => hcell j _ (by rw [List.getElem?_map, hx]; rfl)
 refine ⟨b, o, c, hv, hc, hlt, ⟨b, o, rfl, hlt, fun j hj => ?_⟩, hx⟩
 have hj' : j < l.length := by rw [List.length_take] at hj; omega
 rw [List.getElem_take]
 exact ⟨hx j _ (List.getElem?_eq_getElem hj'), hB _ (List.getElem_mem hj')⟩
theorem SumAt.setCount {w : World} {p : Nat} {V : List Int} {rv : Value} {cnt : Int} (h : SumAt w p V rv cnt) (c : Int) : SumAt (w.setCell ⟨p, 9, none⟩ (.int .i64 c)) p V rv c := by
 refine ⟨h.1, ?_⟩
 rw [heap_setCell_same w p 9 _ _ _ h.2]
 have hl := h.1
 match V, hl with
 | [x0, x1, x2, x3, x4, x5, x6, x7], _ => rfl
theorem SumAt.setRest {w : World} {p : Nat} {V : List Int} {rv : Value} {cnt : Int} (h : SumAt w p V rv cnt) (r : Value) : SumAt (w.setCell ⟨p, 8, none⟩ r) p V r cnt := by
 refine ⟨h.1, ?_⟩
 rw [heap_setCell_same w p 8 _ _ _ h.2]
 have hl := h.1
 match V, hl with
 | [x0, x1, x2, x3, x4, x5, x6, x7], _ => rfl
def restLen (w : World) (p : Nat) : Nat := match w.cell? ⟨p, 8, none⟩ with | some (.slice _ n _) => n | _ => 0
theorem SumAt.restLen {w : World} {p : Nat} {V : List Int} {a : Option Addr} {n c : Nat} {cnt : Int} (h : SumAt w p V (.slice a n c) cnt) : Go.Proofs.YtipnhpfpppblhaaGreat.restLen w p = n := by
 unfold Go.Proofs.YtipnhpfpppblhaaGreat.restLen; rw [h.rest]
theorem row_apart {w : World} {base p : Nat} {e t : TypeId} {size n : Nat} {v : Value} {xs : List Value} {cs : Array Value} {fr : Nat × Nat} (h : w.ownsRow base e size v n xs) (hp : w.heap[p]? = some (.cells cs t fr)) (hne : e ≠ t) : v.ownBlock ≠ some p := by
 rcases h.2 with ⟨rfl, _⟩ | ⟨g, cap, cur, rfl, _, hg, _⟩
 ·simp [Value.ownBlock]
 ·intro hk
  have : g = p := by simpa [Value.ownBlock] using hk
  subst this
  rw [hg] at hp
  simp only [Option.some.injEq, Obj.cells.injEq] at hp
  exact hne hp.2.1
theorem rd_beside {w w' : World} {v : Value} {n k : Nat} {xs : List Value} {p : Nat} (h : RdAt w v n k xs) (hg : w.grownBy w' (some p)) (hne : v.ownBlock ≠ some p) : RdAt w' v n k xs := by
 refine ⟨h.1, ?_⟩
 rcases h.2 with h | ⟨a, c, rfl, hc, hr⟩
 ·exact .inl h
 ·refine .inr ⟨a, c, rfl, hc, fun hn => ?_⟩
  obtain ⟨b, o, rfl, hlt, hcell⟩ := hr hn
  refine ⟨b, o, rfl, Nat.lt_of_lt_of_le hlt hg.size, fun j x hx => ?_⟩
  rw [World.cell?_of_block (a := ⟨b, o + j, none⟩) (hg.block b hlt (fun e => hne (by rw [← e]; rfl)))]
  exact hcell j x hx
theorem below_row {w w' : World} {base p : Nat} (hg : w.grownBy w' (some p)) (hp : base ≤ p) (hs : base ≤ w.heap.size) : Below base w w' := (Below.refl base w).grown hg hs (fun k hk => by cases hk; exact hp)
set_option maxHeartbeats 3200000 in
set_option maxRecDepth 100000 in
theorem add_any (V rb bs : List Int) (cnt : Int) (rv v : Value) (p base : Nat) (w : World) (hS : SumAt w p V rv cnt) (hown : w.ownsRow base 5 1 rv rb.length (rb.map V8)) (hb : ByAt w v bs) (hB : ByteL (rb ++ bs))
  (hvp : v.ownBlock ≠ some p) (hbp : base ≤ p) (hbw : base ≤ w.heap.size) (hl : rb.length + bs.length ≤ 140737488355328) (hc : 0 ≤ cnt ∧ cnt + bs.length ≤ 4611686018427387904) :
  Calls Tryz.prog 106 #[.pointer (some ⟨p, 0, none⟩), v] w fun e w' => ∃ rv' k, e = .returned (.int .i64 (cnt + bs.length)) ∧ k = (rb ++ bs).length / 64 ∧ SumAt w' p (blocksL V (rb ++ bs) k) rv' (cnt + bs.length) ∧ ByAt w' rv' ((rb ++ bs).drop (64 * k)) ∧ Below base w w' := by
 obtain ⟨a, c, rfl, hcap, _⟩ := RdAt.shape hb
 obtain ⟨i0, hi, hz0, hz1, hz2⟩ := info_parts info_u8
 have hne1 : rv.ownBlock ≠ some p := row_apart hown hS.2 (by decide)
 have g9 := hS.count
 have f9 := hS.free 9
 have hS1 := hS.setCount (cnt + bs.length)
 have hg1 := grown_setCell w p 9 (.int .i64 (cnt + bs.length))
 have hown1 : (w.setCell ⟨p, 9, none⟩ (.int .i64 (cnt + bs.length))).ownsRow base 5 1 rv rb.length (rb.map V8) := hown.kept hg1 (.inr hne1)
 have hb1 : ByAt (w.setCell ⟨p, 9, none⟩ (.int .i64 (cnt + bs.length))) (.slice a bs.length c) bs := rd_beside hb hg1 hvp
 have hbl1 : Below base w (w.setCell ⟨p, 9, none⟩ (.int .i64 (cnt + bs.length))) := below_row hg1 hbp hbw
 have hww : (w.setCell ⟨p, 9, none⟩ (.int .i64 (cnt + bs.length))).heap.size = w.heap.size := World.size_setCell _ _ _
 have hcn : cnt + (bs.length : Int) ≤ 4611686018427387904 := hc.2
 have HB := Lib.hid hB
 clear hS hown hb hg1 hB
 go_enter Tryz.func106, Tryz.ntmps106
 go_upto_region 4 with fail
 clear g9 f9
 generalize w.setCell ⟨p, 9, none⟩ (.int .i64 (cnt + bs.length)) = w1 at *
 generalize hC : cnt + (bs.length : Int) = C at *
 have HC := Lib.hid hC
 clear hC
 have g8 := hS1.rest
 go_wp2_with (at_builtin; (refine wpList_append_rd rfl (.tmp 20) (.tmp 21) 100 rfl base 5 i0 (.int .u8 0) 1 1 Tryz.underlying100 hi hz0 hz1 hz2 rfl (by decide) _ _ _ rfl hown1 _ bs.length (bs.map V8) rfl hb1 (v8_cells bs) (by unfold maxLen; omega) (by omega) (by omega) ?_); intro v2 w2 hown2 hgrow2; obtain ⟨a2, c2, rfl, hc2, _⟩ := RdAt.shape (RdAt.own hown2); have hS2 := hS1.of_heap (hgrow2.block p hS1.lt (fun e => hne1 e.symm)); have g8 := hS2.rest; have f8 := hS2.free 8)
 have hne2 := row_apart hown2 hS2.2 (by decide)
 have hbl2 : Below base w w2 := hbl1.trans ((Below.refl base w1).grown hgrow2 (by omega) (fun k hk => (hown1.lt k hk).1))
 have hbs2 : base ≤ w2.heap.size := by have := hgrow2.size; omega
 have hS3 := hS2.setRest (.slice a2 (rb.length + bs.length) c2)
 have hg3 := grown_setCell w2 p 8 (.slice a2 (rb.length + bs.length) c2)
 have hrd3 := rd_beside (RdAt.own hown2) hg3 hne2
 have hbl3 : Below base w (w2.setCell ⟨p, 8, none⟩ (.slice a2 (rb.length + bs.length) c2)) := hbl2.trans (below_row hg3 hbp hbs2)
 have hbs3 : base ≤ (w2.setCell ⟨p, 8, none⟩ (.slice a2 (rb.length + bs.length) c2)).heap.size := by rw [World.size_setCell]; exact hbs2
 clear hS1 hS2 hown1 hown2 hgrow2 hbl1 hbl2 hbs2 hg3 g8 f8 hb1 hww
 generalize w2.setCell ⟨p, 8, none⟩ (.slice a2 (rb.length + bs.length) c2) = w3 at *
 obtain ⟨BS, hBS⟩ : ∃ l, rb ++ bs = l := ⟨_, rfl⟩
 have hBl : rb.length + bs.length = BS.length := by rw [← hBS, List.length_append]
 have hrd : ByAt w3 (.slice a2 BS.length c2) (BS.drop (64 * 0)) := by
  have e : rb.map V8 ++ bs.map V8 = BS.map V8 := by rw [← hBS, List.map_append]
  rw [hBl, e] at hrd3
  exact hrd3
 rw [hBl] at hS3 hne2
 rw [hBS] at HB
 have hSl : SumAt w3 p (blocksL V BS 0) (.slice a2 BS.length c2) C := hS3
 have hblen : Hid ((rb ++ bs) = BS) := Lib.hid hBS
 have hBl2 : BS.length ≤ 140737488355328 := by omega
 clear hrd3 hS3 hBS hBl
 have hrd0 : Hid (ByAt w3 (.slice a2 BS.length c2) (BS.drop (64 * 0))) := Lib.hid hrd
 have hSl0 := Lib.hid hSl
 clear hrd hSl
 go_wp2
 go_loopw [25] (fun _ wr => ∃ (k n c' : Nat) (a' : Option Addr), n + 64 * k = BS.length ∧ Hid (SumAt wr p (blocksL V BS k) (.slice a' n c') C) ∧ Hid (ByAt wr (.slice a' n c') (BS.drop (64 * k))) ∧ (Value.slice a' n c').ownBlock ≠ some p ∧ Below base w wr ∧ base ≤ wr.heap.size) (fun _ wr => restLen wr p)
 case atStart => exact ⟨0, BS.length, c2, a2, by omega, hSl0, hrd0, hne2, hbl3, hbs3⟩
 case round =>
  obtain ⟨k, n, c', a', hn, HS, HR, hne, hbl, hbs⟩ := hrel
  have hdl : (BS.drop (64 * k)).length = n := by rw [List.length_drop]; omega
  have hrl := HS.out.restLen
  have g8 := HS.out.rest
  by_cases h64 : 64 ≤ n
  ·have hBk : ByteL (BS.drop (64 * k)) := fun x hx => HB.out x (List.mem_of_mem_drop hx)
   obtain ⟨b, o, c'', hv, hcc, hlt, h8, hcell⟩ := by_block HR.out (by omega) hBk
   rw [hdl] at hv hcc
   cases hv
   have hbp2 : b ≠ p := fun e => hne (by rw [e]; rfl)
   have hround := round_any ((BS.drop (64 * k)).take 64) (blocksL V BS k) p ⟨b, o, none⟩ c' wr (by rw [List.length_take]; omega) h8 (.slice (some ⟨b, o, none⟩) n c') C HS.out
   have hI1 : (64 : Int) ≤ (n : Int) := by omega
   have hI2 : (64 : Int) ≤ (c' : Int) := by omega
   have hI3 : (n : Int) ≤ (c' : Int) := by omega
   have HCELL := Lib.hid hcell
   clear hcell h8 hBk
   go_wp2_with fail
   refine hround.mono ?_
   rintro e w4 ⟨rfl, hS4, hg4⟩
   have hbl4 := hbl.trans (below_row hg4 hbp hbs)
   have hbs4 : base ≤ w4.heap.size := Nat.le_trans hbs hg4.size
   have g8' := hS4.rest
   have f8 := hS4.free 8
   have hb4 : b < w4.heap.size := Nat.lt_of_lt_of_le hlt hg4.size
   have hc4 : Hid (∀ j x, (BS.drop (64 * k))[j]? = some x → w4.cell? ⟨b, o + j, none⟩ = some (V8 x)) := Lib.hid (fun j x hx => by
    rw [World.cell?_of_block (a := ⟨b, o + j, none⟩) (hg4.block b hlt (fun e => hbp2 (by cases e; rfl)))]
    exact HCELL.out j x hx)
   have hst : ∀ (oa : Option Addr) (c9 : Nat), n - 64 ≤ c9 → (∃ a9, oa = some a9 ∧ (0 < n - 64 → a9 = ⟨b, o + 64, none⟩) ∧ a9.block = b) → (∃ (k n' c' : Nat) (a' : Option Addr), n' + 64 * k = BS.length ∧ Hid (SumAt (w4.setCell ⟨p, 8, none⟩ (.slice oa (n - 64) c9)) p (blocksL V BS k) (.slice a' n' c') C) ∧ Hid (ByAt (w4.setCell ⟨p, 8, none⟩ (.slice oa (n - 64) c9)) (.slice a' n' c') (BS.drop (64 * k))) ∧ (Value.slice a' n' c').ownBlock ≠ some p ∧ Below base w (w4.setCell ⟨p, 8, none⟩ (.slice oa (n - 64) c9)) ∧ base ≤ (w4.setCell ⟨p, 8, none⟩ (.slice oa (n - 64) c9)).heap.size) := by
    rintro oa c9 h9 ⟨a9, rfl, ha, hab⟩
    have hg9 := grown_setCell w4 p 8 (.slice (some a9) (n - 64) c9)
    refine ⟨k + 1, n - 64, c9, some a9, by omega, Lib.hid (hS4.setRest _), Lib.hid ?_, ?_, hbl4.trans (below_row hg9 hbp hbs4), by rw [World.size_setCell]; exact hbs4⟩
    ·refine ⟨by simp, .inr ⟨a9, c9, by rw [List.length_drop]; congr 1; omega, by rw [List.length_drop]; omega, fun h0 => ?_⟩⟩
     rw [List.length_drop] at h0
     refine ⟨b, o + 64, ha (by omega), by rw [World.size_setCell]; exact hb4, fun j x hx => ?_⟩
     rw [World.cell?_of_block (a := ⟨b, o + 64 + j, none⟩) (hg9.block b hb4 (fun e => hbp2 (by cases e; rfl)))]
     rw [List.getElem?_map, Option.map_eq_some_iff] at hx
     obtain ⟨y, hy, rfl⟩ := hx
     have := hc4.out (64 + j) y (by rw [List.getElem?_drop] at hy ⊢; rw [← hy]; congr 1; omega)
     rw [Nat.add_assoc]; exact this
    ·intro e
     have : a9.block = p := by simpa [Value.ownBlock] using e
     exact hbp2 (by rw [← hab, this])
   have HST := Lib.hid hst
   have hrl2 : ∀ (a9 : Option Addr) (c9 : Nat), Go.Proofs.YtipnhpfpppblhaaGreat.restLen (w4.setCell ⟨p, 8, none⟩ (.slice a9 (n - 64) c9)) p = n - 64 := fun a9 c9 => (hS4.setRest (.slice a9 (n - 64) c9)).restLen
   have HRL := Lib.hid hrl2
   clear hst hrl2 hS4 hg4 HS HR hround g8 hbl HCELL
   go_wp2
   go_roundw
   case rel => exact HST.out _ _ (by omega) (by split; exact ⟨_, rfl, fun h => by omega, rfl⟩; exact ⟨_, rfl, fun _ => rfl, rfl⟩)
   case measure => rw [HRL.out, hrl]; omega
  ·have hI1 : (n : Int) < 64 := by omega
   have g9 := HS.out.count
   clear hrl
   go_wp2
   go_ret
   rw [HC.out, hblen.out]
   exact ⟨_, k, rfl, by omega, HS.out, HR.out, hbl⟩
end Go.Proofs.YtipnhpfpppblhaaGreat
