/- AlertSees: the card: whatever the arguments, the law returns true and its arguments read as they did. No condition. -/
import Derived.Test.YtipnhpfpppblhaaTopAlertSeesCardP0
import Derived.Deep.OwnRows
import Derived.Great.Ranges
import Derived.Test.YtipnhpfpppblhaaHeld
import Derived.Test.YtipnhpfpppblhaaRefJ
import Derived.Test.YtipnhpfpppblhaaAls
import Derived.ProofKit
import Derived.OpenShut
import Derived.Deep.Slices
import Derived.Deep.Fields
import Derived.ChangeSame
import Derived.Laws.IdiomArrays
import Derived.Maps.AppendAt
import Derived.SliceStrings
import Derived.Test.YtipnhpfpppblhaaHeldT
import Derived.Test.YtipnhpfpppblhaaShelf
import Derived.Sort.WalkA
import Derived.Sort.AssemblyPlain
import Derived.WalkKit
import Derived.BigGuard
import Derived.BigCall
import Derived.CellFam
import Derived.Deep.Draws
import Derived.Deep.QuietTactic
import Derived.BigQuiet
import Derived.Shelf.SlIter.Collect
import Derived.RangeFuncFrom
import Derived.RangeFuncBox
import Derived.RangeFuncNested
import Derived.Maps.OwnIn
import Derived.Sort.OwnSorted
import Derived.Test.YtipnhpfpppblhaaBase
import Derived.Lib.Hide
import Derived.Test.YtipnhpfpppblhaaAlRaise
import Derived.DeepKeys4
import Derived.Maps.Ext
import Derived.Maps.OwnOps
import Derived.Test.YtipnhpfpppblhaaRows
import Derived.Test.YtipnhpfpppblhaaBox
import Derived.WalkSpells
import Derived.Laws.Rows
import Derived.Laws.Tables
import Derived.Laws.CopyOwn
import Derived.Deep.DeepCutAuto

/- The reference's atom: a contract (with either's for less fuel). -/
namespace Go.Proofs.Ytipnhpfpppblhaa
open Go.RowKit
structure Ca (w0 w : World) (nb g : Nat) (s : ByteArray) (b : Bs) (cs : List Value) : Prop where
  rdr : RdrAt w g s b
  nd : NdAt w nb cs
  res : w.there w0.heap.size 0 258
  kr : Kr g w0 w
  gl : g < w0.heap.size
  nb : w0.heap.size < nb
theorem Ca.below {w0 w w' : World} {nb g : Nat} {s : ByteArray} {b : Bs} {cs : List Value} (h : Ca w0 w nb g s b cs) (hb : Below w.heap.size w w') : Ca w0 w' nb g s b cs :=
  ⟨h.rdr.below hb, h.nd.later hb, there_later h.res hb (by have := h.nd.lt; have := h.nb; omega), h.kr.trans (Kr.of_below hb), h.gl, h.nb⟩
theorem Ca.stp {w0 w w' : World} {nb g : Nat} {s : ByteArray} {b b' : Bs} {cs : List Value} (h : Ca w0 w nb g s b cs) (hr : RdrAt w' g s b') (hk : Kr g w w') : Ca w0 w' nb g s b' cs :=
  ⟨hr, h.nd.kr hk (by have := h.gl; have := h.nb; omega), there_kept h.res (hk.block _ (by have := h.nd.lt; have := h.nb; omega) (by have := h.gl; omega)), h.kr.trans hk, h.gl, h.nb⟩
theorem Ca.step {w0 w : World} {nb g : Nat} {s : ByteArray} {b : Bs} {cs : List Value} (h : Ca w0 w nb g s b cs) : Ca w0 (w.setCell ⟨g, 1, none⟩ (.int .i64 ((b.pos : Int) + 1))) nb g s (stepM b) cs :=
  h.stp h.rdr.step (Kr.set g w 1 _)
theorem Ca.put {w0 w : World} {nb g : Nat} {s : ByteArray} {b : Bs} {cs : List Value} (h : Ca w0 w nb g s b cs) (j : Nat) (v : Value) (hj : j < 258) : Ca w0 (w.setCell ⟨nb, j, none⟩ v) nb g s b (cs.set j v) :=
  ⟨h.rdr.kept (by simp) (Below.heap_setCell w _ v g (by show g ≠ nb; have := h.gl; have := h.nb; omega)), h.nd.set j v hj, rthere_set h.res _ _ _, h.kr.new _ _ _ (by have := h.nb; omega), h.gl, h.nb⟩
theorem Ca.all {w0 w : World} {nb g : Nat} {s : ByteArray} {b : Bs} {cs : List Value} (h : Ca w0 w nb g s b cs) (cs' : List Value) (hl : cs'.length = 258) : Ca w0 (w.setCells nb 0 cs') nb g s b cs' :=
  ⟨h.rdr.kept (by rw [size_setCells]; exact Nat.le_refl _) (heap_setCells _ _ _ (by have := h.gl; have := h.nb; omega) _ _), h.nd.stored hl, World.there_setCells h.res _ _ _, h.kr.news _ (by have := h.nb; omega) _ _, h.gl, h.nb⟩
theorem Ca.done {w0 w : World} {nb g : Nat} {s : ByteArray} {b : Bs} {cs : List Value} (h : Ca w0 w nb g s b cs) (vs : List Value) : RdrAt (w.setCells w0.heap.size 0 vs) g s b ∧ Kr g w0 (w.setCells w0.heap.size 0 vs) :=
  ⟨h.rdr.kept (by rw [size_setCells]; exact Nat.le_refl _) (heap_setCells _ _ _ (by have := h.gl; omega) _ _), h.kr.news _ (Nat.le_refl _) _ _⟩
theorem Ca.new {w0 w : World} {g : Nat} {s : ByteArray} {b : Bs} (h : RdrAt w g s b) (hr : w.there w0.heap.size 0 258) (hk : Kr g w0 w) (hg : g < w0.heap.size) (hl : w0.heap.size < w.heap.size) (t : TypeId) : Ca w0 ((w.alloc (.cells (zeroN 0) t)).setCells w.heap.size 0 (nodeC 0 noB nilS)) w.heap.size g s b (nodeC 0 noB nilS) := by
  have hb := alloc_below w (.cells (zeroN 0) t)
  refine ⟨(h.below hb).kept (by rw [size_setCells]; exact Nat.le_refl _) (heap_setCells _ _ _ (by omega) _ _), (NdAt.new w 0 t).stored (nodeC_len _ _ _), there_kept (there_later hr hb hl) (heap_setCells _ _ _ (by omega) _ _), (hk.trans (Kr.of_below hb)).news _ (by omega) _ _, hg, hl⟩
theorem oneS_eq (c : Nat) : (fun x => if x = c then true else noB x) = oneS c := by
  funext x
  unfold oneS addS noS noB
  by_cases h : x = c
  · subst h; rw [if_pos rfl, decide_eq_true (Nat.le_refl x)]; rfl
  · rw [if_neg h]
    by_cases h2 : c ≤ x
    · rw [decide_eq_true h2, decide_eq_false (show ¬ x ≤ c by omega)]; rfl
    · rw [decide_eq_false h2]; rfl
theorem dot_all (kv : Value) : nodeC 0 (addU noB 0 256) kv = nodeC 0 (turnS noS) kv := nodeC_congr (fun c hc => by unfold addU turnS noB noS; rw [decide_eq_true (Nat.zero_le c), decide_eq_true hc]; rfl) kv
theorem Back.mk1 {w w' : World} {g d : Nat} {s : ByteArray} {b b' : Bs} {S T : Nat → Bool} (hr : RdrAt w' g s b') (he : b'.err = b.err) (hp : b'.pos ≤ s.size + 12 - d) (ht : b'.err = 0 → b'.pos = b.pos ∧ nodeC 0 S nilS = nodeC 0 T nilS) (hk : Kr g w w') : Back w w' g s d (oneM b T) (.set T) (nodeC 0 S nilS) b' :=
  ⟨nodeC_len _ _ _, oneN _ _, hr, he, hp, fun h0 => ⟨(ht h0).1, by rw [(ht h0).2]; exact .set T nilS⟩, hk⟩
set_option maxHeartbeats 12800000 in
set_option maxRecDepth 100000 in
theorem atom_is (n : Nat) (heither : NdK 97 .either n) : NdK 114 .atom (n + 1) := by
  intro m hm w g s d b h he hd hp hat hs hf
  simp only [fuelM] at hf
  obtain ⟨m, rfl⟩ : ∃ m', m = m' + 1 := ⟨m - 1, by omega⟩
  obtain ⟨hps, hn124, hn41⟩ := hat rfl
  obtain ⟨r, hr⟩ : ∃ r, runM s (m + 1) .atom d b = r := ⟨_, rfl⟩
  obtain ⟨a, ha⟩ : ∃ a, reM s (m + 1) .atom .no d b = a := ⟨_, rfl⟩
  rw [hr, ha]
  rw [runM] at hr
  rw [reM] at ha
  (try dsimp only at hr ha)
  have hpk : peekM s b = some (byteM s b.pos) := rpeek_of he hps
  have hcl := byteM_lt s b.pos
  obtain ⟨c, hc⟩ : ∃ c, byteM s b.pos = c := ⟨_, rfl⟩
  rw [hc] at hr ha hpk hn124 hn41 hcl
  have HR := Lib.hid hr
  have HA := Lib.hid ha
  have HE := Lib.hid heither
  have hb1 : b.pos + 1 ≤ (stepM b).pos := Nat.le_refl _
  have hb1q : (stepM b).pos ≤ s.size := hps
  have hb1e : (stepM b).err = 0 := he
  have hgl := h.lt
  have hbx := alloc_below w (.cells (zeroN 0) 134)
  have hrx := h.below hbx
  have hth := there_new w 0 134
  have hsx : (w.alloc (.cells (zeroN 0) 134)).heap.size = w.heap.size + 1 := World.size_alloc _ _
  have kf := fun W b (h : RdrAt W g s b) => rfail_is W g s b 2 h
  have kf3 := fun W b (h : RdrAt W g s b) => rfail_is W g s b 3 h
  have KF := Lib.hid kf
  have KF3 := Lib.hid kf3
  have k1 := next_is (w.alloc (.cells (zeroN 0) 134)) g s b _ hpk hrx (by omega)
  have HB0 := Lib.hid hrx
  have HT0 := Lib.hid hth
  have HK0 := Lib.hid (Kr.of_below (g := g) hbx)
  clear hr ha heither hc h hat hpk hbx hrx hth kf kf3
  go_enter Try.func114, Try.ntmps114
  go_upto_region 1 with (with_reducible refine wpList_allocN rfl rfl _ rfl w.heap.size rfl ?_)
  go_wp2_with fail
  refine k1.mono ?_
  rintro e w1 ⟨rfl, hb⟩
  have c1 := (HB0.out.below hb).c1
  have f1 := there_free (HB0.out.below hb).th 1 (by omega)
  have h2 := (HB0.out.below hb).step
  have h2t := rthere_set (there_later HT0.out hb (by omega)) g 1 (.int .i64 ((b.pos : Int) + 1))
  have h2k := (HK0.out.trans (Kr.of_below (g := g) hb)).trans (Kr.set g w1 1 (.int .i64 ((b.pos : Int) + 1)))
  have h2s : w.heap.size < (w1.setCell ⟨g, 1, none⟩ (.int .i64 ((b.pos : Int) + 1))).heap.size := by rw [World.size_setCell]; have := hb.size; omega
  clear k1 hb HB0 HT0 HK0 hsx
  go_upto_region 3 with fail
  change Code.wp _ _ _ _ (w1.setCell ⟨g, 1, none⟩ (.int .i64 ((b.pos : Int) + 1)))
  clear c1 f1
  obtain ⟨b1, hb1x⟩ : ∃ b1, stepM b = b1 := ⟨_, rfl⟩
  rw [hb1x] at h2 hb1 hb1q hb1e HR HA
  generalize (w1.setCell ⟨g, 1, none⟩ (.int .i64 ((b.pos : Int) + 1))) = w2 at *
  have hca := Ca.new h2 h2t h2k hgl h2s 134
  have HTH : Hid ((w2.alloc (.cells (zeroN 0) 134)).there w2.heap.size 0 258) := Lib.hid (there_new w2 0 134)
  have HC := Lib.hid hca
  clear hca h2 h2t h2k hb1x
  go_upto_region 4 with (first
    | (with_reducible refine wpList_allocN rfl rfl _ rfl w2.heap.size rfl ?_)
    | ((with_reducible refine wpList_buildN rfl _ rfl _ rfl (zeroN 0) ?hf ?_); (case hf => exact node_built0))
    | ((with_reducible refine wpList_storeN rfl _ _ rfl _ rfl w2.heap.size 0 (nodeC 0 noB nilS) ?hx ?hy ?ht (nodeC_len _ _ _) (oneN _ _) ?_); (case hx => rfl); (case hy => rfl); (case ht => exact HTH.out)))
  clear HTH
  generalize w2.heap.size = nb at *
  refine wp_forget2 (fun W => Ca w W nb g s b1 (nodeC 0 noB nilS)) HC.out (fun w3 hw3 => ?_)
  clear HC
  have HC := Lib.hid hw3
  clear hw3
  by_cases e40 : c = 40
  · subst e40
    have hr := HR.out
    have ha := HA.out
    rw [if_pos rfl] at hr ha
    by_cases ed : d = 8
    · subst ed
      rw [if_pos rfl] at hr ha
      subst hr ha
      have kq := KF3.out _ _ HC.out.rdr
      go_wp2_with fail
      refine kq.mono ?_
      rintro e w4 ⟨rfl, hB, hs4⟩
      have H4 := Lib.hid (HC.out.stp hB hs4)
      clear kq hB hs4
      go_wp2_with (first
      | ((with_reducible refine wpList_loadN rfl _ rfl _ rfl nb 0 ?hx (nodeC 0 (noB) nilS) ?hc (nodeC_len _ _ _) ?_); (case hx => rfl); (case hc => exact H4.out.nd.at_))
      | ((with_reducible refine wpList_storeN rfl _ _ rfl _ rfl w.heap.size 0 (nodeC 0 (noB) nilS) ?hx ?hy ?ht (nodeC_len _ _ _) (oneN _ _) ?_); (case hx => rfl); (case hy => rfl); (case ht => exact H4.out.res)))
      refine bodyPost_ret (results_agg1 rfl _ _ w.heap.size (nodeC 0 (noB) nilS) (.struct _) rfl (World.rangeAt_setCells_same _ _ _ _ (by rw [show (nodeC 0 (noB) nilS).length = 258 from nodeC_len _ _ _]; exact H4.out.res)) Try.underlying134 rfl (by rw [show (nodeC 0 (noB) nilS).length = 258 from nodeC_len _ _ _]; exact node_size)) rfl ?_
      exact ⟨_, _, rfl, Back.mk1 (H4.out.done _).1 rfl (by rw [failM_pos]; omega) (fun h0 => absurd h0 (failM_err (by decide))) (H4.out.done _).2⟩
    · rw [if_neg ed] at hr ha
      have hd8 : (d : Int) < 8 := by omega
      have hwd : IntKind.i64.wrap ((d : Int) + 1) = (((d + 1 : Nat)) : Int) := by rw [IntWalk.i64_in _ ⟨by omega, by omega⟩]; rfl
      have hke := HE.out m (by omega) w3 g s (d + 1) b1 HC.out.rdr hb1e (by omega) (by omega) (fun h => by cases h) hs (by simp only [fuelM]; omega)
      obtain ⟨rr, hrr⟩ : ∃ rr, runM s m .either (d + 1) b1 = rr := ⟨_, rfl⟩
      rw [hrr] at hr hke
      rw [ha] at hke
      clear hrr
      go_wp2_with fail
      refine hke.mono ?_
      rintro e w4 ⟨cs, b', rfl, hbk⟩
      have H4 := Lib.hid (HC.out.stp hbk.rdr hbk.kr)
      have HBK := Lib.hid hbk
      have hnb3 := HC.out.nd.lt
      have hnbw := HC.out.nb
      have hcl2 := hbk.len
      clear hke hbk
      go_upto_region 10 with ((with_reducible refine wpList_storeN rfl _ _ rfl _ rfl nb 0 cs ?hx ?hy ?ht HBK.out.len HBK.out.one ?_); (case hx => rfl); (case hy => rfl); (case ht => exact H4.out.nd.th))
      have hc5 := H4.out.all cs HBK.out.len
      have ht5 : b'.err = 0 → NA (w4.setCells nb 0 cs) (fun q => w3.heap.size ≤ q ∧ q < w4.heap.size) 0 [cs] a := fun h0 => ((HBK.out.tree h0).2).keep (by rw [size_setCells]; exact Nat.le_refl _) (fun q hq _ => heap_setCells _ _ _ (by omega) _ _)
      have hs5 : (w4.setCells nb 0 cs).heap.size = w4.heap.size := size_setCells _ _ _ _
      have HC5 := Lib.hid hc5
      have HT5 := Lib.hid ht5
      have HBE : Hid (b'.err = rr.1.err ∧ (b'.err = 0 → b'.pos = rr.1.pos) ∧ b'.pos ≤ s.size + 12 - (d + 1)) := Lib.hid ⟨HBK.out.err, fun h0 => (HBK.out.tree h0).1, HBK.out.pos⟩
      have HON := Lib.hid HBK.out.one
      have hbp := HBK.out.pos
      clear hc5 ht5 HBK H4 HC
      generalize (w4.setCells nb 0 cs) = w5 at *
      obtain ⟨o, ho⟩ : ∃ o, peekM s b' = o := ⟨_, rfl⟩
      have k2 := next_is w5 g s b' o ho HC5.out.rdr (by omega)
      have HPK := Lib.hid ((peek_congr (s := s) (b := b') (c := rr.1) HBE.out.1 HBE.out.2.1).symm.trans ho)
      have HO := Lib.hid ho
      clear ho
      go_wp2_with fail
      refine k2.mono ?_
      rintro e w6 ⟨rfl, hb6⟩
      have HC6 := Lib.hid (HC5.out.below hb6)
      have HT6 : Hid (b'.err = 0 → NA w6 (fun q => w.heap.size < q ∧ q < w6.heap.size ∧ q ≠ nb ∧ q ≠ g) 0 [cs] a) := Lib.hid (fun h0 => ((HT5.out h0).later hb6).mono (by
        rintro q ⟨h1, h2⟩
        have := hb6.size
        exact ⟨by omega, by omega, by omega, by omega⟩))
      clear k2 hb6 HC5 HT5
      have HRE : Hid (r.1 = closeM s rr.1) := Lib.hid (by rw [← hr])
      clear hr
      obtain ⟨B, hB⟩ : ∃ B, decide (o ≠ some 41) = B := ⟨_, rfl⟩
      go_upto_region 11 with fail
      go_cut [48] from 43 (fun v wx => v = .bool B ∧ wx = w6)
      case first =>
        rcases o with _ | c2
        · go_wp2
          go_meet
          exact ⟨by rw [← hB]; rfl, rfl⟩
        · by_cases g1 : c2 = 41
          · subst g1
            go_wp2
            go_meet
            exact ⟨by rw [← hB]; rfl, rfl⟩
          · have g1b : ((c2 : Int) != 41) = true := by simp; omega
            go_wp2
            go_meet
            exact ⟨by rw [← hB, decide_eq_true (by simpa using g1)], rfl⟩
      case rest =>
      obtain ⟨rfl, rfl⟩ := hcut
      go_upto_if 48 with fail
      go_cut [] from 43 (fun wx => ∃ bz : Bs, bz.err = (closeM s rr.1).err ∧ bz.pos + 1 ≤ s.size + 12 - d ∧ (bz.err = 0 → bz.pos = rr.1.pos) ∧ Hid (Ca w wx nb g s bz cs) ∧ Hid (bz.err = 0 → NA wx (fun q => w.heap.size < q ∧ q < wx.heap.size ∧ q ≠ nb ∧ q ≠ g) 0 [cs] a))
      case first =>
        cases B with
        | true =>
          have hne : ¬ peekM s rr.1 = some 41 := by rw [HPK.out]; exact of_decide_eq_true hB
          have kq := KF.out _ _ HC6.out.rdr
          clear hB
          go_wp2_with fail
          refine kq.mono ?_
          rintro e w7 ⟨rfl, hB7, hs7⟩
          have H7 := Lib.hid (HC6.out.stp hB7 hs7)
          clear kq hB7 hs7
          go_wp2
          go_meet
          refine ⟨failM b' 2, ?_, ?_, fun h0 => absurd h0 (failM_err (by decide)), H7, Lib.hid (fun h0 => absurd h0 (failM_err (by decide)))⟩
          · unfold closeM
            rw [if_neg hne]
            show _ = (failM rr.1 2).err
            unfold failM
            rw [HBE.out.1]
            split <;> first | rfl | exact HBE.out.1
          · rw [failM_pos]; have := HBE.out.2.2; omega
        | false =>
          have heq : peekM s rr.1 = some 41 := by rw [HPK.out]; have := of_decide_eq_false hB; simpa using this
          clear hB
          go_wp2
          go_meet
          refine ⟨b', ?_, by have := HBE.out.2.2; omega, HBE.out.2.1, HC6, HT6⟩
          unfold closeM
          rw [if_pos heq]
          exact HBE.out.1
      case rest =>
      obtain ⟨bz, hz1, hz2, hz3, HC7, HT7⟩ := hcut
      clear HC6 HT6 hB
      have c1 := HC7.out.rdr.c1
      have f1 := there_free HC7.out.rdr.th 1 (by omega)
      have hgs := HC7.out.rdr.lt
      go_upto_region 14 with fail
      refine wp_forget2 (fun W => Ca w W nb g s (stepM bz) cs ∧ (bz.err = 0 → NA W (fun q => w.heap.size < q ∧ q < W.heap.size ∧ q ≠ nb ∧ q ≠ g) 0 [cs] a)) ⟨HC7.out.step, fun h0 => ((HT7.out h0).keep (by simp) (fun q hq _ => Below.heap_setCell _ _ _ q hq.2.2.2)).mono (fun q hq => ⟨hq.1, by simpa using hq.2.1, hq.2.2⟩)⟩ (fun w8 hw8 => ?_)
      have HC8 := Lib.hid hw8.1
      have HT8 := Lib.hid hw8.2
      clear hw8 HC7 HT7 c1 f1
      go_wp2_with (first
      | ((with_reducible refine wpList_loadN rfl _ rfl _ rfl nb 0 ?hx cs ?hc hcl2 ?_); (case hx => rfl); (case hc => exact HC8.out.nd.at_))
      | ((with_reducible refine wpList_storeN rfl _ _ rfl _ rfl w.heap.size 0 cs ?hx ?hy ?ht hcl2 HON.out ?_); (case hx => rfl); (case hy => rfl); (case ht => exact HC8.out.res)))
      refine bodyPost_ret (results_agg1 rfl _ _ w.heap.size cs (.struct _) rfl (World.rangeAt_setCells_same _ _ _ _ (by rw [show cs.length = 258 from hcl2]; exact HC8.out.res)) Try.underlying134 rfl (by rw [show cs.length = 258 from hcl2]; exact node_size)) rfl ?_
      refine ⟨cs, stepM bz, rfl, hcl2, HON.out, (HC8.out.done _).1, ?_, ?_, fun h0 => ⟨?_, ((HT8.out h0).keep (by rw [size_setCells]; exact Nat.le_refl _) (fun q hq _ => heap_setCells _ _ _ (by omega) _ _)).mono (fun q hq => ⟨by omega, by rw [size_setCells]; exact hq.2.1⟩)⟩, (HC8.out.done _).2⟩
      · rw [HRE.out]; exact hz1
      · simp only [stepM]; omega
      · rw [HRE.out, closeM_pos]
        have := hz3 h0
        simp only [stepM]; omega
  · have hr := HR.out
    have ha := HA.out
    rw [if_neg e40] at hr ha
    have e40b : ((c : Int) == 40) = false := by rw [beq_eq_false_iff_ne]; omega
    clear HR HA HE KF3
    by_cases e91 : c = 91
    · subst e91
      rw [if_pos rfl] at hr ha
      subst hr ha
      have kc := rclass_is w3 g s b1 HC.out.rdr (by omega) (by omega)
      go_wp2_with fail
      refine kc.mono ?_
      rintro e w4 ⟨S', b', rfl, h1, h2, h3, h4, hk4⟩
      have H4 := Lib.hid (HC.out.stp h1 hk4)
      clear kc HC h1 hk4
      go_wp2_with (first
      | ((with_reducible refine wpList_loadN rfl _ rfl _ rfl nb 0 ?hx (nodeC 0 (S') nilS) ?hc (nodeC_len _ _ _) ?_); (case hx => rfl); (case hc => exact H4.out.nd.at_))
      | ((with_reducible refine wpList_storeN rfl _ _ rfl _ rfl w.heap.size 0 (nodeC 0 (S') nilS) ?hx ?hy ?ht (nodeC_len _ _ _) (oneN _ _) ?_); (case hx => rfl); (case hy => rfl); (case ht => exact H4.out.res)))
      refine bodyPost_ret (results_agg1 rfl _ _ w.heap.size (nodeC 0 (S') nilS) (.struct _) rfl (World.rangeAt_setCells_same _ _ _ _ (by rw [show (nodeC 0 (S') nilS).length = 258 from nodeC_len _ _ _]; exact H4.out.res)) Try.underlying134 rfl (by rw [show (nodeC 0 (S') nilS).length = 258 from nodeC_len _ _ _]; exact node_size)) rfl ?_
      exact ⟨_, b', rfl, Back.mk1 (H4.out.done _).1 h2 (by omega) h4 (H4.out.done _).2⟩
    rw [if_neg e91] at hr ha
    have e91b : ((c : Int) == 91) = false := by rw [beq_eq_false_iff_ne]; omega
    by_cases e46 : c = 46
    · subst e46
      rw [if_pos rfl] at hr ha
      subst hr ha
      go_wp2
      go_loopw [10] (fun v wr => ∃ k : Nat, v = .int .i64 (k : Nat) ∧ k ≤ 256 ∧ Hid (Ca w wr nb g s b1 (nodeC 0 (addU noB 0 k) nilS))) (fun v _ => 257 - (intOf v).toNat)
      case atStart => exact ⟨0, rfl, by omega, Lib.hid (by rw [addU_start]; exact HC.out)⟩
      case round =>
        clear HC
        obtain ⟨k, rfl, hk, HT⟩ := hrel
        by_cases hk2 : k < 256
        · have n1 := HT.out.nd.cell (nodeC_set 0 (addU noB 0 k) nilS k hk2)
          have f1 := HT.out.nd.free (j := 1 + k) (by omega)
          have hki0 : (0 : Int) ≤ (k : Int) := by omega
          have hki1 : (k : Int) < 256 := by omega
          go_wp2
          go_roundw
          case rel => exact ⟨k + 1, by go_num, by omega, Lib.hid (by
            have := HT.out.put (1 + k) (.bool true) (by omega)
            rw [nodeC_setB 0 _ _ k hk2, addU_succ (Nat.zero_le k)] at this
            exact this)⟩
          case measure => (simp [intOf]; try omega)
        · obtain rfl : k = 256 := by omega
          go_wp2_with (first
      | ((with_reducible refine wpList_loadN rfl _ rfl _ rfl nb 0 ?hx (nodeC 0 (addU noB 0 256) nilS) ?hc (nodeC_len _ _ _) ?_); (case hx => rfl); (case hc => exact HT.out.nd.at_))
      | ((with_reducible refine wpList_storeN rfl _ _ rfl _ rfl w.heap.size 0 (nodeC 0 (addU noB 0 256) nilS) ?hx ?hy ?ht (nodeC_len _ _ _) (oneN _ _) ?_); (case hx => rfl); (case hy => rfl); (case ht => exact HT.out.res)))
          refine bodyPost_ret (results_agg1 rfl _ _ w.heap.size (nodeC 0 (addU noB 0 256) nilS) (.struct _) rfl (World.rangeAt_setCells_same _ _ _ _ (by rw [show (nodeC 0 (addU noB 0 256) nilS).length = 258 from nodeC_len _ _ _]; exact HT.out.res)) Try.underlying134 rfl (by rw [show (nodeC 0 (addU noB 0 256) nilS).length = 258 from nodeC_len _ _ _]; exact node_size)) rfl ?_
          exact ⟨_, b1, rfl, Back.mk1 (HT.out.done _).1 rfl (by omega) (fun _ => ⟨rfl, dot_all _⟩) (HT.out.done _).2⟩
    rw [if_neg e46] at hr ha
    have e46b : ((c : Int) == 46) = false := by rw [beq_eq_false_iff_ne]; omega
    by_cases e92 : c = 92
    · subst e92
      rw [if_pos rfl] at hr ha
      obtain ⟨o, ho⟩ : ∃ o, peekM s b1 = o := ⟨_, rfl⟩
      have k2 := next_is w3 g s b1 o ho HC.out.rdr (by omega)
      rw [ho] at hr ha
      have hlt : ∀ x, o = some x → x < 256 := fun x hx => rpeek_lt (ho.trans hx)
      clear ho
      go_wp2_with fail
      refine k2.mono ?_
      rintro e w4 ⟨rfl, hb4⟩
      have H4 := Lib.hid (HC.out.below hb4)
      clear k2 hb4 HC
      rcases o with _ | x
      · dsimp only at hr ha
        subst hr ha
        have kq := KF.out _ _ H4.out.rdr
        go_wp2_with fail
        refine kq.mono ?_
        rintro e w5 ⟨rfl, hB5, hs5⟩
        have H5 := Lib.hid (H4.out.stp hB5 hs5)
        have c1 := H5.out.rdr.c1
        have f1 := there_free H5.out.rdr.th 1 (by omega)
        have hp5 : (failM b1 2).pos ≤ b1.pos := by rw [failM_pos]; exact Nat.le_refl _
        clear kq hB5 hs5 H4
        go_upto_region 28 with fail
        refine wp_forget2 (fun W => Ca w W nb g s (stepM (failM b1 2)) (nodeC 0 noB nilS)) H5.out.step (fun w6 hw6 => ?_)
        have H6 := Lib.hid hw6
        clear hw6 H5 c1 f1
        have n1 := H6.out.nd.cell (nodeC_set 0 noB nilS 0 (by omega))
        have f1 := H6.out.nd.free (j := 1) (by omega)
        go_upto_region 29 with fail
        refine wp_forget2 (fun W => Ca w W nb g s (stepM (failM b1 2)) (nodeC 0 (fun x => if x = 0 then true else noB x) nilS)) (by
          have := H6.out.put 1 (.bool true) (by omega)
          rw [show (1 : Nat) = 1 + 0 by rfl, nodeC_setB 0 _ _ 0 (by omega)] at this
          exact this) (fun w7 hw7 => ?_)
        have H7 := Lib.hid hw7
        clear hw7 H6 n1 f1
        go_wp2_with (first
      | ((with_reducible refine wpList_loadN rfl _ rfl _ rfl nb 0 ?hx (nodeC 0 (fun x => if x = 0 then true else noB x) nilS) ?hc (nodeC_len _ _ _) ?_); (case hx => rfl); (case hc => exact H7.out.nd.at_))
      | ((with_reducible refine wpList_storeN rfl _ _ rfl _ rfl w.heap.size 0 (nodeC 0 (fun x => if x = 0 then true else noB x) nilS) ?hx ?hy ?ht (nodeC_len _ _ _) (oneN _ _) ?_); (case hx => rfl); (case hy => rfl); (case ht => exact H7.out.res)))
        refine bodyPost_ret (results_agg1 rfl _ _ w.heap.size (nodeC 0 (fun x => if x = 0 then true else noB x) nilS) (.struct _) rfl (World.rangeAt_setCells_same _ _ _ _ (by rw [show (nodeC 0 (fun x => if x = 0 then true else noB x) nilS).length = 258 from nodeC_len _ _ _]; exact H7.out.res)) Try.underlying134 rfl (by rw [show (nodeC 0 (fun x => if x = 0 then true else noB x) nilS).length = 258 from nodeC_len _ _ _]; exact node_size)) rfl ?_
        exact ⟨_, _, rfl, Back.mk1 (H7.out.done _).1 rfl (by simp only [stepM]; omega) (fun h0 => absurd h0 (failM_err (by decide))) (H7.out.done _).2⟩
      · have hx := hlt x rfl
        (try dsimp only at hr ha)
        subst hr ha
        have c1 := H4.out.rdr.c1
        have f1 := there_free H4.out.rdr.th 1 (by omega)
        go_upto_region 28 with fail
        refine wp_forget2 (fun W => Ca w W nb g s (stepM b1) (nodeC 0 noB nilS)) H4.out.step (fun w6 hw6 => ?_)
        have H6 := Lib.hid hw6
        clear hw6 H4 c1 f1
        have n1 := H6.out.nd.cell (nodeC_set 0 noB nilS x hx)
        have f1 := H6.out.nd.free (j := 1 + x) (by omega)
        go_upto_region 29 with fail
        refine wp_forget2 (fun W => Ca w W nb g s (stepM b1) (nodeC 0 (fun y => if y = x then true else noB y) nilS)) (by
          have := H6.out.put (1 + x) (.bool true) (by omega)
          rw [nodeC_setB 0 _ _ x hx] at this
          exact this) (fun w7 hw7 => ?_)
        have H7 := Lib.hid hw7
        clear hw7 H6 n1 f1
        go_wp2_with (first
      | ((with_reducible refine wpList_loadN rfl _ rfl _ rfl nb 0 ?hx (nodeC 0 (fun y => if y = x then true else noB y) nilS) ?hc (nodeC_len _ _ _) ?_); (case hx => rfl); (case hc => exact H7.out.nd.at_))
      | ((with_reducible refine wpList_storeN rfl _ _ rfl _ rfl w.heap.size 0 (nodeC 0 (fun y => if y = x then true else noB y) nilS) ?hx ?hy ?ht (nodeC_len _ _ _) (oneN _ _) ?_); (case hx => rfl); (case hy => rfl); (case ht => exact H7.out.res)))
        refine bodyPost_ret (results_agg1 rfl _ _ w.heap.size (nodeC 0 (fun y => if y = x then true else noB y) nilS) (.struct _) rfl (World.rangeAt_setCells_same _ _ _ _ (by rw [show (nodeC 0 (fun y => if y = x then true else noB y) nilS).length = 258 from nodeC_len _ _ _]; exact H7.out.res)) Try.underlying134 rfl (by rw [show (nodeC 0 (fun y => if y = x then true else noB y) nilS).length = 258 from nodeC_len _ _ _]; exact node_size)) rfl ?_
        exact ⟨_, _, rfl, Back.mk1 (H7.out.done _).1 rfl (by simp only [stepM]; omega) (fun _ => ⟨rfl, by rw [oneS_eq]⟩) (H7.out.done _).2⟩
    rw [if_neg e92] at hr ha
    have e92b : ((c : Int) == 92) = false := by rw [beq_eq_false_iff_ne]; omega
    by_cases eo : oddB c = true
    · rw [if_pos eo] at hr ha
      subst hr ha
      have h4 : c = 42 ∨ c = 43 ∨ c = 63 ∨ c = 93 := by
        simp only [oddB, postB, Bool.or_eq_true, decide_eq_true_eq] at eo
        omega
      have hc2 : c < 256 := hcl
      clear eo
      have kq := KF.out _ _ HC.out.rdr
      have hp5 : (failM b1 2).pos ≤ b1.pos := by rw [failM_pos]; exact Nat.le_refl _
      rcases h4 with rfl | rfl | rfl | rfl
      · go_wp2_with fail
        refine kq.mono ?_
        rintro e w5 ⟨rfl, hB5, hs5⟩
        have H5 := Lib.hid (HC.out.stp hB5 hs5)
        clear kq hB5 hs5 HC
        have n1 := H5.out.nd.cell (nodeC_set 0 noB nilS 42 (by omega))
        have f1 := H5.out.nd.free (j := 1 + 42) (by omega)
        simp only [Nat.reduceAdd] at n1 f1
        go_upto_region 36 with fail
        refine wp_forget2 (fun W => Ca w W nb g s (failM b1 2) (nodeC 0 (fun x => if x = 42 then true else noB x) nilS)) (by
          have := H5.out.put (1 + 42) (.bool true) (by omega)
          rw [nodeC_setB 0 _ _ 42 (by omega)] at this
          exact this) (fun w7 hw7 => ?_)
        have H7 := Lib.hid hw7
        clear hw7 H5 n1 f1
        go_wp2_with (first
      | ((with_reducible refine wpList_loadN rfl _ rfl _ rfl nb 0 ?hx (nodeC 0 (fun x => if x = 42 then true else noB x) nilS) ?hc (nodeC_len _ _ _) ?_); (case hx => rfl); (case hc => exact H7.out.nd.at_))
      | ((with_reducible refine wpList_storeN rfl _ _ rfl _ rfl w.heap.size 0 (nodeC 0 (fun x => if x = 42 then true else noB x) nilS) ?hx ?hy ?ht (nodeC_len _ _ _) (oneN _ _) ?_); (case hx => rfl); (case hy => rfl); (case ht => exact H7.out.res)))
        refine bodyPost_ret (results_agg1 rfl _ _ w.heap.size (nodeC 0 (fun x => if x = 42 then true else noB x) nilS) (.struct _) rfl (World.rangeAt_setCells_same _ _ _ _ (by rw [show (nodeC 0 (fun x => if x = 42 then true else noB x) nilS).length = 258 from nodeC_len _ _ _]; exact H7.out.res)) Try.underlying134 rfl (by rw [show (nodeC 0 (fun x => if x = 42 then true else noB x) nilS).length = 258 from nodeC_len _ _ _]; exact node_size)) rfl ?_
        exact ⟨_, _, rfl, Back.mk1 (H7.out.done _).1 rfl (by omega) (fun h0 => absurd h0 (failM_err (by decide))) (H7.out.done _).2⟩
      · go_wp2_with fail
        refine kq.mono ?_
        rintro e w5 ⟨rfl, hB5, hs5⟩
        have H5 := Lib.hid (HC.out.stp hB5 hs5)
        clear kq hB5 hs5 HC
        have n1 := H5.out.nd.cell (nodeC_set 0 noB nilS 43 (by omega))
        have f1 := H5.out.nd.free (j := 1 + 43) (by omega)
        simp only [Nat.reduceAdd] at n1 f1
        go_upto_region 36 with fail
        refine wp_forget2 (fun W => Ca w W nb g s (failM b1 2) (nodeC 0 (fun x => if x = 43 then true else noB x) nilS)) (by
          have := H5.out.put (1 + 43) (.bool true) (by omega)
          rw [nodeC_setB 0 _ _ 43 (by omega)] at this
          exact this) (fun w7 hw7 => ?_)
        have H7 := Lib.hid hw7
        clear hw7 H5 n1 f1
        go_wp2_with (first
      | ((with_reducible refine wpList_loadN rfl _ rfl _ rfl nb 0 ?hx (nodeC 0 (fun x => if x = 43 then true else noB x) nilS) ?hc (nodeC_len _ _ _) ?_); (case hx => rfl); (case hc => exact H7.out.nd.at_))
      | ((with_reducible refine wpList_storeN rfl _ _ rfl _ rfl w.heap.size 0 (nodeC 0 (fun x => if x = 43 then true else noB x) nilS) ?hx ?hy ?ht (nodeC_len _ _ _) (oneN _ _) ?_); (case hx => rfl); (case hy => rfl); (case ht => exact H7.out.res)))
        refine bodyPost_ret (results_agg1 rfl _ _ w.heap.size (nodeC 0 (fun x => if x = 43 then true else noB x) nilS) (.struct _) rfl (World.rangeAt_setCells_same _ _ _ _ (by rw [show (nodeC 0 (fun x => if x = 43 then true else noB x) nilS).length = 258 from nodeC_len _ _ _]; exact H7.out.res)) Try.underlying134 rfl (by rw [show (nodeC 0 (fun x => if x = 43 then true else noB x) nilS).length = 258 from nodeC_len _ _ _]; exact node_size)) rfl ?_
        exact ⟨_, _, rfl, Back.mk1 (H7.out.done _).1 rfl (by omega) (fun h0 => absurd h0 (failM_err (by decide))) (H7.out.done _).2⟩
      · go_wp2_with fail
        refine kq.mono ?_
        rintro e w5 ⟨rfl, hB5, hs5⟩
        have H5 := Lib.hid (HC.out.stp hB5 hs5)
        clear kq hB5 hs5 HC
        have n1 := H5.out.nd.cell (nodeC_set 0 noB nilS 63 (by omega))
        have f1 := H5.out.nd.free (j := 1 + 63) (by omega)
        simp only [Nat.reduceAdd] at n1 f1
        go_upto_region 36 with fail
        refine wp_forget2 (fun W => Ca w W nb g s (failM b1 2) (nodeC 0 (fun x => if x = 63 then true else noB x) nilS)) (by
          have := H5.out.put (1 + 63) (.bool true) (by omega)
          rw [nodeC_setB 0 _ _ 63 (by omega)] at this
          exact this) (fun w7 hw7 => ?_)
        have H7 := Lib.hid hw7
        clear hw7 H5 n1 f1
        go_wp2_with (first
      | ((with_reducible refine wpList_loadN rfl _ rfl _ rfl nb 0 ?hx (nodeC 0 (fun x => if x = 63 then true else noB x) nilS) ?hc (nodeC_len _ _ _) ?_); (case hx => rfl); (case hc => exact H7.out.nd.at_))
      | ((with_reducible refine wpList_storeN rfl _ _ rfl _ rfl w.heap.size 0 (nodeC 0 (fun x => if x = 63 then true else noB x) nilS) ?hx ?hy ?ht (nodeC_len _ _ _) (oneN _ _) ?_); (case hx => rfl); (case hy => rfl); (case ht => exact H7.out.res)))
        refine bodyPost_ret (results_agg1 rfl _ _ w.heap.size (nodeC 0 (fun x => if x = 63 then true else noB x) nilS) (.struct _) rfl (World.rangeAt_setCells_same _ _ _ _ (by rw [show (nodeC 0 (fun x => if x = 63 then true else noB x) nilS).length = 258 from nodeC_len _ _ _]; exact H7.out.res)) Try.underlying134 rfl (by rw [show (nodeC 0 (fun x => if x = 63 then true else noB x) nilS).length = 258 from nodeC_len _ _ _]; exact node_size)) rfl ?_
        exact ⟨_, _, rfl, Back.mk1 (H7.out.done _).1 rfl (by omega) (fun h0 => absurd h0 (failM_err (by decide))) (H7.out.done _).2⟩
      · go_wp2_with fail
        refine kq.mono ?_
        rintro e w5 ⟨rfl, hB5, hs5⟩
        have H5 := Lib.hid (HC.out.stp hB5 hs5)
        clear kq hB5 hs5 HC
        have n1 := H5.out.nd.cell (nodeC_set 0 noB nilS 93 (by omega))
        have f1 := H5.out.nd.free (j := 1 + 93) (by omega)
        simp only [Nat.reduceAdd] at n1 f1
        go_upto_region 36 with fail
        refine wp_forget2 (fun W => Ca w W nb g s (failM b1 2) (nodeC 0 (fun x => if x = 93 then true else noB x) nilS)) (by
          have := H5.out.put (1 + 93) (.bool true) (by omega)
          rw [nodeC_setB 0 _ _ 93 (by omega)] at this
          exact this) (fun w7 hw7 => ?_)
        have H7 := Lib.hid hw7
        clear hw7 H5 n1 f1
        go_wp2_with (first
      | ((with_reducible refine wpList_loadN rfl _ rfl _ rfl nb 0 ?hx (nodeC 0 (fun x => if x = 93 then true else noB x) nilS) ?hc (nodeC_len _ _ _) ?_); (case hx => rfl); (case hc => exact H7.out.nd.at_))
      | ((with_reducible refine wpList_storeN rfl _ _ rfl _ rfl w.heap.size 0 (nodeC 0 (fun x => if x = 93 then true else noB x) nilS) ?hx ?hy ?ht (nodeC_len _ _ _) (oneN _ _) ?_); (case hx => rfl); (case hy => rfl); (case ht => exact H7.out.res)))
        refine bodyPost_ret (results_agg1 rfl _ _ w.heap.size (nodeC 0 (fun x => if x = 93 then true else noB x) nilS) (.struct _) rfl (World.rangeAt_setCells_same _ _ _ _ (by rw [show (nodeC 0 (fun x => if x = 93 then true else noB x) nilS).length = 258 from nodeC_len _ _ _]; exact H7.out.res)) Try.underlying134 rfl (by rw [show (nodeC 0 (fun x => if x = 93 then true else noB x) nilS).length = 258 from nodeC_len _ _ _]; exact node_size)) rfl ?_
        exact ⟨_, _, rfl, Back.mk1 (H7.out.done _).1 rfl (by omega) (fun h0 => absurd h0 (failM_err (by decide))) (H7.out.done _).2⟩
    · rw [if_neg eo] at hr ha
      subst hr ha
      have g1 : ((c : Int) == 42) = false := by rw [beq_eq_false_iff_ne]; intro h; apply eo; simp [oddB, postB]; omega
      have g2 : ((c : Int) == 43) = false := by rw [beq_eq_false_iff_ne]; intro h; apply eo; simp [oddB, postB]; omega
      have g3 : ((c : Int) == 63) = false := by rw [beq_eq_false_iff_ne]; intro h; apply eo; simp [oddB, postB]; omega
      have g4 : ((c : Int) == 93) = false := by rw [beq_eq_false_iff_ne]; intro h; apply eo; simp [oddB, postB]; omega
      have n1 := HC.out.nd.cell (nodeC_set 0 noB nilS c hcl)
      have f1 := HC.out.nd.free (j := 1 + c) (by omega)
      clear eo
      go_upto_region 36 with fail
      refine wp_forget2 (fun W => Ca w W nb g s b1 (nodeC 0 (fun y => if y = c then true else noB y) nilS)) (by
        have := HC.out.put (1 + c) (.bool true) (by omega)
        rw [nodeC_setB 0 _ _ c hcl] at this
        exact this) (fun w7 hw7 => ?_)
      have H7 := Lib.hid hw7
      clear hw7 n1 f1
      go_wp2_with (first
      | ((with_reducible refine wpList_loadN rfl _ rfl _ rfl nb 0 ?hx (nodeC 0 (fun y => if y = c then true else noB y) nilS) ?hc (nodeC_len _ _ _) ?_); (case hx => rfl); (case hc => exact H7.out.nd.at_))
      | ((with_reducible refine wpList_storeN rfl _ _ rfl _ rfl w.heap.size 0 (nodeC 0 (fun y => if y = c then true else noB y) nilS) ?hx ?hy ?ht (nodeC_len _ _ _) (oneN _ _) ?_); (case hx => rfl); (case hy => rfl); (case ht => exact H7.out.res)))
      refine bodyPost_ret (results_agg1 rfl _ _ w.heap.size (nodeC 0 (fun y => if y = c then true else noB y) nilS) (.struct _) rfl (World.rangeAt_setCells_same _ _ _ _ (by rw [show (nodeC 0 (fun y => if y = c then true else noB y) nilS).length = 258 from nodeC_len _ _ _]; exact H7.out.res)) Try.underlying134 rfl (by rw [show (nodeC 0 (fun y => if y = c then true else noB y) nilS).length = 258 from nodeC_len _ _ _]; exact node_size)) rfl ?_
      exact ⟨_, _, rfl, Back.mk1 (H7.out.done _).1 rfl (by omega) (fun _ => ⟨rfl, by rw [oneS_eq]⟩) (H7.out.done _).2⟩
end Go.Proofs.Ytipnhpfpppblhaa

/- The reference's Read: a contract. -/
namespace Go.Proofs.Ytipnhpfpppblhaa
open Go.RowKit
theorem nd_all : ∀ n, NdK 97 .either n ∧ NdK 109 .row n ∧ NdK 114 .atom n
  | 0 => ⟨fun m hm w g s d b _ _ _ _ _ _ hf => by simp only [fuelM] at hf; omega, fun m hm w g s d b _ _ _ _ _ _ hf => by simp only [fuelM] at hf; omega, fun m hm w g s d b _ _ _ _ _ _ hf => by simp only [fuelM] at hf; omega⟩
  | n + 1 => ⟨either_is n (nd_all n).2.1, row_is n (nd_all n).2.2, atom_is n (nd_all n).1⟩
structure Rz (w wx : World) (nb : Nat) (s : ByteArray) (b : Bs) (cs : List Value) (ok : Prop) (a : Re) : Prop where
  rdr : RdrAt wx (w.heap.size + 1) s b
  nd : NdAt wx nb cs
  res : wx.there w.heap.size 0 258
  bl : Below w.heap.size w wx
  hn : w.heap.size + 1 < nb
  one : ∀ y ∈ cs, y.oneCell' = true
  tree : ok → NA wx (fun q => w.heap.size + 2 ≤ q ∧ q < wx.heap.size) 0 [cs] a
theorem Rz.below {w wx wy : World} {nb : Nat} {s : ByteArray} {b : Bs} {cs : List Value} {ok : Prop} {a : Re} (h : Rz w wx nb s b cs ok a) (hb : Below wx.heap.size wx wy) : Rz w wy nb s b cs ok a :=
  ⟨h.rdr.below hb, h.nd.later hb, there_later h.res hb (by have := h.nd.lt; have := h.hn; omega), h.bl.trans (hb.mono h.bl.size), h.hn, h.one, fun o => ((h.tree o).later hb).mono (fun _ hq => ⟨hq.1, by have := hb.size; omega⟩)⟩
theorem Rz.stp {w wx wy : World} {nb : Nat} {s : ByteArray} {b b' : Bs} {cs : List Value} {ok : Prop} {a : Re} (h : Rz w wx nb s b cs ok a) (hr : RdrAt wy (w.heap.size + 1) s b') (hk : Kr (w.heap.size + 1) wx wy) : Rz w wy nb s b' cs ok a :=
  ⟨hr, h.nd.kr hk (by have := h.hn; omega), there_kept h.res (hk.block _ (by have := h.nd.lt; have := h.hn; omega) (by omega)), h.bl.trans (hk.below h.bl.size (fun k e => by omega)), h.hn, h.one, fun o => ((h.tree o).keep hk.size (fun q hq hlt => hk.block q hlt (by omega))).mono (fun _ hq => ⟨hq.1, by have := hk.size; omega⟩)⟩
theorem Rz.fin {w wx : World} {nb : Nat} {s : ByteArray} {b : Bs} {cs : List Value} {ok : Prop} {a : Re} (h : Rz w wx nb s b cs ok a) (vs : List Value) : RdrAt (wx.setCells w.heap.size 0 vs) (w.heap.size + 1) s b ∧ Below w.heap.size w (wx.setCells w.heap.size 0 vs) ∧ (ok → NA (wx.setCells w.heap.size 0 vs) (fun q => w.heap.size ≤ q ∧ q < (wx.setCells w.heap.size 0 vs).heap.size) 0 [cs] a) :=
  ⟨h.rdr.kept (by rw [size_setCells]; exact Nat.le_refl _) (heap_setCells _ _ _ (by omega) _ _), below_puts h.bl (Nat.le_refl _) vs, fun o => ((h.tree o).keep (w' := wx.setCells w.heap.size 0 vs) (by rw [size_setCells]; exact Nat.le_refl _) (fun q hq _ => heap_setCells _ _ _ (by omega) _ _)).mono (fun q hq => ⟨by omega, by rw [size_setCells]; exact hq.2⟩)⟩
theorem endR_err {s : ByteArray} {b : Bs} (he : b.err = (runR s).1.err) (hp : b.err = 0 → b.pos = (runR s).1.pos) : (endR s).err = if b.err = 0 ∧ b.pos < s.size then 2 else b.err := by
  unfold endR
  by_cases h0 : b.err = 0
  · rw [← hp h0]
    by_cases h1 : b.pos < s.size
    · rw [if_pos h1, if_pos ⟨h0, h1⟩]
      unfold failM
      rw [← he, if_pos h0]
    · rw [if_neg h1, if_neg (fun h => h1 h.2)]
      exact he.symm
  · have hn : ¬ (b.err = 0 ∧ b.pos < s.size) := fun h => h0 h.1
    rw [if_neg hn, he]
    split
    · unfold failM
      rw [← he, if_neg h0]
      exact he.symm
    · rfl
set_option maxHeartbeats 6400000 in
set_option maxRecDepth 100000 in
theorem rread_any (s : ByteArray) (w : World) :
    Calls Try.prog 79 #[.string s] w fun e w' => ∃ cs, e = .returned (.tuple #[.agg cs.toArray, .int .i64 (errM s)]) ∧ cs.length = 258 ∧ (∀ y ∈ cs, y.oneCell' = true) ∧ (errM s = 0 → NA w' (fun q => w.heap.size ≤ q ∧ q < w'.heap.size) 0 [cs] (reT s)) ∧ Below w.heap.size w w' := by
  have hT := there_new w 0 134
  have hB := alloc_below w (.cells (zeroN 0) 134)
  by_cases hl : 100 < s.size
  · have hl1 : (100 : Int) < (s.size : Int) := by omega
    have HE : Hid (errM s = 4) := Lib.hid (by unfold errM; rw [if_pos hl])
    have HT := Lib.hid hT
    have HB := Lib.hid hB
    clear hT hB
    go_enter Try.func79, Try.ntmps79
    go_wp2_with (first
      | (with_reducible refine wpList_allocN rfl rfl _ rfl w.heap.size rfl ?_)
      | ((with_reducible refine wpList_storeN rfl _ _ rfl _ rfl w.heap.size 0 (nodeC 0 noB nilS) ?hx ?hy ?ht (nodeC_len _ _ _) (oneN _ _) ?_); (case hx => rfl); (case hy => rfl); (case ht => exact HT.out)))
    refine bodyPost_ret (results_agg2 rfl _ _ w.heap.size (nodeC 0 noB nilS) (.struct _) rfl (World.rangeAt_setCells_same _ _ _ _ (by rw [nodeC_len]; exact HT.out)) Try.underlying134 rfl (by rw [nodeC_len]; exact node_size)) rfl ?_
    refine ⟨nodeC 0 noB nilS, ?_, nodeC_len _ _ _, oneN _ _, fun h0 => ?_, below_puts HB.out (Nat.le_refl _) _⟩
    · rw [HE.out]; rfl
    · rw [HE.out] at h0; exact absurd h0 (by decide)
  · have hl1 : (s.size : Int) ≤ 100 := by omega
    have HL : Hid (¬ 100 < s.size) := Lib.hid hl
    have HEE : Hid (errM s = (endR s).err) := Lib.hid (by unfold errM; rw [if_neg hl])
    have hb2 := hB.trans ((alloc_below (w.alloc (.cells (zeroN 0) 134)) (.cells #[.string s, .int .i64 0, .int .i64 0] 157)).mono hB.size)
    have hsz : ((w.alloc (.cells (zeroN 0) 134)).alloc (.cells #[.string s, .int .i64 0, .int .i64 0] 157)).heap.size = w.heap.size + 2 := by rw [World.size_alloc, World.size_alloc]
    have hrd : RdrAt ((w.alloc (.cells (zeroN 0) 134)).alloc (.cells #[.string s, .int .i64 0, .int .i64 0] 157)) (w.heap.size + 1) s bs0 := by
      have hr := Below.refl ((w.alloc (.cells (zeroN 0) 134)).alloc (.cells #[.string s, .int .i64 0, .int .i64 0] 157)).heap.size ((w.alloc (.cells (zeroN 0) 134)).alloc (.cells #[.string s, .int .i64 0, .int .i64 0] 157))
      have h0 := (box_cells hr).1 0 _ rfl
      have h1 := (box_cells hr).1 1 _ rfl
      have h2 := (box_cells hr).1 2 _ rfl
      have ht := box_there hr
      rw [World.size_alloc] at h0 h1 h2 ht
      exact ⟨h0, h1, h2, ht, by rw [hsz]; omega⟩
    have ht2 := there_later hT (alloc_below _ (.cells #[.string s, .int .i64 0, .int .i64 0] 157)) (by rw [World.size_alloc]; omega)
    obtain ⟨W2, hW2⟩ : ∃ W2, ((w.alloc (.cells (zeroN 0) 134)).alloc (.cells #[.string s, .int .i64 0, .int .i64 0] 157)) = W2 := ⟨_, rfl⟩
    rw [hW2] at hb2 hsz hrd ht2
    have ke := (nd_all (8 * s.size + 5)).1 _ (Nat.le_refl _) W2 (w.heap.size + 1) s 0 bs0 hrd rfl (by omega) (by simp [bs0]) (fun h => by cases h) (by omega) (by simp [fuelM, bs0])
    have HB2 := Lib.hid hb2
    have HT2 := Lib.hid ht2
    clear hb2 hrd ht2 hT hB
    go_enter Try.func79, Try.ntmps79
    go_upto_region 4 with (with_reducible refine wpList_allocN rfl rfl _ rfl w.heap.size rfl ?_)
    (try simp only [World.size_alloc])
    (try rw [hW2])
    clear hW2
    go_wp2_with fail
    refine ke.mono ?_
    rintro e w3 ⟨cs, b', rfl, hbk⟩
    have hn3 := NdAt.new w3 0 134
    have hs3 := hbk.kr.size
    have hrz : Rz w ((w3.alloc (.cells (zeroN 0) 134)).setCells w3.heap.size 0 cs) w3.heap.size s b' cs (b'.err = 0) (reT s) := by
      have hba := alloc_below w3 (.cells (zeroN 0) 134)
      have hbl3 : Below w.heap.size w w3 := HB2.out.trans (hbk.kr.below HB2.out.size (fun k e => by omega))
      have hlt := hbk.rdr.lt
      refine ⟨(hbk.rdr.below hba).kept (by rw [size_setCells]; exact Nat.le_refl _) (heap_setCells _ _ _ (by omega) _ _), hn3.stored hbk.len, there_kept (there_later (there_kept HT2.out (hbk.kr.block _ (by omega) (by omega))) hba (by omega)) (heap_setCells _ _ _ (by omega) _ _), below_puts (hbl3.trans (hba.mono hbl3.size)) (by omega) _, by omega, hbk.one, fun h0 => ?_⟩
      refine (((hbk.tree h0).2.later hba).keep (w' := (w3.alloc (.cells (zeroN 0) 134)).setCells w3.heap.size 0 cs) (by rw [size_setCells]; exact Nat.le_refl _) (fun q hq _ => heap_setCells _ _ _ (by omega) _ _)).mono (fun q hq => ⟨by omega, by rw [size_setCells, World.size_alloc]; omega⟩)
    have HTH := Lib.hid hn3.th
    have HLN := Lib.hid hbk.len
    have HON := Lib.hid hbk.one
    have HEN := Lib.hid (endR_err hbk.err (fun h0 => (hbk.tree h0).1))
    have hbp := hbk.pos
    clear ke hbk hn3 hs3 hsz HB2 HT2
    go_upto_region 5 with (first
      | (with_reducible refine wpList_allocN rfl rfl _ rfl w3.heap.size rfl ?_)
      | ((with_reducible refine wpList_storeN rfl _ _ rfl _ rfl w3.heap.size 0 cs ?hx ?hy ?ht HLN.out HON.out ?_); (case hx => rfl); (case hy => rfl); (case ht => exact HTH.out)))
    clear HTH
    (try simp only [Act.put, List.setIfInBounds_toArray, List.set_cons_zero, List.set_cons_succ])
    generalize ((w3.alloc (.cells (zeroN 0) 134)).setCells w3.heap.size 0 cs) = w4 at *
    generalize w3.heap.size = nb at *
    have HZ := Lib.hid hrz
    clear hrz
    obtain ⟨B, hB⟩ : ∃ B, decide (b'.err = 0 ∧ b'.pos < s.size) = B := ⟨_, rfl⟩
    have HBB := Lib.hid hB
    clear hB
    go_cut [31] from 32 (fun v wx => v = .bool B ∧ Hid (Rz w wx nb s b' cs (b'.err = 0) (reT s)))
    case first =>
      have c0 := HZ.out.rdr.c0
      have c1 := HZ.out.rdr.c1
      have c2 := HZ.out.rdr.c2
      by_cases h0 : b'.err = 0
      · have hpe : decide (b'.pos < s.size) = B := by rw [← HBB.out]; exact decide_eq_decide.2 ⟨fun h => ⟨h0, h⟩, fun h => h.2⟩
        have hpi : decide ((b'.pos : Int) < (s.size : Int)) = B := by rw [← hpe]; exact decide_eq_decide.2 (by omega)
        rw [h0] at c2
        have HPE := Lib.hid hpe
        clear hpe h0
        go_big_quiet (fail)
        go_wp2
        go_meet
        exact ⟨by first | rfl | exact congrArg Value.bool HPE.out, Lib.hid (HZ.out.below (bl_drewN (Below.refl _ _) _))⟩
      · have hbf : false = B := by rw [← HBB.out]; exact (decide_eq_false (fun h => h0 h.1)).symm
        have h0b : (b'.err == 0) = false := by rw [beq_eq_false_iff_ne]; exact h0
        clear h0
        subst hbf
        go_big_quiet (fail)
        go_wp2
        go_meet
        exact ⟨rfl, Lib.hid (HZ.out.below (bl_drewN (Below.refl _ _) _))⟩
    case rest =>
    obtain ⟨rfl, HY⟩ := hcut
    clear HZ
    go_upto_if 31 with fail
    go_cut [] from 32 (fun wx => ∃ bz : Bs, bz.err = errM s ∧ Hid (Rz w wx nb s bz cs (errM s = 0) (reT s)))
    case first =>
      cases B with
      | true =>
        have h1 := of_decide_eq_true HBB.out
        have kq := rfail_is wc (w.heap.size + 1) s b' 2 HY.out.rdr
        go_wp2_with fail
        refine kq.mono ?_
        rintro e w5 ⟨rfl, hB5, hs5⟩
        have hz := HY.out.stp hB5 hs5
        clear kq
        go_wp2
        go_meet
        have he : errM s = 2 := by rw [HEE.out, HEN.out, if_pos h1]
        refine ⟨failM b' 2, ?_, Lib.hid ⟨hz.rdr, hz.nd, hz.res, hz.bl, hz.hn, hz.one, fun h0 => absurd (he.symm.trans h0) (by decide)⟩⟩
        rw [he]
        unfold failM
        rw [if_pos h1.1]
      | false =>
        have h1 := of_decide_eq_false HBB.out
        go_wp2
        go_meet
        have he : errM s = b'.err := by rw [HEE.out, HEN.out, if_neg h1]
        exact ⟨b', he.symm, Lib.hid (by rw [he]; exact HY.out)⟩
    case rest =>
    obtain ⟨bz, hbz, HX⟩ := hcut
    have HBZ := Lib.hid hbz
    clear HY HBB hbz
    have c2 := HX.out.rdr.c2
    by_cases h0 : bz.err = 0
    · have HE0 : Hid (errM s = 0) := Lib.hid (HBZ.out.symm.trans h0)
      rw [h0] at c2
      go_wp2_with (first
        | ((with_reducible refine wpList_loadN rfl _ rfl _ rfl nb 0 ?hx cs ?hc HLN.out ?_); (case hx => rfl); (case hc => exact HX.out.nd.at_))
        | ((with_reducible refine wpList_storeN rfl _ _ rfl _ rfl w.heap.size 0 cs ?hx ?hy ?ht HLN.out HON.out ?_); (case hx => rfl); (case hy => rfl); (case ht => exact HX.out.res)))
      refine bodyPost_ret (results_agg2 rfl _ _ w.heap.size cs (.struct _) rfl (World.rangeAt_setCells_same _ _ _ _ (by rw [HLN.out]; exact HX.out.res)) Try.underlying134 rfl (by rw [HLN.out]; exact node_size)) rfl ?_
      have hf := HX.out.fin cs
      exact ⟨cs, by rw [HE0.out]; rfl, HLN.out, HON.out, fun h => hf.2.2 h, hf.2.1⟩
    · have h0b : (bz.err != 0) = true := by simpa using h0
      have HNE : Hid (¬ errM s = 0) := Lib.hid (fun h => h0 (HBZ.out.trans h))
      clear h0
      have HXD := Lib.hid (HX.out.below ((Below.refl _ _).drew))
      go_upto_region 8 with fail
      refine wp_region_held_drew (S := (fun W => W.cell? ⟨w.heap.size + 1, 2, none⟩ = some (.int .i64 bz.err))) (by kernel_rfl) HX.out.rdr.c2 (fun hHeld => ?_)
      refine held_take (i := 0) (v := ?_) rfl rfl (by kernel_rfl) (by kernel_rfl) (by kernel_rfl) (fun _ _ _ h => h) (by rfl) hHeld ?_ ?_
      rotate_left
      · rintro wh hS
        go_simp
        (try with_reducible rfl)
      simp only [Act.put, List.setIfInBounds_toArray, List.set_cons_zero, List.set_cons_succ]
      refine held_take (i := 1) (v := ?_) rfl rfl (by kernel_rfl) (by kernel_rfl) (by kernel_rfl) (fun _ _ _ h => h) (by rfl) hHeld ?_ ?_
      rotate_left
      · rintro wh hS
        go_simp
        (try with_reducible rfl)
      simp only [Act.put, List.setIfInBounds_toArray, List.set_cons_zero, List.set_cons_succ]
      refine held_take (i := 2) (v := ?_) rfl rfl (by kernel_rfl) (by kernel_rfl) (by kernel_rfl) (fun _ _ _ h => h) (by rfl) hHeld ?_ ?_
      rotate_left
      · rintro wh hS
        go_simp
        (try with_reducible rfl)
      simp only [Act.put, List.setIfInBounds_toArray, List.set_cons_zero, List.set_cons_succ]
      refine held_take (i := 3) (v := ?_) rfl rfl (by kernel_rfl) (by kernel_rfl) (by kernel_rfl) (fun _ _ _ h => h) (by rfl) hHeld ?_ ?_
      rotate_left
      · rintro wh hS
        go_simp
        (try with_reducible rfl)
      simp only [Act.put, List.setIfInBounds_toArray, List.set_cons_zero, List.set_cons_succ]
      refine held_take (i := 4) (v := ?_) rfl rfl (by kernel_rfl) (by kernel_rfl) (by kernel_rfl) (fun _ _ _ h => h) (by rfl) hHeld ?_ ?_
      rotate_left
      · rintro wh hS
        go_simp
        (try with_reducible rfl)
      simp only [Act.put, List.setIfInBounds_toArray, List.set_cons_zero, List.set_cons_succ]
      refine held_step (i := 5) rfl (by kernel_rfl) (fun K hK => ?_)
      rw [if_pos (by rfl)]; refine wp_store_mid 134 _ _ rfl w.heap.size 0 (nodeC 0 noB nilS).toArray ?hx ?hy ?ht ?hi ?h1 ?_; (case hx => rfl); (case hy => rfl); (case ht => simp only [List.size_toArray, nodeC_len]; exact HXD.out.res); (case hi => simp only [List.size_toArray, nodeC_len]; exact node_size); (case h1 => exact all_oneCell_toArray (oneN 0 noB)); simp only [List.getElem_toArray, List.getElem_cons_succ, List.getElem_cons_zero, Act.put]
      refine hK.out _ _ (HXD.out.fin (nodeC 0 noB nilS)).1.c2 (fun hHeld => ?_)
      clear hK K
      (try simp only [Act.put, List.setIfInBounds_toArray])
      refine held_take (i := 6) (v := ?_) rfl rfl (by kernel_rfl) (by kernel_rfl) (by kernel_rfl) (fun _ _ _ h => h) (by rfl) hHeld ?_ ?_
      rotate_left
      · rintro wh hS
        go_simp
        (try with_reducible rfl)
      simp only [Act.put, List.setIfInBounds_toArray, List.set_cons_zero, List.set_cons_succ]
      refine wpAnyH_done (by kernel_rfl) ?_ _
      go_wp2
      refine bodyPost_ret (results_agg2 rfl _ _ w.heap.size (nodeC 0 noB nilS) (.struct _) rfl (World.rangeAt_setCells_same _ _ _ _ (by rw [nodeC_len]; exact HXD.out.res)) Try.underlying134 rfl (by rw [nodeC_len]; exact node_size)) rfl ?_
      have hf := HXD.out.fin (nodeC 0 noB nilS)
      exact ⟨nodeC 0 noB nilS, by rw [← HBZ.out]; rfl, nodeC_len _ _ _, oneN _ _, fun h => absurd h HNE.out, hf.2.1⟩
end Go.Proofs.Ytipnhpfpppblhaa

/- Rows of Booleans; lychgateref05.both: a contract. -/
namespace Go.Proofs.Ytipnhpfpppblhaa
open Go.RowKit
theorem wp_forget3 {Pr : Program} {Q : Exit → Act → World → Prop} {c : Code} {a : Act} {W : World} (P : World → Prop) (h : P W) (k : ∀ W', P W' → Code.wp Pr c Q a W') : Code.wp Pr c Q a W := k W h
def BsAt (w : World) (v : Value) (n : Nat) (X : Nat → Bool) : Prop := ∃ b, v = .slice (some ⟨b, 0, none⟩) n n ∧ w.rowIs b 4 n (fun j => .bool (X j))
theorem BsAt.later {w w' : World} {v : Value} {n : Nat} {X : Nat → Bool} (h : BsAt w v n X) (hb : Below w.heap.size w w') : BsAt w' v n X := by
  obtain ⟨b, e, hr⟩ := h
  exact ⟨b, e, hr.of_block (hb.block b hr.lt)⟩
theorem BsAt.congr {w : World} {v : Value} {n : Nat} {X Y : Nat → Bool} (h : BsAt w v n X) (e : ∀ j, j < n → X j = Y j) : BsAt w v n Y := by
  obtain ⟨b, e1, hr⟩ := h
  exact ⟨b, e1, hr.congr (fun j hj => by rw [e j hj])⟩
theorem bs_made (w : World) (n : Nat) : (w.alloc (.cells (madeCells #[.bool false] n) 4)).rowIs w.heap.size 4 n (fun j => .bool ((fun _ => false) j)) := World.rowIs_made w (.bool false) n _
theorem bs_put {w : World} {b : Nat} {n : Nat} {X : Nat → Bool} (h : w.rowIs b 4 n (fun j => .bool (X j))) (i : Nat) (v : Bool) : (w.setCell ⟨b, i, none⟩ (.bool v)).rowIs b 4 n (fun j => .bool (if j = i then v else X j)) :=
  (h.set i (.bool v)).congr (fun j _ => by by_cases e : j = i <;> simp [e])
structure BW (w wr : World) (b n : Nat) (X : Nat → Bool) : Prop where
  row : wr.rowIs b 4 n (fun j => .bool (X j))
  bl : Below w.heap.size w wr
  hb : w.heap.size ≤ b
theorem BW.new (w : World) (n : Nat) : BW w (w.alloc (.cells (madeCells #[.bool false] n) 4)) w.heap.size n (fun _ => false) := ⟨bs_made w n, alloc_below _ _, Nat.le_refl _⟩
theorem BW.put {w wr : World} {b n : Nat} {X : Nat → Bool} (h : BW w wr b n X) (i : Nat) (v : Bool) : BW w (wr.setCell ⟨b, i, none⟩ (.bool v)) b n (fun j => if j = i then v else X j) := ⟨bs_put h.row i v, below_put h.bl h.hb, h.hb⟩
theorem BW.congr {w wr : World} {b n : Nat} {X Y : Nat → Bool} (h : BW w wr b n X) (e : ∀ j, j < n → X j = Y j) : BW w wr b n Y := ⟨h.row.congr (fun j hj => by rw [e j hj]), h.bl, h.hb⟩
theorem BW.old {w wr : World} {b n : Nat} {X : Nat → Bool} (h : BW w wr b n X) {g m j : Nat} {Y : Nat → Bool} (hY : w.rowIs g 4 m (fun j => .bool (Y j))) (hj : j < m) : wr.cell? ⟨g, j, none⟩ = some (.bool (Y j)) := keep_cell (hY.cell hj) h.bl hY.lt
end Go.Proofs.Ytipnhpfpppblhaa

/- The reference's ends, of a set, of alternatives, of a row, of one perhaps: contracts. -/
namespace Go.Proofs.Ytipnhpfpppblhaa
open Go.RowKit
def EnB (s : ByteArray) (a : Re) (X Y : Nat → Bool) : Prop := ∀ j, j ≤ s.size → (Y j = true ↔ En (bytesN s) a (fun i => X i = true) j)
structure Ez (w wr : World) (x : List Value) : Prop where
  at_ : wr.rangeAt w.heap.size 0 x
  lt : w.heap.size < wr.heap.size
  bl : Below w.heap.size w wr
theorem Ez.below {w wr wr' : World} {x : List Value} (h : Ez w wr x) (hb : Below wr.heap.size wr wr') : Ez w wr' x := ⟨range_later h.at_ hb h.lt, Nat.lt_of_lt_of_le h.lt hb.size, h.bl.trans (hb.mono h.bl.size)⟩
theorem Ez.cell {w wr : World} {x : List Value} (h : Ez w wr x) {j : Nat} {v : Value} (hv : x[j]? = some v) : wr.cell? ⟨w.heap.size, j, none⟩ = some v := by
  have := h.at_ j v hv
  rwa [Nat.zero_add] at this
theorem Ez.set {w wr : World} {x : List Value} (h : Ez w wr x) {b : Nat} (hb : w.heap.size < b) (i : Nat) (v : Value) : Ez w (wr.setCell ⟨b, i, none⟩ v) x :=
  ⟨fun j u hu => by rw [rfar (by omega)]; exact h.at_ j u hu, by simpa using h.lt, below_put h.bl (by omega)⟩
theorem Ez.new (w : World) (x : List Value) (t u : TypeId) (c : Array Value) : Ez w ((w.alloc (.cells x.toArray t)).alloc (.cells c u)) x := by
  have h0 := box_range (Below.refl _ (w.alloc (.cells x.toArray t)))
  have hb := alloc_below (w.alloc (.cells x.toArray t)) (.cells c u)
  have h1 := alloc_below w (.cells x.toArray t)
  refine ⟨range_later (by simpa using h0) hb (by rw [World.size_alloc]; omega), by rw [World.size_alloc, World.size_alloc]; omega, h1.trans (hb.mono h1.size)⟩
theorem KidsAt.at {w : World} {P : Nat → Prop} {kv : Value} {l : List (List Value)} (h : KidsAt w P kv l) : ∃ a c, kv = .slice a l.length c ∧ l.length ≤ c ∧ (0 < l.length → ∃ b o, a = some ⟨b, o, none⟩ ∧ b < w.heap.size ∧ ∀ k (hk : k < l.length), w.rangeAt b (o + k * 258) l[k]) := by
  obtain ⟨a, c, rfl, hc, hr⟩ := RdAt.shape h.row
  refine ⟨a, c, rfl, hc, fun hn => ?_⟩
  obtain ⟨b, o, rfl, hb, hcell⟩ := hr hn
  refine ⟨b, o, rfl, hb, fun k hk j v hv => ?_⟩
  rw [Nat.add_assoc]
  refine hcell (k * 258 + j) v ?_
  have key : ∀ (l : List (List Value)), (∀ x ∈ l, x.length = 258) → ∀ k (hk : k < l.length) j, j < 258 → l.flatten[k * 258 + j]? = l[k][j]? := by
    intro l
    induction l with
    | nil => intro _ k hk; exact absurd hk (by simp)
    | cons x l ih =>
      intro hx k hk j hj
      have hx0 := hx x List.mem_cons_self
      rw [List.flatten_cons]
      cases k with
      | zero => rw [Nat.zero_mul, Nat.zero_add, List.getElem?_append_left (by omega)]; rfl
      | succ k =>
        rw [List.getElem?_append_right (by omega), hx0, show (k + 1) * 258 + j - 258 = k * 258 + j by omega, ih (fun y hy => hx y (List.mem_cons_of_mem _ hy)) k (by simpa using hk) j hj]
        rfl
  rw [key l h.each k hk j (by have := (List.getElem?_eq_some_iff.1 hv).1; rw [h.each _ (List.getElem_mem hk)] at this; exact this)]
  exact hv
end Go.Proofs.Ytipnhpfpppblhaa

/- The reference's ends, of any number of times, of once and more: contracts. -/
namespace Go.Proofs.Ytipnhpfpppblhaa
open Go.RowKit
def cntF (w : World) (v : Value) (n : Nat) : Nat := match v with
  | .slice (some a) _ _ => (List.range n).countP (fun j => match w.cell? ⟨a.block, j, none⟩ with | some (.bool b) => !b | _ => true)
  | _ => 0
theorem BsAt.cnt {w : World} {v : Value} {n : Nat} {X : Nat → Bool} (h : BsAt w v n X) : cntF w v n = (List.range n).countP (fun j => !X j) := by
  obtain ⟨b, rfl, hr⟩ := h
  unfold cntF
  refine List.countP_congr (fun j hj => ?_)
  rw [hr.cell (List.mem_range.1 hj)]
theorem countP_le' (p q : Nat → Bool) (l : List Nat) (h : ∀ x ∈ l, q x = true → p x = true) : l.countP q ≤ l.countP p := List.countP_mono_left h
theorem countP_lt' (p q : Nat → Bool) : ∀ (l : List Nat), (∀ x ∈ l, q x = true → p x = true) → (∃ x ∈ l, p x = true ∧ q x = false) → l.countP q < l.countP p
  | [], _, h => by obtain ⟨x, hx, _⟩ := h; cases hx
  | y :: l, h1, h2 => by
    obtain ⟨x, hx, hp, hq⟩ := h2
    have h3 := countP_le' p q l (fun z hz => h1 z (List.mem_cons_of_mem _ hz))
    rw [List.countP_cons, List.countP_cons]
    rcases List.mem_cons.1 hx with rfl | hx
    · rw [hp, hq]; simp; omega
    · have := countP_lt' p q l (fun z hz => h1 z (List.mem_cons_of_mem _ hz)) ⟨x, hx, hp, hq⟩
      have h4 : (if q y = true then 1 else 0) ≤ (if p y = true then 1 else 0) := by
        by_cases h : q y = true
        · rw [if_pos h, if_pos (h1 y List.mem_cons_self h)]; exact Nat.le_refl _
        · rw [if_neg h]; exact Nat.zero_le _
      omega
def moreN (v : Value) : Nat := match v with
  | .bool true => 1
  | _ => 0
def newB (St O : Nat → Bool) (i : Nat) : Bool := (List.range i).any (fun j => St j && !O j)
structure RepI (s : ByteArray) (a : Re) (X O St : Nat → Bool) (lo k : Nat) (mo : Bool) : Prop where
  st : ∀ j, j ≤ s.size → (St j = true ↔ Ei (bytesN s) a (fun i => X i = true) k j)
  out : ∀ j, j ≤ s.size → (O j = true ↔ ∃ m, lo ≤ m ∧ m ≤ k ∧ Ei (bytesN s) a (fun i => X i = true) m j)
  fin : mo = false → ∃ k', k = k' + 1 ∧ ∀ j, j ≤ s.size → Ei (bytesN s) a (fun i => X i = true) k j → ∃ m, lo ≤ m ∧ m ≤ k' ∧ Ei (bytesN s) a (fun i => X i = true) m j
theorem RepI.next {s : ByteArray} {a : Re} {X O St St' : Nat → Bool} {lo k : Nat} {mo : Bool} (h : RepI s a X O St lo k mo) (hlo : lo ≤ 1) (hE : EnB s a St St') : RepI s a X (fun j => O j || St' j) St' lo (k + 1) (newB St' O (s.size + 1)) := by
  have h1 : ∀ j, j ≤ s.size → (St' j = true ↔ Ei (bytesN s) a (fun i => X i = true) (k + 1) j) := fun j hj => by
    rw [hE j hj]
    exact En.congr (fun i hi => h.st i (by rw [bytesN_len] at hi; exact hi))
  refine ⟨h1, fun j hj => ?_, fun hn => ⟨k, rfl, fun j hj he => ?_⟩⟩
  · rw [Bool.or_eq_true, h.out j hj, h1 j hj]
    constructor
    · rintro (⟨m, a1, a2, a3⟩ | h2)
      · exact ⟨m, a1, by omega, a3⟩
      · exact ⟨k + 1, by omega, Nat.le_refl _, h2⟩
    · rintro ⟨m, a1, a2, a3⟩
      by_cases e : m = k + 1
      · subst e; exact .inr a3
      · exact .inl ⟨m, a1, by omega, a3⟩
  · have h2 : ¬ (St' j = true ∧ O j = false) := fun hh => by
      have : newB St' O (s.size + 1) = true := by
        unfold newB
        rw [List.any_eq_true]
        exact ⟨j, List.mem_range.2 (by omega), by rw [hh.1, hh.2]; rfl⟩
      rw [hn] at this
      cases this
    have h3 := (h1 j hj).2 he
    have h4 : O j = true := by
      cases hO : O j with
      | true => rfl
      | false => exact absurd ⟨h3, hO⟩ h2
    obtain ⟨m, a1, a2, a3⟩ := (h.out j hj).1 h4
    exact ⟨m, a1, a2, a3⟩
theorem Ei_none {B : List Nat} {a : Re} {X : Nat → Prop} (h : ∀ j, ¬ Ei B a X 1 j) : ∀ m j, 1 ≤ m → ¬ Ei B a X m j := by
  intro m
  induction m with
  | zero => intro j h0; omega
  | succ m ih =>
    intro j _ he
    by_cases hm : m = 0
    · subst hm; exact h j he
    · obtain ⟨_, i, _, h3, _⟩ := he
      exact ih i (by omega) h3
theorem RepI.all {s : ByteArray} {a : Re} {X O St : Nat → Bool} {lo k : Nat} (h : RepI s a X O St lo k false) (hlo : lo ≤ 1) (j : Nat) (hj : j ≤ s.size) : O j = true ↔ ∃ m, lo ≤ m ∧ Ei (bytesN s) a (fun i => X i = true) m j := by
  rw [h.out j hj]
  constructor
  · rintro ⟨m, a1, _, a3⟩; exact ⟨m, a1, a3⟩
  · rintro ⟨m, a1, a3⟩
    obtain ⟨k', rfl, hf⟩ := h.fin rfl
    have hf' : ∀ j, Ei (bytesN s) a (fun i => X i = true) (k' + 1) j → ∃ m, lo ≤ m ∧ m ≤ k' ∧ Ei (bytesN s) a (fun i => X i = true) m j := fun j he => hf j (by have := Ei_le he; rw [bytesN_len] at this; exact this) he
    by_cases hlk : lo ≤ k'
    · obtain ⟨m', b1, b2, b3⟩ := Ei_shut hlk hf' m j a1 a3
      exact ⟨m', b1, by omega, b3⟩
    · obtain rfl : k' = 0 := by omega
      obtain rfl : lo = 1 := by omega
      exact absurd a3 (Ei_none (fun j he => by obtain ⟨m, c1, c2, _⟩ := hf' j he; omega) m j a1)
theorem RepI.less {s : ByteArray} {O St' : Nat → Bool} : 2 * (List.range (s.size + 1)).countP (fun j => !(O j || St' j)) + moreN (.bool (newB St' O (s.size + 1))) < 2 * (List.range (s.size + 1)).countP (fun j => !O j) + 1 := by
  cases hn : newB St' O (s.size + 1) with
  | false =>
    have := countP_le' (fun j => !O j) (fun j => !(O j || St' j)) (List.range (s.size + 1)) (fun x _ h => by simp at h; simp [h.1])
    simp only [moreN]
    omega
  | true =>
    unfold newB at hn
    rw [List.any_eq_true] at hn
    obtain ⟨x, hx, h⟩ := hn
    simp only [Bool.and_eq_true, Bool.not_eq_true'] at h
    have := countP_lt' (fun j => !O j) (fun j => !(O j || St' j)) (List.range (s.size + 1)) (fun x _ h => by simp at h; simp [h.1]) ⟨x, hx, by simp [h.2], by simp [h.1]⟩
    simp only [moreN]
    omega
end Go.Proofs.Ytipnhpfpppblhaa

/- The reference's ends of any tree; Fits: contracts. -/
namespace Go.Proofs.Ytipnhpfpppblhaa
open Go.RowKit
end Go.Proofs.Ytipnhpfpppblhaa

/- match.Fits: a contract. -/
namespace Go.Proofs.Ytipnhpfpppblhaa
open Go.RowKit
end Go.Proofs.Ytipnhpfpppblhaa

/- match.All: a contract. -/
namespace Go.Proofs.Ytipnhpfpppblhaa
open Go.RowKit
end Go.Proofs.Ytipnhpfpppblhaa

/- lychgateref06 on matchers: Fine, Value, Fits, All: contracts. -/
namespace Go.Proofs.Ytipnhpfpppblhaa
open Go.RowKit
set_option maxHeartbeats 1600000 in
set_option maxRecDepth 100000 in
theorem fine6_any (m : Mt) (w : World) (hf : MtFit m) : Calls Try.prog 64 #[.agg #[.string m.nm, .int .i64 m.op, .string m.val]] w fun e w' => e = .returned (.bool (fineM m)) ∧ Below w.heap.size w w' := by
  have kr := fun W => rread_any m.val W
  have hz := hf.2
  have HF : Hid (fineM m = (nameL (B m.nm) && decide (0 ≤ m.op) && decide (m.op ≤ 3) && decide (m.val.size ≤ 200) && (decide (m.op < 2) || decide (errM m.val = 0)))) := Lib.hid rfl
  have kn0 := refName.name_any m.nm (w.alloc (.cells #[.string m.nm, .int .i64 m.op, .string m.val] 113)) hf.1
  obtain ⟨nm, op, val⟩ := m
  dsimp only at *
  generalize fineM ⟨nm, op, val⟩ = R at *
  generalize nameL (B nm) = N at *
  have HR := Lib.hid kr
  unfold maxLen at hz
  have hbx := box3m (Below.refl _ (w.alloc (.cells #[.string nm, .int .i64 op, .string val] 113)))
  clear hf kr
  go_enter Try.func64, Try.ntmps64
  go_wp2_with fail
  refine kn0.mono ?_
  rintro e w1 ⟨rfl, hw1⟩
  obtain ⟨⟨x0, x1, x2⟩, hlt, hB1⟩ := hbx
  rw [hw1] at x0 x1 x2 hlt hB1
  have HB := Lib.hid hB1
  clear kn0 hw1 hB1
  cases N with
  | false =>
    go_wp2
    go_ret
    exact ⟨by rw [HF.out]; rfl, HB.out⟩
  | true =>
    by_cases h0 : op < 0
    · rw [show decide (0 ≤ op) = false from decide_eq_false (by omega)] at HF
      go_wp2
      go_ret
      exact ⟨by rw [HF.out]; rfl, HB.out⟩
    · rw [show decide (0 ≤ op) = true from decide_eq_true (by omega)] at HF
      by_cases h3 : 3 < op
      · rw [show decide (op ≤ 3) = false from decide_eq_false (by omega)] at HF
        go_wp2
        go_ret
        exact ⟨by rw [HF.out]; rfl, HB.out⟩
      · rw [show decide (op ≤ 3) = true from decide_eq_true (by omega)] at HF
        by_cases hs : 200 < val.size
        · rw [show decide (val.size ≤ 200) = false from decide_eq_false (by omega)] at HF
          have hsi : (200 : Int) < (val.size : Int) := by omega
          go_wp2
          go_ret
          exact ⟨by rw [HF.out]; rfl, HB.out⟩
        · rw [show decide (val.size ≤ 200) = true from decide_eq_true (by omega)] at HF
          have hsi : (val.size : Int) ≤ 200 := by omega
          have kr := HR.out w1
          have hde : Hid ((errM val == 0) = decide (errM val = 0)) := Lib.hid (by rw [Bool.eq_iff_iff]; simp)
          generalize errM val = E at *
          go_wp2_with fail
          refine kr.mono ?_
          rintro e w2 ⟨cs, rfl, hl, hone, -, hb2⟩
          have hlt2 := hb2.size
          have y1 := keep_cell x1 hb2 hlt
          have HBN : Hid (Below w.heap.size w ((w2.alloc (.cells (zeroN 0) 134)).setCells w2.heap.size 0 cs)) := Lib.hid (by
            have h1 := HB.out.trans (hb2.mono HB.out.size)
            exact below_puts (h1.trans ((alloc_below w2 _).mono h1.size)) (by have := h1.size; omega) _)
          have HY1 : Hid (((w2.alloc (.cells (zeroN 0) 134)).setCells w2.heap.size 0 cs).cell? ⟨w.heap.size, 1, none⟩ = some (.int .i64 op)) := Lib.hid ((World.cell?_of_block (a := ⟨w.heap.size, 1, none⟩) (heap_setCells _ _ _ (by show w.heap.size ≠ w2.heap.size; omega) _ _)).trans (keep_cell y1 (alloc_below w2 _) (by omega)))
          have HTH := Lib.hid (there_new w2 0 134)
          clear kr x0 x1 x2 y1
          go_upto_region 4 with (first
            | (with_reducible refine wpList_allocN rfl rfl _ rfl w2.heap.size rfl ?_)
            | ((with_reducible refine wpList_storeN rfl _ _ rfl _ rfl w2.heap.size 0 cs ?hx ?hy ?ht hl hone ?_); (case hx => rfl); (case hy => rfl); (case ht => exact HTH.out)))
          (try simp only [Act.put, List.setIfInBounds_toArray, List.set_cons_zero, List.set_cons_succ])
          refine wp_forget3 (fun W => W.cell? ⟨w.heap.size, 1, none⟩ = some (.int .i64 op) ∧ Below w.heap.size w W) ⟨HY1.out, HBN.out⟩ (fun w3 hw3 => ?_)
          obtain ⟨y1, hB3⟩ := hw3
          have HB3 := Lib.hid hB3
          clear HBN HY1 HTH hB3 hb2
          by_cases h2 : op < 2
          · rw [show decide (op < 2) = true from decide_eq_true h2] at HF
            go_wp2
            go_ret
            exact ⟨by rw [HF.out]; rfl, HB3.out⟩
          · rw [show decide (op < 2) = false from decide_eq_false h2] at HF
            go_wp2
            go_ret
            exact ⟨by rw [HF.out, ← hde.out]; first | rfl | (simp), HB3.out⟩
end Go.Proofs.Ytipnhpfpppblhaa

/- lychgateref08.by, when: contracts. -/
namespace Go.Proofs.Ytipnhpfpppblhaa
open Go.RowKit
theorem strC_at (l : List ByteArray) (j : Nat) (h : j < l.length) : (l.map Value.string)[j]? = some (.string l[j]) := by rw [List.getElem?_map, List.getElem?_eq_getElem h]; rfl
set_option maxHeartbeats 1600000 in
set_option maxRecDepth 100000 in
theorem by8_any (l : List ByteArray) (v : Value) (w : World) (hv : StrsG w v l) (hw : StrsFit l) :
    Calls Try.prog 41 #[v] w fun e w' => e = .returned (.bool (byP l)) ∧ Below w.heap.size w w' := by
  obtain ⟨hl, hsz⟩ := hw
  have HE := Lib.hid (byP_eq l)
  obtain ⟨a, c, rfl, hc, hr⟩ := RdAt.shape hv
  have HR := Lib.hid hr
  have HSZ := Lib.hid hsz
  have hl63 : l.length ≤ 9223372036854775807 := by unfold maxLen at hl; omega
  clear hr hv hl hsz
  go_enter Try.func41, Try.ntmps41
  go_wp2
  go_loopw [3] (fun i wr => ∃ k : Nat, i = .int .i64 k ∧ k ≤ l.length ∧ Hid (okUp id (fun x => nameL (B x)) l k) ∧ Below w.heap.size w wr) (fun i _ => l.length - (intOf i).toNat)
  case atStart => exact ⟨0, rfl, Nat.zero_le _, Lib.hid okUp_zero, Below.refl _ _⟩
  case round =>
    obtain ⟨k, rfl, hk, HT, hbr⟩ := hrel
    by_cases hkl : k < l.length
    · obtain ⟨b, o, rfl, hb, hcell⟩ := HR.out (by omega)
      have HCELL := Lib.hid hcell
      have hstep := okUp_succ HT.out hkl
      have hbad := okAll_bad (nm := fun x : ByteArray => id x) (p := fun x => nameL (B x)) hkl
      have htw := fun j hj hjk => okAll_twice (nm := fun x : ByteArray => id x) (p := fun x => nameL (B x)) (j := j) hj hkl hjk
      have hxs := HSZ.out _ (List.getElem_mem hkl)
      have HC := strC_at l k hkl
      obtain ⟨x, hx⟩ : ∃ x, l[k] = x := ⟨_, rfl⟩
      rw [hx] at HC hstep hbad hxs
      simp only [hx, id] at htw hstep
      have HQ : Hid (∀ W, Below w.heap.size w W → W.cell? ⟨b, o + k, none⟩ = some (.string x)) := Lib.hid (fun W hW => keep_cell (hcell _ _ HC) hW hb)
      have HST := Lib.hid hstep
      have HBAD : Hid (nameL (B x) = false → byP l = false) := Lib.hid (fun h => by rw [HE.out, show okAll id (fun x => nameL (B x)) l = false from hbad h]; rfl)
      have HTW : Hid (∀ j (hj : j < l.length), j < k → l[j] = x → byP l = false) := Lib.hid (fun j hj h1 h2 => by rw [HE.out, show okAll id (fun x => nameL (B x)) l = false from htw j hj h1 h2]; rfl)
      have HBR := Lib.hid hbr
      have HXS := Lib.hid hxs
      clear hcell HC hstep hbad htw hx hbr hxs HT
      go_wp2
      obtain ⟨wo, rfl⟩ : ∃ z, z = wr := ⟨_, rfl⟩
      go_loopw [4] (fun i wi => ∃ m : Nat, i = .int .i64 m ∧ m ≤ k ∧ Hid (∀ j (_ : j < l.length), j < m → l[j] ≠ x) ∧ Below wo.heap.size wo wi) (fun i _ => k - (intOf i).toNat)
      case atStart => exact ⟨0, rfl, Nat.zero_le _, Lib.hid (fun _ _ h => absurd h (Nat.not_lt_zero _)), Below.refl _ _⟩
      case round =>
        obtain ⟨m, rfl, hm, HN, hbi⟩ := hrel
        have hbw := HBR.out.trans (hbi.mono HBR.out.size)
        by_cases hmk : m < k
        · have hml : m < l.length := by omega
          have c0 := HQ.out _ hbw
          have HCM := strC_at l m hml
          obtain ⟨y, hy⟩ : ∃ y, l[m] = y := ⟨_, rfl⟩
          rw [hy] at HCM
          have d0 : wr.cell? ⟨b, o + m, none⟩ = some (.string y) := keep_cell (HCELL.out _ _ HCM) hbw hb
          have HY := Lib.hid hy
          clear HCM hy
          by_cases hxy : y = x
          · have hbq : (y.toList == x.toList) = true := bytes_eq_iff.2 hxy
            have HF : Hid (byP l = false) := Lib.hid (HTW.out m hml hmk (by rw [HY.out]; exact hxy))
            clear hxy
            go_wp2
            go_quiet (fail)
            have hb2 : Below w.heap.size w (wr.drewN nq) := bl_drewN hbw nq
            generalize wr.drewN nq = wq at *
            go_wp2
            go_ret
            exact ⟨by rw [HF.out]; rfl, hb2⟩
          · have hbq : (y.toList == x.toList) = false := by rw [bytes_beq]; exact decide_eq_false hxy
            have HN' : Hid (∀ j (_ : j < l.length), j < m + 1 → l[j] ≠ x) := Lib.hid (fun j hj h => by
              rcases Nat.lt_or_ge j m with h' | h'
              · exact HN.out j hj h'
              · obtain rfl : j = m := by omega
                rw [HY.out]; exact hxy)
            clear hxy
            go_wp2
            go_quiet (fail)
            have hb2 : Below wo.heap.size wo (wr.drewN nq) := bl_drewN hbi nq
            generalize wr.drewN nq = wq at *
            go_wp2
            go_roundw
            case rel => exact ⟨m + 1, by go_num, by omega, HN', hb2⟩
            case measure => (simp [intOf]; try omega)
        · obtain rfl : m = k := by omega
          have kn : ∀ W, Calls Try.prog 35 #[.string x] W fun e w' => e = .returned (.bool (nameL (B x))) ∧ w' = W := fun W => (refName.name_any x W HXS.out).mono (by rintro e w' ⟨h1, h2⟩; exact ⟨h1, h2.symm⟩)
          have c0 := HQ.out _ hbw
          have HBW := Lib.hid hbw
          clear hbw hbi
          cases hnm : nameL (B x)
          · rw [hnm] at kn
            have HF : Hid (byP l = false) := Lib.hid (HBAD.out hnm)
            clear hnm
            go_wp2_with fail
            refine (kn _).mono ?_
            rintro e w2 ⟨rfl, rfl⟩
            go_wp2
            go_ret
            exact ⟨by rw [HF.out]; rfl, HBW.out⟩
          · rw [hnm] at kn
            have HN' := Lib.hid (HST.out (fun j hj h => HN.out j hj h) hnm)
            clear hnm
            go_wp2_with fail
            refine (kn _).mono ?_
            rintro e w2 ⟨rfl, rfl⟩
            go_wp2
            go_roundw
            case rel => exact ⟨m + 1, by go_num, by omega, HN', HBW.out⟩
            case measure => (simp [intOf]; try omega)
    · obtain rfl : k = l.length := by omega
      have HF : Hid (byP l = decide (l.length ≤ 8)) := Lib.hid (by rw [HE.out, show okAll id (fun x => nameL (B x)) l = true from okUp_all HT.out]; rfl)
      clear HT
      by_cases h8 : l.length ≤ 8
      · have hi8 : (l.length : Int) ≤ 8 := by omega
        go_wp2
        go_ret
        exact ⟨by rw [HF.out, decide_eq_true h8]; rfl, hbr⟩
      · have hi8 : ¬ (l.length : Int) ≤ 8 := by omega
        go_wp2
        go_ret
        exact ⟨by rw [HF.out, decide_eq_false h8]; rfl, hbr⟩
/-! ### when -/
theorem plainT_bad {s : ByteArray} {m : Nat} (h : m < s.size) (hx : s[m].toNat < 32) : plainT s = false := by
  unfold plainT
  rw [List.all_eq_false]
  exact ⟨s[m], by rw [List.mem_iff_getElem]; exact ⟨m, by rw [len_B]; exact h, rfl⟩, by simp; omega⟩
theorem plainT_all {s : ByteArray} (h : ∀ j (_ : j < s.size), 32 ≤ s[j].toNat) : plainT s = true := by
  unfold plainT
  rw [List.all_eq_true]
  intro c hc
  obtain ⟨i, hi, rfl⟩ := List.mem_iff_getElem.1 hc
  rw [len_B] at hi
  exact decide_eq_true (h i hi)
set_option maxHeartbeats 1600000 in
set_option maxRecDepth 100000 in
theorem when8_any (l : List Mt) (v : Value) (w : World) (hv : MtsAt w v l) (hl : l.length ≤ maxLen) (hfit : MtsFit l) :
    Calls Try.prog 42 #[v] w fun e w' => e = .returned (.bool (whenP l)) ∧ Below w.heap.size w w' := by
  obtain ⟨a, c, rfl, hc, hr⟩ := RdAt.shape hv
  have HR := Lib.hid hr
  have HFT := Lib.hid hfit
  have hl63 : l.length ≤ 9223372036854775807 := by unfold maxLen at hl; omega
  clear hr hv hl hfit
  go_enter Try.func42, Try.ntmps42
  go_wp2
  go_loopw [3] (fun i wr => ∃ k : Nat, i = .int .i64 k ∧ k ≤ l.length ∧ Hid (∀ j (_ : j < l.length), j < k → (plainT l[j].val && fineM l[j]) = true) ∧ Below w.heap.size w wr) (fun i _ => l.length - (intOf i).toNat)
  case atStart => exact ⟨0, rfl, Nat.zero_le _, Lib.hid (fun _ _ h => absurd h (Nat.not_lt_zero _)), Below.refl _ _⟩
  case round =>
    obtain ⟨k, rfl, hk, HT, hbr⟩ := hrel
    by_cases hkl : k < l.length
    · obtain ⟨b, o, rfl, hb, hcell⟩ := HR.out (by omega)
      have hbad : ∀ x, l[k] = x → (plainT x.val && fineM x) = false → whenP l = false := fun x hx h => by
        unfold whenP
        rw [Bool.and_eq_false_iff]
        left
        rw [List.all_eq_false]
        exact ⟨_, List.getElem_mem hkl, by rw [hx, h]; decide⟩
      have hfx := HFT.out _ (List.getElem_mem hkl)
      obtain ⟨h0, h1, h2⟩ := mtCells_at l k hkl
      obtain ⟨x, hx⟩ : ∃ x, l[k] = x := ⟨_, rfl⟩
      have hbad := hbad x hx
      rw [hx] at h0 h1 h2 hfx
      obtain ⟨nm, op, val⟩ := x
      dsimp only at h0 h1 h2 hbad
      have kf := fun W => fine6_any ⟨nm, op, val⟩ W hfx
      have hvl : val.size ≤ 9223372036854775807 := by have := hfx.2; unfold maxLen at this; dsimp only at this; omega
      have HQ : Hid (∀ W, Below w.heap.size w W → W.cell? ⟨b, o + k * 3, none⟩ = some (.string nm) ∧ W.cell? ⟨b, o + k * 3 + 1, none⟩ = some (.int .i64 op) ∧ W.cell? ⟨b, o + k * 3 + 2, none⟩ = some (.string val)) := Lib.hid (fun W hW =>
        ⟨keep_cell (hcell _ _ h0) hW hb, keep_cell (by have := hcell _ _ h1; rwa [← Nat.add_assoc] at this) hW hb, keep_cell (by have := hcell _ _ h2; rwa [← Nat.add_assoc] at this) hW hb⟩)
      have HBAD := Lib.hid hbad
      have HBR := Lib.hid hbr
      have HX := Lib.hid hx
      have KF := Lib.hid kf
      clear hcell h0 h1 h2 hbad hx hbr hfx kf
      go_wp2
      obtain ⟨wo, rfl⟩ : ∃ z, z = wr := ⟨_, rfl⟩
      go_loopw [4] (fun i wi => ∃ m : Nat, i = .int .i64 m ∧ m ≤ val.size ∧ Hid (∀ j (_ : j < val.size), j < m → 32 ≤ val[j].toNat) ∧ wi = wo) (fun i _ => val.size - (intOf i).toNat)
      case atStart => exact ⟨0, rfl, Nat.zero_le _, Lib.hid (fun _ _ h => absurd h (Nat.not_lt_zero _)), rfl⟩
      case round =>
        obtain ⟨m, rfl, hm, HN, hwi⟩ := hrel
        subst hwi
        obtain ⟨c0, c1, c2⟩ := HQ.out _ HBR.out
        by_cases hmk : m < val.size
        · by_cases hxy : (val[m]'hmk).toNat < 32
          · have HF : Hid (whenP l = false) := Lib.hid (HBAD.out (by rw [plainT_bad hmk hxy]; rfl))
            have hiy : (((val[m]'hmk).toNat : Nat) : Int) < 32 := by omega
            go_wp2
            go_ret
            exact ⟨by rw [HF.out]; rfl, HBR.out⟩
          · have hiy : ¬ (((val[m]'hmk).toNat : Nat) : Int) < 32 := by omega
            have HN' : Hid (∀ j (_ : j < val.size), j < m + 1 → 32 ≤ val[j].toNat) := Lib.hid (fun j hj h => by
              rcases Nat.lt_or_ge j m with h' | h'
              · exact HN.out j hj h'
              · obtain rfl : j = m := by omega
                omega)
            go_wp2
            go_roundw
            case rel => exact ⟨m + 1, by go_num, by omega, HN', trivial⟩
            case measure => (simp [intOf]; try omega)
        · obtain rfl : m = val.size := by omega
          have hpt : plainT val = true := plainT_all (fun j hj => HN.out j hj hj)
          cases hfm : fineM ⟨nm, op, val⟩
          · have HF : Hid (whenP l = false) := Lib.hid (HBAD.out (by rw [hfm, Bool.and_false]))
            have kf := KF.out wr
            rw [hfm] at kf
            clear hfm hpt
            go_wp2_with fail
            refine kf.mono ?_
            rintro e w2 ⟨rfl, hb2⟩
            have HB2 := Lib.hid (HBR.out.trans (hb2.mono HBR.out.size))
            clear hb2 c0 c1 c2
            go_wp2
            go_ret
            exact ⟨by rw [HF.out]; rfl, HB2.out⟩
          · have HN' : Hid (∀ j (_ : j < l.length), j < k + 1 → (plainT l[j].val && fineM l[j]) = true) := Lib.hid (fun j hj h => by
              rcases Nat.lt_or_ge j k with h' | h'
              · exact HT.out j hj h'
              · obtain rfl : j = k := by omega
                rw [HX.out, hfm]; dsimp only; rw [hpt]; rfl)
            have kf := KF.out wr
            rw [hfm] at kf
            clear hfm hpt
            go_wp2_with fail
            refine kf.mono ?_
            rintro e w2 ⟨rfl, hb2⟩
            have HB2 := Lib.hid (HBR.out.trans (hb2.mono HBR.out.size))
            clear hb2 c0 c1 c2
            go_wp2
            go_roundw
            case rel => exact ⟨k + 1, by go_num, by omega, HN', HB2.out⟩
            case measure => (simp [intOf]; try omega)
    · obtain rfl : k = l.length := by omega
      have HF : Hid (whenP l = decide (l.length ≤ 12)) := Lib.hid (by
        unfold whenP
        rw [List.all_eq_true.2 (fun m hm => by obtain ⟨i, hi, rfl⟩ := List.mem_iff_getElem.1 hm; exact HT.out i hi hi)]; rfl)
      clear HT
      by_cases h8 : l.length ≤ 12
      · have hi8 : (l.length : Int) ≤ 12 := by omega
        go_wp2
        go_ret
        exact ⟨by rw [HF.out, decide_eq_true h8]; rfl, hbr⟩
      · have hi8 : ¬ (l.length : Int) ≤ 12 := by omega
        go_wp2
        go_ret
        exact ⟨by rw [HF.out, decide_eq_false h8]; rfl, hbr⟩
end Go.Proofs.Ytipnhpfpppblhaa

/- lychgateref08.Check: a contract. -/
namespace Go.Proofs.Ytipnhpfpppblhaa
open Go.RowKit
theorem check_long {p : PD} (h : longP p = true) : checkP p = 4 := by unfold checkP; rw [if_pos h]
theorem check_names {p : PD} (h1 : longP p = false) (h : namesP p = false) : checkP p = 1 := by unfold checkP; rw [if_neg (by rw [h1]; decide), if_pos (by rw [h]; rfl)]
theorem check_rt {p : PD} (h1 : longP p = false) (h2 : namesP p = true) {k : Nat} (hk : k < p.ro.length) (h : badRt p.re p.ro[k] = true) : checkP p = 1 := by
  unfold checkP
  rw [if_neg (by rw [h1]; decide), if_neg (by rw [h2]; decide), if_pos (List.any_eq_true.2 ⟨_, List.getElem_mem hk, h⟩)]
theorem check_ih {p : PD} (h1 : longP p = false) (h2 : namesP p = true) {k : Nat} (hk : k < p.ih.length) (h : badIh p.ih[k] = true) : checkP p = 1 := by
  unfold checkP
  rw [if_neg (by rw [h1]; decide), if_neg (by rw [h2]; decide)]
  split
  · rfl
  · rw [if_pos (List.any_eq_true.2 ⟨_, List.getElem_mem hk, h⟩)]
theorem check_ok {p : PD} (h1 : longP p = false) (h2 : namesP p = true) (h3 : ∀ j (_ : j < p.ro.length), badRt p.re p.ro[j] = false) (h4 : ∀ j (_ : j < p.ih.length), badIh p.ih[j] = false) : checkP p = 0 := by
  unfold checkP
  rw [if_neg (by rw [h1]; decide), if_neg (by rw [h2]; decide), if_neg, if_neg]
  · rw [Bool.not_eq_true, List.any_eq_false]
    intro x hx
    obtain ⟨i, hi, rfl⟩ := List.mem_iff_getElem.1 hx
    rw [h4 i hi]; decide
  · rw [Bool.not_eq_true, List.any_eq_false]
    intro x hx
    obtain ⟨i, hi, rfl⟩ := List.mem_iff_getElem.1 hx
    rw [h3 i hi]; decide
theorem timesP_no {r : PRt} (h : ¬ (0 ≤ r.wait ∧ r.wait ≤ 1000 ∧ 1 ≤ r.every ∧ r.every ≤ 1000 ∧ r.every ≤ r.again ∧ r.again ≤ 100000)) : timesP r = false := by
  rw [Bool.eq_false_iff]
  intro hc
  unfold timesP at hc
  simp only [Bool.and_eq_true, decide_eq_true_eq] at hc
  omega
theorem timesP_yes {r : PRt} (h : 0 ≤ r.wait ∧ r.wait ≤ 1000 ∧ 1 ≤ r.every ∧ r.every ≤ 1000 ∧ r.every ≤ r.again ∧ r.again ≤ 100000) : timesP r = true := by
  unfold timesP
  simp only [Bool.and_eq_true, decide_eq_true_eq]
  omega
theorem findL_some {re : List Nmd} {n : ByteArray} (hf : NmdFit re) {y : Nmd} (h : findL re n = some y) : y.2.2 < 4294967296 := hf y (List.mem_of_find?_eq_some h)
def C5 (p : Nat) (a b c d e : Value) (W : World) : Prop := W.cell? ⟨p, 0, none⟩ = some a ∧ W.cell? ⟨p, 1, none⟩ = some b ∧ W.cell? ⟨p, 2, none⟩ = some c ∧ W.cell? ⟨p, 3, none⟩ = some d ∧ W.cell? ⟨p, 4, none⟩ = some e
theorem C5.later {p : Nat} {a b c d e : Value} {W W' : World} (h : C5 p a b c d e W) (hb : Below W.heap.size W W') (hp : p < W.heap.size) : C5 p a b c d e W' := by
  obtain ⟨h0, h1, h2, h3, h4⟩ := h
  exact ⟨keep_cell h0 hb hp, keep_cell h1 hb hp, keep_cell h2 hb hp, keep_cell h3 hb hp, keep_cell h4 hb hp⟩
theorem box6n (W : World) (a b c d e f : Value) (t : TypeId) : C6 W.heap.size a b c d e f (W.alloc (.cells #[a, b, c, d, e, f] t)) := by
  have hc : ∀ (i : Nat), (W.alloc (.cells #[a, b, c, d, e, f] t)).cell? ⟨W.heap.size, i, none⟩ = _ := fun i => World.cell?_alloc_at _ _ _ _ rfl
  exact ⟨hc 0, hc 1, hc 2, hc 3, hc 4, hc 5⟩
theorem box5n (W : World) (a b c d e : Value) (t : TypeId) : C5 W.heap.size a b c d e (W.alloc (.cells #[a, b, c, d, e] t)) := by
  have hc : ∀ (i : Nat), (W.alloc (.cells #[a, b, c, d, e] t)).cell? ⟨W.heap.size, i, none⟩ = _ := fun i => World.cell?_alloc_at _ _ _ _ rfl
  exact ⟨hc 0, hc 1, hc 2, hc 3, hc 4⟩
set_option maxHeartbeats 3200000 in
set_option maxRecDepth 100000 in
theorem check8_any (v : PV) (p : PD) (w : World) (hv : PolAt w v p) (hf : PolFitD p) :
    Calls Try.prog 16 #[v.v] w fun e w' => e = .returned (.int .i64 (checkP p)) ∧ Below w.heap.size w w' := by
  obtain ⟨v0, v1, v2, v3, v4, v5⟩ := v
  obtain ⟨h0, h1, h2, h3, ⟨h4, h4i⟩, h5, h5i⟩ := hv
  obtain ⟨f0, f1, f2, f3, fl4, f4, fl5, f5⟩ := hf
  dsimp only at h0 h1 h2 h3 h4 h4i h5 h5i
  have k0 := fun W (h : Below w.heap.size w W) => named8_any p.so v0 W (h0.later h) f0
  have k1 := fun W (h : Below w.heap.size w W) => named8_any p.re v1 W (h1.later h) f1
  have k2 := fun W (h : Below w.heap.size w W) => named8_any p.pe v2 W (h2.later h) f2
  have k3 := fun W (h : Below w.heap.size w W) => named8_any p.ra v3 W (h3.later h) f3
  have kf := fun n W (h : Below w.heap.size w W) => rfind_any p.re n v1 W (h1.later h) f1.1
  have kfit := fun n y => findL_some (n := n) (y := y) f1.2.1
  have HL := Lib.hid (And.intro f0.1 (And.intro f1.1 (And.intro f2.1 (And.intro f3.1 (And.intro fl4 fl5)))))
  obtain ⟨a0, c0, rfl, _, _⟩ := RdAt.shape h0
  obtain ⟨a1, c1, rfl, _, _⟩ := RdAt.shape h1
  obtain ⟨a2, c2, rfl, _, _⟩ := RdAt.shape h2
  obtain ⟨a3, c3, rfl, _, _⟩ := RdAt.shape h3
  obtain ⟨a4, c4, rfl, _, hr4⟩ := RdAt.shape h4
  obtain ⟨a5, c5, rfl, _, hr5⟩ := RdAt.shape h5
  have HR4 := Lib.hid hr4
  have HR5 := Lib.hid hr5
  have HI4 := Lib.hid h4i
  have HI5 := Lib.hid h5i
  have HF4 := Lib.hid f4
  have HF5 := Lib.hid f5
  have K0 := Lib.hid k0
  have K1 := Lib.hid k1
  have K2 := Lib.hid k2
  have K3 := Lib.hid k3
  have KF := Lib.hid kf
  have KFIT := Lib.hid kfit
  obtain ⟨W0, hW0⟩ : ∃ z, w.alloc (.cells #[.slice a0 p.so.length c0, .slice a1 p.re.length c1, .slice a2 p.pe.length c2, .slice a3 p.ra.length c3, .slice a4 p.ro.length c4, .slice a5 p.ih.length c5] 26) = z := ⟨_, rfl⟩
  have hB0 : Below w.heap.size w W0 := by rw [← hW0]; exact alloc_below _ _
  have hd := (Below.refl W0.heap.size W0)
  rw [← hW0] at hd
  obtain ⟨hC, hlt, _⟩ := box6 hd
  rw [hW0] at hC hlt
  have HC : Hid (∀ W, Below W0.heap.size W0 W → C6 w.heap.size (.slice a0 p.so.length c0) (.slice a1 p.re.length c1) (.slice a2 p.pe.length c2) (.slice a3 p.ra.length c3) (.slice a4 p.ro.length c4) (.slice a5 p.ih.length c5) W) := Lib.hid (fun W h => C6.later hC h hlt)
  have HB0 := Lib.hid hB0
  have HW0 := Lib.hid hW0
  have HLT := Lib.hid hlt
  clear h0 h1 h2 h3 h4 h4i h5 h5i f0 f1 f2 f3 f4 f5 fl4 fl5 hr4 hr5 k0 k1 k2 k3 kf kfit hB0 hW0 hd hC hlt
  go_enter Try.func16, Try.ntmps16
  go_upto_region 1 with fail
  rw [HW0.out]
  clear HW0
  obtain ⟨p0, p1, p2, p3, p4, p5⟩ := HC.out W0 (Below.refl _ _)
  rcases (show 12 < p.so.length ∨ (p.so.length ≤ 12 ∧ 12 < p.re.length) ∨ (p.so.length ≤ 12 ∧ p.re.length ≤ 12 ∧ 12 < p.pe.length) ∨ (p.so.length ≤ 12 ∧ p.re.length ≤ 12 ∧ p.pe.length ≤ 12 ∧ 12 < p.ra.length) ∨ (p.so.length ≤ 12 ∧ p.re.length ≤ 12 ∧ p.pe.length ≤ 12 ∧ p.ra.length ≤ 12 ∧ 12 < p.ro.length) ∨ (p.so.length ≤ 12 ∧ p.re.length ≤ 12 ∧ p.pe.length ≤ 12 ∧ p.ra.length ≤ 12 ∧ p.ro.length ≤ 12 ∧ 12 < p.ih.length) ∨ (p.so.length ≤ 12 ∧ p.re.length ≤ 12 ∧ p.pe.length ≤ 12 ∧ p.ra.length ≤ 12 ∧ p.ro.length ≤ 12 ∧ p.ih.length ≤ 12) by omega) with l0 | ⟨l0, l1⟩ | ⟨l0, l1, l2⟩ | ⟨l0, l1, l2, l3⟩ | ⟨l0, l1, l2, l3, l4⟩ | ⟨l0, l1, l2, l3, l4, l5⟩ | ⟨l0, l1, l2, l3, l4, l5⟩
  iterate 6
    · have HX : Hid (checkP p = 4) := Lib.hid (check_long (by unfold longP; simp only [Bool.or_eq_true, decide_eq_true_eq]; omega))
      have g0 : (12 : Int) < (p.so.length : Int) ∨ True := Or.inr trivial
      clear g0 HC
      go_wp2
      go_ret
      exact ⟨by rw [HX.out]; rfl, HB0.out⟩
  · have HLP : Hid (longP p = false) := Lib.hid (by unfold longP; simp only [Bool.or_eq_false_iff, decide_eq_false_iff_not]; omega)
    have HNO : Hid (namesP p = false → checkP p = 1) := Lib.hid (fun h => check_names HLP.out h)
    go_upto_region 3 with fail
    clear l0 l1 l2 l3 l4 l5
    cases n0 : namedP p.so
    · have HX : Hid (checkP p = 1) := Lib.hid (HNO.out (by unfold namesP; rw [n0]; rfl))
      have kk := K0.out _ HB0.out
      rw [n0] at kk
      clear n0
      go_wp2_with fail
      refine kk.mono ?_
      rintro e w1 ⟨rfl, hb1⟩
      have HB1 := Lib.hid (HB0.out.trans (hb1.mono HB0.out.size))
      clear hb1 p0 p1 p2 p3 p4 p5
      go_wp2
      go_ret
      exact ⟨by rw [HX.out]; rfl, HB1.out⟩
    · have kk := K0.out _ HB0.out
      rw [n0] at kk
      have N0 := Lib.hid n0
      clear n0
      go_wp2_with fail
      refine kk.mono ?_
      rintro e w1 ⟨rfl, hb1⟩
      have HS1 := Lib.hid hb1
      have HB1 := Lib.hid (HB0.out.trans (hb1.mono HB0.out.size))
      clear hb1 kk p0 p1 p2 p3 p4 p5
      obtain ⟨p0, p1, p2, p3, p4, p5⟩ := HC.out _ HS1.out
      cases n1 : namedP p.re
      · have HX : Hid (checkP p = 1) := Lib.hid (HNO.out (by unfold namesP; rw [n1, Bool.and_false]; rfl))
        have kk := K1.out _ HB1.out
        rw [n1] at kk
        clear n1
        go_wp2_with fail
        refine kk.mono ?_
        rintro e w2 ⟨rfl, hb2⟩
        have HB2 := Lib.hid (HB1.out.trans (hb2.mono HB1.out.size))
        clear hb2 p0 p1 p2 p3 p4 p5
        go_wp2
        go_ret
        exact ⟨by rw [HX.out]; rfl, HB2.out⟩
      · have kk := K1.out _ HB1.out
        rw [n1] at kk
        have N1 := Lib.hid n1
        clear n1
        go_wp2_with fail
        refine kk.mono ?_
        rintro e w2 ⟨rfl, hb2⟩
        have HS2 := Lib.hid (HS1.out.trans (hb2.mono HS1.out.size))
        have HB2 := Lib.hid (HB1.out.trans (hb2.mono HB1.out.size))
        clear hb2 kk p0 p1 p2 p3 p4 p5
        obtain ⟨p0, p1, p2, p3, p4, p5⟩ := HC.out _ HS2.out
        cases n2 : namedP p.pe
        · have HX : Hid (checkP p = 1) := Lib.hid (HNO.out (by unfold namesP; rw [n2, Bool.and_false]; rfl))
          have kk := K2.out _ HB2.out
          rw [n2] at kk
          clear n2
          go_wp2_with fail
          refine kk.mono ?_
          rintro e w3 ⟨rfl, hb3⟩
          have HB3 := Lib.hid (HB2.out.trans (hb3.mono HB2.out.size))
          clear hb3 p0 p1 p2 p3 p4 p5
          go_wp2
          go_ret
          exact ⟨by rw [HX.out]; rfl, HB3.out⟩
        · have kk := K2.out _ HB2.out
          rw [n2] at kk
          have N2 := Lib.hid n2
          clear n2
          go_wp2_with fail
          refine kk.mono ?_
          rintro e w3 ⟨rfl, hb3⟩
          have HS3 := Lib.hid (HS2.out.trans (hb3.mono HS2.out.size))
          have HB3 := Lib.hid (HB2.out.trans (hb3.mono HB2.out.size))
          clear hb3 kk p0 p1 p2 p3 p4 p5
          obtain ⟨p0, p1, p2, p3, p4, p5⟩ := HC.out _ HS3.out
          cases n3 : namedP p.ra
          · have HX : Hid (checkP p = 1) := Lib.hid (HNO.out (by unfold namesP; rw [n3, Bool.and_false]))
            have kk := K3.out _ HB3.out
            rw [n3] at kk
            clear n3
            go_wp2_with fail
            refine kk.mono ?_
            rintro e w4 ⟨rfl, hb4⟩
            have HB4 := Lib.hid (HB3.out.trans (hb4.mono HB3.out.size))
            clear hb4 p0 p1 p2 p3 p4 p5
            go_wp2
            go_ret
            exact ⟨by rw [HX.out]; rfl, HB4.out⟩
          · have HNP : Hid (namesP p = true) := Lib.hid (by unfold namesP; rw [N0.out, N1.out, N2.out, n3]; rfl)
            have kk := K3.out _ HB3.out
            rw [n3] at kk
            clear n3
            go_wp2_with fail
            refine kk.mono ?_
            rintro e w4 ⟨rfl, hb4⟩
            have HS4 := Lib.hid (HS3.out.trans (hb4.mono HS3.out.size))
            have HB4 := Lib.hid (HB3.out.trans (hb4.mono HB3.out.size))
            clear hb4 kk p0 p1 p2 p3 p4 p5 N0 N1 N2 HNO K0 K1 K2 K3 HS1 HS2 HS3 HB1 HB2 HB3
            have hl4 : p.ro.length ≤ 9223372036854775807 := by have := HL.out.2.2.2.2.1; unfold maxLen at this; omega
            have hl5 : p.ih.length ≤ 9223372036854775807 := by have := HL.out.2.2.2.2.2; unfold maxLen at this; omega
            go_wp2
            go_loopw [3] (fun i wr => ∃ k : Nat, i = .int .i64 k ∧ k ≤ p.ro.length ∧ Hid (∀ j (_ : j < p.ro.length), j < k → badRt p.re p.ro[j] = false) ∧ Below W0.heap.size W0 wr) (fun i _ => p.ro.length - (intOf i).toNat)
            case atStart => exact ⟨0, rfl, Nat.zero_le _, Lib.hid (fun _ _ h => absurd h (Nat.not_lt_zero _)), HS4.out⟩
            case round =>
              obtain ⟨k, rfl, hk, HT, hbr⟩ := hrel
              have HBR := Lib.hid hbr
              obtain ⟨p0, p1, p2, p3, p4, p5⟩ := HC.out _ hbr
              have HBW : Hid (Below w.heap.size w wr) := Lib.hid (HB0.out.trans (hbr.mono HB0.out.size))
              clear hbr
              by_cases hkl : k < p.ro.length
              · obtain ⟨b, o, rfl, hb, hcell⟩ := HR4.out (by omega)
                have hbad : badRt p.re p.ro[k] = true → checkP p = 1 := fun h => check_rt HLP.out HNP.out hkl h
                have HC4 := cellsG_at rtC_len p.ro k hkl
                have hri := HI4.out _ (List.getElem_mem hkl)
                have hrf := HF4.out _ (List.getElem_mem hkl)
                obtain ⟨x, hx⟩ : ∃ x, p.ro[k] = x := ⟨_, rfl⟩
                rw [hx] at HC4 hbad hri hrf
                have HX := Lib.hid hx
                have HBAD := Lib.hid hbad
                have kby := fun W (h : Below w.heap.size w W) => by8_any x.bys x.bv W (RdAt.later hri.b h) hrf.bys
                have kwh := fun W (h : Below w.heap.size w W) => when8_any x.whn x.wv W (hri.m.later h) hrf.len hrf.whn
                have kfd := KF.out x.rcv
                have KBY := Lib.hid kby
                have KWH := Lib.hid kwh
                have q : ∀ i v, (rtC x)[i]? = some v → wr.cell? ⟨b, o + k * 6 + i, none⟩ = some v := fun i v hi => keep_cell (by have := hcell _ _ (HC4 i v hi); rwa [← Nat.add_assoc] at this) HBW.out hb
                obtain ⟨rcv, bys, wait, every, again, whn, bv, wv⟩ := x
                dsimp only at *
                have r0 : wr.cell? ⟨b, o + k * 6, none⟩ = some (.string rcv) := q 0 _ rfl
                have r1 : wr.cell? ⟨b, o + k * 6 + 1, none⟩ = some bv := q 1 _ rfl
                have r2 : wr.cell? ⟨b, o + k * 6 + 2, none⟩ = some (.int .i64 wait) := q 2 _ rfl
                have r3 : wr.cell? ⟨b, o + k * 6 + 3, none⟩ = some (.int .i64 every) := q 3 _ rfl
                have r4 : wr.cell? ⟨b, o + k * 6 + 4, none⟩ = some (.int .i64 again) := q 4 _ rfl
                have r5 : wr.cell? ⟨b, o + k * 6 + 5, none⟩ = some wv := q 5 _ rfl
                obtain ⟨ba, bc, hba, _, _⟩ := RdAt.shape hri.b
                dsimp only at hba
                subst hba
                obtain ⟨wa, wc, hwa, _, _⟩ := RdAt.shape hri.m
                dsimp only at hwa
                subst hwa
                have KFD := Lib.hid kfd
                clear q HC4 hcell hbad hri hrf hx kby kwh kfd
                go_upto_region 9 with fail
                change Code.wp _ _ _ _ (wr.alloc (.cells #[.string rcv, .slice ba bys.length bc, .int .i64 wait, .int .i64 every, .int .i64 again, .slice wa whn.length wc] 92))
                have hbx := alloc_below wr (.cells #[.string rcv, .slice ba bys.length bc, .int .i64 wait, .int .i64 every, .int .i64 again, .slice wa whn.length wc] 92)
                have hrx := box6n wr (.string rcv) (.slice ba bys.length bc) (.int .i64 wait) (.int .i64 every) (.int .i64 again) (.slice wa whn.length wc) 92
                have hsx := World.size_alloc wr (.cells #[.string rcv, .slice ba bys.length bc, .int .i64 wait, .int .i64 every, .int .i64 again, .slice wa whn.length wc] 92)
                generalize wr.alloc (.cells #[.string rcv, .slice ba bys.length bc, .int .i64 wait, .int .i64 every, .int .i64 again, .slice wa whn.length wc] 92) = wx at *
                have hltx : wr.heap.size < wx.heap.size := by omega
                have HSX := Lib.hid (HBR.out.trans (hbx.mono HBR.out.size))
                have HBX := Lib.hid (HBW.out.trans (hbx.mono HBW.out.size))
                have HRX := Lib.hid hrx
                have HLX := Lib.hid hltx
                clear p0 p1 p2 p3 p4 p5 r0 r1 r2 r3 r4 r5 hbx hsx hrx hltx HBR
                obtain ⟨p0, p1, p2, p3, p4, p5⟩ := HC.out _ HSX.out
                obtain ⟨r0, r1, r2, r3, r4, r5⟩ := HRX.out
                generalize wr.heap.size = bx at *
                have kk := KFD.out _ HBX.out
                cases hfl : findL p.re rcv with
                | none =>
                  have HX1 : Hid (checkP p = 1) := Lib.hid (HBAD.out (by unfold badRt; dsimp only; rw [hfl]; rfl))
                  rw [hfl] at kk
                  clear hfl
                  go_wp2_with fail
                  refine kk.mono ?_
                  rintro e w5 ⟨rfl, hb5⟩
                  have HB5 := Lib.hid (HBX.out.trans (hb5.mono HBX.out.size))
                  clear hb5 p0 p1 p2 p3 p4 p5 r0 r1 r2 r3 r4 r5 kk
                  unfold findV
                  dsimp only [Option.isSome]
                  go_wp2
                  go_ret
                  refine ⟨by rw [HX1.out]; rfl, ?_⟩
                  exact HB5.out.trans ((alloc_below w5 _).mono HB5.out.size)
                | some y =>
                  rw [hfl] at kk
                  have HFL := Lib.hid hfl
                  clear hfl
                  go_wp2_with fail
                  refine kk.mono ?_
                  rintro e w5 ⟨rfl, hb5⟩
                  have HB5 := Lib.hid (HBX.out.trans (hb5.mono HBX.out.size))
                  have HS5 := Lib.hid (HSX.out.trans (hb5.mono HSX.out.size))
                  have HR5' := Lib.hid (C6.later HRX.out hb5 HLX.out)
                  have HL5 := Lib.hid (Nat.lt_of_lt_of_le HLX.out hb5.size)
                  clear hb5 p0 p1 p2 p3 p4 p5 r0 r1 r2 r3 r4 r5 kk
                  obtain ⟨yn, yl, yc⟩ := y
                  unfold findV
                  dsimp only [Option.isSome]
                  go_upto_region 10 with fail
                  change Code.wp _ _ _ _ (w5.alloc (.cells #[.int .i64 yl, .int .u32 yc] 34))
                  have hb6 := alloc_below w5 (.cells #[.int .i64 yl, .int .u32 yc] 34)
                  generalize w5.alloc (.cells #[.int .i64 yl, .int .u32 yc] 34) = w6 at *
                  have HB6 := Lib.hid (HB5.out.trans (hb6.mono HB5.out.size))
                  have HS6 := Lib.hid (HS5.out.trans (hb6.mono HS5.out.size))
                  have HR6 := Lib.hid (C6.later HR5'.out hb6 HL5.out)
                  have HL6 := Lib.hid (Nat.lt_of_lt_of_le HL5.out hb6.size)
                  clear hb6 HB5 HS5 HR5' HL5 HRX HLX HBX HSX
                  obtain ⟨r0, r1, r2, r3, r4, r5⟩ := HR6.out
                  have kk := KBY.out _ HB6.out
                  cases hby : byP bys
                  · have HX1 : Hid (checkP p = 1) := Lib.hid (HBAD.out (by unfold badRt; dsimp only; rw [hby]; simp))
                    rw [hby] at kk
                    clear hby
                    go_wp2_with fail
                    refine kk.mono ?_
                    rintro e w7 ⟨rfl, hb7⟩
                    have HB7 := Lib.hid (HB6.out.trans (hb7.mono HB6.out.size))
                    clear hb7 r0 r1 r2 r3 r4 r5 kk
                    go_wp2
                    go_ret
                    exact ⟨by rw [HX1.out]; rfl, HB7.out⟩
                  · rw [hby] at kk
                    have HBY := Lib.hid hby
                    clear hby
                    go_wp2_with fail
                    refine kk.mono ?_
                    rintro e w7 ⟨rfl, hb7⟩
                    have HB7 := Lib.hid (HB6.out.trans (hb7.mono HB6.out.size))
                    have HS7 := Lib.hid (HS6.out.trans (hb7.mono HS6.out.size))
                    have HR7 := Lib.hid (C6.later HR6.out hb7 HL6.out)
                    clear hb7 r0 r1 r2 r3 r4 r5 kk HR6 HL6 HS6 HB6
                    obtain ⟨r0, r1, r2, r3, r4, r5⟩ := HR7.out
                    rcases (show wait < 0 ∨ (0 ≤ wait ∧ 1000 < wait) ∨ (0 ≤ wait ∧ wait ≤ 1000 ∧ every < 1) ∨ (0 ≤ wait ∧ wait ≤ 1000 ∧ 1 ≤ every ∧ 1000 < every) ∨ (0 ≤ wait ∧ wait ≤ 1000 ∧ 1 ≤ every ∧ every ≤ 1000 ∧ again < every) ∨ (0 ≤ wait ∧ wait ≤ 1000 ∧ 1 ≤ every ∧ every ≤ 1000 ∧ every ≤ again ∧ 100000 < again) ∨ (0 ≤ wait ∧ wait ≤ 1000 ∧ 1 ≤ every ∧ every ≤ 1000 ∧ every ≤ again ∧ again ≤ 100000) by omega) with g0 | ⟨g0, g1⟩ | ⟨g0, g1, g2⟩ | ⟨g0, g1, g2, g3⟩ | ⟨g0, g1, g2, g3, g4⟩ | ⟨g0, g1, g2, g3, g4, g5⟩ | ⟨g0, g1, g2, g3, g4, g5⟩
                    iterate 6
                      · have HX1 : Hid (checkP p = 1) := Lib.hid (HBAD.out (by unfold badRt; rw [timesP_no (by dsimp only; omega)]; simp))
                        clear KWH HBAD
                        go_wp2
                        go_ret
                        exact ⟨by rw [HX1.out]; rfl, HB7.out⟩
                    · have HTY : Hid (timesP ⟨rcv, bys, wait, every, again, whn, .slice ba bys.length bc, .slice wa whn.length wc⟩ = true) := Lib.hid (timesP_yes (by dsimp only; omega))
                      have kk := KWH.out _ HB7.out
                      cases hwh : whenP whn
                      · have HX1 : Hid (checkP p = 1) := Lib.hid (HBAD.out (by unfold badRt; dsimp only; rw [hwh]; simp))
                        rw [hwh] at kk
                        clear hwh
                        go_wp2_with fail
                        refine kk.mono ?_
                        rintro e w8 ⟨rfl, hb8⟩
                        have HB8 := Lib.hid (HB7.out.trans (hb8.mono HB7.out.size))
                        clear hb8 r0 r1 r2 r3 r4 r5 kk
                        go_wp2
                        go_ret
                        exact ⟨by rw [HX1.out]; rfl, HB8.out⟩
                      · have HOK : Hid (∀ j (_ : j < p.ro.length), j < k + 1 → badRt p.re p.ro[j] = false) := Lib.hid (fun j hj h => by
                          rcases Nat.lt_or_ge j k with h' | h'
                          · exact HT.out j hj h'
                          · obtain rfl : j = k := by omega
                            rw [HX.out]; unfold badRt; rw [HTY.out]; dsimp only; rw [HFL.out, HBY.out, hwh]; rfl)
                        rw [hwh] at kk
                        clear hwh
                        go_wp2_with fail
                        refine kk.mono ?_
                        rintro e w8 ⟨rfl, hb8⟩
                        have HS8 := Lib.hid (HS7.out.trans (hb8.mono HS7.out.size))
                        clear hb8 r0 r1 r2 r3 r4 r5 kk
                        go_wp2
                        go_roundw
                        case rel => exact ⟨k + 1, by go_num, by omega, HOK, HS8.out⟩
                        case measure => (simp [intOf]; try omega)
              · obtain rfl : k = p.ro.length := by omega
                have HRO : Hid (∀ j (_ : j < p.ro.length), badRt p.re p.ro[j] = false) := Lib.hid (fun j hj => HT.out j hj hj)
                clear HT hk hkl
                go_wp2
                obtain ⟨wo, rfl⟩ : ∃ z, z = wr := ⟨_, rfl⟩
                go_loopw [7] (fun i wr => ∃ k : Nat, i = .int .i64 k ∧ k ≤ p.ih.length ∧ Hid (∀ j (_ : j < p.ih.length), j < k → badIh p.ih[j] = false) ∧ Below W0.heap.size W0 wr) (fun i _ => p.ih.length - (intOf i).toNat)
                case atStart => exact ⟨0, rfl, Nat.zero_le _, Lib.hid (fun _ _ h => absurd h (Nat.not_lt_zero _)), HBR.out⟩
                case round =>
                  clear HBR HBW p0 p1 p2 p3 p4 p5
                  obtain ⟨k, rfl, hk, HT, hbr⟩ := hrel
                  have HBR := Lib.hid hbr
                  obtain ⟨p0, p1, p2, p3, p4, p5⟩ := HC.out _ hbr
                  have HBW : Hid (Below w.heap.size w wr) := Lib.hid (HB0.out.trans (hbr.mono HB0.out.size))
                  clear hbr
                  by_cases hkl : k < p.ih.length
                  · obtain ⟨b, o, rfl, hb, hcell⟩ := HR5.out (by omega)
                    have hbad : badIh p.ih[k] = true → checkP p = 1 := fun h => check_ih HLP.out HNP.out hkl h
                    have HC5 := cellsG_at ihC_len p.ih k hkl
                    have hri := HI5.out _ (List.getElem_mem hkl)
                    have hrf := HF5.out _ (List.getElem_mem hkl)
                    obtain ⟨x, hx⟩ : ∃ x, p.ih[k] = x := ⟨_, rfl⟩
                    rw [hx] at HC5 hbad hri hrf
                    have HX := Lib.hid hx
                    have HBAD := Lib.hid hbad
                    have KBY := Lib.hid (fun W (h : Below w.heap.size w W) => by8_any x.bys x.bv W (RdAt.later hri.b h) hrf.bys)
                    have KW1 := Lib.hid (fun W (h : Below w.heap.size w W) => when8_any x.frm x.fv W (hri.f.later h) hrf.lf hrf.frm)
                    have KW2 := Lib.hid (fun W (h : Below w.heap.size w W) => when8_any x.whn x.wv W (hri.m.later h) hrf.lw hrf.whn)
                    have KRL := Lib.hid (rright_any x.lv x.c)
                    have q : ∀ i v, (ihC x)[i]? = some v → wr.cell? ⟨b, o + k * 5 + i, none⟩ = some v := fun i v hi => keep_cell (by have := hcell _ _ (HC5 i v hi); rwa [← Nat.add_assoc] at this) HBW.out hb
                    obtain ⟨bys, lv, c, frm, whn, bv, fv, wv⟩ := x
                    dsimp only at *
                    have r0 : wr.cell? ⟨b, o + k * 5, none⟩ = some bv := q 0 _ rfl
                    have r1 : wr.cell? ⟨b, o + k * 5 + 1, none⟩ = some (.int .i64 lv) := q 1 _ rfl
                    have r2 : wr.cell? ⟨b, o + k * 5 + 2, none⟩ = some (.int .u32 c) := q 2 _ rfl
                    have r3 : wr.cell? ⟨b, o + k * 5 + 3, none⟩ = some fv := q 3 _ rfl
                    have r4 : wr.cell? ⟨b, o + k * 5 + 4, none⟩ = some wv := q 4 _ rfl
                    obtain ⟨ba, bc, hba, _, _⟩ := RdAt.shape hri.b
                    dsimp only at hba
                    subst hba
                    obtain ⟨fa, fc, hfa, _, _⟩ := RdAt.shape hri.f
                    dsimp only at hfa
                    subst hfa
                    obtain ⟨wa, wc, hwa, _, _⟩ := RdAt.shape hri.m
                    dsimp only at hwa
                    subst hwa
                    clear q HC5 hcell hbad hri hrf hx
                    go_upto_region 16 with fail
                    change Code.wp _ _ _ _ (wr.alloc (.cells #[.slice ba bys.length bc, .int .i64 lv, .int .u32 c, .slice fa frm.length fc, .slice wa whn.length wc] 96))
                    have hbx := alloc_below wr (.cells #[.slice ba bys.length bc, .int .i64 lv, .int .u32 c, .slice fa frm.length fc, .slice wa whn.length wc] 96)
                    have hrx := box5n wr (.slice ba bys.length bc) (.int .i64 lv) (.int .u32 c) (.slice fa frm.length fc) (.slice wa whn.length wc) 96
                    have hsx := World.size_alloc wr (.cells #[.slice ba bys.length bc, .int .i64 lv, .int .u32 c, .slice fa frm.length fc, .slice wa whn.length wc] 96)
                    generalize wr.alloc (.cells #[.slice ba bys.length bc, .int .i64 lv, .int .u32 c, .slice fa frm.length fc, .slice wa whn.length wc] 96) = w5 at *
                    have hltx : wr.heap.size < w5.heap.size := by omega
                    have HS5 := Lib.hid (HBR.out.trans (hbx.mono HBR.out.size))
                    have HB5 := Lib.hid (HBW.out.trans (hbx.mono HBW.out.size))
                    have HR5' := Lib.hid hrx
                    have HL5 := Lib.hid hltx
                    clear p0 p1 p2 p3 p4 p5 r0 r1 r2 r3 r4 hbx hsx hrx hltx HBR
                    obtain ⟨r0, r1, r2, r3, r4⟩ := HR5'.out
                    generalize wr.heap.size = bx at *
                    have kk := KBY.out _ HB5.out
                    cases hby : byP bys
                    · have HX1 : Hid (checkP p = 1) := Lib.hid (HBAD.out (by unfold badIh; dsimp only; rw [hby]; rfl))
                      rw [hby] at kk
                      clear hby
                      go_wp2_with fail
                      refine kk.mono ?_
                      rintro e w6 ⟨rfl, hb6⟩
                      have HB6 := Lib.hid (HB5.out.trans (hb6.mono HB5.out.size))
                      clear hb6 r0 r1 r2 r3 r4 kk
                      go_wp2
                      go_ret
                      exact ⟨by rw [HX1.out]; rfl, HB6.out⟩
                    · rw [hby] at kk
                      have HBY := Lib.hid hby
                      clear hby
                      go_wp2_with fail
                      refine kk.mono ?_
                      rintro e w6 ⟨rfl, hb6⟩
                      have HB6 := Lib.hid (HB5.out.trans (hb6.mono HB5.out.size))
                      have HS6 := Lib.hid (HS5.out.trans (hb6.mono HS5.out.size))
                      have HR6 := Lib.hid (C5.later HR5'.out hb6 HL5.out)
                      have HL6 := Lib.hid (Nat.lt_of_lt_of_le HL5.out hb6.size)
                      clear hb6 r0 r1 r2 r3 r4 kk HR5' HL5 HS5 HB5
                      obtain ⟨r0, r1, r2, r3, r4⟩ := HR6.out
                      have kk := KRL.out w6
                      cases hrl : rightL lv
                      · have HX1 : Hid (checkP p = 1) := Lib.hid (HBAD.out (by unfold badIh; dsimp only; rw [hrl]; simp))
                        rw [hrl] at kk
                        clear hrl
                        go_wp2_with fail
                        refine kk.mono ?_
                        rintro e w7 ⟨rfl, hb7⟩
                        have HB7 := Lib.hid (HB6.out.trans (hb7.mono HB6.out.size))
                        clear hb7 r0 r1 r2 r3 r4 kk
                        go_wp2
                        go_ret
                        exact ⟨by rw [HX1.out]; rfl, HB7.out⟩
                      · rw [hrl] at kk
                        have HRLt := Lib.hid hrl
                        clear hrl
                        go_wp2_with fail
                        refine kk.mono ?_
                        rintro e w7 ⟨rfl, hb7⟩
                        have HB7 := Lib.hid (HB6.out.trans (hb7.mono HB6.out.size))
                        have HS7 := Lib.hid (HS6.out.trans (hb7.mono HS6.out.size))
                        have HR7 := Lib.hid (C5.later HR6.out hb7 HL6.out)
                        have HL7 := Lib.hid (Nat.lt_of_lt_of_le HL6.out hb7.size)
                        clear hb7 r0 r1 r2 r3 r4 kk HR6 HL6 HS6 HB6
                        obtain ⟨r0, r1, r2, r3, r4⟩ := HR7.out
                        have kk := KW1.out _ HB7.out
                        cases hw1 : whenP frm
                        · have HX1 : Hid (checkP p = 1) := Lib.hid (HBAD.out (by unfold badIh; dsimp only; rw [hw1]; simp))
                          rw [hw1] at kk
                          clear hw1
                          go_wp2_with fail
                          refine kk.mono ?_
                          rintro e w8 ⟨rfl, hb8⟩
                          have HB8 := Lib.hid (HB7.out.trans (hb8.mono HB7.out.size))
                          clear hb8 r0 r1 r2 r3 r4 kk
                          go_wp2
                          go_ret
                          exact ⟨by rw [HX1.out]; rfl, HB8.out⟩
                        · rw [hw1] at kk
                          have HW1 := Lib.hid hw1
                          clear hw1
                          go_wp2_with fail
                          refine kk.mono ?_
                          rintro e w8 ⟨rfl, hb8⟩
                          have HB8 := Lib.hid (HB7.out.trans (hb8.mono HB7.out.size))
                          have HS8 := Lib.hid (HS7.out.trans (hb8.mono HS7.out.size))
                          have HR8 := Lib.hid (C5.later HR7.out hb8 HL7.out)
                          clear hb8 r0 r1 r2 r3 r4 kk HR7 HL7 HS7 HB7
                          obtain ⟨r0, r1, r2, r3, r4⟩ := HR8.out
                          have kk := KW2.out _ HB8.out
                          cases hw2 : whenP whn
                          · have HX1 : Hid (checkP p = 1) := Lib.hid (HBAD.out (by unfold badIh; dsimp only; rw [hw2]; simp))
                            rw [hw2] at kk
                            clear hw2
                            go_wp2_with fail
                            refine kk.mono ?_
                            rintro e w9 ⟨rfl, hb9⟩
                            have HB9 := Lib.hid (HB8.out.trans (hb9.mono HB8.out.size))
                            clear hb9 r0 r1 r2 r3 r4 kk
                            go_wp2
                            go_ret
                            exact ⟨by rw [HX1.out]; rfl, HB9.out⟩
                          · have HOK : Hid (∀ j (_ : j < p.ih.length), j < k + 1 → badIh p.ih[j] = false) := Lib.hid (fun j hj h => by
                              rcases Nat.lt_or_ge j k with h' | h'
                              · exact HT.out j hj h'
                              · obtain rfl : j = k := by omega
                                rw [HX.out]; unfold badIh; dsimp only; rw [HBY.out, HRLt.out, HW1.out, hw2]; rfl)
                            rw [hw2] at kk
                            clear hw2
                            go_wp2_with fail
                            refine kk.mono ?_
                            rintro e w9 ⟨rfl, hb9⟩
                            have HS9 := Lib.hid (HS8.out.trans (hb9.mono HS8.out.size))
                            clear hb9 r0 r1 r2 r3 r4 kk
                            go_wp2
                            go_roundw
                            case rel => exact ⟨k + 1, by go_num, by omega, HOK, HS9.out⟩
                            case measure => (simp [intOf]; try omega)
                  · obtain rfl : k = p.ih.length := by omega
                    have HX1 : Hid (checkP p = 0) := Lib.hid (check_ok HLP.out HNP.out HRO.out (fun j hj => HT.out j hj hj))
                    clear HT hk hkl
                    go_wp2
                    go_ret
                    exact ⟨by rw [HX1.out]; rfl, HBW.out⟩
end Go.Proofs.Ytipnhpfpppblhaa

/- The arguments of chapter 09's laws: alerts, labels, numbers, policies. -/
namespace Go.Proofs.Ytipnhpfpppblhaa
open Go.RowKit Go.WideShapes Go.ChangeShapes Go.Deep
theorem cell_ltA {w : World} {a : Addr} {v : Value} (h : w.cell? a = some v) : a.block < w.heap.size := by
  rcases Nat.lt_or_ge a.block w.heap.size with h' | h'
  · exact h'
  · simp [World.cell?, Array.getElem?_eq_none h'] at h
section
variable {H : Type} {enc : TypeId × Value → H} {P : Program} {w : World} {base : Nat} {spare : Nat → Bool} {held : Bool}
theorem open_slice_structs {t e : TypeId} {fs : Array Field} {fuel : Nat} {cs : List Value} {x : DataW H × List MemPlace} (ht : P.underlying t = some (.slice e)) (he : P.underlying e = some (.struct fs))
    (h : DataW.trod enc P w base spare held fuel t cs = some x) :
    cs = [.slice none 0 0] ∨
    ∃ (a : Addr) (len cap : Nat), cs = [.slice (some a) len cap] ∧ len ≤ cap ∧ cap ≤ maxLen ∧
      ∀ i, i < len → ∃ (es : List Value) (n : Nat), es.length = P.cellsOf e ∧ (∀ j, j < P.cellsOf e → w.cell? (a.add (i * P.cellsOf e + j)) = es[j]?) ∧
        ∀ (j : Nat) (f : Field), fs[j]? = some f → ∃ y, DataW.trod enc P w base spare held n f.type ((es.drop f.offset).take (P.cellsOf f.type)) = some y := by
  rcases open_slice ht h with ⟨h0, _⟩ | ⟨a, len, cap, m, n, D, Pl, hcs, hb, hl, hm, hmm, hx, hi⟩
  · exact .inl h0
  · refine .inr ⟨a, len, cap, hcs, hl, hm, fun i hil => ?_⟩
    obtain ⟨cs', hc, ht'⟩ := hi i (by rw [hmm]; split <;> omega)
    obtain ⟨ys, n', hn', hy, hlen, hyl, hf⟩ := DataW.trod_struct he ht'
    obtain ⟨_, hcl, hat⟩ := World.cells?_some hc
    refine ⟨cs', n', by omega, fun j hj => ?_, fun j f hj => ?_⟩
    · rw [← Go.Deep.add_add]; exact hat j hj
    · have hjl : j < fs.size := (Array.getElem?_eq_some_iff.1 hj).1
      have h1 := hf j f hj
      exact ⟨_, h1.trans (List.getElem?_eq_getElem (by omega))⟩
end
def ArgFlds (w : World) (v : Value) (fl : List Fld) : Prop := FldsAt w v fl ∧ fl.length ≤ maxLen ∧ FldsFit fl
theorem add_off {b o j : Nat} : (⟨b, o, none⟩ : Addr).add j = ⟨b, o + j, none⟩ := Go.WideShapes.add_plain ..
set_option maxRecDepth 100000 in
theorem flds_of_trod {H : Type} {enc : TypeId × Value → H} {W : World} {n : Nat} {v : Value} {x : DataW H × List MemPlace} (h : DataW.trod enc Try.prog W 0 (fun _ => true) true n 31 [v] = some x) : ∃ fl, ArgFlds W v fl := by
  have hC : Try.prog.cellsOf 48 = 2 := by kernel_rfl
  have hcs1 : Try.prog.cellsOf 9 = 1 := by kernel_rfl
  rcases open_slice_structs Try.underlying31 Try.underlying48 h with hcs | ⟨a, len, cap, hcs, hl, hm, hf⟩
  · cases hcs
    exact ⟨[], RdAt.nil W 2, Nat.zero_le _, fun _ h => by cases h⟩
  · cases hcs
    rw [hC] at hf
    have hone : ∀ i, i < len → ∃ s : Fld, W.cell? (a.add (i * 2)) = some (.string s.1) ∧ W.cell? (a.add (i * 2 + 1)) = some (.string s.2) ∧ s.1.size ≤ maxLen ∧ s.2.size ≤ maxLen := by
      intro i hi
      obtain ⟨es, n, hlen, hat, hfs⟩ := hf i hi
      match es, hlen with
      | [e0, e1], _ =>
        obtain ⟨y0, t0⟩ := hfs 0 _ rfl
        obtain ⟨y1, t1⟩ := hfs 1 _ rfl
        obtain ⟨s0, q0, _, z0⟩ := DataW.trod_string Try.underlying9 t0
        obtain ⟨s1, q1, _, z1⟩ := DataW.trod_string Try.underlying9 t1
        simp [hcs1] at q0 q1
        subst q0 q1
        exact ⟨(s0, s1), hat 0 (by omega), hat 1 (by omega), z0, z1⟩
    have hg : ∃ g : Nat → Fld, ∀ i, i < len → W.cell? (a.add (i * 2)) = some (.string (g i).1) ∧ W.cell? (a.add (i * 2 + 1)) = some (.string (g i).2) ∧ (g i).1.size ≤ maxLen ∧ (g i).2.size ≤ maxLen :=
      ⟨fun i => if h : i < len then Classical.choose (hone i h) else default, fun i h => by have := Classical.choose_spec (hone i h); simpa only [dif_pos h] using this⟩
    obtain ⟨g, hg⟩ := hg
    have hgl : ((List.range len).map g).length = len := by simp
    refine ⟨(List.range len).map g, ⟨fldCells_len _, .inr ⟨a, cap, by rw [hgl], by omega, fun hn => ?_⟩⟩, by rw [hgl]; omega, fun s hs => ?_⟩
    · rw [hgl] at hn
      obtain ⟨b, off, spot⟩ := a
      have h0 := (hg 0 hn).1
      have hspot : spot = none := by simpa [Addr.add] using World.cell?_spot h0
      subst hspot
      refine ⟨b, off, rfl, by have := cell_ltA h0; simpa [Addr.add] using this, fun j x hj => ?_⟩
      have hjl := (List.getElem?_eq_some_iff.1 hj).1
      rw [fldCells_len, hgl] at hjl
      obtain ⟨m, r, hr2, rfl⟩ : ∃ m r, r < 2 ∧ j = m * 2 + r := ⟨j / 2, j % 2, Nat.mod_lt _ (by decide), by omega⟩
      obtain ⟨q0, q1⟩ := fldCells_at ((List.range len).map g) m (by rw [hgl]; omega)
      obtain ⟨h1, h2, _⟩ := hg m (by omega)
      simp only [List.getElem_map, List.getElem_range] at q0 q1
      rw [add_off] at h1 h2
      match r, hr2 with
      | 0, _ => rw [Nat.add_zero] at hj ⊢; rw [q0] at hj; rw [← Option.some.inj hj]; exact h1
      | 1, _ => rw [q1] at hj; rw [← Option.some.inj hj]; exact h2
    · obtain ⟨i, hi, rfl⟩ := List.mem_map.1 hs
      exact (hg i (List.mem_range.1 hi)).2.2
theorem lit_u32 {c : Int} (h : (Lit.int .u32 c).wf = true) : ∃ n : Nat, c = n ∧ n < 4294967296 := by
  have : 0 ≤ c ∧ c ≤ 4294967295 := by
    simp [Lit.wf, IntKind.min, IntKind.max, IntKind.signed, IntKind.bits] at h; omega
  exact ⟨c.toNat, by omega, by omega⟩
theorem lab_of_trod {H : Type} {enc : TypeId × Value → H} {W : World} {n : Nat} {c0 c1 : Value} {x : DataW H × List MemPlace} (h : DataW.trod enc Try.prog W 0 (fun _ => true) true n 34 [c0, c1] = some x) : ∃ (l : Int) (c : Nat), c0 = .int .i64 l ∧ c1 = .int .u32 c ∧ c < 4294967296 := by
  have hci : Try.prog.cellsOf 3 = 1 := by kernel_rfl
  have hcu : Try.prog.cellsOf 32 = 1 := by kernel_rfl
  obtain ⟨ys, n', hn', hy, hlen, hyl, hf⟩ := DataW.trod_struct Try.underlying34 h
  have t0 := hf 0 _ rfl
  have t1 := hf 1 _ rfl
  match ys, hyl with
  | [y0, y1], _ =>
    obtain ⟨k0, q0, _, _⟩ := DataW.trod_int Try.underlying3 t0
    obtain ⟨k1, q1, _, w1⟩ := DataW.trod_int Try.underlying32 t1
    simp [hci] at q0
    simp [hcu] at q1
    subst q0 q1
    obtain ⟨m, rfl, hm⟩ := lit_u32 w1
    exact ⟨k0, m, rfl, rfl, hm⟩
def ArgAl (w : World) (v : Value) (x : Al) (fv : Value) : Prop := v = .agg #[.string x.src, fv, .int .i64 x.lv, .int .u32 x.c, .int .i64 x.fr, .int .i64 x.til] ∧ FldsAt w fv x.fl ∧ AlFit x
theorem al_of_trod {H : Type} {enc : TypeId × Value → H} {W : World} {n : Nat} {c0 c1 c2 c3 c4 c5 : Value} {x : DataW H × List MemPlace} (h : DataW.trod enc Try.prog W 0 (fun _ => true) true n 38 [c0, c1, c2, c3, c4, c5] = some x) : ∃ x fv, ArgAl W (.agg #[c0, c1, c2, c3, c4, c5]) x fv := by
  have hci : Try.prog.cellsOf 3 = 1 := by kernel_rfl
  have hcs : Try.prog.cellsOf 9 = 1 := by kernel_rfl
  have hcl : Try.prog.cellsOf 34 = 2 := by kernel_rfl
  have hcf : Try.prog.cellsOf 31 = 1 := by kernel_rfl
  obtain ⟨ys, n', hn', hy, hlen, hyl, hf⟩ := DataW.trod_struct Try.underlying38 h
  have t0 := hf 0 _ rfl
  have t1 := hf 1 _ rfl
  have t2 := hf 2 _ rfl
  have t3 := hf 3 _ rfl
  have t4 := hf 4 _ rfl
  match ys, hyl with
  | [y0, y1, y2, y3, y4], _ =>
    obtain ⟨s, q0, _, z0⟩ := DataW.trod_string Try.underlying9 t0
    simp [hcs] at q0
    subst q0
    have t1' : DataW.trod enc Try.prog W 0 (fun _ => true) true n' 31 [c1] = some y1 := by simpa [hcf] using t1
    obtain ⟨fl, hfl⟩ := flds_of_trod t1'
    have t2' : DataW.trod enc Try.prog W 0 (fun _ => true) true n' 34 [c2, c3] = some y2 := by simpa [hcl] using t2
    obtain ⟨l, c, e2, e3, hc⟩ := lab_of_trod t2'
    obtain ⟨k3, q3, _, _⟩ := DataW.trod_int Try.underlying3 t3
    obtain ⟨k4, q4, _, _⟩ := DataW.trod_int Try.underlying3 t4
    simp [hci] at q3 q4
    subst q3 q4
    subst e2 e3
    exact ⟨⟨s, fl, l, c, k3, k4⟩, c1, rfl, hfl.1, z0, hfl.2.2, hfl.2.1, hc⟩
set_option maxRecDepth 100000 in
theorem al_of_arg {H : Type} {enc : TypeId × Value → H} {W : World} {base : Nat} {v : Value} {d : DataW H} {p : List MemPlace} (hval : Value.okWide Try.prog W .any base 38 v) (h : DataW.Trod enc Try.prog W 0 (fun _ => true) true 38 v d p) : ∃ x fv, ArgAl W v x fv := by
  obtain ⟨cs, rfl, hsz, _⟩ : ∃ cs, v = .agg cs ∧ cs.size = Try.prog.cellsOf 38 ∧ Row.okWide Try.prog W .any base 38 cs := by
    simpa [Value.okWide, Try.underlying38] using hval
  rw [show Try.prog.cellsOf 38 = 6 by kernel_rfl] at hsz
  obtain ⟨fuel, hf⟩ := h
  obtain ⟨l⟩ := cs
  match l, hsz with
  | [c0, c1, c2, c3, c4, c5], _ => exact al_of_trod hf
end Go.Proofs.Ytipnhpfpppblhaa

/- Arguments: policies, whole; alerts; labels. -/
namespace Go.Proofs.Ytipnhpfpppblhaa
open Go.RowKit Go.WideShapes Go.ChangeShapes Go.Deep
theorem nmdCells_eq (l : List Nmd) : nmdCells l = cellsG nmdC l := by
  induction l with
  | nil => rfl
  | cons x l ih => simp only [nmdCells, cellsG, ih]
theorem mtCells_eq (l : List Mt) : mtCells l = cellsG mtC l := by
  induction l with
  | nil => rfl
  | cons x l ih => simp only [mtCells, cellsG, ih]; rfl
section
variable {H : Type} {enc : TypeId × Value → H} {P : Program} {W : World} {base : Nat} {spare : Nat → Bool} {held : Bool}
theorem row_cellsG {a : Addr} {len size : Nat} {f : Nat → List Value} (h0 : 0 < size) (hlen : ∀ i, i < len → (f i).length = size) (hat : ∀ i, i < len → ∀ j, j < size → W.cell? (a.add (i * size + j)) = (f i)[j]?) (hp : 0 < len) :
    ∃ b o, a = ⟨b, o, none⟩ ∧ b < W.heap.size ∧ ∀ i, i < len → ∀ j x, (f i)[j]? = some x → W.cell? ⟨b, o + (i * size + j), none⟩ = some x := by
  obtain ⟨b, off, spot⟩ := a
  obtain ⟨x0, hx0⟩ : ∃ x, (f 0)[0]? = some x := ⟨_, List.getElem?_eq_getElem (by rw [hlen 0 hp]; exact h0)⟩
  have hc := hat 0 hp 0 h0
  rw [hx0] at hc
  have hspot : spot = none := by simpa [Addr.add] using World.cell?_spot hc
  subst hspot
  refine ⟨b, off, rfl, by have := cell_ltA hc; simpa [Addr.add] using this, fun i hi j x hx => ?_⟩
  have hj : j < size := by have := (List.getElem?_eq_some_iff.1 hx).1; rw [hlen i hi] at this; exact this
  have := hat i hi j hj
  rw [add_off, hx] at this
  exact this
theorem rows_of_trod {α : Type} [Inhabited α] (f : α → List Value) (k : Nat) (hk : ∀ x, (f x).length = k) (h0 : 0 < k) {t e : TypeId} {fs : Array Field} {fuel : Nat} {v : Value} {x : DataW H × List MemPlace}
    (ht : P.underlying t = some (.slice e)) (he : P.underlying e = some (.struct fs)) (hC : P.cellsOf e = k) (Q : α → Prop)
    (hel : ∀ (es : List Value) (n : Nat), es.length = k → (∀ (j : Nat) (fd : Field), fs[j]? = some fd → ∃ y, DataW.trod enc P W base spare held n fd.type ((es.drop fd.offset).take (P.cellsOf fd.type)) = some y) → ∃ x, f x = es ∧ Q x)
    (h : DataW.trod enc P W base spare held fuel t [v] = some x) :
    ∃ (l : List α) (a : Option Addr) (c : Nat), v = .slice a l.length c ∧ l.length ≤ c ∧ c ≤ maxLen ∧ RdAt W v l.length k (cellsG f l) ∧ ∀ x ∈ l, Q x := by
  rcases open_slice_structs ht he h with hcs | ⟨a, len, cap, hcs, hl, hm, hf⟩
  · cases hcs
    exact ⟨[], none, 0, rfl, Nat.le_refl _, Nat.zero_le _, RdAt.nil W k, fun _ h => by cases h⟩
  · cases hcs
    rw [hC] at hf
    have hone : ∀ i, i < len → ∃ s : α, (∀ j, j < k → W.cell? (a.add (i * k + j)) = (f s)[j]?) ∧ Q s := by
      intro i hi
      obtain ⟨es, n, hlen, hat, hfs⟩ := hf i hi
      obtain ⟨x, hx, hq⟩ := hel es n hlen hfs
      exact ⟨x, by rw [hx]; exact hat, hq⟩
    obtain ⟨g, hg⟩ : ∃ g : Nat → α, ∀ i, i < len → (∀ j, j < k → W.cell? (a.add (i * k + j)) = (f (g i))[j]?) ∧ Q (g i) :=
      ⟨fun i => if h : i < len then Classical.choose (hone i h) else default, fun i h => by have := Classical.choose_spec (hone i h); simpa only [dif_pos h] using this⟩
    have hgl : ((List.range len).map g).length = len := by simp
    refine ⟨(List.range len).map g, some a, cap, by rw [hgl], by omega, hm, ⟨by rw [cellsG_len hk], .inr ⟨a, cap, by rw [hgl], by omega, fun hn => ?_⟩⟩, fun s hs => ?_⟩
    · rw [hgl] at hn
      obtain ⟨b, o, rfl, hlt, hcell⟩ := row_cellsG (f := fun i => f (g i)) (size := k) h0 (fun _ _ => hk _) (fun i hi => (hg i hi).1) hn
      refine ⟨b, o, rfl, hlt, fun j x hj => ?_⟩
      have hjl := (List.getElem?_eq_some_iff.1 hj).1
      rw [cellsG_len hk, hgl] at hjl
      have hr : j % k < k := Nat.mod_lt _ h0
      have hjk : j / k * k + j % k = j := by rw [Nat.mul_comm]; exact Nat.div_add_mod j k
      have hmk : j / k < len := Nat.div_lt_of_lt_mul (by rw [Nat.mul_comm]; exact hjl)
      obtain ⟨y, hy⟩ : ∃ y, (f (g (j / k)))[j % k]? = some y := ⟨_, List.getElem?_eq_getElem (by rw [hk]; exact hr)⟩
      have hq := cellsG_at hk ((List.range len).map g) (j / k) (by rw [hgl]; exact hmk) (j % k) y (by simpa using hy)
      rw [hjk, hj] at hq
      obtain rfl := Option.some.inj hq
      have := hcell (j / k) hmk (j % k) x hy
      rwa [hjk] at this
    · obtain ⟨i, hi, rfl⟩ := List.mem_map.1 hs
      exact (hg i (List.mem_range.1 hi)).2
end
instance : Inhabited Mt := ⟨⟨⟨#[]⟩, 0, ⟨#[]⟩⟩⟩
instance : Inhabited PRt := ⟨⟨⟨#[]⟩, [], 0, 0, 0, [], undef, undef⟩⟩
instance : Inhabited PIh := ⟨⟨[], 0, 0, [], [], undef, undef, undef⟩⟩
set_option maxRecDepth 100000 in
theorem mtsG_of_trod {H : Type} {enc : TypeId × Value → H} {W : World} {n : Nat} {v : Value} {x : DataW H × List MemPlace} (h : DataW.trod enc Try.prog W 0 (fun _ => true) true n 90 [v] = some x) : ∃ l, MtsAt W v l ∧ l.length ≤ maxLen ∧ MtsFit l := by
  have hcs1 : Try.prog.cellsOf 9 = 1 := by kernel_rfl
  have hci : Try.prog.cellsOf 3 = 1 := by kernel_rfl
  obtain ⟨l, a, c, hv, h1, h2, h3, h4⟩ := rows_of_trod mtC 3 (fun _ => rfl) (by decide) Try.underlying90 Try.underlying113 (by kernel_rfl) MtFit (fun es n hlen hfs => by
    match es, hlen with
    | [e0, e1, e2], _ =>
      obtain ⟨y0, t0⟩ := hfs 0 _ rfl
      obtain ⟨y1, t1⟩ := hfs 1 _ rfl
      obtain ⟨y2, t2⟩ := hfs 2 _ rfl
      obtain ⟨s0, q0, _, z0⟩ := DataW.trod_string Try.underlying9 t0
      obtain ⟨k1, q1, _, _⟩ := DataW.trod_int Try.underlying3 t1
      obtain ⟨s2, q2, _, z2⟩ := DataW.trod_string Try.underlying9 t2
      simp [hcs1] at q0 q2
      simp [hci] at q1
      subst q0 q1 q2
      exact ⟨⟨s0, k1, s2⟩, rfl, z0, z2⟩) h
  exact ⟨l, by unfold MtsAt; rw [mtCells_eq]; exact h3, Nat.le_trans h1 h2, h4⟩
set_option maxRecDepth 100000 in
theorem nmdsG_of_trod {H : Type} {enc : TypeId × Value → H} {W : World} {n : Nat} {v : Value} {x : DataW H × List MemPlace} (h : DataW.trod enc Try.prog W 0 (fun _ => true) true n 22 [v] = some x) : ∃ l, NmdsAt W v l ∧ NmdWide l := by
  have hcs1 : Try.prog.cellsOf 9 = 1 := by kernel_rfl
  have hcl : Try.prog.cellsOf 34 = 2 := by kernel_rfl
  obtain ⟨l, a, c, hv, h1, h2, h3, h4⟩ := rows_of_trod nmdC 3 (fun _ => rfl) (by decide) Try.underlying22 Try.underlying73 (by kernel_rfl) (fun y => y.2.2 < 4294967296 ∧ y.1.size ≤ maxLen) (fun es n hlen hfs => by
    match es, hlen with
    | [e0, e1, e2], _ =>
      obtain ⟨y0, t0⟩ := hfs 0 _ rfl
      obtain ⟨y1, t1⟩ := hfs 1 _ rfl
      obtain ⟨s0, q0, _, z0⟩ := DataW.trod_string Try.underlying9 t0
      simp [hcs1] at q0
      subst q0
      have t1' : DataW.trod enc Try.prog W 0 (fun _ => true) true n 34 [e1, e2] = some y1 := by simpa [hcl] using t1
      obtain ⟨l, c, r1, r2, hc⟩ := lab_of_trod t1'
      subst r1 r2
      exact ⟨(s0, l, c), rfl, hc, z0⟩) h
  exact ⟨l, by unfold NmdsAt; rw [nmdCells_eq]; exact h3, Nat.le_trans h1 h2, fun x hx => (h4 x hx).1, fun x hx => (h4 x hx).2⟩
set_option maxRecDepth 100000 in
theorem strsG_of_trod {H : Type} {enc : TypeId × Value → H} {W : World} {n : Nat} {v : Value} {x : DataW H × List MemPlace} (h : DataW.trod enc Try.prog W 0 (fun _ => true) true n 89 [v] = some x) : ∃ l, StrsG W v l ∧ StrsFit l := by
  rcases open_strings Try.underlying89 Try.underlying9 (by kernel_rfl) h with ⟨hcs, _⟩ | ⟨a, len, cap, ss, hcs, _, hl, hm, hz, _, hcell, hws⟩
  · cases hcs
    exact ⟨[], RdAt.nil W 1, Nat.zero_le _, by simp⟩
  · cases hcs
    simp only [if_true] at hz
    have hlen : (ss.take len).length = len := by rw [List.length_take]; omega
    refine ⟨ss.take len, ⟨by simp, .inr ⟨a, cap, by rw [hlen], by omega, fun hn => ?_⟩⟩, by rw [hlen]; omega, fun x hx => hws x (List.mem_of_mem_take hx)⟩
    rw [hlen] at hn
    obtain ⟨b, off, spot⟩ := a
    have hspot : spot = none := by simpa [Addr.add] using World.cell?_spot (hcell 0 (by omega))
    subst hspot
    have hall : ∀ j, j < ss.length → W.cell? ⟨b, off + j, none⟩ = some (.string (ss.getD j ByteArray.empty)) := fun j hj => by rw [← Go.WideShapes.add_plain]; exact hcell j hj
    refine ⟨b, off, rfl, cell_ltA (a := ⟨b, off + 0, none⟩) (hall 0 (by omega)), fun j x hx => ?_⟩
    rw [List.getElem?_map, Option.map_eq_some_iff] at hx
    obtain ⟨y, hy, rfl⟩ := hx
    have hj : j < len := by have := (List.getElem?_eq_some_iff.1 hy).1; rw [hlen] at this; exact this
    rw [hall j (by omega)]
    rw [List.getElem?_take_of_lt hj] at hy
    simp [List.getD, hy]
set_option maxRecDepth 100000 in
theorem rts_of_trod {H : Type} {enc : TypeId × Value → H} {W : World} {n : Nat} {v : Value} {x : DataW H × List MemPlace} (h : DataW.trod enc Try.prog W 0 (fun _ => true) true n 23 [v] = some x) : ∃ l, RtsAt W v l ∧ l.length ≤ maxLen ∧ ∀ r ∈ l, RtFit r := by
  have hcs1 : Try.prog.cellsOf 9 = 1 := by kernel_rfl
  have hci : Try.prog.cellsOf 3 = 1 := by kernel_rfl
  have hcm : Try.prog.cellsOf 90 = 1 := by kernel_rfl
  have hcn : Try.prog.cellsOf 89 = 1 := by kernel_rfl
  obtain ⟨l, a, c, hv, h1, h2, h3, h4⟩ := rows_of_trod rtC 6 (fun _ => rfl) (by decide) Try.underlying23 Try.underlying92 (by kernel_rfl) (fun r => RtIn W r ∧ RtFit r) (fun es n hlen hfs => by
    match es, hlen with
    | [e0, e1, e2, e3, e4, e5], _ =>
      obtain ⟨y0, t0⟩ := hfs 0 _ rfl
      obtain ⟨y1, t1⟩ := hfs 1 _ rfl
      obtain ⟨y2, t2⟩ := hfs 2 _ rfl
      obtain ⟨y3, t3⟩ := hfs 3 _ rfl
      obtain ⟨y4, t4⟩ := hfs 4 _ rfl
      obtain ⟨y5, t5⟩ := hfs 5 _ rfl
      obtain ⟨s0, q0, _, z0⟩ := DataW.trod_string Try.underlying9 t0
      obtain ⟨k2, q2, _, _⟩ := DataW.trod_int Try.underlying3 t2
      obtain ⟨k3, q3, _, _⟩ := DataW.trod_int Try.underlying3 t3
      obtain ⟨k4, q4, _, _⟩ := DataW.trod_int Try.underlying3 t4
      simp [hcs1] at q0
      simp [hci] at q2 q3 q4
      subst q0 q2 q3 q4
      have t1' : DataW.trod enc Try.prog W 0 (fun _ => true) true n 89 [e1] = some y1 := by simpa [hcn] using t1
      have t5' : DataW.trod enc Try.prog W 0 (fun _ => true) true n 90 [e5] = some y5 := by simpa [hcm] using t5
      obtain ⟨bs, b1, b2⟩ := strsG_of_trod t1'
      obtain ⟨ms, m1, m2, m3⟩ := mtsG_of_trod t5'
      exact ⟨⟨s0, bs, k2, k3, k4, ms, e1, e5⟩, rfl, ⟨b1, m1⟩, ⟨z0, b2, m3, m2⟩⟩) h
  exact ⟨l, ⟨h3, fun r hr => (h4 r hr).1⟩, Nat.le_trans h1 h2, fun r hr => (h4 r hr).2⟩
set_option maxRecDepth 100000 in
theorem ihs_of_trod {H : Type} {enc : TypeId × Value → H} {W : World} {n : Nat} {v : Value} {x : DataW H × List MemPlace} (h : DataW.trod enc Try.prog W 0 (fun _ => true) true n 24 [v] = some x) : ∃ l, IhsAt W v l ∧ l.length ≤ maxLen ∧ ∀ r ∈ l, IhFit r := by
  have hcl : Try.prog.cellsOf 34 = 2 := by kernel_rfl
  have hcm : Try.prog.cellsOf 90 = 1 := by kernel_rfl
  have hcn : Try.prog.cellsOf 89 = 1 := by kernel_rfl
  obtain ⟨l, a, c, hv, h1, h2, h3, h4⟩ := rows_of_trod ihC 5 (fun _ => rfl) (by decide) Try.underlying24 Try.underlying96 (by kernel_rfl) (fun r => IhIn W r ∧ IhFit r) (fun es n hlen hfs => by
    match es, hlen with
    | [e0, e1, e2, e3, e4], _ =>
      obtain ⟨y0, t0⟩ := hfs 0 _ rfl
      obtain ⟨y1, t1⟩ := hfs 1 _ rfl
      obtain ⟨y2, t2⟩ := hfs 2 _ rfl
      obtain ⟨y3, t3⟩ := hfs 3 _ rfl
      have t0' : DataW.trod enc Try.prog W 0 (fun _ => true) true n 89 [e0] = some y0 := by simpa [hcn] using t0
      have t1' : DataW.trod enc Try.prog W 0 (fun _ => true) true n 34 [e1, e2] = some y1 := by simpa [hcl] using t1
      have t2' : DataW.trod enc Try.prog W 0 (fun _ => true) true n 90 [e3] = some y2 := by simpa [hcm] using t2
      have t3' : DataW.trod enc Try.prog W 0 (fun _ => true) true n 90 [e4] = some y3 := by simpa [hcm] using t3
      obtain ⟨bs, b1, b2⟩ := strsG_of_trod t0'
      obtain ⟨l, c, r1, r2, hc⟩ := lab_of_trod t1'
      obtain ⟨fs, f1, f2, f3⟩ := mtsG_of_trod t2'
      obtain ⟨ms, m1, m2, m3⟩ := mtsG_of_trod t3'
      subst r1 r2
      exact ⟨⟨bs, l, c, fs, ms, e0, e3, e4⟩, rfl, ⟨b1, f1, m1⟩, ⟨b2, hc, f3, m3, f2, m2⟩⟩) h
  exact ⟨l, ⟨h3, fun r hr => (h4 r hr).1⟩, Nat.le_trans h1 h2, fun r hr => (h4 r hr).2⟩
def ArgPolD (w : World) (v : Value) (x : PV) (p : PD) : Prop := v = x.v ∧ PolAt w x p ∧ PolFitD p
theorem polD_of_trod {H : Type} {enc : TypeId × Value → H} {W : World} {n : Nat} {e0 e1 e2 e3 e4 e5 : Value} {x : DataW H × List MemPlace} (h : DataW.trod enc Try.prog W 0 (fun _ => true) true n 26 [e0, e1, e2, e3, e4, e5] = some x) : ∃ x p, ArgPolD W (.agg #[e0, e1, e2, e3, e4, e5]) x p := by
  have hcn : Try.prog.cellsOf 22 = 1 := by kernel_rfl
  have hcr : Try.prog.cellsOf 23 = 1 := by kernel_rfl
  have hci : Try.prog.cellsOf 24 = 1 := by kernel_rfl
  obtain ⟨ys, n', hn', hy, hlen, hyl, hf⟩ := DataW.trod_struct Try.underlying26 h
  have t0 := hf 0 _ rfl
  have t1 := hf 1 _ rfl
  have t2 := hf 2 _ rfl
  have t3 := hf 3 _ rfl
  have t4 := hf 4 _ rfl
  have t5 := hf 5 _ rfl
  match ys, hyl with
  | [y0, y1, y2, y3, y4, y5], _ =>
    have t0' : DataW.trod enc Try.prog W 0 (fun _ => true) true n' 22 [e0] = some y0 := by simpa [hcn] using t0
    have t1' : DataW.trod enc Try.prog W 0 (fun _ => true) true n' 22 [e1] = some y1 := by simpa [hcn] using t1
    have t2' : DataW.trod enc Try.prog W 0 (fun _ => true) true n' 22 [e2] = some y2 := by simpa [hcn] using t2
    have t3' : DataW.trod enc Try.prog W 0 (fun _ => true) true n' 22 [e3] = some y3 := by simpa [hcn] using t3
    have t4' : DataW.trod enc Try.prog W 0 (fun _ => true) true n' 23 [e4] = some y4 := by simpa [hcr] using t4
    have t5' : DataW.trod enc Try.prog W 0 (fun _ => true) true n' 24 [e5] = some y5 := by simpa [hci] using t5
    obtain ⟨l0, a0, b0⟩ := nmdsG_of_trod t0'
    obtain ⟨l1, a1, b1⟩ := nmdsG_of_trod t1'
    obtain ⟨l2, a2, b2⟩ := nmdsG_of_trod t2'
    obtain ⟨l3, a3, b3⟩ := nmdsG_of_trod t3'
    obtain ⟨l4, a4, b4, c4⟩ := rts_of_trod t4'
    obtain ⟨l5, a5, b5, c5⟩ := ihs_of_trod t5'
    exact ⟨⟨e0, e1, e2, e3, e4, e5⟩, ⟨l0, l1, l2, l3, l4, l5⟩, rfl, ⟨a0, a1, a2, a3, a4, a5⟩, ⟨b0, b1, b2, b3, b4, c4, b5, c5⟩⟩
set_option maxRecDepth 100000 in
theorem polD_of_arg {H : Type} {enc : TypeId × Value → H} {W : World} {base : Nat} {v : Value} {d : DataW H} {p : List MemPlace} (hval : Value.okWide Try.prog W .any base 26 v) (h : DataW.Trod enc Try.prog W 0 (fun _ => true) true 26 v d p) : ∃ x y, ArgPolD W v x y := by
  obtain ⟨cs, rfl, hsz, _⟩ : ∃ cs, v = .agg cs ∧ cs.size = Try.prog.cellsOf 26 ∧ Row.okWide Try.prog W .any base 26 cs := by
    simpa [Value.okWide, Try.underlying26] using hval
  rw [show Try.prog.cellsOf 26 = 6 by kernel_rfl] at hsz
  obtain ⟨fuel, hf⟩ := h
  obtain ⟨l⟩ := cs
  match l, hsz with
  | [c0, c1, c2, c3, c4, c5], _ => exact polD_of_trod hf
def ArgLabs2 (v : Value) (x : (Int × Nat) × (Int × Nat)) : Prop := v = .agg #[.int .i64 x.1.1, .int .u32 x.1.2, .int .i64 x.2.1, .int .u32 x.2.2] ∧ x.1.2 < 4294967296 ∧ x.2.2 < 4294967296
set_option maxRecDepth 100000 in
theorem labs2_of_arg {H : Type} {enc : TypeId × Value → H} {W : World} {base : Nat} {v : Value} {d : DataW H} {p : List MemPlace} (hval : Value.okWide Try.prog W .any base 50 v) (h : DataW.Trod enc Try.prog W 0 (fun _ => true) true 50 v d p) : ∃ x, ArgLabs2 v x := by
  obtain ⟨cs, rfl, hsz, _⟩ : ∃ cs, v = .agg cs ∧ cs.size = Try.prog.cellsOf 50 ∧ Row.okWide Try.prog W .any base 50 cs := by
    simpa [Value.okWide, Try.underlying50] using hval
  rw [show Try.prog.cellsOf 50 = 4 by kernel_rfl] at hsz
  have hcl : Try.prog.cellsOf 34 = 2 := by kernel_rfl
  obtain ⟨fuel, hf⟩ := h
  obtain ⟨l⟩ := cs
  match l, hsz with
  | [c0, c1, c2, c3], _ =>
    obtain ⟨xs, m, _, _, _, hxl, hx⟩ := DataW.trod_array Try.underlying50 hf
    rw [hcl] at hx
    match xs, hxl with
    | [y0, y1], _ =>
      obtain ⟨l0, k0, rfl, rfl, h0⟩ := lab_of_trod (hx 0 (by decide))
      obtain ⟨l1, k1, rfl, rfl, h1⟩ := lab_of_trod (hx 1 (by decide))
      exact ⟨((l0, k0), (l1, k1)), rfl, h0, h1⟩
end Go.Proofs.Ytipnhpfpppblhaa

/- Several parts in one: lychgateref06.With: a contract. lychgateref06.Good: a contract: fields that may be. lychgateref09.Good: a contract. -/
namespace Go.Proofs.Ytipnhpfpppblhaa
open Go.RowKit
theorem fit_snoc {L : List Fld} {x y : ByteArray} (h : FldsFit L) (hx : x.size ≤ maxLen) (hy : y.size ≤ maxLen) : FldsFit (L ++ [(x, y)]) := fun f hf => by
  rcases List.mem_append.1 hf with h' | h'
  · exact h f h'
  · simp only [List.mem_singleton] at h'
    subst h'
    exact ⟨hx, hy⟩
def withS (nm val : ByteArray) (s : List Fld × Bool) (f : Fld) : List Fld × Bool :=
  let s1 := if !s.2 && !ltS f.1 nm then (s.1 ++ [(nm, val)], true) else s
  if f.1 = nm then s1 else (s1.1 ++ [f], s1.2)
def withK (l : List Fld) (nm val : ByteArray) (k : Nat) : List Fld × Bool := (l.take k).foldl (withS nm val) ([], false)
def withL (l : List Fld) (nm val : ByteArray) : List Fld := if (withK l nm val l.length).2 then (withK l nm val l.length).1 else (withK l nm val l.length).1 ++ [(nm, val)]
theorem withK_step {l : List Fld} {nm val : ByteArray} {k : Nat} (h : k < l.length) : withK l nm val (k + 1) = withS nm val (withK l nm val k) l[k] := by
  unfold withK
  rw [List.take_succ_eq_append_getElem h, List.foldl_append]
  rfl
theorem rd_fld (w : World) (x y : ByteArray) (t : TypeId) : RdAt (w.alloc (.cells #[.string x, .string y] t)) (.slice (some ⟨w.heap.size, 0, none⟩) 1 1) 1 2 [.string x, .string y] := by
  refine RdAt.mk rfl (Nat.le_refl _) (by simp) (fun j v hj => ?_)
  rw [Nat.zero_add]
  exact (World.cell?_alloc_at _ _ _ _ rfl).trans (by
    match j, hj with
    | 0, hj => exact hj
    | 1, hj => exact hj
    | j + 2, hj => simp at hj)
set_option maxHeartbeats 1600000 in
set_option maxRecDepth 100000 in
theorem rwith_any (l : List Fld) (nm val : ByteArray) (w : World) (v : Value) (hv : FldsAt w v l) (hf : FldsFit l) (hl : l.length ≤ 1000) (hnm : nm.size ≤ maxLen) (hval : val.size ≤ maxLen) :
    Calls Try.prog 63 #[v, .string nm, .string val] w fun e w' => ∃ v', e = .returned v' ∧ FldsAt w' v' (withL l nm val) ∧ FldsFit (withL l nm val) ∧ (withL l nm val).length ≤ 2 * l.length + 1 ∧ (∀ q, v'.ownBlock = some q → w.heap.size ≤ q) ∧ Below w.heap.size w w' := by
  obtain ⟨i0, hi, hz0, hz1, hz2⟩ := info_parts info_fld
  obtain ⟨a, c, rfl, hc, hr⟩ := RdAt.shape hv
  have HR := Lib.hid hr
  have HF := Lib.hid hf
  clear hr hv hf
  go_enter Try.func63, Try.ntmps63
  go_wp2
  go_loopw [7, 8, 9] (fun s7 s8 i wr => ∃ (k : Nat) (L : List Fld) (d : Bool), s8 = .bool d ∧ i = .int .i64 k ∧ k ≤ l.length ∧ wr.ownsRow w.heap.size 48 2 s7 L.length (fldCells L) ∧ FldsFit L ∧ L.length ≤ 2 * k ∧ Hid (withK l nm val k = (L, d)) ∧ Below w.heap.size w wr) (fun _ _ i _ => l.length - (intOf i).toNat)
  case atStart => exact ⟨0, [], false, rfl, rfl, Nat.zero_le _, World.ownsRow_nil _ _ _ _, (fun _ h => by cases h), Nat.zero_le _, Lib.hid rfl, Below.refl _ _⟩
  case round =>
    obtain ⟨k, L, d, rfl, rfl, hk, hown, hfit, hlen, HWK, hbr⟩ := hrel
    obtain ⟨va, vc, rfl, _, _⟩ := RdAt.shape (RdAt.own hown)
    by_cases hkl : k < l.length
    · obtain ⟨b, o, rfl, hb, hcell⟩ := HR.out (by omega)
      obtain ⟨x, hxe⟩ : ∃ x, l[k].1 = x := ⟨_, rfl⟩
      obtain ⟨y, hye⟩ : ∃ y, l[k].2 = y := ⟨_, rfl⟩
      have hfs := HF.out _ (List.getElem_mem hkl)
      rw [hxe, hye] at hfs
      obtain ⟨hx0, hy0⟩ := fldCells_at l k hkl
      rw [hxe] at hx0
      rw [hye] at hy0
      have hq0 : ∀ W, Below w.heap.size w W → W.cell? ⟨b, o + k * 2, none⟩ = some (.string x) := fun W h => keep_cell (hcell _ _ hx0) h hb
      have hq1 : ∀ W, Below w.heap.size w W → W.cell? ⟨b, o + k * 2 + 1, none⟩ = some (.string y) := fun W h => keep_cell (by have := hcell _ _ hy0; rwa [← Nat.add_assoc] at this) h hb
      have HQ0 := Lib.hid hq0
      have HQ1 := Lib.hid hq1
      have HFX := Lib.hid hfs
      have hws := withK_step (nm := nm) (val := val) hkl
      rw [show l[k] = (x, y) by rw [← hxe, ← hye], HWK.out] at hws
      have HWS := Lib.hid hws
      clear hcell hx0 hy0 hxe hye hq0 hq1 hfs hws
      have hah := fun W => rahead_any x nm W HFX.out.1
      obtain ⟨lt, hlt⟩ : ∃ lt, ltS x nm = lt := ⟨_, rfl⟩
      simp only [hlt] at hah
      have HLT := Lib.hid hlt
      have a0 := HQ0.out wr hbr
      have HO := Lib.hid hown
      have HB := Lib.hid hbr
      clear hlt hown hbr
      go_upto_region 6 with fail
      go_cut [27] (fun s27 wx => s27 = .bool (!d && !lt) ∧ wx.ownsRow w.heap.size 48 2 (.slice va L.length vc) L.length (fldCells L) ∧ Below w.heap.size w wx)
      case first =>
        cases d
        · go_wp2_with fail
          refine (hah _).mono ?_
          rintro e w1 ⟨rfl, hb1⟩
          cases lt
          · go_wp2
            go_meet
            exact ⟨rfl, own_later HO.out hb1, HB.out.trans (hb1.mono HB.out.size)⟩
          · go_wp2
            go_meet
            exact ⟨rfl, own_later HO.out hb1, HB.out.trans (hb1.mono HB.out.size)⟩
        · clear hah
          go_wp2
          go_meet
          exact ⟨rfl, HO.out, HB.out⟩
      case rest =>
        obtain ⟨rfl, hown, hbr⟩ := hcut
        clear a0 hah HO HB
        obtain ⟨q, hq⟩ : ∃ q, (!d && !lt) = q := ⟨_, rfl⟩
        have HQQ := Lib.hid hq
        rw [hq]
        clear hq
        have HO := Lib.hid hown
        have HB := Lib.hid hbr
        clear hown hbr
        go_upto_if 27 with fail
        go_cut [7, 8] (fun s7 s8 wx => ∃ (L2 : List Fld) (d2 : Bool), s8 = .bool d2 ∧ wx.ownsRow w.heap.size 48 2 s7 L2.length (fldCells L2) ∧ FldsFit L2 ∧ L2.length ≤ L.length + 1 ∧ Hid ((if q then (L ++ [(nm, val)], true) else (L, d)) = (L2, d2)) ∧ Below w.heap.size w wx)
        case first =>
          cases q
          · go_wp2
            go_meet
            exact ⟨L, d, rfl, HO.out, hfit, Nat.le_succ _, Lib.hid rfl, HB.out⟩
          · have hown9 := HO.out.alloc (.cells #[.string nm, .string val] 48)
            have hrd := rd_fld wc nm val 48
            go_wp2_with (at_builtin; (refine wpList_append_rd rfl (.tmp 28) (.tmp 32) 31 rfl w.heap.size 48 i0 (.agg #[.string ⟨#[]⟩, .string ⟨#[]⟩]) 2 32 Try.underlying31 hi hz0 hz1 hz2 rfl (by decide) _ _ _ rfl hown9 _ 1 [.string nm, .string val] rfl hrd (by simp [Value.oneCell']) (by unfold maxLen; omega) (by omega) (by have := HB.out.size; simp; omega) ?_); intro v' w8 hown' hg8)
            have hB8 : Below w.heap.size w w8 := (HB.out.alloc HB.out.size _).grown hg8 (by have := HB.out.size; simp; omega) (fun j e => (hown9.lt j e).1)
            go_wp2
            go_meet
            exact ⟨L ++ [(nm, val)], true, rfl, by rw [List.length_append, fldCells_append]; exact hown', fit_snoc hfit hnm hval, by simp, Lib.hid rfl, hB8⟩
        case rest =>
          obtain ⟨L2, d2, rfl, hown, hfit2, hlen2, HIF, hbr⟩ := hcut
          have HWN : Hid (withK l nm val (k + 1) = (if x = nm then (L2, d2) else (L2 ++ [(x, y)], d2))) := by
            show _ = _
            rw [HWS.out]
            unfold withS
            simp only [HLT.out, HQQ.out, HIF.out]
          clear HIF HWS
          clear HO HB
          obtain ⟨vb, vd, rfl, _, _⟩ := RdAt.shape (RdAt.own hown)
          have a0 := HQ0.out _ hbr
          have a1 := HQ1.out _ hbr
          have HO := Lib.hid hown
          have HB := Lib.hid hbr
          clear hown hbr
          by_cases hxn : x = nm
          · have hbq : (x.toList == nm.toList) = true := bytes_eq_iff.2 hxn
            rw [if_pos hxn] at HWN
            clear hxn
            go_wp2
            go_roundw
            case rel => exact ⟨k + 1, L2, d2, rfl, by go_num, by omega, HO.out, hfit2, by omega, HWN, HB.out⟩
            case measure => (simp [intOf]; try omega)
          · have hbq : (x.toList == nm.toList) = false := by rw [bytes_beq]; exact decide_eq_false hxn
            rw [if_neg hxn] at HWN
            clear hxn
            have hown9 := HO.out.alloc (.cells #[.string x, .string y] 48)
            have hrd := rd_fld wc x y 48
            go_wp2_with (at_builtin; (refine wpList_append_rd rfl (.tmp 41) (.tmp 46) 31 rfl w.heap.size 48 i0 (.agg #[.string ⟨#[]⟩, .string ⟨#[]⟩]) 2 32 Try.underlying31 hi hz0 hz1 hz2 rfl (by decide) _ _ _ rfl hown9 _ 1 [.string x, .string y] rfl hrd (by simp [Value.oneCell']) (by unfold maxLen; omega) (by omega) (by have := HB.out.size; simp; omega) ?_); intro v' w8 hown' hg8)
            have hB8 : Below w.heap.size w w8 := (HB.out.alloc HB.out.size _).grown hg8 (by have := HB.out.size; simp; omega) (fun j e => (hown9.lt j e).1)
            go_wp2
            go_roundw
            case rel => exact ⟨k + 1, L2 ++ [(x, y)], d2, rfl, by go_num, by omega, by rw [List.length_append, fldCells_append]; exact hown', fit_snoc hfit2 HFX.out.1 HFX.out.2, by simp; omega, HWN, hB8⟩
            case measure => (simp [intOf]; try omega)
    · obtain rfl : k = l.length := by omega
      have HWL : Hid (withL l nm val = (if d then L else L ++ [(nm, val)])) := by show _ = _; unfold withL; rw [HWK.out]
      have HO := Lib.hid hown
      have HB := Lib.hid hbr
      clear hown hbr
      cases d
      · have hown9 := HO.out.alloc (.cells #[.string nm, .string val] 48)
        have hrd := rd_fld wr nm val 48
        go_wp2_with (at_builtin; (refine wpList_append_rd rfl (.tmp 50) (.tmp 54) 31 rfl w.heap.size 48 i0 (.agg #[.string ⟨#[]⟩, .string ⟨#[]⟩]) 2 32 Try.underlying31 hi hz0 hz1 hz2 rfl (by decide) _ _ _ rfl hown9 _ 1 [.string nm, .string val] rfl hrd (by simp [Value.oneCell']) (by unfold maxLen; omega) (by omega) (by have := HB.out.size; simp; omega) ?_); intro v' w8 hown' hg8)
        have hB8 : Below w.heap.size w w8 := (HB.out.alloc HB.out.size _).grown hg8 (by have := HB.out.size; simp; omega) (fun j e => (hown9.lt j e).1)
        go_wp2
        go_ret
        have hr8 := RdAt.own hown'
        rw [show (1 : Nat) = [(nm, val)].length from rfl, ← List.length_append] at hr8
        refine ⟨_, rfl, ?_⟩
        rw [HWL.out]
        exact ⟨by simp only [Bool.false_eq_true, if_false]; unfold FldsAt; rw [fldCells_append]; exact hr8, fit_snoc hfit hnm hval, by simp; omega, fun q hq => (hown'.lt q hq).1, hB8⟩
      · go_wp2
        go_ret
        refine ⟨_, rfl, ?_⟩
        rw [HWL.out]
        exact ⟨RdAt.own HO.out, hfit, by simp; omega, fun q hq => (HO.out.lt q hq).1, HB.out⟩
end Go.Proofs.Ytipnhpfpppblhaa
namespace Go.Proofs.Ytipnhpfpppblhaa
open Go.RowKit
theorem rightF_nil : rightF [] = true := by decide
theorem rightF_len {L : List Fld} (h : rightF L = true) : L.length ≤ 8 := by
  unfold rightF at h
  simp only [Bool.and_eq_true, decide_eq_true_eq] at h
  exact h.1
def goodS (out : List Fld) (f : Fld) : List Fld := if rightF (withL out f.1 (f.2.extract 0 (min f.2.size 30))) then withL out f.1 (f.2.extract 0 (min f.2.size 30)) else out
def goodK (l : List Fld) (k : Nat) : List Fld := (l.take k).foldl goodS []
def goodF (l : List Fld) : List Fld := goodK l 12
theorem goodK_step {l : List Fld} {k : Nat} (h : k < l.length) : goodK l (k + 1) = goodS (goodK l k) l[k] := by
  unfold goodK
  rw [List.take_succ_eq_append_getElem h, List.foldl_append]
  rfl
theorem goodK_end {l : List Fld} {k : Nat} (h : k ≤ 12) (h2 : 12 ≤ k ∨ l.length ≤ k) : goodF l = goodK l k := by
  unfold goodF goodK
  rcases h2 with h2 | h2
  · rw [show k = 12 by omega]
  · rw [List.take_of_length_le h2, List.take_of_length_le (Nat.le_trans h2 h)]
set_option maxHeartbeats 1600000 in
set_option maxRecDepth 100000 in
theorem rgood6_any (l : List Fld) (w : World) (v : Value) (hv : FldsAt w v l) (hf : FldsFit l) (hl : l.length ≤ maxLen) :
    Calls Try.prog 39 #[v] w fun e w' => ∃ v', e = .returned v' ∧ FldsAt w' v' (goodF l) ∧ FldsFit (goodF l) ∧ rightF (goodF l) = true ∧ (∀ q, v'.ownBlock = some q → w.heap.size ≤ q) ∧ Below w.heap.size w w' := by
  obtain ⟨a, c, rfl, hc, hr⟩ := RdAt.shape hv
  have HR := Lib.hid hr
  have HF := Lib.hid hf
  have hl63 : l.length < 9223372036854775808 := by unfold maxLen at hl; omega
  clear hr hv hf hl
  go_enter Try.func39, Try.ntmps39
  go_wp2
  go_loopw [3, 4] (fun s3 i wr => ∃ (k : Nat) (L : List Fld), i = .int .i64 k ∧ k ≤ l.length ∧ k ≤ 12 ∧ Hid (goodK l k = L) ∧ FldsAt wr s3 L ∧ FldsFit L ∧ rightF L = true ∧ (∀ q, s3.ownBlock = some q → w.heap.size ≤ q) ∧ Below w.heap.size w wr) (fun _ i _ => l.length - (intOf i).toNat)
  case atStart => exact ⟨0, [], rfl, Nat.zero_le _, Nat.zero_le _, Lib.hid rfl, RdAt.nil _ _, (fun _ h => by cases h), rightF_nil, (fun q hq => by simp [Value.ownBlock] at hq), Below.refl _ _⟩
  case round =>
    obtain ⟨k, L, rfl, hk, hk12, HGK, hL, hfit, hright, hown, hbr⟩ := hrel
    obtain ⟨va, vc, rfl, _, _⟩ := RdAt.shape hL
    have HL := Lib.hid hL
    have HRT := Lib.hid hright
    have HFT := Lib.hid hfit
    have HOW := Lib.hid hown
    clear hL hright hfit hown
    by_cases hkl : k < l.length
    · by_cases h12 : k < 12
      · obtain ⟨b, o, rfl, hb, hcell⟩ := HR.out (by omega)
        obtain ⟨x, hxe⟩ : ∃ x, l[k].1 = x := ⟨_, rfl⟩
        obtain ⟨y, hye⟩ : ∃ y, l[k].2 = y := ⟨_, rfl⟩
        have hfs := HF.out _ (List.getElem_mem hkl)
        rw [hxe, hye] at hfs
        obtain ⟨hx0, hy0⟩ := fldCells_at l k hkl
        rw [hxe] at hx0
        rw [hye] at hy0
        have a0 : wr.cell? ⟨b, o + k * 2, none⟩ = some (.string x) := keep_cell (hcell _ _ hx0) hbr hb
        have a1 : wr.cell? ⟨b, o + k * 2 + 1, none⟩ = some (.string y) := keep_cell (by have := hcell _ _ hy0; rwa [← Nat.add_assoc] at this) hbr hb
        have hwb : b < wr.heap.size := Nat.lt_of_lt_of_le hb hbr.size
        have HFX := Lib.hid hfs
        have hys : y.size ≤ 9223372036854775807 := by have := hfs.2; unfold maxLen at this; omega
        obtain ⟨m, hm, hm1, hm2, hm3⟩ : ∃ m : Nat, min y.size 30 = m ∧ m ≤ 30 ∧ m ≤ y.size ∧ min (y.size : Int) 30 = (m : Int) := ⟨min y.size 30, rfl, by omega, by omega, by omega⟩
        have HGS : Hid (goodK l (k + 1) = if rightF (withL L x (y.extract 0 m)) then withL L x (y.extract 0 m) else L) := by
          show _ = _
          rw [goodK_step hkl, HGK.out, show l[k] = (x, y) by rw [← hxe, ← hye]]
          unfold goodS
          simp only [hm]
        clear hm HGK
        have hwith : ∀ (val : ByteArray) W, val.size ≤ maxLen → Below wr.heap.size wr W → Calls Try.prog 63 #[.slice va L.length vc, .string x, .string val] W fun e w' => ∃ v', e = .returned v' ∧ FldsAt w' v' (withL L x val) ∧ FldsFit (withL L x val) ∧ (withL L x val).length ≤ 2 * L.length + 1 ∧ (∀ q, v'.ownBlock = some q → W.heap.size ≤ q) ∧ Below W.heap.size W w' := fun val W hval h =>
          rwith_any L x val W _ (HL.out.later h) HFT.out (by have := rightF_len HRT.out; omega) HFX.out.1 hval
        have HWI := Lib.hid hwith
        have HB := Lib.hid hbr
        clear hcell hx0 hy0 hxe hye hfs hwith hbr
        go_upto_region 5 with fail
        refine wp_region_held_drew (S := (fun W => W.cell? ⟨b, o + k * 2, none⟩ = some (.string x) ∧ W.cell? ⟨b, o + k * 2 + 1, none⟩ = some (.string y))) (by kernel_rfl) ⟨a0, a1⟩ (fun hHeld => ?_)
        refine held_take (i := 0) (v := ?_) rfl rfl (by kernel_rfl) (by kernel_rfl) (by kernel_rfl) (fun _ _ _ h => h) (by rfl) hHeld ?_ ?_
        rotate_left
        · rintro wh ⟨z0, z1⟩
          go_simp
          (try with_reducible rfl)
        simp only [Act.put, List.setIfInBounds_toArray, List.set_cons_zero, List.set_cons_succ]
        refine held_take (i := 1) (v := ?_) rfl rfl (by kernel_rfl) (by kernel_rfl) (by kernel_rfl) (fun _ _ _ h => h) (by rfl) hHeld ?_ ?_
        rotate_left
        · rintro wh ⟨z0, z1⟩
          go_simp
          (try with_reducible rfl)
        simp only [Act.put, List.setIfInBounds_toArray, List.set_cons_zero, List.set_cons_succ]
        refine held_take (i := 2) (v := ?_) rfl rfl (by kernel_rfl) (by kernel_rfl) (by kernel_rfl) (fun _ _ _ h => h) (by rfl) hHeld ?_ ?_
        rotate_left
        · rintro wh ⟨z0, z1⟩
          go_simp
          (try with_reducible rfl)
        simp only [Act.put, List.setIfInBounds_toArray, List.set_cons_zero, List.set_cons_succ]
        refine held_take (i := 3) (v := ?_) rfl rfl (by kernel_rfl) (by kernel_rfl) (by kernel_rfl) (fun _ _ _ h => h) (by rfl) hHeld ?_ ?_
        rotate_left
        · rintro wh ⟨z0, z1⟩
          go_simp
          (try with_reducible rfl)
        simp only [Act.put, List.setIfInBounds_toArray, List.set_cons_zero, List.set_cons_succ]
        refine held_take (i := 4) (v := ?_) rfl rfl (by kernel_rfl) (by kernel_rfl) (by kernel_rfl) (fun _ _ _ h => h) (by rfl) hHeld ?_ ?_
        rotate_left
        · rintro wh ⟨z0, z1⟩
          go_simp
          (try with_reducible rfl)
        simp only [Act.put, List.setIfInBounds_toArray, List.set_cons_zero, List.set_cons_succ]
        refine held_take (i := 5) (v := ?_) rfl rfl (by kernel_rfl) (by kernel_rfl) (by kernel_rfl) (fun _ _ _ h => h) (by rfl) hHeld ?_ ?_
        rotate_left
        · rintro wh ⟨z0, z1⟩
          go_simp
          (try with_reducible rfl)
        simp only [Act.put, List.setIfInBounds_toArray, List.set_cons_zero, List.set_cons_succ]
        refine held_take (i := 6) (v := ?_) rfl rfl (by kernel_rfl) (by kernel_rfl) (by kernel_rfl) (fun _ _ _ h => h) (by rfl) hHeld ?_ ?_
        rotate_left
        · rintro wh ⟨z0, z1⟩
          go_simp
          (try with_reducible rfl)
        simp only [Act.put, List.setIfInBounds_toArray, List.set_cons_zero, List.set_cons_succ]
        refine held_take (i := 7) (v := ?_) rfl rfl (by kernel_rfl) (by kernel_rfl) (by kernel_rfl) (fun _ _ _ h => h) (by rfl) hHeld ?_ ?_
        rotate_left
        · rintro wh ⟨z0, z1⟩
          go_simp
          (try with_reducible rfl)
        simp only [Act.put, List.setIfInBounds_toArray, List.set_cons_zero, List.set_cons_succ]
        refine held_take (i := 8) (v := ?_) rfl rfl (by kernel_rfl) (by kernel_rfl) (by kernel_rfl) (fun _ _ _ h => h) (by rfl) hHeld ?_ ?_
        rotate_left
        · rintro wh ⟨z0, z1⟩
          go_simp
          (try with_reducible rfl)
        simp only [Act.put, List.setIfInBounds_toArray, List.set_cons_zero, List.set_cons_succ]
        refine held_take (i := 9) (v := ?_) rfl rfl (by kernel_rfl) (by kernel_rfl) (by kernel_rfl) (fun _ _ _ h => h) (by rfl) hHeld ?_ ?_
        rotate_left
        · rintro wh ⟨z0, z1⟩
          go_simp
          (try with_reducible rfl)
        simp only [Act.put, List.setIfInBounds_toArray, List.set_cons_zero, List.set_cons_succ]
        refine held_take (i := 10) (v := ?_) rfl rfl (by kernel_rfl) (by kernel_rfl) (by kernel_rfl) (fun _ _ _ h => h) (by rfl) hHeld ?_ ?_
        rotate_left
        · rintro wh ⟨z0, z1⟩
          go_simp
          (try with_reducible rfl)
        simp only [Act.put, List.setIfInBounds_toArray, List.set_cons_zero, List.set_cons_succ]
        refine held_take (i := 11) (v := ?_) rfl rfl (by kernel_rfl) (by kernel_rfl) (by kernel_rfl) (fun _ _ _ h => h) (by rfl) hHeld ?_ ?_
        rotate_left
        · rintro wh ⟨z0, z1⟩
          go_simp
          (try with_reducible rfl)
        simp only [Act.put, List.setIfInBounds_toArray, List.set_cons_zero, List.set_cons_succ]
        refine held_take (i := 12) (v := ?_) rfl rfl (by kernel_rfl) (by kernel_rfl) (by kernel_rfl) (fun _ _ _ h => h) (by rfl) hHeld ?_ ?_
        rotate_left
        · rintro wh ⟨z0, z1⟩
          go_simp
          (try with_reducible rfl)
        simp only [Act.put, List.setIfInBounds_toArray, List.set_cons_zero, List.set_cons_succ]
        refine held_take (i := 13) (v := ?_) rfl rfl (by kernel_rfl) (by kernel_rfl) (by kernel_rfl) (fun _ _ _ h => h) (by rfl) hHeld ?_ ?_
        rotate_left
        · rintro wh ⟨z0, z1⟩
          go_simp
          (try with_reducible rfl)
        simp only [Act.put, List.setIfInBounds_toArray, List.set_cons_zero, List.set_cons_succ]
        refine held_take (i := 14) (v := ?_) rfl rfl (by kernel_rfl) (by kernel_rfl) (by kernel_rfl) (fun _ _ _ h => h) (by rfl) hHeld ?_ ?_
        rotate_left
        · rintro wh ⟨z0, z1⟩
          go_simp
          (try with_reducible rfl)
        simp only [Act.put, List.setIfInBounds_toArray, List.set_cons_zero, List.set_cons_succ]
        refine held_take (i := 15) (v := ?_) rfl rfl (by kernel_rfl) (by kernel_rfl) (by kernel_rfl) (fun _ _ _ h => h) (by rfl) hHeld ?_ ?_
        rotate_left
        · rintro wh ⟨z0, z1⟩
          go_simp
          (try with_reducible rfl)
        simp only [Act.put, List.setIfInBounds_toArray, List.set_cons_zero, List.set_cons_succ]
        refine held_take (i := 16) (v := ?_) rfl rfl (by kernel_rfl) (by kernel_rfl) (by kernel_rfl) (fun _ _ _ h => h) (by rfl) hHeld ?_ ?_
        rotate_left
        · rintro wh ⟨z0, z1⟩
          go_simp
          (try with_reducible rfl)
        simp only [Act.put, List.setIfInBounds_toArray, List.set_cons_zero, List.set_cons_succ]
        refine held_take (i := 17) (v := ?_) rfl rfl (by kernel_rfl) (by kernel_rfl) (by kernel_rfl) (fun _ _ _ h => h) (by rfl) hHeld ?_ ?_
        rotate_left
        · rintro wh ⟨z0, z1⟩
          go_simp
          (try with_reducible rfl)
        simp only [Act.put, List.setIfInBounds_toArray, List.set_cons_zero, List.set_cons_succ]
        refine held_take (i := 18) (v := ?_) rfl rfl (by kernel_rfl) (by kernel_rfl) (by kernel_rfl) (fun _ _ _ h => h) (by rfl) hHeld ?_ ?_
        rotate_left
        · rintro wh ⟨z0, z1⟩
          go_simp
          (try with_reducible rfl)
        simp only [Act.put, List.setIfInBounds_toArray, List.set_cons_zero, List.set_cons_succ]
        refine held_call (i := 19) rfl (by kernel_rfl) (by rfl) (fun K hK => ?_)
        (go_simp; go_at_call 63; refine (HWI.out _ _ ?_ (Below.refl _ wr).drew).mono ?_; (· rw [ByteArray.size_extract]; unfold maxLen; omega); rintro e w1 ⟨v1, rfl, hF1, hfit1, hlen1, hown1, hb1⟩; have hB1 : Below wr.heap.size wr w1 := ((Below.refl _ _).drew).trans hb1)
        refine hK.out _ _ ⟨keep_cell a0 hB1 hwb, keep_cell a1 hB1 hwb⟩ (fun hHeld => ?_)
        clear hK K
        (try simp only [Act.put, List.setIfInBounds_toArray, List.set_cons_zero, List.set_cons_succ])
        refine held_take (i := 20) (v := ?_) rfl rfl (by kernel_rfl) (by kernel_rfl) (by kernel_rfl) (fun _ _ _ h => h) (by rfl) hHeld ?_ ?_
        rotate_left
        · rintro wh ⟨z0, z1⟩
          go_simp
          (try with_reducible rfl)
        simp only [Act.put, List.setIfInBounds_toArray, List.set_cons_zero, List.set_cons_succ]
        refine wpAnyH_done (by kernel_rfl) ?_ _
        have HB1 := Lib.hid (HB.out.trans (hB1.mono HB.out.size))
        generalize withL L x (y.extract 0 m) = L1 at *
        have hL1 := HL.out.later hB1
        have hlen17 := rightF_len HRT.out
        have kr := rright6_any L1 w1 v1 hF1 hfit1 (by unfold maxLen; omega)
        obtain ⟨q, hq⟩ : ∃ q, rightF L1 = q := ⟨_, rfl⟩
        rw [hq] at kr
        obtain ⟨vb, vd, rfl, _, _⟩ := RdAt.shape hF1
        have HF1 := Lib.hid hF1
        have HO1 : Hid (∀ q, (Value.slice vb L1.length vd).ownBlock = some q → w.heap.size ≤ q) := Lib.hid (fun q hq => Nat.le_trans HB.out.size (hown1 q hq))
        clear hown1
        have HFT1 := Lib.hid hfit1
        have HQ := Lib.hid hq
        have HL1 := Lib.hid hL1
        clear hB1 hb1 hF1 hfit1 hlen1 hq hL1 hlen17 a0 a1 HWI HB hm1 hm2 hm3 hys
        go_wp2_with fail
        refine kr.mono ?_
        rintro e w2 ⟨rfl, hb2⟩
        have HF2 := Lib.hid (HF1.out.later hb2)
        have HL2 := Lib.hid (HL1.out.later hb2)
        have HB2 := Lib.hid (HB1.out.trans (hb2.mono HB1.out.size))
        clear kr hb2 HF1 HL1 HB1
        cases q
        · go_wp2
          go_roundw
          case rel => exact ⟨k + 1, L, by go_num, by omega, by omega, Lib.hid (by rw [HGS.out, HQ.out]; rfl), HL2.out, HFT.out, HRT.out, HOW.out, HB2.out⟩
          case measure => (simp [intOf]; try omega)
        · go_wp2
          go_roundw
          case rel => exact ⟨k + 1, L1, by go_num, by omega, by omega, Lib.hid (by rw [HGS.out, HQ.out]; rfl), HF2.out, HFT1.out, HQ.out, HO1.out, HB2.out⟩
          case measure => (simp [intOf]; try omega)
      · have h12' : (12 : Int) ≤ (k : Int) := by omega
        have HE : Hid (goodF l = L) := by show _ = _; rw [goodK_end hk12 (.inl (by omega)), HGK.out]
        go_wp2
        go_ret
        exact ⟨_, rfl, by rw [HE.out]; exact HL.out, by rw [HE.out]; exact HFT.out, by rw [HE.out]; exact HRT.out, HOW.out, hbr⟩
    · obtain rfl : k = l.length := by omega
      have HE : Hid (goodF l = L) := by show _ = _; rw [goodK_end hk12 (.inr (Nat.le_refl _)), HGK.out]
      go_wp2
      go_ret
      exact ⟨_, rfl, by rw [HE.out]; exact HL.out, by rw [HE.out]; exact HFT.out, by rw [HE.out]; exact HRT.out, HOW.out, hbr⟩
end Go.Proofs.Ytipnhpfpppblhaa
namespace Go.Proofs.Ytipnhpfpppblhaa
open Go.RowKit
theorem rd_puts' {w : World} {v : Value} {n k : Nat} {xs : List Value} (h : RdAt w v n k xs) {g o : Nat} (hg : 0 < n → ∀ q, v.ownBlock = some q → q ≠ g) (vs : List Value) : RdAt (w.setCells g o vs) v n k xs := by
  refine ⟨h.1, ?_⟩
  rcases h.2 with h | ⟨a, c, rfl, hc, hr⟩
  · exact .inl h
  · refine .inr ⟨a, c, rfl, hc, fun hn => ?_⟩
    obtain ⟨b, o', rfl, hlt, hcell⟩ := hr hn
    have hne := hg hn b rfl
    refine ⟨b, o', rfl, Nat.lt_of_lt_of_le hlt (below_puts_base (g := g) (o := o) (Below.refl 0 w) (Nat.zero_le _) vs).size, fun j x hx => ?_⟩
    rw [World.cell?_setCells_out _ _ _ _ _ (fun hb _ => absurd hb hne)]
    exact hcell j x hx
def gSrc (s : ByteArray) : ByteArray := if nameL (B s) then s else ⟨#[112, 114, 111, 109]⟩
def gLv (l : Int) : Int := if rightL l then l else 1
def gFr (f : Int) : Int := (IntKind.u64.wrap f).tmod 1000
def gTil (f t : Int) : Int := if t = 0 then 0 else gFr f + 1 + (IntKind.u64.wrap t).tmod 1000
theorem gFr_in (f : Int) : 0 ≤ gFr f ∧ gFr f < 1000 := by
  have h : 0 ≤ IntKind.u64.wrap f := by simp only [IntKind.wrap, IntKind.bits, IntKind.signed]; simp; omega
  unfold gFr
  rw [Int.tmod_eq_emod_of_nonneg h]
  omega
structure GSt (w : World) (go : Nat) (src : ByteArray) (fa : Value) (lv : Int) (c : Nat) (fr til : Int) (vo : Value) (L : List Fld) (s' : ByteArray) (l' f' t' : Int) (W : World) : Prop where
  a : C6 w.heap.size (.string src) fa (.int .i64 lv) (.int .u32 c) (.int .i64 fr) (.int .i64 til) W
  o : C6 go (.string s') vo (.int .i64 l') (.int .u32 c) (.int .i64 f') (.int .i64 t') W
  oth : W.there go 0 6
  rth : W.there (w.heap.size + 1) 0 6
  f : FldsAt W vo L
  far : 0 < L.length → ∀ q, vo.ownBlock = some q → q ≠ go ∧ q ≠ w.heap.size + 1 ∧ w.heap.size ≤ q
  ge : w.heap.size + 2 ≤ go
  lt : go < W.heap.size
  below : Below w.heap.size w W
theorem GSt.later {w W W' : World} {go : Nat} {src : ByteArray} {fa : Value} {lv : Int} {c : Nat} {fr til : Int} {vo : Value} {L : List Fld} {s' : ByteArray} {l' f' t' : Int} (h : GSt w go src fa lv c fr til vo L s' l' f' t' W) (hb : Below W.heap.size W W') : GSt w go src fa lv c fr til vo L s' l' f' t' W' := by
  have h1 := h.lt
  have h2 := h.ge
  exact ⟨h.a.later hb (by omega), h.o.later hb h1, there_later h.oth hb h1, there_later h.rth hb (by omega), h.f.later hb, h.far, h2, Nat.lt_of_lt_of_le h1 hb.size, h.below.trans (hb.mono h.below.size)⟩
theorem c6_set {w : World} {g : Nat} {v0 v1 v2 v3 v4 v5 : Value} (h : C6 g v0 v1 v2 v3 v4 v5 w) (x : Value) :
    C6 g x v1 v2 v3 v4 v5 (w.setCells g 0 [x]) ∧ C6 g v0 v1 x v3 v4 v5 (w.setCells g 2 [x]) ∧ C6 g v0 v1 v2 v3 x v5 (w.setCells g 4 [x]) ∧ C6 g v0 v1 v2 v3 v4 x (w.setCells g 5 [x]) := by
  obtain ⟨h0, h1, h2, h3, h4, h5⟩ := h
  have hs : ∀ j v, w.cell? ⟨g, j, none⟩ = some v → (w.setCells g j [x]).cell? ⟨g, j, none⟩ = some x := fun j v h => World.cell?_setCell_same' w ⟨g, j, none⟩ x (by rw [h]; rfl)
  have ho : ∀ i j v, j ≠ i → w.cell? ⟨g, j, none⟩ = some v → (w.setCells g i [x]).cell? ⟨g, j, none⟩ = some v := fun i j v hne h => by
    rw [World.cell?_setCells_out _ _ _ _ _ (fun _ _ => by simp; omega)]
    exact h
  exact ⟨⟨hs _ _ h0, ho _ _ _ (by decide) h1, ho _ _ _ (by decide) h2, ho _ _ _ (by decide) h3, ho _ _ _ (by decide) h4, ho _ _ _ (by decide) h5⟩,
    ⟨ho _ _ _ (by decide) h0, ho _ _ _ (by decide) h1, hs _ _ h2, ho _ _ _ (by decide) h3, ho _ _ _ (by decide) h4, ho _ _ _ (by decide) h5⟩,
    ⟨ho _ _ _ (by decide) h0, ho _ _ _ (by decide) h1, ho _ _ _ (by decide) h2, ho _ _ _ (by decide) h3, hs _ _ h4, ho _ _ _ (by decide) h5⟩,
    ⟨ho _ _ _ (by decide) h0, ho _ _ _ (by decide) h1, ho _ _ _ (by decide) h2, ho _ _ _ (by decide) h3, ho _ _ _ (by decide) h4, hs _ _ h5⟩⟩
section
variable {w W : World} {go : Nat} {src : ByteArray} {fa : Value} {lv : Int} {c : Nat} {fr til : Int} {vo : Value} {L : List Fld} {s' : ByteArray} {l' f' t' : Int}
theorem GSt.put (h : GSt w go src fa lv c fr til vo L s' l' f' t' W) (j : Nat) (x : Value) {s2 : ByteArray} {l2 f2 t2 : Int} (ho : C6 go (.string s2) vo (.int .i64 l2) (.int .u32 c) (.int .i64 f2) (.int .i64 t2) (W.setCells go j [x])) : GSt w go src fa lv c fr til vo L s2 l2 f2 t2 (W.setCells go j [x]) := by
  have h2 := h.ge
  exact ⟨c6_out h.a (by omega) j [x], ho, World.there_setCells h.oth go j [x], World.there_setCells h.rth go j [x], rd_puts' h.f (fun h0 q hq => (h.far h0 q hq).1) [x], h.far, h2,
    Nat.lt_of_lt_of_le h.lt (below_puts_base (g := go) (o := j) (Below.refl 0 W) (Nat.zero_le _) [x]).size, below_puts h.below (by omega) [x]⟩
theorem GSt.put0 (h : GSt w go src fa lv c fr til vo L s' l' f' t' W) (x : ByteArray) : GSt w go src fa lv c fr til vo L x l' f' t' (W.setCells go 0 [.string x]) := h.put 0 _ (c6_set h.o _).1
theorem GSt.put2 (h : GSt w go src fa lv c fr til vo L s' l' f' t' W) (x : Int) : GSt w go src fa lv c fr til vo L s' x f' t' (W.setCells go 2 [.int .i64 x]) := h.put 2 _ (c6_set h.o _).2.1
theorem GSt.put4 (h : GSt w go src fa lv c fr til vo L s' l' f' t' W) (x : Int) : GSt w go src fa lv c fr til vo L s' l' x t' (W.setCells go 4 [.int .i64 x]) := h.put 4 _ (c6_set h.o _).2.2.1
theorem GSt.put5 (h : GSt w go src fa lv c fr til vo L s' l' f' t' W) (x : Int) : GSt w go src fa lv c fr til vo L s' l' f' x (W.setCells go 5 [.int .i64 x]) := h.put 5 _ (c6_set h.o _).2.2.2
end
set_option maxHeartbeats 1600000 in
set_option maxRecDepth 100000 in
theorem rgood9_any (src : ByteArray) (fl : List Fld) (fv : Value) (lv : Int) (c : Nat) (fr til : Int) (w : World) (hs : src.size ≤ maxLen) (hv : FldsAt w fv fl) (hfit : FldsFit fl) (hl : fl.length ≤ maxLen) :
    Calls Try.prog 15 #[.agg #[.string src, fv, .int .i64 lv, .int .u32 c, .int .i64 fr, .int .i64 til]] w fun e w' =>
      ∃ v', e = .returned (.tuple #[.agg #[.string (gSrc src), v', .int .i64 (gLv lv), .int .u32 c, .int .i64 (gFr fr), .int .i64 (gTil fr til)], .bool (decide (0 < (goodF fl).length))]) ∧ FldsAt w' v' (goodF fl) ∧ FldsFit (goodF fl) ∧ rightF (goodF fl) = true ∧ (0 < (goodF fl).length → ∀ q, v'.ownBlock = some q → w.heap.size ≤ q) ∧ Below w.heap.size w w' := by
  have k1 := fun W (h : Below w.heap.size w W) => rgood6_any fl W fv (hv.later h) hfit hl
  have k2 := fun W => refName.name_any src W hs
  have k3 := rright_any lv c
  obtain ⟨fa, fc, rfl, _, _⟩ := RdAt.shape hv
  obtain ⟨L, hL⟩ : ∃ z, goodF fl = z := ⟨_, rfl⟩
  rw [hL] at k1 ⊢
  have K1 := Lib.hid k1
  have K2 := Lib.hid k2
  have K3 := Lib.hid k3
  clear hL hv hfit hl hs k1 k2 k3
  obtain ⟨W0, hW0⟩ : ∃ z, (w.alloc (.cells #[.string src, .slice fa fl.length fc, .int .i64 lv, .int .u32 c, .int .i64 fr, .int .i64 til] 38)).alloc (.cells #[.string ⟨#[]⟩, .slice none 0 0, .int .i64 0, .int .u32 0, .int .i64 0, .int .i64 0] 38) = z := ⟨_, rfl⟩
  have hb0 : Below w.heap.size w W0 := by rw [← hW0]; exact (alloc_below _ _).trans ((alloc_below _ _).mono (by simp))
  have hz : w.heap.size + 2 ≤ W0.heap.size := by rw [← hW0]; simp
  have hd := (Below.refl W0.heap.size W0)
  rw [← hW0] at hd
  obtain ⟨h1, h2, h3⟩ := box_cells hd
  have hT := box_there hd
  obtain ⟨h4, _, _⟩ := box_cells h3
  rw [World.size_alloc] at h1 hT
  rw [hW0] at h1 h4 hT
  have q0 := h4 0 _ rfl
  have q1 := h4 1 _ rfl
  have q2 := h4 2 _ rfl
  have q3 := h4 3 _ rfl
  have q4 := h4 4 _ rfl
  have q5 := h4 5 _ rfl
  have HA : Hid (C6 w.heap.size (.string src) (.slice fa fl.length fc) (.int .i64 lv) (.int .u32 c) (.int .i64 fr) (.int .i64 til) W0) := Lib.hid ⟨q0, q1, q2, q3, q4, q5⟩
  have HB0 := Lib.hid hb0
  have HT : Hid (W0.there (w.heap.size + 1) 0 6) := Lib.hid hT
  have HW0 := Lib.hid hW0
  clear h1 h2 h3 h4 hd hT hb0 hW0
  go_enter Try.func15, Try.ntmps15
  go_upto_region 1 with fail
  rw [HW0.out]
  clear HW0
  go_cut [4] (fun s4 wx => ∃ go vo, s4 = .pointer (some ⟨go, 0, none⟩) ∧ FldsFit L ∧ rightF L = true ∧ GSt w go src (.slice fa fl.length fc) lv c fr til vo L src lv 0 0 wx)
  case first =>
    refine wp_region_held_drew (S := (fun W => W.cell? ⟨w.heap.size, 0, none⟩ = some (.string src) ∧ W.cell? ⟨w.heap.size, 1, none⟩ = some (.slice fa fl.length fc) ∧ W.cell? ⟨w.heap.size, 2, none⟩ = some (.int .i64 lv) ∧ W.cell? ⟨w.heap.size, 3, none⟩ = some (.int .u32 c) ∧ W.cell? ⟨w.heap.size, 4, none⟩ = some (.int .i64 fr) ∧ W.cell? ⟨w.heap.size, 5, none⟩ = some (.int .i64 til))) (by kernel_rfl) ⟨q0, q1, q2, q3, q4, q5⟩ (fun hHeld => ?_)
    have hd : Below W0.heap.size W0 W0.drew := (Below.refl _ _).drew
    have hds : W0.heap.size ≤ W0.drew.heap.size := Nat.le_refl _
    generalize W0.drew = wd at *
    refine held_take (i := 0) (v := ?_) rfl rfl (by kernel_rfl) (by kernel_rfl) (by kernel_rfl) (fun _ _ _ h => h) (by rfl) hHeld ?_ ?_
    rotate_left
    · rintro wh ⟨z0, z1, z2, z3, z4, z5⟩
      go_simp
      (try with_reducible rfl)
    simp only [Act.put, List.setIfInBounds_toArray, List.set_cons_zero, List.set_cons_succ]
    refine held_take (i := 1) (v := ?_) rfl rfl (by kernel_rfl) (by kernel_rfl) (by kernel_rfl) (fun _ _ _ h => h) (by rfl) hHeld ?_ ?_
    rotate_left
    · rintro wh ⟨z0, z1, z2, z3, z4, z5⟩
      go_simp
      (try with_reducible rfl)
    simp only [Act.put, List.setIfInBounds_toArray, List.set_cons_zero, List.set_cons_succ]
    refine held_take (i := 2) (v := ?_) rfl rfl (by kernel_rfl) (by kernel_rfl) (by kernel_rfl) (fun _ _ _ h => h) (by rfl) hHeld ?_ ?_
    rotate_left
    · rintro wh ⟨z0, z1, z2, z3, z4, z5⟩
      go_simp
      (try with_reducible rfl)
    simp only [Act.put, List.setIfInBounds_toArray, List.set_cons_zero, List.set_cons_succ]
    refine held_take (i := 3) (v := ?_) rfl rfl (by kernel_rfl) (by kernel_rfl) (by kernel_rfl) (fun _ _ _ h => h) (by rfl) hHeld ?_ ?_
    rotate_left
    · rintro wh ⟨z0, z1, z2, z3, z4, z5⟩
      go_simp
      (try with_reducible rfl)
    simp only [Act.put, List.setIfInBounds_toArray, List.set_cons_zero, List.set_cons_succ]
    refine held_take (i := 5) (v := ?_) rfl rfl (by kernel_rfl) (by kernel_rfl) (by kernel_rfl) (fun _ _ _ h => h) (by rfl) hHeld ?_ ?_
    rotate_left
    · rintro wh ⟨z0, z1, z2, z3, z4, z5⟩
      go_simp
      (try with_reducible rfl)
    simp only [Act.put, List.setIfInBounds_toArray, List.set_cons_zero, List.set_cons_succ]
    refine held_take (i := 6) (v := ?_) rfl rfl (by kernel_rfl) (by kernel_rfl) (by kernel_rfl) (fun _ _ _ h => h) (by rfl) hHeld ?_ ?_
    rotate_left
    · rintro wh ⟨z0, z1, z2, z3, z4, z5⟩
      go_simp
      (try with_reducible rfl)
    simp only [Act.put, List.setIfInBounds_toArray, List.set_cons_zero, List.set_cons_succ]
    refine held_two (i := 4) (j := 8) rfl rfl (by kernel_rfl) (fun K hK => ?_) (fun K hK => ?_)
    · go_simp; go_at_call 39; refine (K1.out _ (HB0.out.trans (hd.mono HB0.out.size))).mono ?_; rintro e wc ⟨vz, rfl, hFz, hfit, hright, hOz, hbc⟩
      obtain ⟨va, vc, rfl, _, _⟩ := RdAt.shape hFz
      have hBc := hd.trans (hbc.mono hd.size)
      refine hK.out _ _ ⟨keep_cell q0 hBc (by omega), keep_cell q1 hBc (by omega), keep_cell q2 hBc (by omega), keep_cell q3 hBc (by omega), keep_cell q4 hBc (by omega), keep_cell q5 hBc (by omega)⟩ (fun hHeld => ?_)
      clear hK K
      (try simp only [Act.put, List.setIfInBounds_toArray, List.set_cons_zero, List.set_cons_succ])
      refine held_take (i := 7) (v := ?_) rfl rfl (by kernel_rfl) (by kernel_rfl) (by kernel_rfl) (fun _ _ _ h => h) (by rfl) hHeld ?_ ?_
      rotate_left
      · rintro wh ⟨z0, z1, z2, z3, z4, z5⟩
        go_simp
        (try with_reducible rfl)
      simp only [Act.put, List.setIfInBounds_toArray, List.set_cons_zero, List.set_cons_succ]
      refine held_step (i := 8) rfl (by kernel_rfl) (fun K hK => ?_)
      have haa := alloc_below wc (.cells #[.string ⟨#[]⟩, .slice none 0 0, .int .i64 0, .int .u32 0, .int .i64 0, .int .i64 0] 38)
      have hBa := hBc.trans (haa.mono hBc.size)
      have hTa := box_there (Below.refl (wc.alloc (.cells #[.string ⟨#[]⟩, .slice none 0 0, .int .i64 0, .int .u32 0, .int .i64 0, .int .i64 0] 38)).heap.size (wc.alloc (.cells #[.string ⟨#[]⟩, .slice none 0 0, .int .i64 0, .int .u32 0, .int .i64 0, .int .i64 0] 38)))
      have hlta : wc.heap.size < (wc.alloc (.cells #[.string ⟨#[]⟩, .slice none 0 0, .int .i64 0, .int .u32 0, .int .i64 0, .int .i64 0] 38)).heap.size := by rw [World.size_alloc]; omega
      go_simp
      refine hK.out _ _ ⟨keep_cell q0 hBa (by omega), keep_cell q1 hBa (by omega), keep_cell q2 hBa (by omega), keep_cell q3 hBa (by omega), keep_cell q4 hBa (by omega), keep_cell q5 hBa (by omega)⟩ (fun hHeld => ?_)
      clear hK K
      (try simp only [Act.put, List.setIfInBounds_toArray, List.set_cons_zero, List.set_cons_succ])
      have hFl := hFz.later (below_puts (g := wc.heap.size) (o := 0) haa (Nat.le_refl _) [.string src, .slice va L.length vc, .int .i64 lv, .int .u32 c, .int .i64 0, .int .i64 0])
      have hT : (wc.alloc (.cells #[.string ⟨#[]⟩, .slice none 0 0, .int .i64 0, .int .u32 0, .int .i64 0, .int .i64 0] 38)).there wc.heap.size 0 6 := hTa
      clear hTa
      have hcs := hBc.size
      have hfar : 0 < L.length → ∀ q, (Value.slice va L.length vc).ownBlock = some q → q ≠ wc.heap.size ∧ q ≠ w.heap.size + 1 ∧ w.heap.size ≤ q := fun h0 q hq => ⟨by obtain ⟨b, o, c, he, _, hlt, _⟩ := RdAt.some hFz h0; rw [he] at hq; simp only [Value.ownBlock, Option.some.injEq] at hq; omega, by have := hOz q hq; omega, by have := hOz q hq; omega⟩
      generalize wc.alloc (.cells #[.string ⟨#[]⟩, .slice none 0 0, .int .i64 0, .int .u32 0, .int .i64 0, .int .i64 0] 38) = wa at *
      have f0 := there_free hT 0 (by decide)
      have f1 := there_free hT 1 (by decide)
      have f2 := there_free hT 2 (by decide)
      have f3 := there_free hT 3 (by decide)
      have f4 := there_free hT 4 (by decide)
      have f5 := there_free hT 5 (by decide)
      obtain ⟨y0, hy0⟩ := there_cell hT 0 (by decide)
      obtain ⟨y1, hy1⟩ := there_cell hT 1 (by decide)
      obtain ⟨y2, hy2⟩ := there_cell hT 2 (by decide)
      obtain ⟨y3, hy3⟩ := there_cell hT 3 (by decide)
      obtain ⟨y4, hy4⟩ := there_cell hT 4 (by decide)
      obtain ⟨y5, hy5⟩ := there_cell hT 5 (by decide)
      have hB9 : Below W0.heap.size W0 (wa.setCells wc.heap.size 0 [.string src, .slice va L.length vc, .int .i64 lv, .int .u32 c, .int .i64 0, .int .i64 0]) := below_puts (g := wc.heap.size) (o := 0) hBa (by omega) [.string src, .slice va L.length vc, .int .i64 lv, .int .u32 c, .int .i64 0, .int .i64 0]
      have hF9 : FldsAt (wa.setCells wc.heap.size 0 [.string src, .slice va L.length vc, .int .i64 lv, .int .u32 c, .int .i64 0, .int .i64 0]) (.slice va L.length vc) L := hFl
      have hZ9 := c6_puts wa wc.heap.size (.string src) (.slice va L.length vc) (.int .i64 lv) (.int .u32 c) (.int .i64 0) (.int .i64 0) hT
      have hL9 : wc.heap.size < (wa.setCells wc.heap.size 0 [.string src, .slice va L.length vc, .int .i64 lv, .int .u32 c, .int .i64 0, .int .i64 0]).heap.size := Nat.lt_of_lt_of_le hlta (below_puts_base (g := wc.heap.size) (o := 0) (Below.refl 0 wa) (Nat.zero_le _) [.string src, .slice va L.length vc, .int .i64 lv, .int .u32 c, .int .i64 0, .int .i64 0]).size
      have HG : Hid (GSt w wc.heap.size src (.slice fa fl.length fc) lv c fr til (.slice va L.length vc) L src lv 0 0 (wa.setCells wc.heap.size 0 [.string src, .slice va L.length vc, .int .i64 lv, .int .u32 c, .int .i64 0, .int .i64 0])) := Lib.hid ⟨HA.out.later hB9 (by omega), hZ9, World.there_setCells hT wc.heap.size 0 [.string src, .slice va L.length vc, .int .i64 lv, .int .u32 c, .int .i64 0, .int .i64 0], there_later HT.out hB9 (by omega), hF9, hfar, by omega, hL9, HB0.out.trans (hB9.mono HB0.out.size)⟩
      have HB9 := Lib.hid hB9
      clear hB9 hF9 hZ9 hL9
      refine held_step (i := 9) rfl (by kernel_rfl) (fun K hK => ?_)
      go_simp
      refine hK.out _ _ ⟨keep_cell q0 HB9.out (by omega), keep_cell q1 HB9.out (by omega), keep_cell q2 HB9.out (by omega), keep_cell q3 HB9.out (by omega), keep_cell q4 HB9.out (by omega), keep_cell q5 HB9.out (by omega)⟩ (fun hHeld => ?_)
      clear hK K
      (try simp only [Act.put, List.setIfInBounds_toArray, List.set_cons_zero, List.set_cons_succ])
      refine wpAnyH_done (by kernel_rfl) ?_ _
      go_wp2
      go_meet
      exact ⟨wc.heap.size, _, rfl, hfit, hright, HG.out⟩
    · have haa := alloc_below wd (.cells #[.string ⟨#[]⟩, .slice none 0 0, .int .i64 0, .int .u32 0, .int .i64 0, .int .i64 0] 38)
      have hBa := hd.trans (haa.mono hd.size)
      have hTa := box_there (Below.refl (wd.alloc (.cells #[.string ⟨#[]⟩, .slice none 0 0, .int .i64 0, .int .u32 0, .int .i64 0, .int .i64 0] 38)).heap.size (wd.alloc (.cells #[.string ⟨#[]⟩, .slice none 0 0, .int .i64 0, .int .u32 0, .int .i64 0, .int .i64 0] 38)))
      have hlta : wd.heap.size < (wd.alloc (.cells #[.string ⟨#[]⟩, .slice none 0 0, .int .i64 0, .int .u32 0, .int .i64 0, .int .i64 0] 38)).heap.size := by rw [World.size_alloc]; omega
      go_simp
      refine hK.out _ _ ⟨keep_cell q0 hBa (by omega), keep_cell q1 hBa (by omega), keep_cell q2 hBa (by omega), keep_cell q3 hBa (by omega), keep_cell q4 hBa (by omega), keep_cell q5 hBa (by omega)⟩ (fun hHeld => ?_)
      clear hK K
      (try simp only [Act.put, List.setIfInBounds_toArray, List.set_cons_zero, List.set_cons_succ])
      have hT : (wd.alloc (.cells #[.string ⟨#[]⟩, .slice none 0 0, .int .i64 0, .int .u32 0, .int .i64 0, .int .i64 0] 38)).there wd.heap.size 0 6 := hTa
      clear hTa
      generalize wd.alloc (.cells #[.string ⟨#[]⟩, .slice none 0 0, .int .i64 0, .int .u32 0, .int .i64 0, .int .i64 0] 38) = wa at *
      refine held_call (i := 4) rfl (by kernel_rfl) (by rfl) (fun K hK => ?_)
      go_simp; go_at_call 39; refine (K1.out _ (HB0.out.trans (hBa.mono HB0.out.size))).mono ?_; rintro e wc ⟨vz, rfl, hFz, hfit, hright, hOz, hbc⟩
      obtain ⟨va, vc, rfl, _, _⟩ := RdAt.shape hFz
      have hBc := hBa.trans (hbc.mono hBa.size)
      refine hK.out _ _ ⟨keep_cell q0 hBc (by omega), keep_cell q1 hBc (by omega), keep_cell q2 hBc (by omega), keep_cell q3 hBc (by omega), keep_cell q4 hBc (by omega), keep_cell q5 hBc (by omega)⟩ (fun hHeld => ?_)
      clear hK K
      (try simp only [Act.put, List.setIfInBounds_toArray, List.set_cons_zero, List.set_cons_succ])
      refine held_take (i := 7) (v := ?_) rfl rfl (by kernel_rfl) (by kernel_rfl) (by kernel_rfl) (fun _ _ _ h => h) (by rfl) hHeld ?_ ?_
      rotate_left
      · rintro wh ⟨z0, z1, z2, z3, z4, z5⟩
        go_simp
        (try with_reducible rfl)
      simp only [Act.put, List.setIfInBounds_toArray, List.set_cons_zero, List.set_cons_succ]
      have hT := there_later hT hbc hlta
      have hfar : 0 < L.length → ∀ q, (Value.slice va L.length vc).ownBlock = some q → q ≠ wd.heap.size ∧ q ≠ w.heap.size + 1 ∧ w.heap.size ≤ q := fun _ q hq => by have := hOz q hq; omega
      have f0 := there_free hT 0 (by decide)
      have f1 := there_free hT 1 (by decide)
      have f2 := there_free hT 2 (by decide)
      have f3 := there_free hT 3 (by decide)
      have f4 := there_free hT 4 (by decide)
      have f5 := there_free hT 5 (by decide)
      obtain ⟨y0, hy0⟩ := there_cell hT 0 (by decide)
      obtain ⟨y1, hy1⟩ := there_cell hT 1 (by decide)
      obtain ⟨y2, hy2⟩ := there_cell hT 2 (by decide)
      obtain ⟨y3, hy3⟩ := there_cell hT 3 (by decide)
      obtain ⟨y4, hy4⟩ := there_cell hT 4 (by decide)
      obtain ⟨y5, hy5⟩ := there_cell hT 5 (by decide)
      have hB9 : Below W0.heap.size W0 (wc.setCells wd.heap.size 0 [.string src, .slice va L.length vc, .int .i64 lv, .int .u32 c, .int .i64 0, .int .i64 0]) := below_puts (g := wd.heap.size) (o := 0) hBc (by omega) [.string src, .slice va L.length vc, .int .i64 lv, .int .u32 c, .int .i64 0, .int .i64 0]
      have hF9 : FldsAt (wc.setCells wd.heap.size 0 [.string src, .slice va L.length vc, .int .i64 lv, .int .u32 c, .int .i64 0, .int .i64 0]) (.slice va L.length vc) L := rd_puts' (g := wd.heap.size) (o := 0) hFz (fun h0 q hq => (hfar h0 q hq).1) [.string src, .slice va L.length vc, .int .i64 lv, .int .u32 c, .int .i64 0, .int .i64 0]
      have hZ9 := c6_puts wc wd.heap.size (.string src) (.slice va L.length vc) (.int .i64 lv) (.int .u32 c) (.int .i64 0) (.int .i64 0) hT
      have hL9 : wd.heap.size < (wc.setCells wd.heap.size 0 [.string src, .slice va L.length vc, .int .i64 lv, .int .u32 c, .int .i64 0, .int .i64 0]).heap.size := Nat.lt_of_lt_of_le (Nat.lt_of_lt_of_le hlta hbc.size) (below_puts_base (g := wd.heap.size) (o := 0) (Below.refl 0 wc) (Nat.zero_le _) [.string src, .slice va L.length vc, .int .i64 lv, .int .u32 c, .int .i64 0, .int .i64 0]).size
      have HG : Hid (GSt w wd.heap.size src (.slice fa fl.length fc) lv c fr til (.slice va L.length vc) L src lv 0 0 (wc.setCells wd.heap.size 0 [.string src, .slice va L.length vc, .int .i64 lv, .int .u32 c, .int .i64 0, .int .i64 0])) := Lib.hid ⟨HA.out.later hB9 (by omega), hZ9, World.there_setCells hT wd.heap.size 0 [.string src, .slice va L.length vc, .int .i64 lv, .int .u32 c, .int .i64 0, .int .i64 0], there_later HT.out hB9 (by omega), hF9, hfar, by omega, hL9, HB0.out.trans (hB9.mono HB0.out.size)⟩
      have HB9 := Lib.hid hB9
      clear hB9 hF9 hZ9 hL9
      refine held_step (i := 9) rfl (by kernel_rfl) (fun K hK => ?_)
      go_simp
      refine hK.out _ _ ⟨keep_cell q0 HB9.out (by omega), keep_cell q1 HB9.out (by omega), keep_cell q2 HB9.out (by omega), keep_cell q3 HB9.out (by omega), keep_cell q4 HB9.out (by omega), keep_cell q5 HB9.out (by omega)⟩ (fun hHeld => ?_)
      clear hK K
      (try simp only [Act.put, List.setIfInBounds_toArray, List.set_cons_zero, List.set_cons_succ])
      refine wpAnyH_done (by kernel_rfl) ?_ _
      go_wp2
      go_meet
      exact ⟨wd.heap.size, _, rfl, hfit, hright, HG.out⟩
  case rest =>
    obtain ⟨go, vo, rfl, hfit, hright, hG⟩ := hcut
    clear q0 q1 q2 q3 q4 q5 HA HB0 HT hz
    have HFT := Lib.hid hfit
    have HRT := Lib.hid hright
    have k2 := K2.out
    obtain ⟨nb, hnb⟩ : ∃ nb, nameL (B src) = nb := ⟨_, rfl⟩
    simp only [hnb] at k2
    have HS : Hid (gSrc src = if nb then src else ⟨#[112, 114, 111, 109]⟩) := by show _ = _; unfold gSrc; rw [hnb]
    have HG := Lib.hid hG
    obtain ⟨o0, o1, o2, o3, o4, o5⟩ := hG.o
    have f0 := there_free hG.oth 0 (by decide)
    clear hfit hright hnb K1 K2 hG
    go_upto_if 16 with (go_at_call 35; refine (k2 _).mono ?_; rintro e w2 ⟨rfl, rfl⟩)
    go_cut [] (fun wx => GSt w go src (.slice fa fl.length fc) lv c fr til vo L (gSrc src) lv 0 0 wx)
    case first =>
      clear k2
      cases nb
      · go_wp2
        go_meet
        rw [HS.out]
        exact HG.out.put0 _
      · go_wp2
        go_meet
        rw [HS.out]
        exact HG.out
    case rest =>
      have HG := Lib.hid hcut
      have k3 := K3.out
      obtain ⟨nb, hnb⟩ : ∃ nb, rightL lv = nb := ⟨_, rfl⟩
      simp only [hnb] at k3
      have HSL : Hid (gLv lv = if nb then lv else 1) := by show _ = _; unfold gLv; rw [hnb]
      clear o0 o1 o2 o3 o4 o5 f0 HS k2 hcut hnb K3
      obtain ⟨o0, o1, o2, o3, o4, o5⟩ := HG.out.o
      go_wp2_with fail
      refine (k3 _).mono ?_
      rintro e w3 ⟨rfl, hb3⟩
      have HG3 := Lib.hid (HG.out.later hb3)
      clear o0 o1 o2 o3 o4 o5 HG hb3 k3
      obtain ⟨o0, o1, o2, o3, o4, o5⟩ := HG3.out.o
      have f2 := there_free HG3.out.oth 2 (by decide)
      go_upto_if 21 with fail
      go_cut [] (fun wx => GSt w go src (.slice fa fl.length fc) lv c fr til vo L (gSrc src) (gLv lv) 0 0 wx)
      case first =>
        cases nb
        · go_wp2
          go_meet
          rw [HSL.out]
          exact HG3.out.put2 _
        · go_wp2
          go_meet
          rw [HSL.out]
          exact HG3.out
      case rest =>
        have HG4 := Lib.hid hcut
        clear o0 o1 o2 o3 o4 o5 f2 HG3 hcut HSL
        obtain ⟨a0, a1, a2, a3, a4, a5⟩ := HG4.out.a
        have f4 := there_free HG4.out.oth 4 (by decide)
        obtain ⟨u, hu⟩ : ∃ u, IntKind.u64.wrap fr = u := ⟨_, rfl⟩
        obtain ⟨f', hf'⟩ : ∃ f', u.tmod 1000 = f' := ⟨_, rfl⟩
        have hgf : gFr fr = f' := by unfold gFr; rw [hu, hf']
        have hfin := gFr_in fr
        rw [hgf] at hfin
        have hf1 : IntKind.i64.wrap f' = f' := IntWalk.i64_in _ ⟨by omega, by omega⟩
        obtain ⟨_, _, _, _, o4, _⟩ := HG4.out.o
        go_upto_region 7 with fail
        change Code.wp _ _ _ _ (wc.setCells go 4 [.int .i64 f'])
        have HG5 := Lib.hid (HG4.out.put4 f')
        generalize wc.setCells go 4 [.int .i64 f'] = w5 at *
        clear a0 a1 a2 a3 a4 a5 o4 f4 HG4 hu hf' hf1
        have HGF := Lib.hid hgf
        clear hgf
        obtain ⟨a0, a1, a2, a3, a4, a5⟩ := HG5.out.a
        obtain ⟨o0, o1, o2, o3, o4, o5⟩ := HG5.out.o
        have f5 := there_free HG5.out.oth 5 (by decide)
        go_upto_if 32 with fail
        go_cut [] (fun wx => GSt w go src (.slice fa fl.length fc) lv c fr til vo L (gSrc src) (gLv lv) (gFr fr) (gTil fr til) wx)
        case first =>
          by_cases h0 : til = 0
          · have hb : (til != 0) = false := by rw [h0]; rfl
            have HE : Hid (gTil fr til = 0) := by show _ = _; unfold gTil; rw [if_pos h0]
            clear h0
            go_wp2
            go_meet
            rw [HE.out, HGF.out]
            exact HG5.out
          · have hb : (til != 0) = true := by rw [bne_iff_ne]; exact h0
            have hu0 : 0 ≤ IntKind.u64.wrap til := by simp only [IntKind.wrap, IntKind.bits, IntKind.signed]; simp; omega
            obtain ⟨u2, hu2⟩ : ∃ u2, IntKind.u64.wrap til = u2 := ⟨_, rfl⟩
            obtain ⟨t2, ht2⟩ : ∃ t2, u2.tmod 1000 = t2 := ⟨_, rfl⟩
            have ht3 : 0 ≤ t2 ∧ t2 < 1000 := by
              rw [← ht2, Int.tmod_eq_emod_of_nonneg (by rw [← hu2]; exact hu0)]; omega
            have HE : Hid (gTil fr til = f' + 1 + t2) := by show _ = _; unfold gTil; rw [if_neg h0, HGF.out, hu2, ht2]
            have w1 : IntKind.i64.wrap t2 = t2 := IntWalk.i64_in _ ⟨by omega, by omega⟩
            have w2 : IntKind.i64.wrap (f' + 1) = f' + 1 := IntWalk.i64_in _ ⟨by omega, by omega⟩
            have w3 : IntKind.i64.wrap (f' + 1 + t2) = f' + 1 + t2 := IntWalk.i64_in _ ⟨by omega, by omega⟩
            have e5 := there_cell HG5.out.oth 5 (by decide)
            clear h0 hu0 ht3
            go_wp2
            go_meet
            rw [HE.out, HGF.out]
            exact HG5.out.put5 _
        case rest =>
          have HG6 := Lib.hid hcut
          clear a0 a1 a2 a3 a4 a5 o0 o1 o2 o3 o4 o5 f5 HG5 hcut HGF
          obtain ⟨va, vc, rfl, _, _⟩ := RdAt.shape HG6.out.f
          obtain ⟨o0, o1, o2, o3, o4, o5⟩ := HG6.out.o
          have hp : ∀ o v, wc.drew.cell? ⟨go, o, none⟩ = some v → (wc.drew.setCells (w.heap.size + 1) 0 [.string (gSrc src), .slice va L.length vc, .int .i64 (gLv lv), .int .u32 c, .int .i64 (gFr fr), .int .i64 (gTil fr til)]).cell? ⟨go, o, none⟩ = some v := fun o v h => by
            rw [World.cell?_setCells_out _ _ _ _ _ (fun hb _ => by have := HG6.out.ge; simp at hb; omega)]
            exact h
          go_upto_region 9 with fail
          refine wp_region_held_drew (S := (fun W => W.cell? ⟨go, 0, none⟩ = some (.string (gSrc src)) ∧ W.cell? ⟨go, 1, none⟩ = some (.slice va L.length vc) ∧ W.cell? ⟨go, 2, none⟩ = some (.int .i64 (gLv lv)) ∧ W.cell? ⟨go, 3, none⟩ = some (.int .u32 c) ∧ W.cell? ⟨go, 4, none⟩ = some (.int .i64 (gFr fr)) ∧ W.cell? ⟨go, 5, none⟩ = some (.int .i64 (gTil fr til)))) (by kernel_rfl) ⟨o0, o1, o2, o3, o4, o5⟩ (fun hHeld => ?_)
          have HG7 := Lib.hid (HG6.out.later (Below.refl _ wc).drew)
          clear HG6
          generalize wc.drew = wd at *
          have f0 := there_free HG7.out.rth 0 (by decide)
          obtain ⟨y0, hy0⟩ := there_cell HG7.out.rth 0 (by decide)
          have f1 := there_free HG7.out.rth 1 (by decide)
          obtain ⟨y1, hy1⟩ := there_cell HG7.out.rth 1 (by decide)
          have f2 := there_free HG7.out.rth 2 (by decide)
          obtain ⟨y2, hy2⟩ := there_cell HG7.out.rth 2 (by decide)
          have f3 := there_free HG7.out.rth 3 (by decide)
          obtain ⟨y3, hy3⟩ := there_cell HG7.out.rth 3 (by decide)
          have f4 := there_free HG7.out.rth 4 (by decide)
          obtain ⟨y4, hy4⟩ := there_cell HG7.out.rth 4 (by decide)
          have f5 := there_free HG7.out.rth 5 (by decide)
          obtain ⟨y5, hy5⟩ := there_cell HG7.out.rth 5 (by decide)
          refine held_take (i := 0) (v := ?_) rfl rfl (by kernel_rfl) (by kernel_rfl) (by kernel_rfl) (fun _ _ _ h => h) (by rfl) hHeld ?_ ?_
          rotate_left
          · rintro wh ⟨z0, z1, z2, z3, z4, z5⟩
            go_simp
            (try with_reducible rfl)
          simp only [Act.put, List.setIfInBounds_toArray, List.set_cons_zero, List.set_cons_succ]
          refine held_take (i := 1) (v := ?_) rfl rfl (by kernel_rfl) (by kernel_rfl) (by kernel_rfl) (fun _ _ _ h => h) (by rfl) hHeld ?_ ?_
          rotate_left
          · rintro wh ⟨z0, z1, z2, z3, z4, z5⟩
            go_simp
            (try with_reducible rfl)
          simp only [Act.put, List.setIfInBounds_toArray, List.set_cons_zero, List.set_cons_succ]
          refine held_take (i := 2) (v := ?_) rfl rfl (by kernel_rfl) (by kernel_rfl) (by kernel_rfl) (fun _ _ _ h => h) (by rfl) hHeld ?_ ?_
          rotate_left
          · rintro wh ⟨z0, z1, z2, z3, z4, z5⟩
            go_simp
            (try with_reducible rfl)
          simp only [Act.put, List.setIfInBounds_toArray, List.set_cons_zero, List.set_cons_succ]
          refine held_take (i := 3) (v := ?_) rfl rfl (by kernel_rfl) (by kernel_rfl) (by kernel_rfl) (fun _ _ _ h => h) (by rfl) hHeld ?_ ?_
          rotate_left
          · rintro wh ⟨z0, z1, z2, z3, z4, z5⟩
            go_simp
            (try with_reducible rfl)
          simp only [Act.put, List.setIfInBounds_toArray, List.set_cons_zero, List.set_cons_succ]
          refine held_take (i := 4) (v := ?_) rfl rfl (by kernel_rfl) (by kernel_rfl) (by kernel_rfl) (fun _ _ _ h => h) (by rfl) hHeld ?_ ?_
          rotate_left
          · rintro wh ⟨z0, z1, z2, z3, z4, z5⟩
            go_simp
            (try with_reducible rfl)
          simp only [Act.put, List.setIfInBounds_toArray, List.set_cons_zero, List.set_cons_succ]
          refine held_step (i := 5) rfl (by kernel_rfl) (fun K hK => ?_)
          go_simp
          refine hK.out _ _ ⟨hp _ _ HG7.out.o.1, hp _ _ HG7.out.o.2.1, hp _ _ HG7.out.o.2.2.1, hp _ _ HG7.out.o.2.2.2.1, hp _ _ HG7.out.o.2.2.2.2.1, hp _ _ HG7.out.o.2.2.2.2.2⟩ (fun hHeld => ?_)
          clear hK K
          (try simp only [Act.put, List.setIfInBounds_toArray])
          refine held_take (i := 6) (v := ?_) rfl rfl (by kernel_rfl) (by kernel_rfl) (by kernel_rfl) (fun _ _ _ h => h) (by rfl) hHeld ?_ ?_
          rotate_left
          · rintro wh ⟨z0, z1, z2, z3, z4, z5⟩
            go_simp
            (try with_reducible rfl)
          simp only [Act.put, List.setIfInBounds_toArray, List.set_cons_zero, List.set_cons_succ]
          refine wpAnyH_done (by kernel_rfl) ?_ _
          go_wp2
          refine bodyPost_ret (results_agg2 rfl _ _ (w.heap.size + 1) [.string (gSrc src), .slice va L.length vc, .int .i64 (gLv lv), .int .u32 c, .int .i64 (gFr fr), .int .i64 (gTil fr til)] (.struct _) rfl (World.rangeAt_setCells_same wd (w.heap.size + 1) 0 [.string (gSrc src), .slice va L.length vc, .int .i64 (gLv lv), .int .u32 c, .int .i64 (gFr fr), .int .i64 (gTil fr til)] HG7.out.rth) Try.underlying38 rfl (by kernel_rfl)) rfl ?_
          have hbb := below_puts (g := w.heap.size + 1) (o := 0) HG7.out.below (by omega) [.string (gSrc src), .slice va L.length vc, .int .i64 (gLv lv), .int .u32 c, .int .i64 (gFr fr), .int .i64 (gTil fr til)]
          have hF3 := rd_puts' (g := w.heap.size + 1) (o := 0) HG7.out.f (fun h0 q hq => (HG7.out.far h0 q hq).2.1) [.string (gSrc src), .slice va L.length vc, .int .i64 (gLv lv), .int .u32 c, .int .i64 (gFr fr), .int .i64 (gTil fr til)]
          exact ⟨_, by simp, hF3, HFT.out, HRT.out, fun h0 q hq => (HG7.out.far h0 q hq).2.2, hbb⟩
end Go.Proofs.Ytipnhpfpppblhaa

/- slices.Sort at []uint64, of at most twelve elements: what the library's text computes is the kit's own insertion sort. -/
namespace Go.Proofs.Ytipnhpfpppblhaa
open Go.RowKit Go.Sort
abbrev U (x : Int) : Value := .int .u64 x
theorem isNaN_u (x : Int) (w : World) : Calls Try.prog 108 #[U x] w fun e w' => e = .returned (.bool false) ∧ w' = w := by
  go_enter Try.func108, Try.ntmps108
  go_wp2
  go_ret
  exact ⟨by simp, rfl⟩
theorem less_u (x y : Int) (w : World) : Calls Try.prog 92 #[U x, U y] w fun e w' => e = .returned (.bool (ltInt x y)) ∧ w' = w := by
  go_enter Try.func92, Try.ntmps92
  go_wp2_with (go_at_call 108; refine (isNaN_u _ _).mono ?_; rintro e w' ⟨rfl, rfl⟩)
  go_ret
  exact ⟨rfl, rfl⟩
set_option maxHeartbeats 3200000 in
set_option maxRecDepth 100000 in
theorem ins_u (blk off cap a b : Nat) (d : Array Int) (w : World) (hH : Holds U w blk off d) (hab : a ≤ b) (hb : b ≤ d.size) (hsz : d.size < 4611686018427387904) :
    Calls Try.prog 86 #[.slice (some ⟨blk, off, none⟩) d.size cap, .int .i64 a, .int .i64 b] w fun e w' =>
      e = .returned (.tuple #[]) ∧ ∃ n, w' = putRow U (Sort.ahead w n) blk off (Sort.insertionSort ltInt d a b) := by
  go_enter Try.func86, Try.ntmps86
  go_wp2
  go_loopw [6] (fun vi wr => ∃ (i n : Nat) (dk : Array Int), vi = .int .i64 i ∧ a < i ∧ i ≤ b + 1 ∧ dk.size = d.size ∧ wr = putRow U (Sort.ahead w n) blk off dk ∧
      insOuter ltInt a b i dk = insOuter ltInt a b (a + 1) d) (fun vi _ => b + 1 - (intOf vi).toNat)
  case atStart => exact ⟨a + 1, 0, d, by go_num, by omega, by omega, rfl, (putRow_self _ _ _ _ _ hH).symm, rfl⟩
  case round =>
    obtain ⟨i, n, dk, rfl, hai, hib, hsk, hwr, hO⟩ := hrel
    have HO : Hid (insOuter ltInt a b i dk = insOuter ltInt a b (a + 1) d) := hO
    clear hO
    go_wp2
    · go_loopw [7] (fun vj wr2 => ∃ (j m : Nat) (dj : Array Int), vj = .int .i64 j ∧ a ≤ j ∧ j ≤ i ∧ dj.size = d.size ∧ wr2 = putRow U (Sort.ahead w m) blk off dj ∧
          insInner ltInt a j dj = insInner ltInt a i dk) (fun vj _ => (intOf vj).toNat)
      case atStart => exact ⟨i, n, dk, rfl, by omega, Nat.le_refl _, hsk, rfl, rfl⟩
      case round =>
        obtain ⟨j, m, dj, rfl, haj, hji, hsj, hw2, hI⟩ := hrel
        have hlt : i < b := by assumption
        obtain ⟨G, hG⟩ : ∃ G : Nat → Int, ∀ t, G t = dj[t]! := ⟨fun t => dj[t]!, fun _ => rfl⟩
        have hcw : ∀ t, t < d.size → wr.cell? ⟨blk, off + t, none⟩ = some (.int .u64 (G t)) := fun t ht => by
          rw [hw2, hG]; exact cell?_putRow _ _ _ _ d dj (holds_ahead _ _ _ _ _ _ hH) hsj t (by omega)
        have hfw : ∀ t, t < d.size → wr.frozen? ⟨blk, off + t, none⟩ = false := fun t ht => by
          rw [hw2, frozen?_putRow]; exact ((holds_ahead _ _ m _ _ _ hH) t ht).2
        have HW : Hid (wr = putRow U (Sort.ahead w m) blk off dj) := hw2
        have HG : Hid (∀ t, G t = dj[t]!) := hG
        have HI : Hid (insInner ltInt a j dj = insInner ltInt a i dk) := hI
        clear hw2 hG hI hH
        have out : (j ≤ a ∨ ltInt dj[j]! dj[j - 1]! = false) → ∀ q, ∃ i' n' dk', Value.int .i64 ((i : Int) + 1) = .int .i64 (i' : Nat) ∧ a < i' ∧ i' ≤ b + 1 ∧ dk'.size = d.size ∧
            wr.drewN q = putRow U (Sort.ahead w n') blk off dk' ∧ insOuter ltInt a b i' dk' = insOuter ltInt a b (a + 1) d := fun hs q =>
          ⟨i + 1, m + q, dj, by go_num, by omega, by omega, hsj, by rw [HW.out]; exact putRow_drewN _ _ _ _ _ _ _,
            by rw [← HO.out, insOuter_go _ _ _ _ _ hlt, ← HI.out, insInner_stop _ _ _ _ hs]⟩
        have OUT : Hid _ := out
        clear out
        go_wp2
        by_cases hja : a < j
        · go_quiet (first | (go_at_call 92; refine Calls.quiet_of_same (less_u _ _ _)))
          go_wp2
          · have hl : ltInt (G j) (G (j - 1)) = true := by assumption
            go_region
            all_goals go_wp2
            go_roundw
            case rel =>
              refine ⟨j - 1, m + (nq + 1), swp dj j (j - 1), by congr 1; omega, by omega, by omega, by rw [size_swp]; exact hsj, ?_, ?_⟩
              · rw [HW.out, HG.out, HG.out]
                exact swap_worldA _ w m (nq + 1) blk off dj j (j - 1) (by omega) (by omega)
              · rw [← HI.out, insInner_go ltInt a j dj hja (by rw [← HG.out, ← HG.out]; exact hl)]
            case measure => simp [intOf]; omega
          · have hl : ltInt (G j) (G (j - 1)) = false := by assumption
            go_roundw
            case rel => exact OUT.out (Or.inr (by rw [← HG.out, ← HG.out]; exact hl)) nq
            case measure => simp [intOf]; omega
        · go_quiet (first | (go_at_call 92; refine Calls.quiet_of_same (less_u _ _ _)))
          go_wp2
          go_roundw
          case rel => exact OUT.out (Or.inl (by omega)) nq
          case measure => simp [intOf]; omega
    · have hge : ¬ i < b := by assumption
      go_end0
      exact ⟨rfl, n, by unfold Sort.insertionSort; rw [← HO.out, insOuter_stop _ _ _ _ _ hge]⟩
set_option maxHeartbeats 1600000 in
set_option maxRecDepth 100000 in
theorem pdq_u (blk off cap : Nat) (lim : Int) (d : Array Int) (w : World) (hH : Holds U w blk off d) (h12 : d.size ≤ 12) :
    Calls Try.prog 77 #[.slice (some ⟨blk, off, none⟩) d.size cap, .int .i64 0, .int .i64 d.size, .int .i64 lim] w fun e w' =>
      e = .returned (.tuple #[]) ∧ ∃ n, w' = putRow U (Sort.ahead w n) blk off (Sort.insertionSort ltInt d 0 d.size) := by
  have hi := ins_u blk off cap 0 d.size d w hH (Nat.zero_le _) (Nat.le_refl _) (by omega)
  have h12' : ((d.size : Int) ≤ 12) := by omega
  go_enter Try.func77, Try.ntmps77
  go_wp2
  refine wp_loop_rounds 1 ?_
  rw [rounds_succ]
  go_wp2_with (go_at_call 86; refine hi.mono ?_; rintro e w' ⟨rfl, hw⟩)
  (try simp only [Exit.inBlock, Exit.then]); refine bodyPost_ret (results_none rfl _ _ _) rfl ?_
  exact ⟨rfl, hw⟩
set_option maxHeartbeats 1600000 in
set_option maxRecDepth 100000 in
theorem sort_u (blk off cap : Nat) (zs : List Int) (w : World) (hH : Holds U w blk off zs.toArray) (h12 : zs.length ≤ 12) :
    Calls Try.prog 60 #[.slice (some ⟨blk, off, none⟩) zs.length cap] w fun e w' =>
      e = .returned (.tuple #[]) ∧ ∃ n, w' = putRow U (Sort.ahead w n) blk off (zs.mergeSort fun x y => decide (x ≤ y)).toArray := by
  have e1 : Sort.insertionSort ltInt zs.toArray 0 zs.length = (zs.mergeSort fun x y => decide (x ≤ y)).toArray := by
    obtain ⟨hP, hS⟩ := insertionSort_holds (lt := ltInt) swo_ltInt zs.toArray 0 zs.toArray.size (Nat.zero_le _) (Nat.le_refl _)
    have h := sorted_unique_holds swo_ltInt (fun x y h1 h2 => by simp only [ltInt, decide_eq_false_iff_not] at h1 h2; omega) zs.toArray _ hP hS
    rw [show zs.length = zs.toArray.size by simp]
    apply Array.toList_inj.1
    rw [h]
    congr 1
    funext x y
    show (!decide (y < x)) = decide (x ≤ y)
    rw [Bool.eq_iff_iff]; simp
  have hp : ∀ lim, Calls Try.prog 77 #[.slice (some ⟨blk, off, none⟩) zs.length cap, .int .i64 0, .int .i64 zs.length, .int .i64 lim] w fun e w' =>
      e = .returned (.tuple #[]) ∧ ∃ n, w' = putRow U (Sort.ahead w n) blk off (zs.mergeSort fun x y => decide (x ≤ y)).toArray := by
    intro lim
    have h := pdq_u blk off cap lim zs.toArray w hH (by simpa using h12)
    simp only [List.size_toArray] at h
    rw [e1] at h
    exact h
  clear e1
  go_enter Try.func60, Try.ntmps60
  go_wp2_with (first | (go_at_call 78; refine (Try.bits_Len (zs.length : Int) _ (by omega) (by omega)).mono ?_; rintro e w' ⟨rfl, rfl⟩) | (go_at_call 77; refine (hp _).mono ?_; rintro e w' ⟨rfl, hw⟩))
  go_end0
  exact ⟨rfl, hw⟩
end Go.Proofs.Ytipnhpfpppblhaa

/- maps.Keys, slices.AppendSeq, Collect, Sort, Sorted over the keys of a map[uint64]bool: contracts. Parts turned from the library's walks of the same idiom at another kind of key. -/
namespace Go.Proofs.Ytipnhpfpppblhaa
open Go.RowKit Go.Maps Go.Sort Go.Shelf
attribute [local go_sem] Oper.semAt_some
/-! plain -/
def uOf : Lit → Int
  | .int _ a => a
  | _ => 0
def uKeys {H : Type} : DataW H → List Int
  | .map es => es.map fun p => uOf p.1
  | _ => []
theorem U_inj {x y : Int} (h : U x = U y) : x = y := by simpa using h
theorem keyOf_u64 {P : Program} {k : TypeId} (hk : P.underlying k = some (.int .u64)) {key : Value} {kl : Lit} (h : keyOf P k key = some kl) : ∃ x : Int, key = U x ∧ kl = .int .u64 x ∧ (Lit.int .u64 x).wf = true := by
  cases key <;> simp [keyOf, hk, mapKey] at h
  rename_i q a
  obtain ⟨⟨rfl, hw⟩, rfl⟩ := h
  exact ⟨a, rfl, rfl, hw⟩
theorem perm_uKeys {H : Type} {es : List (Lit × DataW H)} (hp : es.Pairwise (fun p q => p.1 ≠ q.1)) (hk : ∀ p ∈ es, ∃ x, p.1 = .int .u64 x) {ss : List Int} (hnd : ss.Nodup) (hm : ∀ x, x ∈ ss ↔ has (.map es) (.int .u64 x) = true) :
    ss.Perm (uKeys (.map es)) := by
  refine (List.perm_ext_iff_of_nodup hnd ?_).2 fun x => ?_
  · show (es.map fun p => uOf p.1).Nodup
    refine List.pairwise_map.2 (hp.imp_of_mem fun {p q} hp' hq' hne e => hne ?_)
    obtain ⟨a, ha⟩ := hk p hp'
    obtain ⟨b, hb⟩ := hk q hq'
    rw [ha, hb] at e ⊢
    exact congrArg _ e
  · rw [hm x, has_eq, List.any_eq_true]
    show _ ↔ x ∈ es.map fun p => uOf p.1
    rw [List.mem_map]
    constructor
    · rintro ⟨p, hp', hs⟩
      obtain ⟨a, ha⟩ := hk p hp'
      rw [ha] at hs
      exact ⟨p, hp', by rw [ha]; simpa [Lit.sameKey, uOf] using hs⟩
    · rintro ⟨p, hp', rfl⟩
      obtain ⟨a, ha⟩ := hk p hp'
      exact ⟨p, hp', by rw [ha]; simp [Lit.sameKey, uOf]⟩
def CollU {H : Type} (D0 : DataW H) (left : Lit → Bool) (ss : List Int) : Prop := ss.Nodup ∧ ∀ x, x ∈ ss ↔ (has D0 (.int .u64 x) = true ∧ left (.int .u64 x) = false)
section
variable {H : Type} {D0 : DataW H} {left : Lit → Bool} {ss : List Int}
theorem CollU.start (D0 : DataW H) : CollU D0 (has D0) [] := ⟨List.nodup_nil, fun x => by cases has D0 (.int .u64 x) <;> simp⟩
theorem CollU.step (h : CollU D0 left ss) {x : Int} {y : DataW H} (hlk : left (.int .u64 x) = true) (hat : ∀ zd, D0.atKey (.int .u64 x) zd = y) : CollU D0 (fun z => left z && !z.sameKey (.int .u64 x)) (ss ++ [x]) := by
  have hhas : has D0 (.int .u64 x) = true := has_true_of_atKey hat
  have hnew : x ∉ ss := fun hx => by have := ((h.2 x).1 hx).2; rw [hlk] at this; cases this
  refine ⟨List.nodup_append.2 ⟨h.1, by simp, fun a ha b hb => by simp at hb; subst hb; exact fun e => hnew (e ▸ ha)⟩, fun y => ?_⟩
  by_cases hy : y = x
  · subst hy; simp [hhas, Lit.sameKey]
  · simp [h.2 y, hy, Lit.sameKey]
variable {P : Program} {k : TypeId} {R : Value → Option (DataW H × List MemPlace)} {w : World} {b n : Nat}
theorem CollU.perm (h : CollU D0 left ss) (hown : w.ownsMap P k R b n D0) (K : Keyed P k) (hk : P.underlying k = some (.int .u64)) (hl : ∀ kl, left kl = false) : ss.Perm (uKeys D0) := by
  obtain ⟨es, hD, hpw, _⟩ := hown.entries K
  obtain ⟨es', hD', hko⟩ := hown.keysOf
  obtain rfl : es = es' := by rw [hD] at hD'; simpa using hD'
  subst hD
  exact perm_uKeys hpw (fun p hp => by obtain ⟨v, hv⟩ := hko p hp; obtain ⟨x, _, hx, _⟩ := keyOf_u64 hk hv; exact ⟨x, hx⟩) h.1 (fun x => by rw [h.2 x, hl]; simp)
end
/-! maps.Keys -/
theorem mkeys_any (mb : Option Nat) (w : World) :
    Calls Try.prog 33 #[.map mb] w fun e w' => e = .returned (.func (.func 61) #[] #[.pointer (some ⟨w.heap.size, 0, none⟩)]) ∧ w' = w.alloc (.cells #[.map mb] 75) := by
  go_enter Try.func33, Try.ntmps33
  go_wp2
  go_ret
  exact ⟨rfl, rfl⟩
set_option maxRecDepth 100000 in
set_option maxHeartbeats 1000000 in
theorem mkeys_gives {H : Type} (n : Nat) (hn : 1 ≤ n) (Bm b nn : Nat) (D0 : DataW H) {R : Value → Option (DataW H × List MemPlace)} (w : World) (hBm : Bm < w.heap.size) (hm : w.cell? ⟨Bm, 0, none⟩ = some (.map (some b))) (hown0 : w.ownsMap Try.prog 66 R b nn D0) :
    SeqStopsK Fence.wide n Try.prog 61 #[.pointer (some ⟨Bm, 0, none⟩)] (fun x : Int => #[U x]) KeepsWalks (fun ss => ss.Perm (uKeys D0)) (fun _ => True) (Maps.size D0) w := by
  intro l J Jx W hW hJ hJx hY h0
  have hm' := (hW.cell (p := ⟨Bm, 0, none⟩) hBm).trans hm
  have hown : W.ownsMap Try.prog 66 R b nn D0 := by
    have hbl := hown0.lt
    obtain ⟨es, clock, hb, Ft, hs, hD⟩ := hown0
    exact ⟨es, clock, (hW.block b hbl).trans hb, Ft, hs, hD⟩
  clear hm hown0 hW
  show CallsIn Fence.wide n Try.prog 61 #[.func (.yield l) #[] #[], .pointer (some ⟨Bm, 0, none⟩)] W _
  refine callsIn_of_wp Try.func61 rfl trivial ?_ rfl
  simp only [Try.ntmps61, List.size_toArray, List.length_cons, List.length_nil, Nat.reduceAdd, Nat.reduceSub, Array.replicate_succ, Array.replicate_zero, List.push_toArray, List.append_toArray, List.nil_append, List.cons_append]
  gi_wp2_with (first
    | (gi_at_range; refine wpListIn_range_own _ rfl _ 75 rfl 66 4 (int_keyed Try.underlying66) Try.underlying75 _ b nn _ rfl hown ?_; intro w0 hrg0 hg0 hs0)
    | gi_in)
  try go_frame
  gi_loopw [3] (fun _ wr => ∃ (left : Lit → Bool) (cnt : Nat) (ss : List Int), wr.ranges Try.prog 66 R b W.heap.size nn D0 left cnt ∧ ss.length + cnt ≤ Maps.size D0 ∧ CollU D0 left ss ∧ J ss wr)
    (fun _ wr => wr.rangeLeft b W.heap.size)
  case atStart =>
    exact ⟨_, _, [], hrg0, by simp, CollU.start D0, hJ [] W w0 none h0 hg0 (fun r e => by cases e)⟩
  case round =>
    obtain ⟨left, cnt, ss, hrg, hcs, hC, hJs⟩ := hrel
    gi_wp2_with (first
      | (gi_at_next; refine wpListIn_next_ranges _ rfl _ rfl 66 (int_keyed Try.underlying66) R U id (fun key kl hk => by obtain ⟨x, hx, _⟩ := keyOf_u64 Try.underlying66 hk; exact ⟨x, hx⟩) (fun v _ _ => ⟨v, rfl⟩) b W.heap.size nn _ _ _ rfl hrg ?_ ?_)
      | gi_in)
    · intro hc0 hl0
      gi_wp2
      go_end0
      exact ⟨⟨_, rfl⟩, .inl ⟨ss, hC.perm hown (int_keyed Try.underlying66) Try.underlying66 hl0, hJs⟩⟩
    · intro x c kl yd yp w2 cnt2 hkey hlk hv hat hrg2 hlt hg2 hs2 hen
      obtain ⟨x', ex, rfl, _⟩ := keyOf_u64 Try.underlying66 hkey
      obtain rfl : x = x' := U_inj ex
      have hJ2 : J ss w2 := hJ ss wr w2 (some W.heap.size) hJs hg2 (fun r e => by cases e; exact ⟨Nat.le_refl _, hrg.iter_walk⟩)
      obtain ⟨fn, tmps, assign, body, hy, hR⟩ := hY ss x w2 hJ2 (by omega)
      clear hs2
      gi_wp2
      refine hR.mono ?_
      rintro e W3 (⟨rfl, hJ3, hk3⟩ | ⟨rfl, hJx3⟩)
      · gi_wp2
        have hrg3 := hrg2.of_walks hk3
        go_roundw
        case rel => exact ⟨_, cnt2, ss ++ [x], hrg3, by simp; omega, hC.step hlk hat, hJ3⟩
        case measure => rw [hrg3.left_eq, hrg.left_eq]; exact hlt
      · gi_wp2
        (try simp only [Exit.inBlock, Exit.then]); refine bodyPost_ret (results_none rfl _ _ _) rfl ?_
        exact ⟨⟨_, rfl⟩, .inr ⟨_, trivial, hJx3⟩⟩
/-! slices.AppendSeq -/
theorem info_u64 : (Try.prog.info? 66).map (fun i => (i.zero, i.size, i.bytes)) = some (some (.int .u64 0), 1, 8) := by kernel_rfl
def SeqI (w : World) (ss : List Int) (W : World) : Prop := ∃ v, W.heap[w.heap.size]? = some (.cells #[v] 42 (0, 0)) ∧ W.ownsRow (w.heap.size + 1) 66 1 v ss.length (ss.map U) ∧ (v = .slice none 0 0 ↔ ss = []) ∧ Below w.heap.size w W
theorem SeqI.own (w : World) : OwnFrom (w.heap.size + 1) (SeqI w) := by
  rintro ss W W' row ⟨v, h1, h2, h3, h4⟩ hg hr
  have hne : some w.heap.size ≠ row := fun e => by obtain ⟨hB, _⟩ := hr _ e.symm; omega
  have hlt : w.heap.size < W.heap.size := (Array.getElem?_eq_some_iff.1 h1).1
  refine ⟨v, (hg.block _ hlt hne).trans h1, h2.kept hg ?_, h3, h4.grown hg h4.size (fun k e => by have := (hr k e).1; omega)⟩
  cases row with
  | none => exact Decidable.em _ |>.elim (fun h => .inl h) (fun h => .inr h)
  | some r =>
    obtain ⟨_, o, ho, hc⟩ := hr r rfl
    rcases h2.2 with ⟨rfl, _⟩ | ⟨g, cap, cur, rfl, _, hgb, _⟩
    · exact .inl rfl
    · refine .inr fun e => ?_
      have hgr : g = r := by simpa [Value.ownBlock] using e
      subst hgr
      rw [hgb] at ho
      cases ho
      cases hc
set_option maxRecDepth 100000 in
set_option maxHeartbeats 2000000 in
theorem appseq_in (n : Nat) (hn : 2 ≤ n) (g : Nat) (lb : Array Value) (eg : ∀ args w, (callFunc g args).run Try.prog w = .ok (.enter g args) w) (S Sp : List Int → Prop) (N : Nat) (hN : N ≤ 1000000) (w : World)
    (hseq : SeqStopsK Fence.wide (n - 1) Try.prog g lb (fun x : Int => #[U x]) KeepsWalks S Sp N w) :
    CallsIn Fence.wide n Try.prog 76 #[.slice none 0 0, .func (.func g) #[] lb] w fun e w' => ∃ (v : Value) (ss : List Int), e = .returned v ∧ S ss ∧ w'.ownsRow w.heap.size 66 1 v ss.length (ss.map U) ∧ (v = .slice none 0 0 ↔ ss = []) ∧ Below w.heap.size w w' := by
  obtain ⟨i0, hi, hz0, hz1, hz2⟩ := info_parts info_u64
  refine callsIn_of_wp_marks Try.func76 rfl trivial ?_ rfl
  simp only [Try.ntmps76, List.size_toArray, List.length_cons, List.length_nil, Nat.reduceAdd, Nat.reduceSub, Array.replicate_succ, Array.replicate_zero, List.push_toArray, List.append_toArray, List.nil_append, List.cons_append]
  gi_wp2
  obtain ⟨W0, hW0⟩ : ∃ W0, w.alloc (.cells #[.slice none 0 0] 42) = W0 := ⟨_, rfl⟩
  have hs0 : W0.heap.size = w.heap.size + 1 := by rw [← hW0]; simp
  have hv0 : W0.heap[w.heap.size]? = some (.cells #[.slice none 0 0] 42 (0, 0)) := by rw [← hW0]; exact World.alloc_heap_new w _
  have hb0 : Below w.heap.size w W0 := by rw [← hW0]; exact (Below.refl _ w).alloc (Nat.le_refl _) _
  rw [hW0]
  refine wpIn_rangeFunc_ownF (F := Fence.wide) rfl (by omega) (gf := g) (lb := lb) rfl trivial eg hseq walksK_t walksK_b hb0 (fun x => rfl) (SeqI w) (fun _ _ _ => False) (by rw [hs0]; exact SeqI.own w) (fun _ _ _ _ _ h => h.elim)
    ⟨_, hv0, World.ownsRow_nil _ _ _ _, by simp, hb0⟩
    (fun x => { tmps := #[.slice none 0 0, .func (.func g) #[] lb, .pointer (some ⟨w.heap.size, 0, none⟩), undef, .slice none 0 0, U x, .func (.func g) #[] lb, U x, undef, undef, undef, undef, undef], defers := [] }) ?assign ?body ?done ?stop
  case assign =>
    intro l x W K hK
    gi_wp2
    exact hK
  case body =>
    rintro l pre x W ⟨v, h1, h2, h3, h4⟩ hpl
    obtain ⟨c0, f0⟩ := cell_of_box_a h1
    have hlt : w.heap.size < W.heap.size := (Array.getElem?_eq_some_iff.1 h1).1
    have hne : some w.heap.size ≠ v.ownBlock := fun e => by have := (h2.lt _ e.symm).1; omega
    gi_wp2_with (first
      | (gi_at_builtin; refine wpListIn_append_own _ rfl _ _ 42 rfl (w.heap.size + 1) 66 i0 (.int .u64 0) 1 8 Try.underlying42 hi hz0 hz1 hz2 rfl (by decide) _ _ _ rfl (h2.alloc _) ⟨W.heap.size, 0, none⟩ 1 1 [U x] rfl rfl (cell_one_new _ _ _) (by simp [Value.oneCell']) (by unfold maxLen; omega) (by omega) (by simp; omega) ?_; intro v' w3 hown' hg3 hnil3
         have hv3 : w3.heap[w.heap.size]? = some (.cells #[v] 42 (0, 0)) := (hg3.block w.heap.size (by simp; omega) hne).trans ((Below.heap_alloc _ _ _ hlt).trans h1)
         obtain ⟨hc3, hf3⟩ := cell_of_box_a hv3
         obtain ⟨g', cap', cur', rfl, hbase', hgb', hr1, hr2, hr3, hr4⟩ : ∃ g' cap' cur', v' = .slice (some ⟨g', 0, none⟩) (pre.length + 1) cap' ∧ w.heap.size + 1 ≤ g' ∧ w3.heap[g']? = some (.cells cur' 66 (0, 0)) ∧ pre.length + 1 ≤ cap' ∧ cap' ≤ maxLen ∧ cur'.size = cap' * 1 ∧ cur'.toList.take ((pre.length + 1) * 1) = pre.map U ++ [U x] := by
           rcases hown'.2 with ⟨_, h0⟩ | h'
           · exact absurd h0 (by omega)
           · exact h')
      | gi_in)
    have hg3' : (W.alloc (.cells #[U x] 66)).grownBy w3 v.ownBlock := hg3
    have hk1 : KeepsWalks W w3 := (KeepsWalks.alloc _ _).trans (KeepsWalks.of_grownBy hg3' (ownsRow_not_walk_a (h2.alloc _)))
    have hb3 : Below w.heap.size w w3 := (h4.alloc h4.size _).grown hg3' (by simp; omega) (fun k e => by have := (h2.lt k e).1; omega)
    have ho3 : KeepsOthers W w3 := (KeepsOthers.alloc W (.cells #[U x] 66)).trans (KeepsOthers.of_grownBy hg3' fun j o ej hj => by
      rcases (h2.alloc (.cells #[U x] 66)).2 with ⟨rfl, _⟩ | ⟨g, cap, cur, rfl, _, hgb, _⟩
      · simp [Value.ownBlock] at ej
      · obtain rfl : g = j := by simpa [Value.ownBlock] using ej
        rw [hgb] at hj; cases hj; rfl)
    refine ⟨ho3.trans (KeepsOthers.setCell _ _ _), hk1.trans (KeepsWalks.setCell _ _ _), _, heap_setCell_box_a _ hv3, ?_, by simp, hb3.setCell (p := ⟨w.heap.size, 0, none⟩) (Nat.le_refl _) _⟩
    have hrow := hown'.kept (grownBy_setCell0_a w3 w.heap.size (.slice (some ⟨g', 0, none⟩) (pre.length + 1) cap')) (.inr (by simp [Value.ownBlock]; omega))
    simpa using hrow
  case done =>
    rintro D xs W hD hS ⟨v, h1, h2, h3, h4⟩ hK
    obtain ⟨c0, f0⟩ := cell_of_box_a h1
    gi_wp2
    refine ⟨by simp, .inl ⟨_, _, rfl, run_takeDeferred hK, ?_⟩⟩
    refine ⟨_, results_tmp rfl _ _ _, v, xs, rfl, hS, ?_, h3, ?_⟩
    · exact own_base (h2.kept (grownBy_putObj_a W D _) (ownsRow_ne_a h2 hK (fun cur e => by cases e))) (Nat.le_succ _)
    · exact h4.grown (grownBy_putObj_a W D _) h4.size (fun k e => by cases e; omega)
  case stop => rintro D c pre W _ _ h; exact h.elim
set_option maxHeartbeats 1000000 in
theorem collect_in (n : Nat) (hn : 3 ≤ n) (g : Nat) (lb : Array Value) (eg : ∀ args w, (callFunc g args).run Try.prog w = .ok (.enter g args) w) (S Sp : List Int → Prop) (N : Nat) (hN : N ≤ 1000000) (w : World)
    (hseq : SeqStopsK Fence.wide (n - 1 - 1) Try.prog g lb (fun x : Int => #[U x]) KeepsWalks S Sp N w) :
    CallsIn Fence.wide n Try.prog 59 #[.func (.func g) #[] lb] w fun e w' => ∃ (v : Value) (ss : List Int), e = .returned v ∧ S ss ∧ w'.ownsRow w.heap.size 66 1 v ss.length (ss.map U) ∧ (v = .slice none 0 0 ↔ ss = []) ∧ Below w.heap.size w w' := by
  refine callsIn_of_wp Try.func59 rfl trivial ?_ rfl
  simp only [Try.ntmps59, List.size_toArray, List.length_cons, List.length_nil, Nat.reduceAdd, Nat.reduceSub, Array.replicate_succ, Array.replicate_zero, List.push_toArray, List.append_toArray, List.nil_append, List.cons_append]
  gi_wp2_with fail
  refine ⟨trivial, fun _ => by omega, ?_⟩
  refine (appseq_in (n - 1) (by omega) g lb eg S Sp N hN _ hseq).mono ?_
  rintro e w' ⟨v, ss, rfl, hS, hrow, hnil, hb⟩
  gi_wp2
  go_ret
  exact ⟨v, ss, rfl, hS, hrow, hnil, hb⟩
theorem heap_sorted_u {w : World} {g n : Nat} {cur : Array Value} {e : TypeId} {fr : Nat × Nat} (d : Array Int) (hb : w.heap[g]? = some (.cells cur e fr)) :
    (putRow U (Sort.ahead w n) g 0 d).heap[g]? = some (.cells (putCells U 0 d cur) e fr) := by
  have hg : g < w.heap.size := (Array.getElem?_eq_some_iff.1 hb).1
  simp [putRow, mapBlock, Sort.ahead, Array.getElem?_modify, hb, onCells]
theorem grownBy_sorted_u {w : World} {g n : Nat} (d : Array Int) : w.grownBy (putRow U (Sort.ahead w n) g 0 d) (some g) := by
  refine ⟨rfl, rfl, rfl, by simp, fun k hk hne => ?_⟩
  have : g ≠ k := fun e => hne (by rw [e])
  simp [putRow, mapBlock, Sort.ahead, Array.getElem?_modify, this]
theorem take_putCells_u (cur : Array Value) (ts : List Int) (h : ts.length ≤ cur.size) : (putCells U 0 ts.toArray cur).toList.take ts.length = ts.map U := by
  apply List.ext_getElem?
  intro j
  by_cases hj : j < ts.length
  · rw [List.getElem?_take_of_lt hj, Array.getElem?_toList]
    simp [putCells, hj, show j < cur.size by omega]
  · rw [List.getElem?_take_eq_none (by omega), List.getElem?_eq_none (by simp; omega)]
set_option maxRecDepth 100000 in
set_option maxHeartbeats 2000000 in
theorem sorted_any {H : Type} (Bm b nn : Nat) (D0 : DataW H) {R : Value → Option (DataW H × List MemPlace)} (w : World) (hBm : Bm < w.heap.size) (hm : w.cell? ⟨Bm, 0, none⟩ = some (.map (some b))) (hown : w.ownsMap Try.prog 66 R b nn D0) (h12 : Maps.size D0 ≤ 12) (h0 : 0 < Maps.size D0) :
    Calls Try.prog 32 #[.func (.func 61) #[] #[.pointer (some ⟨Bm, 0, none⟩)]] w fun e w' => ∃ (v : Value) (ss : List Int), e = .returned v ∧ ss.Perm (uKeys D0) ∧
      w'.ownsRow w.heap.size 66 1 v ss.length ((ss.mergeSort (fun x y => decide (x ≤ y))).map U) ∧ Below w.heap.size w w' := by
  have hc := (callsIn_wide (n := 6)).1 (collect_in 6 (by omega) 61 #[.pointer (some ⟨Bm, 0, none⟩)] (enters_of Try.func61 (by kernel_rfl) rfl) _ _ (Maps.size D0) (by omega) w (mkeys_gives 4 (by omega) Bm b nn D0 w hBm hm hown))
  have hlen : ∀ ss : List Int, ss.Perm (uKeys D0) → 0 < ss.length ∧ ss.length ≤ 12 := fun ss hp => by
    rw [hp.length_eq]
    obtain ⟨es, hD, _⟩ := hown.entries (int_keyed Try.underlying66)
    subst hD
    exact ⟨by simpa [uKeys, Maps.size] using h0, by simpa [uKeys, Maps.size] using h12⟩
  clear hown h12 h0
  go_enter Try.func32, Try.ntmps32
  go_wp2_with fail
  refine hc.mono ?_
  rintro e w1 ⟨v, ss, rfl, hS, hrow, hnil, hb⟩
  obtain ⟨hl0, hl⟩ := hlen ss hS
  rcases hrow.2 with ⟨rfl, hz⟩ | ⟨gb, cap, cur, rfl, hbase, hgb, r1, r2, r3, r4⟩
  · omega
  · have hH : Holds U w1 gb 0 ss.toArray := by
      intro j hj
      have hj' : j < ss.length := by simpa using hj
      refine ⟨?_, by simp [World.frozen?, hgb]⟩
      have h1 : (cur.toList.take (ss.length * 1))[j]? = (ss.map U)[j]? := by rw [r4]
      rw [List.getElem?_take_of_lt (by omega)] at h1
      simp only [World.cell?, hgb, Nat.zero_add]
      simp only [Option.isSome_none, Bool.false_eq_true, if_false]
      rw [← Array.getElem?_toList, h1]
      simp [hj']
    have hs := sort_u gb 0 cap ss w1 hH hl
    have HR := Go.Lib.hid hrow
    have HC := Go.Lib.hid hgb
    clear hrow hgb hH
    go_wp2_with fail
    refine hs.mono ?_
    rintro e w2 ⟨rfl, nn2, hw2⟩
    have HW := Go.Lib.hid hw2
    clear hw2
    go_wp2
    go_ret
    refine ⟨_, ss, rfl, hS, ?_, ?_⟩
    · rw [HW.out]
      exact ⟨by simp, .inr ⟨gb, cap, _, rfl, hbase, heap_sorted_u _ HC.out, r1, r2, by simp [putCells, r3], by
        have h := take_putCells_u cur (ss.mergeSort fun x y => decide (x ≤ y)) (by simp; omega)
        rw [List.length_mergeSort] at h
        rw [Nat.mul_one]; exact h⟩⟩
    · rw [HW.out]
      exact hb.grown (grownBy_sorted_u _) hb.size (fun j hj => by cases hj; exact hbase)
end Go.Proofs.Ytipnhpfpppblhaa

/- alert.Apart's maps: keys, what lies in them; the closure that puts. -/
namespace Go.Proofs.Ytipnhpfpppblhaa
open Go.RowKit Go.Maps
/-! the key's law -/
theorem laidOutT : laidOutB Try.prog = true := by kernel_rfl
theorem rowT : (34 : TypeId) < Try.prog.types.size := of_decide_eq_true (by kernel_rfl)
theorem wideT : (match Try.prog.underlying 34 with | some (.array _ _) | some (.struct _) => true | _ => false) = true := by rw [Try.underlying34]
theorem deepT : Try.prog.keyTypeAt 2 34 = true := by kernel_rfl
set_option maxRecDepth 100000 in
theorem lawL : Keyed Try.prog 34 := Keyed.of_law (deep_law_laid laidOutT (m := 2) (by omega) rowT deepT wideT)
set_option maxRecDepth 100000 in
theorem typesT : ∃ n, Try.prog.types.size = n + 1 := ⟨Try.prog.types.size - 1, (Nat.succ_pred_eq_of_pos (Nat.lt_of_le_of_lt (Nat.zero_le _) rowT)).symm⟩
def wfL (x : Int × Nat) : Prop := (Lit.int .i64 x.1).wf = true ∧ (Lit.int .u32 x.2).wf = true
def kL (x : Int × Nat) : Lit := .string (keyBytes [.int .i64 x.1, .int .u32 x.2])
theorem kL_key (x : Int × Nat) : WideAt.IsKeyLit (kL x) := by unfold kL; trivial
theorem keyOf_lab {x : Int × Nat} (h : wfL x) : keyOf Try.prog 34 (LabP x) = some (kL x) := by
  obtain ⟨l, c⟩ := x
  obtain ⟨h1, h2⟩ := h
  dsimp only at h1 h2
  have hk : Try.prog.keyType 34 = true := by kernel_rfl
  have hc : Try.prog.cellsOf 34 = 2 := by kernel_rfl
  have hci : Try.prog.cellsOf 3 = 1 := by kernel_rfl
  have hcu : Try.prog.cellsOf 32 = 1 := by kernel_rfl
  obtain ⟨n, hn⟩ := typesT
  unfold keyOf
  rw [Try.underlying34]
  simp only [hk, Value.formed, Try.underlying34, hc, Value.cells, hn]
  simp [Program.keyLits, Try.underlying34, hc, hci, hcu, h1, h2, kL]
theorem keyOf_u {x : Int} (h : (Lit.int .u64 x).wf = true) : keyOf Try.prog 66 (U x) = some (.int .u64 x) := keyOf_int_mk Try.underlying66 h
theorem kL_inj {x y : Int × Nat} (hx : wfL x) (hy : wfL y) (h : kL x = kL y) : x = y := by
  have := lawL.inj (keyOf_lab hx) (h ▸ keyOf_lab hy)
  obtain ⟨l, c⟩ := x
  obtain ⟨l', c'⟩ := y
  simp only [LabP, Lab, Value.agg.injEq, Array.mk.injEq, List.cons.injEq, Value.int.injEq, true_and, and_true] at this
  obtain ⟨rfl, h2⟩ := this
  have : c = c' := by exact_mod_cast h2
  subst this; rfl
def R2 : Value → Option (DataW Unit × List MemPlace)
  | .map none => some (.nil, [])
  | .map (some b) => some (.lit (.int .i64 b), [])
  | _ => none
theorem R2_inv {v : Value} {y : DataW Unit × List MemPlace} (h : R2 v = some y) : ∃ mb, v = .map mb := by
  unfold R2 at h
  split at h
  · exact ⟨_, rfl⟩
  · exact ⟨_, rfl⟩
  · cases h
theorem R2_nil {v : Value} {ps : List MemPlace} (h : R2 v = some (.nil, ps)) : v = .map none := by
  unfold R2 at h
  split at h
  · rfl
  · simp at h
  · cases h
theorem R2_some {v : Value} {b : Nat} {ps : List MemPlace} (h : R2 v = some (.lit (.int .i64 b), ps)) : v = .map (some b) := by
  unfold R2 at h
  split at h
  · simp at h
  · rename_i b'
    simp only [Option.some.injEq, Prod.mk.injEq, DataW.lit.injEq, Lit.int.injEq, true_and] at h
    have : b' = b := by have := h.1; exact_mod_cast this
    rw [this]
  · cases h
structure Ent where
  x : Int × Nat
  b : Nat
  ids : List Int
abbrev yes : DataW Unit := .lit (.bool true)
def idsD (ids : List Int) : DataW Unit := setOf yes (ids.map (Lit.int .u64))
def DT : List Ent → DataW Unit
  | [] => .map []
  | e :: T => (DT T).put (kL e.x) (.lit (.int .i64 e.b))
def labs (T : List Ent) : List (Int × Nat) := T.map (·.x)
theorem DT_tidy : ∀ T : List Ent, Tidy (DT T)
  | [] => tidy_empty
  | _ :: T => (DT_tidy T).put (kL_key _) _
theorem DT_has {T : List Ent} (h : ∀ e ∈ T, wfL e.x) {x : Int × Nat} (hx : wfL x) : has (DT T) (kL x) = decide (x ∈ labs T) := by
  induction T with
  | nil => rfl
  | cons e T ih =>
    have ih := ih (fun f hf => h f (List.mem_cons_of_mem _ hf))
    have he := h e List.mem_cons_self
    by_cases hex : x = e.x
    · subst hex
      rw [DT, has_put_same (DT_tidy T).isMap (kL_key _)]
      simp [labs]
    · rw [DT, has_put_other (fun h' => hex (kL_inj hx he h')), ih]
      simp [labs, hex]
theorem DT_at {T : List Ent} (h : ∀ e ∈ T, wfL e.x) (hn : T.Pairwise (fun e f => e.x ≠ f.x)) {e : Ent} (he : e ∈ T) (z : DataW Unit) : (DT T).atKey (kL e.x) z = .lit (.int .i64 e.b) := by
  induction T with
  | nil => cases he
  | cons f T ih =>
    have ih := ih (fun g hg => h g (List.mem_cons_of_mem _ hg)) (List.pairwise_cons.1 hn).2
    rcases List.mem_cons.1 he with rfl | he'
    · rw [DT, atKey_put_same (DT_tidy T).isMap (kL_key _)]
    · have hne := (List.pairwise_cons.1 hn).1 e he'
      rw [DT, atKey_put_other (fun h' => hne (kL_inj (h f List.mem_cons_self) (h e he) h'.symm)), ih he']
theorem DT_size {T : List Ent} (h : ∀ e ∈ T, wfL e.x) (hn : T.Pairwise (fun e f => e.x ≠ f.x)) : Maps.size (DT T) = T.length := by
  induction T with
  | nil => rfl
  | cons f T ih =>
    have ih := ih (fun g hg => h g (List.mem_cons_of_mem _ hg)) (List.pairwise_cons.1 hn).2
    have hnot : has (DT T) (kL f.x) = false := by
      rw [DT_has (fun g hg => h g (List.mem_cons_of_mem _ hg)) (h f List.mem_cons_self), decide_eq_false]
      intro hm
      obtain ⟨g, hg, hgx⟩ := List.mem_map.1 hm
      exact (List.pairwise_cons.1 hn).1 g hg hgx.symm
    rw [DT, size_put (DT_tidy T), hnot, ih]
    rfl
theorem idsD_key (ids : List Int) : ∀ x ∈ ids.map (Lit.int IntKind.u64), WideAt.IsKeyLit x := by
  intro x hx
  obtain ⟨i, _, rfl⟩ := List.mem_map.1 hx
  trivial
theorem idsD_has (ids : List Int) (i : Int) : has (idsD ids) (.int .u64 i) = decide (i ∈ ids) := by
  unfold idsD
  rw [has_setOf _ _ _ (idsD_key ids), Bool.eq_iff_iff, List.any_eq_true, decide_eq_true_eq]
  constructor
  · rintro ⟨l, hl, hs⟩
    obtain ⟨j, hj, rfl⟩ := List.mem_map.1 hl
    simp [Lit.sameKey] at hs
    subst hs; exact hj
  · intro h
    exact ⟨_, List.mem_map.2 ⟨i, h, rfl⟩, by simp [Lit.sameKey]⟩
structure ApM (w : World) (base m : Nat) (T : List Ent) : Prop where
  outer : w.ownsMap Try.prog 34 R2 m T.length (DT T)
  inner : ∀ e ∈ T, w.ownsMap Try.prog 66 (plainElem Try.prog 4) e.b e.ids.length (idsD e.ids)
  far : ∀ e ∈ T, base ≤ e.b ∧ e.b ≠ m
  apart : T.Pairwise (fun e f => e.b ≠ f.b)
  once : T.Pairwise (fun e f => e.x ≠ f.x)
  wf : ∀ e ∈ T, wfL e.x ∧ ∀ i ∈ e.ids, (Lit.int .u64 i).wf = true
  low : base ≤ m
theorem ApM.grown {w w' : World} {base m : Nat} {T : List Ent} {row : Option Nat} (h : ApM w base m T) (hg : w.grownBy w' row) (hm : some m ≠ row) (hi : ∀ e ∈ T, some e.b ≠ row) : ApM w' base m T :=
  ⟨h.outer.kept hg hm, fun e he => (h.inner e he).kept hg (hi e he), h.far, h.apart, h.once, h.wf, h.low⟩
theorem ApM.later {w w' : World} {base m : Nat} {T : List Ent} (h : ApM w base m T) (hb : Below w.heap.size w w') : ApM w' base m T := h.grown (below_grown hb none) (by simp) (fun _ _ => by simp)
theorem ApM.new (w : World) : ApM (w.alloc (.map #[] 0)) w.heap.size w.heap.size [] :=
  ⟨World.ownsMap_made w _ _ _, fun _ h => (by cases h), fun _ h => (by cases h), List.Pairwise.nil, List.Pairwise.nil, fun _ h => (by cases h), Nat.le_refl _⟩
def Lies (T : List Ent) (x : Int × Nat) (i : Int) : Prop := ∃ e ∈ T, e.x = x ∧ i ∈ e.ids
end Go.Proofs.Ytipnhpfpppblhaa

/- alert.Apart's closure: puts an id at a label. -/
namespace Go.Proofs.Ytipnhpfpppblhaa
open Go.RowKit Go.Maps
theorem wellB : plainElem (H := Unit) Try.prog 4 (.bool true) = some (yes, []) := plainElem_bool Try.underlying4 true
theorem lookup_some {w : World} {base m : Nat} {T : List Ent} (h : ApM w base m T) {e : Ent} (he : e ∈ T) :
    (Instr.lookup 74 (.map (some m)) (LabP e.x) false).run Try.prog w = .ok (.map (some e.b)) w := by
  obtain ⟨v, ps, hr, hR⟩ := h.outer.lookup lawL Try.underlying74 (Try.zeroValue75 w) (zd := .nil) (zp := []) rfl (keyOf_lab (h.wf e he).1)
  rw [DT_at (fun f hf => (h.wf f hf).1) h.once he] at hR
  rw [R2_some hR] at hr
  exact hr
theorem lookup_none {w : World} {base m : Nat} {T : List Ent} (h : ApM w base m T) {x : Int × Nat} (hx : wfL x) (hn : x ∉ labs T) :
    (Instr.lookup 74 (.map (some m)) (LabP x) false).run Try.prog w = .ok (.map none) w := by
  obtain ⟨v, ps, hr, hR⟩ := h.outer.lookup lawL Try.underlying74 (Try.zeroValue75 w) (zd := .nil) (zp := []) rfl (keyOf_lab hx)
  rw [atKey_of_not_has (by rw [DT_has (fun f hf => (h.wf f hf).1) hx]; exact decide_eq_false hn)] at hR
  rw [R2_nil hR] at hr
  exact hr
def putE (T : List Ent) (x : Int × Nat) (i : Int) : List Ent := T.map fun e => if e.x = x then { e with ids := e.ids ++ [i] } else e
theorem putE_x (T : List Ent) (x : Int × Nat) (i : Int) : labs (putE T x i) = labs T := by
  unfold labs putE
  rw [List.map_map]
  apply List.map_congr_left
  intro e _
  simp only [Function.comp]
  split <;> rfl
theorem putE_b (T : List Ent) (x : Int × Nat) (i : Int) : (putE T x i).map (·.b) = T.map (·.b) := by
  unfold putE
  rw [List.map_map]
  apply List.map_congr_left
  intro e _
  simp only [Function.comp]
  split <;> rfl
theorem DT_putE (T : List Ent) (x : Int × Nat) (i : Int) : DT (putE T x i) = DT T := by
  induction T with
  | nil => rfl
  | cons e T ih =>
    show DT ((if e.x = x then { e with ids := e.ids ++ [i] } else e) :: putE T x i) = _
    rw [DT, ih, DT]
    split <;> rfl
theorem mem_putE {T : List Ent} {x : Int × Nat} {i : Int} {f : Ent} : f ∈ putE T x i ↔ ∃ e ∈ T, f = if e.x = x then { e with ids := e.ids ++ [i] } else e := by
  unfold putE
  rw [List.mem_map]
  constructor
  · rintro ⟨e, he, rfl⟩; exact ⟨e, he, rfl⟩
  · rintro ⟨e, he, rfl⟩; exact ⟨e, he, rfl⟩
theorem pw_of_map {α β : Type} [DecidableEq β] {f : α → β} {l : List α} : l.Pairwise (fun a b => f a ≠ f b) ↔ (l.map f).Nodup := by
  rw [List.Nodup, List.pairwise_map]
theorem eq_of_once {T : List Ent} (h : T.Pairwise (fun e f => e.x ≠ f.x)) {e f : Ent} (he : e ∈ T) (hf : f ∈ T) (hx : e.x = f.x) : e = f := by
  induction T with
  | nil => cases he
  | cons g T ih =>
    obtain ⟨h1, h2⟩ := List.pairwise_cons.1 h
    rcases List.mem_cons.1 he with rfl | he' <;> rcases List.mem_cons.1 hf with rfl | hf'
    · rfl
    · exact absurd hx (h1 f hf')
    · exact absurd hx.symm (h1 e he')
    · exact ih h2 he' hf'
theorem eq_of_apart {T : List Ent} (h : T.Pairwise (fun e f => e.b ≠ f.b)) {e f : Ent} (he : e ∈ T) (hf : f ∈ T) (hx : e.b = f.b) : e = f := by
  induction T with
  | nil => cases he
  | cons g T ih =>
    obtain ⟨h1, h2⟩ := List.pairwise_cons.1 h
    rcases List.mem_cons.1 he with rfl | he' <;> rcases List.mem_cons.1 hf with rfl | hf'
    · rfl
    · exact absurd hx (h1 f hf')
    · exact absurd hx.symm (h1 e he')
    · exact ih h2 he' hf'
theorem ApM.base_le {w : World} {base m : Nat} {T : List Ent} (h : ApM w base m T) : base ≤ w.heap.size := Nat.le_trans h.low (Nat.le_of_lt h.outer.lt)
theorem ApM.put {w : World} {base m : Nat} {T : List Ent} (h : ApM w base m T) {e : Ent} (he : e ∈ T) {i : Int} (hi : (Lit.int .u64 i).wf = true) (hN : e.ids.length ≤ 1000000) :
    ∃ w', (Instr.mapUpdate 75 (.map (some e.b)) (U i) (.bool true)).run Try.prog w = .ok () w' ∧ ApM w' base m (putE T e.x i) ∧ w.grownBy w' (some e.b) := by
  obtain ⟨w', hr, ho, hg⟩ := (h.inner e he).update (int_keyed Try.underlying66) Try.underlying75 (by unfold maxLen; omega) (keyOf_u hi) wellB
  refine ⟨w', hr, ?_, hg⟩
  have hx : ∀ f ∈ putE T e.x i, ∃ f0 ∈ T, f.b = f0.b ∧ f.x = f0.x := fun f hf => by
    obtain ⟨f0, hf0, rfl⟩ := mem_putE.1 hf
    exact ⟨f0, hf0, by split <;> rfl, by split <;> rfl⟩
  refine ⟨?_, ?_, ?_, ?_, ?_, ?_, h.low⟩
  · rw [DT_putE, show (putE T e.x i).length = T.length by simp [putE]]
    exact h.outer.kept hg (fun e1 => (h.far e he).2 (by cases e1; rfl))
  · intro f hf
    obtain ⟨f0, hf0, rfl⟩ := mem_putE.1 hf
    by_cases hfx : f0.x = e.x
    · obtain rfl := eq_of_once h.once hf0 he hfx
      rw [if_pos rfl]
      dsimp only
      rw [List.length_append, show [i].length = 1 from rfl, idsD, List.map_append, List.map_singleton, setOf_snoc]
      exact ho
    · rw [if_neg hfx]
      exact (h.inner f0 hf0).kept hg (fun e1 => hfx (by rw [eq_of_apart h.apart hf0 he (Option.some.inj e1)]))
  · intro f hf
    obtain ⟨f0, hf0, h1, _⟩ := hx f hf
    rw [h1]; exact h.far f0 hf0
  · exact pw_of_map.2 (by rw [putE_b]; exact pw_of_map.1 h.apart)
  · have := pw_of_map.1 h.once
    exact pw_of_map.2 (by have e1 := putE_x T e.x i; unfold labs at e1; rw [e1]; exact this)
  · intro f hf
    obtain ⟨f0, hf0, rfl⟩ := mem_putE.1 hf
    obtain ⟨h1, h3⟩ := h.wf f0 hf0
    split
    · refine ⟨h1, fun j hj => ?_⟩
      rcases List.mem_append.1 hj with h | h
      · exact h3 j h
      · rw [List.mem_singleton.1 h]; exact hi
    · exact ⟨h1, h3⟩
theorem lies_putE {T : List Ent} {e : Ent} (he : e ∈ T) (i : Int) (y : Int × Nat) (j : Int) : Lies (putE T e.x i) y j ↔ Lies T y j ∨ (y = e.x ∧ j = i) := by
  constructor
  · rintro ⟨f, hf, rfl, hj⟩
    obtain ⟨f0, hf0, rfl⟩ := mem_putE.1 hf
    by_cases hfx : f0.x = e.x
    · rw [if_pos hfx] at hj ⊢
      rcases List.mem_append.1 hj with h | h
      · exact .inl ⟨f0, hf0, rfl, h⟩
      · exact .inr ⟨hfx, List.mem_singleton.1 h⟩
    · rw [if_neg hfx] at hj ⊢
      exact .inl ⟨f0, hf0, rfl, hj⟩
  · rintro (⟨f, hf, rfl, hj⟩ | ⟨rfl, rfl⟩)
    · refine ⟨_, mem_putE.2 ⟨f, hf, rfl⟩, by split <;> rfl, ?_⟩
      split
      · exact List.mem_append_left _ hj
      · exact hj
    · exact ⟨_, mem_putE.2 ⟨e, he, rfl⟩, by rw [if_pos rfl], by rw [if_pos rfl]; simp⟩
theorem ApM.fresh {w : World} {base m : Nat} {T : List Ent} (h : ApM w base m T) {x : Int × Nat} (hx : wfL x) (hn : x ∉ labs T) (hN : T.length ≤ 1000000) :
    ∃ w', (Instr.mapUpdate 74 (.map (some m)) (LabP x) (.map (some w.heap.size))).run Try.prog (w.alloc (.map #[] 0)) = .ok () w' ∧
      ApM w' base m (⟨x, w.heap.size, []⟩ :: T) ∧ (w.alloc (.map #[] 0)).grownBy w' (some m) := by
  obtain ⟨w', hr, ho, hg⟩ := (h.outer.alloc (.map #[] 0)).update lawL Try.underlying74 (by unfold maxLen; omega) (keyOf_lab hx) (val := .map (some w.heap.size)) rfl
  have hm := h.outer.lt
  refine ⟨w', hr, ⟨ho, ?_, ?_, ?_, ?_, ?_, h.low⟩, hg⟩
  · intro e he
    rcases List.mem_cons.1 he with rfl | he'
    · exact (World.ownsMap_made w _ _ _).kept hg (fun e1 => by have e2 := Option.some.inj e1; omega)
    · exact ((h.inner e he').alloc _).kept hg (fun e1 => (h.far e he').2 (Option.some.inj e1))
  · intro e he
    rcases List.mem_cons.1 he with rfl | he'
    · exact ⟨h.base_le, by dsimp only; omega⟩
    · exact h.far e he'
  · refine List.pairwise_cons.2 ⟨fun f hf => ?_, h.apart⟩
    have := (h.inner f hf).lt
    dsimp only; omega
  · refine List.pairwise_cons.2 ⟨fun f hf e1 => hn ?_, h.once⟩
    exact List.mem_map.2 ⟨f, hf, e1.symm⟩
  · intro e he
    rcases List.mem_cons.1 he with rfl | he'
    · exact ⟨hx, fun i hi => absurd hi (List.not_mem_nil)⟩
    · exact h.wf e he'
theorem cell_keep {w w' : World} {b o : Nat} {v : Value} {row : Option Nat} (h : w.cell? ⟨b, o, none⟩ = some v) (hg : w.grownBy w' row) (hr : row ≠ some b) : w'.cell? ⟨b, o, none⟩ = some v :=
  (World.cell?_of_block (a := ⟨b, o, none⟩) (hg.block b (cell_lt h) (fun e => hr e.symm))).trans h
theorem not_map_cell {w : World} {b o r : Nat} {v : Value} {P : Program} {k : TypeId} {R : Value → Option (DataW Unit × List MemPlace)} {n : Nat} {D : DataW Unit} (h : w.cell? ⟨b, o, none⟩ = some v) (hm : w.ownsMap P k R r n D) : r ≠ b := by
  rintro rfl
  obtain ⟨es, clock, hb, _⟩ := hm
  simp [World.cell?, hb] at h
def KeepC (w w' : World) : Prop := ∀ b o v, w.cell? ⟨b, o, none⟩ = some v → w'.cell? ⟨b, o, none⟩ = some v
theorem KeepC.t {a b c : World} (h : KeepC a b) (k : KeepC b c) : KeepC a c := fun p o v hv => k p o v (h p o v hv)
theorem KeepC.of_below {w w' : World} (h : Below w.heap.size w w') : KeepC w w' := fun _ _ _ hv => keep_cell hv h (cell_lt hv)
theorem KeepC.of_map {w w' : World} {r : Nat} {P : Program} {k : TypeId} {R : Value → Option (DataW Unit × List MemPlace)} {n : Nat} {D : DataW Unit} (hm : w.ownsMap P k R r n D) (hg : w.grownBy w' (some r)) : KeepC w w' := fun _ _ _ hv => cell_keep hv hg (fun e1 => not_map_cell hv hm (Option.some.inj e1))
def PutPost (base m ab : Nat) (x : Int × Nat) (i : Int) (T : List Ent) (N : Nat) (w w' : World) : Prop :=
  ∃ T', ApM w' base m T' ∧ (∀ e ∈ T', e.ids ≠ []) ∧ (∀ y j, Lies T' y j ↔ Lies T y j ∨ (y = x ∧ j = i)) ∧ (T'.length ≤ N + 1 ∧ ∀ e ∈ T', e.ids.length ≤ N + 1) ∧ Below base w w' ∧ w'.cell? ⟨ab, 0, none⟩ = some (.map (some m)) ∧ KeepC w w'
theorem putE_bound {T : List Ent} {x : Int × Nat} {i : Int} {N : Nat} (h : ∀ e ∈ T, e.ids.length ≤ N) : ∀ e ∈ putE T x i, e.ids.length ≤ N + 1 := by
  intro f hf
  obtain ⟨f0, hf0, rfl⟩ := mem_putE.1 hf
  have := h f0 hf0
  split
  · simp; omega
  · omega
theorem putE_full {T : List Ent} {x : Int × Nat} {i : Int} (h : ∀ e ∈ T, e.ids ≠ [] ∨ e.x = x) : ∀ e ∈ putE T x i, e.ids ≠ [] := by
  intro f hf
  obtain ⟨f0, hf0, rfl⟩ := mem_putE.1 hf
  split
  · simp
  · rename_i hx
    rcases h f0 hf0 with h | h
    · exact h
    · exact absurd h hx
set_option maxHeartbeats 1600000 in
set_option maxRecDepth 100000 in
theorem put_any (base m ab : Nat) (l : Int) (c : Nat) (i : Int) (T : List Ent) (w : World) (N : Nat) (hT : ApM w base m T) (hfull : ∀ e ∈ T, e.ids ≠ []) (hab : w.cell? ⟨ab, 0, none⟩ = some (.map (some m))) (hx : wfL (l, c)) (hi : (Lit.int .u64 i).wf = true)
    (hN : T.length ≤ N ∧ ∀ e ∈ T, e.ids.length ≤ N) (hN2 : N ≤ 999999) :
    Calls Try.prog 30 #[Lab l c, .int .u64 i, .pointer (some ⟨ab, 0, none⟩)] w fun e w' => e = .returned (.tuple #[]) ∧ PutPost base m ab (l, c) i T N w w' := by
  obtain ⟨W0, hW0⟩ : ∃ z, w.alloc (.cells #[.int .i64 l, .int .u32 c] 34) = z := ⟨_, rfl⟩
  have hb0 : Below w.heap.size w W0 := by rw [← hW0]; exact alloc_below _ _
  have y0 : W0.cell? ⟨w.heap.size, 0, none⟩ = some (.int .i64 l) := by rw [← hW0]; exact World.cell?_alloc_at _ _ _ _ rfl
  have y1 : W0.cell? ⟨w.heap.size, 1, none⟩ = some (.int .u32 c) := by rw [← hW0]; exact World.cell?_alloc_at _ _ _ _ rfl
  have hT0 := hT.later hb0
  have a0 := keep_cell hab hb0 (cell_lt hab)
  have hBB : Below base w W0 := hb0.mono hT.base_le
  have q85 : ∀ (w : World) (r : Option Nat), (binOp .eql 75 (.map r) (.map none)).run Try.prog w = .ok (.bool r.isNone) w := fun w r => run_eql_map_nil w _ _ _ r Try.underlying75
  by_cases hm : (l, c) ∈ labs T
  · obtain ⟨e, he, hex⟩ := List.mem_map.1 hm
    have hk := lookup_some hT0 he
    rw [hex] at hk
    obtain ⟨W1, hr1, hT1, hg1⟩ := hT0.put he hi (by have := hN.2 e he; omega)
    have hne : ∀ o v, W0.cell? ⟨ab, o, none⟩ = some v → some e.b ≠ some ab := fun o v h e1 => not_map_cell h (hT0.inner e he) (Option.some.inj e1)
    have hP : PutPost base m ab (l, c) i T N w W1 := ⟨_, hT1, putE_full (fun f hf => .inl (hfull f hf)), fun y j => by rw [← hex]; exact lies_putE he i y j, ⟨by simp [putE]; omega, putE_bound hN.2⟩,
      hBB.grown hg1 (Nat.le_trans hT.base_le hBB.size) (fun k e1 => by cases e1; exact (hT.far e he).1), cell_keep a0 hg1 (hne _ _ a0), (KeepC.of_below hb0).t (KeepC.of_map (hT0.inner e he) hg1)⟩
    have HP := Lib.hid hP
    clear hP hT1 hT0 hT hN hfull hm hBB hb0 hg1 hex he hne hab hx hi
    go_enter Try.func30, Try.ntmps30
    go_wp2
    go_end0
    exact ⟨rfl, HP.out⟩
  · have hk := lookup_none hT0 hx hm
    have hmm := @run_makeMap Try.prog
    obtain ⟨W2, hr2, hT2, hg2⟩ := hT0.fresh hx hm (by omega)
    have hk2 := lookup_some hT2 (e := ⟨(l, c), W0.heap.size, []⟩) List.mem_cons_self
    dsimp only at hk2
    obtain ⟨W3, hr3, hT3, hg3⟩ := hT2.put (e := ⟨(l, c), W0.heap.size, []⟩) List.mem_cons_self hi (by simp)
    dsimp only at hr3 hT3 hg3
    have hma : ab ≠ m := fun e1 => not_map_cell a0 hT0.outer e1.symm
    have hla := cell_lt a0
    have yl := cell_lt y0
    have hmy : w.heap.size ≠ m := fun e1 => not_map_cell y0 hT0.outer e1.symm
    have a1 := keep_cell a0 (alloc_below W0 (.map #[] 0)) hla
    have a2 := cell_keep a1 hg2 (fun e1 => hma (Option.some.inj e1).symm)
    have z0 := cell_keep (keep_cell y0 (alloc_below W0 (.map #[] 0)) yl) hg2 (fun e1 => hmy (Option.some.inj e1).symm)
    have z1 := cell_keep (keep_cell y1 (alloc_below W0 (.map #[] 0)) yl) hg2 (fun e1 => hmy (Option.some.inj e1).symm)
    have a3 := cell_keep a2 hg3 (fun e1 => by have := Option.some.inj e1; omega)
    have hlow := hT.base_le
    have hs0 := hb0.size
    have hs1 : (W0.alloc (.map #[] 0)).heap.size = W0.heap.size + 1 := World.size_alloc _ _
    have hB1 : Below base w (W0.alloc (.map #[] 0)) := hBB.trans ((alloc_below W0 (.map #[] 0)).mono (by omega))
    have hB2 := hB1.grown hg2 (by omega) (fun k e1 => by cases e1; exact hT.low)
    have hs2 := hg2.size
    have hB3 := hB2.grown hg3 (by omega) (fun k e1 => by cases e1; omega)
    have hP : PutPost base m ab (l, c) i T N w W3 := ⟨_, hT3, putE_full (fun f hf => by
        rcases List.mem_cons.1 hf with rfl | hf'
        · exact .inr rfl
        · exact .inl (hfull f hf')), fun y j => by
        rw [lies_putE (e := ⟨(l, c), W0.heap.size, []⟩) List.mem_cons_self]
        constructor
        · rintro (⟨f, hf, h1, h2⟩ | h)
          · rcases List.mem_cons.1 hf with rfl | hf'
            · exact absurd h2 (List.not_mem_nil)
            · exact .inl ⟨f, hf', h1, h2⟩
          · exact .inr h
        · rintro (⟨f, hf, h1, h2⟩ | h)
          · exact .inl ⟨f, List.mem_cons_of_mem _ hf, h1, h2⟩
          · exact .inr h,
      ⟨by simp [putE]; omega, putE_bound (fun f hf => by
        rcases List.mem_cons.1 hf with rfl | hf'
        · simp
        · exact hN.2 f hf')⟩, hB3, a3, ((KeepC.of_below hb0).t (KeepC.of_below (alloc_below W0 (.map #[] 0)))).t ((KeepC.of_map (hT0.outer.alloc _) hg2).t (KeepC.of_map (hT2.inner _ List.mem_cons_self) hg3))⟩
    have HP := Lib.hid hP
    clear hP hT3 hT2 hT0 hT hN hfull hm hBB hb0 hg2 hg3 hab hx hi hB1 hB2 hB3 a3 a1 hma hmy hla yl hlow hs0 hs1 hs2
    go_enter Try.func30, Try.ntmps30
    go_wp2
    go_end0
    exact ⟨rfl, HP.out⟩
end Go.Proofs.Ytipnhpfpppblhaa

/- digest.mix.of, bits.RotateLeft32: contracts. -/
namespace Go.Proofs.Ytipnhpfpppblhaa
open Go.RowKit
def rotW (x : Int) (s : Nat) : Int := bits BinOp.or .u32 (x * 2 ^ s % 4294967296) (x / 2 ^ (32 - s))
set_option maxHeartbeats 800000 in
theorem rot_any (x k : Int) (s : Nat) (w : World) (hs : s ≤ 31) (hk : bits BinOp.and IntKind.u64 (IntKind.u64.wrap k) 31 = (s : Int)) :
    Calls Try.prog 115 #[.int .u32 x, .int .i64 k] w fun e w' => e = .returned (.int .u32 (rotW x s)) ∧ w' = w := by
  have h1 : IntKind.u64.wrap (32 - (s : Int)) = ((32 - s : Nat) : Int) := by rw [IntKind.wrap_u64]; omega
  go_enter Try.func115, Try.ntmps115
  go_wp2
  go_ret
  exact ⟨rfl, rfl⟩
theorem neg_and : ∀ k : Nat, k < 32 → 0 < k → bits BinOp.and IntKind.u64 (IntKind.u64.wrap (-(k : Int))) 31 = ((32 - k : Nat) : Int) := by decide +kernel
theorem rotr_any (x : Int) (k : Nat) (w : World) (h0 : 0 < k) (hk : k < 32) :
    Calls Try.prog 115 #[.int .u32 x, .int .i64 (-(k : Int))] w fun e w' => e = .returned (.int .u32 (rotW x (32 - k))) ∧ w' = w :=
  rot_any x (-(k : Int)) (32 - k) w (by omega) (neg_and k hk h0)
def mixW (a b c sh : Nat) (x : Int) : Int := bits BinOp.xor .u32 (bits BinOp.xor .u32 (rotW x (32 - a)) (rotW x (32 - b))) (if 0 < sh then x / 2 ^ sh else rotW x (32 - c))
set_option maxHeartbeats 1600000 in
set_option maxRecDepth 100000 in
theorem of_sh (a b c sh : Nat) (x : Int) (w : World) (ha : 0 < a ∧ a < 32) (hb : 0 < b ∧ b < 32) (hs : 0 < sh ∧ sh < 32) :
    Calls Try.prog 111 #[.agg #[.int .i64 a, .int .i64 b, .int .i64 c, .int .i64 sh], .int .u32 x] w fun e w' => e = .returned (.int .u32 (mixW a b c sh x)) ∧ Below w.heap.size w w' := by
  have HM : Hid (mixW a b c sh x = bits BinOp.xor .u32 (bits BinOp.xor .u32 (rotW x (32 - a)) (rotW x (32 - b))) (x / 2 ^ sh)) := by show _ = _; unfold mixW; rw [if_pos hs.1]
  have hs0 : (0 : Int) < (sh : Int) := by omega
  have hwa : IntKind.i64.wrap (-(a : Int)) = -(a : Int) := by rw [IntKind.wrap_i64]; omega
  have hwb : IntKind.i64.wrap (-(b : Int)) = -(b : Int) := by rw [IntKind.wrap_i64]; omega
  have ka := fun W => rotr_any x a W ha.1 ha.2
  have kb := fun W => rotr_any x b W hb.1 hb.2
  go_enter Try.func111, Try.ntmps111
  go_wp2
  have hc : ∀ (i : Nat), (w.alloc (.cells #[.int .i64 a, .int .i64 b, .int .i64 c, .int .i64 sh] 174)).cell? ⟨w.heap.size, i, none⟩ = (#[.int .i64 a, .int .i64 b, .int .i64 c, .int .i64 sh] : Array Value)[i]? := fun i => World.cell?_alloc_at _ _ _ _ rfl
  have a0 := hc 0
  have a1 := hc 1
  have a2 := hc 2
  have a3 := hc 3
  have hba := alloc_below w (.cells #[.int .i64 a, .int .i64 b, .int .i64 c, .int .i64 sh] 174)
  generalize w.alloc (.cells #[.int .i64 a, .int .i64 b, .int .i64 c, .int .i64 sh] 174) = wa at *
  change wa.cell? _ = some _ at a0
  change wa.cell? _ = some _ at a1
  change wa.cell? _ = some _ at a2
  change wa.cell? _ = some _ at a3
  refine wp_region_held_drew (S := (fun w' => w'.cell? ⟨w.heap.size, 0, none⟩ = some (.int .i64 a) ∧ w'.cell? ⟨w.heap.size, 1, none⟩ = some (.int .i64 b) ∧ w'.cell? ⟨w.heap.size, 2, none⟩ = some (.int .i64 c) ∧ w'.cell? ⟨w.heap.size, 3, none⟩ = some (.int .i64 sh))) (by kernel_rfl) ⟨a0, a1, a2, a3⟩ (fun hHeld => ?_)
  refine held_take (i := 0) (v := ?_) rfl rfl (by kernel_rfl) (by kernel_rfl) (by kernel_rfl) (fun _ _ _ h => h) (by rfl) hHeld ?_ ?_
  rotate_left
  · rintro wh ⟨z0, z1, z2, z3⟩
    go_simp
    (try with_reducible rfl)
  simp only [Act.put, List.setIfInBounds_toArray, List.set_cons_zero, List.set_cons_succ]
  refine held_take (i := 1) (v := ?_) rfl rfl (by kernel_rfl) (by kernel_rfl) (by kernel_rfl) (fun _ _ _ h => h) (by rfl) hHeld ?_ ?_
  rotate_left
  · rintro wh ⟨z0, z1, z2, z3⟩
    go_simp
    (try with_reducible rfl)
  simp only [Act.put, List.setIfInBounds_toArray, List.set_cons_zero, List.set_cons_succ]
  refine held_take (i := 2) (v := ?_) rfl rfl (by kernel_rfl) (by kernel_rfl) (by kernel_rfl) (fun _ _ _ h => h) (by rfl) hHeld ?_ ?_
  rotate_left
  · rintro wh ⟨z0, z1, z2, z3⟩
    go_simp
    (try with_reducible rfl)
  simp only [Act.put, List.setIfInBounds_toArray, List.set_cons_zero, List.set_cons_succ]
  refine held_take (i := 3) (v := ?_) rfl rfl (by kernel_rfl) (by kernel_rfl) (by kernel_rfl) (fun _ _ _ h => h) (by rfl) hHeld ?_ ?_
  rotate_left
  · rintro wh ⟨z0, z1, z2, z3⟩
    go_simp
    (try with_reducible rfl)
  simp only [Act.put, List.setIfInBounds_toArray, List.set_cons_zero, List.set_cons_succ]
  refine held_take (i := 5) (v := ?_) rfl rfl (by kernel_rfl) (by kernel_rfl) (by kernel_rfl) (fun _ _ _ h => h) (by rfl) hHeld ?_ ?_
  rotate_left
  · rintro wh ⟨z0, z1, z2, z3⟩
    go_simp
    (try with_reducible rfl)
  simp only [Act.put, List.setIfInBounds_toArray, List.set_cons_zero, List.set_cons_succ]
  refine held_take (i := 6) (v := ?_) rfl rfl (by kernel_rfl) (by kernel_rfl) (by kernel_rfl) (fun _ _ _ h => h) (by rfl) hHeld ?_ ?_
  rotate_left
  · rintro wh ⟨z0, z1, z2, z3⟩
    go_simp
    (try with_reducible rfl)
  simp only [Act.put, List.setIfInBounds_toArray, List.set_cons_zero, List.set_cons_succ]
  refine held_take (i := 7) (v := ?_) rfl rfl (by kernel_rfl) (by kernel_rfl) (by kernel_rfl) (fun _ _ _ h => h) (by rfl) hHeld ?_ ?_
  rotate_left
  · rintro wh ⟨z0, z1, z2, z3⟩
    go_simp
    (try with_reducible rfl)
  simp only [Act.put, List.setIfInBounds_toArray, List.set_cons_zero, List.set_cons_succ]
  refine held_take (i := 8) (v := ?_) rfl rfl (by kernel_rfl) (by kernel_rfl) (by kernel_rfl) (fun _ _ _ h => h) (by rfl) hHeld ?_ ?_
  rotate_left
  · rintro wh ⟨z0, z1, z2, z3⟩
    go_simp
    (try with_reducible rfl)
  simp only [Act.put, List.setIfInBounds_toArray, List.set_cons_zero, List.set_cons_succ]
  refine held_call (i := 4) rfl (by kernel_rfl) (by rfl) (fun K hK => ?_)
  (go_simp; go_at_call 115; refine (ka _).mono ?_; rintro e w1 ⟨rfl, rfl⟩)
  refine hK.out _ _ ⟨a0, a1, a2, a3⟩ (fun hHeld => ?_)
  clear hK K
  (try simp only [Act.put, List.setIfInBounds_toArray, List.set_cons_zero, List.set_cons_succ])
  refine held_call (i := 9) rfl (by kernel_rfl) (by rfl) (fun K hK => ?_)
  (go_simp; go_at_call 115; refine (kb _).mono ?_; rintro e w1 ⟨rfl, rfl⟩)
  refine hK.out _ _ ⟨a0, a1, a2, a3⟩ (fun hHeld => ?_)
  clear hK K
  (try simp only [Act.put, List.setIfInBounds_toArray, List.set_cons_zero, List.set_cons_succ])
  refine held_take (i := 10) (v := ?_) rfl rfl (by kernel_rfl) (by kernel_rfl) (by kernel_rfl) (fun _ _ _ h => h) (by rfl) hHeld ?_ ?_
  rotate_left
  · rintro wh ⟨z0, z1, z2, z3⟩
    go_simp
    (try with_reducible rfl)
  simp only [Act.put, List.setIfInBounds_toArray, List.set_cons_zero, List.set_cons_succ]
  refine held_take (i := 11) (v := ?_) rfl rfl (by kernel_rfl) (by kernel_rfl) (by kernel_rfl) (fun _ _ _ h => h) (by rfl) hHeld ?_ ?_
  rotate_left
  · rintro wh ⟨z0, z1, z2, z3⟩
    go_simp
    (try with_reducible rfl)
  simp only [Act.put, List.setIfInBounds_toArray, List.set_cons_zero, List.set_cons_succ]
  refine wpAnyH_done (by kernel_rfl) ?_ _
  go_wp2
  go_ret
  exact ⟨by rw [HM.out]; rfl, hba.drew⟩
set_option maxHeartbeats 1600000 in
set_option maxRecDepth 100000 in
theorem of_rot (a b c : Nat) (x : Int) (w : World) (ha : 0 < a ∧ a < 32) (hb : 0 < b ∧ b < 32) (hc : 0 < c ∧ c < 32) :
    Calls Try.prog 111 #[.agg #[.int .i64 a, .int .i64 b, .int .i64 c, .int .i64 0], .int .u32 x] w fun e w' => e = .returned (.int .u32 (mixW a b c 0 x)) ∧ Below w.heap.size w w' := by
  have HM : Hid (mixW a b c 0 x = bits BinOp.xor .u32 (bits BinOp.xor .u32 (rotW x (32 - a)) (rotW x (32 - b))) (rotW x (32 - c))) := by show _ = _; unfold mixW; rw [if_neg (Nat.lt_irrefl 0)]
  have hwc : IntKind.i64.wrap (-(c : Int)) = -(c : Int) := by rw [IntKind.wrap_i64]; omega
  have hwc' : wrap64 (-(c : Int)) = -(c : Int) := by unfold wrap64; omega
  have kc := fun W => rotr_any x c W hc.1 hc.2
  have hwa : IntKind.i64.wrap (-(a : Int)) = -(a : Int) := by rw [IntKind.wrap_i64]; omega
  have hwb : IntKind.i64.wrap (-(b : Int)) = -(b : Int) := by rw [IntKind.wrap_i64]; omega
  have ka := fun W => rotr_any x a W ha.1 ha.2
  have kb := fun W => rotr_any x b W hb.1 hb.2
  go_enter Try.func111, Try.ntmps111
  go_wp2
  have hcell : ∀ (i : Nat), (w.alloc (.cells #[.int .i64 a, .int .i64 b, .int .i64 c, .int .i64 0] 174)).cell? ⟨w.heap.size, i, none⟩ = (#[.int .i64 a, .int .i64 b, .int .i64 c, .int .i64 0] : Array Value)[i]? := fun i => World.cell?_alloc_at _ _ _ _ rfl
  have a0 := hcell 0
  have a1 := hcell 1
  have a2 := hcell 2
  have a3 := hcell 3
  have hba := alloc_below w (.cells #[.int .i64 a, .int .i64 b, .int .i64 c, .int .i64 0] 174)
  generalize w.alloc (.cells #[.int .i64 a, .int .i64 b, .int .i64 c, .int .i64 0] 174) = wa at *
  change wa.cell? _ = some _ at a0
  change wa.cell? _ = some _ at a1
  change wa.cell? _ = some _ at a2
  change wa.cell? _ = some _ at a3
  refine wp_region_held_drew (S := (fun w' => w'.cell? ⟨w.heap.size, 0, none⟩ = some (.int .i64 a) ∧ w'.cell? ⟨w.heap.size, 1, none⟩ = some (.int .i64 b) ∧ w'.cell? ⟨w.heap.size, 2, none⟩ = some (.int .i64 c) ∧ w'.cell? ⟨w.heap.size, 3, none⟩ = some (.int .i64 0))) (by kernel_rfl) ⟨a0, a1, a2, a3⟩ (fun hHeld => ?_)
  refine held_take (i := 0) (v := ?_) rfl rfl (by kernel_rfl) (by kernel_rfl) (by kernel_rfl) (fun _ _ _ h => h) (by rfl) hHeld ?_ ?_
  rotate_left
  · rintro wh ⟨z0, z1, z2, z3⟩
    go_simp
    (try with_reducible rfl)
  simp only [Act.put, List.setIfInBounds_toArray, List.set_cons_zero, List.set_cons_succ]
  refine held_take (i := 1) (v := ?_) rfl rfl (by kernel_rfl) (by kernel_rfl) (by kernel_rfl) (fun _ _ _ h => h) (by rfl) hHeld ?_ ?_
  rotate_left
  · rintro wh ⟨z0, z1, z2, z3⟩
    go_simp
    (try with_reducible rfl)
  simp only [Act.put, List.setIfInBounds_toArray, List.set_cons_zero, List.set_cons_succ]
  refine held_take (i := 2) (v := ?_) rfl rfl (by kernel_rfl) (by kernel_rfl) (by kernel_rfl) (fun _ _ _ h => h) (by rfl) hHeld ?_ ?_
  rotate_left
  · rintro wh ⟨z0, z1, z2, z3⟩
    go_simp
    (try with_reducible rfl)
  simp only [Act.put, List.setIfInBounds_toArray, List.set_cons_zero, List.set_cons_succ]
  refine held_take (i := 3) (v := ?_) rfl rfl (by kernel_rfl) (by kernel_rfl) (by kernel_rfl) (fun _ _ _ h => h) (by rfl) hHeld ?_ ?_
  rotate_left
  · rintro wh ⟨z0, z1, z2, z3⟩
    go_simp
    (try with_reducible rfl)
  simp only [Act.put, List.setIfInBounds_toArray, List.set_cons_zero, List.set_cons_succ]
  refine held_take (i := 5) (v := ?_) rfl rfl (by kernel_rfl) (by kernel_rfl) (by kernel_rfl) (fun _ _ _ h => h) (by rfl) hHeld ?_ ?_
  rotate_left
  · rintro wh ⟨z0, z1, z2, z3⟩
    go_simp
    (try with_reducible rfl)
  simp only [Act.put, List.setIfInBounds_toArray, List.set_cons_zero, List.set_cons_succ]
  refine held_take (i := 6) (v := ?_) rfl rfl (by kernel_rfl) (by kernel_rfl) (by kernel_rfl) (fun _ _ _ h => h) (by rfl) hHeld ?_ ?_
  rotate_left
  · rintro wh ⟨z0, z1, z2, z3⟩
    go_simp
    (try with_reducible rfl)
  simp only [Act.put, List.setIfInBounds_toArray, List.set_cons_zero, List.set_cons_succ]
  refine held_take (i := 7) (v := ?_) rfl rfl (by kernel_rfl) (by kernel_rfl) (by kernel_rfl) (fun _ _ _ h => h) (by rfl) hHeld ?_ ?_
  rotate_left
  · rintro wh ⟨z0, z1, z2, z3⟩
    go_simp
    (try with_reducible rfl)
  simp only [Act.put, List.setIfInBounds_toArray, List.set_cons_zero, List.set_cons_succ]
  refine held_take (i := 8) (v := ?_) rfl rfl (by kernel_rfl) (by kernel_rfl) (by kernel_rfl) (fun _ _ _ h => h) (by rfl) hHeld ?_ ?_
  rotate_left
  · rintro wh ⟨z0, z1, z2, z3⟩
    go_simp
    (try with_reducible rfl)
  simp only [Act.put, List.setIfInBounds_toArray, List.set_cons_zero, List.set_cons_succ]
  refine held_call (i := 4) rfl (by kernel_rfl) (by rfl) (fun K hK => ?_)
  (go_simp; go_at_call 115; refine (ka _).mono ?_; rintro e w1 ⟨rfl, rfl⟩)
  refine hK.out _ _ ⟨a0, a1, a2, a3⟩ (fun hHeld => ?_)
  clear hK K
  (try simp only [Act.put, List.setIfInBounds_toArray, List.set_cons_zero, List.set_cons_succ])
  refine held_call (i := 9) rfl (by kernel_rfl) (by rfl) (fun K hK => ?_)
  (go_simp; go_at_call 115; refine (kb _).mono ?_; rintro e w1 ⟨rfl, rfl⟩)
  refine hK.out _ _ ⟨a0, a1, a2, a3⟩ (fun hHeld => ?_)
  clear hK K
  (try simp only [Act.put, List.setIfInBounds_toArray, List.set_cons_zero, List.set_cons_succ])
  refine held_take (i := 10) (v := ?_) rfl rfl (by kernel_rfl) (by kernel_rfl) (by kernel_rfl) (fun _ _ _ h => h) (by rfl) hHeld ?_ ?_
  rotate_left
  · rintro wh ⟨z0, z1, z2, z3⟩
    go_simp
    (try with_reducible rfl)
  simp only [Act.put, List.setIfInBounds_toArray, List.set_cons_zero, List.set_cons_succ]
  refine held_take (i := 11) (v := ?_) rfl rfl (by kernel_rfl) (by kernel_rfl) (by kernel_rfl) (fun _ _ _ h => h) (by rfl) hHeld ?_ ?_
  rotate_left
  · rintro wh ⟨z0, z1, z2, z3⟩
    go_simp
    (try with_reducible rfl)
  simp only [Act.put, List.setIfInBounds_toArray, List.set_cons_zero, List.set_cons_succ]
  refine wpAnyH_done (by kernel_rfl) ?_ _
  go_wp2_with fail
  refine (kc _).mono ?_
  rintro e w1 ⟨rfl, rfl⟩
  go_wp2
  go_ret
  exact ⟨by rw [HM.out]; rfl, hba.drew⟩
end Go.Proofs.Ytipnhpfpppblhaa

/- digest.start, digest.keys: contracts. -/
namespace Go.Proofs.Ytipnhpfpppblhaa
open Go.RowKit
abbrev V32 (x : Int) : Value := .int .u32 x
def startL : List Int := [1779033703, 3144134277, 1013904242, 2773480762, 1359893119, 2600822924, 528734635, 1541459225]
def startV : Array Value := (startL.map V32).toArray
def keysV : Array Value := #[.int .u32 1116352408, .int .u32 1899447441, .int .u32 3049323471, .int .u32 3921009573, .int .u32 961987163, .int .u32 1508970993, .int .u32 2453635748, .int .u32 2870763221, .int .u32 3624381080, .int .u32 310598401, .int .u32 607225278, .int .u32 1426881987, .int .u32 1925078388, .int .u32 2162078206, .int .u32 2614888103, .int .u32 3248222580, .int .u32 3835390401, .int .u32 4022224774, .int .u32 264347078, .int .u32 604807628, .int .u32 770255983, .int .u32 1249150122, .int .u32 1555081692, .int .u32 1996064986, .int .u32 2554220882, .int .u32 2821834349, .int .u32 2952996808, .int .u32 3210313671, .int .u32 3336571891, .int .u32 3584528711, .int .u32 113926993, .int .u32 338241895, .int .u32 666307205, .int .u32 773529912, .int .u32 1294757372, .int .u32 1396182291, .int .u32 1695183700, .int .u32 1986661051, .int .u32 2177026350, .int .u32 2456956037, .int .u32 2730485921, .int .u32 2820302411, .int .u32 3259730800, .int .u32 3345764771, .int .u32 3516065817, .int .u32 3600352804, .int .u32 4094571909, .int .u32 275423344, .int .u32 430227734, .int .u32 506948616, .int .u32 659060556, .int .u32 883997877, .int .u32 958139571, .int .u32 1322822218, .int .u32 1537002063, .int .u32 1747873779, .int .u32 1955562222, .int .u32 2024104815, .int .u32 2227730452, .int .u32 2361852424, .int .u32 2428436474, .int .u32 2756734187, .int .u32 3204031479, .int .u32 3329325298]
def keyL (i : Nat) : Int := match keysV[i]? with | some (.int _ x) => x | _ => 0
theorem keysV_at (i : Nat) (h : i < 64) : keysV[i]? = some (V32 (keyL i)) := by
  have hk : ∀ i, i < 64 → (match keysV[i]? with | some (.int .u32 _) => true | _ => false) = true := by decide +kernel
  have := hk i h
  unfold keyL
  split at this
  · next x hx => rw [hx]
  · cases this
set_option maxHeartbeats 1600000 in
set_option maxRecDepth 100000 in
theorem start_any (w : World) : Calls Try.prog 100 #[] w fun e w' => e = .returned (.agg startV) ∧ Below w.heap.size w w' := by
  go_enter Try.func100, Try.ntmps100
  go_wp2
  refine bodyPost_ret (results_cell_row rfl _ _ w.heap.size 121 startV (0, 0) (.array 8 32) rfl (heap_alloc_new _ _) Try.underlying121 rfl (by kernel_rfl)) rfl ?_
  exact ⟨rfl, (Below.refl _ _).alloc (Nat.le_refl _) _⟩
set_option maxHeartbeats 1600000 in
set_option maxRecDepth 100000 in
theorem keys_any (w : World) : Calls Try.prog 112 #[] w fun e w' => e = .returned (.agg keysV) ∧ Below w.heap.size w w' := by
  go_enter Try.func112, Try.ntmps112
  go_upto_region 1 with fail
  have h1 : ∃ z : Array Value, z.size = 64 ∧ (w.alloc (.cells (Array.replicate 64 (V32 0)) 123)).heap[w.heap.size]? = some (.cells z 123 (0, 0)) := ⟨_, by simp, heap_alloc_new _ _⟩
  have hb := (Below.refl w.heap.size w).alloc (Nat.le_refl _) (.cells (Array.replicate 64 (V32 0)) 123)
  change Code.wp _ _ _ _ (w.alloc (.cells (Array.replicate 64 (V32 0)) 123))
  generalize w.alloc (.cells (Array.replicate 64 (V32 0)) 123) = w0 at *
  obtain ⟨z, hz, hg⟩ := h1
  apply wp_region_lit
  refine wpList_build rfl 123 _ rfl (by kernel_rfl) ?_
  refine wpList_store_row rfl 123 (.tmp 0) (.tmp 1) rfl w.heap.size keysV rfl (by kernel_rfl) 123 z hg (by kernel_rfl) hz (by kernel_rfl) ?_
  have hg2 := setRow_heap w0 w.heap.size z keysV _ _ hg
  have hb2 : Below w.heap.size w (w0.setRow w.heap.size keysV) := below_setRow hb (Nat.le_refl _) _
  generalize w0.setRow w.heap.size keysV = w1 at *
  generalize (Try.prog.built 123 _).getD #[] = X
  simp only [Act.put, List.setIfInBounds_toArray, List.set_cons_zero, List.set_cons_succ]
  show Exit.then _ _ Exit.normal _ _
  simp only [Exit.then]
  refine (by assumption : ∀ (a : Act) (w : World), Code.wp _ Code.ret _ a w → _) _ _ ?_
  go_wp2
  refine bodyPost_ret (results_cell_row rfl _ _ w.heap.size 123 keysV (0, 0) (.array 64 32) rfl hg2 Try.underlying123 rfl (by kernel_rfl)) rfl ?_
  exact ⟨rfl, hb2⟩
theorem run_index_keys (k : Nat) (h : k < 64) (w : World) : (Instr.index 123 (.agg keysV) (.int .i64 k)).run Try.prog w = .ok (V32 (keyL k)) w := by
  have hk := keysV_at k h
  have h1 : (0 : Int) ≤ (k : Int) ∧ (k : Int) < ((64 : Nat) : Int) := by omega
  simp [Instr.index, run_underlying Try.underlying123, asIntOf, go_sem, h1, part, Try.isAgg32, Try.sizeOf32, hk]
  intro h2; omega
end Go.Proofs.Ytipnhpfpppblhaa

