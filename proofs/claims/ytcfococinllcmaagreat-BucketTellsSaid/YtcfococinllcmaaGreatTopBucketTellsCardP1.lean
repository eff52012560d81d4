/- BucketTells: the card: whatever the arguments, the law returns true and its arguments read as they did. No condition. -/
import Derived.Test.YtcfococinllcmaaGreatTopBucketTellsCardP0
import Derived.Deep.OwnRows
import Derived.Great.Ranges
import Derived.Test.YtcfococinllcmaaGreatMtAll
import Derived.Test.YtcfococinllcmaaGreatBkFine
import Derived.Test.YtcfococinllcmaaGreatBox
import Derived.BigQuiet
import Derived.Deep.QuietTactic
import Derived.Test.YtcfococinllcmaaGreatBkLawP
import Derived.Test.YtcfococinllcmaaGreatBkBack
import Derived.Test.YtcfococinllcmaaGreatPatR
import Derived.Laws.CopyOwn
import Derived.Laws.MakeOwn
import Derived.Deep.RegionLaw
import Derived.Test.YtcfococinllcmaaGreatHeld
import Derived.Test.YtcfococinllcmaaGreatAls
import Derived.ProofKit
import Derived.OpenShut
import Derived.Deep.Slices
import Derived.Deep.Fields
import Derived.ChangeSame
import Derived.Laws.IdiomArrays
import Derived.Maps.AppendAt

/- The reference's atom: a contract (with either's for less fuel). -/
namespace Go.Proofs.YtcfococinllcmaaGreat
open Go.RowKit
structure Ca (w0 w : World) (nb g : Nat) (s : ByteArray) (b : Bs) (cs : List Value) : Prop where
  rdr : RdrAt w g s b
  nd : NdAt w nb cs
  res : w.there w0.heap.size 0 258
  kr : Kr g w0 w
  gl : g < w0.heap.size
  nb : w0.heap.size < nb
theorem Ca.below {w0 w w' : World} {nb g : Nat} {s : ByteArray} {b : Bs} {cs : List Value} (h : Ca w0 w nb g s b cs) (hb : Below w.heap.size w w') : Ca w0 w' nb g s b cs :=
  ⟨h.rdr.below hb, h.nd.later hb, there_later h.res hb (by have := h.nd.lt; have := h.nb; omega), h.kr.trans (Kr.of_below hb), h.gl, h.nb⟩
theorem Ca.stp {w0 w w' : World} {nb g : Nat} {s : ByteArray} {b b' : Bs} {cs : List Value} (h : Ca w0 w nb g s b cs) (hr : RdrAt w' g s b') (hk : Kr g w w') : Ca w0 w' nb g s b' cs :=
  ⟨hr, h.nd.kr hk (by have := h.gl; have := h.nb; omega), there_kept h.res (hk.block _ (by have := h.nd.lt; have := h.nb; omega) (by have := h.gl; omega)), h.kr.trans hk, h.gl, h.nb⟩
theorem Ca.step {w0 w : World} {nb g : Nat} {s : ByteArray} {b : Bs} {cs : List Value} (h : Ca w0 w nb g s b cs) : Ca w0 (w.setCell ⟨g, 1, none⟩ (.int .i64 ((b.pos : Int) + 1))) nb g s (stepM b) cs :=
  h.stp h.rdr.step (Kr.set g w 1 _)
theorem Ca.put {w0 w : World} {nb g : Nat} {s : ByteArray} {b : Bs} {cs : List Value} (h : Ca w0 w nb g s b cs) (j : Nat) (v : Value) (hj : j < 258) : Ca w0 (w.setCell ⟨nb, j, none⟩ v) nb g s b (cs.set j v) :=
  ⟨h.rdr.kept (by simp) (Below.heap_setCell w _ v g (by show g ≠ nb; have := h.gl; have := h.nb; omega)), h.nd.set j v hj, rthere_set h.res _ _ _, h.kr.new _ _ _ (by have := h.nb; omega), h.gl, h.nb⟩
theorem Ca.all {w0 w : World} {nb g : Nat} {s : ByteArray} {b : Bs} {cs : List Value} (h : Ca w0 w nb g s b cs) (cs' : List Value) (hl : cs'.length = 258) : Ca w0 (w.setCells nb 0 cs') nb g s b cs' :=
  ⟨h.rdr.kept (by rw [size_setCells]; exact Nat.le_refl _) (heap_setCells _ _ _ (by have := h.gl; have := h.nb; omega) _ _), h.nd.stored hl, World.there_setCells h.res _ _ _, h.kr.news _ (by have := h.nb; omega) _ _, h.gl, h.nb⟩
theorem Ca.done {w0 w : World} {nb g : Nat} {s : ByteArray} {b : Bs} {cs : List Value} (h : Ca w0 w nb g s b cs) (vs : List Value) : RdrAt (w.setCells w0.heap.size 0 vs) g s b ∧ Kr g w0 (w.setCells w0.heap.size 0 vs) :=
  ⟨h.rdr.kept (by rw [size_setCells]; exact Nat.le_refl _) (heap_setCells _ _ _ (by have := h.gl; omega) _ _), h.kr.news _ (Nat.le_refl _) _ _⟩
theorem Ca.new {w0 w : World} {g : Nat} {s : ByteArray} {b : Bs} (h : RdrAt w g s b) (hr : w.there w0.heap.size 0 258) (hk : Kr g w0 w) (hg : g < w0.heap.size) (hl : w0.heap.size < w.heap.size) (t : TypeId) : Ca w0 ((w.alloc (.cells (zeroN 0) t)).setCells w.heap.size 0 (nodeC 0 noB nilS)) w.heap.size g s b (nodeC 0 noB nilS) := by
  have hb := alloc_below w (.cells (zeroN 0) t)
  refine ⟨(h.below hb).kept (by rw [size_setCells]; exact Nat.le_refl _) (heap_setCells _ _ _ (by omega) _ _), (NdAt.new w 0 t).stored (nodeC_len _ _ _), there_kept (there_later hr hb hl) (heap_setCells _ _ _ (by omega) _ _), (hk.trans (Kr.of_below hb)).news _ (by omega) _ _, hg, hl⟩
theorem oneS_eq (c : Nat) : (fun x => if x = c then true else noB x) = oneS c := by
  funext x
  unfold oneS addS noS noB
  by_cases h : x = c
  · subst h; rw [if_pos rfl, decide_eq_true (Nat.le_refl x)]; rfl
  · rw [if_neg h]
    by_cases h2 : c ≤ x
    · rw [decide_eq_true h2, decide_eq_false (show ¬ x ≤ c by omega)]; rfl
    · rw [decide_eq_false h2]; rfl
theorem dot_all (kv : Value) : nodeC 0 (addU noB 0 256) kv = nodeC 0 (turnS noS) kv := nodeC_congr (fun c hc => by unfold addU turnS noB noS; rw [decide_eq_true (Nat.zero_le c), decide_eq_true hc]; rfl) kv
theorem Back.mk1 {w w' : World} {g d : Nat} {s : ByteArray} {b b' : Bs} {S T : Nat → Bool} (hr : RdrAt w' g s b') (he : b'.err = b.err) (hp : b'.pos ≤ s.size + 12 - d) (ht : b'.err = 0 → b'.pos = b.pos ∧ nodeC 0 S nilS = nodeC 0 T nilS) (hk : Kr g w w') : Back w w' g s d (oneM b T) (.set T) (nodeC 0 S nilS) b' :=
  ⟨nodeC_len _ _ _, oneN _ _, hr, he, hp, fun h0 => ⟨(ht h0).1, by rw [(ht h0).2]; exact .set T nilS⟩, hk⟩
set_option maxHeartbeats 12800000 in
set_option maxRecDepth 100000 in
theorem atom_is (n : Nat) (heither : NdK 107 .either n) : NdK 155 .atom (n + 1) := by
  intro m hm w g s d b h he hd hp hat hs hf
  simp only [fuelM] at hf
  obtain ⟨m, rfl⟩ : ∃ m', m = m' + 1 := ⟨m - 1, by omega⟩
  obtain ⟨hps, hn124, hn41⟩ := hat rfl
  obtain ⟨r, hr⟩ : ∃ r, runM s (m + 1) .atom d b = r := ⟨_, rfl⟩
  obtain ⟨a, ha⟩ : ∃ a, reM s (m + 1) .atom .no d b = a := ⟨_, rfl⟩
  rw [hr, ha]
  rw [runM] at hr
  rw [reM] at ha
  (try dsimp only at hr ha)
  have hpk : peekM s b = some (byteM s b.pos) := rpeek_of he hps
  have hcl := byteM_lt s b.pos
  obtain ⟨c, hc⟩ : ∃ c, byteM s b.pos = c := ⟨_, rfl⟩
  rw [hc] at hr ha hpk hn124 hn41 hcl
  have HR := Lib.hid hr
  have HA := Lib.hid ha
  have HE := Lib.hid heither
  have hb1 : b.pos + 1 ≤ (stepM b).pos := Nat.le_refl _
  have hb1q : (stepM b).pos ≤ s.size := hps
  have hb1e : (stepM b).err = 0 := he
  have hgl := h.lt
  have hbx := alloc_below w (.cells (zeroN 0) 148)
  have hrx := h.below hbx
  have hth := there_new w 0 148
  have hsx : (w.alloc (.cells (zeroN 0) 148)).heap.size = w.heap.size + 1 := World.size_alloc _ _
  have kf := fun W b (h : RdrAt W g s b) => rfail_is W g s b 2 h
  have kf3 := fun W b (h : RdrAt W g s b) => rfail_is W g s b 3 h
  have KF := Lib.hid kf
  have KF3 := Lib.hid kf3
  have k1 := next_is (w.alloc (.cells (zeroN 0) 148)) g s b _ hpk hrx (by omega)
  have HB0 := Lib.hid hrx
  have HT0 := Lib.hid hth
  have HK0 := Lib.hid (Kr.of_below (g := g) hbx)
  clear hr ha heither hc h hat hpk hbx hrx hth kf kf3
  go_enter Tryz.func155, Tryz.ntmps155
  go_upto_region 1 with (with_reducible refine wpList_allocN rfl rfl _ rfl w.heap.size rfl ?_)
  go_wp2_with fail
  refine k1.mono ?_
  rintro e w1 ⟨rfl, hb⟩
  have c1 := (HB0.out.below hb).c1
  have f1 := there_free (HB0.out.below hb).th 1 (by omega)
  have h2 := (HB0.out.below hb).step
  have h2t := rthere_set (there_later HT0.out hb (by omega)) g 1 (.int .i64 ((b.pos : Int) + 1))
  have h2k := (HK0.out.trans (Kr.of_below (g := g) hb)).trans (Kr.set g w1 1 (.int .i64 ((b.pos : Int) + 1)))
  have h2s : w.heap.size < (w1.setCell ⟨g, 1, none⟩ (.int .i64 ((b.pos : Int) + 1))).heap.size := by rw [World.size_setCell]; have := hb.size; omega
  clear k1 hb HB0 HT0 HK0 hsx
  go_upto_region 3 with fail
  change Code.wp _ _ _ _ (w1.setCell ⟨g, 1, none⟩ (.int .i64 ((b.pos : Int) + 1)))
  clear c1 f1
  obtain ⟨b1, hb1x⟩ : ∃ b1, stepM b = b1 := ⟨_, rfl⟩
  rw [hb1x] at h2 hb1 hb1q hb1e HR HA
  generalize (w1.setCell ⟨g, 1, none⟩ (.int .i64 ((b.pos : Int) + 1))) = w2 at *
  have hca := Ca.new h2 h2t h2k hgl h2s 148
  have HTH : Hid ((w2.alloc (.cells (zeroN 0) 148)).there w2.heap.size 0 258) := Lib.hid (there_new w2 0 148)
  have HC := Lib.hid hca
  clear hca h2 h2t h2k hb1x
  go_upto_region 4 with (first
    | (with_reducible refine wpList_allocN rfl rfl _ rfl w2.heap.size rfl ?_)
    | ((with_reducible refine wpList_buildN rfl _ rfl _ rfl (zeroN 0) ?hf ?_); (case hf => exact node_built0))
    | ((with_reducible refine wpList_storeN rfl _ _ rfl _ rfl w2.heap.size 0 (nodeC 0 noB nilS) ?hx ?hy ?ht (nodeC_len _ _ _) (oneN _ _) ?_); (case hx => rfl); (case hy => rfl); (case ht => exact HTH.out)))
  clear HTH
  generalize w2.heap.size = nb at *
  refine wp_forget2 (fun W => Ca w W nb g s b1 (nodeC 0 noB nilS)) HC.out (fun w3 hw3 => ?_)
  clear HC
  have HC := Lib.hid hw3
  clear hw3
  by_cases e40 : c = 40
  · subst e40
    have hr := HR.out
    have ha := HA.out
    rw [if_pos rfl] at hr ha
    by_cases ed : d = 8
    · subst ed
      rw [if_pos rfl] at hr ha
      subst hr ha
      have kq := KF3.out _ _ HC.out.rdr
      go_wp2_with fail
      refine kq.mono ?_
      rintro e w4 ⟨rfl, hB, hs4⟩
      have H4 := Lib.hid (HC.out.stp hB hs4)
      clear kq hB hs4
      go_wp2_with (first
      | ((with_reducible refine wpList_loadN rfl _ rfl _ rfl nb 0 ?hx (nodeC 0 (noB) nilS) ?hc (nodeC_len _ _ _) ?_); (case hx => rfl); (case hc => exact H4.out.nd.at_))
      | ((with_reducible refine wpList_storeN rfl _ _ rfl _ rfl w.heap.size 0 (nodeC 0 (noB) nilS) ?hx ?hy ?ht (nodeC_len _ _ _) (oneN _ _) ?_); (case hx => rfl); (case hy => rfl); (case ht => exact H4.out.res)))
      refine bodyPost_ret (results_agg1 rfl _ _ w.heap.size (nodeC 0 (noB) nilS) (.struct _) rfl (World.rangeAt_setCells_same _ _ _ _ (by rw [show (nodeC 0 (noB) nilS).length = 258 from nodeC_len _ _ _]; exact H4.out.res)) Tryz.underlying148 rfl (by rw [show (nodeC 0 (noB) nilS).length = 258 from nodeC_len _ _ _]; exact node_size)) rfl ?_
      exact ⟨_, _, rfl, Back.mk1 (H4.out.done _).1 rfl (by rw [failM_pos]; omega) (fun h0 => absurd h0 (failM_err (by decide))) (H4.out.done _).2⟩
    · rw [if_neg ed] at hr ha
      have hd8 : (d : Int) < 8 := by omega
      have hwd : IntKind.i64.wrap ((d : Int) + 1) = (((d + 1 : Nat)) : Int) := by rw [IntWalk.i64_in _ ⟨by omega, by omega⟩]; rfl
      have hke := HE.out m (by omega) w3 g s (d + 1) b1 HC.out.rdr hb1e (by omega) (by omega) (fun h => by cases h) hs (by simp only [fuelM]; omega)
      obtain ⟨rr, hrr⟩ : ∃ rr, runM s m .either (d + 1) b1 = rr := ⟨_, rfl⟩
      rw [hrr] at hr hke
      rw [ha] at hke
      clear hrr
      go_wp2_with fail
      refine hke.mono ?_
      rintro e w4 ⟨cs, b', rfl, hbk⟩
      have H4 := Lib.hid (HC.out.stp hbk.rdr hbk.kr)
      have HBK := Lib.hid hbk
      have hnb3 := HC.out.nd.lt
      have hnbw := HC.out.nb
      have hcl2 := hbk.len
      clear hke hbk
      go_upto_region 10 with ((with_reducible refine wpList_storeN rfl _ _ rfl _ rfl nb 0 cs ?hx ?hy ?ht HBK.out.len HBK.out.one ?_); (case hx => rfl); (case hy => rfl); (case ht => exact H4.out.nd.th))
      have hc5 := H4.out.all cs HBK.out.len
      have ht5 : b'.err = 0 → NA (w4.setCells nb 0 cs) (fun q => w3.heap.size ≤ q ∧ q < w4.heap.size) 0 [cs] a := fun h0 => ((HBK.out.tree h0).2).keep (by rw [size_setCells]; exact Nat.le_refl _) (fun q hq _ => heap_setCells _ _ _ (by omega) _ _)
      have hs5 : (w4.setCells nb 0 cs).heap.size = w4.heap.size := size_setCells _ _ _ _
      have HC5 := Lib.hid hc5
      have HT5 := Lib.hid ht5
      have HBE : Hid (b'.err = rr.1.err ∧ (b'.err = 0 → b'.pos = rr.1.pos) ∧ b'.pos ≤ s.size + 12 - (d + 1)) := Lib.hid ⟨HBK.out.err, fun h0 => (HBK.out.tree h0).1, HBK.out.pos⟩
      have HON := Lib.hid HBK.out.one
      have hbp := HBK.out.pos
      clear hc5 ht5 HBK H4 HC
      generalize (w4.setCells nb 0 cs) = w5 at *
      obtain ⟨o, ho⟩ : ∃ o, peekM s b' = o := ⟨_, rfl⟩
      have k2 := next_is w5 g s b' o ho HC5.out.rdr (by omega)
      have HPK := Lib.hid ((peek_congr (s := s) (b := b') (c := rr.1) HBE.out.1 HBE.out.2.1).symm.trans ho)
      have HO := Lib.hid ho
      clear ho
      go_wp2_with fail
      refine k2.mono ?_
      rintro e w6 ⟨rfl, hb6⟩
      have HC6 := Lib.hid (HC5.out.below hb6)
      have HT6 : Hid (b'.err = 0 → NA w6 (fun q => w.heap.size < q ∧ q < w6.heap.size ∧ q ≠ nb ∧ q ≠ g) 0 [cs] a) := Lib.hid (fun h0 => ((HT5.out h0).later hb6).mono (by
        rintro q ⟨h1, h2⟩
        have := hb6.size
        exact ⟨by omega, by omega, by omega, by omega⟩))
      clear k2 hb6 HC5 HT5
      have HRE : Hid (r.1 = closeM s rr.1) := Lib.hid (by rw [← hr])
      clear hr
      obtain ⟨B, hB⟩ : ∃ B, decide (o ≠ some 41) = B := ⟨_, rfl⟩
      go_upto_region 11 with fail
      go_cut [48] from 43 (fun v wx => v = .bool B ∧ wx = w6)
      case first =>
        rcases o with _ | c2
        · go_wp2
          go_meet
          exact ⟨by rw [← hB]; rfl, rfl⟩
        · by_cases g1 : c2 = 41
          · subst g1
            go_wp2
            go_meet
            exact ⟨by rw [← hB]; rfl, rfl⟩
          · have g1b : ((c2 : Int) != 41) = true := by simp; omega
            go_wp2
            go_meet
            exact ⟨by rw [← hB, decide_eq_true (by simpa using g1)], rfl⟩
      case rest =>
      obtain ⟨rfl, rfl⟩ := hcut
      go_upto_if 48 with fail
      go_cut [] from 43 (fun wx => ∃ bz : Bs, bz.err = (closeM s rr.1).err ∧ bz.pos + 1 ≤ s.size + 12 - d ∧ (bz.err = 0 → bz.pos = rr.1.pos) ∧ Hid (Ca w wx nb g s bz cs) ∧ Hid (bz.err = 0 → NA wx (fun q => w.heap.size < q ∧ q < wx.heap.size ∧ q ≠ nb ∧ q ≠ g) 0 [cs] a))
      case first =>
        cases B with
        | true =>
          have hne : ¬ peekM s rr.1 = some 41 := by rw [HPK.out]; exact of_decide_eq_true hB
          have kq := KF.out _ _ HC6.out.rdr
          clear hB
          go_wp2_with fail
          refine kq.mono ?_
          rintro e w7 ⟨rfl, hB7, hs7⟩
          have H7 := Lib.hid (HC6.out.stp hB7 hs7)
          clear kq hB7 hs7
          go_wp2
          go_meet
          refine ⟨failM b' 2, ?_, ?_, fun h0 => absurd h0 (failM_err (by decide)), H7, Lib.hid (fun h0 => absurd h0 (failM_err (by decide)))⟩
          · unfold closeM
            rw [if_neg hne]
            show _ = (failM rr.1 2).err
            unfold failM
            rw [HBE.out.1]
            split <;> first | rfl | exact HBE.out.1
          · rw [failM_pos]; have := HBE.out.2.2; omega
        | false =>
          have heq : peekM s rr.1 = some 41 := by rw [HPK.out]; have := of_decide_eq_false hB; simpa using this
          clear hB
          go_wp2
          go_meet
          refine ⟨b', ?_, by have := HBE.out.2.2; omega, HBE.out.2.1, HC6, HT6⟩
          unfold closeM
          rw [if_pos heq]
          exact HBE.out.1
      case rest =>
      obtain ⟨bz, hz1, hz2, hz3, HC7, HT7⟩ := hcut
      clear HC6 HT6 hB
      have c1 := HC7.out.rdr.c1
      have f1 := there_free HC7.out.rdr.th 1 (by omega)
      have hgs := HC7.out.rdr.lt
      go_upto_region 14 with fail
      refine wp_forget2 (fun W => Ca w W nb g s (stepM bz) cs ∧ (bz.err = 0 → NA W (fun q => w.heap.size < q ∧ q < W.heap.size ∧ q ≠ nb ∧ q ≠ g) 0 [cs] a)) ⟨HC7.out.step, fun h0 => ((HT7.out h0).keep (by simp) (fun q hq _ => Below.heap_setCell _ _ _ q hq.2.2.2)).mono (fun q hq => ⟨hq.1, by simpa using hq.2.1, hq.2.2⟩)⟩ (fun w8 hw8 => ?_)
      have HC8 := Lib.hid hw8.1
      have HT8 := Lib.hid hw8.2
      clear hw8 HC7 HT7 c1 f1
      go_wp2_with (first
      | ((with_reducible refine wpList_loadN rfl _ rfl _ rfl nb 0 ?hx cs ?hc hcl2 ?_); (case hx => rfl); (case hc => exact HC8.out.nd.at_))
      | ((with_reducible refine wpList_storeN rfl _ _ rfl _ rfl w.heap.size 0 cs ?hx ?hy ?ht hcl2 HON.out ?_); (case hx => rfl); (case hy => rfl); (case ht => exact HC8.out.res)))
      refine bodyPost_ret (results_agg1 rfl _ _ w.heap.size cs (.struct _) rfl (World.rangeAt_setCells_same _ _ _ _ (by rw [show cs.length = 258 from hcl2]; exact HC8.out.res)) Tryz.underlying148 rfl (by rw [show cs.length = 258 from hcl2]; exact node_size)) rfl ?_
      refine ⟨cs, stepM bz, rfl, hcl2, HON.out, (HC8.out.done _).1, ?_, ?_, fun h0 => ⟨?_, ((HT8.out h0).keep (by rw [size_setCells]; exact Nat.le_refl _) (fun q hq _ => heap_setCells _ _ _ (by omega) _ _)).mono (fun q hq => ⟨by omega, by rw [size_setCells]; exact hq.2.1⟩)⟩, (HC8.out.done _).2⟩
      · rw [HRE.out]; exact hz1
      · simp only [stepM]; omega
      · rw [HRE.out, closeM_pos]
        have := hz3 h0
        simp only [stepM]; omega
  · have hr := HR.out
    have ha := HA.out
    rw [if_neg e40] at hr ha
    have e40b : ((c : Int) == 40) = false := by rw [beq_eq_false_iff_ne]; omega
    clear HR HA HE KF3
    by_cases e91 : c = 91
    · subst e91
      rw [if_pos rfl] at hr ha
      subst hr ha
      have kc := rclass_is w3 g s b1 HC.out.rdr (by omega) (by omega)
      go_wp2_with fail
      refine kc.mono ?_
      rintro e w4 ⟨S', b', rfl, h1, h2, h3, h4, hk4⟩
      have H4 := Lib.hid (HC.out.stp h1 hk4)
      clear kc HC h1 hk4
      go_wp2_with (first
      | ((with_reducible refine wpList_loadN rfl _ rfl _ rfl nb 0 ?hx (nodeC 0 (S') nilS) ?hc (nodeC_len _ _ _) ?_); (case hx => rfl); (case hc => exact H4.out.nd.at_))
      | ((with_reducible refine wpList_storeN rfl _ _ rfl _ rfl w.heap.size 0 (nodeC 0 (S') nilS) ?hx ?hy ?ht (nodeC_len _ _ _) (oneN _ _) ?_); (case hx => rfl); (case hy => rfl); (case ht => exact H4.out.res)))
      refine bodyPost_ret (results_agg1 rfl _ _ w.heap.size (nodeC 0 (S') nilS) (.struct _) rfl (World.rangeAt_setCells_same _ _ _ _ (by rw [show (nodeC 0 (S') nilS).length = 258 from nodeC_len _ _ _]; exact H4.out.res)) Tryz.underlying148 rfl (by rw [show (nodeC 0 (S') nilS).length = 258 from nodeC_len _ _ _]; exact node_size)) rfl ?_
      exact ⟨_, b', rfl, Back.mk1 (H4.out.done _).1 h2 (by omega) h4 (H4.out.done _).2⟩
    rw [if_neg e91] at hr ha
    have e91b : ((c : Int) == 91) = false := by rw [beq_eq_false_iff_ne]; omega
    by_cases e46 : c = 46
    · subst e46
      rw [if_pos rfl] at hr ha
      subst hr ha
      go_wp2
      go_loopw [10] (fun v wr => ∃ k : Nat, v = .int .i64 (k : Nat) ∧ k ≤ 256 ∧ Hid (Ca w wr nb g s b1 (nodeC 0 (addU noB 0 k) nilS))) (fun v _ => 257 - (intOf v).toNat)
      case atStart => exact ⟨0, rfl, by omega, Lib.hid (by rw [addU_start]; exact HC.out)⟩
      case round =>
        clear HC
        obtain ⟨k, rfl, hk, HT⟩ := hrel
        by_cases hk2 : k < 256
        · have n1 := HT.out.nd.cell (nodeC_set 0 (addU noB 0 k) nilS k hk2)
          have f1 := HT.out.nd.free (j := 1 + k) (by omega)
          have hki0 : (0 : Int) ≤ (k : Int) := by omega
          have hki1 : (k : Int) < 256 := by omega
          go_wp2
          go_roundw
          case rel => exact ⟨k + 1, by go_num, by omega, Lib.hid (by
            have := HT.out.put (1 + k) (.bool true) (by omega)
            rw [nodeC_setB 0 _ _ k hk2, addU_succ (Nat.zero_le k)] at this
            exact this)⟩
          case measure => (simp [intOf]; try omega)
        · obtain rfl : k = 256 := by omega
          go_wp2_with (first
      | ((with_reducible refine wpList_loadN rfl _ rfl _ rfl nb 0 ?hx (nodeC 0 (addU noB 0 256) nilS) ?hc (nodeC_len _ _ _) ?_); (case hx => rfl); (case hc => exact HT.out.nd.at_))
      | ((with_reducible refine wpList_storeN rfl _ _ rfl _ rfl w.heap.size 0 (nodeC 0 (addU noB 0 256) nilS) ?hx ?hy ?ht (nodeC_len _ _ _) (oneN _ _) ?_); (case hx => rfl); (case hy => rfl); (case ht => exact HT.out.res)))
          refine bodyPost_ret (results_agg1 rfl _ _ w.heap.size (nodeC 0 (addU noB 0 256) nilS) (.struct _) rfl (World.rangeAt_setCells_same _ _ _ _ (by rw [show (nodeC 0 (addU noB 0 256) nilS).length = 258 from nodeC_len _ _ _]; exact HT.out.res)) Tryz.underlying148 rfl (by rw [show (nodeC 0 (addU noB 0 256) nilS).length = 258 from nodeC_len _ _ _]; exact node_size)) rfl ?_
          exact ⟨_, b1, rfl, Back.mk1 (HT.out.done _).1 rfl (by omega) (fun _ => ⟨rfl, dot_all _⟩) (HT.out.done _).2⟩
    rw [if_neg e46] at hr ha
    have e46b : ((c : Int) == 46) = false := by rw [beq_eq_false_iff_ne]; omega
    by_cases e92 : c = 92
    · subst e92
      rw [if_pos rfl] at hr ha
      obtain ⟨o, ho⟩ : ∃ o, peekM s b1 = o := ⟨_, rfl⟩
      have k2 := next_is w3 g s b1 o ho HC.out.rdr (by omega)
      rw [ho] at hr ha
      have hlt : ∀ x, o = some x → x < 256 := fun x hx => rpeek_lt (ho.trans hx)
      clear ho
      go_wp2_with fail
      refine k2.mono ?_
      rintro e w4 ⟨rfl, hb4⟩
      have H4 := Lib.hid (HC.out.below hb4)
      clear k2 hb4 HC
      rcases o with _ | x
      · dsimp only at hr ha
        subst hr ha
        have kq := KF.out _ _ H4.out.rdr
        go_wp2_with fail
        refine kq.mono ?_
        rintro e w5 ⟨rfl, hB5, hs5⟩
        have H5 := Lib.hid (H4.out.stp hB5 hs5)
        have c1 := H5.out.rdr.c1
        have f1 := there_free H5.out.rdr.th 1 (by omega)
        have hp5 : (failM b1 2).pos ≤ b1.pos := by rw [failM_pos]; exact Nat.le_refl _
        clear kq hB5 hs5 H4
        go_upto_region 28 with fail
        refine wp_forget2 (fun W => Ca w W nb g s (stepM (failM b1 2)) (nodeC 0 noB nilS)) H5.out.step (fun w6 hw6 => ?_)
        have H6 := Lib.hid hw6
        clear hw6 H5 c1 f1
        have n1 := H6.out.nd.cell (nodeC_set 0 noB nilS 0 (by omega))
        have f1 := H6.out.nd.free (j := 1) (by omega)
        go_upto_region 29 with fail
        refine wp_forget2 (fun W => Ca w W nb g s (stepM (failM b1 2)) (nodeC 0 (fun x => if x = 0 then true else noB x) nilS)) (by
          have := H6.out.put 1 (.bool true) (by omega)
          rw [show (1 : Nat) = 1 + 0 by rfl, nodeC_setB 0 _ _ 0 (by omega)] at this
          exact this) (fun w7 hw7 => ?_)
        have H7 := Lib.hid hw7
        clear hw7 H6 n1 f1
        go_wp2_with (first
      | ((with_reducible refine wpList_loadN rfl _ rfl _ rfl nb 0 ?hx (nodeC 0 (fun x => if x = 0 then true else noB x) nilS) ?hc (nodeC_len _ _ _) ?_); (case hx => rfl); (case hc => exact H7.out.nd.at_))
      | ((with_reducible refine wpList_storeN rfl _ _ rfl _ rfl w.heap.size 0 (nodeC 0 (fun x => if x = 0 then true else noB x) nilS) ?hx ?hy ?ht (nodeC_len _ _ _) (oneN _ _) ?_); (case hx => rfl); (case hy => rfl); (case ht => exact H7.out.res)))
        refine bodyPost_ret (results_agg1 rfl _ _ w.heap.size (nodeC 0 (fun x => if x = 0 then true else noB x) nilS) (.struct _) rfl (World.rangeAt_setCells_same _ _ _ _ (by rw [show (nodeC 0 (fun x => if x = 0 then true else noB x) nilS).length = 258 from nodeC_len _ _ _]; exact H7.out.res)) Tryz.underlying148 rfl (by rw [show (nodeC 0 (fun x => if x = 0 then true else noB x) nilS).length = 258 from nodeC_len _ _ _]; exact node_size)) rfl ?_
        exact ⟨_, _, rfl, Back.mk1 (H7.out.done _).1 rfl (by simp only [stepM]; omega) (fun h0 => absurd h0 (failM_err (by decide))) (H7.out.done _).2⟩
      · have hx := hlt x rfl
        (try dsimp only at hr ha)
        subst hr ha
        have c1 := H4.out.rdr.c1
        have f1 := there_free H4.out.rdr.th 1 (by omega)
        go_upto_region 28 with fail
        refine wp_forget2 (fun W => Ca w W nb g s (stepM b1) (nodeC 0 noB nilS)) H4.out.step (fun w6 hw6 => ?_)
        have H6 := Lib.hid hw6
        clear hw6 H4 c1 f1
        have n1 := H6.out.nd.cell (nodeC_set 0 noB nilS x hx)
        have f1 := H6.out.nd.free (j := 1 + x) (by omega)
        go_upto_region 29 with fail
        refine wp_forget2 (fun W => Ca w W nb g s (stepM b1) (nodeC 0 (fun y => if y = x then true else noB y) nilS)) (by
          have := H6.out.put (1 + x) (.bool true) (by omega)
          rw [nodeC_setB 0 _ _ x hx] at this
          exact this) (fun w7 hw7 => ?_)
        have H7 := Lib.hid hw7
        clear hw7 H6 n1 f1
        go_wp2_with (first
      | ((with_reducible refine wpList_loadN rfl _ rfl _ rfl nb 0 ?hx (nodeC 0 (fun y => if y = x then true else noB y) nilS) ?hc (nodeC_len _ _ _) ?_); (case hx => rfl); (case hc => exact H7.out.nd.at_))
      | ((with_reducible refine wpList_storeN rfl _ _ rfl _ rfl w.heap.size 0 (nodeC 0 (fun y => if y = x then true else noB y) nilS) ?hx ?hy ?ht (nodeC_len _ _ _) (oneN _ _) ?_); (case hx => rfl); (case hy => rfl); (case ht => exact H7.out.res)))
        refine bodyPost_ret (results_agg1 rfl _ _ w.heap.size (nodeC 0 (fun y => if y = x then true else noB y) nilS) (.struct _) rfl (World.rangeAt_setCells_same _ _ _ _ (by rw [show (nodeC 0 (fun y => if y = x then true else noB y) nilS).length = 258 from nodeC_len _ _ _]; exact H7.out.res)) Tryz.underlying148 rfl (by rw [show (nodeC 0 (fun y => if y = x then true else noB y) nilS).length = 258 from nodeC_len _ _ _]; exact node_size)) rfl ?_
        exact ⟨_, _, rfl, Back.mk1 (H7.out.done _).1 rfl (by simp only [stepM]; omega) (fun _ => ⟨rfl, by rw [oneS_eq]⟩) (H7.out.done _).2⟩
    rw [if_neg e92] at hr ha
    have e92b : ((c : Int) == 92) = false := by rw [beq_eq_false_iff_ne]; omega
    by_cases eo : oddB c = true
    · rw [if_pos eo] at hr ha
      subst hr ha
      have h4 : c = 42 ∨ c = 43 ∨ c = 63 ∨ c = 93 := by
        simp only [oddB, postB, Bool.or_eq_true, decide_eq_true_eq] at eo
        omega
      have hc2 : c < 256 := hcl
      clear eo
      have kq := KF.out _ _ HC.out.rdr
      have hp5 : (failM b1 2).pos ≤ b1.pos := by rw [failM_pos]; exact Nat.le_refl _
      rcases h4 with rfl | rfl | rfl | rfl
      · go_wp2_with fail
        refine kq.mono ?_
        rintro e w5 ⟨rfl, hB5, hs5⟩
        have H5 := Lib.hid (HC.out.stp hB5 hs5)
        clear kq hB5 hs5 HC
        have n1 := H5.out.nd.cell (nodeC_set 0 noB nilS 42 (by omega))
        have f1 := H5.out.nd.free (j := 1 + 42) (by omega)
        simp only [Nat.reduceAdd] at n1 f1
        go_upto_region 36 with fail
        refine wp_forget2 (fun W => Ca w W nb g s (failM b1 2) (nodeC 0 (fun x => if x = 42 then true else noB x) nilS)) (by
          have := H5.out.put (1 + 42) (.bool true) (by omega)
          rw [nodeC_setB 0 _ _ 42 (by omega)] at this
          exact this) (fun w7 hw7 => ?_)
        have H7 := Lib.hid hw7
        clear hw7 H5 n1 f1
        go_wp2_with (first
      | ((with_reducible refine wpList_loadN rfl _ rfl _ rfl nb 0 ?hx (nodeC 0 (fun x => if x = 42 then true else noB x) nilS) ?hc (nodeC_len _ _ _) ?_); (case hx => rfl); (case hc => exact H7.out.nd.at_))
      | ((with_reducible refine wpList_storeN rfl _ _ rfl _ rfl w.heap.size 0 (nodeC 0 (fun x => if x = 42 then true else noB x) nilS) ?hx ?hy ?ht (nodeC_len _ _ _) (oneN _ _) ?_); (case hx => rfl); (case hy => rfl); (case ht => exact H7.out.res)))
        refine bodyPost_ret (results_agg1 rfl _ _ w.heap.size (nodeC 0 (fun x => if x = 42 then true else noB x) nilS) (.struct _) rfl (World.rangeAt_setCells_same _ _ _ _ (by rw [show (nodeC 0 (fun x => if x = 42 then true else noB x) nilS).length = 258 from nodeC_len _ _ _]; exact H7.out.res)) Tryz.underlying148 rfl (by rw [show (nodeC 0 (fun x => if x = 42 then true else noB x) nilS).length = 258 from nodeC_len _ _ _]; exact node_size)) rfl ?_
        exact ⟨_, _, rfl, Back.mk1 (H7.out.done _).1 rfl (by omega) (fun h0 => absurd h0 (failM_err (by decide))) (H7.out.done _).2⟩
      · go_wp2_with fail
        refine kq.mono ?_
        rintro e w5 ⟨rfl, hB5, hs5⟩
        have H5 := Lib.hid (HC.out.stp hB5 hs5)
        clear kq hB5 hs5 HC
        have n1 := H5.out.nd.cell (nodeC_set 0 noB nilS 43 (by omega))
        have f1 := H5.out.nd.free (j := 1 + 43) (by omega)
        simp only [Nat.reduceAdd] at n1 f1
        go_upto_region 36 with fail
        refine wp_forget2 (fun W => Ca w W nb g s (failM b1 2) (nodeC 0 (fun x => if x = 43 then true else noB x) nilS)) (by
          have := H5.out.put (1 + 43) (.bool true) (by omega)
          rw [nodeC_setB 0 _ _ 43 (by omega)] at this
          exact this) (fun w7 hw7 => ?_)
        have H7 := Lib.hid hw7
        clear hw7 H5 n1 f1
        go_wp2_with (first
      | ((with_reducible refine wpList_loadN rfl _ rfl _ rfl nb 0 ?hx (nodeC 0 (fun x => if x = 43 then true else noB x) nilS) ?hc (nodeC_len _ _ _) ?_); (case hx => rfl); (case hc => exact H7.out.nd.at_))
      | ((with_reducible refine wpList_storeN rfl _ _ rfl _ rfl w.heap.size 0 (nodeC 0 (fun x => if x = 43 then true else noB x) nilS) ?hx ?hy ?ht (nodeC_len _ _ _) (oneN _ _) ?_); (case hx => rfl); (case hy => rfl); (case ht => exact H7.out.res)))
        refine bodyPost_ret (results_agg1 rfl _ _ w.heap.size (nodeC 0 (fun x => if x = 43 then true else noB x) nilS) (.struct _) rfl (World.rangeAt_setCells_same _ _ _ _ (by rw [show (nodeC 0 (fun x => if x = 43 then true else noB x) nilS).length = 258 from nodeC_len _ _ _]; exact H7.out.res)) Tryz.underlying148 rfl (by rw [show (nodeC 0 (fun x => if x = 43 then true else noB x) nilS).length = 258 from nodeC_len _ _ _]; exact node_size)) rfl ?_
        exact ⟨_, _, rfl, Back.mk1 (H7.out.done _).1 rfl (by omega) (fun h0 => absurd h0 (failM_err (by decide))) (H7.out.done _).2⟩
      · go_wp2_with fail
        refine kq.mono ?_
        rintro e w5 ⟨rfl, hB5, hs5⟩
        have H5 := Lib.hid (HC.out.stp hB5 hs5)
        clear kq hB5 hs5 HC
        have n1 := H5.out.nd.cell (nodeC_set 0 noB nilS 63 (by omega))
        have f1 := H5.out.nd.free (j := 1 + 63) (by omega)
        simp only [Nat.reduceAdd] at n1 f1
        go_upto_region 36 with fail
        refine wp_forget2 (fun W => Ca w W nb g s (failM b1 2) (nodeC 0 (fun x => if x = 63 then true else noB x) nilS)) (by
          have := H5.out.put (1 + 63) (.bool true) (by omega)
          rw [nodeC_setB 0 _ _ 63 (by omega)] at this
          exact this) (fun w7 hw7 => ?_)
        have H7 := Lib.hid hw7
        clear hw7 H5 n1 f1
        go_wp2_with (first
      | ((with_reducible refine wpList_loadN rfl _ rfl _ rfl nb 0 ?hx (nodeC 0 (fun x => if x = 63 then true else noB x) nilS) ?hc (nodeC_len _ _ _) ?_); (case hx => rfl); (case hc => exact H7.out.nd.at_))
      | ((with_reducible refine wpList_storeN rfl _ _ rfl _ rfl w.heap.size 0 (nodeC 0 (fun x => if x = 63 then true else noB x) nilS) ?hx ?hy ?ht (nodeC_len _ _ _) (oneN _ _) ?_); (case hx => rfl); (case hy => rfl); (case ht => exact H7.out.res)))
        refine bodyPost_ret (results_agg1 rfl _ _ w.heap.size (nodeC 0 (fun x => if x = 63 then true else noB x) nilS) (.struct _) rfl (World.rangeAt_setCells_same _ _ _ _ (by rw [show (nodeC 0 (fun x => if x = 63 then true else noB x) nilS).length = 258 from nodeC_len _ _ _]; exact H7.out.res)) Tryz.underlying148 rfl (by rw [show (nodeC 0 (fun x => if x = 63 then true else noB x) nilS).length = 258 from nodeC_len _ _ _]; exact node_size)) rfl ?_
        exact ⟨_, _, rfl, Back.mk1 (H7.out.done _).1 rfl (by omega) (fun h0 => absurd h0 (failM_err (by decide))) (H7.out.done _).2⟩
      · go_wp2_with fail
        refine kq.mono ?_
        rintro e w5 ⟨rfl, hB5, hs5⟩
        have H5 := Lib.hid (HC.out.stp hB5 hs5)
        clear kq hB5 hs5 HC
        have n1 := H5.out.nd.cell (nodeC_set 0 noB nilS 93 (by omega))
        have f1 := H5.out.nd.free (j := 1 + 93) (by omega)
        simp only [Nat.reduceAdd] at n1 f1
        go_upto_region 36 with fail
        refine wp_forget2 (fun W => Ca w W nb g s (failM b1 2) (nodeC 0 (fun x => if x = 93 then true else noB x) nilS)) (by
          have := H5.out.put (1 + 93) (.bool true) (by omega)
          rw [nodeC_setB 0 _ _ 93 (by omega)] at this
          exact this) (fun w7 hw7 => ?_)
        have H7 := Lib.hid hw7
        clear hw7 H5 n1 f1
        go_wp2_with (first
      | ((with_reducible refine wpList_loadN rfl _ rfl _ rfl nb 0 ?hx (nodeC 0 (fun x => if x = 93 then true else noB x) nilS) ?hc (nodeC_len _ _ _) ?_); (case hx => rfl); (case hc => exact H7.out.nd.at_))
      | ((with_reducible refine wpList_storeN rfl _ _ rfl _ rfl w.heap.size 0 (nodeC 0 (fun x => if x = 93 then true else noB x) nilS) ?hx ?hy ?ht (nodeC_len _ _ _) (oneN _ _) ?_); (case hx => rfl); (case hy => rfl); (case ht => exact H7.out.res)))
        refine bodyPost_ret (results_agg1 rfl _ _ w.heap.size (nodeC 0 (fun x => if x = 93 then true else noB x) nilS) (.struct _) rfl (World.rangeAt_setCells_same _ _ _ _ (by rw [show (nodeC 0 (fun x => if x = 93 then true else noB x) nilS).length = 258 from nodeC_len _ _ _]; exact H7.out.res)) Tryz.underlying148 rfl (by rw [show (nodeC 0 (fun x => if x = 93 then true else noB x) nilS).length = 258 from nodeC_len _ _ _]; exact node_size)) rfl ?_
        exact ⟨_, _, rfl, Back.mk1 (H7.out.done _).1 rfl (by omega) (fun h0 => absurd h0 (failM_err (by decide))) (H7.out.done _).2⟩
    · rw [if_neg eo] at hr ha
      subst hr ha
      have g1 : ((c : Int) == 42) = false := by rw [beq_eq_false_iff_ne]; intro h; apply eo; simp [oddB, postB]; omega
      have g2 : ((c : Int) == 43) = false := by rw [beq_eq_false_iff_ne]; intro h; apply eo; simp [oddB, postB]; omega
      have g3 : ((c : Int) == 63) = false := by rw [beq_eq_false_iff_ne]; intro h; apply eo; simp [oddB, postB]; omega
      have g4 : ((c : Int) == 93) = false := by rw [beq_eq_false_iff_ne]; intro h; apply eo; simp [oddB, postB]; omega
      have n1 := HC.out.nd.cell (nodeC_set 0 noB nilS c hcl)
      have f1 := HC.out.nd.free (j := 1 + c) (by omega)
      clear eo
      go_upto_region 36 with fail
      refine wp_forget2 (fun W => Ca w W nb g s b1 (nodeC 0 (fun y => if y = c then true else noB y) nilS)) (by
        have := HC.out.put (1 + c) (.bool true) (by omega)
        rw [nodeC_setB 0 _ _ c hcl] at this
        exact this) (fun w7 hw7 => ?_)
      have H7 := Lib.hid hw7
      clear hw7 n1 f1
      go_wp2_with (first
      | ((with_reducible refine wpList_loadN rfl _ rfl _ rfl nb 0 ?hx (nodeC 0 (fun y => if y = c then true else noB y) nilS) ?hc (nodeC_len _ _ _) ?_); (case hx => rfl); (case hc => exact H7.out.nd.at_))
      | ((with_reducible refine wpList_storeN rfl _ _ rfl _ rfl w.heap.size 0 (nodeC 0 (fun y => if y = c then true else noB y) nilS) ?hx ?hy ?ht (nodeC_len _ _ _) (oneN _ _) ?_); (case hx => rfl); (case hy => rfl); (case ht => exact H7.out.res)))
      refine bodyPost_ret (results_agg1 rfl _ _ w.heap.size (nodeC 0 (fun y => if y = c then true else noB y) nilS) (.struct _) rfl (World.rangeAt_setCells_same _ _ _ _ (by rw [show (nodeC 0 (fun y => if y = c then true else noB y) nilS).length = 258 from nodeC_len _ _ _]; exact H7.out.res)) Tryz.underlying148 rfl (by rw [show (nodeC 0 (fun y => if y = c then true else noB y) nilS).length = 258 from nodeC_len _ _ _]; exact node_size)) rfl ?_
      exact ⟨_, _, rfl, Back.mk1 (H7.out.done _).1 rfl (by omega) (fun _ => ⟨rfl, by rw [oneS_eq]⟩) (H7.out.done _).2⟩
end Go.Proofs.YtcfococinllcmaaGreat

/- The reference's Read: a contract. -/
namespace Go.Proofs.YtcfococinllcmaaGreat
open Go.RowKit
theorem nd_all : ∀ n, NdK 107 .either n ∧ NdK 129 .row n ∧ NdK 155 .atom n
  | 0 => ⟨fun m hm w g s d b _ _ _ _ _ _ hf => by simp only [fuelM] at hf; omega, fun m hm w g s d b _ _ _ _ _ _ hf => by simp only [fuelM] at hf; omega, fun m hm w g s d b _ _ _ _ _ _ hf => by simp only [fuelM] at hf; omega⟩
  | n + 1 => ⟨either_is n (nd_all n).2.1, row_is n (nd_all n).2.2, atom_is n (nd_all n).1⟩
structure Rz (w wx : World) (nb : Nat) (s : ByteArray) (b : Bs) (cs : List Value) (ok : Prop) (a : Re) : Prop where
  rdr : RdrAt wx (w.heap.size + 1) s b
  nd : NdAt wx nb cs
  res : wx.there w.heap.size 0 258
  bl : Below w.heap.size w wx
  hn : w.heap.size + 1 < nb
  one : ∀ y ∈ cs, y.oneCell' = true
  tree : ok → NA wx (fun q => w.heap.size + 2 ≤ q ∧ q < wx.heap.size) 0 [cs] a
theorem Rz.below {w wx wy : World} {nb : Nat} {s : ByteArray} {b : Bs} {cs : List Value} {ok : Prop} {a : Re} (h : Rz w wx nb s b cs ok a) (hb : Below wx.heap.size wx wy) : Rz w wy nb s b cs ok a :=
  ⟨h.rdr.below hb, h.nd.later hb, there_later h.res hb (by have := h.nd.lt; have := h.hn; omega), h.bl.trans (hb.mono h.bl.size), h.hn, h.one, fun o => ((h.tree o).later hb).mono (fun _ hq => ⟨hq.1, by have := hb.size; omega⟩)⟩
theorem Rz.stp {w wx wy : World} {nb : Nat} {s : ByteArray} {b b' : Bs} {cs : List Value} {ok : Prop} {a : Re} (h : Rz w wx nb s b cs ok a) (hr : RdrAt wy (w.heap.size + 1) s b') (hk : Kr (w.heap.size + 1) wx wy) : Rz w wy nb s b' cs ok a :=
  ⟨hr, h.nd.kr hk (by have := h.hn; omega), there_kept h.res (hk.block _ (by have := h.nd.lt; have := h.hn; omega) (by omega)), h.bl.trans (hk.below h.bl.size (fun k e => by omega)), h.hn, h.one, fun o => ((h.tree o).keep hk.size (fun q hq hlt => hk.block q hlt (by omega))).mono (fun _ hq => ⟨hq.1, by have := hk.size; omega⟩)⟩
theorem Rz.fin {w wx : World} {nb : Nat} {s : ByteArray} {b : Bs} {cs : List Value} {ok : Prop} {a : Re} (h : Rz w wx nb s b cs ok a) (vs : List Value) : RdrAt (wx.setCells w.heap.size 0 vs) (w.heap.size + 1) s b ∧ Below w.heap.size w (wx.setCells w.heap.size 0 vs) ∧ (ok → NA (wx.setCells w.heap.size 0 vs) (fun q => w.heap.size ≤ q ∧ q < (wx.setCells w.heap.size 0 vs).heap.size) 0 [cs] a) :=
  ⟨h.rdr.kept (by rw [size_setCells]; exact Nat.le_refl _) (heap_setCells _ _ _ (by omega) _ _), below_puts h.bl (Nat.le_refl _) vs, fun o => ((h.tree o).keep (w' := wx.setCells w.heap.size 0 vs) (by rw [size_setCells]; exact Nat.le_refl _) (fun q hq _ => heap_setCells _ _ _ (by omega) _ _)).mono (fun q hq => ⟨by omega, by rw [size_setCells]; exact hq.2⟩)⟩
theorem endR_err {s : ByteArray} {b : Bs} (he : b.err = (runR s).1.err) (hp : b.err = 0 → b.pos = (runR s).1.pos) : (endR s).err = if b.err = 0 ∧ b.pos < s.size then 2 else b.err := by
  unfold endR
  by_cases h0 : b.err = 0
  · rw [← hp h0]
    by_cases h1 : b.pos < s.size
    · rw [if_pos h1, if_pos ⟨h0, h1⟩]
      unfold failM
      rw [← he, if_pos h0]
    · rw [if_neg h1, if_neg (fun h => h1 h.2)]
      exact he.symm
  · have hn : ¬ (b.err = 0 ∧ b.pos < s.size) := fun h => h0 h.1
    rw [if_neg hn, he]
    split
    · unfold failM
      rw [← he, if_neg h0]
      exact he.symm
    · rfl
set_option maxHeartbeats 6400000 in
set_option maxRecDepth 100000 in
theorem rread_any (s : ByteArray) (w : World) :
    Calls Tryz.prog 88 #[.string s] w fun e w' => ∃ cs, e = .returned (.tuple #[.agg cs.toArray, .int .i64 (errM s)]) ∧ cs.length = 258 ∧ (∀ y ∈ cs, y.oneCell' = true) ∧ (errM s = 0 → NA w' (fun q => w.heap.size ≤ q ∧ q < w'.heap.size) 0 [cs] (reT s)) ∧ Below w.heap.size w w' := by
  have hT := there_new w 0 148
  have hB := alloc_below w (.cells (zeroN 0) 148)
  by_cases hl : 100 < s.size
  · have hl1 : (100 : Int) < (s.size : Int) := by omega
    have HE : Hid (errM s = 4) := Lib.hid (by unfold errM; rw [if_pos hl])
    have HT := Lib.hid hT
    have HB := Lib.hid hB
    clear hT hB
    go_enter Tryz.func88, Tryz.ntmps88
    go_wp2_with (first
      | (with_reducible refine wpList_allocN rfl rfl _ rfl w.heap.size rfl ?_)
      | ((with_reducible refine wpList_storeN rfl _ _ rfl _ rfl w.heap.size 0 (nodeC 0 noB nilS) ?hx ?hy ?ht (nodeC_len _ _ _) (oneN _ _) ?_); (case hx => rfl); (case hy => rfl); (case ht => exact HT.out)))
    refine bodyPost_ret (results_agg2 rfl _ _ w.heap.size (nodeC 0 noB nilS) (.struct _) rfl (World.rangeAt_setCells_same _ _ _ _ (by rw [nodeC_len]; exact HT.out)) Tryz.underlying148 rfl (by rw [nodeC_len]; exact node_size)) rfl ?_
    refine ⟨nodeC 0 noB nilS, ?_, nodeC_len _ _ _, oneN _ _, fun h0 => ?_, below_puts HB.out (Nat.le_refl _) _⟩
    · rw [HE.out]; rfl
    · rw [HE.out] at h0; exact absurd h0 (by decide)
  · have hl1 : (s.size : Int) ≤ 100 := by omega
    have HL : Hid (¬ 100 < s.size) := Lib.hid hl
    have HEE : Hid (errM s = (endR s).err) := Lib.hid (by unfold errM; rw [if_neg hl])
    have hb2 := hB.trans ((alloc_below (w.alloc (.cells (zeroN 0) 148)) (.cells #[.string s, .int .i64 0, .int .i64 0] 167)).mono hB.size)
    have hsz : ((w.alloc (.cells (zeroN 0) 148)).alloc (.cells #[.string s, .int .i64 0, .int .i64 0] 167)).heap.size = w.heap.size + 2 := by rw [World.size_alloc, World.size_alloc]
    have hrd : RdrAt ((w.alloc (.cells (zeroN 0) 148)).alloc (.cells #[.string s, .int .i64 0, .int .i64 0] 167)) (w.heap.size + 1) s bs0 := by
      have hr := Below.refl ((w.alloc (.cells (zeroN 0) 148)).alloc (.cells #[.string s, .int .i64 0, .int .i64 0] 167)).heap.size ((w.alloc (.cells (zeroN 0) 148)).alloc (.cells #[.string s, .int .i64 0, .int .i64 0] 167))
      have h0 := (box_cells hr).1 0 _ rfl
      have h1 := (box_cells hr).1 1 _ rfl
      have h2 := (box_cells hr).1 2 _ rfl
      have ht := box_there hr
      rw [World.size_alloc] at h0 h1 h2 ht
      exact ⟨h0, h1, h2, ht, by rw [hsz]; omega⟩
    have ht2 := there_later hT (alloc_below _ (.cells #[.string s, .int .i64 0, .int .i64 0] 167)) (by rw [World.size_alloc]; omega)
    obtain ⟨W2, hW2⟩ : ∃ W2, ((w.alloc (.cells (zeroN 0) 148)).alloc (.cells #[.string s, .int .i64 0, .int .i64 0] 167)) = W2 := ⟨_, rfl⟩
    rw [hW2] at hb2 hsz hrd ht2
    have ke := (nd_all (8 * s.size + 5)).1 _ (Nat.le_refl _) W2 (w.heap.size + 1) s 0 bs0 hrd rfl (by omega) (by simp [bs0]) (fun h => by cases h) (by omega) (by simp [fuelM, bs0])
    have HB2 := Lib.hid hb2
    have HT2 := Lib.hid ht2
    clear hb2 hrd ht2 hT hB
    go_enter Tryz.func88, Tryz.ntmps88
    go_upto_region 4 with (with_reducible refine wpList_allocN rfl rfl _ rfl w.heap.size rfl ?_)
    (try simp only [World.size_alloc])
    (try rw [hW2])
    clear hW2
    go_wp2_with fail
    refine ke.mono ?_
    rintro e w3 ⟨cs, b', rfl, hbk⟩
    have hn3 := NdAt.new w3 0 148
    have hs3 := hbk.kr.size
    have hrz : Rz w ((w3.alloc (.cells (zeroN 0) 148)).setCells w3.heap.size 0 cs) w3.heap.size s b' cs (b'.err = 0) (reT s) := by
      have hba := alloc_below w3 (.cells (zeroN 0) 148)
      have hbl3 : Below w.heap.size w w3 := HB2.out.trans (hbk.kr.below HB2.out.size (fun k e => by omega))
      have hlt := hbk.rdr.lt
      refine ⟨(hbk.rdr.below hba).kept (by rw [size_setCells]; exact Nat.le_refl _) (heap_setCells _ _ _ (by omega) _ _), hn3.stored hbk.len, there_kept (there_later (there_kept HT2.out (hbk.kr.block _ (by omega) (by omega))) hba (by omega)) (heap_setCells _ _ _ (by omega) _ _), below_puts (hbl3.trans (hba.mono hbl3.size)) (by omega) _, by omega, hbk.one, fun h0 => ?_⟩
      refine (((hbk.tree h0).2.later hba).keep (w' := (w3.alloc (.cells (zeroN 0) 148)).setCells w3.heap.size 0 cs) (by rw [size_setCells]; exact Nat.le_refl _) (fun q hq _ => heap_setCells _ _ _ (by omega) _ _)).mono (fun q hq => ⟨by omega, by rw [size_setCells, World.size_alloc]; omega⟩)
    have HTH := Lib.hid hn3.th
    have HLN := Lib.hid hbk.len
    have HON := Lib.hid hbk.one
    have HEN := Lib.hid (endR_err hbk.err (fun h0 => (hbk.tree h0).1))
    have hbp := hbk.pos
    clear ke hbk hn3 hs3 hsz HB2 HT2
    go_upto_region 5 with (first
      | (with_reducible refine wpList_allocN rfl rfl _ rfl w3.heap.size rfl ?_)
      | ((with_reducible refine wpList_storeN rfl _ _ rfl _ rfl w3.heap.size 0 cs ?hx ?hy ?ht HLN.out HON.out ?_); (case hx => rfl); (case hy => rfl); (case ht => exact HTH.out)))
    clear HTH
    (try simp only [Act.put, List.setIfInBounds_toArray, List.set_cons_zero, List.set_cons_succ])
    generalize ((w3.alloc (.cells (zeroN 0) 148)).setCells w3.heap.size 0 cs) = w4 at *
    generalize w3.heap.size = nb at *
    have HZ := Lib.hid hrz
    clear hrz
    obtain ⟨B, hB⟩ : ∃ B, decide (b'.err = 0 ∧ b'.pos < s.size) = B := ⟨_, rfl⟩
    have HBB := Lib.hid hB
    clear hB
    go_cut [31] from 32 (fun v wx => v = .bool B ∧ Hid (Rz w wx nb s b' cs (b'.err = 0) (reT s)))
    case first =>
      have c0 := HZ.out.rdr.c0
      have c1 := HZ.out.rdr.c1
      have c2 := HZ.out.rdr.c2
      by_cases h0 : b'.err = 0
      · have hpe : decide (b'.pos < s.size) = B := by rw [← HBB.out]; exact decide_eq_decide.2 ⟨fun h => ⟨h0, h⟩, fun h => h.2⟩
        have hpi : decide ((b'.pos : Int) < (s.size : Int)) = B := by rw [← hpe]; exact decide_eq_decide.2 (by omega)
        rw [h0] at c2
        have HPE := Lib.hid hpe
        clear hpe h0
        go_big_quiet (fail)
        go_wp2
        go_meet
        exact ⟨by first | rfl | exact congrArg Value.bool HPE.out, Lib.hid (HZ.out.below (bl_drewN (Below.refl _ _) _))⟩
      · have hbf : false = B := by rw [← HBB.out]; exact (decide_eq_false (fun h => h0 h.1)).symm
        have h0b : (b'.err == 0) = false := by rw [beq_eq_false_iff_ne]; exact h0
        clear h0
        subst hbf
        go_big_quiet (fail)
        go_wp2
        go_meet
        exact ⟨rfl, Lib.hid (HZ.out.below (bl_drewN (Below.refl _ _) _))⟩
    case rest =>
    obtain ⟨rfl, HY⟩ := hcut
    clear HZ
    go_upto_if 31 with fail
    go_cut [] from 32 (fun wx => ∃ bz : Bs, bz.err = errM s ∧ Hid (Rz w wx nb s bz cs (errM s = 0) (reT s)))
    case first =>
      cases B with
      | true =>
        have h1 := of_decide_eq_true HBB.out
        have kq := rfail_is wc (w.heap.size + 1) s b' 2 HY.out.rdr
        go_wp2_with fail
        refine kq.mono ?_
        rintro e w5 ⟨rfl, hB5, hs5⟩
        have hz := HY.out.stp hB5 hs5
        clear kq
        go_wp2
        go_meet
        have he : errM s = 2 := by rw [HEE.out, HEN.out, if_pos h1]
        refine ⟨failM b' 2, ?_, Lib.hid ⟨hz.rdr, hz.nd, hz.res, hz.bl, hz.hn, hz.one, fun h0 => absurd (he.symm.trans h0) (by decide)⟩⟩
        rw [he]
        unfold failM
        rw [if_pos h1.1]
      | false =>
        have h1 := of_decide_eq_false HBB.out
        go_wp2
        go_meet
        have he : errM s = b'.err := by rw [HEE.out, HEN.out, if_neg h1]
        exact ⟨b', he.symm, Lib.hid (by rw [he]; exact HY.out)⟩
    case rest =>
    obtain ⟨bz, hbz, HX⟩ := hcut
    have HBZ := Lib.hid hbz
    clear HY HBB hbz
    have c2 := HX.out.rdr.c2
    by_cases h0 : bz.err = 0
    · have HE0 : Hid (errM s = 0) := Lib.hid (HBZ.out.symm.trans h0)
      rw [h0] at c2
      go_wp2_with (first
        | ((with_reducible refine wpList_loadN rfl _ rfl _ rfl nb 0 ?hx cs ?hc HLN.out ?_); (case hx => rfl); (case hc => exact HX.out.nd.at_))
        | ((with_reducible refine wpList_storeN rfl _ _ rfl _ rfl w.heap.size 0 cs ?hx ?hy ?ht HLN.out HON.out ?_); (case hx => rfl); (case hy => rfl); (case ht => exact HX.out.res)))
      refine bodyPost_ret (results_agg2 rfl _ _ w.heap.size cs (.struct _) rfl (World.rangeAt_setCells_same _ _ _ _ (by rw [HLN.out]; exact HX.out.res)) Tryz.underlying148 rfl (by rw [HLN.out]; exact node_size)) rfl ?_
      have hf := HX.out.fin cs
      exact ⟨cs, by rw [HE0.out]; rfl, HLN.out, HON.out, fun h => hf.2.2 h, hf.2.1⟩
    · have h0b : (bz.err != 0) = true := by simpa using h0
      have HNE : Hid (¬ errM s = 0) := Lib.hid (fun h => h0 (HBZ.out.trans h))
      clear h0
      have HXD := Lib.hid (HX.out.below ((Below.refl _ _).drew))
      go_upto_region 8 with fail
      refine wp_region_held_drew (S := (fun W => W.cell? ⟨w.heap.size + 1, 2, none⟩ = some (.int .i64 bz.err))) (by kernel_rfl) HX.out.rdr.c2 (fun hHeld => ?_)
      refine held_take (i := 0) (v := ?_) rfl rfl (by kernel_rfl) (by kernel_rfl) (by kernel_rfl) (fun _ _ _ h => h) (by rfl) hHeld ?_ ?_
      rotate_left
      · rintro wh hS
        go_simp
        (try with_reducible rfl)
      simp only [Act.put, List.setIfInBounds_toArray, List.set_cons_zero, List.set_cons_succ]
      refine held_take (i := 1) (v := ?_) rfl rfl (by kernel_rfl) (by kernel_rfl) (by kernel_rfl) (fun _ _ _ h => h) (by rfl) hHeld ?_ ?_
      rotate_left
      · rintro wh hS
        go_simp
        (try with_reducible rfl)
      simp only [Act.put, List.setIfInBounds_toArray, List.set_cons_zero, List.set_cons_succ]
      refine held_take (i := 2) (v := ?_) rfl rfl (by kernel_rfl) (by kernel_rfl) (by kernel_rfl) (fun _ _ _ h => h) (by rfl) hHeld ?_ ?_
      rotate_left
      · rintro wh hS
        go_simp
        (try with_reducible rfl)
      simp only [Act.put, List.setIfInBounds_toArray, List.set_cons_zero, List.set_cons_succ]
      refine held_take (i := 3) (v := ?_) rfl rfl (by kernel_rfl) (by kernel_rfl) (by kernel_rfl) (fun _ _ _ h => h) (by rfl) hHeld ?_ ?_
      rotate_left
      · rintro wh hS
        go_simp
        (try with_reducible rfl)
      simp only [Act.put, List.setIfInBounds_toArray, List.set_cons_zero, List.set_cons_succ]
      refine held_take (i := 4) (v := ?_) rfl rfl (by kernel_rfl) (by kernel_rfl) (by kernel_rfl) (fun _ _ _ h => h) (by rfl) hHeld ?_ ?_
      rotate_left
      · rintro wh hS
        go_simp
        (try with_reducible rfl)
      simp only [Act.put, List.setIfInBounds_toArray, List.set_cons_zero, List.set_cons_succ]
      refine held_step (i := 5) rfl (by kernel_rfl) (fun K hK => ?_)
      rw [if_pos (by rfl)]; refine wp_store_mid 148 _ _ rfl w.heap.size 0 (nodeC 0 noB nilS).toArray ?hx ?hy ?ht ?hi ?h1 ?_; (case hx => rfl); (case hy => rfl); (case ht => simp only [List.size_toArray, nodeC_len]; exact HXD.out.res); (case hi => simp only [List.size_toArray, nodeC_len]; exact node_size); (case h1 => exact all_oneCell_toArray (oneN 0 noB)); simp only [List.getElem_toArray, List.getElem_cons_succ, List.getElem_cons_zero, Act.put]
      refine hK.out _ _ (HXD.out.fin (nodeC 0 noB nilS)).1.c2 (fun hHeld => ?_)
      clear hK K
      (try simp only [Act.put, List.setIfInBounds_toArray])
      refine held_take (i := 6) (v := ?_) rfl rfl (by kernel_rfl) (by kernel_rfl) (by kernel_rfl) (fun _ _ _ h => h) (by rfl) hHeld ?_ ?_
      rotate_left
      · rintro wh hS
        go_simp
        (try with_reducible rfl)
      simp only [Act.put, List.setIfInBounds_toArray, List.set_cons_zero, List.set_cons_succ]
      refine wpAnyH_done (by kernel_rfl) ?_ _
      go_wp2
      refine bodyPost_ret (results_agg2 rfl _ _ w.heap.size (nodeC 0 noB nilS) (.struct _) rfl (World.rangeAt_setCells_same _ _ _ _ (by rw [nodeC_len]; exact HXD.out.res)) Tryz.underlying148 rfl (by rw [nodeC_len]; exact node_size)) rfl ?_
      have hf := HXD.out.fin (nodeC 0 noB nilS)
      exact ⟨nodeC 0 noB nilS, by rw [← HBZ.out]; rfl, nodeC_len _ _ _, oneN _ _, fun h => absurd h HNE.out, hf.2.1⟩
end Go.Proofs.YtcfococinllcmaaGreat

/- Rows of Booleans; lychgateref05.both: a contract. -/
namespace Go.Proofs.YtcfococinllcmaaGreat
open Go.RowKit
theorem wp_forget3 {Pr : Program} {Q : Exit → Act → World → Prop} {c : Code} {a : Act} {W : World} (P : World → Prop) (h : P W) (k : ∀ W', P W' → Code.wp Pr c Q a W') : Code.wp Pr c Q a W := k W h
def BsAt (w : World) (v : Value) (n : Nat) (X : Nat → Bool) : Prop := ∃ b, v = .slice (some ⟨b, 0, none⟩) n n ∧ w.rowIs b 4 n (fun j => .bool (X j))
theorem BsAt.later {w w' : World} {v : Value} {n : Nat} {X : Nat → Bool} (h : BsAt w v n X) (hb : Below w.heap.size w w') : BsAt w' v n X := by
  obtain ⟨b, e, hr⟩ := h
  exact ⟨b, e, hr.of_block (hb.block b hr.lt)⟩
theorem BsAt.congr {w : World} {v : Value} {n : Nat} {X Y : Nat → Bool} (h : BsAt w v n X) (e : ∀ j, j < n → X j = Y j) : BsAt w v n Y := by
  obtain ⟨b, e1, hr⟩ := h
  exact ⟨b, e1, hr.congr (fun j hj => by rw [e j hj])⟩
theorem info_bool : (Tryz.prog.info? 4).map (fun i => (i.zero, i.size, i.bytes)) = some (some (.bool false), 1, 1) := by kernel_rfl
theorem bs_made (w : World) (n : Nat) : (w.alloc (.cells (madeCells #[.bool false] n) 4)).rowIs w.heap.size 4 n (fun j => .bool ((fun _ => false) j)) := World.rowIs_made w (.bool false) n _
theorem bs_put {w : World} {b : Nat} {n : Nat} {X : Nat → Bool} (h : w.rowIs b 4 n (fun j => .bool (X j))) (i : Nat) (v : Bool) : (w.setCell ⟨b, i, none⟩ (.bool v)).rowIs b 4 n (fun j => .bool (if j = i then v else X j)) :=
  (h.set i (.bool v)).congr (fun j _ => by by_cases e : j = i <;> simp [e])
structure BW (w wr : World) (b n : Nat) (X : Nat → Bool) : Prop where
  row : wr.rowIs b 4 n (fun j => .bool (X j))
  bl : Below w.heap.size w wr
  hb : w.heap.size ≤ b
theorem BW.new (w : World) (n : Nat) : BW w (w.alloc (.cells (madeCells #[.bool false] n) 4)) w.heap.size n (fun _ => false) := ⟨bs_made w n, alloc_below _ _, Nat.le_refl _⟩
theorem BW.put {w wr : World} {b n : Nat} {X : Nat → Bool} (h : BW w wr b n X) (i : Nat) (v : Bool) : BW w (wr.setCell ⟨b, i, none⟩ (.bool v)) b n (fun j => if j = i then v else X j) := ⟨bs_put h.row i v, below_put h.bl h.hb, h.hb⟩
theorem BW.congr {w wr : World} {b n : Nat} {X Y : Nat → Bool} (h : BW w wr b n X) (e : ∀ j, j < n → X j = Y j) : BW w wr b n Y := ⟨h.row.congr (fun j hj => by rw [e j hj]), h.bl, h.hb⟩
theorem BW.old {w wr : World} {b n : Nat} {X : Nat → Bool} (h : BW w wr b n X) {g m j : Nat} {Y : Nat → Bool} (hY : w.rowIs g 4 m (fun j => .bool (Y j))) (hj : j < m) : wr.cell? ⟨g, j, none⟩ = some (.bool (Y j)) := keep_cell (hY.cell hj) h.bl hY.lt
set_option maxHeartbeats 1600000 in
set_option maxRecDepth 100000 in
theorem both_any (n : Nat) (A B : Nat → Bool) (av bv : Value) (w : World) (hA : BsAt w av n A) (hB : BsAt w bv n B) (hn : n ≤ 1000) :
    Calls Tryz.prog 148 #[av, bv] w fun e w' => ∃ v, e = .returned v ∧ BsAt w' v n (fun j => A j || B j) ∧ Below w.heap.size w w' := by
  obtain ⟨ab, rfl, hA⟩ := hA
  obtain ⟨bb, rfl, hB⟩ := hB
  obtain ⟨i0, hi, hz0, hz1, hz2⟩ := info_parts info_bool
  have HA := Lib.hid hA
  have HB := Lib.hid hB
  have HN := Lib.hid (BW.new w n)
  clear hA hB
  go_enter Tryz.func148, Tryz.ntmps148
  go_wp2_with ((with_reducible refine wpList_make_row _ rfl _ _ 185 rfl 4 i0 (.bool false) Tryz.underlying185 hi hz0 hz1 rfl .i64 .i64 n ?hl ?hc ?hb ?h63 ?_); (case hl => rfl); (case hc => rfl); (case hb => rw [hz2]; omega); (case h63 => omega))
  refine wp_forget3 (fun W => BW w W w.heap.size n (fun _ => false)) HN.out (fun w1 hw1 => ?_)
  have H1 := Lib.hid hw1
  clear hw1 HN
  go_loopw [6] (fun v wr => ∃ i : Nat, v = .int .i64 (i : Nat) ∧ i ≤ n ∧ Hid (BW w wr w.heap.size n (fun j => if j < i then A j || B j else false))) (fun v _ => n + 1 - (intOf v).toNat)
  case atStart => exact ⟨0, rfl, Nat.zero_le _, Lib.hid (H1.out.congr (fun j _ => by simp))⟩
  case round =>
    clear H1
    obtain ⟨i, rfl, hin, HW⟩ := hrel
    by_cases h : i < n
    · have qa := HW.out.old HA.out h
      have qb := HW.out.old HB.out h
      have qo := HW.out.row.cell h
      have fo := HW.out.row.frozen i
      have hi0 : (0 : Int) ≤ (i : Int) := by omega
      have hi1 : (i : Int) < (n : Int) := by omega
      have HS := Lib.hid ((HW.out.put i (A i || B i)).congr (Y := fun j => if j < i + 1 then A j || B j else false) (fun j _ => by
        by_cases e : j = i
        · subst e; simp
        · by_cases e2 : j < i
          · simp [e, e2, show j < i + 1 by omega]
          · simp [e, e2, show ¬ j < i + 1 by omega]))
      clear HA HB
      cases hA : A i <;> cases hB : B i <;> rw [hA] at qa HS <;> rw [hB] at qb HS
      all_goals
        go_wp2
        go_roundw
        case rel => exact ⟨i + 1, by go_num, by omega, HS⟩
        case measure => (simp [intOf]; try omega)
    · obtain rfl : i = n := by omega
      go_wp2
      go_ret
      exact ⟨_, rfl, ⟨_, rfl, HW.out.row.congr (fun j hj => by rw [if_pos hj])⟩, HW.out.bl⟩
end Go.Proofs.YtcfococinllcmaaGreat

/- The reference's ends, of a set, of alternatives, of a row, of one perhaps: contracts. -/
namespace Go.Proofs.YtcfococinllcmaaGreat
open Go.RowKit
theorem bytesN_at (s : ByteArray) (i : Nat) (h : i < (bytesN s).length) : (bytesN s)[i] = byteM s i := by
  have hs : i < s.size := by rw [bytesN_len] at h; exact h
  unfold byteM
  rw [dif_pos hs]
  exact List.getElem_map (fun (x : UInt8) => x.toNat)
def EnB (s : ByteArray) (a : Re) (X Y : Nat → Bool) : Prop := ∀ j, j ≤ s.size → (Y j = true ↔ En (bytesN s) a (fun i => X i = true) j)
def EndsK (w : World) (s : ByteArray) (x : List Value) (a : Re) : Prop := ∀ (w' : World), Below w.heap.size w w' → ∀ (v : Value) (X : Nat → Bool), BsAt w' v (s.size + 1) X →
  Calls Tryz.prog 123 #[.agg x.toArray, .string s, v] w' fun e w'' => ∃ v' Y, e = .returned v' ∧ BsAt w'' v' (s.size + 1) Y ∧ EnB s a X Y ∧ Below w'.heap.size w' w''
structure Ez (w wr : World) (x : List Value) : Prop where
  at_ : wr.rangeAt w.heap.size 0 x
  lt : w.heap.size < wr.heap.size
  bl : Below w.heap.size w wr
theorem Ez.below {w wr wr' : World} {x : List Value} (h : Ez w wr x) (hb : Below wr.heap.size wr wr') : Ez w wr' x := ⟨range_later h.at_ hb h.lt, Nat.lt_of_lt_of_le h.lt hb.size, h.bl.trans (hb.mono h.bl.size)⟩
theorem Ez.cell {w wr : World} {x : List Value} (h : Ez w wr x) {j : Nat} {v : Value} (hv : x[j]? = some v) : wr.cell? ⟨w.heap.size, j, none⟩ = some v := by
  have := h.at_ j v hv
  rwa [Nat.zero_add] at this
theorem Ez.set {w wr : World} {x : List Value} (h : Ez w wr x) {b : Nat} (hb : w.heap.size < b) (i : Nat) (v : Value) : Ez w (wr.setCell ⟨b, i, none⟩ v) x :=
  ⟨fun j u hu => by rw [rfar (by omega)]; exact h.at_ j u hu, by simpa using h.lt, below_put h.bl (by omega)⟩
theorem Ez.new (w : World) (x : List Value) (t u : TypeId) (c : Array Value) : Ez w ((w.alloc (.cells x.toArray t)).alloc (.cells c u)) x := by
  have h0 := box_range (Below.refl _ (w.alloc (.cells x.toArray t)))
  have hb := alloc_below (w.alloc (.cells x.toArray t)) (.cells c u)
  have h1 := alloc_below w (.cells x.toArray t)
  refine ⟨range_later (by simpa using h0) hb (by rw [World.size_alloc]; omega), by rw [World.size_alloc, World.size_alloc]; omega, h1.trans (hb.mono h1.size)⟩
theorem row_new (w : World) (x : Array Value) (t : TypeId) (n : Nat) : ((w.alloc (.cells x t)).alloc (.cells (madeCells #[.bool false] n) 4)).rowIs (w.heap.size + 1) 4 n (fun j => .bool ((fun _ => false) j)) := by
  have := bs_made (w.alloc (.cells x t)) n
  rwa [World.size_alloc] at this
theorem KidsAt.at {w : World} {P : Nat → Prop} {kv : Value} {l : List (List Value)} (h : KidsAt w P kv l) : ∃ a c, kv = .slice a l.length c ∧ l.length ≤ c ∧ (0 < l.length → ∃ b o, a = some ⟨b, o, none⟩ ∧ b < w.heap.size ∧ ∀ k (hk : k < l.length), w.rangeAt b (o + k * 258) l[k]) := by
  obtain ⟨a, c, rfl, hc, hr⟩ := RdAt.shape h.row
  refine ⟨a, c, rfl, hc, fun hn => ?_⟩
  obtain ⟨b, o, rfl, hb, hcell⟩ := hr hn
  refine ⟨b, o, rfl, hb, fun k hk j v hv => ?_⟩
  rw [Nat.add_assoc]
  refine hcell (k * 258 + j) v ?_
  have key : ∀ (l : List (List Value)), (∀ x ∈ l, x.length = 258) → ∀ k (hk : k < l.length) j, j < 258 → l.flatten[k * 258 + j]? = l[k][j]? := by
    intro l
    induction l with
    | nil => intro _ k hk; exact absurd hk (by simp)
    | cons x l ih =>
      intro hx k hk j hj
      have hx0 := hx x List.mem_cons_self
      rw [List.flatten_cons]
      cases k with
      | zero => rw [Nat.zero_mul, Nat.zero_add, List.getElem?_append_left (by omega)]; rfl
      | succ k =>
        rw [List.getElem?_append_right (by omega), hx0, show (k + 1) * 258 + j - 258 = k * 258 + j by omega, ih (fun y hy => hx y (List.mem_cons_of_mem _ hy)) k (by simpa using hk) j hj]
        rfl
  rw [key l h.each k hk j (by have := (List.getElem?_eq_some_iff.1 hv).1; rw [h.each _ (List.getElem_mem hk)] at this; exact this)]
  exact hv
def setY (s : ByteArray) (S X : Nat → Bool) (i j : Nat) : Bool := decide (1 ≤ j) && (decide (j ≤ i) && (X (j - 1) && S (byteM s (j - 1))))
theorem setY_succ (s : ByteArray) (S X : Nat → Bool) (i j : Nat) : (if j = i + 1 then X i && S (byteM s i) else setY s S X i j) = setY s S X (i + 1) j := by
  unfold setY
  by_cases e : j = i + 1
  · subst e
    rw [if_pos rfl, decide_eq_true (show 1 ≤ i + 1 by omega), decide_eq_true (Nat.le_refl (i + 1))]
    simp
  · rw [if_neg e]
    congr 2
    exact decide_eq_decide.2 (by omega)
theorem setY_en (s : ByteArray) (S X : Nat → Bool) : EnB s (.set S) X (setY s S X s.size) := by
  intro j hj
  unfold setY
  cases j with
  | zero => exact ⟨fun h => by simp at h, fun h => absurd h (En_set0 _ _ _)⟩
  | succ j =>
    have hlt : j < (bytesN s).length := by rw [bytesN_len]; omega
    rw [En_set _ _ _ _ hlt, bytesN_at s j hlt, decide_eq_true (show 1 ≤ j + 1 by omega), decide_eq_true hj]
    simp
set_option maxHeartbeats 3200000 in
set_option maxRecDepth 100000 in
theorem ends_set (w0 : World) (s : ByteArray) (S : Nat → Bool) (kv : Value) (hs : s.size ≤ 900) : EndsK w0 s (nodeC 0 S kv) (.set S) := by
  intro w _ v X hv
  obtain ⟨ab, rfl, hX⟩ := hv
  obtain ⟨i0, hi, hz0, hz1, hz2⟩ := info_parts info_bool
  have HX := Lib.hid hX
  have HE := Lib.hid (Ez.new w (nodeC 0 S kv) 148 4 (madeCells #[.bool false] (s.size + 1)))
  have HR := Lib.hid (row_new w (nodeC 0 S kv).toArray 148 (s.size + 1))
  clear hX
  go_enter Tryz.func123, Tryz.ntmps123
  go_upto_region 2 with (first
    | ((with_reducible refine Great.wpList_boxTo rfl _ _ rfl _ rfl w.heap.size rfl (nodeC 0 S kv).toArray ?hx ?_); (case hx => rfl))
    | ((with_reducible refine wpList_make_row _ rfl _ _ 185 rfl 4 i0 (.bool false) Tryz.underlying185 hi hz0 hz1 rfl .i64 .i64 (s.size + 1) ?hl ?hc ?hb ?h63 ?_); (case hl => rfl); (case hc => rfl); (case hb => rw [hz2]; omega); (case h63 => omega)))
  (try simp only [World.size_alloc])
  refine wp_forget3 (fun W => Ez w W (nodeC 0 S kv) ∧ W.rowIs (w.heap.size + 1) 4 (s.size + 1) (fun j => .bool ((fun _ => false) j))) ⟨HE.out, HR.out⟩ (fun w1 hw1 => ?_)
  have H1 := Lib.hid hw1.1
  have HR1 := Lib.hid hw1.2
  have c0 := H1.out.cell (nodeC_0 _ _ _)
  clear hw1 HE HR
  go_wp2
  go_loopw [8] (fun vi wr => ∃ i : Nat, vi = .int .i64 (i : Nat) ∧ i ≤ s.size ∧ Hid (Ez w wr (nodeC 0 S kv)) ∧ Hid (wr.rowIs (w.heap.size + 1) 4 (s.size + 1) (fun j => .bool (setY s S X i j)))) (fun v _ => s.size + 1 - (intOf v).toNat)
  case atStart => exact ⟨0, rfl, Nat.zero_le _, H1, Lib.hid (HR1.out.congr (fun j _ => by
    unfold setY
    by_cases h : 1 ≤ j
    · rw [decide_eq_false (show ¬ j ≤ 0 by omega)]; simp
    · rw [decide_eq_false h]; simp))⟩
  case round =>
    clear H1 HR1 c0
    obtain ⟨i, rfl, hin, HZ, HW⟩ := hrel
    by_cases h : i < s.size
    · obtain ⟨c, hc⟩ : ∃ c, byteM s i = c := ⟨_, rfl⟩
      have hbx := rbyte_at s i h
      have hc256 := byteM_lt s i
      have qa := keep_cell (HX.out.cell (show i < s.size + 1 by omega)) HZ.out.bl HX.out.lt
      have qo := HW.out.cell (show i + 1 < s.size + 1 by omega)
      have fo := HW.out.frozen (i + 1)
      have HS := Lib.hid (((bs_put HW.out (i + 1) (X i && S (byteM s i)))).congr (g := fun j => .bool (setY s S X (i + 1) j)) (fun j _ => by rw [setY_succ]))
      rw [hc] at hbx hc256 HS
      have qs := HZ.out.cell (nodeC_set 0 S kv c hc256)
      have HZ2 := Lib.hid (HZ.out.set (show w.heap.size < w.heap.size + 1 by omega) (i + 1) (.bool (X i && S c)))
      have hi0 : (0 : Int) ≤ (i : Int) := by omega
      have hi1 : (i : Int) < (s.size : Int) := by omega
      have hci0 : (0 : Int) ≤ (c : Int) := by omega
      have hci1 : (c : Int) < 256 := by omega
      clear hc HX HZ HW
      cases hXi : X i with
      | false =>
        rw [hXi] at qa HS HZ2
        clear hbx qs
        go_wp2
        go_roundw
        case rel => exact ⟨i + 1, by go_num, by omega, HZ2, HS⟩
        case measure => (simp [intOf]; try omega)
      | true =>
        rw [hXi] at qa HS HZ2
        cases hSc : S c with
        | false =>
          rw [hSc] at qs HS HZ2
          go_wp2
          go_roundw
          case rel => exact ⟨i + 1, by go_num, by omega, HZ2, HS⟩
          case measure => (simp [intOf]; try omega)
        | true =>
          rw [hSc] at qs HS HZ2
          go_wp2
          go_roundw
          case rel => exact ⟨i + 1, by go_num, by omega, HZ2, HS⟩
          case measure => (simp [intOf]; try omega)
    · obtain rfl : i = s.size := by omega
      go_wp2
      go_ret
      exact ⟨_, setY s S X s.size, rfl, ⟨_, rfl, HW.out⟩, setY_en s S X, HZ.out.bl⟩
structure Kd (w0 : World) (s : ByteArray) (P : Nat → Prop) (kv : Value) (l : List (List Value)) (bs : List Re) : Prop where
  kids : KidsAt w0 P kv l
  len : bs.length = l.length
  each : ∀ i (h : i < l.length) (h2 : i < bs.length), EndsK w0 s l[i] bs[i]
theorem take_fold {f : Re → Re → Re} {z : Re} {bs : List Re} {k : Nat} (h : k < bs.length) : (bs.take (k + 1)).foldl f z = f ((bs.take k).foldl f z) bs[k] := by
  rw [List.take_add_one, List.getElem?_eq_getElem h, List.foldl_append]
  rfl
set_option maxHeartbeats 3200000 in
set_option maxRecDepth 100000 in
theorem ends_alts (w0 : World) (s : ByteArray) (P : Nat → Prop) (S : Nat → Bool) (kv : Value) (l : List (List Value)) (bs : List Re) (hk : Kd w0 s P kv l bs) (hs : s.size ≤ 900) : EndsK w0 s (nodeC 1 S kv) (bs.foldl Re.alt .no) := by
  intro w hb0 v X hv
  obtain ⟨ab, rfl, hX⟩ := hv
  obtain ⟨ka, kc, rfl, -, hkk⟩ := hk.kids.at
  have HK := Lib.hid hk
  have HKK := Lib.hid hkk
  have HB0 := Lib.hid hb0
  have hfew := hk.kids.few
  clear hk hkk hb0
  obtain ⟨i0, hi, hz0, hz1, hz2⟩ := info_parts info_bool
  have HX := Lib.hid hX
  have HE := Lib.hid (Ez.new w (nodeC 1 S (.slice ka l.length kc)) 148 4 (madeCells #[.bool false] (s.size + 1)))
  have HR := Lib.hid (row_new w (nodeC 1 S (.slice ka l.length kc)).toArray 148 (s.size + 1))
  clear hX
  go_enter Tryz.func123, Tryz.ntmps123
  go_upto_region 2 with (first
    | ((with_reducible refine Great.wpList_boxTo rfl _ _ rfl _ rfl w.heap.size rfl (nodeC 1 S (.slice ka l.length kc)).toArray ?hx ?_); (case hx => rfl))
    | ((with_reducible refine wpList_make_row _ rfl _ _ 185 rfl 4 i0 (.bool false) Tryz.underlying185 hi hz0 hz1 rfl .i64 .i64 (s.size + 1) ?hl ?hc ?hb ?h63 ?_); (case hl => rfl); (case hc => rfl); (case hb => rw [hz2]; omega); (case h63 => omega)))
  (try simp only [World.size_alloc])
  refine wp_forget3 (fun W => Ez w W (nodeC 1 S (.slice ka l.length kc)) ∧ W.rowIs (w.heap.size + 1) 4 (s.size + 1) (fun j => .bool ((fun _ => false) j))) ⟨HE.out, HR.out⟩ (fun w1 hw1 => ?_)
  have H1 := Lib.hid hw1.1
  have HR1 := Lib.hid hw1.2
  have c0 := H1.out.cell (nodeC_0 _ _ _)
  clear hw1 HE HR
  go_wp2
  go_loopw [7, 9] (fun v7 vi wr => ∃ (i : Nat) (Y : Nat → Bool), vi = .int .i64 (i : Nat) ∧ i ≤ l.length ∧ Hid (Ez w wr (nodeC 1 S (.slice ka l.length kc))) ∧ Hid (BsAt wr v7 (s.size + 1) Y) ∧ Hid (EnB s ((bs.take i).foldl Re.alt .no) X Y)) (fun _ v _ => l.length + 1 - (intOf v).toNat)
  case atStart => exact ⟨0, fun _ => false, rfl, Nat.zero_le _, H1, Lib.hid ⟨_, rfl, HR1.out⟩, Lib.hid (fun j _ => ⟨fun h => by simp at h, fun h => absurd h (En_no _ _ _)⟩)⟩
  case round =>
    clear H1 HR1 c0
    obtain ⟨i, Y, rfl, hin, HZ, HY, HN⟩ := hrel
    have q257 := HZ.out.cell (nodeC_kids _ _ _)
    by_cases h : i < l.length
    · obtain ⟨b, o, rfl, hbl, hat⟩ := HKK.out (by omega)
      have hbs : i < bs.length := by rw [HK.out.len]; exact h
      have hbw := HB0.out.trans (HZ.out.bl.mono HB0.out.size)
      have HAT := Lib.hid (range_later (hat i h) hbw hbl)
      have hlen := HK.out.kids.each _ (List.getElem_mem h)
      have ke := HK.out.each i h hbs wr hbw _ X ⟨ab, rfl, HX.out.of_block (HZ.out.bl.block ab HX.out.lt)⟩
      have HTF := Lib.hid (take_fold (f := Re.alt) (z := .no) hbs)
      have hi0 : (0 : Int) ≤ (i : Int) := by omega
      have hi1 : (i : Int) < (l.length : Int) := by omega
      clear hat hbw hbl
      generalize l[i] = x at *
      generalize bs[i] = y at *
      go_wp2_with ((with_reducible refine wpList_loadN rfl _ rfl _ rfl b (o + i * 258) ?hx x ?hc hlen ?_); (case hx => rfl); (case hc => exact HAT.out))
      refine ke.mono ?_
      rintro e w4 ⟨v', Y', rfl, hY', hE', hb4⟩
      have kb := both_any (s.size + 1) Y Y' u7 v' w4 (HY.out.later hb4) hY' (by omega)
      have HZ4 := Lib.hid (HZ.out.below hb4)
      have HE' := Lib.hid hE'
      clear ke hY' hE' hb4 q257
      go_wp2_with fail
      refine kb.mono ?_
      rintro e w5 ⟨v2, rfl, hY2, hb5⟩
      have HZ5 := Lib.hid (HZ4.out.below hb5)
      have HY5 := Lib.hid hY2
      clear kb hY2 hb5 HZ HZ4 HY HAT
      go_wp2
      go_roundw
      case rel =>
        refine ⟨i + 1, fun j => Y j || Y' j, by go_num, by omega, HZ5, HY5, Lib.hid (fun j hj => ?_)⟩
        rw [HTF.out, En_alt, ← HN.out j hj, ← HE'.out j hj]
        simp
      case measure => (simp [intOf]; try omega)
    · obtain rfl : i = l.length := by omega
      have hi1 : ¬ (l.length : Int) < (l.length : Int) := by omega
      have HFIN : Hid (EnB s (bs.foldl Re.alt .no) X Y) := Lib.hid (by
        have := HN.out
        rwa [← HK.out.len, List.take_length] at this)
      clear HKK HK HN
      go_wp2
      go_ret
      first
        | exact ⟨_, Y, rfl, HY.out, HFIN.out, HZ.out.bl⟩
        | exact ⟨_, rfl, Y, HY.out, HFIN.out, HZ.out.bl⟩
set_option maxHeartbeats 3200000 in
set_option maxRecDepth 100000 in
theorem ends_row (w0 : World) (s : ByteArray) (P : Nat → Prop) (S : Nat → Bool) (kv : Value) (l : List (List Value)) (bs : List Re) (hk : Kd w0 s P kv l bs) (hs : s.size ≤ 900) : EndsK w0 s (nodeC 2 S kv) (bs.foldl Re.cat .eps) := by
  intro w hb0 v X hv
  obtain ⟨ab, rfl, hX⟩ := hv
  obtain ⟨ka, kc, rfl, -, hkk⟩ := hk.kids.at
  have HK := Lib.hid hk
  have HKK := Lib.hid hkk
  have HB0 := Lib.hid hb0
  have hfew := hk.kids.few
  clear hk hkk hb0
  obtain ⟨i0, hi, hz0, hz1, hz2⟩ := info_parts info_bool
  have HX := Lib.hid hX
  have HE := Lib.hid (Ez.new w (nodeC 2 S (.slice ka l.length kc)) 148 4 (madeCells #[.bool false] (s.size + 1)))
  have HR := Lib.hid (row_new w (nodeC 2 S (.slice ka l.length kc)).toArray 148 (s.size + 1))
  clear hX
  go_enter Tryz.func123, Tryz.ntmps123
  go_upto_region 2 with (first
    | ((with_reducible refine Great.wpList_boxTo rfl _ _ rfl _ rfl w.heap.size rfl (nodeC 2 S (.slice ka l.length kc)).toArray ?hx ?_); (case hx => rfl))
    | ((with_reducible refine wpList_make_row _ rfl _ _ 185 rfl 4 i0 (.bool false) Tryz.underlying185 hi hz0 hz1 rfl .i64 .i64 (s.size + 1) ?hl ?hc ?hb ?h63 ?_); (case hl => rfl); (case hc => rfl); (case hb => rw [hz2]; omega); (case h63 => omega)))
  (try simp only [World.size_alloc])
  refine wp_forget3 (fun W => Ez w W (nodeC 2 S (.slice ka l.length kc)) ∧ W.rowIs (w.heap.size + 1) 4 (s.size + 1) (fun j => .bool ((fun _ => false) j))) ⟨HE.out, HR.out⟩ (fun w1 hw1 => ?_)
  have H1 := Lib.hid hw1.1
  have HR1 := Lib.hid hw1.2
  have c0 := H1.out.cell (nodeC_0 _ _ _)
  clear hw1 HE HR
  have HX1 : Hid (BsAt w1 (.slice (some ⟨ab, 0, none⟩) (s.size + 1) (s.size + 1)) (s.size + 1) X) := Lib.hid ⟨ab, rfl, HX.out.of_block (H1.out.bl.block ab HX.out.lt)⟩
  go_wp2
  go_loopw [7, 10] (fun v7 vi wr => ∃ (i : Nat) (Y : Nat → Bool), vi = .int .i64 (i : Nat) ∧ i ≤ l.length ∧ Hid (Ez w wr (nodeC 2 S (.slice ka l.length kc))) ∧ Hid (BsAt wr v7 (s.size + 1) Y) ∧ Hid (EnB s ((bs.take i).foldl Re.cat .eps) X Y)) (fun _ v _ => l.length + 1 - (intOf v).toNat)
  case atStart => exact ⟨0, X, rfl, Nat.zero_le _, H1, HX1, Lib.hid (fun j hj => by rw [List.take_zero, List.foldl_nil, En_eps, bytesN_len]; exact ⟨fun h => ⟨hj, h⟩, fun h => h.2⟩)⟩
  case round =>
    clear H1 HR1 HX1 c0
    obtain ⟨i, Y, rfl, hin, HZ, HY, HN⟩ := hrel
    have q257 := HZ.out.cell (nodeC_kids _ _ _)
    by_cases h : i < l.length
    · obtain ⟨b, o, rfl, hbl, hat⟩ := HKK.out (by omega)
      have hbs : i < bs.length := by rw [HK.out.len]; exact h
      have hbw := HB0.out.trans (HZ.out.bl.mono HB0.out.size)
      have HAT := Lib.hid (range_later (hat i h) hbw hbl)
      have hlen := HK.out.kids.each _ (List.getElem_mem h)
      have ke := HK.out.each i h hbs wr hbw u7 Y HY.out
      have HTF := Lib.hid (take_fold (f := Re.cat) (z := .eps) hbs)
      have hi0 : (0 : Int) ≤ (i : Int) := by omega
      have hi1 : (i : Int) < (l.length : Int) := by omega
      clear hat hbw hbl
      generalize l[i] = x at *
      generalize bs[i] = y at *
      go_wp2_with ((with_reducible refine wpList_loadN rfl _ rfl _ rfl b (o + i * 258) ?hx x ?hc hlen ?_); (case hx => rfl); (case hc => exact HAT.out))
      refine ke.mono ?_
      rintro e w4 ⟨v', Y', rfl, hY', hE', hb4⟩
      have HZ4 := Lib.hid (HZ.out.below hb4)
      have HE' := Lib.hid hE'
      have HY4 := Lib.hid hY'
      clear ke hY' hE' hb4 q257 HZ HY HAT
      go_wp2
      go_roundw
      case rel =>
        refine ⟨i + 1, Y', by go_num, by omega, HZ4, HY4, Lib.hid (fun j hj => ?_)⟩
        rw [HTF.out, En_cat, HE'.out j hj]
        exact En.congr (fun k hk => HN.out k (by rw [bytesN_len] at hk; exact hk))
      case measure => (simp [intOf]; try omega)
    · obtain rfl : i = l.length := by omega
      have hi1 : ¬ (l.length : Int) < (l.length : Int) := by omega
      have HFIN : Hid (EnB s (bs.foldl Re.cat .eps) X Y) := Lib.hid (by
        have := HN.out
        rwa [← HK.out.len, List.take_length] at this)
      clear HKK HK HN
      go_wp2
      go_ret
      first
        | exact ⟨_, Y, rfl, HY.out, HFIN.out, HZ.out.bl⟩
        | exact ⟨_, rfl, Y, HY.out, HFIN.out, HZ.out.bl⟩
set_option maxHeartbeats 3200000 in
set_option maxRecDepth 100000 in
theorem ends_opt (w0 : World) (s : ByteArray) (P : Nat → Prop) (S : Nat → Bool) (kv : Value) (x : List Value) (a : Re) (hk : KidsAt w0 P kv [x]) (hK : EndsK w0 s x a) (hs : s.size ≤ 900) : EndsK w0 s (nodeC 5 S kv) (.opt a) := by
  intro w hb0 v X hv
  obtain ⟨ab, rfl, hX⟩ := hv
  obtain ⟨ka, kc, rfl, -, hkk⟩ := hk.at
  obtain ⟨b, o, rfl, hbl, hat⟩ := hkk (by simp)
  have hlen := hk.each x (List.mem_singleton.2 rfl)
  have hat0 := hat 0 (by simp)
  rw [Nat.zero_mul, Nat.add_zero] at hat0
  have HA0 : Hid (w0.rangeAt b o x) := Lib.hid hat0
  have HK := Lib.hid hK
  have HB0 := Lib.hid hb0
  clear hk hK hkk hat hat0 hb0
  dsimp only [List.length_singleton]
  obtain ⟨i0, hi, hz0, hz1, hz2⟩ := info_parts info_bool
  have HX := Lib.hid hX
  have HE := Lib.hid (Ez.new w (nodeC 5 S (.slice (some ⟨b, o, none⟩) 1 kc)) 148 4 (madeCells #[.bool false] (s.size + 1)))
  have HR := Lib.hid (row_new w (nodeC 5 S (.slice (some ⟨b, o, none⟩) 1 kc)).toArray 148 (s.size + 1))
  clear hX
  go_enter Tryz.func123, Tryz.ntmps123
  go_upto_region 2 with (first
    | ((with_reducible refine Great.wpList_boxTo rfl _ _ rfl _ rfl w.heap.size rfl (nodeC 5 S (.slice (some ⟨b, o, none⟩) 1 kc)).toArray ?hx ?_); (case hx => rfl))
    | ((with_reducible refine wpList_make_row _ rfl _ _ 185 rfl 4 i0 (.bool false) Tryz.underlying185 hi hz0 hz1 rfl .i64 .i64 (s.size + 1) ?hl ?hc ?hb ?h63 ?_); (case hl => rfl); (case hc => rfl); (case hb => rw [hz2]; omega); (case h63 => omega)))
  (try simp only [World.size_alloc])
  refine wp_forget3 (fun W => Ez w W (nodeC 5 S (.slice (some ⟨b, o, none⟩) 1 kc)) ∧ W.rowIs (w.heap.size + 1) 4 (s.size + 1) (fun j => .bool ((fun _ => false) j))) ⟨HE.out, HR.out⟩ (fun w1 hw1 => ?_)
  have H1 := Lib.hid hw1.1
  have HR1 := Lib.hid hw1.2
  have c0 := H1.out.cell (nodeC_0 _ _ _)
  clear hw1 HE HR
  have hbw := HB0.out.trans (H1.out.bl.mono HB0.out.size)
  have HAT := Lib.hid (range_later HA0.out hbw hbl)
  have HX1 : Hid (BsAt w1 (.slice (some ⟨ab, 0, none⟩) (s.size + 1) (s.size + 1)) (s.size + 1) X) := Lib.hid ⟨ab, rfl, HX.out.of_block (H1.out.bl.block ab HX.out.lt)⟩
  have ke := HK.out w1 hbw _ X HX1.out
  have q257 := H1.out.cell (nodeC_kids 5 S (.slice (some ⟨b, o, none⟩) 1 kc))
  clear hbw HR1
  go_wp2_with ((with_reducible refine wpList_loadN rfl _ rfl _ rfl b o ?hx x ?hc hlen ?_); (case hx => rfl); (case hc => exact HAT.out))
  refine ke.mono ?_
  rintro e w4 ⟨v', Y', rfl, hY', hE', hb4⟩
  have kb := both_any (s.size + 1) X Y' _ v' w4 (HX1.out.later hb4) hY' (by omega)
  have HZ4 := Lib.hid (H1.out.below hb4)
  have HE' := Lib.hid hE'
  clear ke hY' hE' hb4 q257 c0
  go_wp2_with fail
  refine kb.mono ?_
  rintro e w5 ⟨v2, rfl, hY2, hb5⟩
  have HZ5 := Lib.hid (HZ4.out.below hb5)
  have HY5 := Lib.hid hY2
  clear kb hY2 hb5
  go_wp2
  go_ret
  refine ⟨_, fun j => X j || Y' j, rfl, HY5.out, fun j hj => ?_, HZ5.out.bl⟩
  rw [En_opt, ← HE'.out j hj, bytesN_len]
  simp [hj]
end Go.Proofs.YtcfococinllcmaaGreat

/- The reference's ends, of any number of times, of once and more: contracts. -/
namespace Go.Proofs.YtcfococinllcmaaGreat
open Go.RowKit
def cntF (w : World) (v : Value) (n : Nat) : Nat := match v with
  | .slice (some a) _ _ => (List.range n).countP (fun j => match w.cell? ⟨a.block, j, none⟩ with | some (.bool b) => !b | _ => true)
  | _ => 0
theorem BsAt.cnt {w : World} {v : Value} {n : Nat} {X : Nat → Bool} (h : BsAt w v n X) : cntF w v n = (List.range n).countP (fun j => !X j) := by
  obtain ⟨b, rfl, hr⟩ := h
  unfold cntF
  refine List.countP_congr (fun j hj => ?_)
  rw [hr.cell (List.mem_range.1 hj)]
theorem countP_le' (p q : Nat → Bool) (l : List Nat) (h : ∀ x ∈ l, q x = true → p x = true) : l.countP q ≤ l.countP p := List.countP_mono_left h
theorem countP_lt' (p q : Nat → Bool) : ∀ (l : List Nat), (∀ x ∈ l, q x = true → p x = true) → (∃ x ∈ l, p x = true ∧ q x = false) → l.countP q < l.countP p
  | [], _, h => by obtain ⟨x, hx, _⟩ := h; cases hx
  | y :: l, h1, h2 => by
    obtain ⟨x, hx, hp, hq⟩ := h2
    have h3 := countP_le' p q l (fun z hz => h1 z (List.mem_cons_of_mem _ hz))
    rw [List.countP_cons, List.countP_cons]
    rcases List.mem_cons.1 hx with rfl | hx
    · rw [hp, hq]; simp; omega
    · have := countP_lt' p q l (fun z hz => h1 z (List.mem_cons_of_mem _ hz)) ⟨x, hx, hp, hq⟩
      have h4 : (if q y = true then 1 else 0) ≤ (if p y = true then 1 else 0) := by
        by_cases h : q y = true
        · rw [if_pos h, if_pos (h1 y List.mem_cons_self h)]; exact Nat.le_refl _
        · rw [if_neg h]; exact Nat.zero_le _
      omega
def moreN (v : Value) : Nat := match v with
  | .bool true => 1
  | _ => 0
def newB (St O : Nat → Bool) (i : Nat) : Bool := (List.range i).any (fun j => St j && !O j)
theorem newB_succ (St O : Nat → Bool) (i : Nat) : newB St O (i + 1) = (newB St O i || (St i && !O i)) := by unfold newB; rw [List.range_succ, List.any_append]; simp
structure RepI (s : ByteArray) (a : Re) (X O St : Nat → Bool) (lo k : Nat) (mo : Bool) : Prop where
  st : ∀ j, j ≤ s.size → (St j = true ↔ Ei (bytesN s) a (fun i => X i = true) k j)
  out : ∀ j, j ≤ s.size → (O j = true ↔ ∃ m, lo ≤ m ∧ m ≤ k ∧ Ei (bytesN s) a (fun i => X i = true) m j)
  fin : mo = false → ∃ k', k = k' + 1 ∧ ∀ j, j ≤ s.size → Ei (bytesN s) a (fun i => X i = true) k j → ∃ m, lo ≤ m ∧ m ≤ k' ∧ Ei (bytesN s) a (fun i => X i = true) m j
theorem RepI.next {s : ByteArray} {a : Re} {X O St St' : Nat → Bool} {lo k : Nat} {mo : Bool} (h : RepI s a X O St lo k mo) (hlo : lo ≤ 1) (hE : EnB s a St St') : RepI s a X (fun j => O j || St' j) St' lo (k + 1) (newB St' O (s.size + 1)) := by
  have h1 : ∀ j, j ≤ s.size → (St' j = true ↔ Ei (bytesN s) a (fun i => X i = true) (k + 1) j) := fun j hj => by
    rw [hE j hj]
    exact En.congr (fun i hi => h.st i (by rw [bytesN_len] at hi; exact hi))
  refine ⟨h1, fun j hj => ?_, fun hn => ⟨k, rfl, fun j hj he => ?_⟩⟩
  · rw [Bool.or_eq_true, h.out j hj, h1 j hj]
    constructor
    · rintro (⟨m, a1, a2, a3⟩ | h2)
      · exact ⟨m, a1, by omega, a3⟩
      · exact ⟨k + 1, by omega, Nat.le_refl _, h2⟩
    · rintro ⟨m, a1, a2, a3⟩
      by_cases e : m = k + 1
      · subst e; exact .inr a3
      · exact .inl ⟨m, a1, by omega, a3⟩
  · have h2 : ¬ (St' j = true ∧ O j = false) := fun hh => by
      have : newB St' O (s.size + 1) = true := by
        unfold newB
        rw [List.any_eq_true]
        exact ⟨j, List.mem_range.2 (by omega), by rw [hh.1, hh.2]; rfl⟩
      rw [hn] at this
      cases this
    have h3 := (h1 j hj).2 he
    have h4 : O j = true := by
      cases hO : O j with
      | true => rfl
      | false => exact absurd ⟨h3, hO⟩ h2
    obtain ⟨m, a1, a2, a3⟩ := (h.out j hj).1 h4
    exact ⟨m, a1, a2, a3⟩
theorem Ei_none {B : List Nat} {a : Re} {X : Nat → Prop} (h : ∀ j, ¬ Ei B a X 1 j) : ∀ m j, 1 ≤ m → ¬ Ei B a X m j := by
  intro m
  induction m with
  | zero => intro j h0; omega
  | succ m ih =>
    intro j _ he
    by_cases hm : m = 0
    · subst hm; exact h j he
    · obtain ⟨_, i, _, h3, _⟩ := he
      exact ih i (by omega) h3
theorem RepI.all {s : ByteArray} {a : Re} {X O St : Nat → Bool} {lo k : Nat} (h : RepI s a X O St lo k false) (hlo : lo ≤ 1) (j : Nat) (hj : j ≤ s.size) : O j = true ↔ ∃ m, lo ≤ m ∧ Ei (bytesN s) a (fun i => X i = true) m j := by
  rw [h.out j hj]
  constructor
  · rintro ⟨m, a1, _, a3⟩; exact ⟨m, a1, a3⟩
  · rintro ⟨m, a1, a3⟩
    obtain ⟨k', rfl, hf⟩ := h.fin rfl
    have hf' : ∀ j, Ei (bytesN s) a (fun i => X i = true) (k' + 1) j → ∃ m, lo ≤ m ∧ m ≤ k' ∧ Ei (bytesN s) a (fun i => X i = true) m j := fun j he => hf j (by have := Ei_le he; rw [bytesN_len] at this; exact this) he
    by_cases hlk : lo ≤ k'
    · obtain ⟨m', b1, b2, b3⟩ := Ei_shut hlk hf' m j a1 a3
      exact ⟨m', b1, by omega, b3⟩
    · obtain rfl : k' = 0 := by omega
      obtain rfl : lo = 1 := by omega
      exact absurd a3 (Ei_none (fun j he => by obtain ⟨m, c1, c2, _⟩ := hf' j he; omega) m j a1)
theorem RepI.less {s : ByteArray} {O St' : Nat → Bool} : 2 * (List.range (s.size + 1)).countP (fun j => !(O j || St' j)) + moreN (.bool (newB St' O (s.size + 1))) < 2 * (List.range (s.size + 1)).countP (fun j => !O j) + 1 := by
  cases hn : newB St' O (s.size + 1) with
  | false =>
    have := countP_le' (fun j => !O j) (fun j => !(O j || St' j)) (List.range (s.size + 1)) (fun x _ h => by simp at h; simp [h.1])
    simp only [moreN]
    omega
  | true =>
    unfold newB at hn
    rw [List.any_eq_true] at hn
    obtain ⟨x, hx, h⟩ := hn
    simp only [Bool.and_eq_true, Bool.not_eq_true'] at h
    have := countP_lt' (fun j => !O j) (fun j => !(O j || St' j)) (List.range (s.size + 1)) (fun x _ h => by simp at h; simp [h.1]) ⟨x, hx, by simp [h.2], by simp [h.1]⟩
    simp only [moreN]
    omega
theorem rep0 (s : ByteArray) (a : Re) (X : Nat → Bool) : RepI s a X X X 0 0 true := by
  refine ⟨fun j hj => ⟨fun h => ⟨by rw [bytesN_len]; exact hj, h⟩, fun h => h.2⟩, fun j hj => ⟨fun h => ⟨0, Nat.le_refl _, Nat.le_refl _, by rw [bytesN_len]; exact hj, h⟩, fun h => ?_⟩, fun h => by cases h⟩
  obtain ⟨m, _, h2, h3⟩ := h
  obtain rfl : m = 0 := by omega
  exact h3.2
theorem rep1 (s : ByteArray) (a : Re) (X : Nat → Bool) : RepI s a X (fun _ => false) X 1 0 true := by
  refine ⟨fun j hj => ⟨fun h => ⟨by rw [bytesN_len]; exact hj, h⟩, fun h => h.2⟩, fun j _ => ⟨fun h => by simp at h, fun h => ?_⟩, fun h => by cases h⟩
  obtain ⟨m, h1, h2, _⟩ := h
  omega
set_option maxHeartbeats 6400000 in
set_option maxRecDepth 100000 in
theorem ends_star (w0 : World) (s : ByteArray) (P : Nat → Prop) (S : Nat → Bool) (kv : Value) (x : List Value) (a : Re) (hk : KidsAt w0 P kv [x]) (hK : EndsK w0 s x a) (hs : s.size ≤ 900) : EndsK w0 s (nodeC 3 S kv) (.star a) := by
  intro w hb0 v X hv
  obtain ⟨ab, rfl, hX⟩ := hv
  obtain ⟨ka, kc, rfl, -, hkk⟩ := hk.at
  obtain ⟨b, o, rfl, hbl, hat⟩ := hkk (by simp)
  have hlen := hk.each x (List.mem_singleton.2 rfl)
  have hat0 := hat 0 (by simp)
  rw [Nat.zero_mul, Nat.add_zero] at hat0
  have HA0 : Hid (w0.rangeAt b o x) := Lib.hid hat0
  have HK := Lib.hid hK
  have HB0 := Lib.hid hb0
  clear hk hK hkk hat hat0 hb0
  dsimp only [List.length_singleton]
  obtain ⟨i0, hi, hz0, hz1, hz2⟩ := info_parts info_bool
  have HX := Lib.hid hX
  have HE := Lib.hid (Ez.new w (nodeC 3 S (.slice (some ⟨b, o, none⟩) 1 kc)) 148 4 (madeCells #[.bool false] (s.size + 1)))
  have HR := Lib.hid (row_new w (nodeC 3 S (.slice (some ⟨b, o, none⟩) 1 kc)).toArray 148 (s.size + 1))
  clear hX
  go_enter Tryz.func123, Tryz.ntmps123
  go_upto_region 2 with (first
    | ((with_reducible refine Great.wpList_boxTo rfl _ _ rfl _ rfl w.heap.size rfl (nodeC 3 S (.slice (some ⟨b, o, none⟩) 1 kc)).toArray ?hx ?_); (case hx => rfl))
    | ((with_reducible refine wpList_make_row _ rfl _ _ 185 rfl 4 i0 (.bool false) Tryz.underlying185 hi hz0 hz1 rfl .i64 .i64 (s.size + 1) ?hl ?hc ?hb ?h63 ?_); (case hl => rfl); (case hc => rfl); (case hb => rw [hz2]; omega); (case h63 => omega)))
  (try simp only [World.size_alloc])
  refine wp_forget3 (fun W => Ez w W (nodeC 3 S (.slice (some ⟨b, o, none⟩) 1 kc)) ∧ W.rowIs (w.heap.size + 1) 4 (s.size + 1) (fun j => .bool ((fun _ => false) j))) ⟨HE.out, HR.out⟩ (fun w1 hw1 => ?_)
  have H1 := Lib.hid hw1.1
  have HR1 := Lib.hid hw1.2
  have c0 := H1.out.cell (nodeC_0 _ _ _)
  clear hw1 HE HR
  have HX1 : Hid (BsAt w1 (.slice (some ⟨ab, 0, none⟩) (s.size + 1) (s.size + 1)) (s.size + 1) X) := Lib.hid ⟨ab, rfl, HX.out.of_block (H1.out.bl.block ab HX.out.lt)⟩
  have HO1 : Hid (BsAt w1 (.slice (some ⟨ab, 0, none⟩) (s.size + 1) (s.size + 1)) (s.size + 1) X) := Lib.hid HX1.out
  go_wp2
  go_loopw [7, 11, 12] (fun v7 v11 v12 wr => ∃ (k : Nat) (O St : Nat → Bool) (mo : Bool), v12 = .bool mo ∧ Hid (Ez w wr (nodeC 3 S (.slice (some ⟨b, o, none⟩) 1 kc))) ∧ Hid (BsAt wr v7 (s.size + 1) O) ∧ Hid (BsAt wr v11 (s.size + 1) St) ∧ Hid (RepI s a X O St 0 k mo)) (fun v7 _ v12 wr => 2 * cntF wr v7 (s.size + 1) + moreN v12)
  case atStart => exact ⟨0, X, X, true, rfl, H1, HO1, HX1, Lib.hid (rep0 s a X)⟩
  case round =>
    clear H1 HR1 HX1 HO1 c0
    obtain ⟨k, O, St, mo, rfl, HZ, HO, HSt, HI⟩ := hrel
    have HMS := Lib.hid HO.out.cnt
    cases mo with
    | false =>
      have HFIN : Hid (∀ j, j ≤ s.size → (O j = true ↔ ∃ m, 0 ≤ m ∧ Ei (bytesN s) a (fun i => X i = true) m j)) := Lib.hid (fun j hj => HI.out.all (by decide) j hj)
      clear HI HSt HK
      go_wp2
      go_ret
      refine ⟨_, O, rfl, HO.out, fun j hj => ?_, HZ.out.bl⟩
      rw [HFIN.out j hj]
      rw [En_star]; exact ⟨fun ⟨m, _, h⟩ => ⟨m, h⟩, fun ⟨m, h⟩ => ⟨m, Nat.zero_le _, h⟩⟩
    | true =>
      have q257 := HZ.out.cell (nodeC_kids 3 S (.slice (some ⟨b, o, none⟩) 1 kc))
      have hbw := HB0.out.trans (HZ.out.bl.mono HB0.out.size)
      have HAT := Lib.hid (range_later HA0.out hbw hbl)
      have ke := HK.out wr hbw u11 St HSt.out
      clear hbw
      go_wp2_with ((with_reducible refine wpList_loadN rfl _ rfl _ rfl b o ?hx x ?hc hlen ?_); (case hx => rfl); (case hc => exact HAT.out))
      refine ke.mono ?_
      rintro e w4 ⟨v', St', rfl, hY', hE', hb4⟩
      have HZ4 := Lib.hid (HZ.out.below hb4)
      have HO4 := Lib.hid (HO.out.later hb4)
      have HI2 := Lib.hid (HI.out.next (by decide) hE')
      have HS4 := Lib.hid hY'
      clear ke hY' hE' hb4 q257 HAT HZ HO HSt HI
      obtain ⟨sb, rfl, hsb⟩ := HS4.out
      obtain ⟨ob, hob, hobr⟩ := HO4.out
      have HSB := Lib.hid hsb
      have HOB := Lib.hid hobr
      clear hsb hobr
      subst hob
      go_wp2
      go_loopw [12, 13] (fun v12 v13 wr => ∃ i : Nat, v12 = .bool (newB St' O i) ∧ v13 = .int .i64 (i : Nat) ∧ i ≤ s.size + 1 ∧ wr = w4) (fun _ v _ => s.size + 2 - (intOf v).toNat)
      case atStart => exact ⟨0, rfl, rfl, Nat.zero_le _, rfl⟩
      case round =>
        obtain ⟨i, rfl, rfl, hi, rfl⟩ := hrel
        by_cases h : i < s.size + 1
        · have qs := HSB.out.cell h
          have qo := HOB.out.cell h
          have hi0 : (0 : Int) ≤ (i : Int) := by omega
          have hi1 : (i : Int) < ((s.size + 1 : Nat) : Int) := by omega
          have HNS := Lib.hid (newB_succ St' O i)
          generalize newB St' O i = N1 at *
          clear HI2 HK
          cases N1 with
          | true =>
            go_wp2
            go_roundw
            case rel => exact ⟨i + 1, by rw [HNS.out]; rfl, by go_num, by omega, by first | rfl | trivial⟩
            case measure => (simp [intOf]; try omega)
          | false =>
            cases hS1 : St' i with
            | false =>
              rw [hS1] at qs
              go_wp2
              go_roundw
              case rel => exact ⟨i + 1, by rw [HNS.out, hS1]; rfl, by go_num, by omega, by first | rfl | trivial⟩
              case measure => (simp [intOf]; try omega)
            | true =>
              rw [hS1] at qs
              cases hO1 : O i with
              | false =>
                rw [hO1] at qo
                go_wp2
                go_roundw
                case rel => exact ⟨i + 1, by rw [HNS.out, hS1, hO1]; rfl, by go_num, by omega, by first | rfl | trivial⟩
                case measure => (simp [intOf]; try omega)
              | true =>
                rw [hO1] at qo
                go_wp2
                go_roundw
                case rel => exact ⟨i + 1, by rw [HNS.out, hS1, hO1]; rfl, by go_num, by omega, by first | rfl | trivial⟩
                case measure => (simp [intOf]; try omega)
        · obtain rfl : i = s.size + 1 := by omega
          have hi1 : ¬ ((s.size + 1 : Nat) : Int) < ((s.size + 1 : Nat) : Int) := by omega
          have kb := both_any (s.size + 1) O St' _ _ wr HO4.out HS4.out (by omega)
          clear HSB HOB HK
          obtain ⟨N1, hN1⟩ : ∃ N1, newB St' O (s.size + 1) = N1 := ⟨_, rfl⟩
          have HN1 := Lib.hid hN1
          rw [hN1]
          clear hN1
          go_wp2_with fail
          refine kb.mono ?_
          rintro e w5 ⟨v2, rfl, hY2, hb5⟩
          have HZ5 := Lib.hid (HZ4.out.below hb5)
          have HO5 := Lib.hid hY2
          have HS5 := Lib.hid (HS4.out.later hb5)
          clear kb hY2 hb5
          go_wp2
          go_roundw
          case rel => exact ⟨k + 1, fun j => O j || St' j, St', N1, rfl, HZ5, HO5, HS5, Lib.hid (by have := HI2.out; rwa [HN1.out] at this)⟩
          case measure =>
            rw [HO5.out.cnt, HMS.out, ← HN1.out]
            exact RepI.less
set_option maxHeartbeats 6400000 in
set_option maxRecDepth 100000 in
theorem ends_plus (w0 : World) (s : ByteArray) (P : Nat → Prop) (S : Nat → Bool) (kv : Value) (x : List Value) (a : Re) (hk : KidsAt w0 P kv [x]) (hK : EndsK w0 s x a) (hs : s.size ≤ 900) : EndsK w0 s (nodeC 4 S kv) (.plus a) := by
  intro w hb0 v X hv
  obtain ⟨ab, rfl, hX⟩ := hv
  obtain ⟨ka, kc, rfl, -, hkk⟩ := hk.at
  obtain ⟨b, o, rfl, hbl, hat⟩ := hkk (by simp)
  have hlen := hk.each x (List.mem_singleton.2 rfl)
  have hat0 := hat 0 (by simp)
  rw [Nat.zero_mul, Nat.add_zero] at hat0
  have HA0 : Hid (w0.rangeAt b o x) := Lib.hid hat0
  have HK := Lib.hid hK
  have HB0 := Lib.hid hb0
  clear hk hK hkk hat hat0 hb0
  dsimp only [List.length_singleton]
  obtain ⟨i0, hi, hz0, hz1, hz2⟩ := info_parts info_bool
  have HX := Lib.hid hX
  have HE := Lib.hid (Ez.new w (nodeC 4 S (.slice (some ⟨b, o, none⟩) 1 kc)) 148 4 (madeCells #[.bool false] (s.size + 1)))
  have HR := Lib.hid (row_new w (nodeC 4 S (.slice (some ⟨b, o, none⟩) 1 kc)).toArray 148 (s.size + 1))
  clear hX
  go_enter Tryz.func123, Tryz.ntmps123
  go_upto_region 2 with (first
    | ((with_reducible refine Great.wpList_boxTo rfl _ _ rfl _ rfl w.heap.size rfl (nodeC 4 S (.slice (some ⟨b, o, none⟩) 1 kc)).toArray ?hx ?_); (case hx => rfl))
    | ((with_reducible refine wpList_make_row _ rfl _ _ 185 rfl 4 i0 (.bool false) Tryz.underlying185 hi hz0 hz1 rfl .i64 .i64 (s.size + 1) ?hl ?hc ?hb ?h63 ?_); (case hl => rfl); (case hc => rfl); (case hb => rw [hz2]; omega); (case h63 => omega)))
  (try simp only [World.size_alloc])
  refine wp_forget3 (fun W => Ez w W (nodeC 4 S (.slice (some ⟨b, o, none⟩) 1 kc)) ∧ W.rowIs (w.heap.size + 1) 4 (s.size + 1) (fun j => .bool ((fun _ => false) j))) ⟨HE.out, HR.out⟩ (fun w1 hw1 => ?_)
  have H1 := Lib.hid hw1.1
  have HR1 := Lib.hid hw1.2
  have c0 := H1.out.cell (nodeC_0 _ _ _)
  clear hw1 HE HR
  have HX1 : Hid (BsAt w1 (.slice (some ⟨ab, 0, none⟩) (s.size + 1) (s.size + 1)) (s.size + 1) X) := Lib.hid ⟨ab, rfl, HX.out.of_block (H1.out.bl.block ab HX.out.lt)⟩
  have HO1 : Hid (BsAt w1 (.slice (some ⟨w.heap.size + 1, 0, none⟩) (s.size + 1) (s.size + 1)) (s.size + 1) (fun _ => false)) := Lib.hid ⟨_, rfl, HR1.out⟩
  go_wp2
  go_loopw [7, 11, 12] (fun v7 v11 v12 wr => ∃ (k : Nat) (O St : Nat → Bool) (mo : Bool), v12 = .bool mo ∧ Hid (Ez w wr (nodeC 4 S (.slice (some ⟨b, o, none⟩) 1 kc))) ∧ Hid (BsAt wr v7 (s.size + 1) O) ∧ Hid (BsAt wr v11 (s.size + 1) St) ∧ Hid (RepI s a X O St 1 k mo)) (fun v7 _ v12 wr => 2 * cntF wr v7 (s.size + 1) + moreN v12)
  case atStart => exact ⟨0, (fun _ => false), X, true, rfl, H1, HO1, HX1, Lib.hid (rep1 s a X)⟩
  case round =>
    clear H1 HR1 HX1 HO1 c0
    obtain ⟨k, O, St, mo, rfl, HZ, HO, HSt, HI⟩ := hrel
    have HMS := Lib.hid HO.out.cnt
    cases mo with
    | false =>
      have HFIN : Hid (∀ j, j ≤ s.size → (O j = true ↔ ∃ m, 1 ≤ m ∧ Ei (bytesN s) a (fun i => X i = true) m j)) := Lib.hid (fun j hj => HI.out.all (by decide) j hj)
      clear HI HSt HK
      go_wp2
      go_ret
      refine ⟨_, O, rfl, HO.out, fun j hj => ?_, HZ.out.bl⟩
      rw [HFIN.out j hj]
      rw [En_plus]; exact ⟨fun ⟨m, h0, h⟩ => ⟨m - 1, by rwa [show m - 1 + 1 = m by omega]⟩, fun ⟨m, h⟩ => ⟨m + 1, by omega, h⟩⟩
    | true =>
      have q257 := HZ.out.cell (nodeC_kids 4 S (.slice (some ⟨b, o, none⟩) 1 kc))
      have hbw := HB0.out.trans (HZ.out.bl.mono HB0.out.size)
      have HAT := Lib.hid (range_later HA0.out hbw hbl)
      have ke := HK.out wr hbw u11 St HSt.out
      clear hbw
      go_wp2_with ((with_reducible refine wpList_loadN rfl _ rfl _ rfl b o ?hx x ?hc hlen ?_); (case hx => rfl); (case hc => exact HAT.out))
      refine ke.mono ?_
      rintro e w4 ⟨v', St', rfl, hY', hE', hb4⟩
      have HZ4 := Lib.hid (HZ.out.below hb4)
      have HO4 := Lib.hid (HO.out.later hb4)
      have HI2 := Lib.hid (HI.out.next (by decide) hE')
      have HS4 := Lib.hid hY'
      clear ke hY' hE' hb4 q257 HAT HZ HO HSt HI
      obtain ⟨sb, rfl, hsb⟩ := HS4.out
      obtain ⟨ob, hob, hobr⟩ := HO4.out
      have HSB := Lib.hid hsb
      have HOB := Lib.hid hobr
      clear hsb hobr
      subst hob
      go_wp2
      go_loopw [12, 13] (fun v12 v13 wr => ∃ i : Nat, v12 = .bool (newB St' O i) ∧ v13 = .int .i64 (i : Nat) ∧ i ≤ s.size + 1 ∧ wr = w4) (fun _ v _ => s.size + 2 - (intOf v).toNat)
      case atStart => exact ⟨0, rfl, rfl, Nat.zero_le _, rfl⟩
      case round =>
        obtain ⟨i, rfl, rfl, hi, rfl⟩ := hrel
        by_cases h : i < s.size + 1
        · have qs := HSB.out.cell h
          have qo := HOB.out.cell h
          have hi0 : (0 : Int) ≤ (i : Int) := by omega
          have hi1 : (i : Int) < ((s.size + 1 : Nat) : Int) := by omega
          have HNS := Lib.hid (newB_succ St' O i)
          generalize newB St' O i = N1 at *
          clear HI2 HK
          cases N1 with
          | true =>
            go_wp2
            go_roundw
            case rel => exact ⟨i + 1, by rw [HNS.out]; rfl, by go_num, by omega, by first | rfl | trivial⟩
            case measure => (simp [intOf]; try omega)
          | false =>
            cases hS1 : St' i with
            | false =>
              rw [hS1] at qs
              go_wp2
              go_roundw
              case rel => exact ⟨i + 1, by rw [HNS.out, hS1]; rfl, by go_num, by omega, by first | rfl | trivial⟩
              case measure => (simp [intOf]; try omega)
            | true =>
              rw [hS1] at qs
              cases hO1 : O i with
              | false =>
                rw [hO1] at qo
                go_wp2
                go_roundw
                case rel => exact ⟨i + 1, by rw [HNS.out, hS1, hO1]; rfl, by go_num, by omega, by first | rfl | trivial⟩
                case measure => (simp [intOf]; try omega)
              | true =>
                rw [hO1] at qo
                go_wp2
                go_roundw
                case rel => exact ⟨i + 1, by rw [HNS.out, hS1, hO1]; rfl, by go_num, by omega, by first | rfl | trivial⟩
                case measure => (simp [intOf]; try omega)
        · obtain rfl : i = s.size + 1 := by omega
          have hi1 : ¬ ((s.size + 1 : Nat) : Int) < ((s.size + 1 : Nat) : Int) := by omega
          have kb := both_any (s.size + 1) O St' _ _ wr HO4.out HS4.out (by omega)
          clear HSB HOB HK
          obtain ⟨N1, hN1⟩ : ∃ N1, newB St' O (s.size + 1) = N1 := ⟨_, rfl⟩
          have HN1 := Lib.hid hN1
          rw [hN1]
          clear hN1
          go_wp2_with fail
          refine kb.mono ?_
          rintro e w5 ⟨v2, rfl, hY2, hb5⟩
          have HZ5 := Lib.hid (HZ4.out.below hb5)
          have HO5 := Lib.hid hY2
          have HS5 := Lib.hid (HS4.out.later hb5)
          clear kb hY2 hb5
          go_wp2
          go_roundw
          case rel => exact ⟨k + 1, fun j => O j || St' j, St', N1, rfl, HZ5, HO5, HS5, Lib.hid (by have := HI2.out; rwa [HN1.out] at this)⟩
          case measure =>
            rw [HO5.out.cnt, HMS.out, ← HN1.out]
            exact RepI.less
end Go.Proofs.YtcfococinllcmaaGreat

/- The reference's ends of any tree; Fits: contracts. -/
namespace Go.Proofs.YtcfococinllcmaaGreat
open Go.RowKit
def EndsM (w : World) (s : ByteArray) (md : Nat) (l : List (List Value)) (a : Re) : Prop :=
  if md = 0 then ∀ x, l = [x] → EndsK w s x a
  else if md = 1 then ∃ bs : List Re, bs.length = l.length ∧ a = bs.foldl Re.alt .no ∧ ∀ i (h : i < l.length) (h2 : i < bs.length), EndsK w s l[i] bs[i]
  else ∃ bs : List Re, bs.length = l.length ∧ a = bs.foldl Re.cat .eps ∧ ∀ i (h : i < l.length) (h2 : i < bs.length), EndsK w s l[i] bs[i]
theorem ends_snoc {w : World} {s : ByteArray} {l : List (List Value)} {bs : List Re} {x : List Value} {b : Re} (h1 : bs.length = l.length) (h3 : ∀ i (h : i < l.length) (h2 : i < bs.length), EndsK w s l[i] bs[i]) (hx : EndsK w s x b) :
    ∀ i (h : i < (l ++ [x]).length) (h2 : i < (bs ++ [b]).length), EndsK w s (l ++ [x])[i] (bs ++ [b])[i] := by
  intro i h h2
  by_cases hi : i < l.length
  · rw [List.getElem_append_left hi, List.getElem_append_left (by omega)]
    exact h3 i hi (by omega)
  · have e : i = l.length := by rw [List.length_append, List.length_singleton] at h; omega
    subst e
    have e1 : (l ++ [x])[l.length] = x := by simp
    have e2 : (bs ++ [b])[l.length]'h2 = b := by
      have : (bs ++ [b])[bs.length]'(by simp) = b := by simp
      simp only [← h1]
      exact this
    rw [e1, e2]
    exact hx
theorem ends_all {w : World} {P : Nat → Prop} {md : Nat} {l : List (List Value)} {a : Re} (h : NA w P md l a) (s : ByteArray) (hs : s.size ≤ 900) : EndsM w s md l a := by
  induction h with
  | set S kv =>
    unfold EndsM
    rw [if_pos rfl]
    intro x hx
    cases hx
    exact ends_set w s S kv hs
  | alts h1 h2 ih =>
    unfold EndsM at ih ⊢
    rw [if_neg (by decide), if_pos rfl] at ih
    rw [if_pos rfl]
    obtain ⟨bs, e1, rfl, e3⟩ := ih
    intro x hx
    cases hx
    exact ends_alts w s _ _ _ _ bs ⟨h2, e1, e3⟩ hs
  | row h1 h2 ih =>
    unfold EndsM at ih ⊢
    rw [if_neg (by decide), if_neg (by decide)] at ih
    rw [if_pos rfl]
    obtain ⟨bs, e1, rfl, e3⟩ := ih
    intro x hx
    cases hx
    exact ends_row w s _ _ _ _ bs ⟨h2, e1, e3⟩ hs
  | star h1 h2 ih =>
    unfold EndsM at ih ⊢
    rw [if_pos rfl] at ih ⊢
    intro x hx
    cases hx
    exact ends_star w s _ _ _ _ _ h2 (ih _ rfl) hs
  | plus h1 h2 ih =>
    unfold EndsM at ih ⊢
    rw [if_pos rfl] at ih ⊢
    intro x hx
    cases hx
    exact ends_plus w s _ _ _ _ _ h2 (ih _ rfl) hs
  | opt h1 h2 ih =>
    unfold EndsM at ih ⊢
    rw [if_pos rfl] at ih ⊢
    intro x hx
    cases hx
    exact ends_opt w s _ _ _ _ _ h2 (ih _ rfl) hs
  | a0 =>
    unfold EndsM
    rw [if_neg (by decide), if_pos rfl]
    exact ⟨[], rfl, rfl, fun i h => absurd h (by simp)⟩
  | a1 h1 h2 ih1 ih2 =>
    unfold EndsM at ih1 ih2 ⊢
    rw [if_neg (by decide), if_pos rfl] at ih1 ⊢
    rw [if_pos rfl] at ih2
    obtain ⟨bs, e1, rfl, e3⟩ := ih1
    exact ⟨bs ++ [_], by simp [e1], by rw [List.foldl_append]; rfl, ends_snoc e1 e3 (ih2 _ rfl)⟩
  | r0 =>
    unfold EndsM
    rw [if_neg (by decide), if_neg (by decide)]
    exact ⟨[], rfl, rfl, fun i h => absurd h (by simp)⟩
  | r1 h1 h2 ih1 ih2 =>
    unfold EndsM at ih1 ih2 ⊢
    rw [if_neg (by decide), if_neg (by decide)] at ih1 ⊢
    rw [if_pos rfl] at ih2
    obtain ⟨bs, e1, rfl, e3⟩ := ih1
    exact ⟨bs ++ [_], by simp [e1], by rw [List.foldl_append]; rfl, ends_snoc e1 e3 (ih2 _ rfl)⟩
theorem ends_is {w : World} {P : Nat → Prop} {x : List Value} {a : Re} (h : NA w P 0 [x] a) (s : ByteArray) (hs : s.size ≤ 900) : EndsK w s x a := by
  have := ends_all h s hs
  unfold EndsM at this
  rw [if_pos rfl] at this
  exact this x rfl
theorem En_whole (s : ByteArray) (a : Re) (X : Nat → Bool) (hX : ∀ i, X i = decide (i = 0)) : En (bytesN s) a (fun i => X i = true) s.size ↔ Lr a (bytesN s) := by
  have e : sl (bytesN s) 0 s.size = bytesN s := by
    unfold sl
    rw [List.drop_zero, Nat.sub_zero, List.take_of_length_le (by rw [bytesN_len]; exact Nat.le_refl _)]
  constructor
  · rintro ⟨_, i, _, h2, h3⟩
    rw [hX] at h2
    obtain rfl : i = 0 := of_decide_eq_true h2
    rwa [e] at h3
  · intro h
    exact ⟨by rw [bytesN_len]; exact Nat.le_refl _, 0, Nat.zero_le _, by show X 0 = true; rw [hX]; rfl, by rw [e]; exact h⟩
set_option maxHeartbeats 3200000 in
set_option maxRecDepth 100000 in
theorem rtree_any (w : World) (P : Nat → Prop) (x : List Value) (a : Re) (s : ByteArray) (h : NA w P 0 [x] a) (hl : x.length = 258) (hs : s.size ≤ 900) :
    Calls Tryz.prog 99 #[.agg x.toArray, .string s] w fun e w' => ∃ b : Bool, e = .returned (.bool b) ∧ (b = true ↔ Lr a (bytesN s)) ∧ Below w.heap.size w w' := by
  have hk := ends_is h s hs
  obtain ⟨i0, hi, hz0, hz1, hz2⟩ := info_parts info_bool
  have HK := Lib.hid hk
  have HE := Lib.hid (Ez.new w x 148 4 (madeCells #[.bool false] (s.size + 1)))
  have HR := Lib.hid (row_new w x.toArray 148 (s.size + 1))
  clear hk h
  go_enter Tryz.func99, Tryz.ntmps99
  go_upto_region 2 with (first
    | ((with_reducible refine Great.wpList_boxTo rfl _ _ rfl _ rfl w.heap.size rfl x.toArray ?hx ?_); (case hx => rfl))
    | ((with_reducible refine wpList_make_row _ rfl _ _ 185 rfl 4 i0 (.bool false) Tryz.underlying185 hi hz0 hz1 rfl .i64 .i64 (s.size + 1) ?hl ?hc ?hb ?h63 ?_); (case hl => rfl); (case hc => rfl); (case hb => rw [hz2]; omega); (case h63 => omega)))
  (try simp only [World.size_alloc])
  refine wp_forget3 (fun W => Ez w W x ∧ W.rowIs (w.heap.size + 1) 4 (s.size + 1) (fun j => .bool ((fun _ => false) j))) ⟨HE.out, HR.out⟩ (fun w1 hw1 => ?_)
  have H1 := Lib.hid hw1.1
  have HR1 := Lib.hid hw1.2
  have qo := HR1.out.cell (show 0 < s.size + 1 by omega)
  have fo := HR1.out.frozen 0
  clear hw1 HE HR
  go_upto_region 3 with fail
  refine wp_forget3 (fun W => Ez w W x ∧ BsAt W (.slice (some ⟨w.heap.size + 1, 0, none⟩) (s.size + 1) (s.size + 1)) (s.size + 1) (fun j => decide (j = 0))) ⟨H1.out.set (by omega) 0 (.bool true), _, rfl, (bs_put HR1.out 0 true).congr (fun j _ => by by_cases e : j = 0 <;> simp [e])⟩ (fun w2 hw2 => ?_)
  have H2 := Lib.hid hw2.1
  have HX2 := Lib.hid hw2.2
  clear hw2 H1 HR1 qo fo
  have ke := HK.out w2 H2.out.bl _ _ HX2.out
  go_wp2_with ((with_reducible refine wpList_loadN rfl _ rfl _ rfl w.heap.size 0 ?hx x ?hc hl ?_); (case hx => rfl); (case hc => exact H2.out.at_))
  refine ke.mono ?_
  rintro e w3 ⟨v', Y, rfl, ⟨sb, rfl, hsb⟩, hE, hb⟩
  have q := hsb.cell (show s.size < s.size + 1 by omega)
  have HF : Hid (Y s.size = true ↔ Lr a (bytesN s)) := Lib.hid ((hE s.size (Nat.le_refl _)).trans (En_whole s a _ (fun _ => rfl)))
  have HB := Lib.hid (H2.out.below hb).bl
  generalize Y s.size = y at *
  clear ke hE hb hsb H2 HX2 HK
  go_wp2
  go_ret
  exact ⟨y, rfl, HF.out, HB.out⟩
end Go.Proofs.YtcfococinllcmaaGreat

/- lychgateref06 on matchers: Fine, Value, Fits, All: contracts. -/
namespace Go.Proofs.YtcfococinllcmaaGreat
open Go.RowKit
theorem exec_loadN {o : Oper} {a : Act} {w : World} (x : Operand) (ho : o.op = .load 148 x) (b i : Nat) (hx : a.eval x = .pointer (some ⟨b, i, none⟩)) (cs : List Value) (hc : w.rangeAt b i cs) (hl : cs.length = 258) : (execOp a.eval o).run Tryz.prog w = .ok (.value (.agg cs.toArray)) w := by
  unfold execOp
  simp only [ho, hx]
  rw [Sem.run_bind, run_loadAt_mid w b i 148 cs _ hc Tryz.underlying148 rfl (by rw [hl]; exact node_size)]
  rfl
set_option maxHeartbeats 1600000 in
set_option maxRecDepth 100000 in
theorem fine6_any (m : Mt) (w : World) (hf : MtFit m) : Calls Tryz.prog 54 #[.agg #[.string m.nm, .int .i64 m.op, .string m.val]] w fun e w' => e = .returned (.bool (fineM m)) ∧ Below w.heap.size w w' := by
  have kr := fun W => rread_any m.val W
  have hz := hf.2
  have HF : Hid (fineM m = (nameL (B m.nm) && decide (0 ≤ m.op) && decide (m.op ≤ 3) && decide (m.val.size ≤ 200) && (decide (m.op < 2) || decide (errM m.val = 0)))) := Lib.hid rfl
  have kn0 := refName.name_any m.nm (w.alloc (.cells #[.string m.nm, .int .i64 m.op, .string m.val] 108)) hf.1
  obtain ⟨nm, op, val⟩ := m
  dsimp only at *
  generalize fineM ⟨nm, op, val⟩ = R at *
  generalize nameL (B nm) = N at *
  have HR := Lib.hid kr
  unfold maxLen at hz
  have hbx := box3m (Below.refl _ (w.alloc (.cells #[.string nm, .int .i64 op, .string val] 108)))
  clear hf kr
  go_enter Tryz.func54, Tryz.ntmps54
  go_wp2_with fail
  refine kn0.mono ?_
  rintro e w1 ⟨rfl, hw1⟩
  obtain ⟨⟨x0, x1, x2⟩, hlt, hB1⟩ := hbx
  rw [hw1] at x0 x1 x2 hlt hB1
  have HB := Lib.hid hB1
  clear kn0 hw1 hB1
  cases N with
  | false =>
    go_wp2
    go_ret
    exact ⟨by rw [HF.out]; rfl, HB.out⟩
  | true =>
    by_cases h0 : op < 0
    · rw [show decide (0 ≤ op) = false from decide_eq_false (by omega)] at HF
      go_wp2
      go_ret
      exact ⟨by rw [HF.out]; rfl, HB.out⟩
    · rw [show decide (0 ≤ op) = true from decide_eq_true (by omega)] at HF
      by_cases h3 : 3 < op
      · rw [show decide (op ≤ 3) = false from decide_eq_false (by omega)] at HF
        go_wp2
        go_ret
        exact ⟨by rw [HF.out]; rfl, HB.out⟩
      · rw [show decide (op ≤ 3) = true from decide_eq_true (by omega)] at HF
        by_cases hs : 200 < val.size
        · rw [show decide (val.size ≤ 200) = false from decide_eq_false (by omega)] at HF
          have hsi : (200 : Int) < (val.size : Int) := by omega
          go_wp2
          go_ret
          exact ⟨by rw [HF.out]; rfl, HB.out⟩
        · rw [show decide (val.size ≤ 200) = true from decide_eq_true (by omega)] at HF
          have hsi : (val.size : Int) ≤ 200 := by omega
          have kr := HR.out w1
          have hde : Hid ((errM val == 0) = decide (errM val = 0)) := Lib.hid (by rw [Bool.eq_iff_iff]; simp)
          generalize errM val = E at *
          go_wp2_with fail
          refine kr.mono ?_
          rintro e w2 ⟨cs, rfl, hl, hone, -, hb2⟩
          have hlt2 := hb2.size
          have y1 := keep_cell x1 hb2 hlt
          have HBN : Hid (Below w.heap.size w ((w2.alloc (.cells (zeroN 0) 148)).setCells w2.heap.size 0 cs)) := Lib.hid (by
            have h1 := HB.out.trans (hb2.mono HB.out.size)
            exact below_puts (h1.trans ((alloc_below w2 _).mono h1.size)) (by have := h1.size; omega) _)
          have HY1 : Hid (((w2.alloc (.cells (zeroN 0) 148)).setCells w2.heap.size 0 cs).cell? ⟨w.heap.size, 1, none⟩ = some (.int .i64 op)) := Lib.hid ((World.cell?_of_block (a := ⟨w.heap.size, 1, none⟩) (heap_setCells _ _ _ (by show w.heap.size ≠ w2.heap.size; omega) _ _)).trans (keep_cell y1 (alloc_below w2 _) (by omega)))
          have HTH := Lib.hid (there_new w2 0 148)
          clear kr x0 x1 x2 y1
          go_upto_region 4 with (first
            | (with_reducible refine wpList_allocN rfl rfl _ rfl w2.heap.size rfl ?_)
            | ((with_reducible refine wpList_storeN rfl _ _ rfl _ rfl w2.heap.size 0 cs ?hx ?hy ?ht hl hone ?_); (case hx => rfl); (case hy => rfl); (case ht => exact HTH.out)))
          (try simp only [Act.put, List.setIfInBounds_toArray, List.set_cons_zero, List.set_cons_succ])
          refine wp_forget3 (fun W => W.cell? ⟨w.heap.size, 1, none⟩ = some (.int .i64 op) ∧ Below w.heap.size w W) ⟨HY1.out, HBN.out⟩ (fun w3 hw3 => ?_)
          obtain ⟨y1, hB3⟩ := hw3
          have HB3 := Lib.hid hB3
          clear HBN HY1 HTH hB3 hb2
          by_cases h2 : op < 2
          · rw [show decide (op < 2) = true from decide_eq_true h2] at HF
            go_wp2
            go_ret
            exact ⟨by rw [HF.out]; rfl, HB3.out⟩
          · rw [show decide (op < 2) = false from decide_eq_false h2] at HF
            go_wp2
            go_ret
            exact ⟨by rw [HF.out, ← hde.out]; first | rfl | (simp), HB3.out⟩
theorem valueF_at {l : List Fld} {n : ByteArray} {i : Nat} (h : i < l.length) (hb : ∀ j (hj : j < l.length), j < i → (l[j].1.toList == n.toList) = false) (he : (l[i].1.toList == n.toList) = true) : valueF l n = l[i].2 := by
  unfold valueF
  have : (l.find? fun f => f.1.toList == n.toList) = some l[i] := by
    rw [List.find?_eq_some_iff_getElem]
    exact ⟨he, i, h, rfl, fun j hj => by rw [hb j (by omega) hj]; rfl⟩
  rw [this]
theorem valueF_no {l : List Fld} {n : ByteArray} (hb : ∀ j (hj : j < l.length), (l[j].1.toList == n.toList) = false) : valueF l n = ⟨#[]⟩ := by
  unfold valueF
  have : (l.find? fun f => f.1.toList == n.toList) = none := by
    rw [List.find?_eq_none]
    intro x hx
    obtain ⟨j, hj, rfl⟩ := List.getElem_of_mem hx
    rw [hb j hj]
    decide
  rw [this]
set_option maxHeartbeats 1600000 in
set_option maxRecDepth 100000 in
theorem val6_any (l : List Fld) (n : ByteArray) (w : World) (v : Value) (hv : FldsAt w v l) (hl : l.length ≤ 1000000) :
    Calls Tryz.prog 98 #[v, .string n] w fun e w' => e = .returned (.string (valueF l n)) ∧ Below w.heap.size w w' := by
  obtain ⟨a, c, rfl, hc, hr⟩ := RdAt.shape hv
  have HR := Lib.hid hr
  clear hr hv
  go_enter Tryz.func98, Tryz.ntmps98
  go_wp2
  go_loopw [5] (fun i wr => ∃ k : Nat, k ≤ l.length ∧ i = .int .i64 (k : Nat) ∧ Hid (∀ j (hj : j < l.length), j < k → (l[j].1.toList == n.toList) = false) ∧ Below w.heap.size w wr) (fun i _ => l.length + 1 - (intOf i).toNat)
  case atStart => exact ⟨0, Nat.zero_le _, rfl, Lib.hid (fun j _ hj => absurd hj (Nat.not_lt_zero j)), Below.refl _ _⟩
  case round =>
    obtain ⟨k, hk, rfl, HT, hbr⟩ := hrel
    by_cases hkl : k < l.length
    · obtain ⟨b, o, rfl, hb, hcell⟩ := HR.out (by omega)
      have HV := Lib.hid (fun he => valueF_at (n := n) hkl HT.out he)
      have HNO : Hid ((l[k].1.toList == n.toList) = false → ∀ j (hj : j < l.length), j < k + 1 → (l[j].1.toList == n.toList) = false) := Lib.hid (fun he j hj h2 => by
        by_cases e : j = k
        · subst e; exact he
        · exact HT.out j hj (by omega))
      obtain ⟨x, hxe⟩ : ∃ x, l[k].1 = x := ⟨_, rfl⟩
      obtain ⟨y, hye⟩ : ∃ y, l[k].2 = y := ⟨_, rfl⟩
      obtain ⟨hx0, hy0⟩ := fldCells_at l k hkl
      rw [hxe] at hx0 HV HNO
      rw [hye] at hy0 HV
      have a0 : wr.cell? ⟨b, o + k * 2, none⟩ = some (.string x) := keep_cell (hcell _ _ hx0) hbr hb
      have a1 : wr.cell? ⟨b, o + k * 2 + 1, none⟩ = some (.string y) := keep_cell (by have := hcell _ _ hy0; rwa [← Nat.add_assoc] at this) hbr hb
      have hi0 : (0 : Int) ≤ (k : Int) := by omega
      have hi1 : (k : Int) < (l.length : Int) := by omega
      have HBR := Lib.hid hbr
      clear hcell hx0 hy0 hbr hxe hye HT
      cases he : (x.toList == n.toList) with
      | true =>
        rw [he] at HV
        go_wp2
        go_ret
        exact ⟨by first | (rw [HV.out (by trivial)]; done) | (rw [HV.out (by trivial)]; rfl), HBR.out⟩
      | false =>
        rw [he] at HNO
        go_wp2
        go_roundw
        case rel => exact ⟨k + 1, by omega, by go_num, Lib.hid (HNO.out (by trivial)), HBR.out⟩
        case measure => (simp [intOf]; try omega)
    · have HV := Lib.hid (valueF_no (n := n) (fun j hj => HT.out j hj (by omega)))
      have hi1 : ¬ (k : Int) < (l.length : Int) := by omega
      have HBR := Lib.hid hbr
      clear HT hbr
      go_wp2
      go_ret
      exact ⟨by first | (rw [HV.out]; done) | (rw [HV.out]; rfl), HBR.out⟩
theorem opM_fit {m : Mt} {v : ByteArray} {b : Bool} (h0 : errM m.val = 0) (hb : b = true ↔ Lr (reT m.val) (bytesN v)) : b = fitB m.val v := by
  rw [Bool.eq_iff_iff, fitB_iff, fits_re, hb]
  exact ⟨fun h => ⟨h0, h⟩, fun h => h.2⟩
set_option maxHeartbeats 3200000 in
set_option maxRecDepth 100000 in
theorem fit6_any (l : List Fld) (m : Mt) (v : Value) (w : World) (hv : FldsAt w v l) (hl : l.length ≤ 1000000) (hvs : (valueF l m.nm).size ≤ 900) (hf : MtFit m) :
    Calls Tryz.prog 69 #[v, .agg #[.string m.nm, .int .i64 m.op, .string m.val]] w fun e w' => e = .returned (.bool (fitM l m)) ∧ Below w.heap.size w w' := by
  obtain ⟨fa, fc, rfl, _, _⟩ := RdAt.shape hv
  have hba := alloc_below w (.cells #[.string m.nm, .int .i64 m.op, .string m.val] 108)
  have kf := fine6_any m (w.alloc (.cells #[.string m.nm, .int .i64 m.op, .string m.val] 108)) hf
  have KV := Lib.hid (fun W (h : Below w.heap.size w W) => val6_any l m.nm W _ (hv.later h) hl)
  have KR := Lib.hid (fun W => rread_any m.val W)
  have HM : Hid (fitM l m = (fineM m && opM m (valueF l m.nm))) := Lib.hid rfl
  have HO : Hid (opM m (valueF l m.nm) = if m.op = 0 then (valueF l m.nm).toList == m.val.toList else if m.op = 1 then !((valueF l m.nm).toList == m.val.toList) else if m.op = 2 then fitB m.val (valueF l m.nm) else !(fitB m.val (valueF l m.nm))) := Lib.hid rfl
  have HFT := Lib.hid (fun h => @fineM_true m h)
  have HOF := Lib.hid (fun b h0 hb => @opM_fit m (valueF l m.nm) b h0 hb)
  have KF := Lib.hid (fun W P cs a h hl => rtree_any W P cs a (valueF l m.nm) h hl hvs)
  obtain ⟨nm, op, val⟩ := m
  dsimp only at *
  generalize fitM l ⟨nm, op, val⟩ = R at *
  generalize opM ⟨nm, op, val⟩ (valueF l nm) = OM at *
  generalize fineM ⟨nm, op, val⟩ = N at *
  generalize valueF l nm = vv at *
  generalize l.length = ln at *
  have HB0 := Lib.hid hba
  clear hv hba hf
  go_enter Tryz.func69, Tryz.ntmps69
  have hbx := box3m (Below.refl _ (w.alloc (.cells #[.string nm, .int .i64 op, .string val] 108)))
  obtain ⟨⟨x0, x1, x2⟩, hlt, -⟩ := hbx
  go_wp2_with fail
  refine kf.mono ?_
  rintro e w1 ⟨rfl, hb1⟩
  have hb0 := HB0.out.trans (hb1.mono HB0.out.size)
  have y0 := keep_cell x0 hb1 hlt
  have y1 := keep_cell x1 hb1 hlt
  have y2 := keep_cell x2 hb1 hlt
  have hlt1 : w.heap.size < w1.heap.size := by have := hb1.size; omega
  have HB1 := Lib.hid hb0
  clear kf hb1 x0 x1 x2 hlt hb0 HB0
  cases N with
  | false =>
    go_wp2
    go_ret
    exact ⟨by rw [HM.out]; rfl, HB1.out⟩
  | true =>
    obtain ⟨-, h0, h3, -, h5⟩ := HFT.out rfl
    have kv := KV.out w1 HB1.out
    clear HFT KV
    go_wp2_with fail
    refine kv.mono ?_
    rintro e w2 ⟨rfl, hb2⟩
    have z0 := keep_cell y0 hb2 hlt1
    have z1 := keep_cell y1 hb2 hlt1
    have z2 := keep_cell y2 hb2 hlt1
    have hlt2 : w.heap.size < w2.heap.size := by have := hb2.size; omega
    have HB2 := Lib.hid (HB1.out.trans (hb2.mono HB1.out.size))
    clear kv hb2 y0 y1 y2 hlt1 HB1
    by_cases h2 : op < 2
    · by_cases e0 : op = 0
      · subst e0
        have HO2 : Hid (OM = (vv.toList == val.toList)) := Lib.hid (by rw [HO.out, if_pos rfl])
        go_wp2
        go_ret
        exact ⟨by rw [HM.out, HO2.out, Bool.true_and]; rfl, HB2.out⟩
      · obtain rfl : op = 1 := by omega
        have HO2 : Hid (OM = !(vv.toList == val.toList)) := Lib.hid (by rw [HO.out, if_neg (by decide), if_pos rfl])
        go_wp2
        go_ret
        exact ⟨by rw [HM.out, HO2.out, Bool.true_and]; rfl, HB2.out⟩
    · have hE0 : errM val = 0 := by rcases h5 with h | h; (· exact absurd h h2); exact h
      have kr := KR.out w2
      have HE0 := Lib.hid hE0
      rw [hE0] at kr
      clear h5 hE0
      go_wp2_with fail
      refine kr.mono ?_
      rintro e w3 ⟨cs, rfl, hln, hone, hna, hb3⟩
      have hna := hna (by trivial)
      have u1 := keep_cell z1 hb3 hlt2
      have hlt3 : w.heap.size < w3.heap.size := by have := hb3.size; omega
      have hb3' := HB2.out.trans (hb3.mono HB2.out.size)
      have hnd : NdAt ((w3.alloc (.cells (zeroN 0) 148)).setCells w3.heap.size 0 cs) w3.heap.size cs := (NdAt.new w3 0 148).stored hln
      have HTH := Lib.hid (there_new w3 0 148)
      have HBN : Hid (Below w.heap.size w ((w3.alloc (.cells (zeroN 0) 148)).setCells w3.heap.size 0 cs)) := Lib.hid (below_puts (hb3'.trans ((alloc_below w3 _).mono hb3'.size)) (by omega) _)
      have HY1 : Hid (((w3.alloc (.cells (zeroN 0) 148)).setCells w3.heap.size 0 cs).cell? ⟨w.heap.size, 1, none⟩ = some (.int .i64 op)) := Lib.hid ((World.cell?_of_block (a := ⟨w.heap.size, 1, none⟩) (heap_setCells _ _ _ (by show w.heap.size ≠ w3.heap.size; omega) _ _)).trans (keep_cell u1 (alloc_below w3 _) (by omega)))
      have HNA : Hid (NA ((w3.alloc (.cells (zeroN 0) 148)).setCells w3.heap.size 0 cs) (fun q => w2.heap.size ≤ q ∧ q < w3.heap.size) 0 [cs] (reT val)) := Lib.hid ((hna.later (alloc_below w3 _)).keep (by rw [size_setCells]; exact Nat.le_refl _) (fun q hq _ => heap_setCells _ _ _ (by omega) _ _))
      have HND0 := Lib.hid hnd
      have HLN := Lib.hid hln
      have HON := Lib.hid hone
      clear kr z0 z1 z2 u1 hna hnd hb3 hb3' hln hone
      go_upto_region 7 with (first
        | (with_reducible refine wpList_allocN rfl rfl _ rfl w3.heap.size rfl ?_)
        | ((with_reducible refine wpList_storeN rfl _ _ rfl _ rfl w3.heap.size 0 cs ?hx ?hy ?ht HLN.out HON.out ?_); (case hx => rfl); (case hy => rfl); (case ht => exact HTH.out)))
      (try simp only [Act.put, List.setIfInBounds_toArray, List.set_cons_zero, List.set_cons_succ])
      have hsz4 : w.heap.size < ((w3.alloc (.cells (zeroN 0) 148)).setCells w3.heap.size 0 cs).heap.size := by rw [size_setCells, World.size_alloc]; omega
      clear HTH HB2
      generalize ((w3.alloc (.cells (zeroN 0) 148)).setCells w3.heap.size 0 cs) = w4 at *
      generalize w3.heap.size = nb at *
      have HND := HND0
      have HOP := HY1
      have HWL := Lib.hid hsz4
      clear HND0 HY1 hsz4
      rcases (show op = 2 ∨ op = 3 by omega) with rfl | rfl
      · have HO2 : Hid (OM = fitB val vv) := Lib.hid (by rw [HO.out]; rfl)
        refine wp_region_held_drew (S := (fun W => W.rangeAt nb 0 cs ∧ W.cell? ⟨w.heap.size, 1, none⟩ = some (.int .i64 2))) (by kernel_rfl) ⟨HND.out.at_, HOP.out⟩ (fun hHeld => ?_)
        refine held_take (i := 0) (v := ?_) rfl rfl (by kernel_rfl) (by kernel_rfl) (by kernel_rfl) (fun _ _ _ h => h) (by rfl) hHeld ?_ ?_
        rotate_left
        · rintro wh ⟨z0, -⟩
          refine exec_loadN (.tmp 6) ?_ nb 0 ?_ cs z0 HLN.out <;> rfl
        simp only [Act.put, List.setIfInBounds_toArray, List.set_cons_zero, List.set_cons_succ]
        refine held_take (i := 1) (v := ?_) rfl rfl (by kernel_rfl) (by kernel_rfl) (by kernel_rfl) (fun _ _ _ h => h) (by rfl) hHeld ?_ ?_
        rotate_left
        · rintro wh ⟨z0, z1⟩
          go_simp
          (try with_reducible rfl)
        simp only [Act.put, List.setIfInBounds_toArray, List.set_cons_zero, List.set_cons_succ]
        refine held_take (i := 3) (v := ?_) rfl rfl (by kernel_rfl) (by kernel_rfl) (by kernel_rfl) (fun _ _ _ h => h) (by rfl) hHeld ?_ ?_
        rotate_left
        · rintro wh ⟨z0, z1⟩
          go_simp
          (try with_reducible rfl)
        simp only [Act.put, List.setIfInBounds_toArray, List.set_cons_zero, List.set_cons_succ]
        refine held_take (i := 4) (v := ?_) rfl rfl (by kernel_rfl) (by kernel_rfl) (by kernel_rfl) (fun _ _ _ h => h) (by rfl) hHeld ?_ ?_
        rotate_left
        · rintro wh ⟨z0, z1⟩
          go_simp
          (try with_reducible rfl)
        simp only [Act.put, List.setIfInBounds_toArray, List.set_cons_zero, List.set_cons_succ]
        refine held_take (i := 5) (v := ?_) rfl rfl (by kernel_rfl) (by kernel_rfl) (by kernel_rfl) (fun _ _ _ h => h) (by rfl) hHeld ?_ ?_
        rotate_left
        · rintro wh ⟨z0, z1⟩
          go_simp
          (try with_reducible rfl)
        simp only [Act.put, List.setIfInBounds_toArray, List.set_cons_zero, List.set_cons_succ]
        refine held_step (i := 2) rfl (by kernel_rfl) (fun K hK => ?_)
        go_simp; refine (KF.out _ _ _ _ (HNA.out.later ((Below.refl w4.heap.size w4).drew)) HLN.out).mono ?_; rintro e w6 ⟨b, rfl, hb, hbl⟩; have HBB := Lib.hid hb; have HBL := Lib.hid (((Below.refl w4.heap.size w4).drew).trans (hbl.mono ((Below.refl w4.heap.size w4).drew).size)); clear hb hbl
        refine hK.out _ _ ⟨range_later HND.out.at_ HBL.out HND.out.lt, keep_cell HOP.out HBL.out HWL.out⟩ (fun hHeld => ?_)
        clear hK K
        (try simp only [Act.put, List.setIfInBounds_toArray])
        refine held_take (i := 6) (v := ?_) rfl rfl (by kernel_rfl) (by kernel_rfl) (by kernel_rfl) (fun _ _ _ h => h) (by rfl) hHeld ?_ ?_
        rotate_left
        · rintro wh ⟨z0, z1⟩
          go_simp
          (try with_reducible rfl)
        simp only [Act.put, List.setIfInBounds_toArray, List.set_cons_zero, List.set_cons_succ]
        refine held_take (i := 7) (v := ?_) rfl rfl (by kernel_rfl) (by kernel_rfl) (by kernel_rfl) (fun _ _ _ h => h) (by rfl) hHeld ?_ ?_
        rotate_left
        · rintro wh ⟨z0, z1⟩
          go_simp
          (try with_reducible rfl)
        simp only [Act.put, List.setIfInBounds_toArray, List.set_cons_zero, List.set_cons_succ]
        refine wpAnyH_done (by kernel_rfl) ?_ _
        have hb := HOF.out b HE0.out HBB.out
        clear HBB
        subst hb
        go_wp2
        go_ret
        exact ⟨by rw [HM.out, HO2.out]; cases fitB val vv <;> rfl, HBN.out.trans (HBL.out.mono HBN.out.size)⟩
      · have HO2 : Hid (OM = !(fitB val vv)) := Lib.hid (by rw [HO.out]; rfl)
        refine wp_region_held_drew (S := (fun W => W.rangeAt nb 0 cs ∧ W.cell? ⟨w.heap.size, 1, none⟩ = some (.int .i64 3))) (by kernel_rfl) ⟨HND.out.at_, HOP.out⟩ (fun hHeld => ?_)
        refine held_take (i := 0) (v := ?_) rfl rfl (by kernel_rfl) (by kernel_rfl) (by kernel_rfl) (fun _ _ _ h => h) (by rfl) hHeld ?_ ?_
        rotate_left
        · rintro wh ⟨z0, -⟩
          refine exec_loadN (.tmp 6) ?_ nb 0 ?_ cs z0 HLN.out <;> rfl
        simp only [Act.put, List.setIfInBounds_toArray, List.set_cons_zero, List.set_cons_succ]
        refine held_take (i := 1) (v := ?_) rfl rfl (by kernel_rfl) (by kernel_rfl) (by kernel_rfl) (fun _ _ _ h => h) (by rfl) hHeld ?_ ?_
        rotate_left
        · rintro wh ⟨z0, z1⟩
          go_simp
          (try with_reducible rfl)
        simp only [Act.put, List.setIfInBounds_toArray, List.set_cons_zero, List.set_cons_succ]
        refine held_take (i := 3) (v := ?_) rfl rfl (by kernel_rfl) (by kernel_rfl) (by kernel_rfl) (fun _ _ _ h => h) (by rfl) hHeld ?_ ?_
        rotate_left
        · rintro wh ⟨z0, z1⟩
          go_simp
          (try with_reducible rfl)
        simp only [Act.put, List.setIfInBounds_toArray, List.set_cons_zero, List.set_cons_succ]
        refine held_take (i := 4) (v := ?_) rfl rfl (by kernel_rfl) (by kernel_rfl) (by kernel_rfl) (fun _ _ _ h => h) (by rfl) hHeld ?_ ?_
        rotate_left
        · rintro wh ⟨z0, z1⟩
          go_simp
          (try with_reducible rfl)
        simp only [Act.put, List.setIfInBounds_toArray, List.set_cons_zero, List.set_cons_succ]
        refine held_take (i := 5) (v := ?_) rfl rfl (by kernel_rfl) (by kernel_rfl) (by kernel_rfl) (fun _ _ _ h => h) (by rfl) hHeld ?_ ?_
        rotate_left
        · rintro wh ⟨z0, z1⟩
          go_simp
          (try with_reducible rfl)
        simp only [Act.put, List.setIfInBounds_toArray, List.set_cons_zero, List.set_cons_succ]
        refine held_step (i := 2) rfl (by kernel_rfl) (fun K hK => ?_)
        go_simp; refine (KF.out _ _ _ _ (HNA.out.later ((Below.refl w4.heap.size w4).drew)) HLN.out).mono ?_; rintro e w6 ⟨b, rfl, hb, hbl⟩; have HBB := Lib.hid hb; have HBL := Lib.hid (((Below.refl w4.heap.size w4).drew).trans (hbl.mono ((Below.refl w4.heap.size w4).drew).size)); clear hb hbl
        refine hK.out _ _ ⟨range_later HND.out.at_ HBL.out HND.out.lt, keep_cell HOP.out HBL.out HWL.out⟩ (fun hHeld => ?_)
        clear hK K
        (try simp only [Act.put, List.setIfInBounds_toArray])
        refine held_take (i := 6) (v := ?_) rfl rfl (by kernel_rfl) (by kernel_rfl) (by kernel_rfl) (fun _ _ _ h => h) (by rfl) hHeld ?_ ?_
        rotate_left
        · rintro wh ⟨z0, z1⟩
          go_simp
          (try with_reducible rfl)
        simp only [Act.put, List.setIfInBounds_toArray, List.set_cons_zero, List.set_cons_succ]
        refine held_take (i := 7) (v := ?_) rfl rfl (by kernel_rfl) (by kernel_rfl) (by kernel_rfl) (fun _ _ _ h => h) (by rfl) hHeld ?_ ?_
        rotate_left
        · rintro wh ⟨z0, z1⟩
          go_simp
          (try with_reducible rfl)
        simp only [Act.put, List.setIfInBounds_toArray, List.set_cons_zero, List.set_cons_succ]
        refine wpAnyH_done (by kernel_rfl) ?_ _
        have hb := HOF.out b HE0.out HBB.out
        clear HBB
        subst hb
        go_wp2
        go_ret
        exact ⟨by rw [HM.out, HO2.out]; cases fitB val vv <;> rfl, HBN.out.trans (HBL.out.mono HBN.out.size)⟩
set_option maxHeartbeats 1600000 in
set_option maxRecDepth 100000 in
theorem all6_any (l : List Fld) (ms : List Mt) (v mv : Value) (w : World) (hv : FldsAt w v l) (hl : l.length ≤ 1000000) (hvs : ∀ m ∈ ms, (valueF l m.nm).size ≤ 900) (hm : MtsAt w mv ms) (hml : ms.length ≤ 1000000) (hmf : MtsFit ms) :
    Calls Tryz.prog 31 #[v, mv] w fun e w' => e = .returned (.bool (allM l ms)) ∧ Below w.heap.size w w' := by
  obtain ⟨ma, mc, rfl, _, hr⟩ := RdAt.shape hm
  obtain ⟨fa, fc, rfl, _, _⟩ := RdAt.shape hv
  have HR := Lib.hid hr
  have KF := Lib.hid (fun (m : Mt) (h : m ∈ ms) W (hW : Below w.heap.size w W) => fit6_any l m _ W (hv.later hW) hl (hvs m h) (hmf m h))
  clear hr hm hv hvs hmf
  go_enter Tryz.func31, Tryz.ntmps31
  go_wp2
  go_loopw [5] (fun i wr => ∃ k : Nat, k ≤ ms.length ∧ i = .int .i64 (k : Nat) ∧ Hid (allM l (ms.take k) = true) ∧ Hid (Below w.heap.size w wr)) (fun i _ => ms.length + 1 - (intOf i).toNat)
  case atStart => exact ⟨0, Nat.zero_le _, rfl, Lib.hid rfl, Lib.hid (Below.refl _ _)⟩
  case round =>
    obtain ⟨k, hk, rfl, HT, HBR⟩ := hrel
    by_cases hkl : k < ms.length
    · obtain ⟨b, o, rfl, hb, hcell⟩ := HR.out (by omega)
      have HTK : Hid (allM l (ms.take (k + 1)) = (allM l (ms.take k) && fitM l ms[k])) := Lib.hid (by unfold allM; rw [List.take_add_one, List.getElem?_eq_getElem hkl, List.all_append]; simp)
      have HNO : Hid (fitM l ms[k] = false → allM l ms = false) := Lib.hid (fun h => by unfold allM; rw [List.all_eq_false]; exact ⟨_, List.getElem_mem hkl, by rw [h]; decide⟩)
      have kf := KF.out ms[k] (List.getElem_mem hkl) wr HBR.out
      obtain ⟨h0, h1, h2⟩ := mtCells_at ms k hkl
      have a0 := keep_cell (hcell _ _ h0) HBR.out hb
      have a1 : wr.cell? ⟨b, o + k * 3 + 1, none⟩ = _ := keep_cell (by have := hcell _ _ h1; rwa [← Nat.add_assoc] at this) HBR.out hb
      have a2 : wr.cell? ⟨b, o + k * 3 + 2, none⟩ = _ := keep_cell (by have := hcell _ _ h2; rwa [← Nat.add_assoc] at this) HBR.out hb
      have hi0 : (0 : Int) ≤ (k : Int) := by omega
      have hi1 : (k : Int) < (ms.length : Int) := by omega
      clear hcell h0 h1 h2
      generalize ms[k] = m at *
      obtain ⟨nm, op, val⟩ := m
      dsimp only at *
      go_wp2_with fail
      refine kf.mono ?_
      rintro e w2 ⟨rfl, hb2⟩
      have HB2 := Lib.hid (HBR.out.trans (hb2.mono HBR.out.size))
      clear kf hb2 a0 a1 a2
      cases hfm : fitM l ⟨nm, op, val⟩ with
      | true =>
        rw [hfm] at HTK
        go_wp2
        go_roundw
        case rel => exact ⟨k + 1, by omega, by go_num, Lib.hid (by rw [HTK.out, HT.out]; rfl), HB2⟩
        case measure => (simp [intOf]; try omega)
      | false =>
        rw [hfm] at HNO
        go_wp2
        go_ret
        exact ⟨by first | (rw [HNO.out (by trivial)]; done) | (rw [HNO.out (by trivial)]; rfl), HB2.out⟩
    · obtain rfl : k = ms.length := by omega
      have hi1 : ¬ (ms.length : Int) < (ms.length : Int) := by omega
      have HA : Hid (allM l ms = true) := Lib.hid (by have := HT.out; rwa [List.take_length] at this)
      clear HT
      go_wp2
      go_ret
      exact ⟨by first | (rw [HA.out]; done) | (rw [HA.out]; rfl), HBR.out⟩
end Go.Proofs.YtcfococinllcmaaGreat

/- lychgateref22.Bounds, Of, Range: contracts. -/
namespace Go.Proofs.YtcfococinllcmaaGreat
open Go.RowKit
def bndOk (l : List Int) (j : Nat) : Prop := 1 ≤ l.getD j 0 ∧ l.getD j 0 ≤ 1099511627776 ∧ (0 < j → l.getD (j - 1) 0 < l.getD j 0)
theorem getD_at {l : List Int} {j : Nat} (h : j < l.length) : l.getD j 0 = l[j] := by rw [List.getD_eq_getElem?_getD, List.getElem?_eq_getElem h]; rfl
theorem bnd_bad {l : List Int} {j : Nat} (hj : j < l.length) (h : ¬ bndOk l j) : fineL l = false := by
  refine fineL_not (fun ⟨h1, h2, h3, h4⟩ => h ?_)
  have := h4 _ (List.getElem_mem hj)
  unfold bndOk
  rw [getD_at hj]
  refine ⟨this.1, this.2, fun h0 => ?_⟩
  rw [getD_at (by omega)]
  exact List.pairwise_iff_getElem.1 h3 (j - 1) j (by omega) hj (by omega)
theorem bnd_good {l : List Int} (h : ∀ j, j < l.length → bndOk l j) : fineL l = (decide (1 ≤ l.length) && decide (l.length ≤ 20)) := by
  by_cases h1 : 1 ≤ l.length
  · by_cases h2 : l.length ≤ 20
    · rw [decide_eq_true h1, decide_eq_true h2]
      refine fineL_of h1 h2 ?_ ?_ (fun j hj => ?_)
      · have := (h 0 (by omega)).1; rwa [getD_at (by omega)] at this
      · have := (h (l.length - 1) (by omega)).2.1; rwa [getD_at (by omega)] at this
      · have := (h (j + 1) hj).2.2 (by omega); rwa [getD_at (by omega), getD_at (by omega)] at this
    · rw [fineL_not (fun h => h2 h.2.1), decide_eq_false h2, Bool.and_false]
  · rw [fineL_not (fun h => h1 h.1), decide_eq_false h1, Bool.false_and]
set_option maxHeartbeats 4000000 in
set_option maxRecDepth 100000 in
theorem bounds_any (l : List Int) (w : World) (v : Value) (hv : IntsAt w v l) (hl : l.length ≤ 1000) :
    Calls Tryz.prog 57 #[v] w fun e w' => e = .returned (.bool (fineL l)) ∧ Below w.heap.size w w' := by
  obtain ⟨a, c, rfl, hc, hr⟩ := RdAt.shape hv
  have HR := Lib.hid hr
  clear hr hv
  go_enter Tryz.func57, Tryz.ntmps57
  go_wp2
  go_loopw [3] (fun i wr => ∃ k : Nat, k ≤ l.length ∧ i = .int .i64 k ∧ Hid (∀ j, j < k → bndOk l j) ∧ Below w.heap.size w wr) (fun i _ => l.length - (intOf i).toNat)
  case atStart => exact ⟨0, Nat.zero_le _, rfl, Lib.hid (fun j hj => absurd hj (Nat.not_lt_zero j)), Below.refl _ _⟩
  case round =>
    obtain ⟨k, hk, rfl, HT, hbr⟩ := hrel
    by_cases hkl : k < l.length
    · obtain ⟨x, hxe⟩ : ∃ x, l[k] = x := ⟨_, rfl⟩
      obtain ⟨b, o, rfl, hb, hcell⟩ := HR.out (by omega)
      have hcx : wr.cell? ⟨b, o + k, none⟩ = some (.int .i64 x) := keep_cell (hcell k _ (by rw [List.getElem?_map, List.getElem?_eq_getElem hkl, hxe]; rfl)) hbr hb
      have hcy : ∀ m, k = m + 1 → wr.cell? ⟨b, o + m, none⟩ = some (.int .i64 (l.getD m 0)) := fun m hm => keep_cell (hcell m _ (by rw [List.getElem?_map, List.getElem?_eq_getElem (by omega), getD_at (by omega)]; rfl)) hbr hb
      have hgx : l.getD k 0 = x := by rw [getD_at hkl]; exact hxe
      have hstep : bndOk l k → Hid (∀ j, j < k + 1 → bndOk l j) := fun h => Lib.hid (fun j hj => by
        rcases Nat.lt_or_ge j k with h' | h'
        · exact HT.out j h'
        · obtain rfl : j = k := by omega
          exact h)
      have hbad : ¬ bndOk l k → Hid (fineL l = false) := fun h => bnd_bad hkl h
      unfold bndOk at hstep hbad
      rw [hgx] at hstep hbad
      clear hcell hxe hgx HT
      by_cases h1 : 1 ≤ x
      · by_cases h2 : x ≤ 1099511627776
        · rcases Nat.eq_zero_or_pos k with rfl | h0
          · rw [Nat.add_zero] at hcx
            have g1 : decide (x < 1) = false := decide_eq_false (by omega)
            have g2 : decide (1099511627776 < x) = false := decide_eq_false (by omega)
            have HN := hstep ⟨h1, h2, fun h => absurd h (Nat.lt_irrefl _)⟩
            clear hstep hbad hcy h1 h2
            go_wp2
            go_quiet (fail)
            have hb2 : Below w.heap.size w (wr.drewN nq) := bl_drewN hbr nq
            generalize wr.drewN nq = wq at *
            go_wp2
            go_roundw
            case rel => exact ⟨0 + 1, by omega, by go_num, HN, hb2⟩
            case measure => (simp [intOf]; try omega)
          · have hcm := hcy (k - 1) (by omega)
            clear hcy
            obtain ⟨y, hye⟩ : ∃ y, l.getD (k - 1) 0 = y := ⟨_, rfl⟩
            rw [hye] at hcm hstep hbad
            clear hye
            have g1 : decide (x < 1) = false := decide_eq_false (by omega)
            have g2 : decide (1099511627776 < x) = false := decide_eq_false (by omega)
            have g3 : (0 : Int) < (k : Int) := by omega
            have hz2 : (1 : Int) ≤ (k : Int) ∧ (k : Int) - 1 < (l.length : Int) := by omega
            by_cases h3 : y < x
            · have HN := hstep ⟨h1, h2, fun _ => h3⟩
              clear hstep hbad h1 h2
              go_wp2
              go_quiet (fail)
              have hb2 : Below w.heap.size w (wr.drewN nq) := bl_drewN hbr nq
              generalize wr.drewN nq = wq at *
              go_wp2
              go_roundw
              case rel => exact ⟨k + 1, by omega, by go_num, HN, hb2⟩
              case measure => (simp [intOf]; try omega)
            · have HF := hbad (fun h => h3 (h.2.2 h0))
              clear hstep hbad h1 h2
              go_wp2
              go_quiet (fail)
              have hb2 : Below w.heap.size w (wr.drewN nq) := bl_drewN hbr nq
              generalize wr.drewN nq = wq at *
              go_wp2
              go_ret
              exact ⟨by rw [HF.out]; rfl, hb2⟩
        · have HF := hbad (fun h => h2 h.2.1)
          have g1 : decide (x < 1) = false := decide_eq_false (by omega)
          have g2 : (1099511627776 : Int) < x := by omega
          clear hstep hbad hcy h1 h2
          go_wp2
          go_quiet (fail)
          have hb2 : Below w.heap.size w (wr.drewN nq) := bl_drewN hbr nq
          generalize wr.drewN nq = wq at *
          go_wp2
          go_ret
          exact ⟨by rw [HF.out]; rfl, hb2⟩
      · have HF := hbad (fun h => h1 h.1)
        have g1 : x < 1 := by omega
        clear hstep hbad hcy h1
        go_wp2
        go_quiet (fail)
        have hb2 : Below w.heap.size w (wr.drewN nq) := bl_drewN hbr nq
        generalize wr.drewN nq = wq at *
        go_wp2
        go_ret
        exact ⟨by rw [HF.out]; rfl, hb2⟩
    · obtain rfl : k = l.length := by omega
      have HF : Hid (fineL l = (decide (1 ≤ l.length) && decide (l.length ≤ 20))) := bnd_good HT.out
      clear HT
      by_cases h1 : 1 ≤ l.length
      · by_cases h2 : l.length ≤ 20
        · have HF2 : Hid (fineL l = true) := by show _ = _; rw [HF.out, decide_eq_true h1, decide_eq_true h2]; rfl
          go_wp2
          go_ret
          refine ⟨?_, hbr⟩
          rw [HF2.out]; (first | rfl | (simp; done) | (simp; omega))
        · have HF2 : Hid (fineL l = false) := by show _ = _; rw [HF.out, decide_eq_false h2, Bool.and_false]
          go_wp2
          go_ret
          refine ⟨?_, hbr⟩
          rw [HF2.out]; (first | rfl | (simp; done) | (simp; omega))
      · have HF2 : Hid (fineL l = false) := by show _ = _; rw [HF.out, decide_eq_false h1, Bool.false_and]
        go_wp2
        go_ret
        refine ⟨?_, hbr⟩
        rw [HF2.out]; (first | rfl | (simp; done) | (simp; omega))
end Go.Proofs.YtcfococinllcmaaGreat

/- lychgateref22.Of: a contract (the first part of XRefBkOf). -/
namespace Go.Proofs.YtcfococinllcmaaGreat
open Go.RowKit
theorem cnt_take {l : List Int} {n : Int} {i : Nat} (h : i < l.length) : cntL (l.take (i + 1)) n = cntL (l.take i) n + if l[i] ≤ n then 1 else 0 := by
  unfold cntL
  rw [List.take_succ_eq_append_getElem h, List.countP_append]
  by_cases hx : l[i] ≤ n <;> simp [hx]
set_option maxHeartbeats 1600000 in
set_option maxRecDepth 100000 in
theorem refof_any (l : List Int) (n : Int) (w : World) (v : Value) (hv : IntsAt w v l) (hl : l.length ≤ 1000) :
    Calls Tryz.prog 44 #[v, .int .i64 n] w fun e w' => e = .returned (.int .i64 (ofL l n : Nat)) ∧ Below w.heap.size w w' := by
  have hbd := fun w' (hb : Below w.heap.size w w') => bounds_any l w' v (hv.later hb) hl
  obtain ⟨a, c, rfl, hc, hr⟩ := RdAt.shape hv
  have HR := Lib.hid hr
  clear hr hv
  cases hf : fineL l
  · have HZ : Hid (ofL l n = 0) := ofL_bad hf n
    rw [hf] at hbd
    rcases Nat.eq_zero_or_pos l.length with h0 | h0
    · have h0' : (l.length : Int) = 0 := by omega
      have HB := Lib.hid hbd
      clear hbd
      go_enter Tryz.func44, Tryz.ntmps44
      go_wp2
      go_loopw [5, 6] (fun u i wr => u = .int .i64 0 ∧ i = .int .i64 0 ∧ Below w.heap.size w wr) (fun _ _ _ => 0)
      case atStart => exact ⟨rfl, rfl, Below.refl _ _⟩
      case round =>
        obtain ⟨rfl, rfl, hbr⟩ := hrel
        go_wp2
        go_ret
        exact ⟨by rw [HZ.out]; rfl, hbr⟩
    · have h0' : (0 : Int) < (l.length : Int) := by omega
      go_enter Tryz.func44, Tryz.ntmps44
      go_wp2
      go_loopw [5, 6] (fun u i wr => u = .int .i64 0 ∧ i = .int .i64 0 ∧ Below w.heap.size w wr) (fun _ _ _ => 0)
      case atStart => exact ⟨rfl, rfl, Below.refl _ _⟩
      case round =>
        obtain ⟨rfl, rfl, hbr⟩ := hrel
        go_wp2_with fail
        refine (hbd _ hbr).mono ?_
        rintro e w1 ⟨rfl, hb1⟩
        go_wp2
        go_ret
        exact ⟨by rw [HZ.out]; rfl, hbr.trans (hb1.mono hbr.size)⟩
  · have HZ : Hid (ofL l n = cntL l n) := by show _ = _; unfold ofL; rw [if_pos hf]
    rw [hf] at hbd
    clear hf
    go_enter Tryz.func44, Tryz.ntmps44
    go_wp2
    go_loopw [5, 6] (fun u i wr => ∃ k m : Nat, k ≤ l.length ∧ m ≤ k ∧ u = .int .i64 m ∧ i = .int .i64 k ∧ Hid (m = cntL (l.take k) n) ∧ Below w.heap.size w wr) (fun _ i _ => l.length - (intOf i).toNat)
    case atStart => exact ⟨0, 0, Nat.zero_le _, Nat.le_refl _, rfl, rfl, Lib.hid rfl, Below.refl _ _⟩
    case round =>
      obtain ⟨k, m, hk, hmk, rfl, rfl, HM, hbr⟩ := hrel
      by_cases hkl : k < l.length
      · obtain ⟨x, hxe⟩ : ∃ x, l[k] = x := ⟨_, rfl⟩
        obtain ⟨b, o, rfl, hb, hcell⟩ := HR.out (by omega)
        have hcx : wr.cell? ⟨b, o + k, none⟩ = some (.int .i64 x) := keep_cell (hcell k _ (by rw [List.getElem?_map, List.getElem?_eq_getElem hkl, hxe]; rfl)) hbr hb
        have HS := Lib.hid (cnt_take (n := n) hkl)
        rw [hxe] at HS
        clear hcell hxe
        have hlt : b < wr.heap.size := Nat.lt_of_lt_of_le hb hbr.size
        go_wp2_with fail
        refine (hbd _ hbr).mono ?_
        rintro e w1 ⟨rfl, hb1⟩
        have hcx1 := keep_cell hcx hb1 hlt
        have hbr1 := hbr.trans (hb1.mono hbr.size)
        clear hcx hbr hb1 hlt
        by_cases hxn : x ≤ n
        · have HN : Hid (m + 1 = cntL (l.take (k + 1)) n) := by show _ = _; rw [HS.out, if_pos hxn, HM.out]
          go_wp2
          go_roundw
          case rel => exact ⟨k + 1, m + 1, by omega, by omega, by go_num, by go_num, HN, hbr1⟩
          case measure => (simp [intOf]; try omega)
        · have HN : Hid (m = cntL (l.take (k + 1)) n) := by show _ = _; rw [HS.out, if_neg hxn, HM.out]; rfl
          have hxn' : n < x := by omega
          clear hxn
          go_wp2
          go_roundw
          case rel => exact ⟨k + 1, m, by omega, by omega, rfl, by go_num, HN, hbr1⟩
          case measure => (simp [intOf]; try omega)
      · obtain rfl : k = l.length := by omega
        have HE : Hid (m = ofL l n) := by show _ = _; rw [HZ.out, HM.out, List.take_length]
        have HB := Lib.hid hbd
        clear hbd HM
        go_wp2
        go_ret
        exact ⟨by rw [← HE.out]; rfl, hbr⟩
end Go.Proofs.YtcfococinllcmaaGreat

/- lychgateref22: Right, Counts, Tell; lychgatelaw22.doc: contracts, the same as bucket's. -/
namespace Go.Proofs.YtcfococinllcmaaGreat
open Go.RowKit
theorem value_right {l : List Fld} (h : rightF l = true) (n : ByteArray) : (valueF l n).size ≤ 900 := by
  unfold valueF
  split
  · rename_i x hf
    obtain ⟨j, hj, rfl⟩ := List.getElem_of_mem (List.mem_of_find?_eq_some hf)
    unfold rightF at h
    simp only [Bool.and_eq_true, List.all_eq_true] at h
    have h2 := h.2 j (List.mem_range.2 hj)
    unfold fldOk at h2
    simp only [Bool.and_eq_true, decide_eq_true_eq] at h2
    have h3 := h2.1.2
    rw [List.getD_eq_getElem?_getD, List.getElem?_eq_getElem hj] at h3
    exact Nat.le_trans h3 (by decide)
  · exact Nat.zero_le _
theorem al7r (W : World) (a b c d e f g : Value) (t : TypeId) : C7 W.heap.size a b c d e f g (W.alloc (.cells #[a, b, c, d, e, f, g] t)) := by
  have hc : ∀ (i : Nat), (W.alloc (.cells #[a, b, c, d, e, f, g] t)).cell? ⟨W.heap.size, i, none⟩ = _ := fun i => World.cell?_alloc_at _ _ _ _ rfl
  exact ⟨hc 0, hc 1, hc 2, hc 3, hc 4, hc 5, hc 6⟩
set_option maxHeartbeats 1600000 in
set_option maxRecDepth 100000 in
theorem hdoc_any (nm : ByteArray) (f : Int) (fc : Nat) (t : Int) (tc : Nat) (ma : Option Addr) (mn mc : Nat) (ba : Option Addr) (bn bc : Nat) (w : World) :
    Calls Tryz.prog 14 #[.agg #[.string nm, .int .i64 f, .int .u32 fc, .int .i64 t, .int .u32 tc, .slice ma mn mc, .slice ba bn bc]] w fun e w' => e = .returned (.agg #[.string nm, .int .i64 f, .int .u32 fc, .int .i64 t, .int .u32 tc, .slice ma mn mc, .slice ba bn bc]) ∧ Below w.heap.size w w' := by
  obtain ⟨W1, h1⟩ : ∃ z, w.alloc (.cells #[.string nm, .int .i64 f, .int .u32 fc, .int .i64 t, .int .u32 tc, .slice ma mn mc, .slice ba bn bc] 35) = z := ⟨_, rfl⟩
  obtain ⟨W2, h2⟩ : ∃ z, W1.alloc (.cells #[.string ⟨#[]⟩, .int .i64 0, .int .u32 0, .int .i64 0, .int .u32 0, .slice none 0 0, .slice none 0 0] 37) = z := ⟨_, rfl⟩
  have s1 : W1.heap.size = w.heap.size + 1 := by rw [← h1, World.size_alloc]
  have b1 : Below w.heap.size w W1 := by rw [← h1]; exact alloc_below _ _
  have b2 : Below W1.heap.size W1 W2 := by rw [← h2]; exact alloc_below _ _
  have y := al7r w (.string nm) (.int .i64 f) (.int .u32 fc) (.int .i64 t) (.int .u32 tc) (.slice ma mn mc) (.slice ba bn bc) 35
  have z := al7r W1 (.string ⟨#[]⟩) (.int .i64 0) (.int .u32 0) (.int .i64 0) (.int .u32 0) (.slice none 0 0) (.slice none 0 0) 37
  have t1 := box_there (Below.refl _ (W1.alloc (.cells #[.string ⟨#[]⟩, .int .i64 0, .int .u32 0, .int .i64 0, .int .u32 0, .slice none 0 0, .slice none 0 0] 37)))
  rw [h1] at y
  have y := y.later b2 (by omega)
  rw [h2] at z t1
  change W2.there W1.heap.size 0 7 at t1
  rw [s1] at z t1
  have f0 := there_free t1 0 (by omega)
  have f1 := there_free t1 1 (by omega)
  have f2 := there_free t1 2 (by omega)
  have f3 := there_free t1 3 (by omega)
  have f4 := there_free t1 4 (by omega)
  have f5 := there_free t1 5 (by omega)
  have f6 := there_free t1 6 (by omega)
  have HB := Lib.hid (b1.trans (b2.mono (by omega)))
  have HT := Lib.hid t1
  obtain ⟨y0, y1, y2, y3, y4, y5, y6⟩ := y
  obtain ⟨z0, z1, z2, z3, z4, z5, z6⟩ := z
  clear b1 b2 t1
  go_enter Tryz.func14, Tryz.ntmps14
  go_upto_region 1 with fail
  try rw [h1]
  try rw [h2]
  try rw [s1]
  clear h1 h2
  go_wp2
  refine bodyPost_ret (results_agg1 rfl _ _ (w.heap.size + 1) [.string nm, .int .i64 f, .int .u32 fc, .int .i64 t, .int .u32 tc, .slice ma mn mc, .slice ba bn bc] (.struct _) rfl (World.rangeAt_setCells_same _ (w.heap.size + 1) 0 [.string nm, .int .i64 f, .int .u32 fc, .int .i64 t, .int .u32 tc, .slice ma mn mc, .slice ba bn bc] HT.out) Tryz.underlying37 rfl (by kernel_rfl)) rfl ?_
  exact ⟨rfl, below_puts (g := w.heap.size + 1) (o := 0) HB.out (by omega) [.string nm, .int .i64 f, .int .u32 fc, .int .i64 t, .int .u32 tc, .slice ma mn mc, .slice ba bn bc]⟩
set_option maxHeartbeats 3200000 in
set_option maxRecDepth 100000 in
theorem h22right_any (h : Ha) (wv bv : Value) (w : World) (ha : HaAt w h wv bv) (hf : HaFit h) :
    Calls Tryz.prog 17 #[.agg #[.string h.nm, .int .i64 h.f, .int .u32 h.fc, .int .i64 h.t, .int .u32 h.tc, wv, bv]] w fun e w' => e = .returned (.bool (rightH h)) ∧ Below w.heap.size w w' := by
  have HR : Hid (rightH h = (nameL (B h.nm) && rightL h.f && rightL h.t && (decide (h.ms.length ≤ 12) && !(h.ms.any fun m => !fineM m) && fineL h.bl))) := Lib.hid rfl
  have KF := Lib.hid (fun (m : Mt) (hm : m ∈ h.ms) W => fine6_any m W (hf.ms m hm))
  have K1 := Lib.hid (fun W => refName.name_any h.nm W hf.nm)
  have K2 := Lib.hid (fun W => rright_any h.f h.fc W)
  have K3 := Lib.hid (fun W => rright_any h.t h.tc W)
  have K4 := Lib.hid (fun W (hW : Below w.heap.size w W) => bounds_any h.bl W bv (ha.bl.later hW) hf.bn)
  obtain ⟨ma, mc, rfl, _, hr⟩ := RdAt.shape ha.ms
  obtain ⟨ba, bc, rfl, _, _⟩ := RdAt.shape ha.bl
  have hmn := hf.mn
  have hb0 := alloc_below w (.cells #[.string h.nm, .int .i64 h.f, .int .u32 h.fc, .int .i64 h.t, .int .u32 h.tc, .slice ma h.ms.length mc, .slice ba h.bl.length bc] 37)
  have hz0 := World.size_alloc w (.cells #[.string h.nm, .int .i64 h.f, .int .u32 h.fc, .int .i64 h.t, .int .u32 h.tc, .slice ma h.ms.length mc, .slice ba h.bl.length bc] 37)
  have x := al7r w (.string h.nm) (.int .i64 h.f) (.int .u32 h.fc) (.int .i64 h.t) (.int .u32 h.tc) (.slice ma h.ms.length mc) (.slice ba h.bl.length bc) 37
  generalize rightH h = R at *
  generalize h.bl.length = bn at *
  obtain ⟨nm, f, fc, t, tc, ms, bl⟩ := h
  dsimp only at *
  have X0 := Lib.hid x
  have HB0 := Lib.hid hb0
  have HRD := Lib.hid hr
  have HZ0 := Lib.hid hz0
  clear ha hf x hb0 hr hz0
  go_enter Tryz.func17, Tryz.ntmps17
  go_upto_region 1 with fail
  change Code.wp _ _ _ _ (w.alloc (.cells #[.string nm, .int .i64 f, .int .u32 fc, .int .i64 t, .int .u32 tc, .slice ma ms.length mc, .slice ba bn bc] 37))
  generalize w.alloc (.cells #[.string nm, .int .i64 f, .int .u32 fc, .int .i64 t, .int .u32 tc, .slice ma ms.length mc, .slice ba bn bc] 37) = w1 at *
  go_upto_region 2 with fail
  go_loopw [3] (fun vi wr => ∃ k : Nat, k ≤ ms.length ∧ vi = .int .i64 (k : Nat) ∧ Hid ((ms.take k).any (fun m => !fineM m) = false) ∧ Hid (C7 w.heap.size (.string nm) (.int .i64 f) (.int .u32 fc) (.int .i64 t) (.int .u32 tc) (.slice ma ms.length mc) (.slice ba bn bc) wr) ∧ Hid (Below w.heap.size w wr) ∧ Hid (w.heap.size < wr.heap.size)) (fun vi _ => ms.length + 1 - (intOf vi).toNat)
  case atStart => exact ⟨0, Nat.zero_le _, rfl, Lib.hid rfl, X0, HB0, Lib.hid (by have := HZ0.out; omega)⟩
  case round =>
    clear X0 HB0 HZ0
    obtain ⟨k, hk, rfl, HT, HX, HB, HS⟩ := hrel
    obtain ⟨x0, x1, x2, x3, x4, x5, x6⟩ := HX.out
    by_cases hkl : k < ms.length
    · obtain ⟨b, o, rfl, hb, hcell⟩ := HRD.out (by omega)
      have HTK : Hid ((ms.take (k + 1)).any (fun m => !fineM m) = ((ms.take k).any (fun m => !fineM m) || !fineM ms[k])) := Lib.hid (by rw [List.take_add_one, List.getElem?_eq_getElem hkl, List.any_append]; simp)
      have HNO : Hid (fineM ms[k] = false → ms.any (fun m => !fineM m) = true) := Lib.hid (fun h => by rw [List.any_eq_true]; exact ⟨_, List.getElem_mem hkl, by rw [h]; decide⟩)
      have kf := KF.out ms[k] (List.getElem_mem hkl) wr
      obtain ⟨h0, h1, h2⟩ := mtCells_at ms k hkl
      have a0 := keep_cell (hcell _ _ h0) HB.out hb
      have a1 : wr.cell? ⟨b, o + k * 3 + 1, none⟩ = _ := keep_cell (by have := hcell _ _ h1; rwa [← Nat.add_assoc] at this) HB.out hb
      have a2 : wr.cell? ⟨b, o + k * 3 + 2, none⟩ = _ := keep_cell (by have := hcell _ _ h2; rwa [← Nat.add_assoc] at this) HB.out hb
      have hi0 : (0 : Int) ≤ (k : Int) := by omega
      have hi1 : (k : Int) < (ms.length : Int) := by omega
      clear hcell h0 h1 h2
      generalize ms[k] = m at *
      obtain ⟨mnm, op, val⟩ := m
      dsimp only at *
      go_wp2_with fail
      refine kf.mono ?_
      rintro e w2 ⟨rfl, hb2⟩
      have HB2 := Lib.hid (HB.out.trans (hb2.mono HB.out.size))
      have HX2 := Lib.hid (HX.out.later hb2 HS.out)
      have HS2 := Lib.hid (Nat.lt_of_lt_of_le HS.out hb2.size)
      clear kf hb2 a0 a1 a2
      cases hfm : fineM ⟨mnm, op, val⟩ with
      | true =>
        rw [hfm] at HTK
        go_wp2
        go_roundw
        case rel => exact ⟨k + 1, by omega, by go_num, Lib.hid (by rw [HTK.out, HT.out]; rfl), HX2, HB2, HS2⟩
        case measure => (simp [intOf]; try omega)
      | false =>
        rw [hfm] at HNO
        go_wp2
        go_ret
        exact ⟨by rw [HR.out, HNO.out (by trivial)]; simp, HB2.out⟩
    · obtain rfl : k = ms.length := by omega
      have hi1 : ¬ (ms.length : Int) < (ms.length : Int) := by omega
      have HA : Hid (ms.any (fun m => !fineM m) = false) := Lib.hid (by have := HT.out; rwa [List.take_length] at this)
      rw [HA.out] at HR
      clear HT HA KF HRD
      generalize ms.length = mn at *
      go_upto_region 6 with fail
      have k1 := K1.out wr
      go_wp2_with fail
      refine k1.mono ?_
      rintro e w1' ⟨rfl, rfl⟩
      clear k1
      generalize nameL (B nm) = b1 at *
      cases b1 with
      | false =>
        go_wp2
        go_ret
        exact ⟨by rw [HR.out]; rfl, HB.out⟩
      | true =>
      have k2 := K2.out wr
      go_wp2_with fail
      refine k2.mono ?_
      rintro e w2 ⟨rfl, hb2⟩
      have HB2 := Lib.hid (HB.out.trans (hb2.mono HB.out.size))
      have HX2 := Lib.hid (HX.out.later hb2 HS.out)
      have HS2 := Lib.hid (Nat.lt_of_lt_of_le HS.out hb2.size)
      clear k2 hb2 x0 x1 x2 x3 x4 x5 x6 HB HX HS
      generalize rightL f = b2 at *
      cases b2 with
      | false =>
        go_wp2
        go_ret
        exact ⟨by rw [HR.out]; rfl, HB2.out⟩
      | true =>
      obtain ⟨x0, x1, x2, x3, x4, x5, x6⟩ := HX2.out
      have k3 := K3.out w2
      go_wp2_with fail
      refine k3.mono ?_
      rintro e w3 ⟨rfl, hb3⟩
      have HB3 := Lib.hid (HB2.out.trans (hb3.mono HB2.out.size))
      have HX3 := Lib.hid (HX2.out.later hb3 HS2.out)
      clear k3 hb3 x0 x1 x2 x3 x4 x5 x6 HB2 HX2 HS2
      generalize rightL t = b3 at *
      cases b3 with
      | false =>
        go_wp2
        go_ret
        exact ⟨by rw [HR.out]; rfl, HB3.out⟩
      | true =>
      obtain ⟨x0, x1, x2, x3, x4, x5, x6⟩ := HX3.out
      by_cases h12 : mn ≤ 12
      case neg =>
        have HD : Hid (decide (mn ≤ 12) = false) := Lib.hid (decide_eq_false h12)
        rw [HD.out] at HR
        have h12' : (12 : Int) < (mn : Int) := by omega
        clear h12
        go_wp2
        go_ret
        exact ⟨by rw [HR.out]; rfl, HB3.out⟩
      have HD : Hid (decide (mn ≤ 12) = true) := Lib.hid (decide_eq_true h12)
      rw [HD.out] at HR
      have h12' : (mn : Int) ≤ 12 := by omega
      have k4 := K4.out w3 HB3.out
      go_wp2_with fail
      refine k4.mono ?_
      rintro e w4 ⟨rfl, hb4⟩
      have HB4 := Lib.hid (HB3.out.trans (hb4.mono HB3.out.size))
      clear k4 hb4 x0 x1 x2 x3 x4 x5 x6 HB3 HX3
      go_wp2
      go_ret
      exact ⟨by rw [HR.out]; rfl, HB4.out⟩
set_option maxHeartbeats 6400000 in
set_option maxRecDepth 100000 in
theorem h22counts_any (h : Ha) (wv bv : Value) (l : List (Al × Value)) (lv : Value) (now : Int) (w : World) (ha : HaAt w h wv bv) (hf : HaFit h) (hl : AlsAt w lv l) (hn : l.length ≤ 100) (hfc : h.fc < 4294967296) :
    Calls Tryz.prog 45 #[.agg #[.string h.nm, .int .i64 h.f, .int .u32 h.fc, .int .i64 h.t, .int .u32 h.tc, wv, bv], lv, .int .i64 now] w fun e w' => e = .returned (.int .i64 (countN h l now : Nat)) ∧ Below w.heap.size w w' := by
  have HC := Lib.hid (fun k hk => countN_succ h l now k hk)
  have HLE : Hid (∀ k, countN h (l.take k) now ≤ 100) := Lib.hid (fun k => Nat.le_trans List.countP_le_length (by rw [List.length_take]; omega))
  have HN0 : Hid (countN h (l.take 0) now = 0) := Lib.hid rfl
  have HNA : Hid (countN h (l.take l.length) now = countN h l now) := Lib.hid (by rw [List.take_length])
  have K1 := Lib.hid (fun W (hW : Below w.heap.size w W) (k : Nat) (hk : k < l.length) => r9right_any l[k].1.src l[k].1.fl l[k].1.lv l[k].1.c l[k].1.fr l[k].1.til l[k].2 W (hl.fld _ (List.getElem_mem hk)).2.src ((hl.fld _ (List.getElem_mem hk)).1.later hW) (hl.fld _ (List.getElem_mem hk)).2.fl (hl.fld _ (List.getElem_mem hk)).2.len)
  have K3 := Lib.hid (fun W (k : Nat) (hk : k < l.length) => rflows_any l[k].1.lv l[k].1.c h.f h.fc W (hl.fld _ (List.getElem_mem hk)).2.c hfc)
  have K4 : Hid (∀ W (hW : Below w.heap.size w W) (k : Nat) (hk : k < l.length), rightA l[k].1 = true → Calls Tryz.prog 31 #[l[k].2, wv] W fun e w' => e = .returned (.bool (allM l[k].1.fl h.ms)) ∧ Below W.heap.size W w') := Lib.hid (fun W hW k hk hr => by
    have hF : rightF l[k].1.fl = true := by
      unfold rightA whoA at hr
      simp only [Bool.and_eq_true, decide_eq_true_eq] at hr
      exact hr.1.1.1.2
    have h8 : l[k].1.fl.length ≤ 8 := by
      unfold rightF at hF
      simp only [Bool.and_eq_true, decide_eq_true_eq] at hF
      exact hF.1
    exact all6_any l[k].1.fl h.ms l[k].2 wv W ((hl.fld _ (List.getElem_mem hk)).1.later hW) (by omega) (fun m _ => value_right hF m.nm) (ha.ms.later hW) (by have := hf.mn; omega) hf.ms)
  have HSH : Hid (∀ (k : Nat) (hk : k < l.length), ∃ a n c, l[k].2 = Value.slice a n c) := Lib.hid (fun k hk => by
    obtain ⟨a, c, h, _⟩ := RdAt.shape (hl.fld _ (List.getElem_mem hk)).1
    exact ⟨a, _, c, h⟩)
  obtain ⟨la, lc, rfl, hlc, hlr⟩ := RdAt.shape hl.row
  have HLR := Lib.hid hlr
  obtain ⟨ma, mc, rfl, _, _⟩ := RdAt.shape ha.ms
  obtain ⟨ba, bc, rfl, _, _⟩ := RdAt.shape ha.bl
  have hb0 := alloc_below w (.cells #[.string h.nm, .int .i64 h.f, .int .u32 h.fc, .int .i64 h.t, .int .u32 h.tc, .slice ma h.ms.length mc, .slice ba h.bl.length bc] 37)
  have hz0 := World.size_alloc w (.cells #[.string h.nm, .int .i64 h.f, .int .u32 h.fc, .int .i64 h.t, .int .u32 h.tc, .slice ma h.ms.length mc, .slice ba h.bl.length bc] 37)
  have x := al7r w (.string h.nm) (.int .i64 h.f) (.int .u32 h.fc) (.int .i64 h.t) (.int .u32 h.tc) (.slice ma h.ms.length mc) (.slice ba h.bl.length bc) 37
  have HCH : Hid (∀ y : Al, countsH h y now = (rightA y && firesA y now && flowsL y.lv y.c h.f h.fc && allM y.fl h.ms)) := Lib.hid (fun _ => rfl)
  generalize hCN : (fun k => countN h (l.take k) now) = CN at *
  have hCN' : ∀ k, countN h (l.take k) now = CN k := fun k => by rw [← hCN]
  simp only [hCN'] at HC HLE HN0 HNA
  clear hCN hCN'
  generalize h.ms.length = mn at *
  generalize h.bl.length = bn at *
  have HX0 := Lib.hid x
  have HB0 := Lib.hid hb0
  have hz1 : w.heap.size < (w.alloc (.cells #[.string h.nm, .int .i64 h.f, .int .u32 h.fc, .int .i64 h.t, .int .u32 h.tc, .slice ma mn mc, .slice ba bn bc] 37)).heap.size := by omega
  clear ha hf hl hlr hfc x hb0 hz0
  obtain ⟨nm, f, fc, t, tc, ms, bl⟩ := h
  dsimp only at *
  go_enter Tryz.func45, Tryz.ntmps45
  go_upto_region 1 with fail
  change Code.wp _ _ _ _ (w.alloc (.cells #[.string nm, .int .i64 f, .int .u32 fc, .int .i64 t, .int .u32 tc, .slice ma mn mc, .slice ba bn bc] 37))
  generalize w.alloc (.cells #[.string nm, .int .i64 f, .int .u32 fc, .int .i64 t, .int .u32 tc, .slice ma mn mc, .slice ba bn bc] 37) = w1 at *
  go_upto_region 3 with fail
  go_loopw [7, 8] (fun vn vi wr => ∃ k : Nat, k ≤ l.length ∧ vn = .int .i64 (CN k : Nat) ∧ vi = .int .i64 k ∧ Hid (C7 w.heap.size (.string nm) (.int .i64 f) (.int .u32 fc) (.int .i64 t) (.int .u32 tc) (.slice ma mn mc) (.slice ba bn bc) wr) ∧ Hid (Below w.heap.size w wr) ∧ w.heap.size < wr.heap.size) (fun _ vi _ => l.length - (intOf vi).toNat)
  case atStart => exact ⟨0, Nat.zero_le _, by rw [HN0.out]; rfl, rfl, HX0, HB0, hz1⟩
  case round =>
    clear HX0 HB0 hz1
    obtain ⟨k, hk, rfl, rfl, HX, HB, hlt⟩ := hrel
    by_cases hkl : k < l.length
    case neg =>
      obtain rfl : k = l.length := by omega
      clear HLE HC HN0
      go_wp2
      go_ret
      exact ⟨by first | rfl | (rw [HNA.out]; rfl), HB.out⟩
    obtain ⟨b, o, rfl, hbl, hcell⟩ := HLR.out (by omega)
    have hat := alCells_at l k hkl
    have hblr : b < wr.heap.size := Nat.lt_of_lt_of_le hbl HB.out.size
    have q0 := keep_cell (hcell _ _ (hat 0 _ rfl)) HB.out hbl
    have q1 := keep_cell (hcell _ _ (hat 1 _ rfl)) HB.out hbl
    have q2 := keep_cell (hcell _ _ (hat 2 _ rfl)) HB.out hbl
    have q3 := keep_cell (hcell _ _ (hat 3 _ rfl)) HB.out hbl
    have q4 := keep_cell (hcell _ _ (hat 4 _ rfl)) HB.out hbl
    have q5 := keep_cell (hcell _ _ (hat 5 _ rfl)) HB.out hbl
    rw [Nat.add_zero] at q0
    rw [← Nat.add_assoc] at q1 q2 q3 q4 q5
    have K1k := Lib.hid (fun W hW => K1.out W hW k hkl)
    have K3k := Lib.hid (fun W => K3.out W k hkl)
    have K4k := Lib.hid (fun W hW => K4.out W hW k hkl)
    have HCk := Lib.hid (HC.out k hkl)
    have hle := HLE.out k
    have HCA := Lib.hid (HCH.out l[k].1)
    obtain ⟨va, vn, vc, hsh⟩ := HSH.out k hkl
    rw [hsh] at q1 K1k K4k
    clear hsh hcell hat HC HLE HN0 HNA HCH K1 K3 K4 HSH HLR
    generalize CN k = N at *
    generalize l[k].1 = A at *
    obtain ⟨src, fls, alv, ac, afr, atil⟩ := A
    have K2k : Hid (∀ W, Calls Tryz.prog 81 #[.agg #[.string src, .slice va vn vc, .int .i64 alv, .int .u32 ac, .int .i64 afr, .int .i64 atil], .int .i64 now] W fun e w' => e = .returned (.bool (firesA ⟨src, fls, alv, ac, afr, atil⟩ now)) ∧ Below W.heap.size W w') := Lib.hid (fun W => r9fires_any src va vn vc alv ac afr atil now W)
    have K1j : Hid (∀ W, Below w.heap.size w W → Calls Tryz.prog 80 #[.agg #[.string src, .slice va vn vc, .int .i64 alv, .int .u32 ac, .int .i64 afr, .int .i64 atil]] W fun e w' => e = .returned (.bool (rightA ⟨src, fls, alv, ac, afr, atil⟩)) ∧ Below W.heap.size W w') := K1k
    clear K1k
    dsimp only at *
    generalize countsH ⟨nm, f, fc, t, tc, ms, bl⟩ ⟨src, fls, alv, ac, afr, atil⟩ now = cb at *
    generalize rightA ⟨src, fls, alv, ac, afr, atil⟩ = RA at *
    generalize firesA ⟨src, fls, alv, ac, afr, atil⟩ now = FA at *
    generalize flowsL alv ac f fc = FL at *
    generalize allM fls ms = AM at *
    have hk0 : (0 : Int) ≤ (k : Int) := by omega
    have hk1 : (k : Int) < (l.length : Int) := by omega
    have SK : Hid (∀ W', Below wr.heap.size wr W' → C7 w.heap.size (.string nm) (.int .i64 f) (.int .u32 fc) (.int .i64 t) (.int .u32 tc) (.slice ma mn mc) (.slice ba bn bc) W' ∧ W'.cell? ⟨b, o + k * 6, none⟩ = some (.string src) ∧ W'.cell? ⟨b, o + k * 6 + 1, none⟩ = some (.slice va vn vc) ∧ W'.cell? ⟨b, o + k * 6 + 2, none⟩ = some (.int .i64 alv) ∧ W'.cell? ⟨b, o + k * 6 + 3, none⟩ = some (.int .u32 ac) ∧ W'.cell? ⟨b, o + k * 6 + 4, none⟩ = some (.int .i64 afr) ∧ W'.cell? ⟨b, o + k * 6 + 5, none⟩ = some (.int .i64 atil)) :=
      Lib.hid (fun W' h => ⟨HX.out.later h hlt, keep_cell q0 h hblr, keep_cell q1 h hblr, keep_cell q2 h hblr, keep_cell q3 h hblr, keep_cell q4 h hblr, keep_cell q5 h hblr⟩)
    have hfin : ∀ W', Below wr.heap.size wr W' → w.heap.size < W'.heap.size := fun W' h => Nat.lt_of_lt_of_le hlt h.size
    have HFIN := Lib.hid hfin
    clear hfin q0 q1 q2 q3 q4 q5 hbl hblr
    go_upto_region 5 with fail
    cases RA with
    | false =>
      refine wp_region_held_drew (S := (fun W' => C7 w.heap.size (.string nm) (.int .i64 f) (.int .u32 fc) (.int .i64 t) (.int .u32 tc) (.slice ma mn mc) (.slice ba bn bc) W' ∧ W'.cell? ⟨b, o + k * 6, none⟩ = some (.string src) ∧ W'.cell? ⟨b, o + k * 6 + 1, none⟩ = some (.slice va vn vc) ∧ W'.cell? ⟨b, o + k * 6 + 2, none⟩ = some (.int .i64 alv) ∧ W'.cell? ⟨b, o + k * 6 + 3, none⟩ = some (.int .u32 ac) ∧ W'.cell? ⟨b, o + k * 6 + 4, none⟩ = some (.int .i64 afr) ∧ W'.cell? ⟨b, o + k * 6 + 5, none⟩ = some (.int .i64 atil))) (by kernel_rfl) (SK.out _ ((Below.refl wr.heap.size wr).drew)) (fun hHeld => ?_)
      refine held_take (i := 0) (v := ?_) rfl rfl (by kernel_rfl) (by kernel_rfl) (by kernel_rfl) (fun _ _ _ h => h) (by rfl) hHeld ?_ ?_
      rotate_left
      · rintro wh ⟨⟨x0, x1, x2, x3, x4, x5, x6⟩, z0, z1, z2, z3, z4, z5⟩
        go_simp
        (try with_reducible rfl)
      simp only [Act.put, List.setIfInBounds_toArray, List.set_cons_zero, List.set_cons_succ]
      refine held_take (i := 1) (v := ?_) rfl rfl (by kernel_rfl) (by kernel_rfl) (by kernel_rfl) (fun _ _ _ h => h) (by rfl) hHeld ?_ ?_
      rotate_left
      · rintro wh ⟨⟨x0, x1, x2, x3, x4, x5, x6⟩, z0, z1, z2, z3, z4, z5⟩
        go_simp
        (try with_reducible rfl)
      simp only [Act.put, List.setIfInBounds_toArray, List.set_cons_zero, List.set_cons_succ]
      refine held_take (i := 2) (v := ?_) rfl rfl (by kernel_rfl) (by kernel_rfl) (by kernel_rfl) (fun _ _ _ h => h) (by rfl) hHeld ?_ ?_
      rotate_left
      · rintro wh ⟨⟨x0, x1, x2, x3, x4, x5, x6⟩, z0, z1, z2, z3, z4, z5⟩
        go_simp
        (try with_reducible rfl)
      simp only [Act.put, List.setIfInBounds_toArray, List.set_cons_zero, List.set_cons_succ]
      refine held_take (i := 3) (v := ?_) rfl rfl (by kernel_rfl) (by kernel_rfl) (by kernel_rfl) (fun _ _ _ h => h) (by rfl) hHeld ?_ ?_
      rotate_left
      · rintro wh ⟨⟨x0, x1, x2, x3, x4, x5, x6⟩, z0, z1, z2, z3, z4, z5⟩
        go_simp
        (try with_reducible rfl)
      simp only [Act.put, List.setIfInBounds_toArray, List.set_cons_zero, List.set_cons_succ]
      refine held_step (i := 4) rfl (by kernel_rfl) (fun K hK => ?_)
      go_simp; refine (K1j.out _ (HB.out.trans (((Below.refl wr.heap.size wr).drew).mono HB.out.size))).mono ?_; rintro e u1 ⟨rfl, hb⟩; have hq1 : Below wr.heap.size wr u1 := ((Below.refl wr.heap.size wr).drew).trans (hb.mono ((Below.refl wr.heap.size wr).drew).size); have HB1' := Lib.hid hq1; clear hb hq1
      refine hK.out _ _ (SK.out _ HB1'.out) (fun hHeld => ?_)
      clear hK K
      (try simp only [Act.put, List.setIfInBounds_toArray])
      refine held_take (i := 5) (v := ?_) rfl rfl (by kernel_rfl) (by kernel_rfl) (by kernel_rfl) (fun _ _ _ h => h) (by rfl) hHeld ?_ ?_
      rotate_left
      · rintro wh ⟨⟨x0, x1, x2, x3, x4, x5, x6⟩, z0, z1, z2, z3, z4, z5⟩
        go_simp
        (try with_reducible rfl)
      simp only [Act.put, List.setIfInBounds_toArray, List.set_cons_zero, List.set_cons_succ]
      refine held_skip (i := 6) rfl rfl (by kernel_rfl) (by kernel_rfl) (by kernel_rfl) (fun _ _ _ h => h) (by rfl) hHeld ?_
      simp only [Act.put, List.setIfInBounds_toArray, List.set_cons_zero, List.set_cons_succ]
      refine held_skip (i := 7) rfl rfl (by kernel_rfl) (by kernel_rfl) (by kernel_rfl) (fun _ _ _ h => h) (by rfl) hHeld ?_
      simp only [Act.put, List.setIfInBounds_toArray, List.set_cons_zero, List.set_cons_succ]
      refine held_skip (i := 8) rfl rfl (by kernel_rfl) (by kernel_rfl) (by kernel_rfl) (fun _ _ _ h => h) (by rfl) hHeld ?_
      simp only [Act.put, List.setIfInBounds_toArray, List.set_cons_zero, List.set_cons_succ]
      refine held_skip (i := 9) rfl rfl (by kernel_rfl) (by kernel_rfl) (by kernel_rfl) (fun _ _ _ h => h) (by rfl) hHeld ?_
      simp only [Act.put, List.setIfInBounds_toArray, List.set_cons_zero, List.set_cons_succ]
      refine held_skip (i := 10) rfl rfl (by kernel_rfl) (by kernel_rfl) (by kernel_rfl) (fun _ _ _ h => h) (by rfl) hHeld ?_
      simp only [Act.put, List.setIfInBounds_toArray, List.set_cons_zero, List.set_cons_succ]
      refine held_skip (i := 11) rfl rfl (by kernel_rfl) (by kernel_rfl) (by kernel_rfl) (fun _ _ _ h => h) (by rfl) hHeld ?_
      simp only [Act.put, List.setIfInBounds_toArray, List.set_cons_zero, List.set_cons_succ]
      refine held_take (i := 12) (v := ?_) rfl rfl (by kernel_rfl) (by kernel_rfl) (by kernel_rfl) (fun _ _ _ h => h) (by rfl) hHeld ?_ ?_
      rotate_left
      · rintro wh ⟨⟨x0, x1, x2, x3, x4, x5, x6⟩, z0, z1, z2, z3, z4, z5⟩
        go_simp
        (try with_reducible rfl)
      simp only [Act.put, List.setIfInBounds_toArray, List.set_cons_zero, List.set_cons_succ]
      refine held_take (i := 13) (v := ?_) rfl rfl (by kernel_rfl) (by kernel_rfl) (by kernel_rfl) (fun _ _ _ h => h) (by rfl) hHeld ?_ ?_
      rotate_left
      · rintro wh ⟨⟨x0, x1, x2, x3, x4, x5, x6⟩, z0, z1, z2, z3, z4, z5⟩
        go_simp
        (try with_reducible rfl)
      simp only [Act.put, List.setIfInBounds_toArray, List.set_cons_zero, List.set_cons_succ]
      refine held_skip (i := 14) rfl rfl (by kernel_rfl) (by kernel_rfl) (by kernel_rfl) (fun _ _ _ h => h) (by rfl) hHeld ?_
      simp only [Act.put, List.setIfInBounds_toArray, List.set_cons_zero, List.set_cons_succ]
      refine held_skip (i := 15) rfl rfl (by kernel_rfl) (by kernel_rfl) (by kernel_rfl) (fun _ _ _ h => h) (by rfl) hHeld ?_
      simp only [Act.put, List.setIfInBounds_toArray, List.set_cons_zero, List.set_cons_succ]
      refine held_skip (i := 16) rfl rfl (by kernel_rfl) (by kernel_rfl) (by kernel_rfl) (fun _ _ _ h => h) (by rfl) hHeld ?_
      simp only [Act.put, List.setIfInBounds_toArray, List.set_cons_zero, List.set_cons_succ]
      refine held_skip (i := 17) rfl rfl (by kernel_rfl) (by kernel_rfl) (by kernel_rfl) (fun _ _ _ h => h) (by rfl) hHeld ?_
      simp only [Act.put, List.setIfInBounds_toArray, List.set_cons_zero, List.set_cons_succ]
      refine held_skip (i := 18) rfl rfl (by kernel_rfl) (by kernel_rfl) (by kernel_rfl) (fun _ _ _ h => h) (by rfl) hHeld ?_
      simp only [Act.put, List.setIfInBounds_toArray, List.set_cons_zero, List.set_cons_succ]
      refine held_skip (i := 19) rfl rfl (by kernel_rfl) (by kernel_rfl) (by kernel_rfl) (fun _ _ _ h => h) (by rfl) hHeld ?_
      simp only [Act.put, List.setIfInBounds_toArray, List.set_cons_zero, List.set_cons_succ]
      refine held_skip (i := 20) rfl rfl (by kernel_rfl) (by kernel_rfl) (by kernel_rfl) (fun _ _ _ h => h) (by rfl) hHeld ?_
      simp only [Act.put, List.setIfInBounds_toArray, List.set_cons_zero, List.set_cons_succ]
      refine held_skip (i := 21) rfl rfl (by kernel_rfl) (by kernel_rfl) (by kernel_rfl) (fun _ _ _ h => h) (by rfl) hHeld ?_
      simp only [Act.put, List.setIfInBounds_toArray, List.set_cons_zero, List.set_cons_succ]
      refine held_take (i := 22) (v := ?_) rfl rfl (by kernel_rfl) (by kernel_rfl) (by kernel_rfl) (fun _ _ _ h => h) (by rfl) hHeld ?_ ?_
      rotate_left
      · rintro wh ⟨⟨x0, x1, x2, x3, x4, x5, x6⟩, z0, z1, z2, z3, z4, z5⟩
        go_simp
        (try with_reducible rfl)
      simp only [Act.put, List.setIfInBounds_toArray, List.set_cons_zero, List.set_cons_succ]
      refine held_take (i := 23) (v := ?_) rfl rfl (by kernel_rfl) (by kernel_rfl) (by kernel_rfl) (fun _ _ _ h => h) (by rfl) hHeld ?_ ?_
      rotate_left
      · rintro wh ⟨⟨x0, x1, x2, x3, x4, x5, x6⟩, z0, z1, z2, z3, z4, z5⟩
        go_simp
        (try with_reducible rfl)
      simp only [Act.put, List.setIfInBounds_toArray, List.set_cons_zero, List.set_cons_succ]
      refine held_skip (i := 24) rfl rfl (by kernel_rfl) (by kernel_rfl) (by kernel_rfl) (fun _ _ _ h => h) (by rfl) hHeld ?_
      simp only [Act.put, List.setIfInBounds_toArray, List.set_cons_zero, List.set_cons_succ]
      refine held_skip (i := 25) rfl rfl (by kernel_rfl) (by kernel_rfl) (by kernel_rfl) (fun _ _ _ h => h) (by rfl) hHeld ?_
      simp only [Act.put, List.setIfInBounds_toArray, List.set_cons_zero, List.set_cons_succ]
      refine held_skip (i := 26) rfl rfl (by kernel_rfl) (by kernel_rfl) (by kernel_rfl) (fun _ _ _ h => h) (by rfl) hHeld ?_
      simp only [Act.put, List.setIfInBounds_toArray, List.set_cons_zero, List.set_cons_succ]
      refine held_skip (i := 27) rfl rfl (by kernel_rfl) (by kernel_rfl) (by kernel_rfl) (fun _ _ _ h => h) (by rfl) hHeld ?_
      simp only [Act.put, List.setIfInBounds_toArray, List.set_cons_zero, List.set_cons_succ]
      refine held_skip (i := 28) rfl rfl (by kernel_rfl) (by kernel_rfl) (by kernel_rfl) (fun _ _ _ h => h) (by rfl) hHeld ?_
      simp only [Act.put, List.setIfInBounds_toArray, List.set_cons_zero, List.set_cons_succ]
      refine held_skip (i := 29) rfl rfl (by kernel_rfl) (by kernel_rfl) (by kernel_rfl) (fun _ _ _ h => h) (by rfl) hHeld ?_
      simp only [Act.put, List.setIfInBounds_toArray, List.set_cons_zero, List.set_cons_succ]
      refine held_skip (i := 30) rfl rfl (by kernel_rfl) (by kernel_rfl) (by kernel_rfl) (fun _ _ _ h => h) (by rfl) hHeld ?_
      simp only [Act.put, List.setIfInBounds_toArray, List.set_cons_zero, List.set_cons_succ]
      refine held_skip (i := 31) rfl rfl (by kernel_rfl) (by kernel_rfl) (by kernel_rfl) (fun _ _ _ h => h) (by rfl) hHeld ?_
      simp only [Act.put, List.setIfInBounds_toArray, List.set_cons_zero, List.set_cons_succ]
      refine held_take (i := 32) (v := ?_) rfl rfl (by kernel_rfl) (by kernel_rfl) (by kernel_rfl) (fun _ _ _ h => h) (by rfl) hHeld ?_ ?_
      rotate_left
      · rintro wh ⟨⟨x0, x1, x2, x3, x4, x5, x6⟩, z0, z1, z2, z3, z4, z5⟩
        go_simp
        (try with_reducible rfl)
      simp only [Act.put, List.setIfInBounds_toArray, List.set_cons_zero, List.set_cons_succ]
      refine wpAnyH_done (by kernel_rfl) ?_ _
      have HXZ := Lib.hid (SK.out _ HB1'.out).1
      have hltz := HFIN.out _ HB1'.out
      have HBZ := Lib.hid (HB.out.trans (HB1'.out.mono HB.out.size))
      clear SK HFIN hHeld HB1' HX HB hlt
      have HCZ : Hid (CN (k + 1) = N) := Lib.hid (by rw [HCk.out, HCA.out]; rfl)
      clear HCk HCA
      go_wp2
      go_roundw
      case rel => exact ⟨k + 1, by omega, by rw [HCZ.out] <;> first | rfl | go_num, by go_num, HXZ, HBZ, hltz⟩
      case measure => (simp [intOf]; try omega)
    | true =>
    cases FA with
    | false =>
      refine wp_region_held_drew (S := (fun W' => C7 w.heap.size (.string nm) (.int .i64 f) (.int .u32 fc) (.int .i64 t) (.int .u32 tc) (.slice ma mn mc) (.slice ba bn bc) W' ∧ W'.cell? ⟨b, o + k * 6, none⟩ = some (.string src) ∧ W'.cell? ⟨b, o + k * 6 + 1, none⟩ = some (.slice va vn vc) ∧ W'.cell? ⟨b, o + k * 6 + 2, none⟩ = some (.int .i64 alv) ∧ W'.cell? ⟨b, o + k * 6 + 3, none⟩ = some (.int .u32 ac) ∧ W'.cell? ⟨b, o + k * 6 + 4, none⟩ = some (.int .i64 afr) ∧ W'.cell? ⟨b, o + k * 6 + 5, none⟩ = some (.int .i64 atil))) (by kernel_rfl) (SK.out _ ((Below.refl wr.heap.size wr).drew)) (fun hHeld => ?_)
      refine held_take (i := 0) (v := ?_) rfl rfl (by kernel_rfl) (by kernel_rfl) (by kernel_rfl) (fun _ _ _ h => h) (by rfl) hHeld ?_ ?_
      rotate_left
      · rintro wh ⟨⟨x0, x1, x2, x3, x4, x5, x6⟩, z0, z1, z2, z3, z4, z5⟩
        go_simp
        (try with_reducible rfl)
      simp only [Act.put, List.setIfInBounds_toArray, List.set_cons_zero, List.set_cons_succ]
      refine held_take (i := 1) (v := ?_) rfl rfl (by kernel_rfl) (by kernel_rfl) (by kernel_rfl) (fun _ _ _ h => h) (by rfl) hHeld ?_ ?_
      rotate_left
      · rintro wh ⟨⟨x0, x1, x2, x3, x4, x5, x6⟩, z0, z1, z2, z3, z4, z5⟩
        go_simp
        (try with_reducible rfl)
      simp only [Act.put, List.setIfInBounds_toArray, List.set_cons_zero, List.set_cons_succ]
      refine held_take (i := 2) (v := ?_) rfl rfl (by kernel_rfl) (by kernel_rfl) (by kernel_rfl) (fun _ _ _ h => h) (by rfl) hHeld ?_ ?_
      rotate_left
      · rintro wh ⟨⟨x0, x1, x2, x3, x4, x5, x6⟩, z0, z1, z2, z3, z4, z5⟩
        go_simp
        (try with_reducible rfl)
      simp only [Act.put, List.setIfInBounds_toArray, List.set_cons_zero, List.set_cons_succ]
      refine held_take (i := 3) (v := ?_) rfl rfl (by kernel_rfl) (by kernel_rfl) (by kernel_rfl) (fun _ _ _ h => h) (by rfl) hHeld ?_ ?_
      rotate_left
      · rintro wh ⟨⟨x0, x1, x2, x3, x4, x5, x6⟩, z0, z1, z2, z3, z4, z5⟩
        go_simp
        (try with_reducible rfl)
      simp only [Act.put, List.setIfInBounds_toArray, List.set_cons_zero, List.set_cons_succ]
      refine held_step (i := 4) rfl (by kernel_rfl) (fun K hK => ?_)
      go_simp; refine (K1j.out _ (HB.out.trans (((Below.refl wr.heap.size wr).drew).mono HB.out.size))).mono ?_; rintro e u1 ⟨rfl, hb⟩; have hq1 : Below wr.heap.size wr u1 := ((Below.refl wr.heap.size wr).drew).trans (hb.mono ((Below.refl wr.heap.size wr).drew).size); have HB1' := Lib.hid hq1; clear hb hq1
      refine hK.out _ _ (SK.out _ HB1'.out) (fun hHeld => ?_)
      clear hK K
      (try simp only [Act.put, List.setIfInBounds_toArray])
      refine held_take (i := 5) (v := ?_) rfl rfl (by kernel_rfl) (by kernel_rfl) (by kernel_rfl) (fun _ _ _ h => h) (by rfl) hHeld ?_ ?_
      rotate_left
      · rintro wh ⟨⟨x0, x1, x2, x3, x4, x5, x6⟩, z0, z1, z2, z3, z4, z5⟩
        go_simp
        (try with_reducible rfl)
      simp only [Act.put, List.setIfInBounds_toArray, List.set_cons_zero, List.set_cons_succ]
      refine held_take (i := 6) (v := ?_) rfl rfl (by kernel_rfl) (by kernel_rfl) (by kernel_rfl) (fun _ _ _ h => h) (by rfl) hHeld ?_ ?_
      rotate_left
      · rintro wh ⟨⟨x0, x1, x2, x3, x4, x5, x6⟩, z0, z1, z2, z3, z4, z5⟩
        go_simp
        (try with_reducible rfl)
      simp only [Act.put, List.setIfInBounds_toArray, List.set_cons_zero, List.set_cons_succ]
      refine held_take (i := 7) (v := ?_) rfl rfl (by kernel_rfl) (by kernel_rfl) (by kernel_rfl) (fun _ _ _ h => h) (by rfl) hHeld ?_ ?_
      rotate_left
      · rintro wh ⟨⟨x0, x1, x2, x3, x4, x5, x6⟩, z0, z1, z2, z3, z4, z5⟩
        go_simp
        (try with_reducible rfl)
      simp only [Act.put, List.setIfInBounds_toArray, List.set_cons_zero, List.set_cons_succ]
      refine held_take (i := 8) (v := ?_) rfl rfl (by kernel_rfl) (by kernel_rfl) (by kernel_rfl) (fun _ _ _ h => h) (by rfl) hHeld ?_ ?_
      rotate_left
      · rintro wh ⟨⟨x0, x1, x2, x3, x4, x5, x6⟩, z0, z1, z2, z3, z4, z5⟩
        go_simp
        (try with_reducible rfl)
      simp only [Act.put, List.setIfInBounds_toArray, List.set_cons_zero, List.set_cons_succ]
      refine held_take (i := 9) (v := ?_) rfl rfl (by kernel_rfl) (by kernel_rfl) (by kernel_rfl) (fun _ _ _ h => h) (by rfl) hHeld ?_ ?_
      rotate_left
      · rintro wh ⟨⟨x0, x1, x2, x3, x4, x5, x6⟩, z0, z1, z2, z3, z4, z5⟩
        go_simp
        (try with_reducible rfl)
      simp only [Act.put, List.setIfInBounds_toArray, List.set_cons_zero, List.set_cons_succ]
      refine held_take (i := 10) (v := ?_) rfl rfl (by kernel_rfl) (by kernel_rfl) (by kernel_rfl) (fun _ _ _ h => h) (by rfl) hHeld ?_ ?_
      rotate_left
      · rintro wh ⟨⟨x0, x1, x2, x3, x4, x5, x6⟩, z0, z1, z2, z3, z4, z5⟩
        go_simp
        (try with_reducible rfl)
      simp only [Act.put, List.setIfInBounds_toArray, List.set_cons_zero, List.set_cons_succ]
      refine held_step (i := 11) rfl (by kernel_rfl) (fun K hK => ?_)
      go_simp; refine (K2k.out u1).mono ?_; rintro e u2 ⟨rfl, hb⟩; have hq2 : Below wr.heap.size wr u2 := HB1'.out.trans (hb.mono HB1'.out.size); have HB2' := Lib.hid hq2; clear hb hq2
      refine hK.out _ _ (SK.out _ HB2'.out) (fun hHeld => ?_)
      clear hK K
      (try simp only [Act.put, List.setIfInBounds_toArray])
      refine held_take (i := 12) (v := ?_) rfl rfl (by kernel_rfl) (by kernel_rfl) (by kernel_rfl) (fun _ _ _ h => h) (by rfl) hHeld ?_ ?_
      rotate_left
      · rintro wh ⟨⟨x0, x1, x2, x3, x4, x5, x6⟩, z0, z1, z2, z3, z4, z5⟩
        go_simp
        (try with_reducible rfl)
      simp only [Act.put, List.setIfInBounds_toArray, List.set_cons_zero, List.set_cons_succ]
      refine held_take (i := 13) (v := ?_) rfl rfl (by kernel_rfl) (by kernel_rfl) (by kernel_rfl) (fun _ _ _ h => h) (by rfl) hHeld ?_ ?_
      rotate_left
      · rintro wh ⟨⟨x0, x1, x2, x3, x4, x5, x6⟩, z0, z1, z2, z3, z4, z5⟩
        go_simp
        (try with_reducible rfl)
      simp only [Act.put, List.setIfInBounds_toArray, List.set_cons_zero, List.set_cons_succ]
      refine held_skip (i := 14) rfl rfl (by kernel_rfl) (by kernel_rfl) (by kernel_rfl) (fun _ _ _ h => h) (by rfl) hHeld ?_
      simp only [Act.put, List.setIfInBounds_toArray, List.set_cons_zero, List.set_cons_succ]
      refine held_skip (i := 15) rfl rfl (by kernel_rfl) (by kernel_rfl) (by kernel_rfl) (fun _ _ _ h => h) (by rfl) hHeld ?_
      simp only [Act.put, List.setIfInBounds_toArray, List.set_cons_zero, List.set_cons_succ]
      refine held_skip (i := 16) rfl rfl (by kernel_rfl) (by kernel_rfl) (by kernel_rfl) (fun _ _ _ h => h) (by rfl) hHeld ?_
      simp only [Act.put, List.setIfInBounds_toArray, List.set_cons_zero, List.set_cons_succ]
      refine held_skip (i := 17) rfl rfl (by kernel_rfl) (by kernel_rfl) (by kernel_rfl) (fun _ _ _ h => h) (by rfl) hHeld ?_
      simp only [Act.put, List.setIfInBounds_toArray, List.set_cons_zero, List.set_cons_succ]
      refine held_skip (i := 18) rfl rfl (by kernel_rfl) (by kernel_rfl) (by kernel_rfl) (fun _ _ _ h => h) (by rfl) hHeld ?_
      simp only [Act.put, List.setIfInBounds_toArray, List.set_cons_zero, List.set_cons_succ]
      refine held_skip (i := 19) rfl rfl (by kernel_rfl) (by kernel_rfl) (by kernel_rfl) (fun _ _ _ h => h) (by rfl) hHeld ?_
      simp only [Act.put, List.setIfInBounds_toArray, List.set_cons_zero, List.set_cons_succ]
      refine held_skip (i := 20) rfl rfl (by kernel_rfl) (by kernel_rfl) (by kernel_rfl) (fun _ _ _ h => h) (by rfl) hHeld ?_
      simp only [Act.put, List.setIfInBounds_toArray, List.set_cons_zero, List.set_cons_succ]
      refine held_skip (i := 21) rfl rfl (by kernel_rfl) (by kernel_rfl) (by kernel_rfl) (fun _ _ _ h => h) (by rfl) hHeld ?_
      simp only [Act.put, List.setIfInBounds_toArray, List.set_cons_zero, List.set_cons_succ]
      refine held_take (i := 22) (v := ?_) rfl rfl (by kernel_rfl) (by kernel_rfl) (by kernel_rfl) (fun _ _ _ h => h) (by rfl) hHeld ?_ ?_
      rotate_left
      · rintro wh ⟨⟨x0, x1, x2, x3, x4, x5, x6⟩, z0, z1, z2, z3, z4, z5⟩
        go_simp
        (try with_reducible rfl)
      simp only [Act.put, List.setIfInBounds_toArray, List.set_cons_zero, List.set_cons_succ]
      refine held_take (i := 23) (v := ?_) rfl rfl (by kernel_rfl) (by kernel_rfl) (by kernel_rfl) (fun _ _ _ h => h) (by rfl) hHeld ?_ ?_
      rotate_left
      · rintro wh ⟨⟨x0, x1, x2, x3, x4, x5, x6⟩, z0, z1, z2, z3, z4, z5⟩
        go_simp
        (try with_reducible rfl)
      simp only [Act.put, List.setIfInBounds_toArray, List.set_cons_zero, List.set_cons_succ]
      refine held_skip (i := 24) rfl rfl (by kernel_rfl) (by kernel_rfl) (by kernel_rfl) (fun _ _ _ h => h) (by rfl) hHeld ?_
      simp only [Act.put, List.setIfInBounds_toArray, List.set_cons_zero, List.set_cons_succ]
      refine held_skip (i := 25) rfl rfl (by kernel_rfl) (by kernel_rfl) (by kernel_rfl) (fun _ _ _ h => h) (by rfl) hHeld ?_
      simp only [Act.put, List.setIfInBounds_toArray, List.set_cons_zero, List.set_cons_succ]
      refine held_skip (i := 26) rfl rfl (by kernel_rfl) (by kernel_rfl) (by kernel_rfl) (fun _ _ _ h => h) (by rfl) hHeld ?_
      simp only [Act.put, List.setIfInBounds_toArray, List.set_cons_zero, List.set_cons_succ]
      refine held_skip (i := 27) rfl rfl (by kernel_rfl) (by kernel_rfl) (by kernel_rfl) (fun _ _ _ h => h) (by rfl) hHeld ?_
      simp only [Act.put, List.setIfInBounds_toArray, List.set_cons_zero, List.set_cons_succ]
      refine held_skip (i := 28) rfl rfl (by kernel_rfl) (by kernel_rfl) (by kernel_rfl) (fun _ _ _ h => h) (by rfl) hHeld ?_
      simp only [Act.put, List.setIfInBounds_toArray, List.set_cons_zero, List.set_cons_succ]
      refine held_skip (i := 29) rfl rfl (by kernel_rfl) (by kernel_rfl) (by kernel_rfl) (fun _ _ _ h => h) (by rfl) hHeld ?_
      simp only [Act.put, List.setIfInBounds_toArray, List.set_cons_zero, List.set_cons_succ]
      refine held_skip (i := 30) rfl rfl (by kernel_rfl) (by kernel_rfl) (by kernel_rfl) (fun _ _ _ h => h) (by rfl) hHeld ?_
      simp only [Act.put, List.setIfInBounds_toArray, List.set_cons_zero, List.set_cons_succ]
      refine held_skip (i := 31) rfl rfl (by kernel_rfl) (by kernel_rfl) (by kernel_rfl) (fun _ _ _ h => h) (by rfl) hHeld ?_
      simp only [Act.put, List.setIfInBounds_toArray, List.set_cons_zero, List.set_cons_succ]
      refine held_take (i := 32) (v := ?_) rfl rfl (by kernel_rfl) (by kernel_rfl) (by kernel_rfl) (fun _ _ _ h => h) (by rfl) hHeld ?_ ?_
      rotate_left
      · rintro wh ⟨⟨x0, x1, x2, x3, x4, x5, x6⟩, z0, z1, z2, z3, z4, z5⟩
        go_simp
        (try with_reducible rfl)
      simp only [Act.put, List.setIfInBounds_toArray, List.set_cons_zero, List.set_cons_succ]
      refine wpAnyH_done (by kernel_rfl) ?_ _
      have HXZ := Lib.hid (SK.out _ HB2'.out).1
      have hltz := HFIN.out _ HB2'.out
      have HBZ := Lib.hid (HB.out.trans (HB2'.out.mono HB.out.size))
      clear SK HFIN hHeld HB1' HB2' HX HB hlt
      have HCZ : Hid (CN (k + 1) = N) := Lib.hid (by rw [HCk.out, HCA.out]; rfl)
      clear HCk HCA
      go_wp2
      go_roundw
      case rel => exact ⟨k + 1, by omega, by rw [HCZ.out] <;> first | rfl | go_num, by go_num, HXZ, HBZ, hltz⟩
      case measure => (simp [intOf]; try omega)
    | true =>
    cases FL with
    | false =>
      refine wp_region_held_drew (S := (fun W' => C7 w.heap.size (.string nm) (.int .i64 f) (.int .u32 fc) (.int .i64 t) (.int .u32 tc) (.slice ma mn mc) (.slice ba bn bc) W' ∧ W'.cell? ⟨b, o + k * 6, none⟩ = some (.string src) ∧ W'.cell? ⟨b, o + k * 6 + 1, none⟩ = some (.slice va vn vc) ∧ W'.cell? ⟨b, o + k * 6 + 2, none⟩ = some (.int .i64 alv) ∧ W'.cell? ⟨b, o + k * 6 + 3, none⟩ = some (.int .u32 ac) ∧ W'.cell? ⟨b, o + k * 6 + 4, none⟩ = some (.int .i64 afr) ∧ W'.cell? ⟨b, o + k * 6 + 5, none⟩ = some (.int .i64 atil))) (by kernel_rfl) (SK.out _ ((Below.refl wr.heap.size wr).drew)) (fun hHeld => ?_)
      refine held_take (i := 0) (v := ?_) rfl rfl (by kernel_rfl) (by kernel_rfl) (by kernel_rfl) (fun _ _ _ h => h) (by rfl) hHeld ?_ ?_
      rotate_left
      · rintro wh ⟨⟨x0, x1, x2, x3, x4, x5, x6⟩, z0, z1, z2, z3, z4, z5⟩
        go_simp
        (try with_reducible rfl)
      simp only [Act.put, List.setIfInBounds_toArray, List.set_cons_zero, List.set_cons_succ]
      refine held_take (i := 1) (v := ?_) rfl rfl (by kernel_rfl) (by kernel_rfl) (by kernel_rfl) (fun _ _ _ h => h) (by rfl) hHeld ?_ ?_
      rotate_left
      · rintro wh ⟨⟨x0, x1, x2, x3, x4, x5, x6⟩, z0, z1, z2, z3, z4, z5⟩
        go_simp
        (try with_reducible rfl)
      simp only [Act.put, List.setIfInBounds_toArray, List.set_cons_zero, List.set_cons_succ]
      refine held_take (i := 2) (v := ?_) rfl rfl (by kernel_rfl) (by kernel_rfl) (by kernel_rfl) (fun _ _ _ h => h) (by rfl) hHeld ?_ ?_
      rotate_left
      · rintro wh ⟨⟨x0, x1, x2, x3, x4, x5, x6⟩, z0, z1, z2, z3, z4, z5⟩
        go_simp
        (try with_reducible rfl)
      simp only [Act.put, List.setIfInBounds_toArray, List.set_cons_zero, List.set_cons_succ]
      refine held_take (i := 3) (v := ?_) rfl rfl (by kernel_rfl) (by kernel_rfl) (by kernel_rfl) (fun _ _ _ h => h) (by rfl) hHeld ?_ ?_
      rotate_left
      · rintro wh ⟨⟨x0, x1, x2, x3, x4, x5, x6⟩, z0, z1, z2, z3, z4, z5⟩
        go_simp
        (try with_reducible rfl)
      simp only [Act.put, List.setIfInBounds_toArray, List.set_cons_zero, List.set_cons_succ]
      refine held_step (i := 4) rfl (by kernel_rfl) (fun K hK => ?_)
      go_simp; refine (K1j.out _ (HB.out.trans (((Below.refl wr.heap.size wr).drew).mono HB.out.size))).mono ?_; rintro e u1 ⟨rfl, hb⟩; have hq1 : Below wr.heap.size wr u1 := ((Below.refl wr.heap.size wr).drew).trans (hb.mono ((Below.refl wr.heap.size wr).drew).size); have HB1' := Lib.hid hq1; clear hb hq1
      refine hK.out _ _ (SK.out _ HB1'.out) (fun hHeld => ?_)
      clear hK K
      (try simp only [Act.put, List.setIfInBounds_toArray])
      refine held_take (i := 5) (v := ?_) rfl rfl (by kernel_rfl) (by kernel_rfl) (by kernel_rfl) (fun _ _ _ h => h) (by rfl) hHeld ?_ ?_
      rotate_left
      · rintro wh ⟨⟨x0, x1, x2, x3, x4, x5, x6⟩, z0, z1, z2, z3, z4, z5⟩
        go_simp
        (try with_reducible rfl)
      simp only [Act.put, List.setIfInBounds_toArray, List.set_cons_zero, List.set_cons_succ]
      refine held_take (i := 6) (v := ?_) rfl rfl (by kernel_rfl) (by kernel_rfl) (by kernel_rfl) (fun _ _ _ h => h) (by rfl) hHeld ?_ ?_
      rotate_left
      · rintro wh ⟨⟨x0, x1, x2, x3, x4, x5, x6⟩, z0, z1, z2, z3, z4, z5⟩
        go_simp
        (try with_reducible rfl)
      simp only [Act.put, List.setIfInBounds_toArray, List.set_cons_zero, List.set_cons_succ]
      refine held_take (i := 7) (v := ?_) rfl rfl (by kernel_rfl) (by kernel_rfl) (by kernel_rfl) (fun _ _ _ h => h) (by rfl) hHeld ?_ ?_
      rotate_left
      · rintro wh ⟨⟨x0, x1, x2, x3, x4, x5, x6⟩, z0, z1, z2, z3, z4, z5⟩
        go_simp
        (try with_reducible rfl)
      simp only [Act.put, List.setIfInBounds_toArray, List.set_cons_zero, List.set_cons_succ]
      refine held_take (i := 8) (v := ?_) rfl rfl (by kernel_rfl) (by kernel_rfl) (by kernel_rfl) (fun _ _ _ h => h) (by rfl) hHeld ?_ ?_
      rotate_left
      · rintro wh ⟨⟨x0, x1, x2, x3, x4, x5, x6⟩, z0, z1, z2, z3, z4, z5⟩
        go_simp
        (try with_reducible rfl)
      simp only [Act.put, List.setIfInBounds_toArray, List.set_cons_zero, List.set_cons_succ]
      refine held_take (i := 9) (v := ?_) rfl rfl (by kernel_rfl) (by kernel_rfl) (by kernel_rfl) (fun _ _ _ h => h) (by rfl) hHeld ?_ ?_
      rotate_left
      · rintro wh ⟨⟨x0, x1, x2, x3, x4, x5, x6⟩, z0, z1, z2, z3, z4, z5⟩
        go_simp
        (try with_reducible rfl)
      simp only [Act.put, List.setIfInBounds_toArray, List.set_cons_zero, List.set_cons_succ]
      refine held_take (i := 10) (v := ?_) rfl rfl (by kernel_rfl) (by kernel_rfl) (by kernel_rfl) (fun _ _ _ h => h) (by rfl) hHeld ?_ ?_
      rotate_left
      · rintro wh ⟨⟨x0, x1, x2, x3, x4, x5, x6⟩, z0, z1, z2, z3, z4, z5⟩
        go_simp
        (try with_reducible rfl)
      simp only [Act.put, List.setIfInBounds_toArray, List.set_cons_zero, List.set_cons_succ]
      refine held_step (i := 11) rfl (by kernel_rfl) (fun K hK => ?_)
      go_simp; refine (K2k.out u1).mono ?_; rintro e u2 ⟨rfl, hb⟩; have hq2 : Below wr.heap.size wr u2 := HB1'.out.trans (hb.mono HB1'.out.size); have HB2' := Lib.hid hq2; clear hb hq2
      refine hK.out _ _ (SK.out _ HB2'.out) (fun hHeld => ?_)
      clear hK K
      (try simp only [Act.put, List.setIfInBounds_toArray])
      refine held_take (i := 12) (v := ?_) rfl rfl (by kernel_rfl) (by kernel_rfl) (by kernel_rfl) (fun _ _ _ h => h) (by rfl) hHeld ?_ ?_
      rotate_left
      · rintro wh ⟨⟨x0, x1, x2, x3, x4, x5, x6⟩, z0, z1, z2, z3, z4, z5⟩
        go_simp
        (try with_reducible rfl)
      simp only [Act.put, List.setIfInBounds_toArray, List.set_cons_zero, List.set_cons_succ]
      refine held_take (i := 13) (v := ?_) rfl rfl (by kernel_rfl) (by kernel_rfl) (by kernel_rfl) (fun _ _ _ h => h) (by rfl) hHeld ?_ ?_
      rotate_left
      · rintro wh ⟨⟨x0, x1, x2, x3, x4, x5, x6⟩, z0, z1, z2, z3, z4, z5⟩
        go_simp
        (try with_reducible rfl)
      simp only [Act.put, List.setIfInBounds_toArray, List.set_cons_zero, List.set_cons_succ]
      refine held_take (i := 14) (v := ?_) rfl rfl (by kernel_rfl) (by kernel_rfl) (by kernel_rfl) (fun _ _ _ h => h) (by rfl) hHeld ?_ ?_
      rotate_left
      · rintro wh ⟨⟨x0, x1, x2, x3, x4, x5, x6⟩, z0, z1, z2, z3, z4, z5⟩
        go_simp
        (try with_reducible rfl)
      simp only [Act.put, List.setIfInBounds_toArray, List.set_cons_zero, List.set_cons_succ]
      refine held_take (i := 15) (v := ?_) rfl rfl (by kernel_rfl) (by kernel_rfl) (by kernel_rfl) (fun _ _ _ h => h) (by rfl) hHeld ?_ ?_
      rotate_left
      · rintro wh ⟨⟨x0, x1, x2, x3, x4, x5, x6⟩, z0, z1, z2, z3, z4, z5⟩
        go_simp
        (try with_reducible rfl)
      simp only [Act.put, List.setIfInBounds_toArray, List.set_cons_zero, List.set_cons_succ]
      refine held_take (i := 16) (v := ?_) rfl rfl (by kernel_rfl) (by kernel_rfl) (by kernel_rfl) (fun _ _ _ h => h) (by rfl) hHeld ?_ ?_
      rotate_left
      · rintro wh ⟨⟨x0, x1, x2, x3, x4, x5, x6⟩, z0, z1, z2, z3, z4, z5⟩
        go_simp
        (try with_reducible rfl)
      simp only [Act.put, List.setIfInBounds_toArray, List.set_cons_zero, List.set_cons_succ]
      refine held_take (i := 17) (v := ?_) rfl rfl (by kernel_rfl) (by kernel_rfl) (by kernel_rfl) (fun _ _ _ h => h) (by rfl) hHeld ?_ ?_
      rotate_left
      · rintro wh ⟨⟨x0, x1, x2, x3, x4, x5, x6⟩, z0, z1, z2, z3, z4, z5⟩
        go_simp
        (try with_reducible rfl)
      simp only [Act.put, List.setIfInBounds_toArray, List.set_cons_zero, List.set_cons_succ]
      refine held_take (i := 18) (v := ?_) rfl rfl (by kernel_rfl) (by kernel_rfl) (by kernel_rfl) (fun _ _ _ h => h) (by rfl) hHeld ?_ ?_
      rotate_left
      · rintro wh ⟨⟨x0, x1, x2, x3, x4, x5, x6⟩, z0, z1, z2, z3, z4, z5⟩
        go_simp
        (try with_reducible rfl)
      simp only [Act.put, List.setIfInBounds_toArray, List.set_cons_zero, List.set_cons_succ]
      refine held_take (i := 19) (v := ?_) rfl rfl (by kernel_rfl) (by kernel_rfl) (by kernel_rfl) (fun _ _ _ h => h) (by rfl) hHeld ?_ ?_
      rotate_left
      · rintro wh ⟨⟨x0, x1, x2, x3, x4, x5, x6⟩, z0, z1, z2, z3, z4, z5⟩
        go_simp
        (try with_reducible rfl)
      simp only [Act.put, List.setIfInBounds_toArray, List.set_cons_zero, List.set_cons_succ]
      refine held_take (i := 20) (v := ?_) rfl rfl (by kernel_rfl) (by kernel_rfl) (by kernel_rfl) (fun _ _ _ h => h) (by rfl) hHeld ?_ ?_
      rotate_left
      · rintro wh ⟨⟨x0, x1, x2, x3, x4, x5, x6⟩, z0, z1, z2, z3, z4, z5⟩
        go_simp
        (try with_reducible rfl)
      simp only [Act.put, List.setIfInBounds_toArray, List.set_cons_zero, List.set_cons_succ]
      refine held_step (i := 21) rfl (by kernel_rfl) (fun K hK => ?_)
      go_simp; refine (K3k.out u2).mono ?_; rintro e u3 ⟨rfl, hb⟩; have hq3 : Below wr.heap.size wr u3 := HB2'.out.trans (hb.mono HB2'.out.size); have HB3' := Lib.hid hq3; clear hb hq3
      refine hK.out _ _ (SK.out _ HB3'.out) (fun hHeld => ?_)
      clear hK K
      (try simp only [Act.put, List.setIfInBounds_toArray])
      refine held_take (i := 22) (v := ?_) rfl rfl (by kernel_rfl) (by kernel_rfl) (by kernel_rfl) (fun _ _ _ h => h) (by rfl) hHeld ?_ ?_
      rotate_left
      · rintro wh ⟨⟨x0, x1, x2, x3, x4, x5, x6⟩, z0, z1, z2, z3, z4, z5⟩
        go_simp
        (try with_reducible rfl)
      simp only [Act.put, List.setIfInBounds_toArray, List.set_cons_zero, List.set_cons_succ]
      refine held_take (i := 23) (v := ?_) rfl rfl (by kernel_rfl) (by kernel_rfl) (by kernel_rfl) (fun _ _ _ h => h) (by rfl) hHeld ?_ ?_
      rotate_left
      · rintro wh ⟨⟨x0, x1, x2, x3, x4, x5, x6⟩, z0, z1, z2, z3, z4, z5⟩
        go_simp
        (try with_reducible rfl)
      simp only [Act.put, List.setIfInBounds_toArray, List.set_cons_zero, List.set_cons_succ]
      refine held_skip (i := 24) rfl rfl (by kernel_rfl) (by kernel_rfl) (by kernel_rfl) (fun _ _ _ h => h) (by rfl) hHeld ?_
      simp only [Act.put, List.setIfInBounds_toArray, List.set_cons_zero, List.set_cons_succ]
      refine held_skip (i := 25) rfl rfl (by kernel_rfl) (by kernel_rfl) (by kernel_rfl) (fun _ _ _ h => h) (by rfl) hHeld ?_
      simp only [Act.put, List.setIfInBounds_toArray, List.set_cons_zero, List.set_cons_succ]
      refine held_skip (i := 26) rfl rfl (by kernel_rfl) (by kernel_rfl) (by kernel_rfl) (fun _ _ _ h => h) (by rfl) hHeld ?_
      simp only [Act.put, List.setIfInBounds_toArray, List.set_cons_zero, List.set_cons_succ]
      refine held_skip (i := 27) rfl rfl (by kernel_rfl) (by kernel_rfl) (by kernel_rfl) (fun _ _ _ h => h) (by rfl) hHeld ?_
      simp only [Act.put, List.setIfInBounds_toArray, List.set_cons_zero, List.set_cons_succ]
      refine held_skip (i := 28) rfl rfl (by kernel_rfl) (by kernel_rfl) (by kernel_rfl) (fun _ _ _ h => h) (by rfl) hHeld ?_
      simp only [Act.put, List.setIfInBounds_toArray, List.set_cons_zero, List.set_cons_succ]
      refine held_skip (i := 29) rfl rfl (by kernel_rfl) (by kernel_rfl) (by kernel_rfl) (fun _ _ _ h => h) (by rfl) hHeld ?_
      simp only [Act.put, List.setIfInBounds_toArray, List.set_cons_zero, List.set_cons_succ]
      refine held_skip (i := 30) rfl rfl (by kernel_rfl) (by kernel_rfl) (by kernel_rfl) (fun _ _ _ h => h) (by rfl) hHeld ?_
      simp only [Act.put, List.setIfInBounds_toArray, List.set_cons_zero, List.set_cons_succ]
      refine held_skip (i := 31) rfl rfl (by kernel_rfl) (by kernel_rfl) (by kernel_rfl) (fun _ _ _ h => h) (by rfl) hHeld ?_
      simp only [Act.put, List.setIfInBounds_toArray, List.set_cons_zero, List.set_cons_succ]
      refine held_take (i := 32) (v := ?_) rfl rfl (by kernel_rfl) (by kernel_rfl) (by kernel_rfl) (fun _ _ _ h => h) (by rfl) hHeld ?_ ?_
      rotate_left
      · rintro wh ⟨⟨x0, x1, x2, x3, x4, x5, x6⟩, z0, z1, z2, z3, z4, z5⟩
        go_simp
        (try with_reducible rfl)
      simp only [Act.put, List.setIfInBounds_toArray, List.set_cons_zero, List.set_cons_succ]
      refine wpAnyH_done (by kernel_rfl) ?_ _
      have HXZ := Lib.hid (SK.out _ HB3'.out).1
      have hltz := HFIN.out _ HB3'.out
      have HBZ := Lib.hid (HB.out.trans (HB3'.out.mono HB.out.size))
      clear SK HFIN hHeld HB1' HB2' HB3' HX HB hlt
      have HCZ : Hid (CN (k + 1) = N) := Lib.hid (by rw [HCk.out, HCA.out]; rfl)
      clear HCk HCA
      go_wp2
      go_roundw
      case rel => exact ⟨k + 1, by omega, by rw [HCZ.out] <;> first | rfl | go_num, by go_num, HXZ, HBZ, hltz⟩
      case measure => (simp [intOf]; try omega)
    | true =>
    cases AM with
    | false =>
      refine wp_region_held_drew (S := (fun W' => C7 w.heap.size (.string nm) (.int .i64 f) (.int .u32 fc) (.int .i64 t) (.int .u32 tc) (.slice ma mn mc) (.slice ba bn bc) W' ∧ W'.cell? ⟨b, o + k * 6, none⟩ = some (.string src) ∧ W'.cell? ⟨b, o + k * 6 + 1, none⟩ = some (.slice va vn vc) ∧ W'.cell? ⟨b, o + k * 6 + 2, none⟩ = some (.int .i64 alv) ∧ W'.cell? ⟨b, o + k * 6 + 3, none⟩ = some (.int .u32 ac) ∧ W'.cell? ⟨b, o + k * 6 + 4, none⟩ = some (.int .i64 afr) ∧ W'.cell? ⟨b, o + k * 6 + 5, none⟩ = some (.int .i64 atil))) (by kernel_rfl) (SK.out _ ((Below.refl wr.heap.size wr).drew)) (fun hHeld => ?_)
      refine held_take (i := 0) (v := ?_) rfl rfl (by kernel_rfl) (by kernel_rfl) (by kernel_rfl) (fun _ _ _ h => h) (by rfl) hHeld ?_ ?_
      rotate_left
      · rintro wh ⟨⟨x0, x1, x2, x3, x4, x5, x6⟩, z0, z1, z2, z3, z4, z5⟩
        go_simp
        (try with_reducible rfl)
      simp only [Act.put, List.setIfInBounds_toArray, List.set_cons_zero, List.set_cons_succ]
      refine held_take (i := 1) (v := ?_) rfl rfl (by kernel_rfl) (by kernel_rfl) (by kernel_rfl) (fun _ _ _ h => h) (by rfl) hHeld ?_ ?_
      rotate_left
      · rintro wh ⟨⟨x0, x1, x2, x3, x4, x5, x6⟩, z0, z1, z2, z3, z4, z5⟩
        go_simp
        (try with_reducible rfl)
      simp only [Act.put, List.setIfInBounds_toArray, List.set_cons_zero, List.set_cons_succ]
      refine held_take (i := 2) (v := ?_) rfl rfl (by kernel_rfl) (by kernel_rfl) (by kernel_rfl) (fun _ _ _ h => h) (by rfl) hHeld ?_ ?_
      rotate_left
      · rintro wh ⟨⟨x0, x1, x2, x3, x4, x5, x6⟩, z0, z1, z2, z3, z4, z5⟩
        go_simp
        (try with_reducible rfl)
      simp only [Act.put, List.setIfInBounds_toArray, List.set_cons_zero, List.set_cons_succ]
      refine held_take (i := 3) (v := ?_) rfl rfl (by kernel_rfl) (by kernel_rfl) (by kernel_rfl) (fun _ _ _ h => h) (by rfl) hHeld ?_ ?_
      rotate_left
      · rintro wh ⟨⟨x0, x1, x2, x3, x4, x5, x6⟩, z0, z1, z2, z3, z4, z5⟩
        go_simp
        (try with_reducible rfl)
      simp only [Act.put, List.setIfInBounds_toArray, List.set_cons_zero, List.set_cons_succ]
      refine held_step (i := 4) rfl (by kernel_rfl) (fun K hK => ?_)
      go_simp; refine (K1j.out _ (HB.out.trans (((Below.refl wr.heap.size wr).drew).mono HB.out.size))).mono ?_; rintro e u1 ⟨rfl, hb⟩; have hq1 : Below wr.heap.size wr u1 := ((Below.refl wr.heap.size wr).drew).trans (hb.mono ((Below.refl wr.heap.size wr).drew).size); have HB1' := Lib.hid hq1; clear hb hq1
      refine hK.out _ _ (SK.out _ HB1'.out) (fun hHeld => ?_)
      clear hK K
      (try simp only [Act.put, List.setIfInBounds_toArray])
      refine held_take (i := 5) (v := ?_) rfl rfl (by kernel_rfl) (by kernel_rfl) (by kernel_rfl) (fun _ _ _ h => h) (by rfl) hHeld ?_ ?_
      rotate_left
      · rintro wh ⟨⟨x0, x1, x2, x3, x4, x5, x6⟩, z0, z1, z2, z3, z4, z5⟩
        go_simp
        (try with_reducible rfl)
      simp only [Act.put, List.setIfInBounds_toArray, List.set_cons_zero, List.set_cons_succ]
      refine held_take (i := 6) (v := ?_) rfl rfl (by kernel_rfl) (by kernel_rfl) (by kernel_rfl) (fun _ _ _ h => h) (by rfl) hHeld ?_ ?_
      rotate_left
      · rintro wh ⟨⟨x0, x1, x2, x3, x4, x5, x6⟩, z0, z1, z2, z3, z4, z5⟩
        go_simp
        (try with_reducible rfl)
      simp only [Act.put, List.setIfInBounds_toArray, List.set_cons_zero, List.set_cons_succ]
      refine held_take (i := 7) (v := ?_) rfl rfl (by kernel_rfl) (by kernel_rfl) (by kernel_rfl) (fun _ _ _ h => h) (by rfl) hHeld ?_ ?_
      rotate_left
      · rintro wh ⟨⟨x0, x1, x2, x3, x4, x5, x6⟩, z0, z1, z2, z3, z4, z5⟩
        go_simp
        (try with_reducible rfl)
      simp only [Act.put, List.setIfInBounds_toArray, List.set_cons_zero, List.set_cons_succ]
      refine held_take (i := 8) (v := ?_) rfl rfl (by kernel_rfl) (by kernel_rfl) (by kernel_rfl) (fun _ _ _ h => h) (by rfl) hHeld ?_ ?_
      rotate_left
      · rintro wh ⟨⟨x0, x1, x2, x3, x4, x5, x6⟩, z0, z1, z2, z3, z4, z5⟩
        go_simp
        (try with_reducible rfl)
      simp only [Act.put, List.setIfInBounds_toArray, List.set_cons_zero, List.set_cons_succ]
      refine held_take (i := 9) (v := ?_) rfl rfl (by kernel_rfl) (by kernel_rfl) (by kernel_rfl) (fun _ _ _ h => h) (by rfl) hHeld ?_ ?_
      rotate_left
      · rintro wh ⟨⟨x0, x1, x2, x3, x4, x5, x6⟩, z0, z1, z2, z3, z4, z5⟩
        go_simp
        (try with_reducible rfl)
      simp only [Act.put, List.setIfInBounds_toArray, List.set_cons_zero, List.set_cons_succ]
      refine held_take (i := 10) (v := ?_) rfl rfl (by kernel_rfl) (by kernel_rfl) (by kernel_rfl) (fun _ _ _ h => h) (by rfl) hHeld ?_ ?_
      rotate_left
      · rintro wh ⟨⟨x0, x1, x2, x3, x4, x5, x6⟩, z0, z1, z2, z3, z4, z5⟩
        go_simp
        (try with_reducible rfl)
      simp only [Act.put, List.setIfInBounds_toArray, List.set_cons_zero, List.set_cons_succ]
      refine held_step (i := 11) rfl (by kernel_rfl) (fun K hK => ?_)
      go_simp; refine (K2k.out u1).mono ?_; rintro e u2 ⟨rfl, hb⟩; have hq2 : Below wr.heap.size wr u2 := HB1'.out.trans (hb.mono HB1'.out.size); have HB2' := Lib.hid hq2; clear hb hq2
      refine hK.out _ _ (SK.out _ HB2'.out) (fun hHeld => ?_)
      clear hK K
      (try simp only [Act.put, List.setIfInBounds_toArray])
      refine held_take (i := 12) (v := ?_) rfl rfl (by kernel_rfl) (by kernel_rfl) (by kernel_rfl) (fun _ _ _ h => h) (by rfl) hHeld ?_ ?_
      rotate_left
      · rintro wh ⟨⟨x0, x1, x2, x3, x4, x5, x6⟩, z0, z1, z2, z3, z4, z5⟩
        go_simp
        (try with_reducible rfl)
      simp only [Act.put, List.setIfInBounds_toArray, List.set_cons_zero, List.set_cons_succ]
      refine held_take (i := 13) (v := ?_) rfl rfl (by kernel_rfl) (by kernel_rfl) (by kernel_rfl) (fun _ _ _ h => h) (by rfl) hHeld ?_ ?_
      rotate_left
      · rintro wh ⟨⟨x0, x1, x2, x3, x4, x5, x6⟩, z0, z1, z2, z3, z4, z5⟩
        go_simp
        (try with_reducible rfl)
      simp only [Act.put, List.setIfInBounds_toArray, List.set_cons_zero, List.set_cons_succ]
      refine held_take (i := 14) (v := ?_) rfl rfl (by kernel_rfl) (by kernel_rfl) (by kernel_rfl) (fun _ _ _ h => h) (by rfl) hHeld ?_ ?_
      rotate_left
      · rintro wh ⟨⟨x0, x1, x2, x3, x4, x5, x6⟩, z0, z1, z2, z3, z4, z5⟩
        go_simp
        (try with_reducible rfl)
      simp only [Act.put, List.setIfInBounds_toArray, List.set_cons_zero, List.set_cons_succ]
      refine held_take (i := 15) (v := ?_) rfl rfl (by kernel_rfl) (by kernel_rfl) (by kernel_rfl) (fun _ _ _ h => h) (by rfl) hHeld ?_ ?_
      rotate_left
      · rintro wh ⟨⟨x0, x1, x2, x3, x4, x5, x6⟩, z0, z1, z2, z3, z4, z5⟩
        go_simp
        (try with_reducible rfl)
      simp only [Act.put, List.setIfInBounds_toArray, List.set_cons_zero, List.set_cons_succ]
      refine held_take (i := 16) (v := ?_) rfl rfl (by kernel_rfl) (by kernel_rfl) (by kernel_rfl) (fun _ _ _ h => h) (by rfl) hHeld ?_ ?_
      rotate_left
      · rintro wh ⟨⟨x0, x1, x2, x3, x4, x5, x6⟩, z0, z1, z2, z3, z4, z5⟩
        go_simp
        (try with_reducible rfl)
      simp only [Act.put, List.setIfInBounds_toArray, List.set_cons_zero, List.set_cons_succ]
      refine held_take (i := 17) (v := ?_) rfl rfl (by kernel_rfl) (by kernel_rfl) (by kernel_rfl) (fun _ _ _ h => h) (by rfl) hHeld ?_ ?_
      rotate_left
      · rintro wh ⟨⟨x0, x1, x2, x3, x4, x5, x6⟩, z0, z1, z2, z3, z4, z5⟩
        go_simp
        (try with_reducible rfl)
      simp only [Act.put, List.setIfInBounds_toArray, List.set_cons_zero, List.set_cons_succ]
      refine held_take (i := 18) (v := ?_) rfl rfl (by kernel_rfl) (by kernel_rfl) (by kernel_rfl) (fun _ _ _ h => h) (by rfl) hHeld ?_ ?_
      rotate_left
      · rintro wh ⟨⟨x0, x1, x2, x3, x4, x5, x6⟩, z0, z1, z2, z3, z4, z5⟩
        go_simp
        (try with_reducible rfl)
      simp only [Act.put, List.setIfInBounds_toArray, List.set_cons_zero, List.set_cons_succ]
      refine held_take (i := 19) (v := ?_) rfl rfl (by kernel_rfl) (by kernel_rfl) (by kernel_rfl) (fun _ _ _ h => h) (by rfl) hHeld ?_ ?_
      rotate_left
      · rintro wh ⟨⟨x0, x1, x2, x3, x4, x5, x6⟩, z0, z1, z2, z3, z4, z5⟩
        go_simp
        (try with_reducible rfl)
      simp only [Act.put, List.setIfInBounds_toArray, List.set_cons_zero, List.set_cons_succ]
      refine held_take (i := 20) (v := ?_) rfl rfl (by kernel_rfl) (by kernel_rfl) (by kernel_rfl) (fun _ _ _ h => h) (by rfl) hHeld ?_ ?_
      rotate_left
      · rintro wh ⟨⟨x0, x1, x2, x3, x4, x5, x6⟩, z0, z1, z2, z3, z4, z5⟩
        go_simp
        (try with_reducible rfl)
      simp only [Act.put, List.setIfInBounds_toArray, List.set_cons_zero, List.set_cons_succ]
      refine held_step (i := 21) rfl (by kernel_rfl) (fun K hK => ?_)
      go_simp; refine (K3k.out u2).mono ?_; rintro e u3 ⟨rfl, hb⟩; have hq3 : Below wr.heap.size wr u3 := HB2'.out.trans (hb.mono HB2'.out.size); have HB3' := Lib.hid hq3; clear hb hq3
      refine hK.out _ _ (SK.out _ HB3'.out) (fun hHeld => ?_)
      clear hK K
      (try simp only [Act.put, List.setIfInBounds_toArray])
      refine held_take (i := 22) (v := ?_) rfl rfl (by kernel_rfl) (by kernel_rfl) (by kernel_rfl) (fun _ _ _ h => h) (by rfl) hHeld ?_ ?_
      rotate_left
      · rintro wh ⟨⟨x0, x1, x2, x3, x4, x5, x6⟩, z0, z1, z2, z3, z4, z5⟩
        go_simp
        (try with_reducible rfl)
      simp only [Act.put, List.setIfInBounds_toArray, List.set_cons_zero, List.set_cons_succ]
      refine held_take (i := 23) (v := ?_) rfl rfl (by kernel_rfl) (by kernel_rfl) (by kernel_rfl) (fun _ _ _ h => h) (by rfl) hHeld ?_ ?_
      rotate_left
      · rintro wh ⟨⟨x0, x1, x2, x3, x4, x5, x6⟩, z0, z1, z2, z3, z4, z5⟩
        go_simp
        (try with_reducible rfl)
      simp only [Act.put, List.setIfInBounds_toArray, List.set_cons_zero, List.set_cons_succ]
      refine held_take (i := 24) (v := ?_) rfl rfl (by kernel_rfl) (by kernel_rfl) (by kernel_rfl) (fun _ _ _ h => h) (by rfl) hHeld ?_ ?_
      rotate_left
      · rintro wh ⟨⟨x0, x1, x2, x3, x4, x5, x6⟩, z0, z1, z2, z3, z4, z5⟩
        go_simp
        (try with_reducible rfl)
      simp only [Act.put, List.setIfInBounds_toArray, List.set_cons_zero, List.set_cons_succ]
      refine held_take (i := 25) (v := ?_) rfl rfl (by kernel_rfl) (by kernel_rfl) (by kernel_rfl) (fun _ _ _ h => h) (by rfl) hHeld ?_ ?_
      rotate_left
      · rintro wh ⟨⟨x0, x1, x2, x3, x4, x5, x6⟩, z0, z1, z2, z3, z4, z5⟩
        go_simp
        (try with_reducible rfl)
      simp only [Act.put, List.setIfInBounds_toArray, List.set_cons_zero, List.set_cons_succ]
      refine held_take (i := 26) (v := ?_) rfl rfl (by kernel_rfl) (by kernel_rfl) (by kernel_rfl) (fun _ _ _ h => h) (by rfl) hHeld ?_ ?_
      rotate_left
      · rintro wh ⟨⟨x0, x1, x2, x3, x4, x5, x6⟩, z0, z1, z2, z3, z4, z5⟩
        go_simp
        (try with_reducible rfl)
      simp only [Act.put, List.setIfInBounds_toArray, List.set_cons_zero, List.set_cons_succ]
      refine held_take (i := 27) (v := ?_) rfl rfl (by kernel_rfl) (by kernel_rfl) (by kernel_rfl) (fun _ _ _ h => h) (by rfl) hHeld ?_ ?_
      rotate_left
      · rintro wh ⟨⟨x0, x1, x2, x3, x4, x5, x6⟩, z0, z1, z2, z3, z4, z5⟩
        go_simp
        (try with_reducible rfl)
      simp only [Act.put, List.setIfInBounds_toArray, List.set_cons_zero, List.set_cons_succ]
      refine held_take (i := 28) (v := ?_) rfl rfl (by kernel_rfl) (by kernel_rfl) (by kernel_rfl) (fun _ _ _ h => h) (by rfl) hHeld ?_ ?_
      rotate_left
      · rintro wh ⟨⟨x0, x1, x2, x3, x4, x5, x6⟩, z0, z1, z2, z3, z4, z5⟩
        go_simp
        (try with_reducible rfl)
      simp only [Act.put, List.setIfInBounds_toArray, List.set_cons_zero, List.set_cons_succ]
      refine held_take (i := 29) (v := ?_) rfl rfl (by kernel_rfl) (by kernel_rfl) (by kernel_rfl) (fun _ _ _ h => h) (by rfl) hHeld ?_ ?_
      rotate_left
      · rintro wh ⟨⟨x0, x1, x2, x3, x4, x5, x6⟩, z0, z1, z2, z3, z4, z5⟩
        go_simp
        (try with_reducible rfl)
      simp only [Act.put, List.setIfInBounds_toArray, List.set_cons_zero, List.set_cons_succ]
      refine held_take (i := 30) (v := ?_) rfl rfl (by kernel_rfl) (by kernel_rfl) (by kernel_rfl) (fun _ _ _ h => h) (by rfl) hHeld ?_ ?_
      rotate_left
      · rintro wh ⟨⟨x0, x1, x2, x3, x4, x5, x6⟩, z0, z1, z2, z3, z4, z5⟩
        go_simp
        (try with_reducible rfl)
      simp only [Act.put, List.setIfInBounds_toArray, List.set_cons_zero, List.set_cons_succ]
      refine held_step (i := 31) rfl (by kernel_rfl) (fun K hK => ?_)
      go_simp; refine (K4k.out u3 (HB.out.trans (HB3'.out.mono HB.out.size)) (by first | rfl | trivial)).mono ?_; rintro e u4 ⟨rfl, hb⟩; have hq4 : Below wr.heap.size wr u4 := HB3'.out.trans (hb.mono HB3'.out.size); have HB4' := Lib.hid hq4; clear hb hq4
      refine hK.out _ _ (SK.out _ HB4'.out) (fun hHeld => ?_)
      clear hK K
      (try simp only [Act.put, List.setIfInBounds_toArray])
      refine held_take (i := 32) (v := ?_) rfl rfl (by kernel_rfl) (by kernel_rfl) (by kernel_rfl) (fun _ _ _ h => h) (by rfl) hHeld ?_ ?_
      rotate_left
      · rintro wh ⟨⟨x0, x1, x2, x3, x4, x5, x6⟩, z0, z1, z2, z3, z4, z5⟩
        go_simp
        (try with_reducible rfl)
      simp only [Act.put, List.setIfInBounds_toArray, List.set_cons_zero, List.set_cons_succ]
      refine wpAnyH_done (by kernel_rfl) ?_ _
      have HXZ := Lib.hid (SK.out _ HB4'.out).1
      have hltz := HFIN.out _ HB4'.out
      have HBZ := Lib.hid (HB.out.trans (HB4'.out.mono HB.out.size))
      clear SK HFIN hHeld HB1' HB2' HB3' HB4' HX HB hlt
      have HCZ : Hid (CN (k + 1) = N) := Lib.hid (by rw [HCk.out, HCA.out]; rfl)
      clear HCk HCA
      go_wp2
      go_roundw
      case rel => exact ⟨k + 1, by omega, by rw [HCZ.out] <;> first | rfl | go_num, by go_num, HXZ, HBZ, hltz⟩
      case measure => (simp [intOf]; try omega)
    | true =>
      refine wp_region_held_drew (S := (fun W' => C7 w.heap.size (.string nm) (.int .i64 f) (.int .u32 fc) (.int .i64 t) (.int .u32 tc) (.slice ma mn mc) (.slice ba bn bc) W' ∧ W'.cell? ⟨b, o + k * 6, none⟩ = some (.string src) ∧ W'.cell? ⟨b, o + k * 6 + 1, none⟩ = some (.slice va vn vc) ∧ W'.cell? ⟨b, o + k * 6 + 2, none⟩ = some (.int .i64 alv) ∧ W'.cell? ⟨b, o + k * 6 + 3, none⟩ = some (.int .u32 ac) ∧ W'.cell? ⟨b, o + k * 6 + 4, none⟩ = some (.int .i64 afr) ∧ W'.cell? ⟨b, o + k * 6 + 5, none⟩ = some (.int .i64 atil))) (by kernel_rfl) (SK.out _ ((Below.refl wr.heap.size wr).drew)) (fun hHeld => ?_)
      refine held_take (i := 0) (v := ?_) rfl rfl (by kernel_rfl) (by kernel_rfl) (by kernel_rfl) (fun _ _ _ h => h) (by rfl) hHeld ?_ ?_
      rotate_left
      · rintro wh ⟨⟨x0, x1, x2, x3, x4, x5, x6⟩, z0, z1, z2, z3, z4, z5⟩
        go_simp
        (try with_reducible rfl)
      simp only [Act.put, List.setIfInBounds_toArray, List.set_cons_zero, List.set_cons_succ]
      refine held_take (i := 1) (v := ?_) rfl rfl (by kernel_rfl) (by kernel_rfl) (by kernel_rfl) (fun _ _ _ h => h) (by rfl) hHeld ?_ ?_
      rotate_left
      · rintro wh ⟨⟨x0, x1, x2, x3, x4, x5, x6⟩, z0, z1, z2, z3, z4, z5⟩
        go_simp
        (try with_reducible rfl)
      simp only [Act.put, List.setIfInBounds_toArray, List.set_cons_zero, List.set_cons_succ]
      refine held_take (i := 2) (v := ?_) rfl rfl (by kernel_rfl) (by kernel_rfl) (by kernel_rfl) (fun _ _ _ h => h) (by rfl) hHeld ?_ ?_
      rotate_left
      · rintro wh ⟨⟨x0, x1, x2, x3, x4, x5, x6⟩, z0, z1, z2, z3, z4, z5⟩
        go_simp
        (try with_reducible rfl)
      simp only [Act.put, List.setIfInBounds_toArray, List.set_cons_zero, List.set_cons_succ]
      refine held_take (i := 3) (v := ?_) rfl rfl (by kernel_rfl) (by kernel_rfl) (by kernel_rfl) (fun _ _ _ h => h) (by rfl) hHeld ?_ ?_
      rotate_left
      · rintro wh ⟨⟨x0, x1, x2, x3, x4, x5, x6⟩, z0, z1, z2, z3, z4, z5⟩
        go_simp
        (try with_reducible rfl)
      simp only [Act.put, List.setIfInBounds_toArray, List.set_cons_zero, List.set_cons_succ]
      refine held_step (i := 4) rfl (by kernel_rfl) (fun K hK => ?_)
      go_simp; refine (K1j.out _ (HB.out.trans (((Below.refl wr.heap.size wr).drew).mono HB.out.size))).mono ?_; rintro e u1 ⟨rfl, hb⟩; have hq1 : Below wr.heap.size wr u1 := ((Below.refl wr.heap.size wr).drew).trans (hb.mono ((Below.refl wr.heap.size wr).drew).size); have HB1' := Lib.hid hq1; clear hb hq1
      refine hK.out _ _ (SK.out _ HB1'.out) (fun hHeld => ?_)
      clear hK K
      (try simp only [Act.put, List.setIfInBounds_toArray])
      refine held_take (i := 5) (v := ?_) rfl rfl (by kernel_rfl) (by kernel_rfl) (by kernel_rfl) (fun _ _ _ h => h) (by rfl) hHeld ?_ ?_
      rotate_left
      · rintro wh ⟨⟨x0, x1, x2, x3, x4, x5, x6⟩, z0, z1, z2, z3, z4, z5⟩
        go_simp
        (try with_reducible rfl)
      simp only [Act.put, List.setIfInBounds_toArray, List.set_cons_zero, List.set_cons_succ]
      refine held_take (i := 6) (v := ?_) rfl rfl (by kernel_rfl) (by kernel_rfl) (by kernel_rfl) (fun _ _ _ h => h) (by rfl) hHeld ?_ ?_
      rotate_left
      · rintro wh ⟨⟨x0, x1, x2, x3, x4, x5, x6⟩, z0, z1, z2, z3, z4, z5⟩
        go_simp
        (try with_reducible rfl)
      simp only [Act.put, List.setIfInBounds_toArray, List.set_cons_zero, List.set_cons_succ]
      refine held_take (i := 7) (v := ?_) rfl rfl (by kernel_rfl) (by kernel_rfl) (by kernel_rfl) (fun _ _ _ h => h) (by rfl) hHeld ?_ ?_
      rotate_left
      · rintro wh ⟨⟨x0, x1, x2, x3, x4, x5, x6⟩, z0, z1, z2, z3, z4, z5⟩
        go_simp
        (try with_reducible rfl)
      simp only [Act.put, List.setIfInBounds_toArray, List.set_cons_zero, List.set_cons_succ]
      refine held_take (i := 8) (v := ?_) rfl rfl (by kernel_rfl) (by kernel_rfl) (by kernel_rfl) (fun _ _ _ h => h) (by rfl) hHeld ?_ ?_
      rotate_left
      · rintro wh ⟨⟨x0, x1, x2, x3, x4, x5, x6⟩, z0, z1, z2, z3, z4, z5⟩
        go_simp
        (try with_reducible rfl)
      simp only [Act.put, List.setIfInBounds_toArray, List.set_cons_zero, List.set_cons_succ]
      refine held_take (i := 9) (v := ?_) rfl rfl (by kernel_rfl) (by kernel_rfl) (by kernel_rfl) (fun _ _ _ h => h) (by rfl) hHeld ?_ ?_
      rotate_left
      · rintro wh ⟨⟨x0, x1, x2, x3, x4, x5, x6⟩, z0, z1, z2, z3, z4, z5⟩
        go_simp
        (try with_reducible rfl)
      simp only [Act.put, List.setIfInBounds_toArray, List.set_cons_zero, List.set_cons_succ]
      refine held_take (i := 10) (v := ?_) rfl rfl (by kernel_rfl) (by kernel_rfl) (by kernel_rfl) (fun _ _ _ h => h) (by rfl) hHeld ?_ ?_
      rotate_left
      · rintro wh ⟨⟨x0, x1, x2, x3, x4, x5, x6⟩, z0, z1, z2, z3, z4, z5⟩
        go_simp
        (try with_reducible rfl)
      simp only [Act.put, List.setIfInBounds_toArray, List.set_cons_zero, List.set_cons_succ]
      refine held_step (i := 11) rfl (by kernel_rfl) (fun K hK => ?_)
      go_simp; refine (K2k.out u1).mono ?_; rintro e u2 ⟨rfl, hb⟩; have hq2 : Below wr.heap.size wr u2 := HB1'.out.trans (hb.mono HB1'.out.size); have HB2' := Lib.hid hq2; clear hb hq2
      refine hK.out _ _ (SK.out _ HB2'.out) (fun hHeld => ?_)
      clear hK K
      (try simp only [Act.put, List.setIfInBounds_toArray])
      refine held_take (i := 12) (v := ?_) rfl rfl (by kernel_rfl) (by kernel_rfl) (by kernel_rfl) (fun _ _ _ h => h) (by rfl) hHeld ?_ ?_
      rotate_left
      · rintro wh ⟨⟨x0, x1, x2, x3, x4, x5, x6⟩, z0, z1, z2, z3, z4, z5⟩
        go_simp
        (try with_reducible rfl)
      simp only [Act.put, List.setIfInBounds_toArray, List.set_cons_zero, List.set_cons_succ]
      refine held_take (i := 13) (v := ?_) rfl rfl (by kernel_rfl) (by kernel_rfl) (by kernel_rfl) (fun _ _ _ h => h) (by rfl) hHeld ?_ ?_
      rotate_left
      · rintro wh ⟨⟨x0, x1, x2, x3, x4, x5, x6⟩, z0, z1, z2, z3, z4, z5⟩
        go_simp
        (try with_reducible rfl)
      simp only [Act.put, List.setIfInBounds_toArray, List.set_cons_zero, List.set_cons_succ]
      refine held_take (i := 14) (v := ?_) rfl rfl (by kernel_rfl) (by kernel_rfl) (by kernel_rfl) (fun _ _ _ h => h) (by rfl) hHeld ?_ ?_
      rotate_left
      · rintro wh ⟨⟨x0, x1, x2, x3, x4, x5, x6⟩, z0, z1, z2, z3, z4, z5⟩
        go_simp
        (try with_reducible rfl)
      simp only [Act.put, List.setIfInBounds_toArray, List.set_cons_zero, List.set_cons_succ]
      refine held_take (i := 15) (v := ?_) rfl rfl (by kernel_rfl) (by kernel_rfl) (by kernel_rfl) (fun _ _ _ h => h) (by rfl) hHeld ?_ ?_
      rotate_left
      · rintro wh ⟨⟨x0, x1, x2, x3, x4, x5, x6⟩, z0, z1, z2, z3, z4, z5⟩
        go_simp
        (try with_reducible rfl)
      simp only [Act.put, List.setIfInBounds_toArray, List.set_cons_zero, List.set_cons_succ]
      refine held_take (i := 16) (v := ?_) rfl rfl (by kernel_rfl) (by kernel_rfl) (by kernel_rfl) (fun _ _ _ h => h) (by rfl) hHeld ?_ ?_
      rotate_left
      · rintro wh ⟨⟨x0, x1, x2, x3, x4, x5, x6⟩, z0, z1, z2, z3, z4, z5⟩
        go_simp
        (try with_reducible rfl)
      simp only [Act.put, List.setIfInBounds_toArray, List.set_cons_zero, List.set_cons_succ]
      refine held_take (i := 17) (v := ?_) rfl rfl (by kernel_rfl) (by kernel_rfl) (by kernel_rfl) (fun _ _ _ h => h) (by rfl) hHeld ?_ ?_
      rotate_left
      · rintro wh ⟨⟨x0, x1, x2, x3, x4, x5, x6⟩, z0, z1, z2, z3, z4, z5⟩
        go_simp
        (try with_reducible rfl)
      simp only [Act.put, List.setIfInBounds_toArray, List.set_cons_zero, List.set_cons_succ]
      refine held_take (i := 18) (v := ?_) rfl rfl (by kernel_rfl) (by kernel_rfl) (by kernel_rfl) (fun _ _ _ h => h) (by rfl) hHeld ?_ ?_
      rotate_left
      · rintro wh ⟨⟨x0, x1, x2, x3, x4, x5, x6⟩, z0, z1, z2, z3, z4, z5⟩
        go_simp
        (try with_reducible rfl)
      simp only [Act.put, List.setIfInBounds_toArray, List.set_cons_zero, List.set_cons_succ]
      refine held_take (i := 19) (v := ?_) rfl rfl (by kernel_rfl) (by kernel_rfl) (by kernel_rfl) (fun _ _ _ h => h) (by rfl) hHeld ?_ ?_
      rotate_left
      · rintro wh ⟨⟨x0, x1, x2, x3, x4, x5, x6⟩, z0, z1, z2, z3, z4, z5⟩
        go_simp
        (try with_reducible rfl)
      simp only [Act.put, List.setIfInBounds_toArray, List.set_cons_zero, List.set_cons_succ]
      refine held_take (i := 20) (v := ?_) rfl rfl (by kernel_rfl) (by kernel_rfl) (by kernel_rfl) (fun _ _ _ h => h) (by rfl) hHeld ?_ ?_
      rotate_left
      · rintro wh ⟨⟨x0, x1, x2, x3, x4, x5, x6⟩, z0, z1, z2, z3, z4, z5⟩
        go_simp
        (try with_reducible rfl)
      simp only [Act.put, List.setIfInBounds_toArray, List.set_cons_zero, List.set_cons_succ]
      refine held_step (i := 21) rfl (by kernel_rfl) (fun K hK => ?_)
      go_simp; refine (K3k.out u2).mono ?_; rintro e u3 ⟨rfl, hb⟩; have hq3 : Below wr.heap.size wr u3 := HB2'.out.trans (hb.mono HB2'.out.size); have HB3' := Lib.hid hq3; clear hb hq3
      refine hK.out _ _ (SK.out _ HB3'.out) (fun hHeld => ?_)
      clear hK K
      (try simp only [Act.put, List.setIfInBounds_toArray])
      refine held_take (i := 22) (v := ?_) rfl rfl (by kernel_rfl) (by kernel_rfl) (by kernel_rfl) (fun _ _ _ h => h) (by rfl) hHeld ?_ ?_
      rotate_left
      · rintro wh ⟨⟨x0, x1, x2, x3, x4, x5, x6⟩, z0, z1, z2, z3, z4, z5⟩
        go_simp
        (try with_reducible rfl)
      simp only [Act.put, List.setIfInBounds_toArray, List.set_cons_zero, List.set_cons_succ]
      refine held_take (i := 23) (v := ?_) rfl rfl (by kernel_rfl) (by kernel_rfl) (by kernel_rfl) (fun _ _ _ h => h) (by rfl) hHeld ?_ ?_
      rotate_left
      · rintro wh ⟨⟨x0, x1, x2, x3, x4, x5, x6⟩, z0, z1, z2, z3, z4, z5⟩
        go_simp
        (try with_reducible rfl)
      simp only [Act.put, List.setIfInBounds_toArray, List.set_cons_zero, List.set_cons_succ]
      refine held_take (i := 24) (v := ?_) rfl rfl (by kernel_rfl) (by kernel_rfl) (by kernel_rfl) (fun _ _ _ h => h) (by rfl) hHeld ?_ ?_
      rotate_left
      · rintro wh ⟨⟨x0, x1, x2, x3, x4, x5, x6⟩, z0, z1, z2, z3, z4, z5⟩
        go_simp
        (try with_reducible rfl)
      simp only [Act.put, List.setIfInBounds_toArray, List.set_cons_zero, List.set_cons_succ]
      refine held_take (i := 25) (v := ?_) rfl rfl (by kernel_rfl) (by kernel_rfl) (by kernel_rfl) (fun _ _ _ h => h) (by rfl) hHeld ?_ ?_
      rotate_left
      · rintro wh ⟨⟨x0, x1, x2, x3, x4, x5, x6⟩, z0, z1, z2, z3, z4, z5⟩
        go_simp
        (try with_reducible rfl)
      simp only [Act.put, List.setIfInBounds_toArray, List.set_cons_zero, List.set_cons_succ]
      refine held_take (i := 26) (v := ?_) rfl rfl (by kernel_rfl) (by kernel_rfl) (by kernel_rfl) (fun _ _ _ h => h) (by rfl) hHeld ?_ ?_
      rotate_left
      · rintro wh ⟨⟨x0, x1, x2, x3, x4, x5, x6⟩, z0, z1, z2, z3, z4, z5⟩
        go_simp
        (try with_reducible rfl)
      simp only [Act.put, List.setIfInBounds_toArray, List.set_cons_zero, List.set_cons_succ]
      refine held_take (i := 27) (v := ?_) rfl rfl (by kernel_rfl) (by kernel_rfl) (by kernel_rfl) (fun _ _ _ h => h) (by rfl) hHeld ?_ ?_
      rotate_left
      · rintro wh ⟨⟨x0, x1, x2, x3, x4, x5, x6⟩, z0, z1, z2, z3, z4, z5⟩
        go_simp
        (try with_reducible rfl)
      simp only [Act.put, List.setIfInBounds_toArray, List.set_cons_zero, List.set_cons_succ]
      refine held_take (i := 28) (v := ?_) rfl rfl (by kernel_rfl) (by kernel_rfl) (by kernel_rfl) (fun _ _ _ h => h) (by rfl) hHeld ?_ ?_
      rotate_left
      · rintro wh ⟨⟨x0, x1, x2, x3, x4, x5, x6⟩, z0, z1, z2, z3, z4, z5⟩
        go_simp
        (try with_reducible rfl)
      simp only [Act.put, List.setIfInBounds_toArray, List.set_cons_zero, List.set_cons_succ]
      refine held_take (i := 29) (v := ?_) rfl rfl (by kernel_rfl) (by kernel_rfl) (by kernel_rfl) (fun _ _ _ h => h) (by rfl) hHeld ?_ ?_
      rotate_left
      · rintro wh ⟨⟨x0, x1, x2, x3, x4, x5, x6⟩, z0, z1, z2, z3, z4, z5⟩
        go_simp
        (try with_reducible rfl)
      simp only [Act.put, List.setIfInBounds_toArray, List.set_cons_zero, List.set_cons_succ]
      refine held_take (i := 30) (v := ?_) rfl rfl (by kernel_rfl) (by kernel_rfl) (by kernel_rfl) (fun _ _ _ h => h) (by rfl) hHeld ?_ ?_
      rotate_left
      · rintro wh ⟨⟨x0, x1, x2, x3, x4, x5, x6⟩, z0, z1, z2, z3, z4, z5⟩
        go_simp
        (try with_reducible rfl)
      simp only [Act.put, List.setIfInBounds_toArray, List.set_cons_zero, List.set_cons_succ]
      refine held_step (i := 31) rfl (by kernel_rfl) (fun K hK => ?_)
      go_simp; refine (K4k.out u3 (HB.out.trans (HB3'.out.mono HB.out.size)) (by first | rfl | trivial)).mono ?_; rintro e u4 ⟨rfl, hb⟩; have hq4 : Below wr.heap.size wr u4 := HB3'.out.trans (hb.mono HB3'.out.size); have HB4' := Lib.hid hq4; clear hb hq4
      refine hK.out _ _ (SK.out _ HB4'.out) (fun hHeld => ?_)
      clear hK K
      (try simp only [Act.put, List.setIfInBounds_toArray])
      refine held_take (i := 32) (v := ?_) rfl rfl (by kernel_rfl) (by kernel_rfl) (by kernel_rfl) (fun _ _ _ h => h) (by rfl) hHeld ?_ ?_
      rotate_left
      · rintro wh ⟨⟨x0, x1, x2, x3, x4, x5, x6⟩, z0, z1, z2, z3, z4, z5⟩
        go_simp
        (try with_reducible rfl)
      simp only [Act.put, List.setIfInBounds_toArray, List.set_cons_zero, List.set_cons_succ]
      refine wpAnyH_done (by kernel_rfl) ?_ _
      have HXZ := Lib.hid (SK.out _ HB4'.out).1
      have hltz := HFIN.out _ HB4'.out
      have HBZ := Lib.hid (HB.out.trans (HB4'.out.mono HB.out.size))
      clear SK HFIN hHeld HB1' HB2' HB3' HB4' HX HB hlt
      have HCZ : Hid (CN (k + 1) = N + 1) := Lib.hid (by rw [HCk.out, HCA.out]; rfl)
      clear HCk HCA
      go_wp2
      go_roundw
      case rel => exact ⟨k + 1, by omega, by rw [HCZ.out] <;> first | rfl | go_num, by go_num, HXZ, HBZ, hltz⟩
      case measure => (simp [intOf]; try omega)
set_option maxHeartbeats 3200000 in
set_option maxRecDepth 100000 in
theorem h22tell_any (h : Ha) (wv bv : Value) (l : List (Al × Value)) (lv : Value) (tl : Int) (tlc : Nat) (now : Int) (w : World) (ha : HaAt w h wv bv) (hf : HaFit h) (hl : AlsAt w lv l) (hn : l.length ≤ 100) (hfc : h.fc < 4294967296) (htc : h.tc < 4294967296) (htl : tlc < 4294967296) :
    Calls Tryz.prog 13 #[.agg #[.string h.nm, .int .i64 h.f, .int .u32 h.fc, .int .i64 h.t, .int .u32 h.tc, wv, bv], lv, .agg #[.int .i64 tl, .int .u32 tlc], .int .i64 now] w fun e w' => e = .returned (tellV h l tl tlc now) ∧ Below w.heap.size w w' := by
  have k1 := fun W (hW : Below w.heap.size w W) => h22right_any h wv bv W (ha.later hW) hf
  have K2 := Lib.hid (fun W => rflows_any h.t h.tc tl tlc W htc htl)
  have K3 := Lib.hid (fun W (hW : Below w.heap.size w W) => h22counts_any h wv bv l lv now W (ha.later hW) hf (hl.later hW) hn hfc)
  have K4 := Lib.hid (fun W (hW : Below w.heap.size w W) (n : Nat) => refof_any h.bl (n : Int) W bv (ha.bl.later hW) hf.bn)
  have HV : Hid (tellV h l tl tlc now = if (rightH h && flowsL h.t h.tc tl tlc) = true then .tuple #[.int .i64 (ofL h.bl (countN h l now) : Nat), .bool true] else .tuple #[.int .i64 0, .bool false]) := Lib.hid rfl
  obtain ⟨la, lc, rfl, hlc, _⟩ := RdAt.shape hl.row
  obtain ⟨ma, mc, rfl, _, _⟩ := RdAt.shape ha.ms
  obtain ⟨ba, bc, rfl, _, _⟩ := RdAt.shape ha.bl
  generalize tellV h l tl tlc now = R at *
  generalize rightH h = RH at *
  generalize flowsL h.t h.tc tl tlc = FL at *
  generalize countN h l now = CT at *
  generalize h.ms.length = mn at *
  generalize h.bl.length = bn at *
  obtain ⟨nm, f, fc, t, tc, ms, bl⟩ := h
  dsimp only at *
  have kk1 := k1 _ (((Below.refl w.heap.size w).alloc (Nat.le_refl _) (.cells #[.string nm, .int .i64 f, .int .u32 fc, .int .i64 t, .int .u32 tc, .slice ma mn mc, .slice ba bn bc] 37)).alloc (by simp) (.cells #[.int .i64 tl, .int .u32 tlc] 26))
  clear ha hf hl k1 hfc htc htl
  go_enter Tryz.func13, Tryz.ntmps13
  go_wp2_with fail
  refine kk1.mono ?_
  rintro e w1 ⟨rfl, hb1⟩
  obtain ⟨X, ⟨y0, y1⟩, hlt1, hB1⟩ := box72h hb1
  have X1 := Lib.hid X
  have HB1 := Lib.hid hB1
  obtain ⟨x0, x1, x2, x3, x4, x5, x6⟩ := X
  clear hb1 kk1 hB1
  cases RH with
  | false =>
    go_wp2
    go_ret2
    exact ⟨by rw [HV.out]; rfl, HB1.out⟩
  | true =>
  have k2 := K2.out w1
  go_wp2_with fail
  refine k2.mono ?_
  rintro e w2 ⟨rfl, hb2⟩
  have X2 := Lib.hid (X1.out.later hb2 (by omega))
  have HB2 := Lib.hid (HB1.out.trans (hb2.mono HB1.out.size))
  have hlt2 := Nat.lt_of_lt_of_le hlt1 hb2.size
  clear x0 x1 x2 x3 x4 x5 x6 y0 y1 X1 k2 hb2 HB1 hlt1
  cases FL with
  | false =>
    go_wp2
    go_ret2
    exact ⟨by rw [HV.out]; rfl, HB2.out⟩
  | true =>
  have SK : Hid (∀ W', Below w2.heap.size w2 W' → C7 w.heap.size (.string nm) (.int .i64 f) (.int .u32 fc) (.int .i64 t) (.int .u32 tc) (.slice ma mn mc) (.slice ba bn bc) W') := Lib.hid (fun W' h => X2.out.later h (by omega))
  go_upto_region 3 with fail
  refine wp_region_held_drew (S := (fun W' => C7 w.heap.size (.string nm) (.int .i64 f) (.int .u32 fc) (.int .i64 t) (.int .u32 tc) (.slice ma mn mc) (.slice ba bn bc) W')) (by kernel_rfl) (SK.out _ ((Below.refl w2.heap.size w2).drew)) (fun hHeld => ?_)
  refine held_take (i := 0) (v := ?_) rfl rfl (by kernel_rfl) (by kernel_rfl) (by kernel_rfl) (fun _ _ _ h => h) (by rfl) hHeld ?_ ?_
  rotate_left
  · rintro wh ⟨x0, x1, x2, x3, x4, x5, x6⟩
    go_simp
    (try with_reducible rfl)
  simp only [Act.put, List.setIfInBounds_toArray, List.set_cons_zero, List.set_cons_succ]
  refine held_take (i := 1) (v := ?_) rfl rfl (by kernel_rfl) (by kernel_rfl) (by kernel_rfl) (fun _ _ _ h => h) (by rfl) hHeld ?_ ?_
  rotate_left
  · rintro wh ⟨x0, x1, x2, x3, x4, x5, x6⟩
    go_simp
    (try with_reducible rfl)
  simp only [Act.put, List.setIfInBounds_toArray, List.set_cons_zero, List.set_cons_succ]
  refine held_take (i := 2) (v := ?_) rfl rfl (by kernel_rfl) (by kernel_rfl) (by kernel_rfl) (fun _ _ _ h => h) (by rfl) hHeld ?_ ?_
  rotate_left
  · rintro wh ⟨x0, x1, x2, x3, x4, x5, x6⟩
    go_simp
    (try with_reducible rfl)
  simp only [Act.put, List.setIfInBounds_toArray, List.set_cons_zero, List.set_cons_succ]
  refine held_take (i := 3) (v := ?_) rfl rfl (by kernel_rfl) (by kernel_rfl) (by kernel_rfl) (fun _ _ _ h => h) (by rfl) hHeld ?_ ?_
  rotate_left
  · rintro wh ⟨x0, x1, x2, x3, x4, x5, x6⟩
    go_simp
    (try with_reducible rfl)
  simp only [Act.put, List.setIfInBounds_toArray, List.set_cons_zero, List.set_cons_succ]
  refine held_take (i := 4) (v := ?_) rfl rfl (by kernel_rfl) (by kernel_rfl) (by kernel_rfl) (fun _ _ _ h => h) (by rfl) hHeld ?_ ?_
  rotate_left
  · rintro wh ⟨x0, x1, x2, x3, x4, x5, x6⟩
    go_simp
    (try with_reducible rfl)
  simp only [Act.put, List.setIfInBounds_toArray, List.set_cons_zero, List.set_cons_succ]
  refine held_step (i := 5) rfl (by kernel_rfl) (fun K hK => ?_)
  go_simp; refine (K3.out _ (HB2.out.trans (((Below.refl w2.heap.size w2).drew).mono HB2.out.size))).mono ?_; rintro e u1 ⟨rfl, hb⟩; have hq1 : Below w2.heap.size w2 u1 := ((Below.refl w2.heap.size w2).drew).trans (hb.mono ((Below.refl w2.heap.size w2).drew).size); have HB1' := Lib.hid hq1; clear hb hq1
  refine hK.out _ _ (SK.out _ HB1'.out) (fun hHeld => ?_)
  clear hK K
  (try simp only [Act.put, List.setIfInBounds_toArray])
  refine held_step (i := 6) rfl (by kernel_rfl) (fun K hK => ?_)
  go_simp; refine (K4.out u1 (HB2.out.trans (HB1'.out.mono HB2.out.size)) CT).mono ?_; rintro e u2 ⟨rfl, hb⟩; have hq2 : Below w2.heap.size w2 u2 := HB1'.out.trans (hb.mono HB1'.out.size); have HB2' := Lib.hid hq2; clear hb hq2
  refine hK.out _ _ (SK.out _ HB2'.out) (fun hHeld => ?_)
  clear hK K
  (try simp only [Act.put, List.setIfInBounds_toArray])
  refine held_take (i := 7) (v := ?_) rfl rfl (by kernel_rfl) (by kernel_rfl) (by kernel_rfl) (fun _ _ _ h => h) (by rfl) hHeld ?_ ?_
  rotate_left
  · rintro wh ⟨x0, x1, x2, x3, x4, x5, x6⟩
    go_simp
    (try with_reducible rfl)
  simp only [Act.put, List.setIfInBounds_toArray, List.set_cons_zero, List.set_cons_succ]
  refine held_take (i := 8) (v := ?_) rfl rfl (by kernel_rfl) (by kernel_rfl) (by kernel_rfl) (fun _ _ _ h => h) (by rfl) hHeld ?_ ?_
  rotate_left
  · rintro wh ⟨x0, x1, x2, x3, x4, x5, x6⟩
    go_simp
    (try with_reducible rfl)
  simp only [Act.put, List.setIfInBounds_toArray, List.set_cons_zero, List.set_cons_succ]
  refine wpAnyH_done (by kernel_rfl) ?_ _
  have HBZ := Lib.hid (HB2.out.trans (HB2'.out.mono HB2.out.size))
  clear SK hHeld HB1' HB2'
  go_wp2
  go_ret2
  exact ⟨by rw [HV.out]; rfl, HBZ.out⟩
end Go.Proofs.YtcfococinllcmaaGreat

/- slices.Repeat of one number: a contract. -/
namespace Go.Proofs.YtcfococinllcmaaGreat
open Go.RowKit
theorem splice_rep {α : Type} (L : List α) (m c : Nat) (x : α) (h : L.take m = List.replicate m x) : (splice L m (List.replicate c x)).take (m + c) = List.replicate (m + c) x := by
  unfold splice
  rw [h, ← List.append_assoc, List.replicate_append_replicate, List.take_append_of_le_length (by simp)]
  exact List.take_of_length_le (by simp)
set_option maxHeartbeats 3200000 in
set_option maxRecDepth 100000 in
theorem repeat_is (w : World) (x : Int) (n b o c : Nat) (h1 : 1 ≤ n) (hn : n ≤ 100000) (hx : w.cell? ⟨b, o, none⟩ = some (.int .i64 x)) :
    Calls Tryz.prog 58 #[.slice (some ⟨b, o, none⟩) 1 c, .int .i64 n] w fun e w' => ∃ g cap, e = .returned (.slice (some ⟨g, 0, none⟩) n cap) ∧ w'.ownsRow w.heap.size 3 1 (.slice (some ⟨g, 0, none⟩) n cap) n (List.replicate n (.int .i64 x)) ∧ Below w.heap.size w w' := by
  obtain ⟨i0, hi, hz0, hz1, hz2⟩ := info_parts info_intP
  have hmul := fun w => Tryz.bits_Mul 1 n (by decide) (by omega) w
  have hd1 : 1 * n / 18446744073709551616 = 0 := Nat.div_eq_of_lt (by omega)
  have hd2 : 1 * n % 18446744073709551616 = n := by rw [Nat.one_mul]; exact Nat.mod_eq_of_lt (by omega)
  rw [hd1, hd2] at hmul
  have hmk := run_makeSlice (P := Tryz.prog) w 32 3 i0 (.int .i64 0) Tryz.underlying32 hi hz0 .i64 .i64 (n : Int) n (by omega) (Int.le_refl _) (by rw [hz1]; simp; omega) (by rw [hz2]; omega) (by omega)
  have hnn : ((n : Int)).toNat = n := Int.toNat_natCast n
  rw [hnn, hz1] at hmk
  have hsize : (madeCells (Value.int .i64 0).cells (n * 1)).size = n := by rw [size_madeCells]; omega
  have hba := alloc_below w (.cells (madeCells (Value.int .i64 0).cells (n * 1)) 3)
  have hg0 : (w.alloc (.cells (madeCells (Value.int .i64 0).cells (n * 1)) 3)).heap[w.heap.size]? = some (.cells (madeCells (Value.int .i64 0).cells (n * 1)).toList.toArray 3 (0, 0)) := by rw [heap_alloc_new]
  generalize hW : w.alloc (.cells (madeCells (Value.int .i64 0).cells (n * 1)) 3) = W0 at *
  generalize hcur : (madeCells (Value.int .i64 0).cells (n * 1)).toList = cur0 at *
  have hlen : cur0.length = n := by rw [← hcur]; simpa using hsize
  have hxb : b < w.heap.size := by
    apply Classical.byContradiction
    intro hge
    have : w.heap[b]? = none := Array.getElem?_eq_none (by omega)
    simp [World.cell?, this] at hx
  have hx1 : W0.cell? ⟨b, o, none⟩ = some (.int .i64 x) := keep_cell hx hba hxb
  clear hcur hW hd1 hd2 hnn
  go_enter Tryz.func58, Tryz.ntmps58
  go_wp2_with fail
  refine (hmul w).mono ?_
  rintro e w' ⟨rfl, hww⟩
  obtain rfl := hww.symm
  clear hmul
  have hmin : ([.int .i64 x] : List Value).length = Nat.min 1 n := (Nat.min_eq_left h1).symm
  have hcs : ∀ (j : Nat) (v : Value), ([.int .i64 x] : List Value)[j]? = some v → W0.cell? ((⟨b, o, none⟩ : Addr).add j) = some v := fun j v hj => by
    have h0 : j = 0 := by
      have := (List.getElem?_eq_some_iff.1 hj).1
      simp at this; omega
    subst h0
    simp at hj
    rw [← hj]; exact hx1
  have hone : ∀ u ∈ ([.int .i64 x] : List Value), u.oneCell' = true := by
    intro u hu; simp at hu; subst hu; rfl
  go_wp2_with ((refine wpList_copy_splice rfl (.tmp 31) (.tmp 32) 32 32 rfl 3 Tryz.underlying32 (by kernel_rfl) _ _ n n 1 c rfl rfl w.heap.size 0 cur0 3 hg0 [.int .i64 x] hmin (fun _ => ⟨rfl, _, rfl, hcs⟩) (by rw [hlen]; exact h1) hone w.heap.size w hba (Nat.le_refl _) ?_); intro w1 hg1 hb1)
  have hl1 : (splice cur0 0 [.int .i64 x]).length = n := by rw [length_splice _ _ _ (by rw [hlen]; exact h1), hlen]
  have ht1 : (splice cur0 0 [.int .i64 x]).take 1 = List.replicate 1 (.int .i64 x) := by simp [splice]
  generalize splice cur0 0 [.int .i64 x] = L1 at *
  have HL1 := Lib.hid hl1
  have HT1 := Lib.hid ht1
  clear hl1 ht1 hg0 hx1 hcs hba hmk
  go_wp2
  go_loopw [8] (fun vi wr => ∃ (m : Nat) (L : List Value), vi = .int .i64 m ∧ 1 ≤ m ∧ m ≤ n ∧ Hid (L.length = n) ∧ Hid (L.take m = List.replicate m (.int .i64 x)) ∧ Hid (wr.heap[w.heap.size]? = some (.cells L.toArray 3 (0, 0))) ∧ Below w.heap.size w wr) (fun vi _ => n - (intOf vi).toNat)
  case atStart => exact ⟨1, L1, by first | rfl | go_num, Nat.le_refl _, h1, HL1, HT1, hg1, hb1⟩
  case round =>
    clear hg1 hb1 HL1 HT1 W0
    obtain ⟨m, L, rfl, hm1, hmn, HL, HT, HG, hbr⟩ := hrel
    have hLl := HL.out
    by_cases hlt : m < n
    · have hG : wr.drew.heap[w.heap.size]? = some (.cells L.toArray 3 (0, 0)) := HG.out
      have hbd : Below w.heap.size w wr.drew := hbr.drew
      obtain ⟨k, hk⟩ : ∃ k, Nat.min m (n - m) = k := ⟨_, rfl⟩
      have hkm : k ≤ m := hk ▸ Nat.min_le_left _ _
      have hkn : k ≤ n - m := hk ▸ Nat.min_le_right _ _
      have hk1 : 1 ≤ k := by rw [← hk]; exact Nat.le_min.2 ⟨hm1, by omega⟩
      have hcl : (List.replicate k (Value.int .i64 x)).length = Nat.min m (n - m) := by rw [List.length_replicate, hk]
      have hsrc : ∀ (j : Nat) (v : Value), (List.replicate k (Value.int .i64 x))[j]? = some v → wr.drew.cell? ((⟨w.heap.size, 0, none⟩ : Addr).add j) = some v := fun j v hj => by
        have h1 := (List.getElem?_eq_some_iff.1 hj).1
        simp at h1
        have h2 : L[j]? = some (.int .i64 x) := by
          have h3 : (L.take m)[j]? = (List.replicate m (Value.int .i64 x))[j]? := by rw [HT.out]
          rw [List.getElem?_take_of_lt (by omega), List.getElem?_replicate_of_lt (by omega)] at h3
          exact h3
        rw [List.getElem?_replicate_of_lt (by omega)] at hj
        rw [← hj]
        have e : (⟨w.heap.size, 0, none⟩ : Addr).add j = ⟨w.heap.size, j, none⟩ := by unfold Addr.add; split <;> simp_all
        rw [e, cell_of_row _ _ _ _ _ _ hG, List.getElem?_toArray, h2]
      have hone2 : ∀ u ∈ List.replicate k (Value.int .i64 x), u.oneCell' = true := by
        intro u hu; rw [(List.mem_replicate.1 hu).2]; rfl
      have hfit : m + (List.replicate k (Value.int .i64 x)).length ≤ L.length := by rw [List.length_replicate, hLl]; omega
      have hgo : goInt (List.replicate k (Value.int .i64 x)).length = .int .i64 k := by rw [List.length_replicate]; rfl
      have hli : (m : Int) ≤ (n : Int) := by omega
      have hli2 : ¬ n = m := by omega
      have hli3 : ¬ (n : Int) = (m : Int) := by omega
      have hmk : (m : Int) + (k : Int) ≤ 9223372036854775807 := by omega
      have hmk0 : -9223372036854775808 ≤ (m : Int) + (k : Int) := by omega
      have hwr : IntKind.i64.wrap ((m : Int) + (k : Int)) = (m : Int) + (k : Int) := by
        simp [IntKind.wrap, IntKind.signed, IntKind.bits]; omega
      go_upto_region 9 with fail
      refine wp_region_held_drew (S := (fun _ => True)) (by kernel_rfl) trivial (fun hHeld => ?_)
      refine held_take (i := 0) (v := ?_) rfl rfl (by kernel_rfl) (by kernel_rfl) (by kernel_rfl) (fun _ _ _ h => h) (by rfl) hHeld ?_ ?_
      rotate_left
      · rintro wh _
        go_simp
        (try with_reducible rfl)
      simp only [Act.put, List.setIfInBounds_toArray, List.set_cons_zero, List.set_cons_succ]
      refine held_take (i := 1) (v := ?_) rfl rfl (by kernel_rfl) (by kernel_rfl) (by kernel_rfl) (fun _ _ _ h => h) (by rfl) hHeld ?_ ?_
      rotate_left
      · rintro wh _
        go_simp
        (try with_reducible rfl)
      simp only [Act.put, List.setIfInBounds_toArray, List.set_cons_zero, List.set_cons_succ]
      refine held_take (i := 2) (v := ?_) rfl rfl (by kernel_rfl) (by kernel_rfl) (by kernel_rfl) (fun _ _ _ h => h) (by rfl) hHeld ?_ ?_
      rotate_left
      · rintro wh _
        go_simp
        (try with_reducible rfl)
      simp only [Act.put, List.setIfInBounds_toArray, List.set_cons_zero, List.set_cons_succ]
      refine held_take (i := 3) (v := ?_) rfl rfl (by kernel_rfl) (by kernel_rfl) (by kernel_rfl) (fun _ _ _ h => h) (by rfl) hHeld ?_ ?_
      rotate_left
      · rintro wh _
        go_simp
        (try with_reducible rfl)
      simp only [Act.put, List.setIfInBounds_toArray, List.set_cons_zero, List.set_cons_succ]
      refine held_take (i := 4) (v := ?_) rfl rfl (by kernel_rfl) (by kernel_rfl) (by kernel_rfl) (fun _ _ _ h => h) (by rfl) hHeld ?_ ?_
      rotate_left
      · rintro wh _
        go_simp
        (try with_reducible rfl)
      simp only [Act.put, List.setIfInBounds_toArray, List.set_cons_zero, List.set_cons_succ]
      refine held_take (i := 5) (v := ?_) rfl rfl (by kernel_rfl) (by kernel_rfl) (by kernel_rfl) (fun _ _ _ h => h) (by rfl) hHeld ?_ ?_
      rotate_left
      · rintro wh _
        go_simp
        (try with_reducible rfl)
      simp only [Act.put, List.setIfInBounds_toArray, List.set_cons_zero, List.set_cons_succ]
      refine held_take (i := 6) (v := ?_) rfl rfl (by kernel_rfl) (by kernel_rfl) (by kernel_rfl) (fun _ _ _ h => h) (by rfl) hHeld ?_ ?_
      rotate_left
      · rintro wh _
        go_simp
        (try with_reducible rfl)
      simp only [Act.put, List.setIfInBounds_toArray, List.set_cons_zero, List.set_cons_succ]
      refine held_step (i := 7) rfl (by kernel_rfl) (fun K hK => ?_)
      (refine step_copy_splice rfl (.tmp 41) (.tmp 44) 32 32 rfl 3 Tryz.underlying32 (by kernel_rfl) (some ⟨w.heap.size, m, none⟩) (some ⟨w.heap.size, 0, none⟩) (n - m) (n - m) m n rfl rfl w.heap.size m L 3 hG (List.replicate k (.int .i64 x)) hcl (fun _ => ⟨rfl, _, rfl, hsrc⟩) hfit hone2 w.heap.size w hbd (Nat.le_refl _) ?_; intro w4 hg4 hb4; rw [hgo])
      refine hK.out _ _ trivial (fun hHeld => ?_)
      clear hK K
      simp only [List.getElem_toArray, List.getElem_cons_succ, List.getElem_cons_zero, Act.put, List.setIfInBounds_toArray, List.set_cons_zero, List.set_cons_succ]
      refine held_take (i := 8) (v := ?_) rfl rfl (by kernel_rfl) (by kernel_rfl) (by kernel_rfl) (fun _ _ _ h => h) (by rfl) hHeld ?_ ?_
      rotate_left
      · rintro wh _
        go_simp
        (try with_reducible rfl)
      simp only [Act.put, List.setIfInBounds_toArray, List.set_cons_zero, List.set_cons_succ]
      refine held_take (i := 9) (v := ?_) rfl rfl (by kernel_rfl) (by kernel_rfl) (by kernel_rfl) (fun _ _ _ h => h) (by rfl) hHeld ?_ ?_
      rotate_left
      · rintro wh _
        go_simp
        (try with_reducible rfl)
      simp only [Act.put, List.setIfInBounds_toArray, List.set_cons_zero, List.set_cons_succ]
      refine wpAnyH_done (by kernel_rfl) ?_ _
      have q1 : Hid ((splice L m (List.replicate k (.int .i64 x))).length = n) := Lib.hid (by rw [length_splice _ _ _ hfit, hLl])
      have q2 : Hid ((splice L m (List.replicate k (.int .i64 x))).take (m + k) = List.replicate (m + k) (.int .i64 x)) := Lib.hid (splice_rep L m k _ HT.out)
      clear hHeld hfit hone2 hsrc hcl hbd hG hk hgo hLl HT HG HL
      go_wp2
      go_roundw
      case rel => exact ⟨m + k, _, by go_num, by omega, by omega, q1, q2, hg4, hb4⟩
      case measure => (simp [intOf]; try omega)
    · obtain rfl : m = n := by omega
      go_wp2
      go_ret
      have htk := HT.out
      have hown : wr.ownsRow w.heap.size 3 1 (.slice (some ⟨w.heap.size, 0, none⟩) m m) m (List.replicate m (.int .i64 x)) :=
        ⟨by simp, .inr ⟨_, m, L.toArray, rfl, Nat.le_refl _, HG.out, Nat.le_refl _, by unfold maxLen; omega, by simp [hLl], by simpa using htk⟩⟩
      exact ⟨_, _, rfl, hown, hbr⟩
end Go.Proofs.YtcfococinllcmaaGreat

/- bucket.All: a contract; slices.Repeat no times. -/
namespace Go.Proofs.YtcfococinllcmaaGreat
open Go.RowKit
theorem repeat_zero (w : World) (b o c : Nat) :
    Calls Tryz.prog 58 #[.slice (some ⟨b, o, none⟩) 1 c, .int .i64 0] w fun e w' => ∃ g, e = .returned (.slice (some ⟨g, 0, none⟩) 0 0) ∧ w'.heap[g]? = some (.cells #[] 3 (0, 0)) ∧ w.heap.size ≤ g ∧ Below w.heap.size w w' := by
  obtain ⟨i0, hi, hz0, hz1, hz2⟩ := info_parts info_intP
  have hmul := fun w => Tryz.bits_Mul 1 0 (by decide) (by decide) w
  have hmk := run_makeSlice (P := Tryz.prog) w 32 3 i0 (.int .i64 0) Tryz.underlying32 hi hz0 .i64 .i64 (0 : Int) 0 (by omega) (Int.le_refl _) (by rw [hz1]; simp) (by rw [hz2]; omega) (by omega)
  rw [hz1] at hmk
  have e0 : madeCells (Value.int .i64 0).cells ((0 : Int).toNat * 1) = #[] := Array.eq_empty_of_size_eq_zero (by rw [size_madeCells]; rfl)
  rw [e0] at hmk
  have hba := alloc_below w (.cells #[] 3)
  have hg0 : (w.alloc (.cells #[] 3)).heap[w.heap.size]? = some (.cells ([] : List Value).toArray 3 (0, 0)) := by rw [heap_alloc_new]
  have hz := World.size_alloc w (.cells #[] 3)
  generalize hW : w.alloc (.cells #[] 3) = W0 at *
  clear hW
  go_enter Tryz.func58, Tryz.ntmps58
  go_wp2_with fail
  refine (hmul w).mono ?_
  rintro e w' ⟨rfl, hww⟩
  obtain rfl := hww.symm
  clear hmul
  go_wp2_with ((refine wpList_copy_splice rfl (.tmp 31) (.tmp 32) 32 32 rfl 3 Tryz.underlying32 (by kernel_rfl) _ _ 0 0 1 c rfl rfl w.heap.size 0 [] 3 hg0 [] rfl (fun _ => ⟨rfl, _, rfl, fun j v hj => (by cases hj)⟩) (Nat.le_refl _) (fun u hu => (by cases hu)) w.heap.size w hba (Nat.le_refl _) ?_); intro w1 hg1 hb1)
  have HG := Lib.hid hg1
  clear hg0 hg1 hba hz
  go_wp2
  go_loopw [8] (fun vi wr => vi = .int .i64 0 ∧ wr = w1) (fun _ _ => 0)
  case atStart => exact ⟨rfl, rfl⟩
  case round =>
    obtain ⟨rfl, rfl⟩ := hrel
    go_wp2
    go_ret
    exact ⟨_, rfl, HG.out, Nat.le_refl _, hb1⟩
def haC (p : Ha × Value × Value) : List Value := [.string p.1.nm, .int .i64 p.1.f, .int .u32 p.1.fc, .int .i64 p.1.t, .int .u32 p.1.tc, p.2.1, p.2.2]
def haCells : List (Ha × Value × Value) → List Value
  | [] => []
  | p :: l => haC p ++ haCells l
theorem haCells_len (l : List (Ha × Value × Value)) : (haCells l).length = l.length * 7 := by
  induction l with
  | nil => rfl
  | cons x l ih => simp only [haCells, List.length_append, ih, List.length_cons]; simp [haC]; omega
theorem haCells_app (a b : List (Ha × Value × Value)) : haCells (a ++ b) = haCells a ++ haCells b := by
  induction a with
  | nil => rfl
  | cons x l ih => simp [haCells, ih]
theorem haCells_at : ∀ (l : List (Ha × Value × Value)) (j : Nat) (h : j < l.length) (i : Nat) (v : Value), (haC l[j])[i]? = some v → (haCells l)[j * 7 + i]? = some v
  | x :: l, 0, _, i, v, hi => by
    have hlt := (List.getElem?_eq_some_iff.1 hi).1
    simp only [haCells]
    rw [List.getElem?_append_left (by simpa using hlt)]
    simpa using hi
  | x :: l, j + 1, h, i, v, hi => by
    simp only [haCells]
    rw [List.getElem?_append_right (by simp [haC]; omega)]
    have := haCells_at l j (by simpa using h) i v (by simpa using hi)
    rw [← this]
    congr 1
    simp [haC]; omega
structure HasAt (w : World) (v : Value) (l : List (Ha × Value × Value)) : Prop where
  row : RdAt w v l.length 7 (haCells l)
  each : ∀ p ∈ l, HaAt w p.1 p.2.1 p.2.2 ∧ HaFit p.1
theorem HasAt.later {w w' : World} {v : Value} {l : List (Ha × Value × Value)} (h : HasAt w v l) (hb : Below w.heap.size w w') : HasAt w' v l := ⟨RdAt.later h.row hb, fun p hp => ⟨(h.each p hp).1.later hb, (h.each p hp).2⟩⟩
noncomputable def wantN (h : Ha) (l : List (Al × Value)) (tl : Int) (tc : Nat) (now : Int) : Int := if (rightH h && flowsL h.t h.tc tl tc) = true then (ofL h.bl (countN h l now) : Nat) else -1
theorem tell_want (h : Ha) (l : List (Al × Value)) (tl : Int) (tc : Nat) (now : Int) : ∃ (n : Int) (b : Bool), tellV h l tl tc now = .tuple #[.int .i64 n, .bool b] ∧ wantN h l tl tc now = (if b = true then n else -1) := by
  unfold tellV wantN
  by_cases hb : (rightH h && flowsL h.t h.tc tl tc) = true
  · rw [if_pos hb, if_pos hb]; exact ⟨_, true, rfl, rfl⟩
  · rw [if_neg hb, if_neg hb]; exact ⟨0, false, rfl, rfl⟩
def partW (ws : List Int) (k : Nat) : List Value := ((ws.take k).map fun i => Value.int .i64 i) ++ List.replicate (ws.length - k) (.int .i64 (-1))
theorem partW_no {ws : List Int} {k : Nat} (h : k < ws.length) (h1 : ws[k] = -1) : partW ws (k + 1) = partW ws k := by
  unfold partW
  rw [List.take_succ_eq_append_getElem h, List.map_append, List.append_assoc, h1, show ws.length - k = (ws.length - (k + 1)) + 1 by omega, List.replicate_succ]
  rfl
theorem partW_yes {ws : List Int} {k : Nat} (h : k < ws.length) : (partW ws k).set k (.int .i64 ws[k]) = partW ws (k + 1) := by
  unfold partW
  have hl : ((ws.take k).map fun i => Value.int .i64 i).length = k := by rw [List.length_map, List.length_take]; omega
  rw [List.set_append_right _ _ (by omega), hl, Nat.sub_self, show ws.length - k = (ws.length - (k + 1)) + 1 by omega, List.replicate_succ, List.set_cons_zero, List.take_succ_eq_append_getElem h, List.map_append, List.append_assoc]
  rfl
theorem partW_zero (ws : List Int) : partW ws 0 = List.replicate ws.length (.int .i64 (-1)) := by simp [partW]
theorem partW_all (ws : List Int) : partW ws ws.length = ws.map fun i => Value.int .i64 i := by simp [partW]
def WRow (w : World) (g : Nat) (ws : List Int) (k : Nat) (c : Nat) : Prop := ∃ L : List Value, w.heap[g]? = some (.cells L.toArray 3 (0, 0)) ∧ L.length = c ∧ ws.length ≤ c ∧ L.take ws.length = partW ws k
theorem WRow.later {w w' : World} {g : Nat} {ws : List Int} {k c : Nat} (h : WRow w g ws k c) (hb : Below w.heap.size w w') : WRow w' g ws k c := by
  obtain ⟨L, h1, h2⟩ := h
  exact ⟨L, by rw [hb.block g (Array.getElem?_eq_some_iff.1 h1).1]; exact h1, h2⟩
theorem WRow.lt {w : World} {g : Nat} {ws : List Int} {k c : Nat} (h : WRow w g ws k c) : g < w.heap.size := by
  obtain ⟨L, h1, h2⟩ := h
  exact (Array.getElem?_eq_some_iff.1 h1).1
theorem WRow.free {w : World} {g : Nat} {ws : List Int} {k c : Nat} (h : WRow w g ws k c) (j : Nat) : w.frozen? ⟨g, j, none⟩ = false := by
  obtain ⟨L, h1, h2⟩ := h
  simp [World.frozen?, h1]
theorem WRow.old {w : World} {g : Nat} {ws : List Int} {k c : Nat} (h : WRow w g ws k c) {j : Nat} (hj : j < ws.length) : ∃ u, w.cell? ⟨g, j, none⟩ = some u := by
  obtain ⟨L, h1, h2, h3, _⟩ := h
  refine ⟨L[j]'(by omega), ?_⟩
  rw [cell_of_row _ _ _ _ _ _ h1]
  simp
theorem WRow.put {w : World} {g : Nat} {ws : List Int} {k c : Nat} (h : WRow w g ws k c) (hk : k < ws.length) : WRow (w.setCell ⟨g, k, none⟩ (.int .i64 ws[k])) g ws (k + 1) c := by
  obtain ⟨L, h1, h2, h3, h4⟩ := h
  refine ⟨L.set k (.int .i64 ws[k]), ?_, by rw [List.length_set, h2], h3, ?_⟩
  · rw [heap_setCell_same w g k _ _ _ h1, List.setIfInBounds_toArray]
  · rw [← partW_yes hk, ← h4, List.take_set]
theorem WRow.skip {w : World} {g : Nat} {ws : List Int} {k c : Nat} (h : WRow w g ws k c) (hk : k < ws.length) (h1 : ws[k] = -1) : WRow w g ws (k + 1) c := by
  obtain ⟨L, a, b, d, e⟩ := h
  exact ⟨L, a, b, d, by rw [partW_no hk h1]; exact e⟩
theorem WRow.ints {w : World} {g : Nat} {ws : List Int} {c : Nat} (h : WRow w g ws ws.length c) : IntsAt w (.slice (some ⟨g, 0, none⟩) ws.length c) ws := by
  have hlt := h.lt
  obtain ⟨L, h1, h2, h3, h4⟩ := h
  rw [partW_all] at h4
  unfold IntsAt
  refine RdAt.mk (by simp) h3 hlt (fun j x hj => ?_)
  have hjl := (List.getElem?_eq_some_iff.1 hj).1
  rw [List.length_map] at hjl
  rw [Nat.zero_add, cell_of_row _ _ _ _ _ _ h1]
  rw [← h4, List.getElem?_take_of_lt hjl] at hj
  simpa using hj
set_option maxHeartbeats 3200000 in
set_option maxRecDepth 100000 in
theorem ball_any (hs : List (Ha × Value × Value)) (hv : Value) (l : List (Al × Value)) (lv : Value) (tl : Int) (tlc : Nat) (now : Int) (w : World) (hh : HasAt w hv hs) (hl : AlsAt w lv l) (hn : l.length ≤ 100) (hk100 : hs.length ≤ 100) :
    Calls Tryz.prog 19 #[hv, lv, .agg #[.int .i64 tl, .int .u32 tlc], .int .i64 now] w fun e w' => ∃ v, e = .returned v ∧ IntsAt w' v (hs.map fun p => wantN p.1 l tl tlc now) ∧ Below w.heap.size w w' := by
  have KT := Lib.hid (fun W (hW : Below w.heap.size w W) (k : Nat) (hk : k < hs.length) => tell_any hs[k].1 hs[k].2.1 hs[k].2.2 l lv tl tlc now W ((hh.each _ (List.getElem_mem hk)).1.later hW) (hh.each _ (List.getElem_mem hk)).2 (hl.later hW) hn)
  have HSH : Hid (∀ (k : Nat) (hk : k < hs.length), ∃ a n c a' n' c', hs[k].2.1 = Value.slice a n c ∧ hs[k].2.2 = Value.slice a' n' c') := Lib.hid (fun k hk => by
    obtain ⟨a, c, h, _⟩ := RdAt.shape (hh.each _ (List.getElem_mem hk)).1.ms
    obtain ⟨a', c', h', _⟩ := RdAt.shape (hh.each _ (List.getElem_mem hk)).1.bl
    exact ⟨a, _, c, a', _, c', h, h'⟩)
  have HWT := Lib.hid (fun (k : Nat) (hk : k < hs.length) => tell_want hs[k].1 l tl tlc now)
  obtain ⟨ws, hws⟩ : ∃ ws, (hs.map fun p => wantN p.1 l tl tlc now) = ws := ⟨_, rfl⟩
  have hwl : ws.length = hs.length := by rw [← hws, List.length_map]
  have HWK : Hid (∀ (k : Nat) (hk : k < hs.length) (h' : k < ws.length), ws[k] = wantN hs[k].1 l tl tlc now) := Lib.hid (fun k hk h' => by simp [← hws])
  rw [hws]
  clear hws
  obtain ⟨ha, hc, rfl, hhc, hhr⟩ := RdAt.shape hh.row
  have HHR := Lib.hid hhr
  obtain ⟨la, lc, rfl, hlc, _⟩ := RdAt.shape hl.row
  clear hh hl hhr
  have hb0 := alloc_below w (.cells #[.int .i64 tl, .int .u32 tlc] 26)
  have hz0 := World.size_alloc w (.cells #[.int .i64 tl, .int .u32 tlc] 26)
  have hrf := Below.refl (w.alloc (.cells #[.int .i64 tl, .int .u32 tlc] 26)).heap.size (w.alloc (.cells #[.int .i64 tl, .int .u32 tlc] 26))
  have t0 := box_later hrf (i := 0) rfl
  have t1 := box_later hrf (i := 1) rfl
  obtain ⟨W0, hW0⟩ : ∃ z, w.alloc (.cells #[.int .i64 tl, .int .u32 tlc] 26) = z := ⟨_, rfl⟩
  rw [hW0] at hb0 hz0 t0 t1
  have hb1 := alloc_below W0 (.cells #[.int .i64 (-1)] 3)
  have hz1 := World.size_alloc W0 (.cells #[.int .i64 (-1)] 3)
  have x0 := heap_alloc_new W0 (.cells #[.int .i64 (-1)] 3)
  obtain ⟨W1, hW1⟩ : ∃ z, W0.alloc (.cells #[.int .i64 (-1)] 3) = z := ⟨_, rfl⟩
  rw [hW1] at hb1 hz1 x0
  have hx : W1.cell? ⟨W0.heap.size, 0, none⟩ = some (.int .i64 (-1)) := by rw [cell_of_row _ _ _ _ _ _ x0]; rfl
  have HT1 : Hid (W1.cell? ⟨w.heap.size, 0, none⟩ = some (.int .i64 tl) ∧ W1.cell? ⟨w.heap.size, 1, none⟩ = some (.int .u32 tlc)) := Lib.hid ⟨keep_cell t0 hb1 (by omega), keep_cell t1 hb1 (by omega)⟩
  have HB1 := Lib.hid (hb0.trans (hb1.mono hb0.size))
  clear hrf t0 t1 hb0 hb1 x0
  have hlt1 : w.heap.size < W1.heap.size := by omega
  obtain ⟨n, hnn⟩ : ∃ n, hs.length = n := ⟨_, rfl⟩
  have HNN := Lib.hid hnn
  rw [hnn] at hwl hhc hk100 ⊢
  have HR : Hid (Calls Tryz.prog 58 #[.slice (some ⟨W0.heap.size, 0, none⟩) 1 1, .int .i64 n] W1 fun e w' => ∃ g c, e = .returned (.slice (some ⟨g, 0, none⟩) n c) ∧ WRow w' g ws 0 c ∧ W1.heap.size ≤ g ∧ Below W1.heap.size W1 w') := Lib.hid (by
    rcases Nat.eq_zero_or_pos n with h0 | h0
    · subst h0
      refine (repeat_zero W1 W0.heap.size 0 1).mono ?_
      rintro e w' ⟨g, rfl, hg, hg2, hb⟩
      exact ⟨g, 0, rfl, ⟨[], hg, rfl, by omega, by rw [partW_zero, hwl]; rfl⟩, hg2, hb⟩
    · refine (repeat_is W1 (-1) n W0.heap.size 0 1 h0 (by omega) hx).mono ?_
      rintro e w' ⟨g, cap, rfl, hown, hb⟩
      refine ⟨g, cap, rfl, ?_, (hown.lt g rfl).1, hb⟩
      rcases hown.2 with ⟨h, _⟩ | ⟨g', cap', cur, h, hbg, hg, hcl, hcm, hcs, htk⟩
      · cases h
      · simp only [Value.slice.injEq, Option.some.injEq, Addr.mk.injEq, and_true, true_and] at h
        obtain ⟨rfl, rfl⟩ := h
        refine ⟨cur.toList, by simpa using hg, by simp [hcs], by omega, ?_⟩
        rw [hwl, partW_zero, hwl, ← htk, Nat.mul_one])
  clear hx hz1 hnn
  go_enter Tryz.func19, Tryz.ntmps19
  go_upto_region 1 with fail
  try rw [hW0]
  clear hW0
  have kr := HR.out
  rw [hz0] at kr
  clear HR
  go_wp2_with fail
  try rw [hW1]
  refine kr.mono ?_
  rintro e w2 ⟨g, c, rfl, hrw, hgb, hb⟩
  have HRW := Lib.hid hrw
  have HT2 : Hid (w2.cell? ⟨w.heap.size, 0, none⟩ = some (.int .i64 tl) ∧ w2.cell? ⟨w.heap.size, 1, none⟩ = some (.int .u32 tlc)) := Lib.hid ⟨keep_cell HT1.out.1 hb hlt1, keep_cell HT1.out.2 hb hlt1⟩
  have HB2 := Lib.hid (HB1.out.trans (hb.mono HB1.out.size))
  have hlt2 : w.heap.size < w2.heap.size := by have := hb.size; omega
  have hgw : w.heap.size < g := by omega
  clear hrw hb kr HT1 HB1 hlt1 hW1 hz0
  go_upto_region 3 with fail
  go_loopw [20] (fun vi wr => ∃ k : Nat, k ≤ n ∧ vi = .int .i64 k ∧ Hid (WRow wr g ws k c) ∧ Hid (wr.cell? ⟨w.heap.size, 0, none⟩ = some (.int .i64 tl) ∧ wr.cell? ⟨w.heap.size, 1, none⟩ = some (.int .u32 tlc)) ∧ Hid (Below w.heap.size w wr) ∧ w.heap.size < wr.heap.size) (fun vi _ => n - (intOf vi).toNat)
  case atStart => exact ⟨0, Nat.zero_le _, rfl, HRW, HT2, HB2, hlt2⟩
  case round =>
    clear HRW HT2 HB2 hlt2
    obtain ⟨k, hk, rfl, HW, HT, HB, hlt⟩ := hrel
    by_cases hkn : k < n
    case neg =>
      obtain rfl : k = n := by omega
      have HI : Hid (IntsAt wr (.slice (some ⟨g, 0, none⟩) k c) ws) := Lib.hid (by have := HW.out; rw [← hwl] at this ⊢; exact this.ints)
      clear HW HT
      go_wp2
      go_ret
      exact ⟨_, rfl, HI.out, HB.out⟩
    have hkh : k < hs.length := by rw [HNN.out]; exact hkn
    have hkw : k < ws.length := by omega
    obtain ⟨b, o, rfl, hbl, hcell⟩ := HHR.out (by omega)
    have hat := haCells_at hs k hkh
    have q0 := keep_cell (hcell _ _ (hat 0 _ rfl)) HB.out hbl
    have q1 := keep_cell (hcell _ _ (hat 1 _ rfl)) HB.out hbl
    have q2 := keep_cell (hcell _ _ (hat 2 _ rfl)) HB.out hbl
    have q3 := keep_cell (hcell _ _ (hat 3 _ rfl)) HB.out hbl
    have q4 := keep_cell (hcell _ _ (hat 4 _ rfl)) HB.out hbl
    have q5 := keep_cell (hcell _ _ (hat 5 _ rfl)) HB.out hbl
    have q6 := keep_cell (hcell _ _ (hat 6 _ rfl)) HB.out hbl
    rw [Nat.add_zero] at q0
    rw [← Nat.add_assoc] at q1 q2 q3 q4 q5 q6
    have KTk := Lib.hid (fun W hW => KT.out W hW k hkh)
    obtain ⟨va, vn, vc, va', vn', vc', hs1, hs2⟩ := HSH.out k hkh
    obtain ⟨tn, tb, htv, htw⟩ := HWT.out k hkh
    have hwk := HWK.out k hkh hkw
    rw [htw] at hwk
    have HWKE := Lib.hid hwk
    rw [htv, hs1, hs2] at KTk
    rw [hs1] at q5
    rw [hs2] at q6
    have hk0 : (0 : Int) ≤ (k : Int) := by omega
    have hk1 : (k : Int) < (n : Int) := by omega
    clear hcell hat htv htw hwk hs1 hs2 KT HSH HWT HWK HHR hbl
    generalize hs[k].1 = h at *
    obtain ⟨nm, f, fc, t, tc, ms, bl⟩ := h
    dsimp only at *
    have hba := alloc_below wr (.cells #[.string nm, .int .i64 f, .int .u32 fc, .int .i64 t, .int .u32 tc, .slice va vn vc, .slice va' vn' vc'] 35)
    have x := al7r wr (.string nm) (.int .i64 f) (.int .u32 fc) (.int .i64 t) (.int .u32 tc) (.slice va vn vc) (.slice va' vn' vc') 35
    go_upto_region 5 with fail
    change Code.wp _ _ _ _ (wr.alloc (.cells #[.string nm, .int .i64 f, .int .u32 fc, .int .i64 t, .int .u32 tc, .slice va vn vc, .slice va' vn' vc'] 35))
    generalize wr.alloc (.cells #[.string nm, .int .i64 f, .int .u32 fc, .int .i64 t, .int .u32 tc, .slice va vn vc, .slice va' vn' vc'] 35) = wa at *
    have HWa := Lib.hid (HW.out.later hba)
    have t0 := keep_cell HT.out.1 hba hlt
    have t1 := keep_cell HT.out.2 hba hlt
    have HTa := Lib.hid (And.intro t0 t1)
    have HBa := Lib.hid (HB.out.trans (hba.mono HB.out.size))
    have hlta := Nat.lt_of_lt_of_le hlt hba.size
    have kt := KTk.out wa HBa.out
    generalize wr.heap.size = bx at *
    obtain ⟨x0, x1, x2, x3, x4, x5, x6⟩ := x
    clear q0 q1 q2 q3 q4 q5 q6 hba HW HT HB KTk hlt
    go_wp2_with fail
    refine kt.mono ?_
    rintro e wb ⟨rfl, hb⟩
    have HWb := Lib.hid (HWa.out.later hb)
    have HTb : Hid (wb.cell? ⟨w.heap.size, 0, none⟩ = some (.int .i64 tl) ∧ wb.cell? ⟨w.heap.size, 1, none⟩ = some (.int .u32 tlc)) := Lib.hid ⟨keep_cell HTa.out.1 hb hlta, keep_cell HTa.out.2 hb hlta⟩
    have HBb := Lib.hid (HBa.out.trans (hb.mono HBa.out.size))
    have hltb := Nat.lt_of_lt_of_le hlta hb.size
    clear kt hb x0 x1 x2 x3 x4 x5 x6 t0 t1 HWa HTa HBa hlta
    cases tb with
    | false =>
      have HWz := Lib.hid (HWb.out.skip hkw HWKE.out)
      clear HWb HWKE
      go_wp2
      go_roundw
      case rel => exact ⟨k + 1, by omega, by go_num, HWz, HTb, HBb, hltb⟩
      case measure => (simp [intOf]; try omega)
    | true =>
      have hf := HWb.out.free k
      obtain ⟨u, hu⟩ := HWb.out.old hkw
      have hput := HWb.out.put hkw
      rw [HWKE.out, if_pos rfl] at hput
      have HWz := Lib.hid hput
      have hne : w.heap.size ≠ g ∨ w.heap.size = g := by omega
      have HTz : Hid ((wb.setCell ⟨g, k, none⟩ (.int .i64 tn)).cell? ⟨w.heap.size, 0, none⟩ = some (.int .i64 tl) ∧ (wb.setCell ⟨g, k, none⟩ (.int .i64 tn)).cell? ⟨w.heap.size, 1, none⟩ = some (.int .u32 tlc)) := Lib.hid (by
        constructor <;> (rw [World.cell?_setCell_far _ _ _ _ (by show g ≠ w.heap.size; omega)])
        · exact HTb.out.1
        · exact HTb.out.2)
      have HBz := Lib.hid (below_put (g := g) (j := k) (x := .int .i64 tn) HBb.out (by omega))
      have hltz : w.heap.size < (wb.setCell ⟨g, k, none⟩ (.int .i64 tn)).heap.size := by simpa using hltb
      clear hput HWb HWKE HTb HBb hltb hne
      go_wp2
      go_roundw
      case rel => exact ⟨k + 1, by omega, by go_num, HWz, HTz, HBz, hltz⟩
      case measure => (simp [intOf]; try omega)
end Go.Proofs.YtcfococinllcmaaGreat

/- The arguments of chapter 09's laws: alerts, labels, numbers, policies. -/
namespace Go.Proofs.YtcfococinllcmaaGreat
open Go.RowKit Go.WideShapes Go.ChangeShapes Go.Deep
theorem cell_ltA {w : World} {a : Addr} {v : Value} (h : w.cell? a = some v) : a.block < w.heap.size := by
  rcases Nat.lt_or_ge a.block w.heap.size with h' | h'
  · exact h'
  · simp [World.cell?, Array.getElem?_eq_none h'] at h
section
variable {H : Type} {enc : TypeId × Value → H} {P : Program} {w : World} {base : Nat} {spare : Nat → Bool} {held : Bool}
theorem open_slice_structs {t e : TypeId} {fs : Array Field} {fuel : Nat} {cs : List Value} {x : DataW H × List MemPlace} (ht : P.underlying t = some (.slice e)) (he : P.underlying e = some (.struct fs))
    (h : DataW.trod enc P w base spare held fuel t cs = some x) :
    cs = [.slice none 0 0] ∨
    ∃ (a : Addr) (len cap : Nat), cs = [.slice (some a) len cap] ∧ len ≤ cap ∧ cap ≤ maxLen ∧
      ∀ i, i < len → ∃ (es : List Value) (n : Nat), es.length = P.cellsOf e ∧ (∀ j, j < P.cellsOf e → w.cell? (a.add (i * P.cellsOf e + j)) = es[j]?) ∧
        ∀ (j : Nat) (f : Field), fs[j]? = some f → ∃ y, DataW.trod enc P w base spare held n f.type ((es.drop f.offset).take (P.cellsOf f.type)) = some y := by
  rcases open_slice ht h with ⟨h0, _⟩ | ⟨a, len, cap, m, n, D, Pl, hcs, hb, hl, hm, hmm, hx, hi⟩
  · exact .inl h0
  · refine .inr ⟨a, len, cap, hcs, hl, hm, fun i hil => ?_⟩
    obtain ⟨cs', hc, ht'⟩ := hi i (by rw [hmm]; split <;> omega)
    obtain ⟨ys, n', hn', hy, hlen, hyl, hf⟩ := DataW.trod_struct he ht'
    obtain ⟨_, hcl, hat⟩ := World.cells?_some hc
    refine ⟨cs', n', by omega, fun j hj => ?_, fun j f hj => ?_⟩
    · rw [← Go.Deep.add_add]; exact hat j hj
    · have hjl : j < fs.size := (Array.getElem?_eq_some_iff.1 hj).1
      have h1 := hf j f hj
      exact ⟨_, h1.trans (List.getElem?_eq_getElem (by omega))⟩
end
def ArgFlds (w : World) (v : Value) (fl : List Fld) : Prop := FldsAt w v fl ∧ fl.length ≤ maxLen ∧ FldsFit fl
theorem add_off {b o j : Nat} : (⟨b, o, none⟩ : Addr).add j = ⟨b, o + j, none⟩ := Go.WideShapes.add_plain ..
set_option maxRecDepth 100000 in
theorem flds_of_trod {H : Type} {enc : TypeId × Value → H} {W : World} {n : Nat} {v : Value} {x : DataW H × List MemPlace} (h : DataW.trod enc Tryz.prog W 0 (fun _ => true) true n 48 [v] = some x) : ∃ fl, ArgFlds W v fl := by
  have hC : Tryz.prog.cellsOf 103 = 2 := by kernel_rfl
  have hcs1 : Tryz.prog.cellsOf 9 = 1 := by kernel_rfl
  rcases open_slice_structs Tryz.underlying48 Tryz.underlying103 h with hcs | ⟨a, len, cap, hcs, hl, hm, hf⟩
  · cases hcs
    exact ⟨[], RdAt.nil W 2, Nat.zero_le _, fun _ h => by cases h⟩
  · cases hcs
    rw [hC] at hf
    have hone : ∀ i, i < len → ∃ s : Fld, W.cell? (a.add (i * 2)) = some (.string s.1) ∧ W.cell? (a.add (i * 2 + 1)) = some (.string s.2) ∧ s.1.size ≤ maxLen ∧ s.2.size ≤ maxLen := by
      intro i hi
      obtain ⟨es, n, hlen, hat, hfs⟩ := hf i hi
      match es, hlen with
      | [e0, e1], _ =>
        obtain ⟨y0, t0⟩ := hfs 0 _ rfl
        obtain ⟨y1, t1⟩ := hfs 1 _ rfl
        obtain ⟨s0, q0, _, z0⟩ := DataW.trod_string Tryz.underlying9 t0
        obtain ⟨s1, q1, _, z1⟩ := DataW.trod_string Tryz.underlying9 t1
        simp [hcs1] at q0 q1
        subst q0 q1
        exact ⟨(s0, s1), hat 0 (by omega), hat 1 (by omega), z0, z1⟩
    have hg : ∃ g : Nat → Fld, ∀ i, i < len → W.cell? (a.add (i * 2)) = some (.string (g i).1) ∧ W.cell? (a.add (i * 2 + 1)) = some (.string (g i).2) ∧ (g i).1.size ≤ maxLen ∧ (g i).2.size ≤ maxLen :=
      ⟨fun i => if h : i < len then Classical.choose (hone i h) else default, fun i h => by have := Classical.choose_spec (hone i h); simpa only [dif_pos h] using this⟩
    obtain ⟨g, hg⟩ := hg
    have hgl : ((List.range len).map g).length = len := by simp
    refine ⟨(List.range len).map g, ⟨fldCells_len _, .inr ⟨a, cap, by rw [hgl], by omega, fun hn => ?_⟩⟩, by rw [hgl]; omega, fun s hs => ?_⟩
    · rw [hgl] at hn
      obtain ⟨b, off, spot⟩ := a
      have h0 := (hg 0 hn).1
      have hspot : spot = none := by simpa [Addr.add] using World.cell?_spot h0
      subst hspot
      refine ⟨b, off, rfl, by have := cell_ltA h0; simpa [Addr.add] using this, fun j x hj => ?_⟩
      have hjl := (List.getElem?_eq_some_iff.1 hj).1
      rw [fldCells_len, hgl] at hjl
      obtain ⟨m, r, hr2, rfl⟩ : ∃ m r, r < 2 ∧ j = m * 2 + r := ⟨j / 2, j % 2, Nat.mod_lt _ (by decide), by omega⟩
      obtain ⟨q0, q1⟩ := fldCells_at ((List.range len).map g) m (by rw [hgl]; omega)
      obtain ⟨h1, h2, _⟩ := hg m (by omega)
      simp only [List.getElem_map, List.getElem_range] at q0 q1
      rw [add_off] at h1 h2
      match r, hr2 with
      | 0, _ => rw [Nat.add_zero] at hj ⊢; rw [q0] at hj; rw [← Option.some.inj hj]; exact h1
      | 1, _ => rw [q1] at hj; rw [← Option.some.inj hj]; exact h2
    · obtain ⟨i, hi, rfl⟩ := List.mem_map.1 hs
      exact (hg i (List.mem_range.1 hi)).2.2
theorem lit_u32 {c : Int} (h : (Lit.int .u32 c).wf = true) : ∃ n : Nat, c = n ∧ n < 4294967296 := by
  have : 0 ≤ c ∧ c ≤ 4294967295 := by
    simp [Lit.wf, IntKind.min, IntKind.max, IntKind.signed, IntKind.bits] at h; omega
  exact ⟨c.toNat, by omega, by omega⟩
theorem lab_of_trod {H : Type} {enc : TypeId × Value → H} {W : World} {n : Nat} {c0 c1 : Value} {x : DataW H × List MemPlace} (h : DataW.trod enc Tryz.prog W 0 (fun _ => true) true n 26 [c0, c1] = some x) : ∃ (l : Int) (c : Nat), c0 = .int .i64 l ∧ c1 = .int .u32 c ∧ c < 4294967296 := by
  have hci : Tryz.prog.cellsOf 3 = 1 := by kernel_rfl
  have hcu : Tryz.prog.cellsOf 24 = 1 := by kernel_rfl
  obtain ⟨ys, n', hn', hy, hlen, hyl, hf⟩ := DataW.trod_struct Tryz.underlying26 h
  have t0 := hf 0 _ rfl
  have t1 := hf 1 _ rfl
  match ys, hyl with
  | [y0, y1], _ =>
    obtain ⟨k0, q0, _, _⟩ := DataW.trod_int Tryz.underlying3 t0
    obtain ⟨k1, q1, _, w1⟩ := DataW.trod_int Tryz.underlying24 t1
    simp [hci] at q0
    simp [hcu] at q1
    subst q0 q1
    obtain ⟨m, rfl, hm⟩ := lit_u32 w1
    exact ⟨k0, m, rfl, rfl, hm⟩
def ArgAl (w : World) (v : Value) (x : Al) (fv : Value) : Prop := v = .agg #[.string x.src, fv, .int .i64 x.lv, .int .u32 x.c, .int .i64 x.fr, .int .i64 x.til] ∧ FldsAt w fv x.fl ∧ AlFit x
theorem al_of_trod {H : Type} {enc : TypeId × Value → H} {W : World} {n : Nat} {c0 c1 c2 c3 c4 c5 : Value} {x : DataW H × List MemPlace} (h : DataW.trod enc Tryz.prog W 0 (fun _ => true) true n 50 [c0, c1, c2, c3, c4, c5] = some x) : ∃ x fv, ArgAl W (.agg #[c0, c1, c2, c3, c4, c5]) x fv := by
  have hci : Tryz.prog.cellsOf 3 = 1 := by kernel_rfl
  have hcs : Tryz.prog.cellsOf 9 = 1 := by kernel_rfl
  have hcl : Tryz.prog.cellsOf 26 = 2 := by kernel_rfl
  have hcf : Tryz.prog.cellsOf 48 = 1 := by kernel_rfl
  obtain ⟨ys, n', hn', hy, hlen, hyl, hf⟩ := DataW.trod_struct Tryz.underlying50 h
  have t0 := hf 0 _ rfl
  have t1 := hf 1 _ rfl
  have t2 := hf 2 _ rfl
  have t3 := hf 3 _ rfl
  have t4 := hf 4 _ rfl
  match ys, hyl with
  | [y0, y1, y2, y3, y4], _ =>
    obtain ⟨s, q0, _, z0⟩ := DataW.trod_string Tryz.underlying9 t0
    simp [hcs] at q0
    subst q0
    have t1' : DataW.trod enc Tryz.prog W 0 (fun _ => true) true n' 48 [c1] = some y1 := by simpa [hcf] using t1
    obtain ⟨fl, hfl⟩ := flds_of_trod t1'
    have t2' : DataW.trod enc Tryz.prog W 0 (fun _ => true) true n' 26 [c2, c3] = some y2 := by simpa [hcl] using t2
    obtain ⟨l, c, e2, e3, hc⟩ := lab_of_trod t2'
    obtain ⟨k3, q3, _, _⟩ := DataW.trod_int Tryz.underlying3 t3
    obtain ⟨k4, q4, _, _⟩ := DataW.trod_int Tryz.underlying3 t4
    simp [hci] at q3 q4
    subst q3 q4
    subst e2 e3
    exact ⟨⟨s, fl, l, c, k3, k4⟩, c1, rfl, hfl.1, z0, hfl.2.2, hfl.2.1, hc⟩
end Go.Proofs.YtcfococinllcmaaGreat

