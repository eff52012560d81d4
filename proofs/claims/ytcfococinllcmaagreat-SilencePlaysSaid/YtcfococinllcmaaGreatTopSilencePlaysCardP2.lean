/- SilencePlays: the card: whatever the arguments, the law returns true and its arguments read as they did. No condition. -/
import Derived.Test.YtcfococinllcmaaGreatTopSilencePlaysCardP1
import Derived.Deep.OwnRows
import Derived.Great.Ranges
import Derived.Shelf.GgClosure.StringsIndexFunc
import Derived.Test.YtcfococinllcmaaGreatRows
import Derived.Test.YtcfococinllcmaaGreatShelf
import Derived.WalkSpells
import Derived.Lib.Hide
import Derived.WalkKit
import Derived.Laws.BitsLemmas
import Derived.Laws.AppendOwn
import Derived.Deep.LoopGhost
import Derived.Maps.AppendAt
import Derived.Deep.DeepCutAuto
import Derived.BigQuiet
import Derived.Deep.QuietTactic
import Derived.Lib.SliceRun

/- The reference's atom: a contract (with either's for less fuel). -/
namespace Go.Proofs.YtcfococinllcmaaGreat
open Go.RowKit
structure Ca (w0 w : World) (nb g : Nat) (s : ByteArray) (b : Bs) (cs : List Value) : Prop where
  rdr : RdrAt w g s b
  nd : NdAt w nb cs
  res : w.there w0.heap.size 0 258
  kr : Kr g w0 w
  gl : g < w0.heap.size
  nb : w0.heap.size < nb
theorem Ca.below {w0 w w' : World} {nb g : Nat} {s : ByteArray} {b : Bs} {cs : List Value} (h : Ca w0 w nb g s b cs) (hb : Below w.heap.size w w') : Ca w0 w' nb g s b cs :=
  ⟨h.rdr.below hb, h.nd.later hb, there_later h.res hb (by have := h.nd.lt; have := h.nb; omega), h.kr.trans (Kr.of_below hb), h.gl, h.nb⟩
theorem Ca.stp {w0 w w' : World} {nb g : Nat} {s : ByteArray} {b b' : Bs} {cs : List Value} (h : Ca w0 w nb g s b cs) (hr : RdrAt w' g s b') (hk : Kr g w w') : Ca w0 w' nb g s b' cs :=
  ⟨hr, h.nd.kr hk (by have := h.gl; have := h.nb; omega), there_kept h.res (hk.block _ (by have := h.nd.lt; have := h.nb; omega) (by have := h.gl; omega)), h.kr.trans hk, h.gl, h.nb⟩
theorem Ca.step {w0 w : World} {nb g : Nat} {s : ByteArray} {b : Bs} {cs : List Value} (h : Ca w0 w nb g s b cs) : Ca w0 (w.setCell ⟨g, 1, none⟩ (.int .i64 ((b.pos : Int) + 1))) nb g s (stepM b) cs :=
  h.stp h.rdr.step (Kr.set g w 1 _)
theorem Ca.put {w0 w : World} {nb g : Nat} {s : ByteArray} {b : Bs} {cs : List Value} (h : Ca w0 w nb g s b cs) (j : Nat) (v : Value) (hj : j < 258) : Ca w0 (w.setCell ⟨nb, j, none⟩ v) nb g s b (cs.set j v) :=
  ⟨h.rdr.kept (by simp) (Below.heap_setCell w _ v g (by show g ≠ nb; have := h.gl; have := h.nb; omega)), h.nd.set j v hj, rthere_set h.res _ _ _, h.kr.new _ _ _ (by have := h.nb; omega), h.gl, h.nb⟩
theorem Ca.all {w0 w : World} {nb g : Nat} {s : ByteArray} {b : Bs} {cs : List Value} (h : Ca w0 w nb g s b cs) (cs' : List Value) (hl : cs'.length = 258) : Ca w0 (w.setCells nb 0 cs') nb g s b cs' :=
  ⟨h.rdr.kept (by rw [size_setCells]; exact Nat.le_refl _) (heap_setCells _ _ _ (by have := h.gl; have := h.nb; omega) _ _), h.nd.stored hl, World.there_setCells h.res _ _ _, h.kr.news _ (by have := h.nb; omega) _ _, h.gl, h.nb⟩
theorem Ca.done {w0 w : World} {nb g : Nat} {s : ByteArray} {b : Bs} {cs : List Value} (h : Ca w0 w nb g s b cs) (vs : List Value) : RdrAt (w.setCells w0.heap.size 0 vs) g s b ∧ Kr g w0 (w.setCells w0.heap.size 0 vs) :=
  ⟨h.rdr.kept (by rw [size_setCells]; exact Nat.le_refl _) (heap_setCells _ _ _ (by have := h.gl; omega) _ _), h.kr.news _ (Nat.le_refl _) _ _⟩
theorem Ca.new {w0 w : World} {g : Nat} {s : ByteArray} {b : Bs} (h : RdrAt w g s b) (hr : w.there w0.heap.size 0 258) (hk : Kr g w0 w) (hg : g < w0.heap.size) (hl : w0.heap.size < w.heap.size) (t : TypeId) : Ca w0 ((w.alloc (.cells (zeroN 0) t)).setCells w.heap.size 0 (nodeC 0 noB nilS)) w.heap.size g s b (nodeC 0 noB nilS) := by
  have hb := alloc_below w (.cells (zeroN 0) t)
  refine ⟨(h.below hb).kept (by rw [size_setCells]; exact Nat.le_refl _) (heap_setCells _ _ _ (by omega) _ _), (NdAt.new w 0 t).stored (nodeC_len _ _ _), there_kept (there_later hr hb hl) (heap_setCells _ _ _ (by omega) _ _), (hk.trans (Kr.of_below hb)).news _ (by omega) _ _, hg, hl⟩
theorem oneS_eq (c : Nat) : (fun x => if x = c then true else noB x) = oneS c := by
  funext x
  unfold oneS addS noS noB
  by_cases h : x = c
  · subst h; rw [if_pos rfl, decide_eq_true (Nat.le_refl x)]; rfl
  · rw [if_neg h]
    by_cases h2 : c ≤ x
    · rw [decide_eq_true h2, decide_eq_false (show ¬ x ≤ c by omega)]; rfl
    · rw [decide_eq_false h2]; rfl
theorem dot_all (kv : Value) : nodeC 0 (addU noB 0 256) kv = nodeC 0 (turnS noS) kv := nodeC_congr (fun c hc => by unfold addU turnS noB noS; rw [decide_eq_true (Nat.zero_le c), decide_eq_true hc]; rfl) kv
theorem Back.mk1 {w w' : World} {g d : Nat} {s : ByteArray} {b b' : Bs} {S T : Nat → Bool} (hr : RdrAt w' g s b') (he : b'.err = b.err) (hp : b'.pos ≤ s.size + 12 - d) (ht : b'.err = 0 → b'.pos = b.pos ∧ nodeC 0 S nilS = nodeC 0 T nilS) (hk : Kr g w w') : Back w w' g s d (oneM b T) (.set T) (nodeC 0 S nilS) b' :=
  ⟨nodeC_len _ _ _, oneN _ _, hr, he, hp, fun h0 => ⟨(ht h0).1, by rw [(ht h0).2]; exact .set T nilS⟩, hk⟩
set_option maxHeartbeats 12800000 in
set_option maxRecDepth 100000 in
theorem atom_is (n : Nat) (heither : NdK 107 .either n) : NdK 155 .atom (n + 1) := by
  intro m hm w g s d b h he hd hp hat hs hf
  simp only [fuelM] at hf
  obtain ⟨m, rfl⟩ : ∃ m', m = m' + 1 := ⟨m - 1, by omega⟩
  obtain ⟨hps, hn124, hn41⟩ := hat rfl
  obtain ⟨r, hr⟩ : ∃ r, runM s (m + 1) .atom d b = r := ⟨_, rfl⟩
  obtain ⟨a, ha⟩ : ∃ a, reM s (m + 1) .atom .no d b = a := ⟨_, rfl⟩
  rw [hr, ha]
  rw [runM] at hr
  rw [reM] at ha
  (try dsimp only at hr ha)
  have hpk : peekM s b = some (byteM s b.pos) := rpeek_of he hps
  have hcl := byteM_lt s b.pos
  obtain ⟨c, hc⟩ : ∃ c, byteM s b.pos = c := ⟨_, rfl⟩
  rw [hc] at hr ha hpk hn124 hn41 hcl
  have HR := Lib.hid hr
  have HA := Lib.hid ha
  have HE := Lib.hid heither
  have hb1 : b.pos + 1 ≤ (stepM b).pos := Nat.le_refl _
  have hb1q : (stepM b).pos ≤ s.size := hps
  have hb1e : (stepM b).err = 0 := he
  have hgl := h.lt
  have hbx := alloc_below w (.cells (zeroN 0) 148)
  have hrx := h.below hbx
  have hth := there_new w 0 148
  have hsx : (w.alloc (.cells (zeroN 0) 148)).heap.size = w.heap.size + 1 := World.size_alloc _ _
  have kf := fun W b (h : RdrAt W g s b) => rfail_is W g s b 2 h
  have kf3 := fun W b (h : RdrAt W g s b) => rfail_is W g s b 3 h
  have KF := Lib.hid kf
  have KF3 := Lib.hid kf3
  have k1 := next_is (w.alloc (.cells (zeroN 0) 148)) g s b _ hpk hrx (by omega)
  have HB0 := Lib.hid hrx
  have HT0 := Lib.hid hth
  have HK0 := Lib.hid (Kr.of_below (g := g) hbx)
  clear hr ha heither hc h hat hpk hbx hrx hth kf kf3
  go_enter Tryz.func155, Tryz.ntmps155
  go_upto_region 1 with (with_reducible refine wpList_allocN rfl rfl _ rfl w.heap.size rfl ?_)
  go_wp2_with fail
  refine k1.mono ?_
  rintro e w1 ⟨rfl, hb⟩
  have c1 := (HB0.out.below hb).c1
  have f1 := there_free (HB0.out.below hb).th 1 (by omega)
  have h2 := (HB0.out.below hb).step
  have h2t := rthere_set (there_later HT0.out hb (by omega)) g 1 (.int .i64 ((b.pos : Int) + 1))
  have h2k := (HK0.out.trans (Kr.of_below (g := g) hb)).trans (Kr.set g w1 1 (.int .i64 ((b.pos : Int) + 1)))
  have h2s : w.heap.size < (w1.setCell ⟨g, 1, none⟩ (.int .i64 ((b.pos : Int) + 1))).heap.size := by rw [World.size_setCell]; have := hb.size; omega
  clear k1 hb HB0 HT0 HK0 hsx
  go_upto_region 3 with fail
  change Code.wp _ _ _ _ (w1.setCell ⟨g, 1, none⟩ (.int .i64 ((b.pos : Int) + 1)))
  clear c1 f1
  obtain ⟨b1, hb1x⟩ : ∃ b1, stepM b = b1 := ⟨_, rfl⟩
  rw [hb1x] at h2 hb1 hb1q hb1e HR HA
  generalize (w1.setCell ⟨g, 1, none⟩ (.int .i64 ((b.pos : Int) + 1))) = w2 at *
  have hca := Ca.new h2 h2t h2k hgl h2s 148
  have HTH : Hid ((w2.alloc (.cells (zeroN 0) 148)).there w2.heap.size 0 258) := Lib.hid (there_new w2 0 148)
  have HC := Lib.hid hca
  clear hca h2 h2t h2k hb1x
  go_upto_region 4 with (first
    | (with_reducible refine wpList_allocN rfl rfl _ rfl w2.heap.size rfl ?_)
    | ((with_reducible refine wpList_buildN rfl _ rfl _ rfl (zeroN 0) ?hf ?_); (case hf => exact node_built0))
    | ((with_reducible refine wpList_storeN rfl _ _ rfl _ rfl w2.heap.size 0 (nodeC 0 noB nilS) ?hx ?hy ?ht (nodeC_len _ _ _) (oneN _ _) ?_); (case hx => rfl); (case hy => rfl); (case ht => exact HTH.out)))
  clear HTH
  generalize w2.heap.size = nb at *
  refine wp_forget2 (fun W => Ca w W nb g s b1 (nodeC 0 noB nilS)) HC.out (fun w3 hw3 => ?_)
  clear HC
  have HC := Lib.hid hw3
  clear hw3
  by_cases e40 : c = 40
  · subst e40
    have hr := HR.out
    have ha := HA.out
    rw [if_pos rfl] at hr ha
    by_cases ed : d = 8
    · subst ed
      rw [if_pos rfl] at hr ha
      subst hr ha
      have kq := KF3.out _ _ HC.out.rdr
      go_wp2_with fail
      refine kq.mono ?_
      rintro e w4 ⟨rfl, hB, hs4⟩
      have H4 := Lib.hid (HC.out.stp hB hs4)
      clear kq hB hs4
      go_wp2_with (first
      | ((with_reducible refine wpList_loadN rfl _ rfl _ rfl nb 0 ?hx (nodeC 0 (noB) nilS) ?hc (nodeC_len _ _ _) ?_); (case hx => rfl); (case hc => exact H4.out.nd.at_))
      | ((with_reducible refine wpList_storeN rfl _ _ rfl _ rfl w.heap.size 0 (nodeC 0 (noB) nilS) ?hx ?hy ?ht (nodeC_len _ _ _) (oneN _ _) ?_); (case hx => rfl); (case hy => rfl); (case ht => exact H4.out.res)))
      refine bodyPost_ret (results_agg1 rfl _ _ w.heap.size (nodeC 0 (noB) nilS) (.struct _) rfl (World.rangeAt_setCells_same _ _ _ _ (by rw [show (nodeC 0 (noB) nilS).length = 258 from nodeC_len _ _ _]; exact H4.out.res)) Tryz.underlying148 rfl (by rw [show (nodeC 0 (noB) nilS).length = 258 from nodeC_len _ _ _]; exact node_size)) rfl ?_
      exact ⟨_, _, rfl, Back.mk1 (H4.out.done _).1 rfl (by rw [failM_pos]; omega) (fun h0 => absurd h0 (failM_err (by decide))) (H4.out.done _).2⟩
    · rw [if_neg ed] at hr ha
      have hd8 : (d : Int) < 8 := by omega
      have hwd : IntKind.i64.wrap ((d : Int) + 1) = (((d + 1 : Nat)) : Int) := by rw [IntWalk.i64_in _ ⟨by omega, by omega⟩]; rfl
      have hke := HE.out m (by omega) w3 g s (d + 1) b1 HC.out.rdr hb1e (by omega) (by omega) (fun h => by cases h) hs (by simp only [fuelM]; omega)
      obtain ⟨rr, hrr⟩ : ∃ rr, runM s m .either (d + 1) b1 = rr := ⟨_, rfl⟩
      rw [hrr] at hr hke
      rw [ha] at hke
      clear hrr
      go_wp2_with fail
      refine hke.mono ?_
      rintro e w4 ⟨cs, b', rfl, hbk⟩
      have H4 := Lib.hid (HC.out.stp hbk.rdr hbk.kr)
      have HBK := Lib.hid hbk
      have hnb3 := HC.out.nd.lt
      have hnbw := HC.out.nb
      have hcl2 := hbk.len
      clear hke hbk
      go_upto_region 10 with ((with_reducible refine wpList_storeN rfl _ _ rfl _ rfl nb 0 cs ?hx ?hy ?ht HBK.out.len HBK.out.one ?_); (case hx => rfl); (case hy => rfl); (case ht => exact H4.out.nd.th))
      have hc5 := H4.out.all cs HBK.out.len
      have ht5 : b'.err = 0 → NA (w4.setCells nb 0 cs) (fun q => w3.heap.size ≤ q ∧ q < w4.heap.size) 0 [cs] a := fun h0 => ((HBK.out.tree h0).2).keep (by rw [size_setCells]; exact Nat.le_refl _) (fun q hq _ => heap_setCells _ _ _ (by omega) _ _)
      have hs5 : (w4.setCells nb 0 cs).heap.size = w4.heap.size := size_setCells _ _ _ _
      have HC5 := Lib.hid hc5
      have HT5 := Lib.hid ht5
      have HBE : Hid (b'.err = rr.1.err ∧ (b'.err = 0 → b'.pos = rr.1.pos) ∧ b'.pos ≤ s.size + 12 - (d + 1)) := Lib.hid ⟨HBK.out.err, fun h0 => (HBK.out.tree h0).1, HBK.out.pos⟩
      have HON := Lib.hid HBK.out.one
      have hbp := HBK.out.pos
      clear hc5 ht5 HBK H4 HC
      generalize (w4.setCells nb 0 cs) = w5 at *
      obtain ⟨o, ho⟩ : ∃ o, peekM s b' = o := ⟨_, rfl⟩
      have k2 := next_is w5 g s b' o ho HC5.out.rdr (by omega)
      have HPK := Lib.hid ((peek_congr (s := s) (b := b') (c := rr.1) HBE.out.1 HBE.out.2.1).symm.trans ho)
      have HO := Lib.hid ho
      clear ho
      go_wp2_with fail
      refine k2.mono ?_
      rintro e w6 ⟨rfl, hb6⟩
      have HC6 := Lib.hid (HC5.out.below hb6)
      have HT6 : Hid (b'.err = 0 → NA w6 (fun q => w.heap.size < q ∧ q < w6.heap.size ∧ q ≠ nb ∧ q ≠ g) 0 [cs] a) := Lib.hid (fun h0 => ((HT5.out h0).later hb6).mono (by
        rintro q ⟨h1, h2⟩
        have := hb6.size
        exact ⟨by omega, by omega, by omega, by omega⟩))
      clear k2 hb6 HC5 HT5
      have HRE : Hid (r.1 = closeM s rr.1) := Lib.hid (by rw [← hr])
      clear hr
      obtain ⟨B, hB⟩ : ∃ B, decide (o ≠ some 41) = B := ⟨_, rfl⟩
      go_upto_region 11 with fail
      go_cut [48] from 43 (fun v wx => v = .bool B ∧ wx = w6)
      case first =>
        rcases o with _ | c2
        · go_wp2
          go_meet
          exact ⟨by rw [← hB]; rfl, rfl⟩
        · by_cases g1 : c2 = 41
          · subst g1
            go_wp2
            go_meet
            exact ⟨by rw [← hB]; rfl, rfl⟩
          · have g1b : ((c2 : Int) != 41) = true := by simp; omega
            go_wp2
            go_meet
            exact ⟨by rw [← hB, decide_eq_true (by simpa using g1)], rfl⟩
      case rest =>
      obtain ⟨rfl, rfl⟩ := hcut
      go_upto_if 48 with fail
      go_cut [] from 43 (fun wx => ∃ bz : Bs, bz.err = (closeM s rr.1).err ∧ bz.pos + 1 ≤ s.size + 12 - d ∧ (bz.err = 0 → bz.pos = rr.1.pos) ∧ Hid (Ca w wx nb g s bz cs) ∧ Hid (bz.err = 0 → NA wx (fun q => w.heap.size < q ∧ q < wx.heap.size ∧ q ≠ nb ∧ q ≠ g) 0 [cs] a))
      case first =>
        cases B with
        | true =>
          have hne : ¬ peekM s rr.1 = some 41 := by rw [HPK.out]; exact of_decide_eq_true hB
          have kq := KF.out _ _ HC6.out.rdr
          clear hB
          go_wp2_with fail
          refine kq.mono ?_
          rintro e w7 ⟨rfl, hB7, hs7⟩
          have H7 := Lib.hid (HC6.out.stp hB7 hs7)
          clear kq hB7 hs7
          go_wp2
          go_meet
          refine ⟨failM b' 2, ?_, ?_, fun h0 => absurd h0 (failM_err (by decide)), H7, Lib.hid (fun h0 => absurd h0 (failM_err (by decide)))⟩
          · unfold closeM
            rw [if_neg hne]
            show _ = (failM rr.1 2).err
            unfold failM
            rw [HBE.out.1]
            split <;> first | rfl | exact HBE.out.1
          · rw [failM_pos]; have := HBE.out.2.2; omega
        | false =>
          have heq : peekM s rr.1 = some 41 := by rw [HPK.out]; have := of_decide_eq_false hB; simpa using this
          clear hB
          go_wp2
          go_meet
          refine ⟨b', ?_, by have := HBE.out.2.2; omega, HBE.out.2.1, HC6, HT6⟩
          unfold closeM
          rw [if_pos heq]
          exact HBE.out.1
      case rest =>
      obtain ⟨bz, hz1, hz2, hz3, HC7, HT7⟩ := hcut
      clear HC6 HT6 hB
      have c1 := HC7.out.rdr.c1
      have f1 := there_free HC7.out.rdr.th 1 (by omega)
      have hgs := HC7.out.rdr.lt
      go_upto_region 14 with fail
      refine wp_forget2 (fun W => Ca w W nb g s (stepM bz) cs ∧ (bz.err = 0 → NA W (fun q => w.heap.size < q ∧ q < W.heap.size ∧ q ≠ nb ∧ q ≠ g) 0 [cs] a)) ⟨HC7.out.step, fun h0 => ((HT7.out h0).keep (by simp) (fun q hq _ => Below.heap_setCell _ _ _ q hq.2.2.2)).mono (fun q hq => ⟨hq.1, by simpa using hq.2.1, hq.2.2⟩)⟩ (fun w8 hw8 => ?_)
      have HC8 := Lib.hid hw8.1
      have HT8 := Lib.hid hw8.2
      clear hw8 HC7 HT7 c1 f1
      go_wp2_with (first
      | ((with_reducible refine wpList_loadN rfl _ rfl _ rfl nb 0 ?hx cs ?hc hcl2 ?_); (case hx => rfl); (case hc => exact HC8.out.nd.at_))
      | ((with_reducible refine wpList_storeN rfl _ _ rfl _ rfl w.heap.size 0 cs ?hx ?hy ?ht hcl2 HON.out ?_); (case hx => rfl); (case hy => rfl); (case ht => exact HC8.out.res)))
      refine bodyPost_ret (results_agg1 rfl _ _ w.heap.size cs (.struct _) rfl (World.rangeAt_setCells_same _ _ _ _ (by rw [show cs.length = 258 from hcl2]; exact HC8.out.res)) Tryz.underlying148 rfl (by rw [show cs.length = 258 from hcl2]; exact node_size)) rfl ?_
      refine ⟨cs, stepM bz, rfl, hcl2, HON.out, (HC8.out.done _).1, ?_, ?_, fun h0 => ⟨?_, ((HT8.out h0).keep (by rw [size_setCells]; exact Nat.le_refl _) (fun q hq _ => heap_setCells _ _ _ (by omega) _ _)).mono (fun q hq => ⟨by omega, by rw [size_setCells]; exact hq.2.1⟩)⟩, (HC8.out.done _).2⟩
      · rw [HRE.out]; exact hz1
      · simp only [stepM]; omega
      · rw [HRE.out, closeM_pos]
        have := hz3 h0
        simp only [stepM]; omega
  · have hr := HR.out
    have ha := HA.out
    rw [if_neg e40] at hr ha
    have e40b : ((c : Int) == 40) = false := by rw [beq_eq_false_iff_ne]; omega
    clear HR HA HE KF3
    by_cases e91 : c = 91
    · subst e91
      rw [if_pos rfl] at hr ha
      subst hr ha
      have kc := rclass_is w3 g s b1 HC.out.rdr (by omega) (by omega)
      go_wp2_with fail
      refine kc.mono ?_
      rintro e w4 ⟨S', b', rfl, h1, h2, h3, h4, hk4⟩
      have H4 := Lib.hid (HC.out.stp h1 hk4)
      clear kc HC h1 hk4
      go_wp2_with (first
      | ((with_reducible refine wpList_loadN rfl _ rfl _ rfl nb 0 ?hx (nodeC 0 (S') nilS) ?hc (nodeC_len _ _ _) ?_); (case hx => rfl); (case hc => exact H4.out.nd.at_))
      | ((with_reducible refine wpList_storeN rfl _ _ rfl _ rfl w.heap.size 0 (nodeC 0 (S') nilS) ?hx ?hy ?ht (nodeC_len _ _ _) (oneN _ _) ?_); (case hx => rfl); (case hy => rfl); (case ht => exact H4.out.res)))
      refine bodyPost_ret (results_agg1 rfl _ _ w.heap.size (nodeC 0 (S') nilS) (.struct _) rfl (World.rangeAt_setCells_same _ _ _ _ (by rw [show (nodeC 0 (S') nilS).length = 258 from nodeC_len _ _ _]; exact H4.out.res)) Tryz.underlying148 rfl (by rw [show (nodeC 0 (S') nilS).length = 258 from nodeC_len _ _ _]; exact node_size)) rfl ?_
      exact ⟨_, b', rfl, Back.mk1 (H4.out.done _).1 h2 (by omega) h4 (H4.out.done _).2⟩
    rw [if_neg e91] at hr ha
    have e91b : ((c : Int) == 91) = false := by rw [beq_eq_false_iff_ne]; omega
    by_cases e46 : c = 46
    · subst e46
      rw [if_pos rfl] at hr ha
      subst hr ha
      go_wp2
      go_loopw [10] (fun v wr => ∃ k : Nat, v = .int .i64 (k : Nat) ∧ k ≤ 256 ∧ Hid (Ca w wr nb g s b1 (nodeC 0 (addU noB 0 k) nilS))) (fun v _ => 257 - (intOf v).toNat)
      case atStart => exact ⟨0, rfl, by omega, Lib.hid (by rw [addU_start]; exact HC.out)⟩
      case round =>
        clear HC
        obtain ⟨k, rfl, hk, HT⟩ := hrel
        by_cases hk2 : k < 256
        · have n1 := HT.out.nd.cell (nodeC_set 0 (addU noB 0 k) nilS k hk2)
          have f1 := HT.out.nd.free (j := 1 + k) (by omega)
          have hki0 : (0 : Int) ≤ (k : Int) := by omega
          have hki1 : (k : Int) < 256 := by omega
          go_wp2
          go_roundw
          case rel => exact ⟨k + 1, by go_num, by omega, Lib.hid (by
            have := HT.out.put (1 + k) (.bool true) (by omega)
            rw [nodeC_setB 0 _ _ k hk2, addU_succ (Nat.zero_le k)] at this
            exact this)⟩
          case measure => (simp [intOf]; try omega)
        · obtain rfl : k = 256 := by omega
          go_wp2_with (first
      | ((with_reducible refine wpList_loadN rfl _ rfl _ rfl nb 0 ?hx (nodeC 0 (addU noB 0 256) nilS) ?hc (nodeC_len _ _ _) ?_); (case hx => rfl); (case hc => exact HT.out.nd.at_))
      | ((with_reducible refine wpList_storeN rfl _ _ rfl _ rfl w.heap.size 0 (nodeC 0 (addU noB 0 256) nilS) ?hx ?hy ?ht (nodeC_len _ _ _) (oneN _ _) ?_); (case hx => rfl); (case hy => rfl); (case ht => exact HT.out.res)))
          refine bodyPost_ret (results_agg1 rfl _ _ w.heap.size (nodeC 0 (addU noB 0 256) nilS) (.struct _) rfl (World.rangeAt_setCells_same _ _ _ _ (by rw [show (nodeC 0 (addU noB 0 256) nilS).length = 258 from nodeC_len _ _ _]; exact HT.out.res)) Tryz.underlying148 rfl (by rw [show (nodeC 0 (addU noB 0 256) nilS).length = 258 from nodeC_len _ _ _]; exact node_size)) rfl ?_
          exact ⟨_, b1, rfl, Back.mk1 (HT.out.done _).1 rfl (by omega) (fun _ => ⟨rfl, dot_all _⟩) (HT.out.done _).2⟩
    rw [if_neg e46] at hr ha
    have e46b : ((c : Int) == 46) = false := by rw [beq_eq_false_iff_ne]; omega
    by_cases e92 : c = 92
    · subst e92
      rw [if_pos rfl] at hr ha
      obtain ⟨o, ho⟩ : ∃ o, peekM s b1 = o := ⟨_, rfl⟩
      have k2 := next_is w3 g s b1 o ho HC.out.rdr (by omega)
      rw [ho] at hr ha
      have hlt : ∀ x, o = some x → x < 256 := fun x hx => rpeek_lt (ho.trans hx)
      clear ho
      go_wp2_with fail
      refine k2.mono ?_
      rintro e w4 ⟨rfl, hb4⟩
      have H4 := Lib.hid (HC.out.below hb4)
      clear k2 hb4 HC
      rcases o with _ | x
      · dsimp only at hr ha
        subst hr ha
        have kq := KF.out _ _ H4.out.rdr
        go_wp2_with fail
        refine kq.mono ?_
        rintro e w5 ⟨rfl, hB5, hs5⟩
        have H5 := Lib.hid (H4.out.stp hB5 hs5)
        have c1 := H5.out.rdr.c1
        have f1 := there_free H5.out.rdr.th 1 (by omega)
        have hp5 : (failM b1 2).pos ≤ b1.pos := by rw [failM_pos]; exact Nat.le_refl _
        clear kq hB5 hs5 H4
        go_upto_region 28 with fail
        refine wp_forget2 (fun W => Ca w W nb g s (stepM (failM b1 2)) (nodeC 0 noB nilS)) H5.out.step (fun w6 hw6 => ?_)
        have H6 := Lib.hid hw6
        clear hw6 H5 c1 f1
        have n1 := H6.out.nd.cell (nodeC_set 0 noB nilS 0 (by omega))
        have f1 := H6.out.nd.free (j := 1) (by omega)
        go_upto_region 29 with fail
        refine wp_forget2 (fun W => Ca w W nb g s (stepM (failM b1 2)) (nodeC 0 (fun x => if x = 0 then true else noB x) nilS)) (by
          have := H6.out.put 1 (.bool true) (by omega)
          rw [show (1 : Nat) = 1 + 0 by rfl, nodeC_setB 0 _ _ 0 (by omega)] at this
          exact this) (fun w7 hw7 => ?_)
        have H7 := Lib.hid hw7
        clear hw7 H6 n1 f1
        go_wp2_with (first
      | ((with_reducible refine wpList_loadN rfl _ rfl _ rfl nb 0 ?hx (nodeC 0 (fun x => if x = 0 then true else noB x) nilS) ?hc (nodeC_len _ _ _) ?_); (case hx => rfl); (case hc => exact H7.out.nd.at_))
      | ((with_reducible refine wpList_storeN rfl _ _ rfl _ rfl w.heap.size 0 (nodeC 0 (fun x => if x = 0 then true else noB x) nilS) ?hx ?hy ?ht (nodeC_len _ _ _) (oneN _ _) ?_); (case hx => rfl); (case hy => rfl); (case ht => exact H7.out.res)))
        refine bodyPost_ret (results_agg1 rfl _ _ w.heap.size (nodeC 0 (fun x => if x = 0 then true else noB x) nilS) (.struct _) rfl (World.rangeAt_setCells_same _ _ _ _ (by rw [show (nodeC 0 (fun x => if x = 0 then true else noB x) nilS).length = 258 from nodeC_len _ _ _]; exact H7.out.res)) Tryz.underlying148 rfl (by rw [show (nodeC 0 (fun x => if x = 0 then true else noB x) nilS).length = 258 from nodeC_len _ _ _]; exact node_size)) rfl ?_
        exact ⟨_, _, rfl, Back.mk1 (H7.out.done _).1 rfl (by simp only [stepM]; omega) (fun h0 => absurd h0 (failM_err (by decide))) (H7.out.done _).2⟩
      · have hx := hlt x rfl
        (try dsimp only at hr ha)
        subst hr ha
        have c1 := H4.out.rdr.c1
        have f1 := there_free H4.out.rdr.th 1 (by omega)
        go_upto_region 28 with fail
        refine wp_forget2 (fun W => Ca w W nb g s (stepM b1) (nodeC 0 noB nilS)) H4.out.step (fun w6 hw6 => ?_)
        have H6 := Lib.hid hw6
        clear hw6 H4 c1 f1
        have n1 := H6.out.nd.cell (nodeC_set 0 noB nilS x hx)
        have f1 := H6.out.nd.free (j := 1 + x) (by omega)
        go_upto_region 29 with fail
        refine wp_forget2 (fun W => Ca w W nb g s (stepM b1) (nodeC 0 (fun y => if y = x then true else noB y) nilS)) (by
          have := H6.out.put (1 + x) (.bool true) (by omega)
          rw [nodeC_setB 0 _ _ x hx] at this
          exact this) (fun w7 hw7 => ?_)
        have H7 := Lib.hid hw7
        clear hw7 H6 n1 f1
        go_wp2_with (first
      | ((with_reducible refine wpList_loadN rfl _ rfl _ rfl nb 0 ?hx (nodeC 0 (fun y => if y = x then true else noB y) nilS) ?hc (nodeC_len _ _ _) ?_); (case hx => rfl); (case hc => exact H7.out.nd.at_))
      | ((with_reducible refine wpList_storeN rfl _ _ rfl _ rfl w.heap.size 0 (nodeC 0 (fun y => if y = x then true else noB y) nilS) ?hx ?hy ?ht (nodeC_len _ _ _) (oneN _ _) ?_); (case hx => rfl); (case hy => rfl); (case ht => exact H7.out.res)))
        refine bodyPost_ret (results_agg1 rfl _ _ w.heap.size (nodeC 0 (fun y => if y = x then true else noB y) nilS) (.struct _) rfl (World.rangeAt_setCells_same _ _ _ _ (by rw [show (nodeC 0 (fun y => if y = x then true else noB y) nilS).length = 258 from nodeC_len _ _ _]; exact H7.out.res)) Tryz.underlying148 rfl (by rw [show (nodeC 0 (fun y => if y = x then true else noB y) nilS).length = 258 from nodeC_len _ _ _]; exact node_size)) rfl ?_
        exact ⟨_, _, rfl, Back.mk1 (H7.out.done _).1 rfl (by simp only [stepM]; omega) (fun _ => ⟨rfl, by rw [oneS_eq]⟩) (H7.out.done _).2⟩
    rw [if_neg e92] at hr ha
    have e92b : ((c : Int) == 92) = false := by rw [beq_eq_false_iff_ne]; omega
    by_cases eo : oddB c = true
    · rw [if_pos eo] at hr ha
      subst hr ha
      have h4 : c = 42 ∨ c = 43 ∨ c = 63 ∨ c = 93 := by
        simp only [oddB, postB, Bool.or_eq_true, decide_eq_true_eq] at eo
        omega
      have hc2 : c < 256 := hcl
      clear eo
      have kq := KF.out _ _ HC.out.rdr
      have hp5 : (failM b1 2).pos ≤ b1.pos := by rw [failM_pos]; exact Nat.le_refl _
      rcases h4 with rfl | rfl | rfl | rfl
      · go_wp2_with fail
        refine kq.mono ?_
        rintro e w5 ⟨rfl, hB5, hs5⟩
        have H5 := Lib.hid (HC.out.stp hB5 hs5)
        clear kq hB5 hs5 HC
        have n1 := H5.out.nd.cell (nodeC_set 0 noB nilS 42 (by omega))
        have f1 := H5.out.nd.free (j := 1 + 42) (by omega)
        simp only [Nat.reduceAdd] at n1 f1
        go_upto_region 36 with fail
        refine wp_forget2 (fun W => Ca w W nb g s (failM b1 2) (nodeC 0 (fun x => if x = 42 then true else noB x) nilS)) (by
          have := H5.out.put (1 + 42) (.bool true) (by omega)
          rw [nodeC_setB 0 _ _ 42 (by omega)] at this
          exact this) (fun w7 hw7 => ?_)
        have H7 := Lib.hid hw7
        clear hw7 H5 n1 f1
        go_wp2_with (first
      | ((with_reducible refine wpList_loadN rfl _ rfl _ rfl nb 0 ?hx (nodeC 0 (fun x => if x = 42 then true else noB x) nilS) ?hc (nodeC_len _ _ _) ?_); (case hx => rfl); (case hc => exact H7.out.nd.at_))
      | ((with_reducible refine wpList_storeN rfl _ _ rfl _ rfl w.heap.size 0 (nodeC 0 (fun x => if x = 42 then true else noB x) nilS) ?hx ?hy ?ht (nodeC_len _ _ _) (oneN _ _) ?_); (case hx => rfl); (case hy => rfl); (case ht => exact H7.out.res)))
        refine bodyPost_ret (results_agg1 rfl _ _ w.heap.size (nodeC 0 (fun x => if x = 42 then true else noB x) nilS) (.struct _) rfl (World.rangeAt_setCells_same _ _ _ _ (by rw [show (nodeC 0 (fun x => if x = 42 then true else noB x) nilS).length = 258 from nodeC_len _ _ _]; exact H7.out.res)) Tryz.underlying148 rfl (by rw [show (nodeC 0 (fun x => if x = 42 then true else noB x) nilS).length = 258 from nodeC_len _ _ _]; exact node_size)) rfl ?_
        exact ⟨_, _, rfl, Back.mk1 (H7.out.done _).1 rfl (by omega) (fun h0 => absurd h0 (failM_err (by decide))) (H7.out.done _).2⟩
      · go_wp2_with fail
        refine kq.mono ?_
        rintro e w5 ⟨rfl, hB5, hs5⟩
        have H5 := Lib.hid (HC.out.stp hB5 hs5)
        clear kq hB5 hs5 HC
        have n1 := H5.out.nd.cell (nodeC_set 0 noB nilS 43 (by omega))
        have f1 := H5.out.nd.free (j := 1 + 43) (by omega)
        simp only [Nat.reduceAdd] at n1 f1
        go_upto_region 36 with fail
        refine wp_forget2 (fun W => Ca w W nb g s (failM b1 2) (nodeC 0 (fun x => if x = 43 then true else noB x) nilS)) (by
          have := H5.out.put (1 + 43) (.bool true) (by omega)
          rw [nodeC_setB 0 _ _ 43 (by omega)] at this
          exact this) (fun w7 hw7 => ?_)
        have H7 := Lib.hid hw7
        clear hw7 H5 n1 f1
        go_wp2_with (first
      | ((with_reducible refine wpList_loadN rfl _ rfl _ rfl nb 0 ?hx (nodeC 0 (fun x => if x = 43 then true else noB x) nilS) ?hc (nodeC_len _ _ _) ?_); (case hx => rfl); (case hc => exact H7.out.nd.at_))
      | ((with_reducible refine wpList_storeN rfl _ _ rfl _ rfl w.heap.size 0 (nodeC 0 (fun x => if x = 43 then true else noB x) nilS) ?hx ?hy ?ht (nodeC_len _ _ _) (oneN _ _) ?_); (case hx => rfl); (case hy => rfl); (case ht => exact H7.out.res)))
        refine bodyPost_ret (results_agg1 rfl _ _ w.heap.size (nodeC 0 (fun x => if x = 43 then true else noB x) nilS) (.struct _) rfl (World.rangeAt_setCells_same _ _ _ _ (by rw [show (nodeC 0 (fun x => if x = 43 then true else noB x) nilS).length = 258 from nodeC_len _ _ _]; exact H7.out.res)) Tryz.underlying148 rfl (by rw [show (nodeC 0 (fun x => if x = 43 then true else noB x) nilS).length = 258 from nodeC_len _ _ _]; exact node_size)) rfl ?_
        exact ⟨_, _, rfl, Back.mk1 (H7.out.done _).1 rfl (by omega) (fun h0 => absurd h0 (failM_err (by decide))) (H7.out.done _).2⟩
      · go_wp2_with fail
        refine kq.mono ?_
        rintro e w5 ⟨rfl, hB5, hs5⟩
        have H5 := Lib.hid (HC.out.stp hB5 hs5)
        clear kq hB5 hs5 HC
        have n1 := H5.out.nd.cell (nodeC_set 0 noB nilS 63 (by omega))
        have f1 := H5.out.nd.free (j := 1 + 63) (by omega)
        simp only [Nat.reduceAdd] at n1 f1
        go_upto_region 36 with fail
        refine wp_forget2 (fun W => Ca w W nb g s (failM b1 2) (nodeC 0 (fun x => if x = 63 then true else noB x) nilS)) (by
          have := H5.out.put (1 + 63) (.bool true) (by omega)
          rw [nodeC_setB 0 _ _ 63 (by omega)] at this
          exact this) (fun w7 hw7 => ?_)
        have H7 := Lib.hid hw7
        clear hw7 H5 n1 f1
        go_wp2_with (first
      | ((with_reducible refine wpList_loadN rfl _ rfl _ rfl nb 0 ?hx (nodeC 0 (fun x => if x = 63 then true else noB x) nilS) ?hc (nodeC_len _ _ _) ?_); (case hx => rfl); (case hc => exact H7.out.nd.at_))
      | ((with_reducible refine wpList_storeN rfl _ _ rfl _ rfl w.heap.size 0 (nodeC 0 (fun x => if x = 63 then true else noB x) nilS) ?hx ?hy ?ht (nodeC_len _ _ _) (oneN _ _) ?_); (case hx => rfl); (case hy => rfl); (case ht => exact H7.out.res)))
        refine bodyPost_ret (results_agg1 rfl _ _ w.heap.size (nodeC 0 (fun x => if x = 63 then true else noB x) nilS) (.struct _) rfl (World.rangeAt_setCells_same _ _ _ _ (by rw [show (nodeC 0 (fun x => if x = 63 then true else noB x) nilS).length = 258 from nodeC_len _ _ _]; exact H7.out.res)) Tryz.underlying148 rfl (by rw [show (nodeC 0 (fun x => if x = 63 then true else noB x) nilS).length = 258 from nodeC_len _ _ _]; exact node_size)) rfl ?_
        exact ⟨_, _, rfl, Back.mk1 (H7.out.done _).1 rfl (by omega) (fun h0 => absurd h0 (failM_err (by decide))) (H7.out.done _).2⟩
      · go_wp2_with fail
        refine kq.mono ?_
        rintro e w5 ⟨rfl, hB5, hs5⟩
        have H5 := Lib.hid (HC.out.stp hB5 hs5)
        clear kq hB5 hs5 HC
        have n1 := H5.out.nd.cell (nodeC_set 0 noB nilS 93 (by omega))
        have f1 := H5.out.nd.free (j := 1 + 93) (by omega)
        simp only [Nat.reduceAdd] at n1 f1
        go_upto_region 36 with fail
        refine wp_forget2 (fun W => Ca w W nb g s (failM b1 2) (nodeC 0 (fun x => if x = 93 then true else noB x) nilS)) (by
          have := H5.out.put (1 + 93) (.bool true) (by omega)
          rw [nodeC_setB 0 _ _ 93 (by omega)] at this
          exact this) (fun w7 hw7 => ?_)
        have H7 := Lib.hid hw7
        clear hw7 H5 n1 f1
        go_wp2_with (first
      | ((with_reducible refine wpList_loadN rfl _ rfl _ rfl nb 0 ?hx (nodeC 0 (fun x => if x = 93 then true else noB x) nilS) ?hc (nodeC_len _ _ _) ?_); (case hx => rfl); (case hc => exact H7.out.nd.at_))
      | ((with_reducible refine wpList_storeN rfl _ _ rfl _ rfl w.heap.size 0 (nodeC 0 (fun x => if x = 93 then true else noB x) nilS) ?hx ?hy ?ht (nodeC_len _ _ _) (oneN _ _) ?_); (case hx => rfl); (case hy => rfl); (case ht => exact H7.out.res)))
        refine bodyPost_ret (results_agg1 rfl _ _ w.heap.size (nodeC 0 (fun x => if x = 93 then true else noB x) nilS) (.struct _) rfl (World.rangeAt_setCells_same _ _ _ _ (by rw [show (nodeC 0 (fun x => if x = 93 then true else noB x) nilS).length = 258 from nodeC_len _ _ _]; exact H7.out.res)) Tryz.underlying148 rfl (by rw [show (nodeC 0 (fun x => if x = 93 then true else noB x) nilS).length = 258 from nodeC_len _ _ _]; exact node_size)) rfl ?_
        exact ⟨_, _, rfl, Back.mk1 (H7.out.done _).1 rfl (by omega) (fun h0 => absurd h0 (failM_err (by decide))) (H7.out.done _).2⟩
    · rw [if_neg eo] at hr ha
      subst hr ha
      have g1 : ((c : Int) == 42) = false := by rw [beq_eq_false_iff_ne]; intro h; apply eo; simp [oddB, postB]; omega
      have g2 : ((c : Int) == 43) = false := by rw [beq_eq_false_iff_ne]; intro h; apply eo; simp [oddB, postB]; omega
      have g3 : ((c : Int) == 63) = false := by rw [beq_eq_false_iff_ne]; intro h; apply eo; simp [oddB, postB]; omega
      have g4 : ((c : Int) == 93) = false := by rw [beq_eq_false_iff_ne]; intro h; apply eo; simp [oddB, postB]; omega
      have n1 := HC.out.nd.cell (nodeC_set 0 noB nilS c hcl)
      have f1 := HC.out.nd.free (j := 1 + c) (by omega)
      clear eo
      go_upto_region 36 with fail
      refine wp_forget2 (fun W => Ca w W nb g s b1 (nodeC 0 (fun y => if y = c then true else noB y) nilS)) (by
        have := HC.out.put (1 + c) (.bool true) (by omega)
        rw [nodeC_setB 0 _ _ c hcl] at this
        exact this) (fun w7 hw7 => ?_)
      have H7 := Lib.hid hw7
      clear hw7 n1 f1
      go_wp2_with (first
      | ((with_reducible refine wpList_loadN rfl _ rfl _ rfl nb 0 ?hx (nodeC 0 (fun y => if y = c then true else noB y) nilS) ?hc (nodeC_len _ _ _) ?_); (case hx => rfl); (case hc => exact H7.out.nd.at_))
      | ((with_reducible refine wpList_storeN rfl _ _ rfl _ rfl w.heap.size 0 (nodeC 0 (fun y => if y = c then true else noB y) nilS) ?hx ?hy ?ht (nodeC_len _ _ _) (oneN _ _) ?_); (case hx => rfl); (case hy => rfl); (case ht => exact H7.out.res)))
      refine bodyPost_ret (results_agg1 rfl _ _ w.heap.size (nodeC 0 (fun y => if y = c then true else noB y) nilS) (.struct _) rfl (World.rangeAt_setCells_same _ _ _ _ (by rw [show (nodeC 0 (fun y => if y = c then true else noB y) nilS).length = 258 from nodeC_len _ _ _]; exact H7.out.res)) Tryz.underlying148 rfl (by rw [show (nodeC 0 (fun y => if y = c then true else noB y) nilS).length = 258 from nodeC_len _ _ _]; exact node_size)) rfl ?_
      exact ⟨_, _, rfl, Back.mk1 (H7.out.done _).1 rfl (by omega) (fun _ => ⟨rfl, by rw [oneS_eq]⟩) (H7.out.done _).2⟩
end Go.Proofs.YtcfococinllcmaaGreat

/- The reference's Read: a contract. -/
namespace Go.Proofs.YtcfococinllcmaaGreat
open Go.RowKit
theorem nd_all : ∀ n, NdK 107 .either n ∧ NdK 129 .row n ∧ NdK 155 .atom n
  | 0 => ⟨fun m hm w g s d b _ _ _ _ _ _ hf => by simp only [fuelM] at hf; omega, fun m hm w g s d b _ _ _ _ _ _ hf => by simp only [fuelM] at hf; omega, fun m hm w g s d b _ _ _ _ _ _ hf => by simp only [fuelM] at hf; omega⟩
  | n + 1 => ⟨either_is n (nd_all n).2.1, row_is n (nd_all n).2.2, atom_is n (nd_all n).1⟩
structure Rz (w wx : World) (nb : Nat) (s : ByteArray) (b : Bs) (cs : List Value) (ok : Prop) (a : Re) : Prop where
  rdr : RdrAt wx (w.heap.size + 1) s b
  nd : NdAt wx nb cs
  res : wx.there w.heap.size 0 258
  bl : Below w.heap.size w wx
  hn : w.heap.size + 1 < nb
  one : ∀ y ∈ cs, y.oneCell' = true
  tree : ok → NA wx (fun q => w.heap.size + 2 ≤ q ∧ q < wx.heap.size) 0 [cs] a
theorem Rz.below {w wx wy : World} {nb : Nat} {s : ByteArray} {b : Bs} {cs : List Value} {ok : Prop} {a : Re} (h : Rz w wx nb s b cs ok a) (hb : Below wx.heap.size wx wy) : Rz w wy nb s b cs ok a :=
  ⟨h.rdr.below hb, h.nd.later hb, there_later h.res hb (by have := h.nd.lt; have := h.hn; omega), h.bl.trans (hb.mono h.bl.size), h.hn, h.one, fun o => ((h.tree o).later hb).mono (fun _ hq => ⟨hq.1, by have := hb.size; omega⟩)⟩
theorem Rz.stp {w wx wy : World} {nb : Nat} {s : ByteArray} {b b' : Bs} {cs : List Value} {ok : Prop} {a : Re} (h : Rz w wx nb s b cs ok a) (hr : RdrAt wy (w.heap.size + 1) s b') (hk : Kr (w.heap.size + 1) wx wy) : Rz w wy nb s b' cs ok a :=
  ⟨hr, h.nd.kr hk (by have := h.hn; omega), there_kept h.res (hk.block _ (by have := h.nd.lt; have := h.hn; omega) (by omega)), h.bl.trans (hk.below h.bl.size (fun k e => by omega)), h.hn, h.one, fun o => ((h.tree o).keep hk.size (fun q hq hlt => hk.block q hlt (by omega))).mono (fun _ hq => ⟨hq.1, by have := hk.size; omega⟩)⟩
theorem Rz.fin {w wx : World} {nb : Nat} {s : ByteArray} {b : Bs} {cs : List Value} {ok : Prop} {a : Re} (h : Rz w wx nb s b cs ok a) (vs : List Value) : RdrAt (wx.setCells w.heap.size 0 vs) (w.heap.size + 1) s b ∧ Below w.heap.size w (wx.setCells w.heap.size 0 vs) ∧ (ok → NA (wx.setCells w.heap.size 0 vs) (fun q => w.heap.size ≤ q ∧ q < (wx.setCells w.heap.size 0 vs).heap.size) 0 [cs] a) :=
  ⟨h.rdr.kept (by rw [size_setCells]; exact Nat.le_refl _) (heap_setCells _ _ _ (by omega) _ _), below_puts h.bl (Nat.le_refl _) vs, fun o => ((h.tree o).keep (w' := wx.setCells w.heap.size 0 vs) (by rw [size_setCells]; exact Nat.le_refl _) (fun q hq _ => heap_setCells _ _ _ (by omega) _ _)).mono (fun q hq => ⟨by omega, by rw [size_setCells]; exact hq.2⟩)⟩
theorem endR_err {s : ByteArray} {b : Bs} (he : b.err = (runR s).1.err) (hp : b.err = 0 → b.pos = (runR s).1.pos) : (endR s).err = if b.err = 0 ∧ b.pos < s.size then 2 else b.err := by
  unfold endR
  by_cases h0 : b.err = 0
  · rw [← hp h0]
    by_cases h1 : b.pos < s.size
    · rw [if_pos h1, if_pos ⟨h0, h1⟩]
      unfold failM
      rw [← he, if_pos h0]
    · rw [if_neg h1, if_neg (fun h => h1 h.2)]
      exact he.symm
  · have hn : ¬ (b.err = 0 ∧ b.pos < s.size) := fun h => h0 h.1
    rw [if_neg hn, he]
    split
    · unfold failM
      rw [← he, if_neg h0]
      exact he.symm
    · rfl
set_option maxHeartbeats 6400000 in
set_option maxRecDepth 100000 in
theorem rread_any (s : ByteArray) (w : World) :
    Calls Tryz.prog 88 #[.string s] w fun e w' => ∃ cs, e = .returned (.tuple #[.agg cs.toArray, .int .i64 (errM s)]) ∧ cs.length = 258 ∧ (∀ y ∈ cs, y.oneCell' = true) ∧ (errM s = 0 → NA w' (fun q => w.heap.size ≤ q ∧ q < w'.heap.size) 0 [cs] (reT s)) ∧ Below w.heap.size w w' := by
  have hT := there_new w 0 148
  have hB := alloc_below w (.cells (zeroN 0) 148)
  by_cases hl : 100 < s.size
  · have hl1 : (100 : Int) < (s.size : Int) := by omega
    have HE : Hid (errM s = 4) := Lib.hid (by unfold errM; rw [if_pos hl])
    have HT := Lib.hid hT
    have HB := Lib.hid hB
    clear hT hB
    go_enter Tryz.func88, Tryz.ntmps88
    go_wp2_with (first
      | (with_reducible refine wpList_allocN rfl rfl _ rfl w.heap.size rfl ?_)
      | ((with_reducible refine wpList_storeN rfl _ _ rfl _ rfl w.heap.size 0 (nodeC 0 noB nilS) ?hx ?hy ?ht (nodeC_len _ _ _) (oneN _ _) ?_); (case hx => rfl); (case hy => rfl); (case ht => exact HT.out)))
    refine bodyPost_ret (results_agg2 rfl _ _ w.heap.size (nodeC 0 noB nilS) (.struct _) rfl (World.rangeAt_setCells_same _ _ _ _ (by rw [nodeC_len]; exact HT.out)) Tryz.underlying148 rfl (by rw [nodeC_len]; exact node_size)) rfl ?_
    refine ⟨nodeC 0 noB nilS, ?_, nodeC_len _ _ _, oneN _ _, fun h0 => ?_, below_puts HB.out (Nat.le_refl _) _⟩
    · rw [HE.out]; rfl
    · rw [HE.out] at h0; exact absurd h0 (by decide)
  · have hl1 : (s.size : Int) ≤ 100 := by omega
    have HL : Hid (¬ 100 < s.size) := Lib.hid hl
    have HEE : Hid (errM s = (endR s).err) := Lib.hid (by unfold errM; rw [if_neg hl])
    have hb2 := hB.trans ((alloc_below (w.alloc (.cells (zeroN 0) 148)) (.cells #[.string s, .int .i64 0, .int .i64 0] 167)).mono hB.size)
    have hsz : ((w.alloc (.cells (zeroN 0) 148)).alloc (.cells #[.string s, .int .i64 0, .int .i64 0] 167)).heap.size = w.heap.size + 2 := by rw [World.size_alloc, World.size_alloc]
    have hrd : RdrAt ((w.alloc (.cells (zeroN 0) 148)).alloc (.cells #[.string s, .int .i64 0, .int .i64 0] 167)) (w.heap.size + 1) s bs0 := by
      have hr := Below.refl ((w.alloc (.cells (zeroN 0) 148)).alloc (.cells #[.string s, .int .i64 0, .int .i64 0] 167)).heap.size ((w.alloc (.cells (zeroN 0) 148)).alloc (.cells #[.string s, .int .i64 0, .int .i64 0] 167))
      have h0 := (box_cells hr).1 0 _ rfl
      have h1 := (box_cells hr).1 1 _ rfl
      have h2 := (box_cells hr).1 2 _ rfl
      have ht := box_there hr
      rw [World.size_alloc] at h0 h1 h2 ht
      exact ⟨h0, h1, h2, ht, by rw [hsz]; omega⟩
    have ht2 := there_later hT (alloc_below _ (.cells #[.string s, .int .i64 0, .int .i64 0] 167)) (by rw [World.size_alloc]; omega)
    obtain ⟨W2, hW2⟩ : ∃ W2, ((w.alloc (.cells (zeroN 0) 148)).alloc (.cells #[.string s, .int .i64 0, .int .i64 0] 167)) = W2 := ⟨_, rfl⟩
    rw [hW2] at hb2 hsz hrd ht2
    have ke := (nd_all (8 * s.size + 5)).1 _ (Nat.le_refl _) W2 (w.heap.size + 1) s 0 bs0 hrd rfl (by omega) (by simp [bs0]) (fun h => by cases h) (by omega) (by simp [fuelM, bs0])
    have HB2 := Lib.hid hb2
    have HT2 := Lib.hid ht2
    clear hb2 hrd ht2 hT hB
    go_enter Tryz.func88, Tryz.ntmps88
    go_upto_region 4 with (with_reducible refine wpList_allocN rfl rfl _ rfl w.heap.size rfl ?_)
    (try simp only [World.size_alloc])
    (try rw [hW2])
    clear hW2
    go_wp2_with fail
    refine ke.mono ?_
    rintro e w3 ⟨cs, b', rfl, hbk⟩
    have hn3 := NdAt.new w3 0 148
    have hs3 := hbk.kr.size
    have hrz : Rz w ((w3.alloc (.cells (zeroN 0) 148)).setCells w3.heap.size 0 cs) w3.heap.size s b' cs (b'.err = 0) (reT s) := by
      have hba := alloc_below w3 (.cells (zeroN 0) 148)
      have hbl3 : Below w.heap.size w w3 := HB2.out.trans (hbk.kr.below HB2.out.size (fun k e => by omega))
      have hlt := hbk.rdr.lt
      refine ⟨(hbk.rdr.below hba).kept (by rw [size_setCells]; exact Nat.le_refl _) (heap_setCells _ _ _ (by omega) _ _), hn3.stored hbk.len, there_kept (there_later (there_kept HT2.out (hbk.kr.block _ (by omega) (by omega))) hba (by omega)) (heap_setCells _ _ _ (by omega) _ _), below_puts (hbl3.trans (hba.mono hbl3.size)) (by omega) _, by omega, hbk.one, fun h0 => ?_⟩
      refine (((hbk.tree h0).2.later hba).keep (w' := (w3.alloc (.cells (zeroN 0) 148)).setCells w3.heap.size 0 cs) (by rw [size_setCells]; exact Nat.le_refl _) (fun q hq _ => heap_setCells _ _ _ (by omega) _ _)).mono (fun q hq => ⟨by omega, by rw [size_setCells, World.size_alloc]; omega⟩)
    have HTH := Lib.hid hn3.th
    have HLN := Lib.hid hbk.len
    have HON := Lib.hid hbk.one
    have HEN := Lib.hid (endR_err hbk.err (fun h0 => (hbk.tree h0).1))
    have hbp := hbk.pos
    clear ke hbk hn3 hs3 hsz HB2 HT2
    go_upto_region 5 with (first
      | (with_reducible refine wpList_allocN rfl rfl _ rfl w3.heap.size rfl ?_)
      | ((with_reducible refine wpList_storeN rfl _ _ rfl _ rfl w3.heap.size 0 cs ?hx ?hy ?ht HLN.out HON.out ?_); (case hx => rfl); (case hy => rfl); (case ht => exact HTH.out)))
    clear HTH
    (try simp only [Act.put, List.setIfInBounds_toArray, List.set_cons_zero, List.set_cons_succ])
    generalize ((w3.alloc (.cells (zeroN 0) 148)).setCells w3.heap.size 0 cs) = w4 at *
    generalize w3.heap.size = nb at *
    have HZ := Lib.hid hrz
    clear hrz
    obtain ⟨B, hB⟩ : ∃ B, decide (b'.err = 0 ∧ b'.pos < s.size) = B := ⟨_, rfl⟩
    have HBB := Lib.hid hB
    clear hB
    go_cut [31] from 32 (fun v wx => v = .bool B ∧ Hid (Rz w wx nb s b' cs (b'.err = 0) (reT s)))
    case first =>
      have c0 := HZ.out.rdr.c0
      have c1 := HZ.out.rdr.c1
      have c2 := HZ.out.rdr.c2
      by_cases h0 : b'.err = 0
      · have hpe : decide (b'.pos < s.size) = B := by rw [← HBB.out]; exact decide_eq_decide.2 ⟨fun h => ⟨h0, h⟩, fun h => h.2⟩
        have hpi : decide ((b'.pos : Int) < (s.size : Int)) = B := by rw [← hpe]; exact decide_eq_decide.2 (by omega)
        rw [h0] at c2
        have HPE := Lib.hid hpe
        clear hpe h0
        go_big_quiet (fail)
        go_wp2
        go_meet
        exact ⟨by first | rfl | exact congrArg Value.bool HPE.out, Lib.hid (HZ.out.below (bl_drewN (Below.refl _ _) _))⟩
      · have hbf : false = B := by rw [← HBB.out]; exact (decide_eq_false (fun h => h0 h.1)).symm
        have h0b : (b'.err == 0) = false := by rw [beq_eq_false_iff_ne]; exact h0
        clear h0
        subst hbf
        go_big_quiet (fail)
        go_wp2
        go_meet
        exact ⟨rfl, Lib.hid (HZ.out.below (bl_drewN (Below.refl _ _) _))⟩
    case rest =>
    obtain ⟨rfl, HY⟩ := hcut
    clear HZ
    go_upto_if 31 with fail
    go_cut [] from 32 (fun wx => ∃ bz : Bs, bz.err = errM s ∧ Hid (Rz w wx nb s bz cs (errM s = 0) (reT s)))
    case first =>
      cases B with
      | true =>
        have h1 := of_decide_eq_true HBB.out
        have kq := rfail_is wc (w.heap.size + 1) s b' 2 HY.out.rdr
        go_wp2_with fail
        refine kq.mono ?_
        rintro e w5 ⟨rfl, hB5, hs5⟩
        have hz := HY.out.stp hB5 hs5
        clear kq
        go_wp2
        go_meet
        have he : errM s = 2 := by rw [HEE.out, HEN.out, if_pos h1]
        refine ⟨failM b' 2, ?_, Lib.hid ⟨hz.rdr, hz.nd, hz.res, hz.bl, hz.hn, hz.one, fun h0 => absurd (he.symm.trans h0) (by decide)⟩⟩
        rw [he]
        unfold failM
        rw [if_pos h1.1]
      | false =>
        have h1 := of_decide_eq_false HBB.out
        go_wp2
        go_meet
        have he : errM s = b'.err := by rw [HEE.out, HEN.out, if_neg h1]
        exact ⟨b', he.symm, Lib.hid (by rw [he]; exact HY.out)⟩
    case rest =>
    obtain ⟨bz, hbz, HX⟩ := hcut
    have HBZ := Lib.hid hbz
    clear HY HBB hbz
    have c2 := HX.out.rdr.c2
    by_cases h0 : bz.err = 0
    · have HE0 : Hid (errM s = 0) := Lib.hid (HBZ.out.symm.trans h0)
      rw [h0] at c2
      go_wp2_with (first
        | ((with_reducible refine wpList_loadN rfl _ rfl _ rfl nb 0 ?hx cs ?hc HLN.out ?_); (case hx => rfl); (case hc => exact HX.out.nd.at_))
        | ((with_reducible refine wpList_storeN rfl _ _ rfl _ rfl w.heap.size 0 cs ?hx ?hy ?ht HLN.out HON.out ?_); (case hx => rfl); (case hy => rfl); (case ht => exact HX.out.res)))
      refine bodyPost_ret (results_agg2 rfl _ _ w.heap.size cs (.struct _) rfl (World.rangeAt_setCells_same _ _ _ _ (by rw [HLN.out]; exact HX.out.res)) Tryz.underlying148 rfl (by rw [HLN.out]; exact node_size)) rfl ?_
      have hf := HX.out.fin cs
      exact ⟨cs, by rw [HE0.out]; rfl, HLN.out, HON.out, fun h => hf.2.2 h, hf.2.1⟩
    · have h0b : (bz.err != 0) = true := by simpa using h0
      have HNE : Hid (¬ errM s = 0) := Lib.hid (fun h => h0 (HBZ.out.trans h))
      clear h0
      have HXD := Lib.hid (HX.out.below ((Below.refl _ _).drew))
      go_upto_region 8 with fail
      refine wp_region_held_drew (S := (fun W => W.cell? ⟨w.heap.size + 1, 2, none⟩ = some (.int .i64 bz.err))) (by kernel_rfl) HX.out.rdr.c2 (fun hHeld => ?_)
      refine held_take (i := 0) (v := ?_) rfl rfl (by kernel_rfl) (by kernel_rfl) (by kernel_rfl) (fun _ _ _ h => h) (by rfl) hHeld ?_ ?_
      rotate_left
      · rintro wh hS
        go_simp
        (try with_reducible rfl)
      simp only [Act.put, List.setIfInBounds_toArray, List.set_cons_zero, List.set_cons_succ]
      refine held_take (i := 1) (v := ?_) rfl rfl (by kernel_rfl) (by kernel_rfl) (by kernel_rfl) (fun _ _ _ h => h) (by rfl) hHeld ?_ ?_
      rotate_left
      · rintro wh hS
        go_simp
        (try with_reducible rfl)
      simp only [Act.put, List.setIfInBounds_toArray, List.set_cons_zero, List.set_cons_succ]
      refine held_take (i := 2) (v := ?_) rfl rfl (by kernel_rfl) (by kernel_rfl) (by kernel_rfl) (fun _ _ _ h => h) (by rfl) hHeld ?_ ?_
      rotate_left
      · rintro wh hS
        go_simp
        (try with_reducible rfl)
      simp only [Act.put, List.setIfInBounds_toArray, List.set_cons_zero, List.set_cons_succ]
      refine held_take (i := 3) (v := ?_) rfl rfl (by kernel_rfl) (by kernel_rfl) (by kernel_rfl) (fun _ _ _ h => h) (by rfl) hHeld ?_ ?_
      rotate_left
      · rintro wh hS
        go_simp
        (try with_reducible rfl)
      simp only [Act.put, List.setIfInBounds_toArray, List.set_cons_zero, List.set_cons_succ]
      refine held_take (i := 4) (v := ?_) rfl rfl (by kernel_rfl) (by kernel_rfl) (by kernel_rfl) (fun _ _ _ h => h) (by rfl) hHeld ?_ ?_
      rotate_left
      · rintro wh hS
        go_simp
        (try with_reducible rfl)
      simp only [Act.put, List.setIfInBounds_toArray, List.set_cons_zero, List.set_cons_succ]
      refine held_step (i := 5) rfl (by kernel_rfl) (fun K hK => ?_)
      rw [if_pos (by rfl)]; refine wp_store_mid 148 _ _ rfl w.heap.size 0 (nodeC 0 noB nilS).toArray ?hx ?hy ?ht ?hi ?h1 ?_; (case hx => rfl); (case hy => rfl); (case ht => simp only [List.size_toArray, nodeC_len]; exact HXD.out.res); (case hi => simp only [List.size_toArray, nodeC_len]; exact node_size); (case h1 => exact all_oneCell_toArray (oneN 0 noB)); simp only [List.getElem_toArray, List.getElem_cons_succ, List.getElem_cons_zero, Act.put]
      refine hK.out _ _ (HXD.out.fin (nodeC 0 noB nilS)).1.c2 (fun hHeld => ?_)
      clear hK K
      (try simp only [Act.put, List.setIfInBounds_toArray])
      refine held_take (i := 6) (v := ?_) rfl rfl (by kernel_rfl) (by kernel_rfl) (by kernel_rfl) (fun _ _ _ h => h) (by rfl) hHeld ?_ ?_
      rotate_left
      · rintro wh hS
        go_simp
        (try with_reducible rfl)
      simp only [Act.put, List.setIfInBounds_toArray, List.set_cons_zero, List.set_cons_succ]
      refine wpAnyH_done (by kernel_rfl) ?_ _
      go_wp2
      refine bodyPost_ret (results_agg2 rfl _ _ w.heap.size (nodeC 0 noB nilS) (.struct _) rfl (World.rangeAt_setCells_same _ _ _ _ (by rw [nodeC_len]; exact HXD.out.res)) Tryz.underlying148 rfl (by rw [nodeC_len]; exact node_size)) rfl ?_
      have hf := HXD.out.fin (nodeC 0 noB nilS)
      exact ⟨nodeC 0 noB nilS, by rw [← HBZ.out]; rfl, nodeC_len _ _ _, oneN _ _, fun h => absurd h HNE.out, hf.2.1⟩
end Go.Proofs.YtcfococinllcmaaGreat

/- Rows of Booleans; lychgateref05.both: a contract. -/
namespace Go.Proofs.YtcfococinllcmaaGreat
open Go.RowKit
theorem wp_forget3 {Pr : Program} {Q : Exit → Act → World → Prop} {c : Code} {a : Act} {W : World} (P : World → Prop) (h : P W) (k : ∀ W', P W' → Code.wp Pr c Q a W') : Code.wp Pr c Q a W := k W h
def BsAt (w : World) (v : Value) (n : Nat) (X : Nat → Bool) : Prop := ∃ b, v = .slice (some ⟨b, 0, none⟩) n n ∧ w.rowIs b 4 n (fun j => .bool (X j))
theorem BsAt.later {w w' : World} {v : Value} {n : Nat} {X : Nat → Bool} (h : BsAt w v n X) (hb : Below w.heap.size w w') : BsAt w' v n X := by
  obtain ⟨b, e, hr⟩ := h
  exact ⟨b, e, hr.of_block (hb.block b hr.lt)⟩
theorem BsAt.congr {w : World} {v : Value} {n : Nat} {X Y : Nat → Bool} (h : BsAt w v n X) (e : ∀ j, j < n → X j = Y j) : BsAt w v n Y := by
  obtain ⟨b, e1, hr⟩ := h
  exact ⟨b, e1, hr.congr (fun j hj => by rw [e j hj])⟩
theorem info_bool : (Tryz.prog.info? 4).map (fun i => (i.zero, i.size, i.bytes)) = some (some (.bool false), 1, 1) := by kernel_rfl
theorem bs_made (w : World) (n : Nat) : (w.alloc (.cells (madeCells #[.bool false] n) 4)).rowIs w.heap.size 4 n (fun j => .bool ((fun _ => false) j)) := World.rowIs_made w (.bool false) n _
theorem bs_put {w : World} {b : Nat} {n : Nat} {X : Nat → Bool} (h : w.rowIs b 4 n (fun j => .bool (X j))) (i : Nat) (v : Bool) : (w.setCell ⟨b, i, none⟩ (.bool v)).rowIs b 4 n (fun j => .bool (if j = i then v else X j)) :=
  (h.set i (.bool v)).congr (fun j _ => by by_cases e : j = i <;> simp [e])
structure BW (w wr : World) (b n : Nat) (X : Nat → Bool) : Prop where
  row : wr.rowIs b 4 n (fun j => .bool (X j))
  bl : Below w.heap.size w wr
  hb : w.heap.size ≤ b
theorem BW.new (w : World) (n : Nat) : BW w (w.alloc (.cells (madeCells #[.bool false] n) 4)) w.heap.size n (fun _ => false) := ⟨bs_made w n, alloc_below _ _, Nat.le_refl _⟩
theorem BW.put {w wr : World} {b n : Nat} {X : Nat → Bool} (h : BW w wr b n X) (i : Nat) (v : Bool) : BW w (wr.setCell ⟨b, i, none⟩ (.bool v)) b n (fun j => if j = i then v else X j) := ⟨bs_put h.row i v, below_put h.bl h.hb, h.hb⟩
theorem BW.congr {w wr : World} {b n : Nat} {X Y : Nat → Bool} (h : BW w wr b n X) (e : ∀ j, j < n → X j = Y j) : BW w wr b n Y := ⟨h.row.congr (fun j hj => by rw [e j hj]), h.bl, h.hb⟩
theorem BW.old {w wr : World} {b n : Nat} {X : Nat → Bool} (h : BW w wr b n X) {g m j : Nat} {Y : Nat → Bool} (hY : w.rowIs g 4 m (fun j => .bool (Y j))) (hj : j < m) : wr.cell? ⟨g, j, none⟩ = some (.bool (Y j)) := keep_cell (hY.cell hj) h.bl hY.lt
set_option maxHeartbeats 1600000 in
set_option maxRecDepth 100000 in
theorem both_any (n : Nat) (A B : Nat → Bool) (av bv : Value) (w : World) (hA : BsAt w av n A) (hB : BsAt w bv n B) (hn : n ≤ 1000) :
    Calls Tryz.prog 148 #[av, bv] w fun e w' => ∃ v, e = .returned v ∧ BsAt w' v n (fun j => A j || B j) ∧ Below w.heap.size w w' := by
  obtain ⟨ab, rfl, hA⟩ := hA
  obtain ⟨bb, rfl, hB⟩ := hB
  obtain ⟨i0, hi, hz0, hz1, hz2⟩ := info_parts info_bool
  have HA := Lib.hid hA
  have HB := Lib.hid hB
  have HN := Lib.hid (BW.new w n)
  clear hA hB
  go_enter Tryz.func148, Tryz.ntmps148
  go_wp2_with ((with_reducible refine wpList_make_row _ rfl _ _ 185 rfl 4 i0 (.bool false) Tryz.underlying185 hi hz0 hz1 rfl .i64 .i64 n ?hl ?hc ?hb ?h63 ?_); (case hl => rfl); (case hc => rfl); (case hb => rw [hz2]; omega); (case h63 => omega))
  refine wp_forget3 (fun W => BW w W w.heap.size n (fun _ => false)) HN.out (fun w1 hw1 => ?_)
  have H1 := Lib.hid hw1
  clear hw1 HN
  go_loopw [6] (fun v wr => ∃ i : Nat, v = .int .i64 (i : Nat) ∧ i ≤ n ∧ Hid (BW w wr w.heap.size n (fun j => if j < i then A j || B j else false))) (fun v _ => n + 1 - (intOf v).toNat)
  case atStart => exact ⟨0, rfl, Nat.zero_le _, Lib.hid (H1.out.congr (fun j _ => by simp))⟩
  case round =>
    clear H1
    obtain ⟨i, rfl, hin, HW⟩ := hrel
    by_cases h : i < n
    · have qa := HW.out.old HA.out h
      have qb := HW.out.old HB.out h
      have qo := HW.out.row.cell h
      have fo := HW.out.row.frozen i
      have hi0 : (0 : Int) ≤ (i : Int) := by omega
      have hi1 : (i : Int) < (n : Int) := by omega
      have HS := Lib.hid ((HW.out.put i (A i || B i)).congr (Y := fun j => if j < i + 1 then A j || B j else false) (fun j _ => by
        by_cases e : j = i
        · subst e; simp
        · by_cases e2 : j < i
          · simp [e, e2, show j < i + 1 by omega]
          · simp [e, e2, show ¬ j < i + 1 by omega]))
      clear HA HB
      cases hA : A i <;> cases hB : B i <;> rw [hA] at qa HS <;> rw [hB] at qb HS
      all_goals
        go_wp2
        go_roundw
        case rel => exact ⟨i + 1, by go_num, by omega, HS⟩
        case measure => (simp [intOf]; try omega)
    · obtain rfl : i = n := by omega
      go_wp2
      go_ret
      exact ⟨_, rfl, ⟨_, rfl, HW.out.row.congr (fun j hj => by rw [if_pos hj])⟩, HW.out.bl⟩
end Go.Proofs.YtcfococinllcmaaGreat

/- The reference's ends, of a set, of alternatives, of a row, of one perhaps: contracts. -/
namespace Go.Proofs.YtcfococinllcmaaGreat
open Go.RowKit
theorem bytesN_at (s : ByteArray) (i : Nat) (h : i < (bytesN s).length) : (bytesN s)[i] = byteM s i := by
  have hs : i < s.size := by rw [bytesN_len] at h; exact h
  unfold byteM
  rw [dif_pos hs]
  exact List.getElem_map (fun (x : UInt8) => x.toNat)
def EnB (s : ByteArray) (a : Re) (X Y : Nat → Bool) : Prop := ∀ j, j ≤ s.size → (Y j = true ↔ En (bytesN s) a (fun i => X i = true) j)
def EndsK (w : World) (s : ByteArray) (x : List Value) (a : Re) : Prop := ∀ (w' : World), Below w.heap.size w w' → ∀ (v : Value) (X : Nat → Bool), BsAt w' v (s.size + 1) X →
  Calls Tryz.prog 123 #[.agg x.toArray, .string s, v] w' fun e w'' => ∃ v' Y, e = .returned v' ∧ BsAt w'' v' (s.size + 1) Y ∧ EnB s a X Y ∧ Below w'.heap.size w' w''
structure Ez (w wr : World) (x : List Value) : Prop where
  at_ : wr.rangeAt w.heap.size 0 x
  lt : w.heap.size < wr.heap.size
  bl : Below w.heap.size w wr
theorem Ez.below {w wr wr' : World} {x : List Value} (h : Ez w wr x) (hb : Below wr.heap.size wr wr') : Ez w wr' x := ⟨range_later h.at_ hb h.lt, Nat.lt_of_lt_of_le h.lt hb.size, h.bl.trans (hb.mono h.bl.size)⟩
theorem Ez.cell {w wr : World} {x : List Value} (h : Ez w wr x) {j : Nat} {v : Value} (hv : x[j]? = some v) : wr.cell? ⟨w.heap.size, j, none⟩ = some v := by
  have := h.at_ j v hv
  rwa [Nat.zero_add] at this
theorem Ez.set {w wr : World} {x : List Value} (h : Ez w wr x) {b : Nat} (hb : w.heap.size < b) (i : Nat) (v : Value) : Ez w (wr.setCell ⟨b, i, none⟩ v) x :=
  ⟨fun j u hu => by rw [rfar (by omega)]; exact h.at_ j u hu, by simpa using h.lt, below_put h.bl (by omega)⟩
theorem Ez.new (w : World) (x : List Value) (t u : TypeId) (c : Array Value) : Ez w ((w.alloc (.cells x.toArray t)).alloc (.cells c u)) x := by
  have h0 := box_range (Below.refl _ (w.alloc (.cells x.toArray t)))
  have hb := alloc_below (w.alloc (.cells x.toArray t)) (.cells c u)
  have h1 := alloc_below w (.cells x.toArray t)
  refine ⟨range_later (by simpa using h0) hb (by rw [World.size_alloc]; omega), by rw [World.size_alloc, World.size_alloc]; omega, h1.trans (hb.mono h1.size)⟩
theorem row_new (w : World) (x : Array Value) (t : TypeId) (n : Nat) : ((w.alloc (.cells x t)).alloc (.cells (madeCells #[.bool false] n) 4)).rowIs (w.heap.size + 1) 4 n (fun j => .bool ((fun _ => false) j)) := by
  have := bs_made (w.alloc (.cells x t)) n
  rwa [World.size_alloc] at this
theorem KidsAt.at {w : World} {P : Nat → Prop} {kv : Value} {l : List (List Value)} (h : KidsAt w P kv l) : ∃ a c, kv = .slice a l.length c ∧ l.length ≤ c ∧ (0 < l.length → ∃ b o, a = some ⟨b, o, none⟩ ∧ b < w.heap.size ∧ ∀ k (hk : k < l.length), w.rangeAt b (o + k * 258) l[k]) := by
  obtain ⟨a, c, rfl, hc, hr⟩ := RdAt.shape h.row
  refine ⟨a, c, rfl, hc, fun hn => ?_⟩
  obtain ⟨b, o, rfl, hb, hcell⟩ := hr hn
  refine ⟨b, o, rfl, hb, fun k hk j v hv => ?_⟩
  rw [Nat.add_assoc]
  refine hcell (k * 258 + j) v ?_
  have key : ∀ (l : List (List Value)), (∀ x ∈ l, x.length = 258) → ∀ k (hk : k < l.length) j, j < 258 → l.flatten[k * 258 + j]? = l[k][j]? := by
    intro l
    induction l with
    | nil => intro _ k hk; exact absurd hk (by simp)
    | cons x l ih =>
      intro hx k hk j hj
      have hx0 := hx x List.mem_cons_self
      rw [List.flatten_cons]
      cases k with
      | zero => rw [Nat.zero_mul, Nat.zero_add, List.getElem?_append_left (by omega)]; rfl
      | succ k =>
        rw [List.getElem?_append_right (by omega), hx0, show (k + 1) * 258 + j - 258 = k * 258 + j by omega, ih (fun y hy => hx y (List.mem_cons_of_mem _ hy)) k (by simpa using hk) j hj]
        rfl
  rw [key l h.each k hk j (by have := (List.getElem?_eq_some_iff.1 hv).1; rw [h.each _ (List.getElem_mem hk)] at this; exact this)]
  exact hv
def setY (s : ByteArray) (S X : Nat → Bool) (i j : Nat) : Bool := decide (1 ≤ j) && (decide (j ≤ i) && (X (j - 1) && S (byteM s (j - 1))))
theorem setY_succ (s : ByteArray) (S X : Nat → Bool) (i j : Nat) : (if j = i + 1 then X i && S (byteM s i) else setY s S X i j) = setY s S X (i + 1) j := by
  unfold setY
  by_cases e : j = i + 1
  · subst e
    rw [if_pos rfl, decide_eq_true (show 1 ≤ i + 1 by omega), decide_eq_true (Nat.le_refl (i + 1))]
    simp
  · rw [if_neg e]
    congr 2
    exact decide_eq_decide.2 (by omega)
theorem setY_en (s : ByteArray) (S X : Nat → Bool) : EnB s (.set S) X (setY s S X s.size) := by
  intro j hj
  unfold setY
  cases j with
  | zero => exact ⟨fun h => by simp at h, fun h => absurd h (En_set0 _ _ _)⟩
  | succ j =>
    have hlt : j < (bytesN s).length := by rw [bytesN_len]; omega
    rw [En_set _ _ _ _ hlt, bytesN_at s j hlt, decide_eq_true (show 1 ≤ j + 1 by omega), decide_eq_true hj]
    simp
set_option maxHeartbeats 3200000 in
set_option maxRecDepth 100000 in
theorem ends_set (w0 : World) (s : ByteArray) (S : Nat → Bool) (kv : Value) (hs : s.size ≤ 900) : EndsK w0 s (nodeC 0 S kv) (.set S) := by
  intro w _ v X hv
  obtain ⟨ab, rfl, hX⟩ := hv
  obtain ⟨i0, hi, hz0, hz1, hz2⟩ := info_parts info_bool
  have HX := Lib.hid hX
  have HE := Lib.hid (Ez.new w (nodeC 0 S kv) 148 4 (madeCells #[.bool false] (s.size + 1)))
  have HR := Lib.hid (row_new w (nodeC 0 S kv).toArray 148 (s.size + 1))
  clear hX
  go_enter Tryz.func123, Tryz.ntmps123
  go_upto_region 2 with (first
    | ((with_reducible refine Great.wpList_boxTo rfl _ _ rfl _ rfl w.heap.size rfl (nodeC 0 S kv).toArray ?hx ?_); (case hx => rfl))
    | ((with_reducible refine wpList_make_row _ rfl _ _ 185 rfl 4 i0 (.bool false) Tryz.underlying185 hi hz0 hz1 rfl .i64 .i64 (s.size + 1) ?hl ?hc ?hb ?h63 ?_); (case hl => rfl); (case hc => rfl); (case hb => rw [hz2]; omega); (case h63 => omega)))
  (try simp only [World.size_alloc])
  refine wp_forget3 (fun W => Ez w W (nodeC 0 S kv) ∧ W.rowIs (w.heap.size + 1) 4 (s.size + 1) (fun j => .bool ((fun _ => false) j))) ⟨HE.out, HR.out⟩ (fun w1 hw1 => ?_)
  have H1 := Lib.hid hw1.1
  have HR1 := Lib.hid hw1.2
  have c0 := H1.out.cell (nodeC_0 _ _ _)
  clear hw1 HE HR
  go_wp2
  go_loopw [8] (fun vi wr => ∃ i : Nat, vi = .int .i64 (i : Nat) ∧ i ≤ s.size ∧ Hid (Ez w wr (nodeC 0 S kv)) ∧ Hid (wr.rowIs (w.heap.size + 1) 4 (s.size + 1) (fun j => .bool (setY s S X i j)))) (fun v _ => s.size + 1 - (intOf v).toNat)
  case atStart => exact ⟨0, rfl, Nat.zero_le _, H1, Lib.hid (HR1.out.congr (fun j _ => by
    unfold setY
    by_cases h : 1 ≤ j
    · rw [decide_eq_false (show ¬ j ≤ 0 by omega)]; simp
    · rw [decide_eq_false h]; simp))⟩
  case round =>
    clear H1 HR1 c0
    obtain ⟨i, rfl, hin, HZ, HW⟩ := hrel
    by_cases h : i < s.size
    · obtain ⟨c, hc⟩ : ∃ c, byteM s i = c := ⟨_, rfl⟩
      have hbx := rbyte_at s i h
      have hc256 := byteM_lt s i
      have qa := keep_cell (HX.out.cell (show i < s.size + 1 by omega)) HZ.out.bl HX.out.lt
      have qo := HW.out.cell (show i + 1 < s.size + 1 by omega)
      have fo := HW.out.frozen (i + 1)
      have HS := Lib.hid (((bs_put HW.out (i + 1) (X i && S (byteM s i)))).congr (g := fun j => .bool (setY s S X (i + 1) j)) (fun j _ => by rw [setY_succ]))
      rw [hc] at hbx hc256 HS
      have qs := HZ.out.cell (nodeC_set 0 S kv c hc256)
      have HZ2 := Lib.hid (HZ.out.set (show w.heap.size < w.heap.size + 1 by omega) (i + 1) (.bool (X i && S c)))
      have hi0 : (0 : Int) ≤ (i : Int) := by omega
      have hi1 : (i : Int) < (s.size : Int) := by omega
      have hci0 : (0 : Int) ≤ (c : Int) := by omega
      have hci1 : (c : Int) < 256 := by omega
      clear hc HX HZ HW
      cases hXi : X i with
      | false =>
        rw [hXi] at qa HS HZ2
        clear hbx qs
        go_wp2
        go_roundw
        case rel => exact ⟨i + 1, by go_num, by omega, HZ2, HS⟩
        case measure => (simp [intOf]; try omega)
      | true =>
        rw [hXi] at qa HS HZ2
        cases hSc : S c with
        | false =>
          rw [hSc] at qs HS HZ2
          go_wp2
          go_roundw
          case rel => exact ⟨i + 1, by go_num, by omega, HZ2, HS⟩
          case measure => (simp [intOf]; try omega)
        | true =>
          rw [hSc] at qs HS HZ2
          go_wp2
          go_roundw
          case rel => exact ⟨i + 1, by go_num, by omega, HZ2, HS⟩
          case measure => (simp [intOf]; try omega)
    · obtain rfl : i = s.size := by omega
      go_wp2
      go_ret
      exact ⟨_, setY s S X s.size, rfl, ⟨_, rfl, HW.out⟩, setY_en s S X, HZ.out.bl⟩
structure Kd (w0 : World) (s : ByteArray) (P : Nat → Prop) (kv : Value) (l : List (List Value)) (bs : List Re) : Prop where
  kids : KidsAt w0 P kv l
  len : bs.length = l.length
  each : ∀ i (h : i < l.length) (h2 : i < bs.length), EndsK w0 s l[i] bs[i]
theorem take_fold {f : Re → Re → Re} {z : Re} {bs : List Re} {k : Nat} (h : k < bs.length) : (bs.take (k + 1)).foldl f z = f ((bs.take k).foldl f z) bs[k] := by
  rw [List.take_add_one, List.getElem?_eq_getElem h, List.foldl_append]
  rfl
set_option maxHeartbeats 3200000 in
set_option maxRecDepth 100000 in
theorem ends_alts (w0 : World) (s : ByteArray) (P : Nat → Prop) (S : Nat → Bool) (kv : Value) (l : List (List Value)) (bs : List Re) (hk : Kd w0 s P kv l bs) (hs : s.size ≤ 900) : EndsK w0 s (nodeC 1 S kv) (bs.foldl Re.alt .no) := by
  intro w hb0 v X hv
  obtain ⟨ab, rfl, hX⟩ := hv
  obtain ⟨ka, kc, rfl, -, hkk⟩ := hk.kids.at
  have HK := Lib.hid hk
  have HKK := Lib.hid hkk
  have HB0 := Lib.hid hb0
  have hfew := hk.kids.few
  clear hk hkk hb0
  obtain ⟨i0, hi, hz0, hz1, hz2⟩ := info_parts info_bool
  have HX := Lib.hid hX
  have HE := Lib.hid (Ez.new w (nodeC 1 S (.slice ka l.length kc)) 148 4 (madeCells #[.bool false] (s.size + 1)))
  have HR := Lib.hid (row_new w (nodeC 1 S (.slice ka l.length kc)).toArray 148 (s.size + 1))
  clear hX
  go_enter Tryz.func123, Tryz.ntmps123
  go_upto_region 2 with (first
    | ((with_reducible refine Great.wpList_boxTo rfl _ _ rfl _ rfl w.heap.size rfl (nodeC 1 S (.slice ka l.length kc)).toArray ?hx ?_); (case hx => rfl))
    | ((with_reducible refine wpList_make_row _ rfl _ _ 185 rfl 4 i0 (.bool false) Tryz.underlying185 hi hz0 hz1 rfl .i64 .i64 (s.size + 1) ?hl ?hc ?hb ?h63 ?_); (case hl => rfl); (case hc => rfl); (case hb => rw [hz2]; omega); (case h63 => omega)))
  (try simp only [World.size_alloc])
  refine wp_forget3 (fun W => Ez w W (nodeC 1 S (.slice ka l.length kc)) ∧ W.rowIs (w.heap.size + 1) 4 (s.size + 1) (fun j => .bool ((fun _ => false) j))) ⟨HE.out, HR.out⟩ (fun w1 hw1 => ?_)
  have H1 := Lib.hid hw1.1
  have HR1 := Lib.hid hw1.2
  have c0 := H1.out.cell (nodeC_0 _ _ _)
  clear hw1 HE HR
  go_wp2
  go_loopw [7, 9] (fun v7 vi wr => ∃ (i : Nat) (Y : Nat → Bool), vi = .int .i64 (i : Nat) ∧ i ≤ l.length ∧ Hid (Ez w wr (nodeC 1 S (.slice ka l.length kc))) ∧ Hid (BsAt wr v7 (s.size + 1) Y) ∧ Hid (EnB s ((bs.take i).foldl Re.alt .no) X Y)) (fun _ v _ => l.length + 1 - (intOf v).toNat)
  case atStart => exact ⟨0, fun _ => false, rfl, Nat.zero_le _, H1, Lib.hid ⟨_, rfl, HR1.out⟩, Lib.hid (fun j _ => ⟨fun h => by simp at h, fun h => absurd h (En_no _ _ _)⟩)⟩
  case round =>
    clear H1 HR1 c0
    obtain ⟨i, Y, rfl, hin, HZ, HY, HN⟩ := hrel
    have q257 := HZ.out.cell (nodeC_kids _ _ _)
    by_cases h : i < l.length
    · obtain ⟨b, o, rfl, hbl, hat⟩ := HKK.out (by omega)
      have hbs : i < bs.length := by rw [HK.out.len]; exact h
      have hbw := HB0.out.trans (HZ.out.bl.mono HB0.out.size)
      have HAT := Lib.hid (range_later (hat i h) hbw hbl)
      have hlen := HK.out.kids.each _ (List.getElem_mem h)
      have ke := HK.out.each i h hbs wr hbw _ X ⟨ab, rfl, HX.out.of_block (HZ.out.bl.block ab HX.out.lt)⟩
      have HTF := Lib.hid (take_fold (f := Re.alt) (z := .no) hbs)
      have hi0 : (0 : Int) ≤ (i : Int) := by omega
      have hi1 : (i : Int) < (l.length : Int) := by omega
      clear hat hbw hbl
      generalize l[i] = x at *
      generalize bs[i] = y at *
      go_wp2_with ((with_reducible refine wpList_loadN rfl _ rfl _ rfl b (o + i * 258) ?hx x ?hc hlen ?_); (case hx => rfl); (case hc => exact HAT.out))
      refine ke.mono ?_
      rintro e w4 ⟨v', Y', rfl, hY', hE', hb4⟩
      have kb := both_any (s.size + 1) Y Y' u7 v' w4 (HY.out.later hb4) hY' (by omega)
      have HZ4 := Lib.hid (HZ.out.below hb4)
      have HE' := Lib.hid hE'
      clear ke hY' hE' hb4 q257
      go_wp2_with fail
      refine kb.mono ?_
      rintro e w5 ⟨v2, rfl, hY2, hb5⟩
      have HZ5 := Lib.hid (HZ4.out.below hb5)
      have HY5 := Lib.hid hY2
      clear kb hY2 hb5 HZ HZ4 HY HAT
      go_wp2
      go_roundw
      case rel =>
        refine ⟨i + 1, fun j => Y j || Y' j, by go_num, by omega, HZ5, HY5, Lib.hid (fun j hj => ?_)⟩
        rw [HTF.out, En_alt, ← HN.out j hj, ← HE'.out j hj]
        simp
      case measure => (simp [intOf]; try omega)
    · obtain rfl : i = l.length := by omega
      have hi1 : ¬ (l.length : Int) < (l.length : Int) := by omega
      have HFIN : Hid (EnB s (bs.foldl Re.alt .no) X Y) := Lib.hid (by
        have := HN.out
        rwa [← HK.out.len, List.take_length] at this)
      clear HKK HK HN
      go_wp2
      go_ret
      first
        | exact ⟨_, Y, rfl, HY.out, HFIN.out, HZ.out.bl⟩
        | exact ⟨_, rfl, Y, HY.out, HFIN.out, HZ.out.bl⟩
set_option maxHeartbeats 3200000 in
set_option maxRecDepth 100000 in
theorem ends_row (w0 : World) (s : ByteArray) (P : Nat → Prop) (S : Nat → Bool) (kv : Value) (l : List (List Value)) (bs : List Re) (hk : Kd w0 s P kv l bs) (hs : s.size ≤ 900) : EndsK w0 s (nodeC 2 S kv) (bs.foldl Re.cat .eps) := by
  intro w hb0 v X hv
  obtain ⟨ab, rfl, hX⟩ := hv
  obtain ⟨ka, kc, rfl, -, hkk⟩ := hk.kids.at
  have HK := Lib.hid hk
  have HKK := Lib.hid hkk
  have HB0 := Lib.hid hb0
  have hfew := hk.kids.few
  clear hk hkk hb0
  obtain ⟨i0, hi, hz0, hz1, hz2⟩ := info_parts info_bool
  have HX := Lib.hid hX
  have HE := Lib.hid (Ez.new w (nodeC 2 S (.slice ka l.length kc)) 148 4 (madeCells #[.bool false] (s.size + 1)))
  have HR := Lib.hid (row_new w (nodeC 2 S (.slice ka l.length kc)).toArray 148 (s.size + 1))
  clear hX
  go_enter Tryz.func123, Tryz.ntmps123
  go_upto_region 2 with (first
    | ((with_reducible refine Great.wpList_boxTo rfl _ _ rfl _ rfl w.heap.size rfl (nodeC 2 S (.slice ka l.length kc)).toArray ?hx ?_); (case hx => rfl))
    | ((with_reducible refine wpList_make_row _ rfl _ _ 185 rfl 4 i0 (.bool false) Tryz.underlying185 hi hz0 hz1 rfl .i64 .i64 (s.size + 1) ?hl ?hc ?hb ?h63 ?_); (case hl => rfl); (case hc => rfl); (case hb => rw [hz2]; omega); (case h63 => omega)))
  (try simp only [World.size_alloc])
  refine wp_forget3 (fun W => Ez w W (nodeC 2 S (.slice ka l.length kc)) ∧ W.rowIs (w.heap.size + 1) 4 (s.size + 1) (fun j => .bool ((fun _ => false) j))) ⟨HE.out, HR.out⟩ (fun w1 hw1 => ?_)
  have H1 := Lib.hid hw1.1
  have HR1 := Lib.hid hw1.2
  have c0 := H1.out.cell (nodeC_0 _ _ _)
  clear hw1 HE HR
  have HX1 : Hid (BsAt w1 (.slice (some ⟨ab, 0, none⟩) (s.size + 1) (s.size + 1)) (s.size + 1) X) := Lib.hid ⟨ab, rfl, HX.out.of_block (H1.out.bl.block ab HX.out.lt)⟩
  go_wp2
  go_loopw [7, 10] (fun v7 vi wr => ∃ (i : Nat) (Y : Nat → Bool), vi = .int .i64 (i : Nat) ∧ i ≤ l.length ∧ Hid (Ez w wr (nodeC 2 S (.slice ka l.length kc))) ∧ Hid (BsAt wr v7 (s.size + 1) Y) ∧ Hid (EnB s ((bs.take i).foldl Re.cat .eps) X Y)) (fun _ v _ => l.length + 1 - (intOf v).toNat)
  case atStart => exact ⟨0, X, rfl, Nat.zero_le _, H1, HX1, Lib.hid (fun j hj => by rw [List.take_zero, List.foldl_nil, En_eps, bytesN_len]; exact ⟨fun h => ⟨hj, h⟩, fun h => h.2⟩)⟩
  case round =>
    clear H1 HR1 HX1 c0
    obtain ⟨i, Y, rfl, hin, HZ, HY, HN⟩ := hrel
    have q257 := HZ.out.cell (nodeC_kids _ _ _)
    by_cases h : i < l.length
    · obtain ⟨b, o, rfl, hbl, hat⟩ := HKK.out (by omega)
      have hbs : i < bs.length := by rw [HK.out.len]; exact h
      have hbw := HB0.out.trans (HZ.out.bl.mono HB0.out.size)
      have HAT := Lib.hid (range_later (hat i h) hbw hbl)
      have hlen := HK.out.kids.each _ (List.getElem_mem h)
      have ke := HK.out.each i h hbs wr hbw u7 Y HY.out
      have HTF := Lib.hid (take_fold (f := Re.cat) (z := .eps) hbs)
      have hi0 : (0 : Int) ≤ (i : Int) := by omega
      have hi1 : (i : Int) < (l.length : Int) := by omega
      clear hat hbw hbl
      generalize l[i] = x at *
      generalize bs[i] = y at *
      go_wp2_with ((with_reducible refine wpList_loadN rfl _ rfl _ rfl b (o + i * 258) ?hx x ?hc hlen ?_); (case hx => rfl); (case hc => exact HAT.out))
      refine ke.mono ?_
      rintro e w4 ⟨v', Y', rfl, hY', hE', hb4⟩
      have HZ4 := Lib.hid (HZ.out.below hb4)
      have HE' := Lib.hid hE'
      have HY4 := Lib.hid hY'
      clear ke hY' hE' hb4 q257 HZ HY HAT
      go_wp2
      go_roundw
      case rel =>
        refine ⟨i + 1, Y', by go_num, by omega, HZ4, HY4, Lib.hid (fun j hj => ?_)⟩
        rw [HTF.out, En_cat, HE'.out j hj]
        exact En.congr (fun k hk => HN.out k (by rw [bytesN_len] at hk; exact hk))
      case measure => (simp [intOf]; try omega)
    · obtain rfl : i = l.length := by omega
      have hi1 : ¬ (l.length : Int) < (l.length : Int) := by omega
      have HFIN : Hid (EnB s (bs.foldl Re.cat .eps) X Y) := Lib.hid (by
        have := HN.out
        rwa [← HK.out.len, List.take_length] at this)
      clear HKK HK HN
      go_wp2
      go_ret
      first
        | exact ⟨_, Y, rfl, HY.out, HFIN.out, HZ.out.bl⟩
        | exact ⟨_, rfl, Y, HY.out, HFIN.out, HZ.out.bl⟩
set_option maxHeartbeats 3200000 in
set_option maxRecDepth 100000 in
theorem ends_opt (w0 : World) (s : ByteArray) (P : Nat → Prop) (S : Nat → Bool) (kv : Value) (x : List Value) (a : Re) (hk : KidsAt w0 P kv [x]) (hK : EndsK w0 s x a) (hs : s.size ≤ 900) : EndsK w0 s (nodeC 5 S kv) (.opt a) := by
  intro w hb0 v X hv
  obtain ⟨ab, rfl, hX⟩ := hv
  obtain ⟨ka, kc, rfl, -, hkk⟩ := hk.at
  obtain ⟨b, o, rfl, hbl, hat⟩ := hkk (by simp)
  have hlen := hk.each x (List.mem_singleton.2 rfl)
  have hat0 := hat 0 (by simp)
  rw [Nat.zero_mul, Nat.add_zero] at hat0
  have HA0 : Hid (w0.rangeAt b o x) := Lib.hid hat0
  have HK := Lib.hid hK
  have HB0 := Lib.hid hb0
  clear hk hK hkk hat hat0 hb0
  dsimp only [List.length_singleton]
  obtain ⟨i0, hi, hz0, hz1, hz2⟩ := info_parts info_bool
  have HX := Lib.hid hX
  have HE := Lib.hid (Ez.new w (nodeC 5 S (.slice (some ⟨b, o, none⟩) 1 kc)) 148 4 (madeCells #[.bool false] (s.size + 1)))
  have HR := Lib.hid (row_new w (nodeC 5 S (.slice (some ⟨b, o, none⟩) 1 kc)).toArray 148 (s.size + 1))
  clear hX
  go_enter Tryz.func123, Tryz.ntmps123
  go_upto_region 2 with (first
    | ((with_reducible refine Great.wpList_boxTo rfl _ _ rfl _ rfl w.heap.size rfl (nodeC 5 S (.slice (some ⟨b, o, none⟩) 1 kc)).toArray ?hx ?_); (case hx => rfl))
    | ((with_reducible refine wpList_make_row _ rfl _ _ 185 rfl 4 i0 (.bool false) Tryz.underlying185 hi hz0 hz1 rfl .i64 .i64 (s.size + 1) ?hl ?hc ?hb ?h63 ?_); (case hl => rfl); (case hc => rfl); (case hb => rw [hz2]; omega); (case h63 => omega)))
  (try simp only [World.size_alloc])
  refine wp_forget3 (fun W => Ez w W (nodeC 5 S (.slice (some ⟨b, o, none⟩) 1 kc)) ∧ W.rowIs (w.heap.size + 1) 4 (s.size + 1) (fun j => .bool ((fun _ => false) j))) ⟨HE.out, HR.out⟩ (fun w1 hw1 => ?_)
  have H1 := Lib.hid hw1.1
  have HR1 := Lib.hid hw1.2
  have c0 := H1.out.cell (nodeC_0 _ _ _)
  clear hw1 HE HR
  have hbw := HB0.out.trans (H1.out.bl.mono HB0.out.size)
  have HAT := Lib.hid (range_later HA0.out hbw hbl)
  have HX1 : Hid (BsAt w1 (.slice (some ⟨ab, 0, none⟩) (s.size + 1) (s.size + 1)) (s.size + 1) X) := Lib.hid ⟨ab, rfl, HX.out.of_block (H1.out.bl.block ab HX.out.lt)⟩
  have ke := HK.out w1 hbw _ X HX1.out
  have q257 := H1.out.cell (nodeC_kids 5 S (.slice (some ⟨b, o, none⟩) 1 kc))
  clear hbw HR1
  go_wp2_with ((with_reducible refine wpList_loadN rfl _ rfl _ rfl b o ?hx x ?hc hlen ?_); (case hx => rfl); (case hc => exact HAT.out))
  refine ke.mono ?_
  rintro e w4 ⟨v', Y', rfl, hY', hE', hb4⟩
  have kb := both_any (s.size + 1) X Y' _ v' w4 (HX1.out.later hb4) hY' (by omega)
  have HZ4 := Lib.hid (H1.out.below hb4)
  have HE' := Lib.hid hE'
  clear ke hY' hE' hb4 q257 c0
  go_wp2_with fail
  refine kb.mono ?_
  rintro e w5 ⟨v2, rfl, hY2, hb5⟩
  have HZ5 := Lib.hid (HZ4.out.below hb5)
  have HY5 := Lib.hid hY2
  clear kb hY2 hb5
  go_wp2
  go_ret
  refine ⟨_, fun j => X j || Y' j, rfl, HY5.out, fun j hj => ?_, HZ5.out.bl⟩
  rw [En_opt, ← HE'.out j hj, bytesN_len]
  simp [hj]
end Go.Proofs.YtcfococinllcmaaGreat

/- The reference's ends, of any number of times, of once and more: contracts. -/
namespace Go.Proofs.YtcfococinllcmaaGreat
open Go.RowKit
def cntF (w : World) (v : Value) (n : Nat) : Nat := match v with
  | .slice (some a) _ _ => (List.range n).countP (fun j => match w.cell? ⟨a.block, j, none⟩ with | some (.bool b) => !b | _ => true)
  | _ => 0
theorem BsAt.cnt {w : World} {v : Value} {n : Nat} {X : Nat → Bool} (h : BsAt w v n X) : cntF w v n = (List.range n).countP (fun j => !X j) := by
  obtain ⟨b, rfl, hr⟩ := h
  unfold cntF
  refine List.countP_congr (fun j hj => ?_)
  rw [hr.cell (List.mem_range.1 hj)]
theorem countP_le' (p q : Nat → Bool) (l : List Nat) (h : ∀ x ∈ l, q x = true → p x = true) : l.countP q ≤ l.countP p := List.countP_mono_left h
theorem countP_lt' (p q : Nat → Bool) : ∀ (l : List Nat), (∀ x ∈ l, q x = true → p x = true) → (∃ x ∈ l, p x = true ∧ q x = false) → l.countP q < l.countP p
  | [], _, h => by obtain ⟨x, hx, _⟩ := h; cases hx
  | y :: l, h1, h2 => by
    obtain ⟨x, hx, hp, hq⟩ := h2
    have h3 := countP_le' p q l (fun z hz => h1 z (List.mem_cons_of_mem _ hz))
    rw [List.countP_cons, List.countP_cons]
    rcases List.mem_cons.1 hx with rfl | hx
    · rw [hp, hq]; simp; omega
    · have := countP_lt' p q l (fun z hz => h1 z (List.mem_cons_of_mem _ hz)) ⟨x, hx, hp, hq⟩
      have h4 : (if q y = true then 1 else 0) ≤ (if p y = true then 1 else 0) := by
        by_cases h : q y = true
        · rw [if_pos h, if_pos (h1 y List.mem_cons_self h)]; exact Nat.le_refl _
        · rw [if_neg h]; exact Nat.zero_le _
      omega
def moreN (v : Value) : Nat := match v with
  | .bool true => 1
  | _ => 0
def newB (St O : Nat → Bool) (i : Nat) : Bool := (List.range i).any (fun j => St j && !O j)
theorem newB_succ (St O : Nat → Bool) (i : Nat) : newB St O (i + 1) = (newB St O i || (St i && !O i)) := by unfold newB; rw [List.range_succ, List.any_append]; simp
structure RepI (s : ByteArray) (a : Re) (X O St : Nat → Bool) (lo k : Nat) (mo : Bool) : Prop where
  st : ∀ j, j ≤ s.size → (St j = true ↔ Ei (bytesN s) a (fun i => X i = true) k j)
  out : ∀ j, j ≤ s.size → (O j = true ↔ ∃ m, lo ≤ m ∧ m ≤ k ∧ Ei (bytesN s) a (fun i => X i = true) m j)
  fin : mo = false → ∃ k', k = k' + 1 ∧ ∀ j, j ≤ s.size → Ei (bytesN s) a (fun i => X i = true) k j → ∃ m, lo ≤ m ∧ m ≤ k' ∧ Ei (bytesN s) a (fun i => X i = true) m j
theorem RepI.next {s : ByteArray} {a : Re} {X O St St' : Nat → Bool} {lo k : Nat} {mo : Bool} (h : RepI s a X O St lo k mo) (hlo : lo ≤ 1) (hE : EnB s a St St') : RepI s a X (fun j => O j || St' j) St' lo (k + 1) (newB St' O (s.size + 1)) := by
  have h1 : ∀ j, j ≤ s.size → (St' j = true ↔ Ei (bytesN s) a (fun i => X i = true) (k + 1) j) := fun j hj => by
    rw [hE j hj]
    exact En.congr (fun i hi => h.st i (by rw [bytesN_len] at hi; exact hi))
  refine ⟨h1, fun j hj => ?_, fun hn => ⟨k, rfl, fun j hj he => ?_⟩⟩
  · rw [Bool.or_eq_true, h.out j hj, h1 j hj]
    constructor
    · rintro (⟨m, a1, a2, a3⟩ | h2)
      · exact ⟨m, a1, by omega, a3⟩
      · exact ⟨k + 1, by omega, Nat.le_refl _, h2⟩
    · rintro ⟨m, a1, a2, a3⟩
      by_cases e : m = k + 1
      · subst e; exact .inr a3
      · exact .inl ⟨m, a1, by omega, a3⟩
  · have h2 : ¬ (St' j = true ∧ O j = false) := fun hh => by
      have : newB St' O (s.size + 1) = true := by
        unfold newB
        rw [List.any_eq_true]
        exact ⟨j, List.mem_range.2 (by omega), by rw [hh.1, hh.2]; rfl⟩
      rw [hn] at this
      cases this
    have h3 := (h1 j hj).2 he
    have h4 : O j = true := by
      cases hO : O j with
      | true => rfl
      | false => exact absurd ⟨h3, hO⟩ h2
    obtain ⟨m, a1, a2, a3⟩ := (h.out j hj).1 h4
    exact ⟨m, a1, a2, a3⟩
theorem Ei_none {B : List Nat} {a : Re} {X : Nat → Prop} (h : ∀ j, ¬ Ei B a X 1 j) : ∀ m j, 1 ≤ m → ¬ Ei B a X m j := by
  intro m
  induction m with
  | zero => intro j h0; omega
  | succ m ih =>
    intro j _ he
    by_cases hm : m = 0
    · subst hm; exact h j he
    · obtain ⟨_, i, _, h3, _⟩ := he
      exact ih i (by omega) h3
theorem RepI.all {s : ByteArray} {a : Re} {X O St : Nat → Bool} {lo k : Nat} (h : RepI s a X O St lo k false) (hlo : lo ≤ 1) (j : Nat) (hj : j ≤ s.size) : O j = true ↔ ∃ m, lo ≤ m ∧ Ei (bytesN s) a (fun i => X i = true) m j := by
  rw [h.out j hj]
  constructor
  · rintro ⟨m, a1, _, a3⟩; exact ⟨m, a1, a3⟩
  · rintro ⟨m, a1, a3⟩
    obtain ⟨k', rfl, hf⟩ := h.fin rfl
    have hf' : ∀ j, Ei (bytesN s) a (fun i => X i = true) (k' + 1) j → ∃ m, lo ≤ m ∧ m ≤ k' ∧ Ei (bytesN s) a (fun i => X i = true) m j := fun j he => hf j (by have := Ei_le he; rw [bytesN_len] at this; exact this) he
    by_cases hlk : lo ≤ k'
    · obtain ⟨m', b1, b2, b3⟩ := Ei_shut hlk hf' m j a1 a3
      exact ⟨m', b1, by omega, b3⟩
    · obtain rfl : k' = 0 := by omega
      obtain rfl : lo = 1 := by omega
      exact absurd a3 (Ei_none (fun j he => by obtain ⟨m, c1, c2, _⟩ := hf' j he; omega) m j a1)
theorem RepI.less {s : ByteArray} {O St' : Nat → Bool} : 2 * (List.range (s.size + 1)).countP (fun j => !(O j || St' j)) + moreN (.bool (newB St' O (s.size + 1))) < 2 * (List.range (s.size + 1)).countP (fun j => !O j) + 1 := by
  cases hn : newB St' O (s.size + 1) with
  | false =>
    have := countP_le' (fun j => !O j) (fun j => !(O j || St' j)) (List.range (s.size + 1)) (fun x _ h => by simp at h; simp [h.1])
    simp only [moreN]
    omega
  | true =>
    unfold newB at hn
    rw [List.any_eq_true] at hn
    obtain ⟨x, hx, h⟩ := hn
    simp only [Bool.and_eq_true, Bool.not_eq_true'] at h
    have := countP_lt' (fun j => !O j) (fun j => !(O j || St' j)) (List.range (s.size + 1)) (fun x _ h => by simp at h; simp [h.1]) ⟨x, hx, by simp [h.2], by simp [h.1]⟩
    simp only [moreN]
    omega
theorem rep0 (s : ByteArray) (a : Re) (X : Nat → Bool) : RepI s a X X X 0 0 true := by
  refine ⟨fun j hj => ⟨fun h => ⟨by rw [bytesN_len]; exact hj, h⟩, fun h => h.2⟩, fun j hj => ⟨fun h => ⟨0, Nat.le_refl _, Nat.le_refl _, by rw [bytesN_len]; exact hj, h⟩, fun h => ?_⟩, fun h => by cases h⟩
  obtain ⟨m, _, h2, h3⟩ := h
  obtain rfl : m = 0 := by omega
  exact h3.2
theorem rep1 (s : ByteArray) (a : Re) (X : Nat → Bool) : RepI s a X (fun _ => false) X 1 0 true := by
  refine ⟨fun j hj => ⟨fun h => ⟨by rw [bytesN_len]; exact hj, h⟩, fun h => h.2⟩, fun j _ => ⟨fun h => by simp at h, fun h => ?_⟩, fun h => by cases h⟩
  obtain ⟨m, h1, h2, _⟩ := h
  omega
set_option maxHeartbeats 6400000 in
set_option maxRecDepth 100000 in
theorem ends_star (w0 : World) (s : ByteArray) (P : Nat → Prop) (S : Nat → Bool) (kv : Value) (x : List Value) (a : Re) (hk : KidsAt w0 P kv [x]) (hK : EndsK w0 s x a) (hs : s.size ≤ 900) : EndsK w0 s (nodeC 3 S kv) (.star a) := by
  intro w hb0 v X hv
  obtain ⟨ab, rfl, hX⟩ := hv
  obtain ⟨ka, kc, rfl, -, hkk⟩ := hk.at
  obtain ⟨b, o, rfl, hbl, hat⟩ := hkk (by simp)
  have hlen := hk.each x (List.mem_singleton.2 rfl)
  have hat0 := hat 0 (by simp)
  rw [Nat.zero_mul, Nat.add_zero] at hat0
  have HA0 : Hid (w0.rangeAt b o x) := Lib.hid hat0
  have HK := Lib.hid hK
  have HB0 := Lib.hid hb0
  clear hk hK hkk hat hat0 hb0
  dsimp only [List.length_singleton]
  obtain ⟨i0, hi, hz0, hz1, hz2⟩ := info_parts info_bool
  have HX := Lib.hid hX
  have HE := Lib.hid (Ez.new w (nodeC 3 S (.slice (some ⟨b, o, none⟩) 1 kc)) 148 4 (madeCells #[.bool false] (s.size + 1)))
  have HR := Lib.hid (row_new w (nodeC 3 S (.slice (some ⟨b, o, none⟩) 1 kc)).toArray 148 (s.size + 1))
  clear hX
  go_enter Tryz.func123, Tryz.ntmps123
  go_upto_region 2 with (first
    | ((with_reducible refine Great.wpList_boxTo rfl _ _ rfl _ rfl w.heap.size rfl (nodeC 3 S (.slice (some ⟨b, o, none⟩) 1 kc)).toArray ?hx ?_); (case hx => rfl))
    | ((with_reducible refine wpList_make_row _ rfl _ _ 185 rfl 4 i0 (.bool false) Tryz.underlying185 hi hz0 hz1 rfl .i64 .i64 (s.size + 1) ?hl ?hc ?hb ?h63 ?_); (case hl => rfl); (case hc => rfl); (case hb => rw [hz2]; omega); (case h63 => omega)))
  (try simp only [World.size_alloc])
  refine wp_forget3 (fun W => Ez w W (nodeC 3 S (.slice (some ⟨b, o, none⟩) 1 kc)) ∧ W.rowIs (w.heap.size + 1) 4 (s.size + 1) (fun j => .bool ((fun _ => false) j))) ⟨HE.out, HR.out⟩ (fun w1 hw1 => ?_)
  have H1 := Lib.hid hw1.1
  have HR1 := Lib.hid hw1.2
  have c0 := H1.out.cell (nodeC_0 _ _ _)
  clear hw1 HE HR
  have HX1 : Hid (BsAt w1 (.slice (some ⟨ab, 0, none⟩) (s.size + 1) (s.size + 1)) (s.size + 1) X) := Lib.hid ⟨ab, rfl, HX.out.of_block (H1.out.bl.block ab HX.out.lt)⟩
  have HO1 : Hid (BsAt w1 (.slice (some ⟨ab, 0, none⟩) (s.size + 1) (s.size + 1)) (s.size + 1) X) := Lib.hid HX1.out
  go_wp2
  go_loopw [7, 11, 12] (fun v7 v11 v12 wr => ∃ (k : Nat) (O St : Nat → Bool) (mo : Bool), v12 = .bool mo ∧ Hid (Ez w wr (nodeC 3 S (.slice (some ⟨b, o, none⟩) 1 kc))) ∧ Hid (BsAt wr v7 (s.size + 1) O) ∧ Hid (BsAt wr v11 (s.size + 1) St) ∧ Hid (RepI s a X O St 0 k mo)) (fun v7 _ v12 wr => 2 * cntF wr v7 (s.size + 1) + moreN v12)
  case atStart => exact ⟨0, X, X, true, rfl, H1, HO1, HX1, Lib.hid (rep0 s a X)⟩
  case round =>
    clear H1 HR1 HX1 HO1 c0
    obtain ⟨k, O, St, mo, rfl, HZ, HO, HSt, HI⟩ := hrel
    have HMS := Lib.hid HO.out.cnt
    cases mo with
    | false =>
      have HFIN : Hid (∀ j, j ≤ s.size → (O j = true ↔ ∃ m, 0 ≤ m ∧ Ei (bytesN s) a (fun i => X i = true) m j)) := Lib.hid (fun j hj => HI.out.all (by decide) j hj)
      clear HI HSt HK
      go_wp2
      go_ret
      refine ⟨_, O, rfl, HO.out, fun j hj => ?_, HZ.out.bl⟩
      rw [HFIN.out j hj]
      rw [En_star]; exact ⟨fun ⟨m, _, h⟩ => ⟨m, h⟩, fun ⟨m, h⟩ => ⟨m, Nat.zero_le _, h⟩⟩
    | true =>
      have q257 := HZ.out.cell (nodeC_kids 3 S (.slice (some ⟨b, o, none⟩) 1 kc))
      have hbw := HB0.out.trans (HZ.out.bl.mono HB0.out.size)
      have HAT := Lib.hid (range_later HA0.out hbw hbl)
      have ke := HK.out wr hbw u11 St HSt.out
      clear hbw
      go_wp2_with ((with_reducible refine wpList_loadN rfl _ rfl _ rfl b o ?hx x ?hc hlen ?_); (case hx => rfl); (case hc => exact HAT.out))
      refine ke.mono ?_
      rintro e w4 ⟨v', St', rfl, hY', hE', hb4⟩
      have HZ4 := Lib.hid (HZ.out.below hb4)
      have HO4 := Lib.hid (HO.out.later hb4)
      have HI2 := Lib.hid (HI.out.next (by decide) hE')
      have HS4 := Lib.hid hY'
      clear ke hY' hE' hb4 q257 HAT HZ HO HSt HI
      obtain ⟨sb, rfl, hsb⟩ := HS4.out
      obtain ⟨ob, hob, hobr⟩ := HO4.out
      have HSB := Lib.hid hsb
      have HOB := Lib.hid hobr
      clear hsb hobr
      subst hob
      go_wp2
      go_loopw [12, 13] (fun v12 v13 wr => ∃ i : Nat, v12 = .bool (newB St' O i) ∧ v13 = .int .i64 (i : Nat) ∧ i ≤ s.size + 1 ∧ wr = w4) (fun _ v _ => s.size + 2 - (intOf v).toNat)
      case atStart => exact ⟨0, rfl, rfl, Nat.zero_le _, rfl⟩
      case round =>
        obtain ⟨i, rfl, rfl, hi, rfl⟩ := hrel
        by_cases h : i < s.size + 1
        · have qs := HSB.out.cell h
          have qo := HOB.out.cell h
          have hi0 : (0 : Int) ≤ (i : Int) := by omega
          have hi1 : (i : Int) < ((s.size + 1 : Nat) : Int) := by omega
          have HNS := Lib.hid (newB_succ St' O i)
          generalize newB St' O i = N1 at *
          clear HI2 HK
          cases N1 with
          | true =>
            go_wp2
            go_roundw
            case rel => exact ⟨i + 1, by rw [HNS.out]; rfl, by go_num, by omega, by first | rfl | trivial⟩
            case measure => (simp [intOf]; try omega)
          | false =>
            cases hS1 : St' i with
            | false =>
              rw [hS1] at qs
              go_wp2
              go_roundw
              case rel => exact ⟨i + 1, by rw [HNS.out, hS1]; rfl, by go_num, by omega, by first | rfl | trivial⟩
              case measure => (simp [intOf]; try omega)
            | true =>
              rw [hS1] at qs
              cases hO1 : O i with
              | false =>
                rw [hO1] at qo
                go_wp2
                go_roundw
                case rel => exact ⟨i + 1, by rw [HNS.out, hS1, hO1]; rfl, by go_num, by omega, by first | rfl | trivial⟩
                case measure => (simp [intOf]; try omega)
              | true =>
                rw [hO1] at qo
                go_wp2
                go_roundw
                case rel => exact ⟨i + 1, by rw [HNS.out, hS1, hO1]; rfl, by go_num, by omega, by first | rfl | trivial⟩
                case measure => (simp [intOf]; try omega)
        · obtain rfl : i = s.size + 1 := by omega
          have hi1 : ¬ ((s.size + 1 : Nat) : Int) < ((s.size + 1 : Nat) : Int) := by omega
          have kb := both_any (s.size + 1) O St' _ _ wr HO4.out HS4.out (by omega)
          clear HSB HOB HK
          obtain ⟨N1, hN1⟩ : ∃ N1, newB St' O (s.size + 1) = N1 := ⟨_, rfl⟩
          have HN1 := Lib.hid hN1
          rw [hN1]
          clear hN1
          go_wp2_with fail
          refine kb.mono ?_
          rintro e w5 ⟨v2, rfl, hY2, hb5⟩
          have HZ5 := Lib.hid (HZ4.out.below hb5)
          have HO5 := Lib.hid hY2
          have HS5 := Lib.hid (HS4.out.later hb5)
          clear kb hY2 hb5
          go_wp2
          go_roundw
          case rel => exact ⟨k + 1, fun j => O j || St' j, St', N1, rfl, HZ5, HO5, HS5, Lib.hid (by have := HI2.out; rwa [HN1.out] at this)⟩
          case measure =>
            rw [HO5.out.cnt, HMS.out, ← HN1.out]
            exact RepI.less
set_option maxHeartbeats 6400000 in
set_option maxRecDepth 100000 in
theorem ends_plus (w0 : World) (s : ByteArray) (P : Nat → Prop) (S : Nat → Bool) (kv : Value) (x : List Value) (a : Re) (hk : KidsAt w0 P kv [x]) (hK : EndsK w0 s x a) (hs : s.size ≤ 900) : EndsK w0 s (nodeC 4 S kv) (.plus a) := by
  intro w hb0 v X hv
  obtain ⟨ab, rfl, hX⟩ := hv
  obtain ⟨ka, kc, rfl, -, hkk⟩ := hk.at
  obtain ⟨b, o, rfl, hbl, hat⟩ := hkk (by simp)
  have hlen := hk.each x (List.mem_singleton.2 rfl)
  have hat0 := hat 0 (by simp)
  rw [Nat.zero_mul, Nat.add_zero] at hat0
  have HA0 : Hid (w0.rangeAt b o x) := Lib.hid hat0
  have HK := Lib.hid hK
  have HB0 := Lib.hid hb0
  clear hk hK hkk hat hat0 hb0
  dsimp only [List.length_singleton]
  obtain ⟨i0, hi, hz0, hz1, hz2⟩ := info_parts info_bool
  have HX := Lib.hid hX
  have HE := Lib.hid (Ez.new w (nodeC 4 S (.slice (some ⟨b, o, none⟩) 1 kc)) 148 4 (madeCells #[.bool false] (s.size + 1)))
  have HR := Lib.hid (row_new w (nodeC 4 S (.slice (some ⟨b, o, none⟩) 1 kc)).toArray 148 (s.size + 1))
  clear hX
  go_enter Tryz.func123, Tryz.ntmps123
  go_upto_region 2 with (first
    | ((with_reducible refine Great.wpList_boxTo rfl _ _ rfl _ rfl w.heap.size rfl (nodeC 4 S (.slice (some ⟨b, o, none⟩) 1 kc)).toArray ?hx ?_); (case hx => rfl))
    | ((with_reducible refine wpList_make_row _ rfl _ _ 185 rfl 4 i0 (.bool false) Tryz.underlying185 hi hz0 hz1 rfl .i64 .i64 (s.size + 1) ?hl ?hc ?hb ?h63 ?_); (case hl => rfl); (case hc => rfl); (case hb => rw [hz2]; omega); (case h63 => omega)))
  (try simp only [World.size_alloc])
  refine wp_forget3 (fun W => Ez w W (nodeC 4 S (.slice (some ⟨b, o, none⟩) 1 kc)) ∧ W.rowIs (w.heap.size + 1) 4 (s.size + 1) (fun j => .bool ((fun _ => false) j))) ⟨HE.out, HR.out⟩ (fun w1 hw1 => ?_)
  have H1 := Lib.hid hw1.1
  have HR1 := Lib.hid hw1.2
  have c0 := H1.out.cell (nodeC_0 _ _ _)
  clear hw1 HE HR
  have HX1 : Hid (BsAt w1 (.slice (some ⟨ab, 0, none⟩) (s.size + 1) (s.size + 1)) (s.size + 1) X) := Lib.hid ⟨ab, rfl, HX.out.of_block (H1.out.bl.block ab HX.out.lt)⟩
  have HO1 : Hid (BsAt w1 (.slice (some ⟨w.heap.size + 1, 0, none⟩) (s.size + 1) (s.size + 1)) (s.size + 1) (fun _ => false)) := Lib.hid ⟨_, rfl, HR1.out⟩
  go_wp2
  go_loopw [7, 11, 12] (fun v7 v11 v12 wr => ∃ (k : Nat) (O St : Nat → Bool) (mo : Bool), v12 = .bool mo ∧ Hid (Ez w wr (nodeC 4 S (.slice (some ⟨b, o, none⟩) 1 kc))) ∧ Hid (BsAt wr v7 (s.size + 1) O) ∧ Hid (BsAt wr v11 (s.size + 1) St) ∧ Hid (RepI s a X O St 1 k mo)) (fun v7 _ v12 wr => 2 * cntF wr v7 (s.size + 1) + moreN v12)
  case atStart => exact ⟨0, (fun _ => false), X, true, rfl, H1, HO1, HX1, Lib.hid (rep1 s a X)⟩
  case round =>
    clear H1 HR1 HX1 HO1 c0
    obtain ⟨k, O, St, mo, rfl, HZ, HO, HSt, HI⟩ := hrel
    have HMS := Lib.hid HO.out.cnt
    cases mo with
    | false =>
      have HFIN : Hid (∀ j, j ≤ s.size → (O j = true ↔ ∃ m, 1 ≤ m ∧ Ei (bytesN s) a (fun i => X i = true) m j)) := Lib.hid (fun j hj => HI.out.all (by decide) j hj)
      clear HI HSt HK
      go_wp2
      go_ret
      refine ⟨_, O, rfl, HO.out, fun j hj => ?_, HZ.out.bl⟩
      rw [HFIN.out j hj]
      rw [En_plus]; exact ⟨fun ⟨m, h0, h⟩ => ⟨m - 1, by rwa [show m - 1 + 1 = m by omega]⟩, fun ⟨m, h⟩ => ⟨m + 1, by omega, h⟩⟩
    | true =>
      have q257 := HZ.out.cell (nodeC_kids 4 S (.slice (some ⟨b, o, none⟩) 1 kc))
      have hbw := HB0.out.trans (HZ.out.bl.mono HB0.out.size)
      have HAT := Lib.hid (range_later HA0.out hbw hbl)
      have ke := HK.out wr hbw u11 St HSt.out
      clear hbw
      go_wp2_with ((with_reducible refine wpList_loadN rfl _ rfl _ rfl b o ?hx x ?hc hlen ?_); (case hx => rfl); (case hc => exact HAT.out))
      refine ke.mono ?_
      rintro e w4 ⟨v', St', rfl, hY', hE', hb4⟩
      have HZ4 := Lib.hid (HZ.out.below hb4)
      have HO4 := Lib.hid (HO.out.later hb4)
      have HI2 := Lib.hid (HI.out.next (by decide) hE')
      have HS4 := Lib.hid hY'
      clear ke hY' hE' hb4 q257 HAT HZ HO HSt HI
      obtain ⟨sb, rfl, hsb⟩ := HS4.out
      obtain ⟨ob, hob, hobr⟩ := HO4.out
      have HSB := Lib.hid hsb
      have HOB := Lib.hid hobr
      clear hsb hobr
      subst hob
      go_wp2
      go_loopw [12, 13] (fun v12 v13 wr => ∃ i : Nat, v12 = .bool (newB St' O i) ∧ v13 = .int .i64 (i : Nat) ∧ i ≤ s.size + 1 ∧ wr = w4) (fun _ v _ => s.size + 2 - (intOf v).toNat)
      case atStart => exact ⟨0, rfl, rfl, Nat.zero_le _, rfl⟩
      case round =>
        obtain ⟨i, rfl, rfl, hi, rfl⟩ := hrel
        by_cases h : i < s.size + 1
        · have qs := HSB.out.cell h
          have qo := HOB.out.cell h
          have hi0 : (0 : Int) ≤ (i : Int) := by omega
          have hi1 : (i : Int) < ((s.size + 1 : Nat) : Int) := by omega
          have HNS := Lib.hid (newB_succ St' O i)
          generalize newB St' O i = N1 at *
          clear HI2 HK
          cases N1 with
          | true =>
            go_wp2
            go_roundw
            case rel => exact ⟨i + 1, by rw [HNS.out]; rfl, by go_num, by omega, by first | rfl | trivial⟩
            case measure => (simp [intOf]; try omega)
          | false =>
            cases hS1 : St' i with
            | false =>
              rw [hS1] at qs
              go_wp2
              go_roundw
              case rel => exact ⟨i + 1, by rw [HNS.out, hS1]; rfl, by go_num, by omega, by first | rfl | trivial⟩
              case measure => (simp [intOf]; try omega)
            | true =>
              rw [hS1] at qs
              cases hO1 : O i with
              | false =>
                rw [hO1] at qo
                go_wp2
                go_roundw
                case rel => exact ⟨i + 1, by rw [HNS.out, hS1, hO1]; rfl, by go_num, by omega, by first | rfl | trivial⟩
                case measure => (simp [intOf]; try omega)
              | true =>
                rw [hO1] at qo
                go_wp2
                go_roundw
                case rel => exact ⟨i + 1, by rw [HNS.out, hS1, hO1]; rfl, by go_num, by omega, by first | rfl | trivial⟩
                case measure => (simp [intOf]; try omega)
        · obtain rfl : i = s.size + 1 := by omega
          have hi1 : ¬ ((s.size + 1 : Nat) : Int) < ((s.size + 1 : Nat) : Int) := by omega
          have kb := both_any (s.size + 1) O St' _ _ wr HO4.out HS4.out (by omega)
          clear HSB HOB HK
          obtain ⟨N1, hN1⟩ : ∃ N1, newB St' O (s.size + 1) = N1 := ⟨_, rfl⟩
          have HN1 := Lib.hid hN1
          rw [hN1]
          clear hN1
          go_wp2_with fail
          refine kb.mono ?_
          rintro e w5 ⟨v2, rfl, hY2, hb5⟩
          have HZ5 := Lib.hid (HZ4.out.below hb5)
          have HO5 := Lib.hid hY2
          have HS5 := Lib.hid (HS4.out.later hb5)
          clear kb hY2 hb5
          go_wp2
          go_roundw
          case rel => exact ⟨k + 1, fun j => O j || St' j, St', N1, rfl, HZ5, HO5, HS5, Lib.hid (by have := HI2.out; rwa [HN1.out] at this)⟩
          case measure =>
            rw [HO5.out.cnt, HMS.out, ← HN1.out]
            exact RepI.less
end Go.Proofs.YtcfococinllcmaaGreat

/- The reference's ends of any tree; Fits: contracts. -/
namespace Go.Proofs.YtcfococinllcmaaGreat
open Go.RowKit
def EndsM (w : World) (s : ByteArray) (md : Nat) (l : List (List Value)) (a : Re) : Prop :=
  if md = 0 then ∀ x, l = [x] → EndsK w s x a
  else if md = 1 then ∃ bs : List Re, bs.length = l.length ∧ a = bs.foldl Re.alt .no ∧ ∀ i (h : i < l.length) (h2 : i < bs.length), EndsK w s l[i] bs[i]
  else ∃ bs : List Re, bs.length = l.length ∧ a = bs.foldl Re.cat .eps ∧ ∀ i (h : i < l.length) (h2 : i < bs.length), EndsK w s l[i] bs[i]
theorem ends_snoc {w : World} {s : ByteArray} {l : List (List Value)} {bs : List Re} {x : List Value} {b : Re} (h1 : bs.length = l.length) (h3 : ∀ i (h : i < l.length) (h2 : i < bs.length), EndsK w s l[i] bs[i]) (hx : EndsK w s x b) :
    ∀ i (h : i < (l ++ [x]).length) (h2 : i < (bs ++ [b]).length), EndsK w s (l ++ [x])[i] (bs ++ [b])[i] := by
  intro i h h2
  by_cases hi : i < l.length
  · rw [List.getElem_append_left hi, List.getElem_append_left (by omega)]
    exact h3 i hi (by omega)
  · have e : i = l.length := by rw [List.length_append, List.length_singleton] at h; omega
    subst e
    have e1 : (l ++ [x])[l.length] = x := by simp
    have e2 : (bs ++ [b])[l.length]'h2 = b := by
      have : (bs ++ [b])[bs.length]'(by simp) = b := by simp
      simp only [← h1]
      exact this
    rw [e1, e2]
    exact hx
theorem ends_all {w : World} {P : Nat → Prop} {md : Nat} {l : List (List Value)} {a : Re} (h : NA w P md l a) (s : ByteArray) (hs : s.size ≤ 900) : EndsM w s md l a := by
  induction h with
  | set S kv =>
    unfold EndsM
    rw [if_pos rfl]
    intro x hx
    cases hx
    exact ends_set w s S kv hs
  | alts h1 h2 ih =>
    unfold EndsM at ih ⊢
    rw [if_neg (by decide), if_pos rfl] at ih
    rw [if_pos rfl]
    obtain ⟨bs, e1, rfl, e3⟩ := ih
    intro x hx
    cases hx
    exact ends_alts w s _ _ _ _ bs ⟨h2, e1, e3⟩ hs
  | row h1 h2 ih =>
    unfold EndsM at ih ⊢
    rw [if_neg (by decide), if_neg (by decide)] at ih
    rw [if_pos rfl]
    obtain ⟨bs, e1, rfl, e3⟩ := ih
    intro x hx
    cases hx
    exact ends_row w s _ _ _ _ bs ⟨h2, e1, e3⟩ hs
  | star h1 h2 ih =>
    unfold EndsM at ih ⊢
    rw [if_pos rfl] at ih ⊢
    intro x hx
    cases hx
    exact ends_star w s _ _ _ _ _ h2 (ih _ rfl) hs
  | plus h1 h2 ih =>
    unfold EndsM at ih ⊢
    rw [if_pos rfl] at ih ⊢
    intro x hx
    cases hx
    exact ends_plus w s _ _ _ _ _ h2 (ih _ rfl) hs
  | opt h1 h2 ih =>
    unfold EndsM at ih ⊢
    rw [if_pos rfl] at ih ⊢
    intro x hx
    cases hx
    exact ends_opt w s _ _ _ _ _ h2 (ih _ rfl) hs
  | a0 =>
    unfold EndsM
    rw [if_neg (by decide), if_pos rfl]
    exact ⟨[], rfl, rfl, fun i h => absurd h (by simp)⟩
  | a1 h1 h2 ih1 ih2 =>
    unfold EndsM at ih1 ih2 ⊢
    rw [if_neg (by decide), if_pos rfl] at ih1 ⊢
    rw [if_pos rfl] at ih2
    obtain ⟨bs, e1, rfl, e3⟩ := ih1
    exact ⟨bs ++ [_], by simp [e1], by rw [List.foldl_append]; rfl, ends_snoc e1 e3 (ih2 _ rfl)⟩
  | r0 =>
    unfold EndsM
    rw [if_neg (by decide), if_neg (by decide)]
    exact ⟨[], rfl, rfl, fun i h => absurd h (by simp)⟩
  | r1 h1 h2 ih1 ih2 =>
    unfold EndsM at ih1 ih2 ⊢
    rw [if_neg (by decide), if_neg (by decide)] at ih1 ⊢
    rw [if_pos rfl] at ih2
    obtain ⟨bs, e1, rfl, e3⟩ := ih1
    exact ⟨bs ++ [_], by simp [e1], by rw [List.foldl_append]; rfl, ends_snoc e1 e3 (ih2 _ rfl)⟩
theorem ends_is {w : World} {P : Nat → Prop} {x : List Value} {a : Re} (h : NA w P 0 [x] a) (s : ByteArray) (hs : s.size ≤ 900) : EndsK w s x a := by
  have := ends_all h s hs
  unfold EndsM at this
  rw [if_pos rfl] at this
  exact this x rfl
theorem En_whole (s : ByteArray) (a : Re) (X : Nat → Bool) (hX : ∀ i, X i = decide (i = 0)) : En (bytesN s) a (fun i => X i = true) s.size ↔ Lr a (bytesN s) := by
  have e : sl (bytesN s) 0 s.size = bytesN s := by
    unfold sl
    rw [List.drop_zero, Nat.sub_zero, List.take_of_length_le (by rw [bytesN_len]; exact Nat.le_refl _)]
  constructor
  · rintro ⟨_, i, _, h2, h3⟩
    rw [hX] at h2
    obtain rfl : i = 0 := of_decide_eq_true h2
    rwa [e] at h3
  · intro h
    exact ⟨by rw [bytesN_len]; exact Nat.le_refl _, 0, Nat.zero_le _, by show X 0 = true; rw [hX]; rfl, by rw [e]; exact h⟩
set_option maxHeartbeats 3200000 in
set_option maxRecDepth 100000 in
theorem rtree_any (w : World) (P : Nat → Prop) (x : List Value) (a : Re) (s : ByteArray) (h : NA w P 0 [x] a) (hl : x.length = 258) (hs : s.size ≤ 900) :
    Calls Tryz.prog 99 #[.agg x.toArray, .string s] w fun e w' => ∃ b : Bool, e = .returned (.bool b) ∧ (b = true ↔ Lr a (bytesN s)) ∧ Below w.heap.size w w' := by
  have hk := ends_is h s hs
  obtain ⟨i0, hi, hz0, hz1, hz2⟩ := info_parts info_bool
  have HK := Lib.hid hk
  have HE := Lib.hid (Ez.new w x 148 4 (madeCells #[.bool false] (s.size + 1)))
  have HR := Lib.hid (row_new w x.toArray 148 (s.size + 1))
  clear hk h
  go_enter Tryz.func99, Tryz.ntmps99
  go_upto_region 2 with (first
    | ((with_reducible refine Great.wpList_boxTo rfl _ _ rfl _ rfl w.heap.size rfl x.toArray ?hx ?_); (case hx => rfl))
    | ((with_reducible refine wpList_make_row _ rfl _ _ 185 rfl 4 i0 (.bool false) Tryz.underlying185 hi hz0 hz1 rfl .i64 .i64 (s.size + 1) ?hl ?hc ?hb ?h63 ?_); (case hl => rfl); (case hc => rfl); (case hb => rw [hz2]; omega); (case h63 => omega)))
  (try simp only [World.size_alloc])
  refine wp_forget3 (fun W => Ez w W x ∧ W.rowIs (w.heap.size + 1) 4 (s.size + 1) (fun j => .bool ((fun _ => false) j))) ⟨HE.out, HR.out⟩ (fun w1 hw1 => ?_)
  have H1 := Lib.hid hw1.1
  have HR1 := Lib.hid hw1.2
  have qo := HR1.out.cell (show 0 < s.size + 1 by omega)
  have fo := HR1.out.frozen 0
  clear hw1 HE HR
  go_upto_region 3 with fail
  refine wp_forget3 (fun W => Ez w W x ∧ BsAt W (.slice (some ⟨w.heap.size + 1, 0, none⟩) (s.size + 1) (s.size + 1)) (s.size + 1) (fun j => decide (j = 0))) ⟨H1.out.set (by omega) 0 (.bool true), _, rfl, (bs_put HR1.out 0 true).congr (fun j _ => by by_cases e : j = 0 <;> simp [e])⟩ (fun w2 hw2 => ?_)
  have H2 := Lib.hid hw2.1
  have HX2 := Lib.hid hw2.2
  clear hw2 H1 HR1 qo fo
  have ke := HK.out w2 H2.out.bl _ _ HX2.out
  go_wp2_with ((with_reducible refine wpList_loadN rfl _ rfl _ rfl w.heap.size 0 ?hx x ?hc hl ?_); (case hx => rfl); (case hc => exact H2.out.at_))
  refine ke.mono ?_
  rintro e w3 ⟨v', Y, rfl, ⟨sb, rfl, hsb⟩, hE, hb⟩
  have q := hsb.cell (show s.size < s.size + 1 by omega)
  have HF : Hid (Y s.size = true ↔ Lr a (bytesN s)) := Lib.hid ((hE s.size (Nat.le_refl _)).trans (En_whole s a _ (fun _ => rfl)))
  have HB := Lib.hid (H2.out.below hb).bl
  generalize Y s.size = y at *
  clear ke hE hb hsb H2 HX2 HK
  go_wp2
  go_ret
  exact ⟨y, rfl, HF.out, HB.out⟩
end Go.Proofs.YtcfococinllcmaaGreat

/- Runes of a text, and its bytes: a predicate that holds of ASCII alone is found at a rune where it is found at a byte. No program in sight. -/
namespace Go.Proofs.YtcfococinllcmaaGreat
open Go.RowKit
theorem get!_B (s : ByteArray) (j : Nat) (h : j < s.size) : s.get! j = s[j] := by
  simp [ByteArray.get!, h, getElem!_pos]; rfl
theorem decode_high (s : ByteArray) (pos : Nat) (h : pos < s.size) (ha : 128 ≤ (s[pos]'h).toNat) :
    128 ≤ (Utf8.decode s pos).1 ∧ 1 ≤ (Utf8.decode s pos).2 ∧ pos + (Utf8.decode s pos).2 ≤ s.size ∧
    ∀ j (hj : j < s.size), pos ≤ j → j < pos + (Utf8.decode s pos).2 → 128 ≤ (s[j]'hj).toNat := by
  have g0 : (s.get! (pos + 0)).toNat = (s[pos]'h).toNat := by rw [Nat.add_zero, get!_B s pos h]
  have one : ∀ r : Nat, 128 ≤ r → 128 ≤ ((r, 1) : Nat × Nat).1 ∧ 1 ≤ ((r, 1) : Nat × Nat).2 ∧ pos + ((r, 1) : Nat × Nat).2 ≤ s.size ∧
      ∀ j (hj : j < s.size), pos ≤ j → j < pos + ((r, 1) : Nat × Nat).2 → 128 ≤ (s[j]'hj).toNat := by
    intro r hr
    refine ⟨hr, Nat.le_refl _, h, fun j hj h1 h2 => ?_⟩
    obtain rfl : j = pos := by simp at h2; omega
    exact ha
  have cc : ∀ k, (decide (pos + k < s.size) && ((s.get! (pos + k)).toNat / 64 == 2)) = true → ∃ hk : pos + k < s.size, 128 ≤ (s[pos + k]'hk).toNat := by
    intro k hk
    simp only [Bool.and_eq_true, decide_eq_true_eq, beq_iff_eq] at hk
    refine ⟨hk.1, ?_⟩
    rw [← get!_B s (pos + k) hk.1]
    omega
  unfold Utf8.decode
  simp only [g0]
  rw [if_neg (by omega)]
  split
  · rename_i h2
    simp only [Bool.and_eq_true] at h2
    obtain ⟨k1, c1⟩ := cc 1 (by simpa using h2.2)
    split
    · refine ⟨by assumption, by simp, by simp; omega, fun j hj h1 h2 => ?_⟩
      simp at h2
      rcases (show j = pos ∨ j = pos + 1 by omega) with rfl | rfl
      · exact ha
      · exact c1
    · exact one _ (by decide)
  split
  · rename_i h2
    simp only [Bool.and_eq_true] at h2
    obtain ⟨k1, c1⟩ := cc 1 (by simpa using h2.1.2)
    obtain ⟨k2, c2⟩ := cc 2 (by simpa using h2.2)
    split
    · rename_i h3
      simp only [Bool.and_eq_true, decide_eq_true_eq] at h3
      refine ⟨by have := h3.1; simp at this ⊢; omega, by simp, by simp; omega, fun j hj h1 h2 => ?_⟩
      simp at h2
      rcases (show j = pos ∨ j = pos + 1 ∨ j = pos + 2 by omega) with rfl | rfl | rfl
      · exact ha
      · exact c1
      · exact c2
    · exact one _ (by decide)
  split
  · rename_i h2
    simp only [Bool.and_eq_true] at h2
    obtain ⟨k1, c1⟩ := cc 1 (by simpa using h2.1.1.2)
    obtain ⟨k2, c2⟩ := cc 2 (by simpa using h2.1.2)
    obtain ⟨k3, c3⟩ := cc 3 (by simpa using h2.2)
    split
    · rename_i h3
      simp only [Bool.and_eq_true, decide_eq_true_eq] at h3
      refine ⟨by have := h3.1; simp at this ⊢; omega, by simp, by simp; omega, fun j hj h1 h2 => ?_⟩
      simp at h2
      rcases (show j = pos ∨ j = pos + 1 ∨ j = pos + 2 ∨ j = pos + 3 by omega) with rfl | rfl | rfl | rfl
      · exact ha
      · exact c1
      · exact c2
      · exact c3
    · exact one _ (by decide)
  · exact one _ (by decide)
theorem idxFuncFrom_bytes (p : Nat → Bool) (d : Bool) (hp : ∀ x, 128 ≤ x → p x = d) (s : ByteArray) : ∀ (f pos : Nat), s.size ≤ pos + f →
    (decide (0 ≤ Lib.idxFuncFrom p true s f pos)) = ((B s).drop pos).any (fun c => p c.toNat)
  | 0, pos, h => by
    rw [List.drop_of_length_le (by rw [len_B]; omega)]
    rfl
  | f + 1, pos, h => by
    unfold Lib.idxFuncFrom
    by_cases hps : pos < s.size
    · rw [if_pos hps]
      by_cases ha : (s[pos]'hps).toNat < 128
      · rw [decode_ascii s pos hps ha]
        have ed : (B s).drop pos = s[pos] :: (B s).drop (pos + 1) := by
          rw [List.drop_eq_getElem_cons (by rw [len_B]; exact hps)]; rfl
        rw [ed, List.any_cons]
        by_cases hpp : p (s[pos]).toNat = true
        · rw [if_pos hpp, hpp]; simp
        · rw [if_neg hpp, idxFuncFrom_bytes p d hp s f (pos + 1) (by omega)]
          simp [Bool.eq_false_iff.2 hpp]
      · obtain ⟨d1, d2, d3, d4⟩ := decode_high s pos hps (by omega)
        cases d
        case true =>
          rw [if_pos (hp _ d1)]
          have ed : (B s).drop pos = s[pos] :: (B s).drop (pos + 1) := by
            rw [List.drop_eq_getElem_cons (by rw [len_B]; exact hps)]; rfl
          rw [ed, List.any_cons, hp _ (by omega)]
          simp
        rw [if_neg (by rw [hp _ d1]; decide), idxFuncFrom_bytes p false hp s f _ (by omega)]
        generalize (Utf8.decode s pos).2 = w at *
        have ed : (B s).drop pos = ((B s).drop pos).take w ++ (B s).drop (pos + w) := by
          rw [← List.drop_drop]; exact (List.take_append_drop _ _).symm
        rw [ed, List.any_append]
        have : (((B s).drop pos).take w).any (fun c => p c.toNat) = false := by
          rw [List.any_eq_false]
          intro x hx
          obtain ⟨i, hi, rfl⟩ := List.getElem_of_mem hx
          simp only [List.getElem_take, List.getElem_drop]
          have hi' : i < w := by rw [List.length_take] at hi; omega
          have := d4 (pos + i) (by omega) (by omega) (by omega)
          rw [Bool.not_eq_true]; exact hp _ this
        rw [this]; rfl
    · rw [if_neg hps, List.drop_of_length_le (by rw [len_B]; omega)]
      rfl
theorem idxFunc_bytes (p : Nat → Bool) (d : Bool) (hp : ∀ x, 128 ≤ x → p x = d) (s : ByteArray) :
    (decide (0 ≤ Lib.idxFunc p true s)) = (B s).any (fun c => p c.toNat) := by
  rw [Lib.idxFunc, idxFuncFrom_bytes p d hp s s.size 0 (by omega)]; rfl
end Go.Proofs.YtcfococinllcmaaGreat

/- match.Name: a contract. -/
namespace Go.Proofs.YtcfococinllcmaaGreat
open Go.RowKit
def oddN (x : Nat) : Bool := ((x : Int) != 95) && (decide ((x : Int) < 97) || decide (122 < (x : Int))) && (decide ((x : Int) < 48) || decide (57 < (x : Int)))
def digN (x : Nat) : Bool := decide (48 ≤ (x : Int)) && decide ((x : Int) ≤ 57)
def nameL (l : List UInt8) : Bool := !l.isEmpty && decide (l.length ≤ 12) && !(l.head?.any fun c => digN c.toNat) && !(l.any fun c => oddN c.toNat)
set_option maxHeartbeats 400000 in
theorem nodd_any (x : Nat) (hx : x ≤ 1114111) (w : World) :
    Calls Tryz.prog 86 #[.int .i32 x] w fun e w' => e = .returned (.bool (oddN x)) ∧ ∃ q, w' = w.drewN q := by
  have H : Hid (oddN x = (((x : Int) != 95) && (decide ((x : Int) < 97) || decide (122 < (x : Int))) && (decide ((x : Int) < 48) || decide (57 < (x : Int))))) := rfl
  cases h1 : ((x : Int) != 95)
  · go_enter Tryz.func86, Tryz.ntmps86
    go_wp2
    go_ret
    exact ⟨by rw [H.out, h1]; rfl, 0, rfl⟩
  · rcases (show (x : Int) < 48 ∨ (48 ≤ (x : Int) ∧ (x : Int) ≤ 57) ∨ (57 < (x : Int) ∧ (x : Int) < 97) ∨ (97 ≤ (x : Int) ∧ (x : Int) ≤ 122) ∨ 122 < (x : Int) by omega) with h | ⟨h, h'⟩ | ⟨h, h'⟩ | ⟨h, h'⟩ | h
    all_goals
      go_enter Tryz.func86, Tryz.ntmps86
      go_wp2
      go_ret
      refine ⟨?_, 0, rfl⟩
      rw [H.out, h1]
      first
        | (rw [decide_eq_true (show (x : Int) < 97 by omega), decide_eq_true (show (x : Int) < 48 by omega)]; rfl)
        | (rw [decide_eq_true (show (x : Int) < 97 by omega), decide_eq_false (show ¬ (x : Int) < 48 by omega), decide_eq_false (show ¬ 57 < (x : Int) by omega)]; rfl)
        | (rw [decide_eq_true (show (x : Int) < 97 by omega), decide_eq_false (show ¬ (x : Int) < 48 by omega), decide_eq_true (show 57 < (x : Int) by omega)]; rfl)
        | (rw [decide_eq_false (show ¬ (x : Int) < 97 by omega), decide_eq_false (show ¬ 122 < (x : Int) by omega)]; rfl)
        | (rw [decide_eq_false (show ¬ (x : Int) < 97 by omega), decide_eq_true (show 122 < (x : Int) by omega), decide_eq_false (show ¬ (x : Int) < 48 by omega), decide_eq_true (show 57 < (x : Int) by omega)]; rfl)
theorem name_odd (s : ByteArray) (w : World) :
    Calls Tryz.prog 85 #[.string s, .func (.func 86) #[] #[]] w fun e w' => e = .returned (.bool ((B s).any fun c => oddN c.toNat)) ∧ Below w.heap.size w w' := by
  have h := Tryz.strings_ContainsFunc_runes 86 #[] (enters_of Tryz.func86 (by kernel_rfl) rfl) oddN s w (fun W x hx _ => nodd_any x hx W)
  rw [idxFunc_bytes oddN true (fun x hx => by
    have h1 : ((x : Int) != 95) = true := by rw [bne_iff_ne]; omega
    have h2 : decide (122 < (x : Int)) = true := by rw [decide_eq_true_eq]; omega
    have h3 : decide (57 < (x : Int)) = true := by rw [decide_eq_true_eq]; omega
    rw [oddN, h1, h2, h3]; simp) s] at h
  exact h
set_option maxHeartbeats 400000 in
theorem name_any (s : ByteArray) (w : World) (hs : s.size ≤ maxLen) :
    Calls Tryz.prog 50 #[.string s] w fun e w' => e = .returned (.bool (nameL (B s))) ∧ Below w.heap.size w w' := by
  unfold maxLen at hs
  by_cases h0 : s.toList = []
  · have HR : Hid (nameL (B s) = false) := by
      show _ = _
      rw [← toList_B, h0]; rfl
    go_enter Tryz.func50, Tryz.ntmps50
    go_wp2
    go_ret
    exact ⟨by rw [HR.out]; rfl, Below.refl _ _⟩
  have h0' : s.toList.isEmpty = false := by simpa using h0
  have hpos : 0 < s.size := by rw [← len_B, ← toList_B]; exact List.length_pos_iff.2 h0
  by_cases h12 : 12 < s.size
  · have HR : Hid (nameL (B s) = false) := by
      show _ = _
      rw [nameL, decide_eq_false (by rw [len_B]; omega)]
      simp
    clear h0
    go_enter Tryz.func50, Tryz.ntmps50
    go_wp2
    go_ret
    exact ⟨by rw [HR.out]; rfl, Below.refl _ _⟩
  have hh : (B s).head? = some s[0] := by rw [List.head?_eq_getElem?]; exact List.getElem?_eq_getElem (by rw [len_B]; exact hpos)
  by_cases hd : (48 : Int) ≤ (s[0].toNat : Int) ∧ (s[0].toNat : Int) ≤ 57
  · obtain ⟨hd1, hd2⟩ := hd
    have HR : Hid (nameL (B s) = false) := by
      show _ = _
      have e2 : digN s[0].toNat = true := by
        simp only [digN, Bool.and_eq_true, decide_eq_true_eq]; omega
      rw [nameL, hh]
      simp [e2]
    clear h0 hh
    go_enter Tryz.func50, Tryz.ntmps50
    go_wp2
    go_ret
    exact ⟨by rw [HR.out]; rfl, Below.refl _ _⟩
  · have HR : Hid (nameL (B s) = !((B s).any fun c => oddN c.toNat)) := by
      show _ = _
      have e1 : (B s).isEmpty = false := by rw [← toList_B]; exact h0'
      have e2 : digN s[0].toNat = false := by
        simp only [digN, Bool.and_eq_false_iff, decide_eq_false_iff_not]; omega
      rw [nameL, hh, e1, decide_eq_true (by rw [len_B]; omega)]
      simp [e2]
    have hodd := name_odd s w
    generalize ((B s).any fun c => oddN c.toNat) = o at *
    clear h0 hh
    rcases (show (s[0].toNat : Int) < 48 ∨ ((48 : Int) ≤ (s[0].toNat : Int) ∧ 57 < (s[0].toNat : Int)) by omega) with h | ⟨h, h'⟩
    all_goals
      clear hd
      go_enter Tryz.func50, Tryz.ntmps50
      go_wp2_with (go_at_call 85; refine hodd.mono ?_; rintro e w' ⟨rfl, hb⟩)
      go_ret
      exact ⟨by rw [HR.out]; rfl, hb⟩
end Go.Proofs.YtcfococinllcmaaGreat

/- Slices of integers that are read. No program in sight. -/
namespace Go.Proofs.YtcfococinllcmaaGreat
open Go.RowKit
abbrev I (x : Int) : Value := .int .i64 x
def IntsAt (w : World) (v : Value) (l : List Int) : Prop := RdAt w v l.length 1 (l.map I)
theorem IntsAt.nil (w : World) : IntsAt w (.slice none 0 0) [] := RdAt.nil w 1
theorem IntsAt.later {w w' : World} {v : Value} {l : List Int} (h : IntsAt w v l) (hb : Below w.heap.size w w') : IntsAt w' v l := RdAt.later h hb
theorem IntsAt.own {w : World} {base : Nat} {e : TypeId} {v : Value} {l : List Int} (h : w.ownsRow base e 1 v l.length (l.map I)) : IntsAt w v l := RdAt.own h
theorem IntsAt.cells {w : World} {v : Value} {l : List Int} (h : IntsAt w v l) (hne : l ≠ []) : ∃ b o c, v = .slice (some ⟨b, o, none⟩) l.length c ∧ l.length ≤ c ∧ b < w.heap.size ∧ ∀ j x, l[j]? = some x → w.cell? ⟨b, o + j, none⟩ = some (I x) := by
  obtain ⟨b, o, c, hv, hc, hlt, hcell⟩ := RdAt.some h (List.length_pos_iff.2 hne)
  exact ⟨b, o, c, hv, hc, hlt, fun j x hx => hcell j _ (by rw [List.getElem?_map, hx]; rfl)⟩
end Go.Proofs.YtcfococinllcmaaGreat

/- Several parts in one: Labels, said plainly: a level and 32 teams as the bits of a number. No program in sight. label.Right and label.Flows: contracts. -/
namespace Go.Proofs.YtcfococinllcmaaGreat
open Go.RowKit
def rightL (l : Int) : Bool := decide (0 ≤ l ∧ l ≤ 7)
def teamsN (c n : Nat) : List Nat := (List.range n).filter fun k => c.testBit k
def subB (c d : Nat) : Bool := (List.range 32).all fun k => !c.testBit k || d.testBit k
def flowsL (l : Int) (c : Nat) (m : Int) (d : Nat) : Bool := rightL l && rightL m && decide (l ≤ m) && subB c d
def sumN (l : List Nat) : Nat := l.foldl (fun a k => a + 2 ^ k) 0
theorem sumN_snoc (l : List Nat) (k : Nat) : sumN (l ++ [k]) = sumN l + 2 ^ k := by simp [sumN, List.foldl_append]
theorem sum_bits (p : Nat → Bool) (n : Nat) : sumN ((List.range n).filter p) < 2 ^ n ∧ ∀ j, (sumN ((List.range n).filter p)).testBit j = (decide (j < n) && p j) := by
  induction n with
  | zero => simp [sumN]
  | succ n ih =>
    obtain ⟨h1, h2⟩ := ih
    rw [List.range_succ, List.filter_append]
    cases hp : p n with
    | false =>
      have e : List.filter p [n] = [] := by simp [hp]
      rw [e, List.append_nil]
      refine ⟨Nat.lt_trans h1 (Nat.pow_lt_pow_right (by decide) (Nat.lt_succ_self n)), fun j => ?_⟩
      rw [h2]
      by_cases hj : j = n
      · subst hj; simp [hp]
      · by_cases h : j < n
        · simp [h, show j < n + 1 by omega]
        · simp [h, show ¬ j < n + 1 by omega]
    | true =>
      have e : List.filter p [n] = [n] := by simp [hp]
      rw [e, sumN_snoc]
      have hlt : sumN ((List.range n).filter p) + 2 ^ n < 2 ^ (n + 1) := by rw [Nat.pow_succ]; omega
      refine ⟨hlt, fun j => ?_⟩
      rcases Nat.lt_trichotomy j n with h | h | h
      · rw [Nat.add_comm, Nat.testBit_two_pow_add_gt h, h2]
        simp [h, show j < n + 1 by omega]
      · subst h
        rw [Nat.add_comm, Nat.testBit_two_pow_add_eq, h2]
        simp [hp]
      · rw [Nat.testBit_lt_two_pow (Nat.lt_of_lt_of_le hlt (Nat.pow_le_pow_right (by decide) h))]
        simp [show ¬ j < n + 1 by omega]
theorem bits_eq {a b : Nat} (ha : a < 2 ^ 32) (hb : b < 2 ^ 32) (h : ∀ k, k < 32 → a.testBit k = b.testBit k) : a = b := by
  apply Nat.eq_of_testBit_eq
  intro k
  by_cases hk : k < 32
  · exact h k hk
  · rw [Nat.testBit_lt_two_pow (Nat.lt_of_lt_of_le ha (Nat.pow_le_pow_right (by decide) (by omega))), Nat.testBit_lt_two_pow (Nat.lt_of_lt_of_le hb (Nat.pow_le_pow_right (by decide) (by omega)))]
theorem teams_or {c d : Nat} (hc : c < 2 ^ 32) (hd : d < 2 ^ 32) : sumN ((List.range 32).filter fun k => c.testBit k || d.testBit k) = c ||| d := by
  obtain ⟨h1, h2⟩ := sum_bits (fun k => c.testBit k || d.testBit k) 32
  exact bits_eq h1 (Nat.or_lt_two_pow hc hd) (fun k hk => by rw [h2, Nat.testBit_or]; simp [hk])
theorem teams_step (c k : Nat) : teamsN c (k + 1) = teamsN c k ++ (if c / 2 ^ k % 2 = 1 then [k] else []) := by
  unfold teamsN
  rw [List.range_succ, List.filter_append]
  congr 1
  have e : c.testBit k = decide (c / 2 ^ k % 2 = 1) := Nat.testBit_eq_decide_div_mod_eq
  by_cases h : c / 2 ^ k % 2 = 1
  · simp [e, h]
  · simp [e, h]
theorem mem_teams {c n k : Nat} : k ∈ teamsN c n ↔ k < n ∧ c.testBit k = true := by simp [teamsN]
theorem sub_iff {c d : Nat} : subB c d = true ↔ ∀ k ∈ teamsN c 32, k ∈ teamsN d 32 := by
  unfold subB
  rw [List.all_eq_true]
  constructor
  · intro h k hk
    obtain ⟨h1, h2⟩ := mem_teams.1 hk
    have := h k (List.mem_range.2 h1)
    rw [h2] at this
    exact mem_teams.2 ⟨h1, by simpa using this⟩
  · intro h k hk
    have hk' := List.mem_range.1 hk
    cases hc : c.testBit k with
    | false => simp
    | true =>
      have := (mem_teams.1 (h k (mem_teams.2 ⟨hk', hc⟩))).2
      simp [this]
theorem andNot_zero {c d : Nat} : (BitVec.ofNat 32 c &&& ~~~ BitVec.ofNat 32 d).toNat = 0 ↔ subB c d = true := by
  unfold subB
  rw [List.all_eq_true]
  have hz : (BitVec.ofNat 32 c &&& ~~~ BitVec.ofNat 32 d).toNat = 0 ↔ (BitVec.ofNat 32 c &&& ~~~ BitVec.ofNat 32 d) = 0#32 := by
    constructor
    · intro h; exact BitVec.eq_of_toNat_eq (by simpa using h)
    · intro h; rw [h]; rfl
  rw [hz]
  have hg : ∀ (x k : Nat) (_ : k < 32), (BitVec.ofNat 32 x).getLsbD k = x.testBit k := fun x k hk => by rw [BitVec.getLsbD_ofNat]; simp [hk]
  constructor
  · intro h k hk
    have hk' := List.mem_range.1 hk
    have h1 := congrArg (fun x => x.getLsbD k) h
    simp only [BitVec.getLsbD_and, BitVec.getLsbD_not, hg _ _ hk', hk', decide_true, Bool.true_and] at h1
    revert h1
    cases c.testBit k <;> cases d.testBit k <;> simp
  · intro h
    apply BitVec.eq_of_getLsbD_eq
    intro k hk
    have h1 := h k (List.mem_range.2 hk)
    simp only [BitVec.getLsbD_and, BitVec.getLsbD_not, hg _ _ hk, hk, decide_true, Bool.true_and]
    revert h1
    cases c.testBit k <;> cases d.testBit k <;> simp
end Go.Proofs.YtcfococinllcmaaGreat
namespace Go.Proofs.YtcfococinllcmaaGreat
open Go.RowKit
abbrev Lab (l : Int) (c : Nat) : Value := .agg #[.int .i64 l, .int .u32 c]
set_option maxHeartbeats 400000 in
theorem right_any (l : Int) (c : Nat) (w : World) :
    Calls Tryz.prog 51 #[Lab l c] w fun e w' => e = .returned (.bool (rightL l)) ∧ Below w.heap.size w w' := by
  rcases (show l < 0 ∨ (0 ≤ l ∧ l ≤ 7) ∨ 7 < l by omega) with h | ⟨h, h'⟩ | h
  all_goals
    go_enter Tryz.func51, Tryz.ntmps51
    go_wp2
    go_ret
    refine ⟨?_, by first | exact Below.refl _ _ | exact bl_drewN (Below.refl _ _) _ | exact ((Below.refl _ _).alloc (Nat.le_refl _) _)⟩
    first
      | rfl
      | (rw [show rightL l = true from decide_eq_true ⟨by omega, by omega⟩]; simp; omega)
      | (rw [show rightL l = false from decide_eq_false (by omega)]; simp; omega)
      | (rw [show rightL l = false from decide_eq_false (by omega)]; rfl)
      | (rw [show rightL l = true from decide_eq_true ⟨by omega, by omega⟩]; rfl)
theorem bits_andNot_zero (c d : Nat) : (bits BinOp.andNot IntKind.u32 (c : Int) (d : Int) == 0) = subB c d := by
  have h0 := andNot_zero (c := c) (d := d)
  have e : bits BinOp.andNot IntKind.u32 (c : Int) (d : Int) = (((BitVec.ofNat 32 c &&& ~~~ BitVec.ofNat 32 d).toNat : Nat) : Int) := by
    show IntKind.u32.wrap ((BitVec.ofInt 32 (c : Int) &&& ~~~BitVec.ofInt 32 (d : Int)).toNat : Int) = _
    rw [BitVec.ofInt_natCast, BitVec.ofInt_natCast, IntKind.wrap_u32']
    have := (BitVec.ofNat 32 c &&& ~~~ BitVec.ofNat 32 d).isLt
    omega
  rw [e, Bool.eq_iff_iff, ← h0, beq_iff_eq]
  omega
set_option maxHeartbeats 400000 in
theorem flows_any (l : Int) (c : Nat) (m : Int) (d : Nat) (w : World) :
    Calls Tryz.prog 46 #[Lab l c, Lab m d] w fun e w' => e = .returned (.bool (flowsL l c m d)) ∧ Below w.heap.size w w' := by
  have k1 := right_any l c
  have k2 := right_any m d
  have e0 : rightL l = false ∨ rightL m = false ∨ ¬ l ≤ m → flowsL l c m d = false := by
    unfold flowsL
    rintro (h | h | h)
    · rw [h]; rfl
    · rw [h, Bool.and_false]; rfl
    · rw [decide_eq_false h, Bool.and_false]; rfl
  cases h1 : rightL l
  · rw [h1] at k1
    have HF : Hid (flowsL l c m d = false) := e0 (.inl h1)
    clear e0 h1
    go_enter Tryz.func46, Tryz.ntmps46
    go_wp2_with fail
    refine (k1 _).mono ?_
    rintro e w1 ⟨rfl, hb1⟩
    obtain ⟨_, _, _, hB1⟩ := box_two hb1
    go_wp2
    go_ret
    exact ⟨by rw [HF.out]; rfl, hB1⟩
  · rw [h1] at k1
    cases h2 : rightL m
    · rw [h2] at k2
      have HF : Hid (flowsL l c m d = false) := e0 (.inr (.inl h2))
      clear e0 h1 h2
      go_enter Tryz.func46, Tryz.ntmps46
      go_wp2_with fail
      refine (k1 _).mono ?_
      rintro e w1 ⟨rfl, hb1⟩
      obtain ⟨x0, x1, y0, y1, hlt1, hB1⟩ := box22 hb1
      clear hb1
      go_wp2_with fail
      refine (k2 _).mono ?_
      rintro e w2 ⟨rfl, hb2⟩
      have x0' := keep_cell x0 hb2 (by omega)
      have x1' := keep_cell x1 hb2 (by omega)
      have y0' := keep_cell y0 hb2 (by omega)
      have y1' := keep_cell y1 hb2 (by omega)
      have hB2 := hB1.trans (hb2.mono hB1.size)
      clear x0 x1 y0 y1 hb2 hB1
      go_wp2
      go_ret
      exact ⟨by rw [HF.out]; rfl, hB2⟩
    · rw [h2] at k2
      by_cases h3 : l ≤ m
      · have HF : Hid (flowsL l c m d = subB c d) := by
          show _ = _
          unfold flowsL; rw [h1, h2, decide_eq_true h3]; rfl
        clear e0 h1 h2
        go_enter Tryz.func46, Tryz.ntmps46
        go_wp2_with fail
        refine (k1 _).mono ?_
        rintro e w1 ⟨rfl, hb1⟩
        obtain ⟨x0, x1, y0, y1, hlt1, hB1⟩ := box22 hb1
        clear hb1
        go_wp2_with fail
        refine (k2 _).mono ?_
        rintro e w2 ⟨rfl, hb2⟩
        have x0' := keep_cell x0 hb2 (by omega)
        have x1' := keep_cell x1 hb2 (by omega)
        have y0' := keep_cell y0 hb2 (by omega)
        have y1' := keep_cell y1 hb2 (by omega)
        have hB2 := hB1.trans (hb2.mono hB1.size)
        clear x0 x1 y0 y1 hb2 hB1
        go_wp2
        go_ret
        exact ⟨by rw [HF.out, bits_andNot_zero]; rfl, hB2⟩
      · have HF : Hid (flowsL l c m d = false) := e0 (.inr (.inr h3))
        have h4 : m < l := by omega
        clear e0 h1 h2 h3
        go_enter Tryz.func46, Tryz.ntmps46
        go_wp2_with fail
        refine (k1 _).mono ?_
        rintro e w1 ⟨rfl, hb1⟩
        obtain ⟨x0, x1, y0, y1, hlt1, hB1⟩ := box22 hb1
        clear hb1
        go_wp2_with fail
        refine (k2 _).mono ?_
        rintro e w2 ⟨rfl, hb2⟩
        have x0' := keep_cell x0 hb2 (by omega)
        have x1' := keep_cell x1 hb2 (by omega)
        have y0' := keep_cell y0 hb2 (by omega)
        have y1' := keep_cell y1 hb2 (by omega)
        have hB2 := hB1.trans (hb2.mono hB1.size)
        clear x0 x1 y0 y1 hb2 hB1
        go_wp2
        go_ret
        exact ⟨by rw [HF.out]; rfl, hB2⟩
end Go.Proofs.YtcfococinllcmaaGreat

/- slices.Concat at []int: a contract. -/
namespace Go.Proofs.YtcfococinllcmaaGreat
open Go.RowKit Go.Sort
theorem info_int : (Tryz.prog.info? 3).map (fun i => (i.zero, i.size, i.bytes)) = some (some (.int .i64 0), 1, 8) := by kernel_rfl
end Go.Proofs.YtcfococinllcmaaGreat

/- lychgateref01: Right, Teams, has, Flows: contracts. -/
namespace Go.Proofs.YtcfococinllcmaaGreat
open Go.RowKit
set_option maxHeartbeats 400000 in
theorem rright_any (l : Int) (c : Nat) (w : World) :
    Calls Tryz.prog 56 #[Lab l c] w fun e w' => e = .returned (.bool (rightL l)) ∧ Below w.heap.size w w' := by
  rcases (show l < 0 ∨ (0 ≤ l ∧ l ≤ 7) ∨ 7 < l by omega) with h | ⟨h, h'⟩ | h
  all_goals
    go_enter Tryz.func56, Tryz.ntmps56
    go_wp2
    go_ret
    refine ⟨?_, by first | exact Below.refl _ _ | exact bl_drewN (Below.refl _ _) _ | exact ((Below.refl _ _).alloc (Nat.le_refl _) _)⟩
    first
      | rfl
      | (rw [show rightL l = true from decide_eq_true ⟨by omega, by omega⟩]; simp; omega)
      | (rw [show rightL l = false from decide_eq_false (by omega)]; simp; omega)
      | (rw [show rightL l = false from decide_eq_false (by omega)]; rfl)
      | (rw [show rightL l = true from decide_eq_true ⟨by omega, by omega⟩]; rfl)
def teamsI (c n : Nat) : List Int := (teamsN c n).map fun (k : Nat) => (k : Int)
theorem teamsI_step (c k : Nat) : teamsI c (k + 1) = teamsI c k ++ (if c / 2 ^ k % 2 = 1 then [(k : Int)] else []) := by
  unfold teamsI
  rw [teams_step, List.map_append]
  split <;> rfl
theorem teamsN_le (c n : Nat) : (teamsN c n).length ≤ n := by
  have := List.length_filter_le (fun k => c.testBit k) (List.range n)
  rw [List.length_range] at this
  exact this
theorem teamsI_len (c n : Nat) : (teamsI c n).length ≤ n := by unfold teamsI; rw [List.length_map]; exact teamsN_le c n
theorem mem_teamsI {c n : Nat} {k : Nat} : (k : Int) ∈ teamsI c n ↔ k ∈ teamsN c n := by
  unfold teamsI
  rw [List.mem_map]
  constructor
  · rintro ⟨m, hm, h⟩; have : m = k := by exact_mod_cast h
    rwa [← this]
  · intro h; exact ⟨k, h, rfl⟩
set_option maxHeartbeats 1600000 in
set_option maxRecDepth 100000 in
theorem teams_any (l : Int) (c : Nat) (w : World) (hc : c < 4294967296) :
    Calls Tryz.prog 61 #[Lab l c] w fun e w' => ∃ v, e = .returned v ∧ IntsAt w' v (teamsI c 32) ∧ Below w.heap.size w w' := by
  obtain ⟨i0, hi, hz0, hz1, hz2⟩ := info_parts info_int
  go_enter Tryz.func61, Tryz.ntmps61
  go_wp2
  have hb0 := alloc_below w (.cells #[.int .i64 l, .int .u32 c] 26)
  go_loopw [3, 4, 5] (fun v q i wr => ∃ (k r : Nat), i = .int .i64 k ∧ k ≤ 32 ∧ q = .int .u32 r ∧ Hid (r = c / 2 ^ k) ∧ r < 4294967296 ∧ wr.ownsRow w.heap.size 3 1 v (teamsI c k).length ((teamsI c k).map I) ∧ Below w.heap.size w wr) (fun _ _ i _ => 32 - (intOf i).toNat)
  case atStart => exact ⟨0, c, rfl, Nat.zero_le _, rfl, Lib.hid (by simp), hc, World.ownsRow_nil _ _ _ _, hb0⟩
  case round =>
    obtain ⟨k, r, rfl, hk, rfl, HR, hr, hown, hbr⟩ := hrel
    by_cases hkl : k < 32
    · have hI : (k : Int) < 32 := by omega
      have q1 : ((r : Int).tmod 2) = ((r % 2 : Nat) : Int) := by rw [Int.tmod_eq_emod_of_nonneg (by omega)]; omega
      have q2 : ((r : Int).tdiv 2) = ((r / 2 : Nat) : Int) := by rw [Int.tdiv_eq_ediv_of_nonneg (by omega)]; omega
      have q3 : IntKind.u32.wrap ((r / 2 : Nat) : Int) = ((r / 2 : Nat) : Int) := by rw [IntKind.wrap_u32']; omega
      have hstep := teamsI_step c k
      rw [← HR.out] at hstep
      have hlen := teamsI_len c k
      have hnx : Hid (r / 2 = c / 2 ^ (k + 1)) := by show _ = _; rw [HR.out, Nat.div_div_eq_div_mul, Nat.pow_succ]
      have hr2 : r / 2 < 4294967296 := by omega
      have HS := Lib.hid hstep
      have HI := Lib.hid hI
      clear hstep HR
      by_cases hodd : r % 2 = 1
      · have q4 : ((r % 2 : Nat) : Int) = 1 := by omega
        rw [q4] at q1
        clear q4
        have HOD := Lib.hid hodd
        clear hodd
        have hb1 := alloc_below wr (.cells #[I k] 3)
        have hown1 := hown.alloc (.cells #[I k] 3)
        go_wp2_with (at_builtin; (refine wpList_append_own _ rfl _ _ 32 rfl w.heap.size 3 i0 (.int .i64 0) 1 8 Tryz.underlying32 hi hz0 hz1 hz2 rfl (by decide) _ _ _ rfl hown1 ⟨wr.heap.size, 0, none⟩ 1 1 [I k] rfl rfl (cell_one_new _ _ _) (by simp [Value.oneCell']) (by unfold maxLen; omega) (by omega) (by have := hbr.size; simp; omega) ?_); intro v' w3 hown' hg3 hnil3)
        have hB3 : Below w.heap.size w w3 := (hbr.trans (hb1.mono hbr.size)).grown hg3 (by have := hbr.size; simp; omega) (fun j e => (hown1.lt j e).1)
        go_wp2
        go_roundw
        case rel => exact ⟨k + 1, r / 2, by go_num, by omega, by go_num, hnx, hr2, by rw [HS.out, if_pos HOD.out]; simpa using hown', hB3⟩
        case measure => (simp [intOf]; try omega)
      · have q4 : ((r % 2 : Nat) : Int) = 0 := by omega
        rw [q4] at q1
        clear q4
        have HOD := Lib.hid hodd
        clear hodd
        go_wp2
        go_roundw
        case rel => exact ⟨k + 1, r / 2, by go_num, by omega, by go_num, hnx, hr2, by rw [HS.out, if_neg HOD.out, List.append_nil]; exact hown, hbr⟩
        case measure => (simp [intOf]; try omega)
    · obtain rfl : k = 32 := by omega
      have hI : ¬ (((32 : Nat) : Int) < 32) := by decide
      rw [show ((32 : Nat) : Int) = 32 from rfl]
      go_wp2
      go_ret
      exact ⟨_, rfl, RdAt.own hown, hbr⟩
set_option maxHeartbeats 800000 in
theorem has_any (xs : List Int) (k : Int) (v : Value) (w : World) (hv : IntsAt w v xs) (hl : xs.length ≤ 1000) :
    Calls Tryz.prog 62 #[v, .int .i64 k] w fun e w' => e = .returned (.bool (decide (k ∈ xs))) ∧ Below w.heap.size w w' := by
  obtain ⟨a, c, rfl, hc, hr⟩ := RdAt.shape hv
  have HR := Lib.hid hr
  clear hr hv
  go_enter Tryz.func62, Tryz.ntmps62
  go_wp2
  go_loopw [5] (fun i wr => ∃ j : Nat, i = .int .i64 j ∧ j ≤ xs.length ∧ Hid (k ∉ xs.take j) ∧ Below w.heap.size w wr) (fun i _ => xs.length - (intOf i).toNat)
  case atStart => exact ⟨0, rfl, Nat.zero_le _, Lib.hid (by simp), Below.refl _ _⟩
  case round =>
    obtain ⟨j, rfl, hj, HN, hbr⟩ := hrel
    by_cases hjl : j < xs.length
    · obtain ⟨b, o, rfl, hb, hcell⟩ := HR.out (by omega)
      obtain ⟨x, hx⟩ : ∃ x, xs[j] = x := ⟨_, rfl⟩
      have hc0 : wr.cell? ⟨b, o + j, none⟩ = some (.int .i64 x) := keep_cell (hcell j _ (by rw [List.getElem?_map, List.getElem?_eq_getElem hjl, hx]; rfl)) hbr hb
      have HX := Lib.hid hx
      clear hcell hx
      by_cases hxk : x = k
      · subst hxk
        go_wp2
        go_ret
        exact ⟨by rw [decide_eq_true (by rw [← HX.out]; exact List.getElem_mem hjl)]; rfl, hbr⟩
      · have hz : (x == k) = false := by rw [beq_eq_false_iff_ne]; exact hxk
        go_wp2
        go_roundw
        case rel => exact ⟨j + 1, by go_num, by omega, Lib.hid (by
          rw [List.take_succ_eq_append_getElem hjl, List.mem_append, HX.out]
          rintro (h | h)
          · exact HN.out h
          · exact hxk (List.mem_singleton.1 h).symm), hbr⟩
        case measure => (simp [intOf]; try omega)
    · obtain rfl : j = xs.length := by omega
      have hn := HN.out
      rw [List.take_length] at hn
      go_wp2
      go_ret
      exact ⟨by rw [decide_eq_false hn]; rfl, hbr⟩
theorem flowsL_eq (l : Int) (c : Nat) (m : Int) (d : Nat) : flowsL l c m d = (subB c d && (rightL l && rightL m && decide (l ≤ m))) := by
  unfold flowsL
  cases subB c d <;> simp
theorem sub_not {c d k : Nat} (hk : k ∈ teamsN c 32) (hn : k ∉ teamsN d 32) : subB c d = false := by
  rw [Bool.eq_false_iff]
  intro h
  exact hn (sub_iff.1 h k hk)
set_option maxHeartbeats 1600000 in
set_option maxRecDepth 100000 in
theorem rflows_any (l : Int) (c : Nat) (m : Int) (d : Nat) (w : World) (hc : c < 4294967296) (hd : d < 4294967296) :
    Calls Tryz.prog 28 #[Lab l c, Lab m d] w fun e w' => e = .returned (.bool (flowsL l c m d)) ∧ Below w.heap.size w w' := by
  have k1 := fun W => teams_any l c W hc
  have k2 := fun W => teams_any m d W hd
  have k3 := rright_any l c
  have k4 := rright_any m d
  go_enter Tryz.func28, Tryz.ntmps28
  go_wp2_with fail
  refine (k1 _).mono ?_
  rintro e w1 ⟨v1, rfl, hi1, hb1⟩
  obtain ⟨x0, x1, y0, y1, hlt, hB⟩ := box22 hb1
  obtain ⟨a, ac, rfl, hac, har⟩ := RdAt.shape hi1
  have HI := Lib.hid hi1
  have HAR := Lib.hid har
  have hlen : (teamsI c 32).length ≤ 32 := teamsI_len c 32
  have HL := Lib.hid hlt
  clear hb1 k1 har hi1 hlt
  go_wp2
  go_loopw [6] (fun i wr => ∃ k : Nat, i = .int .i64 k ∧ k ≤ (teamsI c 32).length ∧ Hid (∀ j (h : j < (teamsI c 32).length), j < k → (teamsI c 32)[j] ∈ teamsI d 32) ∧ Below w1.heap.size w1 wr) (fun i _ => (teamsI c 32).length - (intOf i).toNat)
  case atStart => exact ⟨0, rfl, Nat.zero_le _, Lib.hid (fun j h hj => absurd hj (Nat.not_lt_zero _)), Below.refl _ _⟩
  case round =>
    obtain ⟨k, rfl, hk, HA, hbr⟩ := hrel
    have HBr := Lib.hid (hB.trans (hbr.mono hB.size))
    have X0 := keep_cell x0 hbr (by have := HL.out; omega)
    have X1 := keep_cell x1 hbr (by have := HL.out; omega)
    have Y0 := keep_cell y0 hbr HL.out
    have Y1 := keep_cell y1 hbr HL.out
    by_cases hkl : k < (teamsI c 32).length
    · obtain ⟨b, o, rfl, hb, hcell⟩ := HAR.out (by omega)
      obtain ⟨x, hx⟩ : ∃ x, (teamsI c 32)[k] = x := ⟨_, rfl⟩
      have hcr : wr.cell? ⟨b, o + k, none⟩ = some (.int .i64 x) := keep_cell (hcell k _ (by rw [List.getElem?_map, List.getElem?_eq_getElem hkl, hx]; rfl)) hbr hb
      have HX := Lib.hid hx
      obtain ⟨q, hq⟩ : ∃ q, decide (x ∈ teamsI d 32) = q := ⟨_, rfl⟩
      have k5 : ∀ W v, IntsAt W v (teamsI d 32) → Calls Tryz.prog 62 #[v, .int .i64 x] W fun e w' => e = .returned (.bool q) ∧ Below W.heap.size W w' := fun W v h => by
        have := has_any (teamsI d 32) x v W h (by have := teamsI_len d 32; omega)
        rw [hq] at this
        exact this
      have HQ := Lib.hid hq
      have hYl : w.heap.size + 1 < wr.heap.size := Nat.lt_of_lt_of_le HL.out hbr.size
      have hbl : b < wr.heap.size := Nat.lt_of_lt_of_le hb hbr.size
      have HBR := Lib.hid hbr
      clear hcell hx x0 x1 X0 X1 y0 y1 hq hbr hB
      go_upto_region 5 with fail
      refine wp_region_held_drew (S := (fun W => W.cell? ⟨w.heap.size + 1, 0, none⟩ = some (.int .i64 m) ∧ W.cell? ⟨w.heap.size + 1, 1, none⟩ = some (.int .u32 d) ∧ W.cell? ⟨b, o + k, none⟩ = some (.int .i64 x))) (by kernel_rfl) ⟨Y0, Y1, hcr⟩ (fun hHeld => ?_)
      refine held_take (i := 0) (v := ?_) rfl rfl (by kernel_rfl) (by kernel_rfl) (by kernel_rfl) (fun _ _ _ h => h) (by rfl) hHeld ?_ ?_
      rotate_left
      · rintro wh ⟨z0, z1, z2⟩
        go_simp
        (try with_reducible rfl)
      simp only [Act.put, List.setIfInBounds_toArray, List.set_cons_zero, List.set_cons_succ]
      refine held_take (i := 2) (v := ?_) rfl rfl (by kernel_rfl) (by kernel_rfl) (by kernel_rfl) (fun _ _ _ h => h) (by rfl) hHeld ?_ ?_
      rotate_left
      · rintro wh ⟨z0, z1, z2⟩
        go_simp
        (try with_reducible rfl)
      simp only [Act.put, List.setIfInBounds_toArray, List.set_cons_zero, List.set_cons_succ]
      refine held_take (i := 3) (v := ?_) rfl rfl (by kernel_rfl) (by kernel_rfl) (by kernel_rfl) (fun _ _ _ h => h) (by rfl) hHeld ?_ ?_
      rotate_left
      · rintro wh ⟨z0, z1, z2⟩
        go_simp
        (try with_reducible rfl)
      simp only [Act.put, List.setIfInBounds_toArray, List.set_cons_zero, List.set_cons_succ]
      refine held_take (i := 4) (v := ?_) rfl rfl (by kernel_rfl) (by kernel_rfl) (by kernel_rfl) (fun _ _ _ h => h) (by rfl) hHeld ?_ ?_
      rotate_left
      · rintro wh ⟨z0, z1, z2⟩
        go_simp
        (try with_reducible rfl)
      simp only [Act.put, List.setIfInBounds_toArray, List.set_cons_zero, List.set_cons_succ]
      refine held_take (i := 5) (v := ?_) rfl rfl (by kernel_rfl) (by kernel_rfl) (by kernel_rfl) (fun _ _ _ h => h) (by rfl) hHeld ?_ ?_
      rotate_left
      · rintro wh ⟨z0, z1, z2⟩
        go_simp
        (try with_reducible rfl)
      simp only [Act.put, List.setIfInBounds_toArray, List.set_cons_zero, List.set_cons_succ]
      refine held_call (i := 1) rfl (by kernel_rfl) (by rfl) (fun K hK => ?_)
      (go_simp; go_at_call 61; refine (k2 _).mono ?_; rintro e w3 ⟨v3, rfl, hi3, hb3⟩; have hb3' : Below wr.heap.size wr w3 := ((Below.refl _ wr).drew).trans hb3; obtain ⟨a3, c3, rfl, _, _⟩ := RdAt.shape hi3)
      refine hK.out _ _ ⟨keep_cell Y0 hb3' hYl, keep_cell Y1 hb3' hYl, keep_cell hcr hb3' hbl⟩ (fun hHeld => ?_)
      clear hK K
      (try simp only [Act.put, List.setIfInBounds_toArray, List.set_cons_zero, List.set_cons_succ])
      refine held_call (i := 6) rfl (by kernel_rfl) (by rfl) (fun K hK => ?_)
      (go_simp; go_at_call 62; refine (k5 _ _ hi3).mono ?_; rintro e w4 ⟨rfl, hb4⟩; have hb34 := hb3'.trans (hb4.mono hb3'.size))
      refine hK.out _ _ ⟨keep_cell Y0 hb34 hYl, keep_cell Y1 hb34 hYl, keep_cell hcr hb34 hbl⟩ (fun hHeld => ?_)
      clear hK K
      (try simp only [Act.put, List.setIfInBounds_toArray, List.set_cons_zero, List.set_cons_succ])
      refine held_take (i := 7) (v := ?_) rfl rfl (by kernel_rfl) (by kernel_rfl) (by kernel_rfl) (fun _ _ _ h => h) (by rfl) hHeld ?_ ?_
      rotate_left
      · rintro wh ⟨z0, z1, z2⟩
        go_simp
        (try with_reducible rfl)
      simp only [Act.put, List.setIfInBounds_toArray, List.set_cons_zero, List.set_cons_succ]
      refine wpAnyH_done (by kernel_rfl) ?_ _
      have hB4 := HBR.out.trans (hb34.mono HBR.out.size)
      cases q
      · have hn : x ∉ teamsI d 32 := of_decide_eq_false HQ.out
        have hf : flowsL l c m d = false := by
          have hm := List.getElem_mem hkl
          rw [HX.out] at hm
          unfold teamsI at hm
          obtain ⟨t, ht, rfl⟩ := List.mem_map.1 hm
          rw [flowsL_eq, sub_not ht (fun h => hn (mem_teamsI.2 h))]; rfl
        have HF := Lib.hid hf
        clear hf hn
        go_wp2
        go_ret
        exact ⟨by rw [HF.out]; rfl, HBr.out.trans (hb34.mono HBr.out.size)⟩
      · go_wp2
        go_roundw
        case rel => exact ⟨k + 1, by go_num, by omega, Lib.hid (fun j h hj => by
          rcases Nat.lt_or_ge j k with h' | h'
          · exact HA.out j h h'
          · have : j = k := by omega
            subst this
            rw [HX.out]; exact of_decide_eq_true HQ.out), hB4⟩
        case measure => (simp [intOf]; try omega)
    · obtain rfl : k = (teamsI c 32).length := by omega
      have hsub : subB c d = true := sub_iff.2 (fun t ht => by
        have hm := mem_teamsI.2 ht
        obtain ⟨j, hj, hjt⟩ := List.getElem_of_mem hm
        have := HA.out j hj hj
        rw [hjt] at this
        exact mem_teamsI.1 this)
      have HF : Hid (flowsL l c m d = (rightL l && rightL m && decide (l ≤ m))) := by show _ = _; rw [flowsL_eq, hsub, Bool.true_and]
      have hYl : w.heap.size + 1 < wr.heap.size := Nat.lt_of_lt_of_le HL.out hbr.size
      clear hsub HA k2 x0 x1 y0 y1 hB hbr
      cases h1 : rightL l
      · rw [h1] at k3 HF
        clear h1
        go_wp2_with fail
        refine (k3 _).mono ?_
        rintro e w5 ⟨rfl, hb5⟩
        go_wp2
        go_ret
        exact ⟨by rw [HF.out]; rfl, HBr.out.trans (hb5.mono HBr.out.size)⟩
      · rw [h1] at k3 HF
        clear h1
        cases h2 : rightL m
        · rw [h2] at k4 HF
          clear h2
          go_wp2_with fail
          refine (k3 _).mono ?_
          rintro e w5 ⟨rfl, hb5⟩
          have y0 := keep_cell Y0 hb5 hYl
          have y1 := keep_cell Y1 hb5 hYl
          clear Y0 Y1 X0 X1 k3
          go_wp2_with fail
          refine (k4 _).mono ?_
          rintro e w6 ⟨rfl, hb6⟩
          have HB6 := Lib.hid (HBr.out.trans ((hb5.trans (hb6.mono hb5.size)).mono HBr.out.size))
          clear hb5 hb6 y0 y1 k4
          go_wp2
          go_ret
          exact ⟨by rw [HF.out]; rfl, HB6.out⟩
        · rw [h2] at k4 HF
          clear h2
          obtain ⟨q, hq⟩ : ∃ q, decide (l ≤ m) = q := ⟨_, rfl⟩
          have HF2 : Hid (flowsL l c m d = q) := by show _ = _; rw [HF.out, hq]; simp
          clear HF
          go_wp2_with fail
          refine (k3 _).mono ?_
          rintro e w5 ⟨rfl, hb5⟩
          have z0 := keep_cell X0 hb5 (by omega)
          have z1 := keep_cell X1 hb5 (by omega)
          have y0 := keep_cell Y0 hb5 hYl
          have y1 := keep_cell Y1 hb5 hYl
          have hl5 := Nat.lt_of_lt_of_le hYl hb5.size
          clear Y0 Y1 X0 X1 k3
          go_wp2_with fail
          refine (k4 _).mono ?_
          rintro e w6 ⟨rfl, hb6⟩
          have HB6 := Lib.hid (HBr.out.trans ((hb5.trans (hb6.mono hb5.size)).mono HBr.out.size))
          have z0' := keep_cell z0 hb6 (by omega)
          have z1' := keep_cell z1 hb6 (by omega)
          have y0' := keep_cell y0 hb6 hl5
          have y1' := keep_cell y1 hb6 hl5
          clear hb5 hb6 y0 y1 k4 z0 z1
          go_wp2
          go_ret
          exact ⟨by rw [HF2.out]; first | rfl | (rw [hq]; rfl) | (simp [hq]), HB6.out⟩
end Go.Proofs.YtcfococinllcmaaGreat

/- Fields: what lies in memory; match.Right: a contract. -/
namespace Go.Proofs.YtcfococinllcmaaGreat
open Go.RowKit
abbrev Fld := ByteArray × ByteArray
def fldCells : List Fld → List Value
  | [] => []
  | f :: l => .string f.1 :: .string f.2 :: fldCells l
theorem fldCells_len (l : List Fld) : (fldCells l).length = l.length * 2 := by
  induction l with
  | nil => rfl
  | cons s l ih => simp [fldCells, ih]; omega
theorem fldCells_append (a b : List Fld) : fldCells (a ++ b) = fldCells a ++ fldCells b := by
  induction a with
  | nil => rfl
  | cons s l ih => simp [fldCells, ih]
theorem fldCells_at (l : List Fld) (i : Nat) (h : i < l.length) : (fldCells l)[i * 2]? = some (.string l[i].1) ∧ (fldCells l)[i * 2 + 1]? = some (.string l[i].2) := by
  induction l generalizing i with
  | nil => cases h
  | cons s l ih =>
    cases i with
    | zero => simp [fldCells]
    | succ i =>
      obtain ⟨h1, h2⟩ := ih i (by simpa using h)
      have e : (i + 1) * 2 = i * 2 + 2 := by omega
      rw [e]
      simp only [fldCells, List.getElem_cons_succ]
      refine ⟨?_, ?_⟩
      · rw [show i * 2 + 2 = i * 2 + 1 + 1 by omega]; simpa using h1
      · rw [show i * 2 + 2 + 1 = i * 2 + 1 + 1 + 1 by omega]; simpa using h2
def FldsAt (w : World) (v : Value) (l : List Fld) : Prop := RdAt w v l.length 2 (fldCells l)
theorem FldsAt.later {w w' : World} {v : Value} {l : List Fld} (h : FldsAt w v l) (hb : Below w.heap.size w w') : FldsAt w' v l := RdAt.later h hb
def FldsFit (l : List Fld) : Prop := ∀ f ∈ l, f.1.size ≤ maxLen ∧ f.2.size ≤ maxLen
def ltS (a b : ByteArray) : Bool := Op.bytesLess a.toList b.toList
def fldOk (l : List Fld) (j : Nat) : Bool := nameL (B (l.getD j default).1) && decide ((l.getD j default).2.size ≤ 200) && (decide (j = 0) || ltS (l.getD (j - 1) default).1 (l.getD j default).1)
def rightF (l : List Fld) : Bool := decide (l.length ≤ 8) && (List.range l.length).all fun j => fldOk l j
theorem rightF_bad {l : List Fld} {j : Nat} (hj : j < l.length) (h : fldOk l j = false) : rightF l = false := by
  unfold rightF
  rw [Bool.and_eq_false_iff]
  right
  rw [List.all_eq_false]
  exact ⟨j, List.mem_range.2 hj, by rw [h]; simp⟩
theorem rightF_good {l : List Fld} (h : ∀ j, j < l.length → fldOk l j = true) : rightF l = decide (l.length ≤ 8) := by
  unfold rightF
  rw [show ((List.range l.length).all fun j => fldOk l j) = true from List.all_eq_true.2 (fun j hj => h j (List.mem_range.1 hj)), Bool.and_true]
end Go.Proofs.YtcfococinllcmaaGreat

/- policy.Find, label.Join, policy.Raised: contracts. -/
namespace Go.Proofs.YtcfococinllcmaaGreat
open Go.RowKit
/-! plain -/
theorem idx_find {α : Type} (p : α → Bool) (x : α) : ∀ (l : List α) (i : Nat),
    (∃ k, ∃ h : k < l.length, Lib.idxByFrom (fun _ y => p y) x l i = ((i + k : Nat) : Int) ∧ l.find? p = some l[k] ∧ p l[k] = true ∧ ∀ j (hj : j < l.length), j < k → p l[j] = false) ∨
    (Lib.idxByFrom (fun _ y => p y) x l i = -1 ∧ l.find? p = none ∧ ∀ j (hj : j < l.length), p l[j] = false)
  | [], i => .inr ⟨rfl, rfl, fun j hj => absurd hj (Nat.not_lt_zero _)⟩
  | y :: r, i => by
    by_cases h : p y = true
    · exact .inl ⟨0, Nat.succ_pos _, by simp [Lib.idxByFrom, h], by simp [h], by simpa using h, fun j _ hj => absurd hj (Nat.not_lt_zero _)⟩
    · have h' : p y = false := by simpa using h
      rcases idx_find p x r (i + 1) with ⟨k, hk, h1, h2, h3, h4⟩ | ⟨h1, h2, h3⟩
      · refine .inl ⟨k + 1, by simpa using hk, ?_, by simp [h', h2], by simpa using h3, fun j hj hjk => ?_⟩
        · simp only [Lib.idxByFrom, h']
          rw [show (if false = true then (i : Int) else Lib.idxByFrom (fun _ y => p y) x r (i + 1)) = Lib.idxByFrom (fun _ y => p y) x r (i + 1) from rfl, h1]
          congr 1; omega
        · cases j with
          | zero => simpa using h'
          | succ j => simpa using h4 j (by simpa using hj) (by omega)
      · refine .inr ⟨?_, by simp [h', h2], fun j hj => ?_⟩
        · simp only [Lib.idxByFrom, h']
          rw [show (if false = true then (i : Int) else Lib.idxByFrom (fun _ y => p y) x r (i + 1)) = Lib.idxByFrom (fun _ y => p y) x r (i + 1) from rfl, h1]
        · cases j with
          | zero => simpa using h'
          | succ j => simpa using h3 j (by simpa using hj)
abbrev Nmd := ByteArray × Int × Nat
def nmdC (x : Nmd) : List Value := [.string x.1, .int .i64 x.2.1, .int .u32 x.2.2]
def nmdCells : List Nmd → List Value
  | [] => []
  | x :: l => nmdC x ++ nmdCells l
theorem nmdCells_len (l : List Nmd) : (nmdCells l).length = l.length * 3 := by
  induction l with
  | nil => rfl
  | cons x l ih => simp only [nmdCells, List.length_append, ih, List.length_cons]; simp [nmdC]; omega
theorem nmdCells_at : ∀ (l : List Nmd) (j : Nat) (h : j < l.length) (i : Nat) (v : Value), (nmdC l[j])[i]? = some v → (nmdCells l)[j * 3 + i]? = some v
  | x :: l, 0, _, i, v, hi => by
    have hlt := (List.getElem?_eq_some_iff.1 hi).1
    simp only [nmdCells]
    rw [List.getElem?_append_left (by simpa using hlt)]
    simpa using hi
  | x :: l, j + 1, h, i, v, hi => by
    simp only [nmdCells]
    rw [List.getElem?_append_right (by simp [nmdC]; omega)]
    have := nmdCells_at l j (by simpa using h) i v (by simpa using hi)
    rw [show (j + 1) * 3 + i - (nmdC x).length = j * 3 + i by simp [nmdC]; omega]
    exact this
def NmdsAt (w : World) (v : Value) (l : List Nmd) : Prop := RdAt w v l.length 3 (nmdCells l)
theorem NmdsAt.later {w w' : World} {v : Value} {l : List Nmd} (h : NmdsAt w v l) (hb : Below w.heap.size w w') : NmdsAt w' v l := RdAt.later h hb
def findL (l : List Nmd) (n : ByteArray) : Option Nmd := l.find? fun x => decide (x.1 = n)
def findV (o : Option Nmd) : Value := match o with
  | some x => Lab x.2.1 x.2.2
  | none => Lab 0 0
def orN (c d : Nat) : Nat := (BitVec.ofNat 32 c ||| BitVec.ofNat 32 d).toNat
def joinL (a b : Int × Nat) : Int × Nat := if rightL a.1 && rightL b.1 then (max a.1 b.1, orN a.2 b.2) else (7, 4294967295)
abbrev LabP (p : Int × Nat) : Value := Lab p.1 p.2
def raisedL (rs : List Nmd) (nm : ByteArray) (l : Int × Nat) : Int × Nat := match findL rs nm with
  | some r => joinL l r.2
  | none => l
abbrev SV (s : Option Addr × Nat × Nat) : Value := .slice s.1 s.2.1 s.2.2
theorem cell_lt {w : World} {b o : Nat} {v : Value} (h : w.cell? ⟨b, o, none⟩ = some v) : b < w.heap.size := by
  by_cases hb : b < w.heap.size
  · exact hb
  · have : w.heap[b]? = none := Array.getElem?_eq_none_iff.2 (by omega)
    simp [World.cell?, this] at h
/-! the walks -/
theorem find1_any (s : ByteArray) (l : Int) (c b : Nat) (n : ByteArray) (w : World) (hn : w.cell? ⟨b, 0, none⟩ = some (.string n)) :
    Calls Tryz.prog 157 #[.agg #[.string s, .int .i64 l, .int .u32 c], .pointer (some ⟨b, 0, none⟩)] w fun e w' => e = .returned (.bool (decide (s = n))) ∧ Below w.heap.size w w' := by
  have hlt := cell_lt hn
  have h1 := keep_cell hn (alloc_below w (.cells #[.string s, .int .i64 l, .int .u32 c] 217)) hlt
  go_enter Tryz.func157, Tryz.ntmps157
  go_wp2
  go_ret
  exact ⟨by simp [bytes_beq], alloc_below _ _⟩
theorem idxn_nil (a : Option Addr) (c : Nat) (f : Value) (w : World) :
    Calls Tryz.prog 156 #[.slice a 0 c, f] w fun e w' => e = .returned (.int .i64 (-1)) ∧ w' = w := by
  go_enter Tryz.func156, Tryz.ntmps156
  go_wp2
  refine wp_loop_rounds 1 ?_
  rw [rounds_succ]
  go_wp2
  go_ret
  exact ⟨rfl, rfl⟩
theorem idxn_any (l : List Nmd) (n : ByteArray) (v : Value) (b : Nat) (w : World) (hv : NmdsAt w v l) (hl : l.length ≤ maxLen) (hn : w.cell? ⟨b, 0, none⟩ = some (.string n)) :
    Calls Tryz.prog 156 #[v, .func (.func 157) #[] #[.pointer (some ⟨b, 0, none⟩)]] w fun e w' =>
      e = .returned (.int .i64 (Lib.idxByFrom (fun _ (y : Nmd) => decide (y.1 = n)) default l 0)) ∧ Below w.heap.size w w' := by
  obtain ⟨a, c, rfl, hc, hr⟩ := RdAt.shape hv
  rcases Nat.eq_zero_or_pos l.length with h0 | h0
  · have hnil : l = [] := List.length_eq_zero_iff.1 h0
    subst hnil
    refine (idxn_nil _ _ _ _).mono ?_
    rintro e w' ⟨rfl, rfl⟩
    exact ⟨rfl, Below.refl _ _⟩
  · obtain ⟨g, o, rfl, hg, hcell⟩ := hr h0
    have hlt := cell_lt hn
    have hp : PredBelow Tryz.prog 157 #[.pointer (some ⟨b, 0, none⟩)] (fun x : Nmd => .agg (nmdC x).toArray) (fun y => decide (y.1 = n)) w := fun W x hW => by
      refine Calls.mono (find1_any x.1 x.2.1 x.2.2 b n W (keep_cell hn hW hlt)) ?_
      rintro e w' ⟨rfl, hb⟩
      exact ⟨rfl, hW.trans (hb.mono hW.size)⟩
    have h := AnyQ.slices_IndexFunc (α := Nmd) Tryz.laysIdxN 3 Tryz.isAgg217 Tryz.sizeOf217 nmdC (fun _ => rfl) (fun y => decide (y.1 = n)) 157 #[.pointer (some ⟨b, 0, none⟩)]
      (enters_of Tryz.func157 (by kernel_rfl) rfl) g o l.length c l w hp (Nat.le_refl _) (by unfold maxLen at hl; omega) hg (fun j hj i x hx => by
        have := hcell (j * 3 + i) x (nmdCells_at l j hj i x (by rw [List.getElem!_eq_getElem?_getD, List.getElem?_eq_getElem hj] at hx; exact hx))
        rw [show o + j * 3 + i = o + (j * 3 + i) by omega]
        exact this)
    rw [List.take_length] at h
    exact h
set_option maxHeartbeats 800000 in
set_option maxRecDepth 100000 in
theorem find_any (l : List Nmd) (nm : ByteArray) (v : Value) (w : World) (hv : NmdsAt w v l) (hl : l.length ≤ maxLen) :
    Calls Tryz.prog 132 #[v, .string nm] w fun e w' => e = .returned (.tuple #[findV (findL l nm), .bool (findL l nm).isSome]) ∧ Below w.heap.size w w' := by
  have k1 := fun W (hb : Below w.heap.size w W) => idxn_any l nm v w.heap.size W (hv.later hb) hl
  obtain ⟨a, c, rfl, hc, hr⟩ := RdAt.shape hv
  have HR := Lib.hid hr
  have K1 := Lib.hid k1
  clear hr k1 hv
  rcases idx_find (fun x : Nmd => decide (x.1 = nm)) default l 0 with ⟨k, hk, h1, h2, _, _⟩ | ⟨h1, h2, _⟩
  · rw [Nat.zero_add] at h1
    rw [h1] at K1
    have hF : findL l nm = some l[k] := h2
    obtain ⟨b, o, rfl, hb, hcell⟩ := HR.out (by omega)
    have HC := Lib.hid (nmdCells_at l k hk)
    have HCC := Lib.hid hcell
    have hk63 : k < 9223372036854775807 := by unfold maxLen at hl; omega
    rw [hF]
    have q : ((k : Int) < 0) = False := by simp
    obtain ⟨x, hx⟩ : ∃ x, l[k] = x := ⟨_, rfl⟩
    rw [hx] at HC ⊢
    clear hF h2 h1 HR hx hcell
    have hB0 : Below w.heap.size w ((w.alloc (.cells #[.string nm] 9)).alloc (.cells #[.int .i64 0, .int .u32 0] 26)) := (alloc_below _ _).trans ((alloc_below _ _).mono (by simp))
    have hn0 : ((w.alloc (.cells #[.string nm] 9)).alloc (.cells #[.int .i64 0, .int .u32 0] 26)).cell? ⟨w.heap.size, 0, none⟩ = some (.string nm) :=
      keep_cell (World.cell?_alloc_at _ _ _ _ rfl) (alloc_below _ _) (by simp)
    have k1 := K1.out _ hB0 hn0
    clear hn0 K1
    go_enter Tryz.func132, Tryz.ntmps132
    go_wp2_with fail
    refine k1.mono ?_
    rintro e w1 ⟨rfl, hb1⟩
    obtain ⟨x0, x1, hlt1, hB1⟩ := box_two hb1
    have hc1 : w1.cell? ⟨b, o + k * 3 + 1, none⟩ = some (.int .i64 x.2.1) := keep_cell (by have := HCC.out _ _ (HC.out 1 _ rfl); rwa [← Nat.add_assoc] at this) hB1 hb
    have hc2 : w1.cell? ⟨b, o + k * 3 + 2, none⟩ = some (.int .u32 x.2.2) := keep_cell (by have := HCC.out _ _ (HC.out 2 _ rfl); rwa [← Nat.add_assoc] at this) hB1 hb
    have y0 : w1.cell? ⟨w.heap.size + 1, 0, none⟩ = some (.int .i64 0) := x1 0 _ rfl
    have y1 : w1.cell? ⟨w.heap.size + 1, 1, none⟩ = some (.int .u32 0) := x1 1 _ rfl
    have hT := box_there hb1
    rw [World.size_alloc] at hT
    have f0 := there_free hT 0 (by decide)
    have f1 := there_free hT 1 (by decide)
    have HT := Lib.hid hT
    clear x0 x1 k1 hB0 HC HCC hb1 hT
    go_wp2
    refine bodyPost_ret (results_agg2 rfl _ _ (w.heap.size + 1) [.int .i64 x.2.1, .int .u32 x.2.2] (.struct _) rfl (World.rangeAt_setCells_same w1 (w.heap.size + 1) 0 [.int .i64 x.2.1, .int .u32 x.2.2] HT.out) Tryz.underlying26 rfl (by kernel_rfl)) rfl ?_
    exact ⟨rfl, below_put (below_put hB1 (by omega)) (by omega)⟩
  · rw [h1] at K1
    have hF : findL l nm = none := h2
    rw [hF]
    have hB0 : Below w.heap.size w ((w.alloc (.cells #[.string nm] 9)).alloc (.cells #[.int .i64 0, .int .u32 0] 26)) := (alloc_below _ _).trans ((alloc_below _ _).mono (by simp))
    have hn0 : ((w.alloc (.cells #[.string nm] 9)).alloc (.cells #[.int .i64 0, .int .u32 0] 26)).cell? ⟨w.heap.size, 0, none⟩ = some (.string nm) :=
      keep_cell (World.cell?_alloc_at _ _ _ _ rfl) (alloc_below _ _) (by simp)
    have k1 := K1.out _ hB0 hn0
    clear hn0 K1 h1 h2 hF HR
    go_enter Tryz.func132, Tryz.ntmps132
    go_wp2_with fail
    refine k1.mono ?_
    rintro e w1 ⟨rfl, hb1⟩
    obtain ⟨x0, x1, hlt1, hB1⟩ := box_two hb1
    have y0 : w1.cell? ⟨w.heap.size + 1, 0, none⟩ = some (.int .i64 0) := x1 0 _ rfl
    have y1 : w1.cell? ⟨w.heap.size + 1, 1, none⟩ = some (.int .u32 0) := x1 1 _ rfl
    have hT := box_there hb1
    rw [World.size_alloc] at hT
    have f0 := there_free hT 0 (by decide)
    have f1 := there_free hT 1 (by decide)
    have HT := Lib.hid hT
    clear x0 x1 k1 hB0 hb1 hT
    go_wp2
    refine bodyPost_ret (results_agg2 rfl _ _ (w.heap.size + 1) [.int .i64 0, .int .u32 0] (.struct _) rfl (World.rangeAt_setCells_same w1 (w.heap.size + 1) 0 [.int .i64 0, .int .u32 0] HT.out) Tryz.underlying26 rfl (by kernel_rfl)) rfl ?_
    exact ⟨rfl, below_put (below_put hB1 (by omega)) (by omega)⟩
end Go.Proofs.YtcfococinllcmaaGreat

/- label.Join, policy.Raised: contracts. -/
namespace Go.Proofs.YtcfococinllcmaaGreat
open Go.RowKit
theorem bits_or (c d : Nat) : bits BinOp.or IntKind.u32 (c : Int) (d : Int) = (orN c d : Int) := by
  show IntKind.u32.wrap ((BitVec.ofInt 32 (c : Int) ||| BitVec.ofInt 32 (d : Int)).toNat : Int) = _
  rw [BitVec.ofInt_natCast, BitVec.ofInt_natCast, IntKind.wrap_u32']
  unfold orN
  have := (BitVec.ofNat 32 c ||| BitVec.ofNat 32 d).isLt
  omega
theorem box222 {w W : World} {x y x' y' x2 y2 : Value} {t u s : TypeId} (hb : Below (((w.alloc (.cells #[x, y] t)).alloc (.cells #[x', y'] u)).alloc (.cells #[x2, y2] s)).heap.size (((w.alloc (.cells #[x, y] t)).alloc (.cells #[x', y'] u)).alloc (.cells #[x2, y2] s)) W) :
    (W.cell? ⟨w.heap.size, 0, none⟩ = some x ∧ W.cell? ⟨w.heap.size, 1, none⟩ = some y ∧ W.cell? ⟨w.heap.size + 1, 0, none⟩ = some x' ∧ W.cell? ⟨w.heap.size + 1, 1, none⟩ = some y') ∧
    (W.cell? ⟨w.heap.size + 1 + 1, 0, none⟩ = some x2 ∧ W.cell? ⟨w.heap.size + 1 + 1, 1, none⟩ = some y2 ∧ W.there (w.heap.size + 1 + 1) 0 2) ∧ w.heap.size + 1 + 1 < W.heap.size ∧ Below w.heap.size w W := by
  obtain ⟨h1, h2, h3⟩ := box_cells hb
  have hT := box_there hb
  obtain ⟨a, b, c, d, e, f⟩ := box22 h3
  simp only [World.size_alloc] at h1 h2 hT
  exact ⟨⟨a, b, c, d⟩, ⟨h1 0 _ rfl, h1 1 _ rfl, hT⟩, h2, f⟩
set_option maxHeartbeats 800000 in
theorem join_any (l : Int) (c : Nat) (m : Int) (d : Nat) (w : World) :
    Calls Tryz.prog 133 #[Lab l c, Lab m d] w fun e w' => e = .returned (LabP (joinL (l, c) (m, d))) ∧ Below w.heap.size w w' := by
  have k1 := right_any l c
  have k2 := right_any m d
  cases h1 : rightL l
  · rw [h1] at k1
    have HF : Hid (joinL (l, c) (m, d) = (7, 4294967295)) := by show _ = _; unfold joinL; simp [h1]
    clear h1
    go_enter Tryz.func133, Tryz.ntmps133
    go_wp2_with fail
    refine (k1 _).mono ?_
    rintro e w1 ⟨rfl, hb1⟩
    obtain ⟨⟨x0, x1, y0, y1⟩, ⟨z0, z1, hT⟩, hlt, hB1⟩ := box222 hb1
    have f0 := there_free hT 0 (by decide)
    have f1 := there_free hT 1 (by decide)
    have HT := Lib.hid hT
    clear hb1 hT k1 k2
    go_wp2
    refine bodyPost_ret (results_agg1 rfl _ _ (w.heap.size + 1 + 1) [.int .i64 7, .int .u32 4294967295] (.struct _) rfl (World.rangeAt_setCells_same w1 (w.heap.size + 1 + 1) 0 [.int .i64 7, .int .u32 4294967295] HT.out) Tryz.underlying26 rfl (by kernel_rfl)) rfl ?_
    exact ⟨by rw [HF.out]; rfl, below_put (below_put hB1 (by omega)) (by omega)⟩
  · rw [h1] at k1
    cases h2 : rightL m
    · rw [h2] at k2
      have HF : Hid (joinL (l, c) (m, d) = (7, 4294967295)) := by show _ = _; unfold joinL; simp [h2]
      clear h1 h2
      go_enter Tryz.func133, Tryz.ntmps133
      go_wp2_with fail
      refine (k1 _).mono ?_
      rintro e w1 ⟨rfl, hb1⟩
      obtain ⟨⟨x0, x1, y0, y1⟩, ⟨z0, z1, hT⟩, hlt, hB1⟩ := box222 hb1
      clear hb1 k1
      go_wp2_with fail
      refine (k2 _).mono ?_
      rintro e w2 ⟨rfl, hb2⟩
      have z0' := keep_cell z0 hb2 (by omega)
      have z1' := keep_cell z1 hb2 (by omega)
      have hT2 := there_later hT hb2 (by omega)
      have f0 := there_free hT2 0 (by decide)
      have f1 := there_free hT2 1 (by decide)
      have HT := Lib.hid hT2
      have hB2 := hB1.trans (hb2.mono hB1.size)
      clear hT hT2 x0 x1 y0 y1 z0 z1 hb2 hB1 k2
      go_wp2
      refine bodyPost_ret (results_agg1 rfl _ _ (w.heap.size + 1 + 1) [.int .i64 7, .int .u32 4294967295] (.struct _) rfl (World.rangeAt_setCells_same w2 (w.heap.size + 1 + 1) 0 [.int .i64 7, .int .u32 4294967295] HT.out) Tryz.underlying26 rfl (by kernel_rfl)) rfl ?_
      exact ⟨by rw [HF.out]; rfl, below_put (below_put hB2 (by omega)) (by omega)⟩
    · rw [h2] at k2
      have HF : Hid (joinL (l, c) (m, d) = (max l m, orN c d)) := by show _ = _; unfold joinL; simp [h1, h2]
      clear h1 h2
      have q := bits_or c d
      go_enter Tryz.func133, Tryz.ntmps133
      go_wp2_with fail
      refine (k1 _).mono ?_
      rintro e w1 ⟨rfl, hb1⟩
      obtain ⟨⟨x0, x1, y0, y1⟩, ⟨z0, z1, hT⟩, hlt, hB1⟩ := box222 hb1
      clear hb1 k1
      go_wp2_with fail
      refine (k2 _).mono ?_
      rintro e w2 ⟨rfl, hb2⟩
      have x0' := keep_cell x0 hb2 (by omega)
      have x1' := keep_cell x1 hb2 (by omega)
      have y0' := keep_cell y0 hb2 (by omega)
      have y1' := keep_cell y1 hb2 (by omega)
      have z0' := keep_cell z0 hb2 (by omega)
      have z1' := keep_cell z1 hb2 (by omega)
      have hT2 := there_later hT hb2 (by omega)
      have f0 := there_free hT2 0 (by decide)
      have f1 := there_free hT2 1 (by decide)
      have HT := Lib.hid hT2
      have hB2 := hB1.trans (hb2.mono hB1.size)
      clear hT hT2 x0 x1 y0 y1 z0 z1 hb2 hB1 k2
      go_wp2
      refine bodyPost_ret (results_agg1 rfl _ _ (w.heap.size + 1 + 1) [.int .i64 (max l m), .int .u32 (orN c d)] (.struct _) rfl (World.rangeAt_setCells_same w2 (w.heap.size + 1 + 1) 0 [.int .i64 (max l m), .int .u32 (orN c d)] HT.out) Tryz.underlying26 rfl (by kernel_rfl)) rfl ?_
      exact ⟨by rw [HF.out], below_put (below_put hB2 (by omega)) (by omega)⟩
theorem box622 {w W : World} {a b c d e f x y x' y' : Value} {t u s : TypeId} (hb : Below (((w.alloc (.cells #[a, b, c, d, e, f] t)).alloc (.cells #[x, y] u)).alloc (.cells #[x', y'] s)).heap.size (((w.alloc (.cells #[a, b, c, d, e, f] t)).alloc (.cells #[x, y] u)).alloc (.cells #[x', y'] s)) W) :
    (W.cell? ⟨w.heap.size + 1, 0, none⟩ = some x ∧ W.cell? ⟨w.heap.size + 1, 1, none⟩ = some y) ∧
    (W.cell? ⟨w.heap.size + 1 + 1, 0, none⟩ = some x' ∧ W.cell? ⟨w.heap.size + 1 + 1, 1, none⟩ = some y' ∧ W.there (w.heap.size + 1 + 1) 0 2) ∧ w.heap.size + 1 + 1 < W.heap.size ∧ Below w.heap.size w W := by
  obtain ⟨h1, h2, h3⟩ := box_cells hb
  have hT := box_there hb
  obtain ⟨_, b, _, d⟩ := box_two h3
  simp only [World.size_alloc] at h1 h2 hT
  exact ⟨⟨b 0 _ rfl, b 1 _ rfl⟩, ⟨h1 0 _ rfl, h1 1 _ rfl, hT⟩, h2, d⟩
set_option maxHeartbeats 1600000 in
set_option maxRecDepth 100000 in
theorem raised_any (s0 s1 s2 s4 s5 : Option Addr × Nat × Nat) (l : List Nmd) (rv : Value) (nm : ByteArray) (lv : Int) (c : Nat) (w : World) (hv : NmdsAt w rv l) (hl : l.length ≤ maxLen) :
    Calls Tryz.prog 115 #[.agg #[SV s0, SV s1, SV s2, rv, SV s4, SV s5], .string nm, Lab lv c] w fun e w' => e = .returned (LabP (raisedL l nm (lv, c))) ∧ Below w.heap.size w w' := by
  have k1 := fun W (h : Below w.heap.size w W) => find_any l nm rv W (hv.later h) hl
  obtain ⟨ra, rc, rfl, _, _⟩ := RdAt.shape hv
  clear hv
  obtain ⟨a0, n0, c0⟩ := s0
  obtain ⟨a1, n1, c1⟩ := s1
  obtain ⟨a2, n2, c2⟩ := s2
  obtain ⟨a4, n4, c4⟩ := s4
  obtain ⟨a5, n5, c5⟩ := s5
  have hB0 : Below w.heap.size w (((w.alloc (.cells #[.slice a0 n0 c0, .slice a1 n1 c1, .slice a2 n2 c2, .slice ra l.length rc, .slice a4 n4 c4, .slice a5 n5 c5] 76)).alloc (.cells #[.int .i64 lv, .int .u32 c] 26)).alloc (.cells #[.int .i64 0, .int .u32 0] 26)) :=
    ((alloc_below _ _).trans ((alloc_below _ _).mono (by simp))).trans ((alloc_below _ _).mono (by simp; omega))
  have k1 := k1 _ hB0
  cases hf : findL l nm with
  | none =>
    have HF : Hid (raisedL l nm (lv, c) = (lv, c)) := by show _ = _; unfold raisedL; rw [hf]
    rw [hf] at k1
    clear hf hB0
    go_enter Tryz.func115, Tryz.ntmps115
    go_wp2_with fail
    refine k1.mono ?_
    rintro e w1 ⟨rfl, hb1⟩
    obtain ⟨⟨x0, x1⟩, ⟨z0, z1, hT⟩, hlt, hB1⟩ := box622 hb1
    have ha := alloc_below w1 (.cells #[.int .i64 0, .int .u32 0] 26)
    have x0' := keep_cell x0 ha (by omega)
    have x1' := keep_cell x1 ha (by omega)
    have z0' := keep_cell z0 ha (by omega)
    have z1' := keep_cell z1 ha (by omega)
    have hT2 := there_later hT ha (by omega)
    have f0 := there_free hT2 0 (by decide)
    have f1 := there_free hT2 1 (by decide)
    have HT := Lib.hid hT2
    have hB2 := Lib.hid (hB1.trans (ha.mono hB1.size))
    clear hb1 hT k1 ha x0 x1 z0 z1 hT2 hB1
    simp only [findV, Option.isSome]
    go_upto_region 2 with fail
    change Code.wp _ _ _ _ (w1.alloc (.cells #[.int .i64 0, .int .u32 0] 26))
    generalize w1.alloc (.cells #[.int .i64 0, .int .u32 0] 26) = w2 at *
    go_wp2
    refine bodyPost_ret (results_agg1 rfl _ _ (w.heap.size + 1 + 1) [.int .i64 lv, .int .u32 c] (.struct _) rfl (World.rangeAt_setCells_same _ (w.heap.size + 1 + 1) 0 [.int .i64 lv, .int .u32 c] HT.out) Tryz.underlying26 rfl (by kernel_rfl)) rfl ?_
    exact ⟨by rw [HF.out], below_put (below_put hB2.out (by omega)) (by omega)⟩
  | some r =>
    have HF : Hid (raisedL l nm (lv, c) = joinL (lv, c) r.2) := by show _ = _; unfold raisedL; rw [hf]
    rw [hf] at k1
    obtain ⟨rn, rl, rcat⟩ := r
    have k2 := join_any lv c rl rcat
    obtain ⟨jl, hjl⟩ : ∃ z, joinL (lv, c) (rl, rcat) = z := ⟨_, rfl⟩
    obtain ⟨j1, j2⟩ := jl
    simp only [hjl] at k2
    rw [show (rn, rl, rcat).2 = (rl, rcat) from rfl, hjl] at HF
    clear hf hB0 hjl
    go_enter Tryz.func115, Tryz.ntmps115
    go_wp2_with fail
    refine k1.mono ?_
    rintro e w1 ⟨rfl, hb1⟩
    obtain ⟨⟨x0, x1⟩, ⟨z0, z1, hT⟩, hlt, hB1⟩ := box622 hb1
    have ha := alloc_below w1 (.cells #[.int .i64 rl, .int .u32 rcat] 26)
    have x0' := keep_cell x0 ha (by omega)
    have x1' := keep_cell x1 ha (by omega)
    have z0' := keep_cell z0 ha (by omega)
    have z1' := keep_cell z1 ha (by omega)
    have hT2 := there_later hT ha (by omega)
    have HT := Lib.hid hT2
    have hB2 := Lib.hid (hB1.trans (ha.mono hB1.size))
    have hlt2 : w.heap.size + 1 + 1 < (w1.alloc (.cells #[.int .i64 rl, .int .u32 rcat] 26)).heap.size := by rw [World.size_alloc]; omega
    have HL2 := Lib.hid hlt2
    clear hb1 hT k1 ha x0 x1 z0 z1 hT2 hB1 hlt2
    simp only [findV, Option.isSome]
    go_upto_region 2 with fail
    change Code.wp _ _ _ _ (w1.alloc (.cells #[.int .i64 rl, .int .u32 rcat] 26))
    have y0 : (w1.alloc (.cells #[.int .i64 rl, .int .u32 rcat] 26)).cell? ⟨w1.heap.size, 0, none⟩ = some (.int .i64 rl) := World.cell?_alloc_at _ _ _ _ rfl
    have y1 : (w1.alloc (.cells #[.int .i64 rl, .int .u32 rcat] 26)).cell? ⟨w1.heap.size, 1, none⟩ = some (.int .u32 rcat) := World.cell?_alloc_at _ _ _ _ rfl
    generalize w1.alloc (.cells #[.int .i64 rl, .int .u32 rcat] 26) = w1' at *
    go_wp2_with fail
    refine (k2 _).mono ?_
    rintro e w2 ⟨rfl, hb2⟩
    have z0 := keep_cell z0' hb2 HL2.out
    have z1 := keep_cell z1' hb2 HL2.out
    have hT3 := there_later HT.out hb2 HL2.out
    have f0 := there_free hT3 0 (by decide)
    have f1 := there_free hT3 1 (by decide)
    have HT3 := Lib.hid hT3
    have hB3 := Lib.hid (hB2.out.trans (hb2.mono hB2.out.size))
    clear x0' x1' y0 y1 z0' z1' HT HL2 hb2 hB2 hT3 k2
    go_wp2
    refine bodyPost_ret (results_agg1 rfl _ _ (w.heap.size + 1 + 1) [.int .i64 j1, .int .u32 j2] (.struct _) rfl (World.rangeAt_setCells_same _ (w.heap.size + 1 + 1) 0 [.int .i64 j1, .int .u32 j2] HT3.out) Tryz.underlying26 rfl (by kernel_rfl)) rfl ?_
    exact ⟨by rw [HF.out], below_put (below_put hB3.out (by omega)) (by omega)⟩
end Go.Proofs.YtcfococinllcmaaGreat

/- policy.Visible: its predicate, slices.Clone and slices.DeleteFunc at Field: contracts. -/
namespace Go.Proofs.YtcfococinllcmaaGreat
open Go.RowKit
def seesL (rs : List Nmd) (f t : Int × Nat) (x : Fld) : Bool := flowsL (raisedL rs x.1 f).1 (raisedL rs x.1 f).2 t.1 t.2
set_option maxHeartbeats 1600000 in
set_option maxRecDepth 100000 in
theorem vis1_any (s0 s1 s2 s4 s5 : Option Addr × Nat × Nat) (l : List Nmd) (rv : Value) (x y : ByteArray) (bp bf bt : Nat) (fl : Int) (fc : Nat) (tl : Int) (tc : Nat) (w : World) (hv : NmdsAt w rv l) (hl : l.length ≤ maxLen)
    (hp : C6 bp (SV s0) (SV s1) (SV s2) rv (SV s4) (SV s5) w) (hf0 : w.cell? ⟨bf, 0, none⟩ = some (.int .i64 fl)) (hf1 : w.cell? ⟨bf, 1, none⟩ = some (.int .u32 fc)) (ht0 : w.cell? ⟨bt, 0, none⟩ = some (.int .i64 tl)) (ht1 : w.cell? ⟨bt, 1, none⟩ = some (.int .u32 tc)) :
    Calls Tryz.prog 114 #[.agg #[.string x, .string y], .pointer (some ⟨bp, 0, none⟩), .pointer (some ⟨bf, 0, none⟩), .pointer (some ⟨bt, 0, none⟩)] w fun e w' =>
      e = .returned (.bool (!seesL l (fl, fc) (tl, tc) (x, y))) ∧ Below w.heap.size w w' := by
  have k1 := fun W (h : Below w.heap.size w W) => raised_any s0 s1 s2 s4 s5 l rv x fl fc W (hv.later h) hl
  obtain ⟨ra, rc, rfl, _, _⟩ := RdAt.shape hv
  clear hv
  obtain ⟨a0, n0, c0⟩ := s0
  obtain ⟨a1, n1, c1⟩ := s1
  obtain ⟨a2, n2, c2⟩ := s2
  obtain ⟨a4, n4, c4⟩ := s4
  obtain ⟨a5, n5, c5⟩ := s5
  obtain ⟨p0, p1, p2, p3, p4, p5⟩ := hp
  obtain ⟨jl, hjl⟩ : ∃ z, raisedL l x (fl, fc) = z := ⟨_, rfl⟩
  have HF : Hid (seesL l (fl, fc) (tl, tc) (x, y) = flowsL jl.1 jl.2 tl tc) := by show _ = _; unfold seesL; rw [hjl]
  rw [hjl] at k1
  obtain ⟨j1, j2⟩ := jl
  have k2 := flows_any j1 j2 tl tc
  have hlp := cell_lt p0
  have hlf := cell_lt hf0
  have hlt := cell_lt ht0
  have hb0 := alloc_below w (.cells #[.string x, .string y] 103)
  have P0 := keep_cell p0 hb0 hlp
  have P1 := keep_cell p1 hb0 hlp
  have P2 := keep_cell p2 hb0 hlp
  have P3 := keep_cell p3 hb0 hlp
  have P4 := keep_cell p4 hb0 hlp
  have P5 := keep_cell p5 hb0 hlp
  have F0 := keep_cell hf0 hb0 hlf
  have F1 := keep_cell hf1 hb0 hlf
  have T0 := keep_cell ht0 hb0 hlt
  have T1 := keep_cell ht1 hb0 hlt
  have hsz := Lib.hid hb0.size
  have y0 : (w.alloc (.cells #[.string x, .string y] 103)).cell? ⟨w.heap.size, 0, none⟩ = some (.string x) := World.cell?_alloc_at _ _ _ _ rfl
  clear p0 p1 p2 p3 p4 p5 hf0 hf1 ht0 ht1 hjl
  go_enter Tryz.func114, Tryz.ntmps114
  go_upto_region 1 with fail
  change Code.wp _ _ _ _ (w.alloc (.cells #[.string x, .string y] 103))
  generalize w.alloc (.cells #[.string x, .string y] 103) = w0 at *
  have k1 : ∀ W, Below w0.heap.size w0 W → Calls Tryz.prog 115 #[.agg #[.slice a0 n0 c0, .slice a1 n1 c1, .slice a2 n2 c2, .slice ra l.length rc, .slice a4 n4 c4, .slice a5 n5 c5], .string x, Lab fl fc] W fun e w' => e = .returned (Lab j1 j2) ∧ Below w0.heap.size w0 w' := fun W h => by
    refine (k1 W (hb0.trans (h.mono hb0.size))).mono ?_
    rintro e w' ⟨rfl, hb⟩
    exact ⟨rfl, h.trans (hb.mono h.size)⟩
  have k2 : ∀ W, Below w0.heap.size w0 W → Calls Tryz.prog 46 #[Lab j1 j2, Lab tl tc] W fun e w' => e = .returned (.bool (flowsL j1 j2 tl tc)) ∧ Below w0.heap.size w0 w' := fun W h => by
    refine (k2 W).mono ?_
    rintro e w' ⟨rfl, hb⟩
    exact ⟨rfl, h.trans (hb.mono h.size)⟩
  have HB0 := Lib.hid hb0
  clear hb0
  have hS : ∀ W, Below w0.heap.size w0 W → (fun W => W.cell? ⟨bp, 0, none⟩ = some (.slice a0 n0 c0) ∧ W.cell? ⟨bp, 1, none⟩ = some (.slice a1 n1 c1) ∧ W.cell? ⟨bp, 2, none⟩ = some (.slice a2 n2 c2) ∧ W.cell? ⟨bp, 3, none⟩ = some (.slice ra l.length rc) ∧ W.cell? ⟨bp, 4, none⟩ = some (.slice a4 n4 c4) ∧ W.cell? ⟨bp, 5, none⟩ = some (.slice a5 n5 c5) ∧ W.cell? ⟨bf, 0, none⟩ = some (.int .i64 fl) ∧ W.cell? ⟨bf, 1, none⟩ = some (.int .u32 fc) ∧ W.cell? ⟨bt, 0, none⟩ = some (.int .i64 tl) ∧ W.cell? ⟨bt, 1, none⟩ = some (.int .u32 tc) ∧ W.cell? ⟨w.heap.size, 0, none⟩ = some (.string x)) W := fun W h => ⟨keep_cell P0 h (Nat.lt_of_lt_of_le hlp hsz.out), keep_cell P1 h (Nat.lt_of_lt_of_le hlp hsz.out), keep_cell P2 h (Nat.lt_of_lt_of_le hlp hsz.out), keep_cell P3 h (Nat.lt_of_lt_of_le hlp hsz.out), keep_cell P4 h (Nat.lt_of_lt_of_le hlp hsz.out), keep_cell P5 h (Nat.lt_of_lt_of_le hlp hsz.out),
    keep_cell F0 h (Nat.lt_of_lt_of_le hlf hsz.out), keep_cell F1 h (Nat.lt_of_lt_of_le hlf hsz.out), keep_cell T0 h (Nat.lt_of_lt_of_le hlt hsz.out), keep_cell T1 h (Nat.lt_of_lt_of_le hlt hsz.out), keep_cell y0 h (cell_lt y0)⟩
  refine wp_region_held_drew (S := (fun W => W.cell? ⟨bp, 0, none⟩ = some (.slice a0 n0 c0) ∧ W.cell? ⟨bp, 1, none⟩ = some (.slice a1 n1 c1) ∧ W.cell? ⟨bp, 2, none⟩ = some (.slice a2 n2 c2) ∧ W.cell? ⟨bp, 3, none⟩ = some (.slice ra l.length rc) ∧ W.cell? ⟨bp, 4, none⟩ = some (.slice a4 n4 c4) ∧ W.cell? ⟨bp, 5, none⟩ = some (.slice a5 n5 c5) ∧ W.cell? ⟨bf, 0, none⟩ = some (.int .i64 fl) ∧ W.cell? ⟨bf, 1, none⟩ = some (.int .u32 fc) ∧ W.cell? ⟨bt, 0, none⟩ = some (.int .i64 tl) ∧ W.cell? ⟨bt, 1, none⟩ = some (.int .u32 tc) ∧ W.cell? ⟨w.heap.size, 0, none⟩ = some (.string x))) (by kernel_rfl) (hS _ ((Below.refl _ _).drew)) (fun hHeld => ?_)
  refine held_take (i := 0) (v := ?_) rfl rfl (by kernel_rfl) (by kernel_rfl) (by kernel_rfl) (fun _ _ _ h => h) (by rfl) hHeld ?_ ?_
  rotate_left
  · rintro wh ⟨z0, z1, z2, z3, z4, z5, z6, z7, z8, z9, z10⟩
    go_simp
    (try with_reducible rfl)
  simp only [Act.put, List.setIfInBounds_toArray, List.set_cons_zero, List.set_cons_succ]
  refine held_take (i := 1) (v := ?_) rfl rfl (by kernel_rfl) (by kernel_rfl) (by kernel_rfl) (fun _ _ _ h => h) (by rfl) hHeld ?_ ?_
  rotate_left
  · rintro wh ⟨z0, z1, z2, z3, z4, z5, z6, z7, z8, z9, z10⟩
    go_simp
    (try with_reducible rfl)
  simp only [Act.put, List.setIfInBounds_toArray, List.set_cons_zero, List.set_cons_succ]
  refine held_take (i := 2) (v := ?_) rfl rfl (by kernel_rfl) (by kernel_rfl) (by kernel_rfl) (fun _ _ _ h => h) (by rfl) hHeld ?_ ?_
  rotate_left
  · rintro wh ⟨z0, z1, z2, z3, z4, z5, z6, z7, z8, z9, z10⟩
    go_simp
    (try with_reducible rfl)
  simp only [Act.put, List.setIfInBounds_toArray, List.set_cons_zero, List.set_cons_succ]
  refine held_take (i := 3) (v := ?_) rfl rfl (by kernel_rfl) (by kernel_rfl) (by kernel_rfl) (fun _ _ _ h => h) (by rfl) hHeld ?_ ?_
  rotate_left
  · rintro wh ⟨z0, z1, z2, z3, z4, z5, z6, z7, z8, z9, z10⟩
    go_simp
    (try with_reducible rfl)
  simp only [Act.put, List.setIfInBounds_toArray, List.set_cons_zero, List.set_cons_succ]
  refine held_take (i := 5) (v := ?_) rfl rfl (by kernel_rfl) (by kernel_rfl) (by kernel_rfl) (fun _ _ _ h => h) (by rfl) hHeld ?_ ?_
  rotate_left
  · rintro wh ⟨z0, z1, z2, z3, z4, z5, z6, z7, z8, z9, z10⟩
    go_simp
    (try with_reducible rfl)
  simp only [Act.put, List.setIfInBounds_toArray, List.set_cons_zero, List.set_cons_succ]
  refine held_call (i := 4) rfl (by kernel_rfl) (by rfl) (fun K hK => ?_)
  (go_simp; go_at_call 115; refine (k1 _ ((Below.refl _ _).drew)).mono ?_; rintro e w1 ⟨rfl, hb1⟩)
  refine hK.out _ _ (hS _ hb1) (fun hHeld => ?_)
  clear hK K
  (try simp only [Act.put, List.setIfInBounds_toArray, List.set_cons_zero, List.set_cons_succ])
  refine held_call (i := 6) rfl (by kernel_rfl) (by rfl) (fun K hK => ?_)
  (go_simp; go_at_call 46; refine (k2 _ hb1).mono ?_; rintro e w2 ⟨rfl, hb2⟩)
  refine hK.out _ _ (hS _ hb2) (fun hHeld => ?_)
  clear hK K
  (try simp only [Act.put, List.setIfInBounds_toArray, List.set_cons_zero, List.set_cons_succ])
  refine held_take (i := 7) (v := ?_) rfl rfl (by kernel_rfl) (by kernel_rfl) (by kernel_rfl) (fun _ _ _ h => h) (by rfl) hHeld ?_ ?_
  rotate_left
  · rintro wh ⟨z0, z1, z2, z3, z4, z5, z6, z7, z8, z9, z10⟩
    go_simp
    (try with_reducible rfl)
  simp only [Act.put, List.setIfInBounds_toArray, List.set_cons_zero, List.set_cons_succ]
  refine held_take (i := 8) (v := ?_) rfl rfl (by kernel_rfl) (by kernel_rfl) (by kernel_rfl) (fun _ _ _ h => h) (by rfl) hHeld ?_ ?_
  rotate_left
  · rintro wh ⟨z0, z1, z2, z3, z4, z5, z6, z7, z8, z9, z10⟩
    go_simp
    (try with_reducible rfl)
  simp only [Act.put, List.setIfInBounds_toArray, List.set_cons_zero, List.set_cons_succ]
  refine wpAnyH_done (by kernel_rfl) ?_ _
  go_wp2
  go_ret
  exact ⟨by rw [HF.out]; rfl, HB0.out.trans (hb2.mono HB0.out.size)⟩
end Go.Proofs.YtcfococinllcmaaGreat

/- alert.Right and alert.Fires: contracts. -/
namespace Go.Proofs.YtcfococinllcmaaGreat
open Go.RowKit
structure Al where
  src : ByteArray
  fl : List Fld
  lv : Int
  c : Nat
  fr : Int
  til : Int
end Go.Proofs.YtcfococinllcmaaGreat

/- Alerts in memory. -/
namespace Go.Proofs.YtcfococinllcmaaGreat
open Go.RowKit
theorem fldCells_take (l : List Fld) (i : Nat) : fldCells (l.take i) = (fldCells l).take (i * 2) := by
  induction l generalizing i with
  | nil => simp [fldCells]
  | cons f l ih =>
    cases i with
    | zero => simp [fldCells]
    | succ i => rw [List.take_succ_cons, fldCells, ih, fldCells, show (i + 1) * 2 = i * 2 + 1 + 1 by omega]; rfl
def alC (x : Al) (v : Value) : List Value := [.string x.src, v, .int .i64 x.lv, .int .u32 x.c, .int .i64 x.fr, .int .i64 x.til]
def alCells : List (Al × Value) → List Value
  | [] => []
  | p :: l => alC p.1 p.2 ++ alCells l
structure AlFit (x : Al) : Prop where
  src : x.src.size ≤ maxLen
  fl : FldsFit x.fl
  len : x.fl.length ≤ maxLen
  c : x.c < 4294967296
structure AlsAt (w : World) (v : Value) (l : List (Al × Value)) : Prop where
  row : RdAt w v l.length 6 (alCells l)
  fld : ∀ p ∈ l, FldsAt w p.2 p.1.fl ∧ AlFit p.1
theorem AlsAt.later {w w' : World} {v : Value} {l : List (Al × Value)} (h : AlsAt w v l) (hb : Below w.heap.size w w') : AlsAt w' v l := ⟨h.row.later hb, fun p hp => ⟨(h.fld p hp).1.later hb, (h.fld p hp).2⟩⟩
end Go.Proofs.YtcfococinllcmaaGreat

/- slices.Clone and slices.DeleteFunc at Field, policy.Visible: contracts. -/
namespace Go.Proofs.YtcfococinllcmaaGreat
open Go.RowKit
/-! plain -/
def fldC (x : Fld) : List Value := [.string x.1, .string x.2]
theorem fld_cells1 (l : List Fld) : ∀ y ∈ fldCells l, y.oneCell' = true := by
  induction l with
  | nil => intro y hy; cases hy
  | cons f l ih =>
    intro y hy
    simp only [fldCells, List.mem_cons] at hy
    rcases hy with rfl | rfl | h
    · rfl
    · rfl
    · exact ih y h
theorem info_fld : (Tryz.prog.info? 103).map (fun i => (i.zero, i.size, i.bytes)) = some (some (.agg #[.string ⟨#[]⟩, .string ⟨#[]⟩]), 2, 32) := by kernel_rfl
theorem own_empty2 (w : World) (t : TypeId) : (w.alloc (.cells #[] t)).ownsRow w.heap.size t 2 (.slice (some ⟨w.heap.size, 0, none⟩) 0 0) 0 [] :=
  ⟨rfl, .inr ⟨w.heap.size, 0, #[], rfl, Nat.le_refl _, heap_alloc_new _ _, Nat.le_refl _, by decide, rfl, rfl⟩⟩
set_option maxHeartbeats 800000 in
set_option maxRecDepth 100000 in
theorem cloneF_any (l : List Fld) (w : World) (v : Value) (h : FldsAt w v l) (hl : l.length ≤ 1000000000000) :
    Calls Tryz.prog 113 #[v] w fun e w' => ∃ v', e = .returned v' ∧ w'.ownsRow w.heap.size 103 2 v' l.length (fldCells l) ∧ Below w.heap.size w w' := by
  obtain ⟨i0, hi, hz0, hz1, hz2⟩ := info_parts info_fld
  have q22 : ∀ (w : World) (a : Option Addr) (n c n' c' : Nat), (binOp .eql 48 (.slice a n c) (.slice none n' c')).run Tryz.prog w = .ok (.bool a.isNone) w := fun w a n c n' c' => Lib.run_eql_slice_nil w _ _ a n c n' c' Tryz.underlying48
  rcases h.2 with ⟨rfl, h0⟩ | ⟨a, c, rfl, hc, hr⟩
  · have hnil : l = [] := List.length_eq_zero_iff.1 h0
    subst hnil
    go_enter Tryz.func113, Tryz.ntmps113
    go_wp2
    go_ret
    exact ⟨_, rfl, World.ownsRow_nil _ _ _ _, Below.refl _ _⟩
  · have h1 := h.later (alloc_below w (.cells #[] 103))
    have h2 := own_empty2 w 103
    have hb := alloc_below w (.cells #[] 103)
    go_enter Tryz.func113, Tryz.ntmps113
    go_wp2_with (at_builtin; (refine wpList_append_rd rfl (.tmp 5) (.tmp 6) 48 rfl w.heap.size 103 i0 (.agg #[.string ⟨#[]⟩, .string ⟨#[]⟩]) 2 32 Tryz.underlying48 hi hz0 hz1 hz2 rfl (by decide) _ 0 [] rfl h2 _ l.length (fldCells l) rfl h1 (fld_cells1 l) (by unfold maxLen; omega) (by omega) (by simp) ?_); intro v2 w2 hown2 hgrow2)
    go_ret
    refine ⟨_, rfl, ?_, hb.grown hgrow2 hb.size (fun k hk => (h2.lt k hk).1)⟩
    have e : 0 + l.length = l.length := Nat.zero_add _
    rw [e] at hown2
    exact hown2
theorem idxf_nil (a : Option Addr) (c : Nat) (f : Value) (w : World) :
    Calls Tryz.prog 131 #[.slice a 0 c, f] w fun e w' => e = .returned (.int .i64 (-1)) ∧ w' = w := by
  go_enter Tryz.func131, Tryz.ntmps131
  go_wp2
  refine wp_loop_rounds 1 ?_
  rw [rounds_succ]
  go_wp2
  go_ret
  exact ⟨rfl, rfl⟩
theorem fldC_at (l : List Fld) (j : Nat) (h : j < l.length) (i : Nat) (v : Value) (hi : (fldC l[j])[i]? = some v) : (fldCells l)[j * 2 + i]? = some v := by
  obtain ⟨h1, h2⟩ := fldCells_at l j h
  match i, hi with
  | 0, hi => rw [Nat.add_zero, h1]; exact hi
  | 1, hi => rw [h2]; exact hi
  | i + 2, hi => simp [fldC] at hi
theorem idxf_any (l : List Fld) (p : Fld → Bool) (bp bf bt : Nat) (v : Value) (w : World) (hv : FldsAt w v l) (hl : l.length ≤ 1000000000000)
    (hp : ∀ W (x : Fld), Below w.heap.size w W → Calls Tryz.prog 114 #[.agg #[.string x.1, .string x.2], .pointer (some ⟨bp, 0, none⟩), .pointer (some ⟨bf, 0, none⟩), .pointer (some ⟨bt, 0, none⟩)] W fun e w' => e = .returned (.bool (p x)) ∧ Below W.heap.size W w') :
    Calls Tryz.prog 131 #[v, .func (.func 114) #[] #[.pointer (some ⟨bp, 0, none⟩), .pointer (some ⟨bf, 0, none⟩), .pointer (some ⟨bt, 0, none⟩)]] w fun e w' =>
      e = .returned (.int .i64 (Lib.idxByFrom (fun _ (y : Fld) => p y) default l 0)) ∧ Below w.heap.size w w' := by
  obtain ⟨a, c, rfl, hc, hr⟩ := RdAt.shape hv
  rcases Nat.eq_zero_or_pos l.length with h0 | h0
  · have hnil : l = [] := List.length_eq_zero_iff.1 h0
    subst hnil
    refine (idxf_nil _ _ _ _).mono ?_
    rintro e w' ⟨rfl, rfl⟩
    exact ⟨rfl, Below.refl _ _⟩
  · obtain ⟨g, o, rfl, hg, hcell⟩ := hr h0
    have hp : PredBelow Tryz.prog 114 #[.pointer (some ⟨bp, 0, none⟩), .pointer (some ⟨bf, 0, none⟩), .pointer (some ⟨bt, 0, none⟩)] (fun x : Fld => .agg (fldC x).toArray) p w := fun W x hW => by
      refine Calls.mono (hp W x hW) ?_
      rintro e w' ⟨rfl, hb⟩
      exact ⟨rfl, hW.trans (hb.mono hW.size)⟩
    have h := AnyQ.slices_IndexFunc (α := Fld) Tryz.laysIdxF 2 Tryz.isAgg103 Tryz.sizeOf103 fldC (fun _ => rfl) p 114 #[.pointer (some ⟨bp, 0, none⟩), .pointer (some ⟨bf, 0, none⟩), .pointer (some ⟨bt, 0, none⟩)]
      (enters_of Tryz.func114 (by kernel_rfl) rfl) g o l.length c l w hp (Nat.le_refl _) (by omega) hg (fun j hj i x hx => by
        have := hcell (j * 2 + i) x (fldC_at l j hj i x (by rw [List.getElem!_eq_getElem?_getD, List.getElem?_eq_getElem hj] at hx; exact hx))
        rw [show o + j * 2 + i = o + (j * 2 + i) by omega]
        exact this)
    rw [List.take_length] at h
    exact h
theorem run_clear_row {P : Program} (w : World) (t e ty : TypeId) (z : Value) (ht : P.underlying t = some (.slice e)) (hv : ∀ w, (zeroValue e).run P w = .ok z w) (b o n c : Nat) (hn : 0 < n)
    (hT : w.there b o (Builtin.zeroCells z.cells n).toList.length) (h1 : ∀ v ∈ (Builtin.zeroCells z.cells n).toList, v.oneCell' = true) :
    (Builtin.clear_ #[t] ty #[.slice (some ⟨b, o, none⟩) n c]).run P w = .ok (.tuple #[]) (w.setCells b o (Builtin.zeroCells z.cells n).toList) := by
  have hst := run_storeCells_cells (P := P) b o (Builtin.zeroCells z.cells n).toList 0 w (fun j hj => (hT j hj).1) (fun j hj => (hT j hj).2) h1
  simp only [Nat.add_zero] at hst
  obtain ⟨m, rfl⟩ : ∃ m, n = m + 1 := ⟨n - 1, by omega⟩
  simp [Builtin.clear_, run_underlying ht, hv, hst]
end Go.Proofs.YtcfococinllcmaaGreat

/- slices.DeleteFunc at Field, policy.Visible: contracts. -/
namespace Go.Proofs.YtcfococinllcmaaGreat
open Go.RowKit
theorem zc_len (n : Nat) : (Builtin.zeroCells (Value.agg #[.string ⟨#[]⟩, .string ⟨#[]⟩]).cells n).toList.length = n * 2 := by simp [Builtin.zeroCells, Value.cells]
theorem zc_cell (n : Nat) : ∀ v ∈ (Builtin.zeroCells (Value.agg #[.string ⟨#[]⟩, .string ⟨#[]⟩]).cells n).toList, v.oneCell' = true := by
  intro v hv
  simp only [Builtin.zeroCells, Value.cells, Array.toList_map, List.mem_map] at hv
  obtain ⟨i, _, rfl⟩ := hv
  have h2 : i % (#[Value.string ⟨#[]⟩, Value.string ⟨#[]⟩] : Array Value).size < 2 := Nat.mod_lt _ (by decide)
  generalize i % (#[Value.string ⟨#[]⟩, Value.string ⟨#[]⟩] : Array Value).size = j at h2
  match j, h2 with
  | 0, _ => rfl
  | 1, _ => rfl
theorem filter_step {p : Fld → Bool} {l : List Fld} {j : Nat} (h : j < l.length) : (l.take (j + 1)).filter (fun x => !p x) = (l.take j).filter (fun x => !p x) ++ (if p l[j] then [] else [l[j]]) := by
  rw [List.take_succ_eq_append_getElem h, List.filter_append]
  congr 1
  cases hp : p l[j] <;> simp [hp]
theorem filter_none {p : Fld → Bool} {l : List Fld} {k : Nat} (hk : k ≤ l.length) (h : ∀ j (hj : j < l.length), j < k → p l[j] = false) : (l.take k).filter (fun x => !p x) = l.take k := by
  rw [List.filter_eq_self]
  intro x hx
  obtain ⟨j, hj, rfl⟩ := List.getElem_of_mem hx
  rw [List.length_take] at hj
  rw [List.getElem_take, h j (by omega) (by omega)]; rfl
theorem row_range {w : World} {g : Nat} {o : Nat} {Y : List Fld} (h : w.rangeAt g o (fldCells Y)) {j : Nat} (hj : j < Y.length) : w.cell? ⟨g, o + j * 2, none⟩ = some (.string Y[j].1) ∧ w.cell? ⟨g, o + j * 2 + 1, none⟩ = some (.string Y[j].2) := by
  obtain ⟨h1, h2⟩ := fldCells_at Y j hj
  exact ⟨h _ _ h1, by have := h _ _ h2; rwa [← Nat.add_assoc] at this⟩
theorem below_put_base {B : Nat} {w W : World} {g j : Nat} {x : Value} (h : Below B w W) (hb : B ≤ g) : Below B w (W.setCell ⟨g, j, none⟩ x) :=
  h.trans ((Below.refl B W).setCell (p := ⟨g, j, none⟩) hb x)
theorem below_puts_base {B : Nat} {w W : World} {g o : Nat} (h : Below B w W) (hb : B ≤ g) : ∀ (vs : List Value), Below B w (W.setCells g o vs) := by
  intro vs
  induction vs generalizing W o with
  | nil => exact h
  | cons v r ih => exact ih (below_put_base h hb)
theorem row_put {w : World} {g n i : Nat} {Y : List Fld} {x : Fld} (h : w.rangeAt g 0 (fldCells Y)) (ht : w.there g 0 (n * 2)) (hn : Y.length = n) (hi : i < n) :
    ((w.setCell ⟨g, i * 2, none⟩ (.string x.1)).setCell ⟨g, i * 2 + 1, none⟩ (.string x.2)).rangeAt g 0 (fldCells (Y.set i x)) ∧ ((w.setCell ⟨g, i * 2, none⟩ (.string x.1)).setCell ⟨g, i * 2 + 1, none⟩ (.string x.2)).there g 0 (n * 2) := by
  have e : (w.setCell ⟨g, i * 2, none⟩ (.string x.1)).setCell ⟨g, i * 2 + 1, none⟩ (.string x.2) = w.setCells g (i * 2) [.string x.1, .string x.2] := rfl
  rw [e]
  have hti : w.there g (i * 2) 2 := fun j hj => by have := ht (i * 2 + j) (by omega); rwa [Nat.zero_add] at this
  refine ⟨fun j v hj => ?_, World.there_setCells ht g (i * 2) _⟩
  rw [Nat.zero_add]
  have hjl := (List.getElem?_eq_some_iff.1 hj).1
  rw [fldCells_len, List.length_set] at hjl
  have hr := World.rangeAt_setCells_same w g (i * 2) [.string x.1, .string x.2] hti
  obtain ⟨m, r, hr2, rfl⟩ : ∃ m r, r < 2 ∧ j = m * 2 + r := ⟨j / 2, j % 2, Nat.mod_lt _ (by decide), by omega⟩
  obtain ⟨q0, q1⟩ := fldCells_at (Y.set i x) m (by rw [List.length_set]; omega)
  by_cases hm : m = i
  · subst hm
    rw [List.getElem_set_self] at q0 q1
    match r, hr2 with
    | 0, _ => rw [Nat.add_zero] at hj ⊢; rw [q0] at hj; rw [← Option.some.inj hj]; exact hr 0 _ rfl
    | 1, _ => rw [q1] at hj; rw [← Option.some.inj hj]; exact hr 1 _ rfl
  · rw [List.getElem_set_ne (Ne.symm hm)] at q0 q1
    obtain ⟨p0, p1⟩ := row_range h (j := m) (by omega)
    rw [Nat.zero_add] at p0 p1
    match r, hr2 with
    | 0, _ =>
      rw [Nat.add_zero] at hj ⊢; rw [q0] at hj; rw [← Option.some.inj hj]
      rw [World.cell?_setCells_out _ _ _ _ _ (fun _ _ => by simp; omega)]
      exact p0
    | 1, _ =>
      rw [q1] at hj; rw [← Option.some.inj hj]
      rw [World.cell?_setCells_out _ _ _ _ _ (fun _ _ => by simp; omega)]
      exact p1
set_option maxHeartbeats 1600000 in
set_option maxRecDepth 100000 in
theorem del_any (l : List Fld) (p : Fld → Bool) (bp bf bt base : Nat) (v : Value) (w : World) (hown : w.ownsRow base 103 2 v l.length (fldCells l)) (hbase : base ≤ w.heap.size) (hl : l.length ≤ 1000000000000)
    (hp : ∀ W (x : Fld), Below base w W → Calls Tryz.prog 114 #[.agg #[.string x.1, .string x.2], .pointer (some ⟨bp, 0, none⟩), .pointer (some ⟨bf, 0, none⟩), .pointer (some ⟨bt, 0, none⟩)] W fun e w' => e = .returned (.bool (p x)) ∧ Below W.heap.size W w') :
    Calls Tryz.prog 112 #[v, .func (.func 114) #[] #[.pointer (some ⟨bp, 0, none⟩), .pointer (some ⟨bf, 0, none⟩), .pointer (some ⟨bt, 0, none⟩)]] w fun e w' =>
      ∃ v', e = .returned v' ∧ FldsAt w' v' (l.filter fun x => !p x) ∧ (∀ q, v'.ownBlock = some q → base ≤ q) ∧ Below base w w' := by
  have hv : FldsAt w v l := RdAt.own hown
  have k1 := idxf_any l p bp bf bt v w hv hl (fun W x hW => hp W x (hW.mono hbase))
  rcases idx_find p default l 0 with ⟨k, hk, h1, _, hpk, hpn⟩ | ⟨h1, _, hpn⟩
  · rw [Nat.zero_add] at h1
    rw [h1] at k1
    rcases hown.2 with ⟨_, h0⟩ | ⟨g, cap, cur, rfl, hgb, hg, hle, hcap, hsz, htk⟩
    · omega
    have hr0 : w.rangeAt g 0 (fldCells l) := by
      obtain ⟨a, c, he, _, hr⟩ := RdAt.shape hv
      obtain ⟨b, o, hb, _, hcell⟩ := hr (by omega)
      cases he
      cases hb
      exact fun j x hj => hcell j x hj
    have ht0 : w.there g 0 (l.length * 2) := fun j hj => by
      refine ⟨World.rangeAt.isSome hr0 j (by rw [fldCells_len]; exact hj), by simp [World.frozen?, hg]⟩
    have hglt : g < w.heap.size := (Array.getElem?_eq_some_iff.1 hg).1
    have hT1 : (l.take k).filter (fun x => !p x) = l.take k := filter_none (by omega) hpn
    have hT2 : l.take k = (l.take (k + 1)).filter (fun x => !p x) := by rw [filter_step hk, hT1, hpk]; simp
    have hk1 : ((k : Int) == -1) = false := by rw [beq_eq_false_iff_ne]; omega
    have HP := Lib.hid hp
    have HT2 := Lib.hid hT2
    have HR0 := Lib.hid hr0
    have HTH0 := Lib.hid ht0
    clear hv hown hp hr0 ht0 hT1 hT2 hpk hpn h1 hg htk hsz
    go_enter Tryz.func112, Tryz.ntmps112
    go_wp2_with fail
    refine k1.mono ?_
    rintro e w1 ⟨rfl, hb1⟩
    have HR1 := Lib.hid (range_later HR0.out hb1 hglt)
    have HTH1 := Lib.hid (there_later HTH0.out hb1 hglt)
    have HB1 := Lib.hid (hb1.mono hbase)
    clear k1 HR0 HTH0 hb1
    go_wp2
    go_loopw [5, 6] (fun vi vj wr => ∃ (i j : Nat) (Y : List Fld), vi = .int .i64 i ∧ vj = .int .i64 j ∧ i < j ∧ j ≤ l.length ∧ Hid (Y.length = l.length) ∧ Hid (Y.take i = (l.take j).filter (fun x => !p x)) ∧ Hid (Y.drop j = l.drop j) ∧ Hid (wr.rangeAt g 0 (fldCells Y)) ∧ Hid (wr.there g 0 (l.length * 2)) ∧ Hid (Below base w wr)) (fun _ vj _ => l.length - (intOf vj).toNat)
    case atStart => exact ⟨k, k + 1, l, rfl, by go_num, by omega, by omega, Lib.hid rfl, HT2, Lib.hid rfl, HR1, HTH1, HB1⟩
    case round =>
      clear HR1 HTH1 HB1 HT2
      obtain ⟨i, j, Y, rfl, rfl, hij, hjl, HY, HT, HD, HR, HTH, HB⟩ := hrel
      have hgr : g < wr.heap.size := Nat.lt_of_lt_of_le hglt HB.out.size
      by_cases hjj : j < l.length
      · have hYj : Y[j]'(by have := HY.out; omega) = l[j] := by
          have h := congrArg (fun z => z[0]?) HD.out
          simp only [List.getElem?_drop, Nat.add_zero] at h
          rw [List.getElem?_eq_getElem hjj, List.getElem?_eq_getElem (by have := HY.out; omega)] at h
          exact Option.some.inj h
        obtain ⟨hc0, hc1⟩ := row_range HR.out (j := j) (by have := HY.out; omega)
        rw [hYj] at hc0 hc1
        rw [Nat.zero_add] at hc0 hc1
        obtain ⟨x, hx⟩ : ∃ x, l[j] = x := ⟨_, rfl⟩
        rw [hx] at hc0 hc1
        obtain ⟨x0, x1⟩ := x
        dsimp only at hc0 hc1
        have hba := alloc_below wr (.cells #[.string x0, .string x1] 103)
        have y0 : (wr.alloc (.cells #[.string x0, .string x1] 103)).cell? ⟨wr.heap.size, 0, none⟩ = some (.string x0) := World.cell?_alloc_at _ _ _ _ rfl
        have y1 : (wr.alloc (.cells #[.string x0, .string x1] 103)).cell? ⟨wr.heap.size, 1, none⟩ = some (.string x1) := World.cell?_alloc_at _ _ _ _ rfl
        have HA := Lib.hid (HB.out.trans (hba.mono (Nat.le_trans hbase HB.out.size)))
        have HRa := Lib.hid (range_later HR.out hba hgr)
        have HTa := Lib.hid (there_later HTH.out hba hgr)
        have hga : g < (wr.alloc (.cells #[.string x0, .string x1] 103)).heap.size := Nat.lt_of_lt_of_le hgr hba.size
        have hgw := cell_lt y0
        have HX := Lib.hid hx
        clear hba hYj hx HR HTH HB
        go_upto_region 8 with fail
        change Code.wp _ _ _ _ (wr.alloc (.cells #[.string x0, .string x1] 103))
        generalize wr.alloc (.cells #[.string x0, .string x1] 103) = wa at *
        have kp := HP.out wa (x0, x1) HA.out
        clear hc0 hc1
        obtain ⟨q, hq⟩ : ∃ q, p (x0, x1) = q := ⟨_, rfl⟩
        rw [hq] at kp
        have HQ := Lib.hid hq
        clear hq
        dsimp only at kp
        go_wp2_with fail
        refine kp.mono ?_
        rintro e w2 ⟨rfl, hb2⟩
        have HB2 := Lib.hid (HA.out.trans (hb2.mono (Nat.le_trans hbase HA.out.size)))
        have HR2 := Lib.hid (range_later HRa.out hb2 hga)
        have HT2 := Lib.hid (there_later HTa.out hb2 hga)
        have HD2 : Hid (Y.drop (j + 1) = l.drop (j + 1)) := by
          show _ = _
          have h := congrArg (List.drop 1) HD.out
          rw [List.drop_drop, List.drop_drop] at h
          first | exact h | (rw [Nat.add_comm j 1]; exact h)
        cases q
        · have z0 := keep_cell y0 hb2 hgw
          have z1 := keep_cell y1 hb2 hgw
          obtain ⟨c0, c1⟩ := row_range HR2.out (j := i) (by have := HY.out; omega)
          rw [Nat.zero_add] at c0 c1
          have f0 := there_free HT2.out (i * 2) (by omega)
          have f1 := there_free HT2.out (i * 2 + 1) (by omega)
          clear kp hb2 HRa HTa HA y0 y1
          go_wp2
          go_roundw
          case rel =>
            have hYi : i < Y.length := by have := HY.out; omega
            have hlen : (Y.take i).length = i := by rw [List.length_take]; omega
            refine ⟨i + 1, j + 1, Y.set i (x0, x1), by go_num, by go_num, by omega, by omega, Lib.hid (by rw [List.length_set]; exact HY.out), Lib.hid ?_, Lib.hid ?_, Lib.hid ?_, Lib.hid ?_, Lib.hid ?_⟩
            · rw [filter_step hjj, HX.out, HQ.out, ← HT.out]
              simp only [Bool.false_eq_true, if_false]
              apply List.ext_getElem?
              intro m
              rcases Nat.lt_trichotomy m i with hm | hm | hm
              · rw [List.getElem?_take_of_lt (by omega), List.getElem?_set_ne (by omega), List.getElem?_append_left (by omega), List.getElem?_take_of_lt hm]
              · subst hm
                rw [List.getElem?_take_of_lt (by omega), List.getElem?_set_self hYi, List.getElem?_append_right (by omega), hlen]; simp
              · rw [List.getElem?_take_eq_none (by omega), List.getElem?_eq_none (by simp; omega)]
            · apply List.ext_getElem?
              intro m
              have h := congrArg (fun z => z[m]?) HD2.out
              simp only [List.getElem?_drop] at h ⊢
              rw [List.getElem?_set_ne (by omega)]
              exact h
            · exact (row_put (x := (x0, x1)) HR2.out HT2.out HY.out (by omega)).1
            · exact (row_put (x := (x0, x1)) HR2.out HT2.out HY.out (by omega)).2
            · exact below_put_base (below_put_base HB2.out hgb) hgb
          case measure => (simp [intOf]; try omega)
        · clear kp hb2 HRa HTa HA y0 y1
          go_wp2
          go_roundw
          case rel => exact ⟨i, j + 1, Y, rfl, by go_num, by omega, by omega, HY, Lib.hid (by rw [HT.out, filter_step hjj, HX.out, HQ.out]; simp), HD2, HR2, HT2, HB2⟩
          case measure => (simp [intOf]; try omega)
      · obtain rfl : j = l.length := by omega
        have HZ := Lib.hid (zc_cell (l.length - i))
        have hcl : ∀ ty, (Builtin.clear_ #[48] ty #[.slice (some ⟨g, i * 2, none⟩) (l.length - i) (cap - i)]).run Tryz.prog wr = .ok (.tuple #[]) (wr.setCells g (i * 2) (Builtin.zeroCells (Value.agg #[.string ⟨#[]⟩, .string ⟨#[]⟩]).cells (l.length - i)).toList) := fun ty =>
          run_clear_row wr 48 103 ty _ Tryz.underlying48 Tryz.zeroValue103 g (i * 2) (l.length - i) (cap - i) (by omega) (fun j hj => by
            have := HTH.out (i * 2 + j) (by rw [zc_len] at hj; omega)
            rw [Nat.zero_add] at this
            exact this) (zc_cell _)
        generalize hzc : (Builtin.zeroCells (Value.agg #[.string ⟨#[]⟩, .string ⟨#[]⟩]).cells (l.length - i)).toList = zc at *
        go_wp2
        go_ret
        have hYl : (Y.take i).length = i := by rw [List.length_take, HY.out]; omega
        have hFl : l.filter (fun x => !p x) = Y.take i := by have := HT.out; rw [List.take_length] at this; exact this.symm
        refine ⟨_, rfl, ?_, fun q hq => by (have : g = q := by simpa [Value.ownBlock] using hq); omega, below_puts_base HB.out hgb _⟩
        rw [hFl]
        unfold FldsAt
        rw [hYl, fldCells_take]
        refine RdAt.mk (by rw [List.length_take, fldCells_len, HY.out]; omega) (by omega) ?_ (fun m y hm => ?_)
        · have := (below_puts_base (o := i * 2) HB.out hgb zc).size; omega
        · have hml := (List.getElem?_eq_some_iff.1 hm).1
          rw [List.length_take] at hml
          rw [World.cell?_setCells_out _ _ _ _ _ (fun _ _ => by simp; omega)]
          have := HR.out m y (by rw [List.getElem?_take_of_lt (by omega)] at hm; exact hm)
          exact this
  · rw [h1] at k1
    obtain ⟨a, c, rfl, _, _⟩ := RdAt.shape hv
    have HN : Hid (l.filter (fun x => !p x) = l) := by
      have := filter_none (Nat.le_refl _) (fun j hj _ => hpn j hj) (p := p) (l := l)
      rwa [List.take_length] at this
    have HV := Lib.hid hv
    have HO := Lib.hid (fun q hq => (hown.lt q hq).1)
    clear hv hown hp h1 hpn
    go_enter Tryz.func112, Tryz.ntmps112
    go_wp2_with fail
    refine k1.mono ?_
    rintro e w1 ⟨rfl, hb1⟩
    have HV1 := Lib.hid (HV.out.later hb1)
    have HB1 := Lib.hid (hb1.mono hbase)
    clear k1 hb1 HV
    go_wp2
    go_ret
    exact ⟨_, rfl, by rw [HN.out]; exact HV1.out, HO.out, HB1.out⟩
def visL (rs : List Nmd) (fl : List Fld) (f t : Int × Nat) : List Fld := fl.filter (seesL rs f t)
set_option maxHeartbeats 1600000 in
set_option maxRecDepth 100000 in
theorem vis_any (s0 s1 s2 s4 s5 : Option Addr × Nat × Nat) (rs : List Nmd) (rv : Value) (fl : List Fld) (fv : Value) (lv : Int) (c : Nat) (tl : Int) (tc : Nat) (w : World) (hv : NmdsAt w rv rs) (hl : rs.length ≤ maxLen) (hf : FldsAt w fv fl) (hfl : fl.length ≤ 1000000000000) :
    Calls Tryz.prog 91 #[.agg #[SV s0, SV s1, SV s2, rv, SV s4, SV s5], fv, Lab lv c, Lab tl tc] w fun e w' => ∃ v', e = .returned v' ∧ FldsAt w' v' (visL rs fl (lv, c) (tl, tc)) ∧ (∀ q, v'.ownBlock = some q → w.heap.size ≤ q) ∧ Below w.heap.size w w' := by
  obtain ⟨ra, rc, rfl, _, _⟩ := RdAt.shape hv
  obtain ⟨fa, fc, rfl, _, _⟩ := RdAt.shape hf
  obtain ⟨a0, n0, c0⟩ := s0
  obtain ⟨a1, n1, c1⟩ := s1
  obtain ⟨a2, n2, c2⟩ := s2
  obtain ⟨a4, n4, c4⟩ := s4
  obtain ⟨a5, n5, c5⟩ := s5
  obtain ⟨W0, hW0⟩ : ∃ z, ((w.alloc (.cells #[.slice a0 n0 c0, .slice a1 n1 c1, .slice a2 n2 c2, .slice ra rs.length rc, .slice a4 n4 c4, .slice a5 n5 c5] 76)).alloc (.cells #[.int .i64 lv, .int .u32 c] 26)).alloc (.cells #[.int .i64 tl, .int .u32 tc] 26) = z := ⟨_, rfl⟩
  have hb0 : Below w.heap.size w W0 := by rw [← hW0]; exact ((alloc_below _ _).trans ((alloc_below _ _).mono (by simp))).trans ((alloc_below _ _).mono (by simp; omega))
  have hz : W0.heap.size = w.heap.size + 1 + 1 + 1 := by rw [← hW0]; simp
  have hbb := (Below.refl W0.heap.size W0)
  rw [← hW0] at hbb
  obtain ⟨h1, h2, h3⟩ := box_cells hbb
  obtain ⟨h4, h5, h6, h7⟩ := box_two h3
  rw [hW0] at h1 h4 h5
  simp only [World.size_alloc] at h1
  have hC6 : C6 w.heap.size (SV (a0, n0, c0)) (SV (a1, n1, c1)) (SV (a2, n2, c2)) (.slice ra rs.length rc) (SV (a4, n4, c4)) (SV (a5, n5, c5)) W0 := ⟨h4 0 _ rfl, h4 1 _ rfl, h4 2 _ rfl, h4 3 _ rfl, h4 4 _ rfl, h4 5 _ rfl⟩
  have hf0 := h5 0 _ rfl
  have hf1 := h5 1 _ rfl
  have ht0 := h1 0 _ rfl
  have ht1 := h1 1 _ rfl
  have kp : ∀ W (x : Fld), Below W0.heap.size W0 W → Calls Tryz.prog 114 #[.agg #[.string x.1, .string x.2], .pointer (some ⟨w.heap.size, 0, none⟩), .pointer (some ⟨w.heap.size + 1, 0, none⟩), .pointer (some ⟨w.heap.size + 1 + 1, 0, none⟩)] W fun e w' => e = .returned (.bool (!seesL rs (lv, c) (tl, tc) x)) ∧ Below W.heap.size W w' := fun W x hW =>
    vis1_any (a0, n0, c0) (a1, n1, c1) (a2, n2, c2) (a4, n4, c4) (a5, n5, c5) rs _ x.1 x.2 w.heap.size (w.heap.size + 1) (w.heap.size + 1 + 1) lv c tl tc W ((hv.later hb0).later hW) hl (hC6.later hW (by omega)) (keep_cell hf0 hW (by omega)) (keep_cell hf1 hW (by omega)) (keep_cell ht0 hW (by omega)) (keep_cell ht1 hW (by omega))
  have kc := cloneF_any fl W0 _ (hf.later hb0) hfl
  have kd : ∀ v' w', w'.ownsRow W0.heap.size 103 2 v' fl.length (fldCells fl) → Below W0.heap.size W0 w' → Calls Tryz.prog 112 #[v', .func (.func 114) #[] #[.pointer (some ⟨w.heap.size, 0, none⟩), .pointer (some ⟨w.heap.size + 1, 0, none⟩), .pointer (some ⟨w.heap.size + 1 + 1, 0, none⟩)]] w' fun e w2 =>
      ∃ v2, e = .returned v2 ∧ FldsAt w2 v2 (visL rs fl (lv, c) (tl, tc)) ∧ (∀ q, v2.ownBlock = some q → w.heap.size ≤ q) ∧ Below w.heap.size w w2 := fun v' w' h hb => by
    refine (del_any fl (fun x => !seesL rs (lv, c) (tl, tc) x) w.heap.size (w.heap.size + 1) (w.heap.size + 1 + 1) W0.heap.size v' w' h hb.size hfl (fun W x hW => kp W x (hb.trans hW))).mono ?_
    rintro e w2 ⟨v2, rfl, hF, hO, hB⟩
    refine ⟨v2, rfl, ?_, fun q hq => Nat.le_trans hb0.size (hO q hq), hb0.trans ((hb.trans hB).mono hb0.size)⟩
    unfold visL
    simp only [Bool.not_not] at hF
    exact hF
  have KD := Lib.hid kd
  clear kd kp hC6 hf0 hf1 ht0 ht1 h1 h2 h3 h4 h5 h6 h7 hbb hv hf
  go_enter Tryz.func91, Tryz.ntmps91
  go_wp2_with fail
  refine kc.mono ?_
  rintro e w1 ⟨v1, rfl, hown, hb1⟩
  have kd := KD.out v1 w1 hown hb1
  clear kc hown hb1 KD
  go_wp2_with fail
  refine kd.mono ?_
  rintro e w2 ⟨v2, rfl, hF, hO, hB⟩
  go_wp2
  go_ret
  exact ⟨_, rfl, hF, hO, hB⟩
end Go.Proofs.YtcfococinllcmaaGreat

/- alert.Cut: a contract. -/
namespace Go.Proofs.YtcfococinllcmaaGreat
open Go.RowKit
def cutOk (rs : List Nmd) (fl : List Fld) (f t : Int × Nat) : Bool := decide (0 < (visL rs fl f t).length) && flowsL f.1 f.2 t.1 t.2
abbrev zeroA : Value := .agg #[.string ⟨#[]⟩, .slice none 0 0, .int .i64 0, .int .u32 0, .int .i64 0, .int .i64 0]
def cutR (ok : Bool) (src : ByteArray) (v : Value) (lv : Int) (c : Nat) (fr til : Int) : Value := match ok with
  | true => .agg #[.string src, v, .int .i64 lv, .int .u32 c, .int .i64 fr, .int .i64 til]
  | false => zeroA
theorem box_later {w W : World} {xs : Array Value} {t : TypeId} (hb : Below (w.alloc (.cells xs t)).heap.size (w.alloc (.cells xs t)) W) {i : Nat} {x : Value} (h : xs[i]? = some x) : W.cell? ⟨w.heap.size, i, none⟩ = some x := (box_cells hb).1 i x h
structure CutBox (w W : World) (p0 p1 p2 p3 p4 p5 a0 a1 a2 a3 a4 a5 l0 l1 : Value) : Prop where
  p : C6 w.heap.size p0 p1 p2 p3 p4 p5 W
  a : C6 (w.heap.size + 1) a0 a1 a2 a3 a4 a5 W
  l0 : W.cell? ⟨w.heap.size + 1 + 1, 0, none⟩ = some l0
  l1 : W.cell? ⟨w.heap.size + 1 + 1, 1, none⟩ = some l1
  r : C6 (w.heap.size + 1 + 1 + 1) (.string ⟨#[]⟩) (.slice none 0 0) (.int .i64 0) (.int .u32 0) (.int .i64 0) (.int .i64 0) W
  ta : W.there (w.heap.size + 1) 0 6
  tr : W.there (w.heap.size + 1 + 1 + 1) 0 6
  lt : w.heap.size + 1 + 1 + 1 < W.heap.size
  below : Below w.heap.size w W
theorem CutBox.later {w W W' : World} {p0 p1 p2 p3 p4 p5 a0 a1 a2 a3 a4 a5 l0 l1 : Value} (h : CutBox w W p0 p1 p2 p3 p4 p5 a0 a1 a2 a3 a4 a5 l0 l1) (hb : Below W.heap.size W W') : CutBox w W' p0 p1 p2 p3 p4 p5 a0 a1 a2 a3 a4 a5 l0 l1 := by
  have hl := h.lt
  exact ⟨h.p.later hb (by omega), h.a.later hb (by omega), keep_cell h.l0 hb (by omega), keep_cell h.l1 hb (by omega), h.r.later hb (by omega), there_later h.ta hb (by omega), there_later h.tr hb (by omega), Nat.lt_of_lt_of_le hl hb.size, h.below.trans (hb.mono h.below.size)⟩
theorem cutBox (w : World) (p0 p1 p2 p3 p4 p5 a0 a1 a2 a3 a4 a5 l0 l1 : Value) (t u s q : TypeId) :
    CutBox w ((((w.alloc (.cells #[p0, p1, p2, p3, p4, p5] t)).alloc (.cells #[a0, a1, a2, a3, a4, a5] u)).alloc (.cells #[l0, l1] s)).alloc (.cells #[.string ⟨#[]⟩, .slice none 0 0, .int .i64 0, .int .u32 0, .int .i64 0, .int .i64 0] q)) p0 p1 p2 p3 p4 p5 a0 a1 a2 a3 a4 a5 l0 l1 := by
  obtain ⟨W1, h1⟩ : ∃ z, w.alloc (.cells #[p0, p1, p2, p3, p4, p5] t) = z := ⟨_, rfl⟩
  obtain ⟨W2, h2⟩ : ∃ z, W1.alloc (.cells #[a0, a1, a2, a3, a4, a5] u) = z := ⟨_, rfl⟩
  obtain ⟨W3, h3⟩ : ∃ z, W2.alloc (.cells #[l0, l1] s) = z := ⟨_, rfl⟩
  obtain ⟨W4, h4⟩ : ∃ z, W3.alloc (.cells #[.string ⟨#[]⟩, .slice none 0 0, .int .i64 0, .int .u32 0, .int .i64 0, .int .i64 0] q) = z := ⟨_, rfl⟩
  rw [h1, h2, h3, h4]
  have s1 : W1.heap.size = w.heap.size + 1 := by rw [← h1, World.size_alloc]
  have s2 : W2.heap.size = w.heap.size + 1 + 1 := by rw [← h2, World.size_alloc, s1]
  have s3 : W3.heap.size = w.heap.size + 1 + 1 + 1 := by rw [← h3, World.size_alloc, s2]
  have s4 : W4.heap.size = w.heap.size + 1 + 1 + 1 + 1 := by rw [← h4, World.size_alloc, s3]
  have b1 : Below w.heap.size w W1 := by rw [← h1]; exact alloc_below _ _
  have b2 : Below W1.heap.size W1 W2 := by rw [← h2]; exact alloc_below _ _
  have b3 : Below W2.heap.size W2 W3 := by rw [← h3]; exact alloc_below _ _
  have b4 : Below W3.heap.size W3 W4 := by rw [← h4]; exact alloc_below _ _
  have c34 : Below W3.heap.size W3 W4 := b4
  have c24 : Below W2.heap.size W2 W4 := b3.trans (b4.mono (by omega))
  have c14 : Below W1.heap.size W1 W4 := b2.trans (c24.mono (by omega))
  have g1 : Below (w.alloc (.cells #[p0, p1, p2, p3, p4, p5] t)).heap.size (w.alloc (.cells #[p0, p1, p2, p3, p4, p5] t)) W4 := by rw [h1]; exact c14
  have g2 : Below (W1.alloc (.cells #[a0, a1, a2, a3, a4, a5] u)).heap.size (W1.alloc (.cells #[a0, a1, a2, a3, a4, a5] u)) W4 := by rw [h2]; exact c24
  have g3 : Below (W2.alloc (.cells #[l0, l1] s)).heap.size (W2.alloc (.cells #[l0, l1] s)) W4 := by rw [h3]; exact c34
  have g4 : Below (W3.alloc (.cells #[.string ⟨#[]⟩, .slice none 0 0, .int .i64 0, .int .u32 0, .int .i64 0, .int .i64 0] q)).heap.size (W3.alloc (.cells #[.string ⟨#[]⟩, .slice none 0 0, .int .i64 0, .int .u32 0, .int .i64 0, .int .i64 0] q)) W4 := by rw [h4]; exact Below.refl _ _
  have t2 := box_there g2
  have t4 := box_there g4
  rw [s1] at t2
  rw [s3] at t4
  exact ⟨⟨box_later g1 rfl, box_later g1 rfl, box_later g1 rfl, box_later g1 rfl, box_later g1 rfl, box_later g1 rfl⟩,
    by rw [← s1]; exact ⟨box_later g2 rfl, box_later g2 rfl, box_later g2 rfl, box_later g2 rfl, box_later g2 rfl, box_later g2 rfl⟩,
    by rw [← s2]; exact box_later g3 rfl, by rw [← s2]; exact box_later g3 rfl,
    by rw [← s3]; exact ⟨box_later g4 rfl, box_later g4 rfl, box_later g4 rfl, box_later g4 rfl, box_later g4 rfl, box_later g4 rfl⟩,
    t2, t4, by omega, b1.trans (c14.mono (by omega))⟩
theorem rd_puts {w : World} {v : Value} {n k : Nat} {xs : List Value} (h : RdAt w v n k xs) {g o : Nat} (hg : ∀ q, v.ownBlock = some q → q ≠ g) (vs : List Value) : RdAt (w.setCells g o vs) v n k xs := by
  refine ⟨h.1, ?_⟩
  rcases h.2 with h | ⟨a, c, rfl, hc, hr⟩
  · exact .inl h
  · refine .inr ⟨a, c, rfl, hc, fun hn => ?_⟩
    obtain ⟨b, o', rfl, hlt, hcell⟩ := hr hn
    have hne := hg b rfl
    refine ⟨b, o', rfl, Nat.lt_of_lt_of_le hlt (below_puts_base (g := g) (o := o) (Below.refl 0 w) (Nat.zero_le _) vs).size, fun j x hx => ?_⟩
    rw [World.cell?_setCells_out _ _ _ _ _ (fun hb _ => absurd hb hne)]
    exact hcell j x hx
set_option maxHeartbeats 1600000 in
set_option maxRecDepth 100000 in
theorem cut_any (s0 s1 s2 s4 s5 : Option Addr × Nat × Nat) (rs : List Nmd) (rv : Value) (src : ByteArray) (fl : List Fld) (fv : Value) (lv : Int) (c : Nat) (fr til : Int) (tl : Int) (tc : Nat) (w : World) (hv : NmdsAt w rv rs) (hl : rs.length ≤ maxLen) (hf : FldsAt w fv fl) (hfl : fl.length ≤ 1000000000000) :
    Calls Tryz.prog 63 #[.agg #[SV s0, SV s1, SV s2, rv, SV s4, SV s5], .agg #[.string src, fv, .int .i64 lv, .int .u32 c, .int .i64 fr, .int .i64 til], Lab tl tc] w fun e w' =>
      ∃ v', FldsAt w' v' (visL rs fl (lv, c) (tl, tc)) ∧ (∀ q, v'.ownBlock = some q → w.heap.size ≤ q) ∧ Below w.heap.size w w' ∧ e = .returned (.tuple #[cutR (cutOk rs fl (lv, c) (tl, tc)) src v' lv c fr til, .bool (cutOk rs fl (lv, c) (tl, tc))]) := by
  have k1 := fun W (hb : Below w.heap.size w W) => vis_any s0 s1 s2 s4 s5 rs rv fl fv lv c tl tc W (hv.later hb) hl (hf.later hb) hfl
  have k2 := flows_any lv c tl tc
  obtain ⟨ra, rc, rfl, _, _⟩ := RdAt.shape hv
  obtain ⟨fa, fc, rfl, _, _⟩ := RdAt.shape hf
  obtain ⟨a0, n0, c0⟩ := s0
  obtain ⟨a1, n1, c1⟩ := s1
  obtain ⟨a2, n2, c2⟩ := s2
  obtain ⟨a4, n4, c4⟩ := s4
  obtain ⟨a5, n5, c5⟩ := s5
  have hX := cutBox w (.slice a0 n0 c0) (.slice a1 n1 c1) (.slice a2 n2 c2) (.slice ra rs.length rc) (.slice a4 n4 c4) (.slice a5 n5 c5) (.string src) (.slice fa fl.length fc) (.int .i64 lv) (.int .u32 c) (.int .i64 fr) (.int .i64 til) (.int .i64 tl) (.int .u32 tc) 76 53 26 53
  have k1 := k1 _ hX.below
  have HX := Lib.hid hX
  clear hX hv hf
  go_enter Tryz.func63, Tryz.ntmps63
  go_wp2_with fail
  refine k1.mono ?_
  rintro e w1 ⟨v1, rfl, hF, hO, hb1⟩
  have HX1 := Lib.hid (HX.out.later hb1)
  clear k1 HX hb1
  obtain ⟨va, vc, rfl, _, _⟩ := RdAt.shape hF
  obtain ⟨V, hV⟩ : ∃ V, visL rs fl (lv, c) (tl, tc) = V := ⟨_, rfl⟩
  have HC : Hid (cutOk rs fl (lv, c) (tl, tc) = (decide (0 < V.length) && flowsL lv c tl tc)) := by show _ = _; unfold cutOk; rw [hV]
  rw [hV] at hF hO ⊢
  have HF := Lib.hid hF
  have HV := Lib.hid hV
  have hO' : ∀ q, (Value.slice va V.length vc).ownBlock = some q → w.heap.size + 1 + 1 + 1 + 1 ≤ q := fun q hq => by
    have := hO q hq
    simpa using this
  have HO := Lib.hid hO'
  clear hF hV hO hO'
  have HX1' := Lib.hid (Nat.lt_of_le_of_lt (Nat.le_refl _) HX1.out.lt)
  obtain ⟨⟨p0, p1, p2, p3, p4, p5⟩, ⟨x0, x1, x2, x3, x4, x5⟩, l0, l1, ⟨r0, r1, r2, r3, r4, r5⟩, ta, tr, _, _⟩ := HX1.out
  rcases Nat.eq_zero_or_pos V.length with h0 | h0
  · have hnil : V = [] := List.length_eq_zero_iff.1 h0
    subst hnil
    have f0 := there_free tr 0 (by decide)
    have f1 := there_free tr 1 (by decide)
    have f2 := there_free tr 2 (by decide)
    have f3 := there_free tr 3 (by decide)
    have f4 := there_free tr 4 (by decide)
    have f5 := there_free tr 5 (by decide)
    clear ta tr p0 p1 p2 p3 p4 p5 x0 x1 x2 x3 x4 x5 l0 l1 h0
    go_wp2
    refine bodyPost_ret (results_agg2 rfl _ _ (w.heap.size + 1 + 1 + 1) [.string ⟨#[]⟩, .slice none 0 0, .int .i64 0, .int .u32 0, .int .i64 0, .int .i64 0] (.struct _) rfl (World.rangeAt_setCells_same w1 (w.heap.size + 1 + 1 + 1) 0 [.string ⟨#[]⟩, .slice none 0 0, .int .i64 0, .int .u32 0, .int .i64 0, .int .i64 0] HX1.out.tr) Tryz.underlying53 rfl (by kernel_rfl)) rfl ?_
    have hbb := below_puts (g := w.heap.size + 1 + 1 + 1) (o := 0) HX1.out.below (by omega) [.string ⟨#[]⟩, .slice none 0 0, .int .i64 0, .int .u32 0, .int .i64 0, .int .i64 0]
    refine ⟨.slice none 0 0, by first | exact RdAt.nil _ _ | (rw [HV.out]; exact RdAt.nil _ _), fun q hq => by simp [Value.ownBlock] at hq, hbb, ?_⟩
    first
      | rfl
      | (rw [HC.out]; rfl)
  · rw [decide_eq_true h0, Bool.true_and] at HC
    obtain ⟨n, hn⟩ : ∃ n, V.length = n + 1 := ⟨V.length - 1, by omega⟩
    rw [hn] at HF HO ⊢
    have hz : (((n + 1 : Nat) : Int) == 0) = false := by rw [beq_eq_false_iff_ne]; omega
    clear hn h0
    clear ta tr p0 p1 p2 p3 p4 p5 r0 r1 r2 r3 r4 r5
    obtain ⟨q, hq⟩ : ∃ q, flowsL lv c tl tc = q := ⟨_, rfl⟩
    rw [hq] at HC k2
    clear hq
    go_wp2_with fail
    refine (k2 _).mono ?_
    rintro e w2 ⟨rfl, hb2⟩
    have HX2 := Lib.hid (HX1.out.later hb2)
    have HF2 := Lib.hid (HF.out.later hb2)
    clear x0 x1 x2 x3 x4 x5 l0 l1 hb2 HF HX1 HX1' k2
    obtain ⟨_, ⟨x0, x1, x2, x3, x4, x5⟩, _, _, ⟨r0, r1, r2, r3, r4, r5⟩, ta, tr, _, _⟩ := HX2.out
    have f0 := there_free tr 0 (by decide)
    have f1 := there_free tr 1 (by decide)
    have f2 := there_free tr 2 (by decide)
    have f3 := there_free tr 3 (by decide)
    have f4 := there_free tr 4 (by decide)
    have f5 := there_free tr 5 (by decide)
    have g1 := there_free ta 1 (by decide)
    clear ta tr
    cases q
    · go_wp2
      refine bodyPost_ret (results_agg2 rfl _ _ (w.heap.size + 1 + 1 + 1) [.string ⟨#[]⟩, .slice none 0 0, .int .i64 0, .int .u32 0, .int .i64 0, .int .i64 0] (.struct _) rfl (World.rangeAt_setCells_same w2 (w.heap.size + 1 + 1 + 1) 0 [.string ⟨#[]⟩, .slice none 0 0, .int .i64 0, .int .u32 0, .int .i64 0, .int .i64 0] HX2.out.tr) Tryz.underlying53 rfl (by kernel_rfl)) rfl ?_
      have hbb := below_puts (g := w.heap.size + 1 + 1 + 1) (o := 0) HX2.out.below (by omega) [.string ⟨#[]⟩, .slice none 0 0, .int .i64 0, .int .u32 0, .int .i64 0, .int .i64 0]
      have hF3 := rd_puts (g := w.heap.size + 1 + 1 + 1) (o := 0) HF2.out (fun q hq => by have := HO.out q hq; omega) [.string ⟨#[]⟩, .slice none 0 0, .int .i64 0, .int .u32 0, .int .i64 0, .int .i64 0]
      refine ⟨_, by first | exact hF3 | (rw [HV.out]; exact hF3), fun q hq => by have := HO.out q hq; omega, hbb, ?_⟩
      first
        | rfl
        | (rw [HC.out]; rfl)
    · go_wp2
      have hT := World.there_setCells HX2.out.tr (w.heap.size + 1) 1 [.slice va (n + 1) vc]
      refine bodyPost_ret (results_agg2 rfl _ _ (w.heap.size + 1 + 1 + 1) [.string src, .slice va (n + 1) vc, .int .i64 lv, .int .u32 c, .int .i64 fr, .int .i64 til] (.struct _) rfl (World.rangeAt_setCells_same _ (w.heap.size + 1 + 1 + 1) 0 [.string src, .slice va (n + 1) vc, .int .i64 lv, .int .u32 c, .int .i64 fr, .int .i64 til] hT) Tryz.underlying53 rfl (by kernel_rfl)) rfl ?_
      have hba := below_puts (g := w.heap.size + 1) (o := 1) HX2.out.below (by omega) [.slice va (n + 1) vc]
      have hbb := below_puts (g := w.heap.size + 1 + 1 + 1) (o := 0) hba (by omega) [.string src, .slice va (n + 1) vc, .int .i64 lv, .int .u32 c, .int .i64 fr, .int .i64 til]
      have hF3 := rd_puts (g := w.heap.size + 1) (o := 1) HF2.out (fun q hq => by have := HO.out q hq; omega) [.slice va (n + 1) vc]
      have hF4 := rd_puts (g := w.heap.size + 1 + 1 + 1) (o := 0) hF3 (fun q hq => by have := HO.out q hq; omega) [.string src, .slice va (n + 1) vc, .int .i64 lv, .int .u32 c, .int .i64 fr, .int .i64 til]
      refine ⟨_, by first | exact hF4 | (rw [HV.out]; exact hF4), fun q hq => by have := HO.out q hq; omega, hbb, ?_⟩
      first
        | rfl
        | (rw [HC.out]; rfl)
end Go.Proofs.YtcfococinllcmaaGreat

