/- pattern's builder: row, either: contracts; the three together. -/
import Derived.Test.YtcfococinllcmaaGreatPatU
namespace Go.Proofs.YtcfococinllcmaaGreat
open Go.RowKit

theorem BS.posAt {own0 : Nat → Prop} {W0 w : World} {g : Nat} {s : ByteArray} {b : Bs} {bx : List (Nat × Value × Value)} (h : BS own0 W0 g s b bx w) : posAt w g = b.pos := by
  obtain ⟨own, h⟩ := h
  exact h.bld.posAt
/-- a part that a callee hands back, among the caller's boxes -/
theorem BSo.part {own0 own : Nat → Prop} {W0 w w' : World} {g : Nat} {s : ByteArray} {b : Bs} {bx : List (Nat × Value × Value)} {r : Bs × (Nat × Nat)} {e : Ending} (h : BSo own0 W0 g s b bx own w) (hp : PartPost own w g s r e w') :
    e = .returned (.agg #[.int .i64 (r.2.1 : Nat), .int .i64 (r.2.2 : Nat)]) ∧ BS own0 W0 g s r.1 bx w' := by
  obtain ⟨h1, own', h2, h3⟩ := hp
  exact ⟨h1, h.call h2 h3⟩
def PartsAt (own : Nat → Prop) (W0 : World) (g : Nat) (s : ByteArray) (d N p1 rb pb : Nat) (r : Bs × (Nat × Nat)) (w : World) : Prop :=
  ∃ (m : Nat) (b : Bs) (p2 : Nat), runM s (m + 1) (.parts (p1, p2)) d b = r ∧ m < N ∧ fuelM s b (.parts (p1, p2)) ≤ m + 1 ∧ b.pos ≤ s.size + 12 - d ∧ p1 < b.sts.length ∧ p2 < b.sts.length ∧ capM s b ≤ 10000 + 100 * d + 20 ∧
    BS own W0 g s b [(pb, .int .i64 p1, .int .i64 p2), (rb, .int .i64 0, .int .i64 0)] w
theorem parts_stop {s : ByteArray} {m d : Nat} {p : Nat × Nat} {b : Bs} (h : peekM s b = none ∨ peekM s b = some 124 ∨ peekM s b = some 41) : runM s (m + 1) (.parts p) d b = (b, p) := by
  rw [runM]
  rcases h with h | h | h <;> rw [h] <;> rfl
theorem parts_on {s : ByteArray} {m d c : Nat} {p : Nat × Nat} {b : Bs} (h : peekM s b = some c) (h1 : c ≠ 124) (h2 : c ≠ 41) {ra : Bs × (Nat × Nat)} (hr : runM s m .atom d b = ra) {t : Bs × (Nat × Nat)} (ht : timesM s ra.1 ra.2 = t) :
    runM s (m + 1) (.parts p) d b = runM s m (.parts (p.1, t.2.2)) d (freeM t.1 p.2 t.2.1) := by
  rw [runM, h]
  dsimp only
  rw [if_neg (by omega), hr, ht]
def AltsAt (own : Nat → Prop) (W0 : World) (g : Nat) (s : ByteArray) (d N p1 p2 rb pb : Nat) (r : Bs × (Nat × Nat)) (w : World) : Prop :=
  ∃ (m : Nat) (b : Bs), runM s (m + 1) (.alts (p1, p2)) d b = r ∧ m < N ∧ fuelM s b (.alts (p1, p2)) ≤ m + 1 ∧ b.pos ≤ s.size + 12 - d ∧ p1 < b.sts.length ∧ p2 < b.sts.length ∧ capM s b ≤ 10000 + 100 * d + 5 ∧
    BS own W0 g s b [(pb, .int .i64 p1, .int .i64 p2), (rb, .int .i64 0, .int .i64 0)] w
theorem alts_at {s : ByteArray} {m d : Nat} {p : Nat × Nat} {b : Bs} {rr : Bs × (Nat × Nat)} (hr : runM s m .row d b = rr) {b2 : Bs} (hb : freeM (freeM rr.1 p.1 rr.2.1) rr.2.2 p.2 = b2) :
    runM s (m + 1) (.alts p) d b = if peekM s b2 = some 124 then runM s m (.alts p) d (stepM b2) else (b2, p) := by
  rw [runM, hr, hb]
theorem times_pos (s : ByteArray) (b : Bs) (x : Nat × Nat) (d : Nat) (hd : d ≤ 8) (h : b.pos ≤ s.size + 12 - d) : (timesM s b x).1.pos ≤ s.size + 12 - d := by
  unfold timesM
  split
  · exact h
  · rename_i c' hc'
    have := (peekM_some hc').2.1
    split
    · have e : ∀ b f t, (freeM b f t).pos = b.pos := fun _ _ _ => rfl
      dsimp only
      split <;> split <;> simp only [e, nodeM, stepM] <;> omega
    · exact h
set_option maxHeartbeats 12800000 in
set_option maxRecDepth 100000 in
theorem row_of (s : ByteArray) (n : Nat) (hs : s.size ≤ 100) (IH : ∀ m, m < n → AtomC s m) : RowC s (n + 1) := by
  intro w g b own d h hd hp hfu hcap
  have hl0 : tot b.sts ≤ 11000 := by unfold capM at hcap; omega
  have hl1 : b.sts.length ≤ 11000 := Nat.le_trans (len_tot _) hl0
  have H0 := Lib.hid ((BS.start h).alloc (.int .i64 0) (.int .i64 0))
  have HIH := Lib.hid IH
  obtain ⟨L, hL⟩ : ∃ L, b.sts.length = L := ⟨_, rfl⟩
  obtain ⟨r, hr⟩ : ∃ r, runM s n (.parts (L, L)) d (nodeM b) = r := ⟨_, rfl⟩
  have HR : Hid (runM s (n + 1) .row d b = r) := Lib.hid (by rw [runM, hL]; exact hr)
  have HST : Hid (∃ m, n = m + 1 ∧ runM s (m + 1) (.parts (L, L)) d (nodeM b) = r ∧ fuelM s (nodeM b) (.parts (L, L)) ≤ m + 1 ∧ L < (nodeM b).sts.length ∧ capM s (nodeM b) ≤ 10000 + 100 * d + 20 ∧ (nodeM b).pos ≤ s.size + 12 - d) := Lib.hid (by
    simp only [fuelM] at hfu
    obtain ⟨m, rfl⟩ : ∃ m, n = m + 1 := ⟨n - 1, by omega⟩
    refine ⟨m, rfl, hr, ?_, by rw [len_node]; omega, ?_, hp⟩
    · simp only [fuelM, nodeM]; omega
    · have := tot_node b
      unfold capM at hcap ⊢
      have e : (nodeM b).pos = b.pos := rfl
      rw [e]; omega)
  have HLL := Lib.hid hL
  clear h IH hr hL
  go_enter Tryz.func152, Tryz.ntmps152
  go_upto_region 1 with fail
  refine wp_forget (BS own w g s b [(w.heap.size, .int .i64 0, .int .i64 0)]) H0.out (fun w0 q0 => ?_)
  obtain ⟨ow, q0⟩ := q0
  have k1 := node_bs q0 L HLL.out (by have := HLL.out; omega)
  clear q0 H0
  go_wp2_with fail
  refine k1.mono ?_
  rintro e w1 ⟨rfl, h1⟩
  have H1 := Lib.hid h1
  clear k1 h1
  have HPX := Lib.hid (H1.out.alloc (.int .i64 L) (.int .i64 L))
  obtain ⟨pb, hpb⟩ : ∃ pb, w1.heap.size = pb := ⟨_, rfl⟩
  have hpr : pb ≠ w.heap.size := by have := H1.out.dist _ (List.mem_singleton.2 rfl); dsimp only at this; omega
  go_wp2
  rw [hpb] at HPX
  go_loopw [7] (fun _ wr => PartsAt own w g s d n L w.heap.size pb r wr) (fun _ wr => s.size + 20 - posAt wr g)
  case atStart =>
    obtain ⟨m, e1, e2, e3, e4, e5, e6⟩ := HST.out
    exact ⟨m, nodeM b, L, e2, by omega, e3, e6, e4, e4, e5, HPX.out⟩
  case round =>
    clear HST HPX H1 hpb hl0 hl1 HLL hcap hfu hp
    obtain ⟨m, b1, p2, hr, hmn, hfu, hp, hp1, hp2, hcap, hB⟩ := hrel
    have HE := Lib.hid hr
    have HB := Lib.hid hB
    have HBP := Lib.hid hB.posAt
    obtain ⟨o, ho⟩ : ∃ o, peekM s b1 = o := ⟨_, rfl⟩
    obtain ⟨ow, q⟩ := hB
    have k1 := peek_bs q o ho (by omega)
    have HO := Lib.hid ho
    clear hr ho q
    go_wp2_with fail
    refine k1.mono ?_
    rintro e wa ⟨rfl, hA⟩
    have HA := Lib.hid hA
    clear k1 hA
    rcases o with _ | c
    · obtain ⟨z0, z1, _, _, _⟩ := HA.out.cells (List.mem_cons_self)
      obtain ⟨y0, y1, f0, f1, _⟩ := HA.out.cells (List.mem_cons_of_mem _ (List.mem_singleton.2 rfl))
      go_wp2
      refine bodyPost_ret (results_agg1 rfl _ _ w.heap.size [.int .i64 (L : Nat), .int .i64 (p2 : Nat)] (.struct _) rfl (World.rangeAt_setCells_same wa w.heap.size 0 [.int .i64 (L : Nat), .int .i64 (p2 : Nat)] (HA.out.there (List.mem_cons_of_mem _ (List.mem_singleton.2 rfl)))) Tryz.underlying192 rfl (by kernel_rfl)) rfl ?_
      rw [HR.out, ← HE.out, parts_stop (.inl HO.out)]
      exact HA.out.done (List.mem_cons_of_mem _ (List.mem_singleton.2 rfl))
    · by_cases h124 : c = 124
      · subst h124
        obtain ⟨z0, z1, _, _, _⟩ := HA.out.cells (List.mem_cons_self)
        obtain ⟨y0, y1, f0, f1, _⟩ := HA.out.cells (List.mem_cons_of_mem _ (List.mem_singleton.2 rfl))
        go_wp2
        refine bodyPost_ret (results_agg1 rfl _ _ w.heap.size [.int .i64 (L : Nat), .int .i64 (p2 : Nat)] (.struct _) rfl (World.rangeAt_setCells_same wa w.heap.size 0 [.int .i64 (L : Nat), .int .i64 (p2 : Nat)] (HA.out.there (List.mem_cons_of_mem _ (List.mem_singleton.2 rfl)))) Tryz.underlying192 rfl (by kernel_rfl)) rfl ?_
        rw [HR.out, ← HE.out, parts_stop (.inr (.inl HO.out))]
        exact HA.out.done (List.mem_cons_of_mem _ (List.mem_singleton.2 rfl))
      · have hb124 : ((c : Int) == 124) = false := by rw [beq_eq_false_iff_ne]; omega
        have H124 := Lib.hid h124
        clear h124
        by_cases h41 : c = 41
        · subst h41
          obtain ⟨z0, z1, _, _, _⟩ := HA.out.cells (List.mem_cons_self)
          obtain ⟨y0, y1, f0, f1, _⟩ := HA.out.cells (List.mem_cons_of_mem _ (List.mem_singleton.2 rfl))
          go_wp2
          refine bodyPost_ret (results_agg1 rfl _ _ w.heap.size [.int .i64 (L : Nat), .int .i64 (p2 : Nat)] (.struct _) rfl (World.rangeAt_setCells_same wa w.heap.size 0 [.int .i64 (L : Nat), .int .i64 (p2 : Nat)] (HA.out.there (List.mem_cons_of_mem _ (List.mem_singleton.2 rfl)))) Tryz.underlying192 rfl (by kernel_rfl)) rfl ?_
          rw [HR.out, ← HE.out, parts_stop (.inr (.inr HO.out))]
          exact HA.out.done (List.mem_cons_of_mem _ (List.mem_singleton.2 rfl))
        · have hb41 : ((c : Int) == 41) = false := by rw [beq_eq_false_iff_ne]; omega
          have H41 := Lib.hid h41
          clear h41
          have hps := (peekM_some HO.out).2.1
          have hfa : fuelM s b1 .atom ≤ m := by simp only [fuelM] at hfu ⊢; omega
          have hro := runM_ok s m .atom d b1 hd hp (fun _ => hps) trivial hfa
          obtain ⟨oa, qa⟩ := HA.out
          have k2 := HIH.out m hmn wa g b1 oa d qa.bld hd hps hfa hcap
          have k2' := k2.mono (fun e w' hp' => qa.part hp')
          clear k2 qa
          obtain ⟨ba, a1, a2, hra⟩ : ∃ ba a1 a2, runM s m .atom d b1 = (ba, (a1, a2)) := ⟨_, _, _, rfl⟩
          rw [hra] at k2' hro
          obtain ⟨ho1, ho2, ho3, ho4, ho5⟩ := hro
          obtain ⟨ho6, ho7⟩ := ho5 rfl
          obtain ⟨ho8, ho9, _⟩ := ho1
          dsimp only at k2' ho2 ho3 ho4 ho6 ho7 ho8 ho9
          have hta : tot ba.sts ≤ 12000 := by unfold capM at hcap; omega
          obtain ⟨bt, t1, t2, htm⟩ : ∃ bt t1 t2, timesM s ba (a1, a2) = (bt, (t1, t2)) := ⟨_, _, _, rfl⟩
          have gt := gd_times s ba (a1, a2)
          have pt := times_part s ba (a1, a2) ⟨ho2, ho3⟩
          have hpt : (timesM s ba (a1, a2)).1.pos ≤ s.size + 12 - d := times_pos s ba (a1, a2) d hd ho4
          rw [htm] at gt pt hpt
          obtain ⟨gt1, gt2, gt3⟩ := gt
          dsimp only at gt1 gt2 gt3 pt hpt
          have HNX : Hid (runM s (m + 1) (.parts (L, p2)) d b1 = runM s m (.parts (L, t2)) d (freeM bt p2 t1)) := Lib.hid (parts_on HO.out H124.out H41.out hra htm)
          have HTM := Lib.hid htm
          clear hra htm
          have HG : Hid (b1.pos < bt.pos ∧ bt.pos ≤ s.size + 12 - d ∧ t1 < bt.sts.length ∧ t2 < bt.sts.length ∧ L < bt.sts.length ∧ p2 < bt.sts.length ∧ tot bt.sts + 1 ≤ tot b1.sts + 6 * (bt.pos - b1.pos) ∧ tot bt.sts ≤ 12000) := Lib.hid ⟨by omega, hpt, pt.1, pt.2, by omega, by omega, by omega, by unfold capM at hcap; omega⟩
          clear ho2 ho4 ho6 ho7 ho8 ho9 gt1 gt2 gt3 pt hpt
          go_wp2_with fail
          refine k2'.mono ?_
          rintro e wb ⟨rfl, hb⟩
          obtain ⟨ob, qb⟩ := hb
          have k3 := times_is wb g s ba ob a1 a2 qb.bld ho3 (by have := HG.out; have := gd_times s ba (a1, a2); have h0 := this.pos; rw [HTM.out] at h0; dsimp only at h0; omega) (by omega)
          have k3' := k3.mono (fun e w' hp' => qb.part hp')
          rw [HTM.out] at k3'
          dsimp only at k3'
          clear k3 qb k2' HB HA HTM
          go_wp2_with fail
          refine k3'.mono ?_
          rintro e wc ⟨rfl, hc⟩
          have HC := Lib.hid hc
          clear k3' hc
          go_upto_region 7 with fail
          have HXX := Lib.hid (HC.out.alloc (.int .i64 t1) (.int .i64 t2))
          obtain ⟨xb, hxb⟩ : ∃ xb, wc.heap.size = xb := ⟨_, rfl⟩
          rw [hxb] at HXX ⊢
          refine wp_forget (BS own w g s bt [(xb, .int .i64 t1, .int .i64 t2), (pb, .int .i64 L, .int .i64 p2), (w.heap.size, .int .i64 0, .int .i64 0)]) HXX.out (fun wx qx => ?_)
          have HX := Lib.hid qx
          have hxn : xb ≠ pb := by have := HC.out.dist _ (List.mem_cons_self); dsimp only at this; omega
          clear qx hxb HXX HC
          obtain ⟨x0, x1, _, _, _⟩ := HX.out.cells (List.mem_cons_self)
          obtain ⟨z0, z1, g0, g1, _⟩ := HX.out.cells (List.mem_cons_of_mem _ (List.mem_cons_self))
          obtain ⟨oy, qy⟩ := HX.out
          have k4 := free_bs qy p2 t1 HG.out.2.2.2.2.2.1 (by have := HG.out; omega)
          clear qy
          go_wp2_with fail
          refine k4.mono ?_
          rintro e wy ⟨rfl, hy⟩
          have HY := Lib.hid hy
          clear k4 hy x0 x1 z0 z1 g0 g1 HX
          obtain ⟨x0, x1, _, _, _⟩ := HY.out.cells (List.mem_cons_self)
          obtain ⟨z0, z1, g0, g1, _⟩ := HY.out.cells (List.mem_cons_of_mem _ (List.mem_cons_self))
          have hz : BS own w g s (freeM bt p2 t1) [(pb, .int .i64 L, .int .i64 p2), (w.heap.size, .int .i64 0, .int .i64 0)] wy := HY.out.sub (fun z hz => List.mem_cons_of_mem _ hz)
          have hz2 := hz.put (k := pb) (j := 1) (fun z hz => by rw [List.mem_singleton.1 hz]; exact fun e => hpr e.symm) (.int .i64 t2)
          have HZ : Hid (BS own w g s (freeM bt p2 t1) [(pb, .int .i64 L, .int .i64 t2), (w.heap.size, .int .i64 0, .int .i64 0)] (wy.setCell ⟨pb, 1, none⟩ (.int .i64 t2))) := Lib.hid hz2
          clear hz hz2 HY
          go_wp2
          go_roundw
          case rel =>
            simp only [fuelM] at hfu
            refine ⟨m - 1, freeM bt p2 t1, t2, ?_, by omega, ?_, HG.out.2.1, ?_, ?_, ?_, HZ.out⟩
            · rw [show m - 1 + 1 = m by omega]; exact HNX.out.symm.trans HE.out
            · simp only [fuelM]; have := HG.out; have e : (freeM bt p2 t1).pos = bt.pos := rfl; rw [e]; omega
            · rw [len_free]; exact HG.out.2.2.2.2.1
            · rw [len_free]; exact HG.out.2.2.2.1
            · have h1 := tot_free bt p2 t1
              have h2 := HG.out
              unfold capM at hcap ⊢
              have e : (freeM bt p2 t1).pos = bt.pos := rfl
              rw [e]; omega
          case measure =>
            rw [HZ.out.posAt, HBP.out]
            have := HG.out
            have e : (freeM bt p2 t1).pos = bt.pos := rfl
            rw [e]; omega
set_option maxHeartbeats 12800000 in
set_option maxRecDepth 100000 in
theorem either_of (s : ByteArray) (n : Nat) (hs : s.size ≤ 100) (IH : ∀ m, m < n → RowC s m) : EitherC s (n + 1) := by
  intro w g b own d h hd hp hfu hcap
  have hl0 : tot b.sts ≤ 11000 := by unfold capM at hcap; omega
  have hl1 : b.sts.length ≤ 11000 := Nat.le_trans (len_tot _) hl0
  have H0 := Lib.hid ((BS.start h).alloc (.int .i64 0) (.int .i64 0))
  have HIH := Lib.hid IH
  obtain ⟨L, hL⟩ : ∃ L, b.sts.length = L := ⟨_, rfl⟩
  obtain ⟨r, hr⟩ : ∃ r, runM s n (.alts (L, L + 1)) d (nodeM (nodeM b)) = r := ⟨_, rfl⟩
  have HR : Hid (runM s (n + 1) .either d b = r) := Lib.hid (by rw [runM, hL]; exact hr)
  have HST : Hid (∃ m, n = m + 1 ∧ runM s (m + 1) (.alts (L, L + 1)) d (nodeM (nodeM b)) = r ∧ fuelM s (nodeM (nodeM b)) (.alts (L, L + 1)) ≤ m + 1 ∧ L + 1 < (nodeM (nodeM b)).sts.length ∧ capM s (nodeM (nodeM b)) ≤ 10000 + 100 * d + 5 ∧ (nodeM (nodeM b)).pos ≤ s.size + 12 - d) := Lib.hid (by
    simp only [fuelM] at hfu
    obtain ⟨m, rfl⟩ : ∃ m, n = m + 1 := ⟨n - 1, by omega⟩
    refine ⟨m, rfl, hr, ?_, by rw [len_node, len_node]; omega, ?_, hp⟩
    · simp only [fuelM, nodeM]; omega
    · have h1 := tot_node b
      have h2 := tot_node (nodeM b)
      unfold capM at hcap ⊢
      have e : (nodeM (nodeM b)).pos = b.pos := rfl
      rw [e]; omega)
  have HLL := Lib.hid hL
  clear h IH hr hL
  go_enter Tryz.func126, Tryz.ntmps126
  go_upto_region 1 with fail
  refine wp_forget (BS own w g s b [(w.heap.size, .int .i64 0, .int .i64 0)]) H0.out (fun w0 q0 => ?_)
  obtain ⟨ow, q0⟩ := q0
  have k1 := node_bs q0 L HLL.out (by have := HLL.out; omega)
  clear q0 H0
  go_wp2_with fail
  refine k1.mono ?_
  rintro e w1 ⟨rfl, h1⟩
  obtain ⟨ox, q1⟩ := h1
  have k2 := node_bs q1 (L + 1) (by rw [len_node, HLL.out]) (by have := HLL.out; omega)
  clear q1 k1
  go_wp2_with fail
  refine k2.mono ?_
  rintro e w2 ⟨rfl, h2⟩
  have H1 := Lib.hid h2
  clear k2 h2
  have HPX := Lib.hid (H1.out.alloc (.int .i64 L) (.int .i64 ((L + 1 : Nat) : Int)))
  obtain ⟨pb, hpb⟩ : ∃ pb, w2.heap.size = pb := ⟨_, rfl⟩
  go_wp2
  rw [hpb] at HPX
  go_loopw [6] (fun _ wr => AltsAt own w g s d n L (L + 1) w.heap.size pb r wr) (fun _ wr => s.size + 20 - posAt wr g)
  case atStart =>
    obtain ⟨m, e1, e2, e3, e4, e5, e6⟩ := HST.out
    exact ⟨m, nodeM (nodeM b), e2, by omega, e3, e6, by omega, e4, e5, HPX.out⟩
  case round =>
    clear HST HPX H1 hpb hl0 hl1 HLL hcap hfu hp
    obtain ⟨m, b1, hr, hmn, hfu, hp, hp1, hp2, hcap, hB⟩ := hrel
    have HE := Lib.hid hr
    have HBP := Lib.hid hB.posAt
    have hfr : fuelM s b1 .row ≤ m := by simp only [fuelM] at hfu ⊢; omega
    have hro := runM_ok s m .row d b1 hd hp (fun h => by cases h) trivial hfr
    obtain ⟨oa, qa⟩ := hB
    have k2 := HIH.out m hmn wr g b1 oa d qa.bld hd hp hfr (by omega)
    have k2' := k2.mono (fun e w' hp' => qa.part hp')
    clear k2 qa hr
    obtain ⟨br, x1, x2, hrr⟩ : ∃ br x1 x2, runM s m .row d b1 = (br, (x1, x2)) := ⟨_, _, _, rfl⟩
    rw [hrr] at k2' hro
    obtain ⟨⟨ho1, ho2, ho3⟩, ho4, ho5, ho6, _⟩ := hro
    simp only [costM] at ho3
    dsimp only at k2' ho1 ho2 ho3 ho4 ho5 ho6
    have HNX : Hid (runM s (m + 1) (.alts (L, L + 1)) d b1 = if peekM s (freeM (freeM br L x1) x2 (L + 1)) = some 124 then runM s m (.alts (L, L + 1)) d (stepM (freeM (freeM br L x1) x2 (L + 1))) else (freeM (freeM br L x1) x2 (L + 1), (L, L + 1))) := Lib.hid (alts_at hrr rfl)
    clear hrr
    go_wp2_with fail
    refine k2'.mono ?_
    rintro e wc ⟨rfl, hc⟩
    have HC := Lib.hid hc
    clear k2' hc
    go_upto_region 3 with fail
    have HXX := Lib.hid (HC.out.alloc (.int .i64 x1) (.int .i64 x2))
    obtain ⟨xb, hxb⟩ : ∃ xb, wc.heap.size = xb := ⟨_, rfl⟩
    rw [hxb] at HXX ⊢
    refine wp_forget (BS own w g s br [(xb, .int .i64 x1, .int .i64 x2), (pb, .int .i64 L, .int .i64 ((L + 1 : Nat) : Int)), (w.heap.size, .int .i64 0, .int .i64 0)]) HXX.out (fun wx qx => ?_)
    have HX := Lib.hid qx
    clear qx hxb HXX HC
    obtain ⟨a0, a1, _, _, _⟩ := HX.out.cells (List.mem_cons_self)
    obtain ⟨z0, z1, _, _, _⟩ := HX.out.cells (List.mem_cons_of_mem _ (List.mem_cons_self))
    have htb : tot br.sts ≤ 12000 := by unfold capM at hcap; omega
    have hF1 : tot (freeM br L x1).sts ≤ tot br.sts + 1 := tot_free br L x1
    have hF2 : tot (freeM (freeM br L x1) x2 (L + 1)).sts ≤ tot (freeM br L x1).sts + 1 := tot_free _ _ _
    obtain ⟨oy, qy⟩ := HX.out
    have k4 := free_bs qy L x1 (by omega) (by omega)
    clear qy
    go_wp2_with fail
    refine k4.mono ?_
    rintro e wy ⟨rfl, hy⟩
    have HY := Lib.hid hy
    clear k4 hy a0 a1 z0 z1 HX
    obtain ⟨a0, a1, _, _, _⟩ := HY.out.cells (List.mem_cons_self)
    obtain ⟨z0, z1, _, _, _⟩ := HY.out.cells (List.mem_cons_of_mem _ (List.mem_cons_self))
    obtain ⟨oz, qz⟩ := HY.out
    have k5 := free_bs qz x2 (L + 1) (by rw [len_free]; omega) (by omega)
    clear qz
    go_wp2_with fail
    refine k5.mono ?_
    rintro e wz ⟨rfl, hz⟩
    have HZ : Hid (BS own w g s (freeM (freeM br L x1) x2 (L + 1)) [(pb, .int .i64 L, .int .i64 ((L + 1 : Nat) : Int)), (w.heap.size, .int .i64 0, .int .i64 0)] wz) := Lib.hid (hz.sub (fun z hz => List.mem_cons_of_mem _ hz))
    clear k5 hz a0 a1 z0 z1 HY
    have HG : Hid (b1.pos ≤ br.pos ∧ br.pos ≤ s.size + 12 - d ∧ L < (freeM (freeM br L x1) x2 (L + 1)).sts.length ∧ L + 1 < (freeM (freeM br L x1) x2 (L + 1)).sts.length ∧ tot (freeM (freeM br L x1) x2 (L + 1)).sts ≤ tot b1.sts + 3 + 6 * (br.pos - b1.pos)) := Lib.hid ⟨ho1, ho6, by rw [len_free, len_free]; omega, by rw [len_free, len_free]; omega, by omega⟩
    have hbp : (freeM (freeM br L x1) x2 (L + 1)).pos = br.pos := rfl
    generalize freeM (freeM br L x1) x2 (L + 1) = b2 at *
    obtain ⟨o, ho⟩ : ∃ o, peekM s b2 = o := ⟨_, rfl⟩
    obtain ⟨oq, qq⟩ := HZ.out
    have k6 := peek_bs qq o ho (by omega)
    have HO := Lib.hid ho
    have HBB := Lib.hid hbp
    clear ho qq
    go_wp2_with fail
    refine k6.mono ?_
    rintro e wa ⟨rfl, hA⟩
    have HA := Lib.hid hA
    clear k6 hA HZ
    by_cases h124 : o = some 124
    · subst h124
      have hp6 : b2.pos ≤ 1000 := by omega
      have HPS := Lib.hid (peekM_some HO.out).2.1
      have HNX2 : Hid (runM s (m + 1) (.alts (L, L + 1)) d b1 = runM s m (.alts (L, L + 1)) d (stepM b2)) := Lib.hid (HNX.out.trans (if_pos HO.out))
      obtain ⟨_, c1, _, f1⟩ := HA.out.fields
      have HS := Lib.hid HA.out.step
      clear hbp HNX
      go_wp2
      go_roundw
      case rel =>
        simp only [fuelM] at hfu
        have h2 := HG.out
        have h3 := HPS.out
        have h4 := HBB.out
        refine ⟨m - 1, stepM b2, ?_, by omega, ?_, ?_, h2.2.2.1, h2.2.2.2.1, ?_, HS.out⟩
        · rw [show m - 1 + 1 = m by omega]; exact HNX2.out.symm.trans HE.out
        · simp only [fuelM, stepM]; omega
        · simp only [stepM]; omega
        · unfold capM at hcap ⊢
          simp only [stepM]; omega
      case measure =>
        rw [HS.out.posAt, HBP.out]
        have h2 := HG.out
        have h3 := HPS.out
        have h4 := HBB.out
        simp only [stepM]; omega
    · have HNX2 : Hid (runM s (m + 1) (.alts (L, L + 1)) d b1 = (b2, (L, L + 1))) := Lib.hid (HNX.out.trans (if_neg (by rw [HO.out]; exact h124)))
      rcases o with _ | c
      · obtain ⟨z0, z1, _, _, _⟩ := HA.out.cells (List.mem_cons_self)
        obtain ⟨y0, y1, f0, f1, _⟩ := HA.out.cells (List.mem_cons_of_mem _ (List.mem_singleton.2 rfl))
        go_wp2
        refine bodyPost_ret (results_agg1 rfl _ _ w.heap.size [.int .i64 (L : Nat), .int .i64 ((L + 1) : Nat)] (.struct _) rfl (World.rangeAt_setCells_same wa w.heap.size 0 [.int .i64 (L : Nat), .int .i64 ((L + 1) : Nat)] (HA.out.there (List.mem_cons_of_mem _ (List.mem_singleton.2 rfl)))) Tryz.underlying192 rfl (by kernel_rfl)) rfl ?_
        rw [HR.out, ← HE.out, HNX2.out]
        exact HA.out.done (List.mem_cons_of_mem _ (List.mem_singleton.2 rfl))
      · have hc1 : ((c : Int) != 124) = true := by simp at h124 ⊢; omega
        clear h124
        obtain ⟨z0, z1, _, _, _⟩ := HA.out.cells (List.mem_cons_self)
        obtain ⟨y0, y1, f0, f1, _⟩ := HA.out.cells (List.mem_cons_of_mem _ (List.mem_singleton.2 rfl))
        go_wp2
        refine bodyPost_ret (results_agg1 rfl _ _ w.heap.size [.int .i64 (L : Nat), .int .i64 ((L + 1) : Nat)] (.struct _) rfl (World.rangeAt_setCells_same wa w.heap.size 0 [.int .i64 (L : Nat), .int .i64 ((L + 1) : Nat)] (HA.out.there (List.mem_cons_of_mem _ (List.mem_singleton.2 rfl)))) Tryz.underlying192 rfl (by kernel_rfl)) rfl ?_
        rw [HR.out, ← HE.out, HNX2.out]
        exact HA.out.done (List.mem_cons_of_mem _ (List.mem_singleton.2 rfl))
/-- the three, whatever the fuel -/
theorem all_of (s : ByteArray) (hs : s.size ≤ 100) (n : Nat) : EitherC s n ∧ RowC s n ∧ AtomC s n := by
  induction n using Nat.strongRecOn with
  | ind n ih =>
    rcases n with _ | n
    · refine ⟨?_, ?_, ?_⟩
      · intro w g b own d _ _ _ hf; simp [fuelM] at hf
      · intro w g b own d _ _ _ hf; simp [fuelM] at hf
      · intro w g b own d _ _ _ hf; simp [fuelM] at hf
    · exact ⟨either_of s n hs (fun m hm => (ih m (by omega)).2.1), row_of s n hs (fun m hm => (ih m (by omega)).2.2), atom_of s n hs (ih n (Nat.lt_succ_self n)).1⟩
end Go.Proofs.YtcfococinllcmaaGreat
