/- pattern's builder: times: a contract. -/
import Derived.Test.YtcfococinllcmaaGreatPatN
import Derived.Test.YtcfococinllcmaaGreatShelf
namespace Go.Proofs.YtcfococinllcmaaGreat
open Go.RowKit

theorem len_node (b : Bs) : (nodeM b).sts.length = b.sts.length + 1 := by simp [nodeM]
theorem len_free (b : Bs) (f t : Nat) : (freeM b f t).sts.length = b.sts.length := by simp [freeM, addF_len]
theorem tot_node (b : Bs) : tot (nodeM b).sts ≤ tot b.sts + 1 := by simp [nodeM, tot]
theorem tot_free (b : Bs) (f t : Nat) : tot (freeM b f t).sts ≤ tot b.sts + 1 := tot_addF b.sts f t
theorem post_in : ∀ c : Nat, c < 256 → postB c = false → Lib.indexByte [42, 43, 63] ((c : Int).toNat.toUInt8) = -1 := by decide +kernel
theorem post_is {c : Nat} (h : postB c = true) : c = 42 ∨ c = 43 ∨ c = 63 := by
  unfold postB at h
  simp only [Bool.or_eq_true, decide_eq_true_eq] at h
  omega
theorem times_none {s : ByteArray} {b : Bs} {x : Nat × Nat} (h : peekM s b = none) : timesM s b x = (b, x) := by unfold timesM; rw [h]
theorem times_no {s : ByteArray} {b : Bs} {x : Nat × Nat} {c : Nat} (h : peekM s b = some c) (hc : postB c = false) : timesM s b x = (b, x) := by unfold timesM; rw [h]; dsimp only; rw [if_neg (by rw [hc]; decide)]
theorem node_bs {own0 own : Nat → Prop} {W0 w : World} {g : Nat} {s : ByteArray} {b : Bs} {bx : List (Nat × Value × Value)} (h : BSo own0 W0 g s b bx own w) (L : Nat) (hL : b.sts.length = L) (hn : L ≤ 1000000) :
    Calls Tryz.prog 151 #[.pointer (some ⟨g, 0, none⟩)] w fun e w' => e = .returned (.int .i64 (L : Nat)) ∧ BS own0 W0 g s (nodeM b) bx w' := by
  refine (node_is w g s b own h.bld (by omega)).mono ?_
  rintro e w' ⟨rfl, own', h1, h2⟩
  exact ⟨by rw [hL], h.call h1 h2⟩
theorem free_bs {own0 own : Nat → Prop} {W0 w : World} {g : Nat} {s : ByteArray} {b : Bs} {bx : List (Nat × Value × Value)} (h : BSo own0 W0 g s b bx own w) (f t : Nat) (hf : f < b.sts.length) (hn : tot b.sts ≤ 1000000) :
    Calls Tryz.prog 153 #[.pointer (some ⟨g, 0, none⟩), .int .i64 f, .int .i64 t] w fun e w' => e = .returned (.tuple #[]) ∧ BS own0 W0 g s (freeM b f t) bx w' := by
  refine (free_is w g s b own f t h.bld hf hn).mono ?_
  rintro e w' ⟨rfl, own', h1, h2⟩
  exact ⟨rfl, h.call h1 h2⟩
theorem peek_bs {own0 own : Nat → Prop} {W0 w : World} {g : Nat} {s : ByteArray} {b : Bs} {bx : List (Nat × Value × Value)} (h : BSo own0 W0 g s b bx own w) (o : Option Nat) (ho : peekM s b = o) (hp : b.pos ≤ 2000000) :
    Calls Tryz.prog 154 #[.pointer (some ⟨g, 0, none⟩)] w fun e w' => e = .returned (.tuple #[.int .u8 ((o.getD 0 : Nat) : Int), .bool o.isSome]) ∧ BS own0 W0 g s b bx w' := by
  refine (peek_is w g s b own o ho h.bld hp).mono ?_
  rintro e w' ⟨rfl, h1⟩
  exact ⟨rfl, BS.below ⟨own, h⟩ h1⟩
theorem fail_bs {own0 own : Nat → Prop} {W0 w : World} {g : Nat} {s : ByteArray} {b : Bs} {bx : List (Nat × Value × Value)} (h : BSo own0 W0 g s b bx own w) (e0 : Int) :
    Calls Tryz.prog 127 #[.pointer (some ⟨g, 0, none⟩), .int .i64 e0] w fun e w' => e = .returned (.tuple #[]) ∧ BS own0 W0 g s (failM b e0) bx w' := by
  refine (fail_is w g s b own e0 h.bld).mono ?_
  rintro e w' ⟨rfl, h1, h2⟩
  exact ⟨rfl, h.call h1 h2⟩
set_option maxHeartbeats 6400000 in
set_option maxRecDepth 100000 in
theorem times_is (w : World) (g : Nat) (s : ByteArray) (b : Bs) (own : Nat → Prop) (x1 x2 : Nat) (h : Bld w g s b own) (hx2 : x2 < b.sts.length) (hp : b.pos ≤ 1000000) (ht : tot b.sts ≤ 900000) :
    Calls Tryz.prog 168 #[.pointer (some ⟨g, 0, none⟩), .agg #[.int .i64 x1, .int .i64 x2]] w (PartPost own w g s (timesM s b (x1, x2))) := by
  have h0 := ((BS.start h).alloc (.int .i64 x1) (.int .i64 x2)).alloc (.int .i64 0) (.int .i64 0)
  rw [World.size_alloc] at h0
  obtain ⟨bx, hbx⟩ : ∃ bx, [(w.heap.size + 1, Value.int .i64 0, Value.int .i64 0), (w.heap.size, Value.int .i64 x1, Value.int .i64 x2)] = bx := ⟨_, rfl⟩
  have hm1 : (w.heap.size, Value.int .i64 x1, Value.int .i64 x2) ∈ bx := by rw [← hbx]; simp
  have hm2 : (w.heap.size + 1, Value.int .i64 0, Value.int .i64 0) ∈ bx := by rw [← hbx]; simp
  rw [hbx] at h0
  have H0 := Lib.hid h0
  have HM1 := Lib.hid hm1
  have HM2 := Lib.hid hm2
  obtain ⟨o, ho⟩ : ∃ o, peekM s b = o := ⟨_, rfl⟩
  have HO := Lib.hid ho
  have hl0 : b.sts.length ≤ 900000 := Nat.le_trans (len_tot _) ht
  clear h0 hbx hm1 hm2 h ho
  go_enter Tryz.func168, Tryz.ntmps168
  go_upto_region 1 with fail
  refine wp_forget (BS own w g s b bx) H0.out (fun w0 q0 => ?_)
  obtain ⟨own0, q0⟩ := q0
  have k1 := peek_bs q0 o HO.out (by omega)
  clear q0 H0
  go_wp2_with fail
  refine k1.mono ?_
  rintro e wa ⟨rfl, hA⟩
  have HA := Lib.hid hA
  clear k1 hA
  rcases o with _ | c
  · obtain ⟨z0, z1, _, _, _⟩ := HA.out.cells HM1.out
    obtain ⟨y0, y1, f0, f1, _⟩ := HA.out.cells HM2.out
    go_wp2
    refine bodyPost_ret (results_agg1 rfl _ _ (w.heap.size + 1) [.int .i64 (x1 : Nat), .int .i64 (x2 : Nat)] (.struct _) rfl (World.rangeAt_setCells_same wa (w.heap.size + 1) 0 [.int .i64 (x1 : Nat), .int .i64 (x2 : Nat)] (HA.out.there HM2.out)) Tryz.underlying192 rfl (by kernel_rfl)) rfl ?_
    rw [times_none HO.out]
    exact HA.out.done HM2.out
  · have hc256 : c < 256 := by rw [(peekM_some HO.out).2.2]; exact byteM_lt _ _
    by_cases hpb : postB c = true
    · have HPB := Lib.hid (post_is hpb)
      have HPT := Lib.hid hpb
      clear hpb
      rcases HPB.out with rfl | rfl | rfl
      · have kx := Tryz.strings_IndexByte ⟨#[42, 43, 63]⟩ 42
        have hix : Lib.indexByte (⟨#[42, 43, 63]⟩ : ByteArray).data.toList (42 : Int).toNat.toUInt8 = 0 := by decide
        rw [hix] at kx
        clear hix
        obtain ⟨_, c1, _, f1⟩ := HA.out.fields
        have HST := Lib.hid HA.out.step
        obtain ⟨L, hL⟩ : ∃ L, b.sts.length = L := ⟨_, rfl⟩
        have HLL := Lib.hid hL
        rw [hL] at hx2 hl0
        have HL : Hid ((stepM b).sts.length = L) := Lib.hid hL
        clear hL
        obtain ⟨og, qg⟩ := HST.out
        have kn := node_bs qg L HL.out (by omega)
        clear qg
        go_wp2_with (go_at_call 175; refine (kx _).mono ?_; rintro e w' ⟨rfl, hw⟩; obtain rfl := hw.symm)
        refine kn.mono ?_
        rintro e wb ⟨rfl, hB⟩
        have HB := Lib.hid hB
        clear kn hB c1 f1 kx HST
        have e1 : (nodeM (stepM b)).sts.length = L + 1 := by rw [len_node, HL.out]
        have e2 : (nodeM (nodeM (stepM b))).sts.length = L + 2 := by rw [len_node, e1]
        have E1 := Lib.hid e1
        have E2 := Lib.hid e2
        have T2 : Hid (tot (nodeM (nodeM (stepM b))).sts ≤ 900002) := Lib.hid (by have h1 := tot_node (stepM b); have h2 := tot_node (nodeM (stepM b)); have h3 : tot (stepM b).sts = tot b.sts := rfl; omega)
        clear e1 e2
        obtain ⟨o1, q1⟩ := HB.out
        have k1 := node_bs q1 (L + 1) E1.out (by omega)
        clear q1
        go_wp2_with fail
        refine k1.mono ?_
        rintro e w1 ⟨rfl, h1⟩
        have H1 := Lib.hid h1
        clear k1 h1  HB
        go_upto_region 6 with fail
        have HPX := Lib.hid (H1.out.alloc (.int .i64 L) (.int .i64 ((L + 1 : Nat) : Int)))
        obtain ⟨pb, hpb⟩ : ∃ pb, w1.heap.size = pb := ⟨_, rfl⟩
        rw [hpb] at HPX ⊢
        refine wp_forget (BS own w g s (nodeM (nodeM (stepM b))) ((pb, .int .i64 L, .int .i64 ((L + 1 : Nat) : Int)) :: bx)) HPX.out (fun wp qp => ?_)
        have HP := Lib.hid qp
        clear qp hpb HPX H1
        have MP : Hid ((pb, Value.int .i64 L, Value.int .i64 ((L + 1 : Nat) : Int)) ∈ (pb, Value.int .i64 L, Value.int .i64 ((L + 1 : Nat) : Int)) :: bx) := Lib.hid (List.mem_cons_self)
        have M1 := Lib.hid (List.mem_cons_of_mem (pb, Value.int .i64 L, Value.int .i64 ((L + 1 : Nat) : Int)) HM1.out)
        have M2 := Lib.hid (List.mem_cons_of_mem (pb, Value.int .i64 L, Value.int .i64 ((L + 1 : Nat) : Int)) HM2.out)
        have hlc900002 : (nodeM (nodeM (stepM b))).sts.length = L + 2 := by (repeat rw [len_free]); exact E2.out
        have HLC900002 := Lib.hid hlc900002
        clear hlc900002
        obtain ⟨o2, q2⟩ := HP.out
        have k2 := free_bs q2 L x1 (by have := HLC900002.out; omega) (by have := T2.out; omega)
        obtain ⟨z2_0, y2_0, _, _, _⟩ := HP.out.cells MP.out
        obtain ⟨z2_1, y2_1, _, _, _⟩ := HP.out.cells M1.out
        clear q2
        go_wp2_with fail
        refine k2.mono ?_
        rintro e w2 ⟨rfl, h2⟩
        have H2 := Lib.hid h2
        clear k2 h2 z2_0 y2_0 z2_1 y2_1 HP
        have T900003 : Hid (tot (freeM (nodeM (nodeM (stepM b))) L x1).sts ≤ 900003) := Lib.hid (by have := tot_free (nodeM (nodeM (stepM b))) L x1; have := T2.out; omega)
        have hlc900003 : (freeM (nodeM (nodeM (stepM b))) L x1).sts.length = L + 2 := by (repeat rw [len_free]); exact E2.out
        have HLC900003 := Lib.hid hlc900003
        clear hlc900003
        obtain ⟨o3, q3⟩ := H2.out
        have k3 := free_bs q3 x2 (L + 1) (by have := HLC900003.out; omega) (by have := T900003.out; omega)
        obtain ⟨z3_0, y3_0, _, _, _⟩ := H2.out.cells MP.out
        obtain ⟨z3_1, y3_1, _, _, _⟩ := H2.out.cells M1.out
        clear q3
        go_wp2_with fail
        refine k3.mono ?_
        rintro e w3 ⟨rfl, h3⟩
        have H3 := Lib.hid h3
        clear k3 h3 z3_0 y3_0 z3_1 y3_1 H2
        have T900004 : Hid (tot (freeM (freeM (nodeM (nodeM (stepM b))) L x1) x2 (L + 1)).sts ≤ 900004) := Lib.hid (by have := tot_free (freeM (nodeM (nodeM (stepM b))) L x1) x2 (L + 1); have := T900003.out; omega)
        have hlc900004 : (freeM (freeM (nodeM (nodeM (stepM b))) L x1) x2 (L + 1)).sts.length = L + 2 := by (repeat rw [len_free]); exact E2.out
        have HLC900004 := Lib.hid hlc900004
        clear hlc900004
        obtain ⟨o4, q4⟩ := H3.out
        have k4 := free_bs q4 L (L + 1) (by have := HLC900004.out; omega) (by have := T900004.out; omega)
        obtain ⟨z4_0, y4_0, _, _, _⟩ := H3.out.cells MP.out
        clear q4
        go_wp2_with fail
        refine k4.mono ?_
        rintro e w4 ⟨rfl, h4⟩
        have H4 := Lib.hid h4
        clear k4 h4 z4_0 y4_0 H3
        have T900005 : Hid (tot (freeM (freeM (freeM (nodeM (nodeM (stepM b))) L x1) x2 (L + 1)) L (L + 1)).sts ≤ 900005) := Lib.hid (by have := tot_free (freeM (freeM (nodeM (nodeM (stepM b))) L x1) x2 (L + 1)) L (L + 1); have := T900004.out; omega)
        have hlc900005 : (freeM (freeM (freeM (nodeM (nodeM (stepM b))) L x1) x2 (L + 1)) L (L + 1)).sts.length = L + 2 := by (repeat rw [len_free]); exact E2.out
        have HLC900005 := Lib.hid hlc900005
        clear hlc900005
        obtain ⟨o5, q5⟩ := H4.out
        have k5 := free_bs q5 x2 x1 (by have := HLC900005.out; omega) (by have := T900005.out; omega)
        obtain ⟨z5_0, y5_0, _, _, _⟩ := H4.out.cells M1.out
        clear q5
        go_wp2_with fail
        refine k5.mono ?_
        rintro e w5 ⟨rfl, h5⟩
        have H5 := Lib.hid h5
        clear k5 h5 z5_0 y5_0 H4
        have T900006 : Hid (tot (freeM (freeM (freeM (freeM (nodeM (nodeM (stepM b))) L x1) x2 (L + 1)) L (L + 1)) x2 x1).sts ≤ 900006) := Lib.hid (by have := tot_free (freeM (freeM (freeM (nodeM (nodeM (stepM b))) L x1) x2 (L + 1)) L (L + 1)) x2 x1; have := T900005.out; omega)
        have HEQ : Hid (timesM s b (x1, x2) = ((freeM (freeM (freeM (freeM (nodeM (nodeM (stepM b))) L x1) x2 (L + 1)) L (L + 1)) x2 x1), (L, L + 1))) := Lib.hid (by unfold timesM; rw [HO.out]; dsimp only; rw [if_pos HPT.out, HLL.out]; rfl)
        obtain ⟨z0, z1, _, _, _⟩ := H5.out.cells MP.out
        obtain ⟨y0, y1, f0, f1, _⟩ := H5.out.cells M2.out
        go_wp2
        refine bodyPost_ret (results_agg1 rfl _ _ (w.heap.size + 1) [.int .i64 (L : Nat), .int .i64 ((L + 1) : Nat)] (.struct _) rfl (World.rangeAt_setCells_same w5 (w.heap.size + 1) 0 [.int .i64 (L : Nat), .int .i64 ((L + 1) : Nat)] (H5.out.there M2.out)) Tryz.underlying192 rfl (by kernel_rfl)) rfl ?_
        rw [HEQ.out]
        exact H5.out.done M2.out
      · have kx := Tryz.strings_IndexByte ⟨#[42, 43, 63]⟩ 43
        have hix : Lib.indexByte (⟨#[42, 43, 63]⟩ : ByteArray).data.toList (43 : Int).toNat.toUInt8 = 1 := by decide
        rw [hix] at kx
        clear hix
        obtain ⟨_, c1, _, f1⟩ := HA.out.fields
        have HST := Lib.hid HA.out.step
        obtain ⟨L, hL⟩ : ∃ L, b.sts.length = L := ⟨_, rfl⟩
        have HLL := Lib.hid hL
        rw [hL] at hx2 hl0
        have HL : Hid ((stepM b).sts.length = L) := Lib.hid hL
        clear hL
        obtain ⟨og, qg⟩ := HST.out
        have kn := node_bs qg L HL.out (by omega)
        clear qg
        go_wp2_with (go_at_call 175; refine (kx _).mono ?_; rintro e w' ⟨rfl, hw⟩; obtain rfl := hw.symm)
        refine kn.mono ?_
        rintro e wb ⟨rfl, hB⟩
        have HB := Lib.hid hB
        clear kn hB c1 f1 kx HST
        have e1 : (nodeM (stepM b)).sts.length = L + 1 := by rw [len_node, HL.out]
        have e2 : (nodeM (nodeM (stepM b))).sts.length = L + 2 := by rw [len_node, e1]
        have E1 := Lib.hid e1
        have E2 := Lib.hid e2
        have T2 : Hid (tot (nodeM (nodeM (stepM b))).sts ≤ 900002) := Lib.hid (by have h1 := tot_node (stepM b); have h2 := tot_node (nodeM (stepM b)); have h3 : tot (stepM b).sts = tot b.sts := rfl; omega)
        clear e1 e2
        obtain ⟨o6, q6⟩ := HB.out
        have k6 := node_bs q6 (L + 1) E1.out (by omega)
        clear q6
        go_wp2_with fail
        refine k6.mono ?_
        rintro e w6 ⟨rfl, h6⟩
        have H6 := Lib.hid h6
        clear k6 h6  HB
        go_upto_region 6 with fail
        have HPX := Lib.hid (H6.out.alloc (.int .i64 L) (.int .i64 ((L + 1 : Nat) : Int)))
        obtain ⟨pb, hpb⟩ : ∃ pb, w6.heap.size = pb := ⟨_, rfl⟩
        rw [hpb] at HPX ⊢
        refine wp_forget (BS own w g s (nodeM (nodeM (stepM b))) ((pb, .int .i64 L, .int .i64 ((L + 1 : Nat) : Int)) :: bx)) HPX.out (fun wp qp => ?_)
        have HP := Lib.hid qp
        clear qp hpb HPX H6
        have MP : Hid ((pb, Value.int .i64 L, Value.int .i64 ((L + 1 : Nat) : Int)) ∈ (pb, Value.int .i64 L, Value.int .i64 ((L + 1 : Nat) : Int)) :: bx) := Lib.hid (List.mem_cons_self)
        have M1 := Lib.hid (List.mem_cons_of_mem (pb, Value.int .i64 L, Value.int .i64 ((L + 1 : Nat) : Int)) HM1.out)
        have M2 := Lib.hid (List.mem_cons_of_mem (pb, Value.int .i64 L, Value.int .i64 ((L + 1 : Nat) : Int)) HM2.out)
        have hlc900002 : (nodeM (nodeM (stepM b))).sts.length = L + 2 := by (repeat rw [len_free]); exact E2.out
        have HLC900002 := Lib.hid hlc900002
        clear hlc900002
        obtain ⟨o7, q7⟩ := HP.out
        have k7 := free_bs q7 L x1 (by have := HLC900002.out; omega) (by have := T2.out; omega)
        obtain ⟨z7_0, y7_0, _, _, _⟩ := HP.out.cells MP.out
        obtain ⟨z7_1, y7_1, _, _, _⟩ := HP.out.cells M1.out
        clear q7
        go_wp2_with fail
        refine k7.mono ?_
        rintro e w7 ⟨rfl, h7⟩
        have H7 := Lib.hid h7
        clear k7 h7 z7_0 y7_0 z7_1 y7_1 HP
        have T900003 : Hid (tot (freeM (nodeM (nodeM (stepM b))) L x1).sts ≤ 900003) := Lib.hid (by have := tot_free (nodeM (nodeM (stepM b))) L x1; have := T2.out; omega)
        have hlc900003 : (freeM (nodeM (nodeM (stepM b))) L x1).sts.length = L + 2 := by (repeat rw [len_free]); exact E2.out
        have HLC900003 := Lib.hid hlc900003
        clear hlc900003
        obtain ⟨o8, q8⟩ := H7.out
        have k8 := free_bs q8 x2 (L + 1) (by have := HLC900003.out; omega) (by have := T900003.out; omega)
        obtain ⟨z8_0, y8_0, _, _, _⟩ := H7.out.cells MP.out
        obtain ⟨z8_1, y8_1, _, _, _⟩ := H7.out.cells M1.out
        clear q8
        go_wp2_with fail
        refine k8.mono ?_
        rintro e w8 ⟨rfl, h8⟩
        have H8 := Lib.hid h8
        clear k8 h8 z8_0 y8_0 z8_1 y8_1 H7
        have T900004 : Hid (tot (freeM (freeM (nodeM (nodeM (stepM b))) L x1) x2 (L + 1)).sts ≤ 900004) := Lib.hid (by have := tot_free (freeM (nodeM (nodeM (stepM b))) L x1) x2 (L + 1); have := T900003.out; omega)
        have hlc900004 : (freeM (freeM (nodeM (nodeM (stepM b))) L x1) x2 (L + 1)).sts.length = L + 2 := by (repeat rw [len_free]); exact E2.out
        have HLC900004 := Lib.hid hlc900004
        clear hlc900004
        obtain ⟨o9, q9⟩ := H8.out
        have k9 := free_bs q9 x2 x1 (by have := HLC900004.out; omega) (by have := T900004.out; omega)
        obtain ⟨z9_0, y9_0, _, _, _⟩ := H8.out.cells M1.out
        clear q9
        go_wp2_with fail
        refine k9.mono ?_
        rintro e w9 ⟨rfl, h9⟩
        have H9 := Lib.hid h9
        clear k9 h9 z9_0 y9_0 H8
        have T900005 : Hid (tot (freeM (freeM (freeM (nodeM (nodeM (stepM b))) L x1) x2 (L + 1)) x2 x1).sts ≤ 900005) := Lib.hid (by have := tot_free (freeM (freeM (nodeM (nodeM (stepM b))) L x1) x2 (L + 1)) x2 x1; have := T900004.out; omega)
        have HEQ : Hid (timesM s b (x1, x2) = ((freeM (freeM (freeM (nodeM (nodeM (stepM b))) L x1) x2 (L + 1)) x2 x1), (L, L + 1))) := Lib.hid (by unfold timesM; rw [HO.out]; dsimp only; rw [if_pos HPT.out, HLL.out]; rfl)
        obtain ⟨z0, z1, _, _, _⟩ := H9.out.cells MP.out
        obtain ⟨y0, y1, f0, f1, _⟩ := H9.out.cells M2.out
        go_wp2
        refine bodyPost_ret (results_agg1 rfl _ _ (w.heap.size + 1) [.int .i64 (L : Nat), .int .i64 ((L + 1) : Nat)] (.struct _) rfl (World.rangeAt_setCells_same w9 (w.heap.size + 1) 0 [.int .i64 (L : Nat), .int .i64 ((L + 1) : Nat)] (H9.out.there M2.out)) Tryz.underlying192 rfl (by kernel_rfl)) rfl ?_
        rw [HEQ.out]
        exact H9.out.done M2.out
      · have kx := Tryz.strings_IndexByte ⟨#[42, 43, 63]⟩ 63
        have hix : Lib.indexByte (⟨#[42, 43, 63]⟩ : ByteArray).data.toList (63 : Int).toNat.toUInt8 = 2 := by decide
        rw [hix] at kx
        clear hix
        obtain ⟨_, c1, _, f1⟩ := HA.out.fields
        have HST := Lib.hid HA.out.step
        obtain ⟨L, hL⟩ : ∃ L, b.sts.length = L := ⟨_, rfl⟩
        have HLL := Lib.hid hL
        rw [hL] at hx2 hl0
        have HL : Hid ((stepM b).sts.length = L) := Lib.hid hL
        clear hL
        obtain ⟨og, qg⟩ := HST.out
        have kn := node_bs qg L HL.out (by omega)
        clear qg
        go_wp2_with (go_at_call 175; refine (kx _).mono ?_; rintro e w' ⟨rfl, hw⟩; obtain rfl := hw.symm)
        refine kn.mono ?_
        rintro e wb ⟨rfl, hB⟩
        have HB := Lib.hid hB
        clear kn hB c1 f1 kx HST
        have e1 : (nodeM (stepM b)).sts.length = L + 1 := by rw [len_node, HL.out]
        have e2 : (nodeM (nodeM (stepM b))).sts.length = L + 2 := by rw [len_node, e1]
        have E1 := Lib.hid e1
        have E2 := Lib.hid e2
        have T2 : Hid (tot (nodeM (nodeM (stepM b))).sts ≤ 900002) := Lib.hid (by have h1 := tot_node (stepM b); have h2 := tot_node (nodeM (stepM b)); have h3 : tot (stepM b).sts = tot b.sts := rfl; omega)
        clear e1 e2
        obtain ⟨o10, q10⟩ := HB.out
        have k10 := node_bs q10 (L + 1) E1.out (by omega)
        clear q10
        go_wp2_with fail
        refine k10.mono ?_
        rintro e w10 ⟨rfl, h10⟩
        have H10 := Lib.hid h10
        clear k10 h10  HB
        go_upto_region 6 with fail
        have HPX := Lib.hid (H10.out.alloc (.int .i64 L) (.int .i64 ((L + 1 : Nat) : Int)))
        obtain ⟨pb, hpb⟩ : ∃ pb, w10.heap.size = pb := ⟨_, rfl⟩
        rw [hpb] at HPX ⊢
        refine wp_forget (BS own w g s (nodeM (nodeM (stepM b))) ((pb, .int .i64 L, .int .i64 ((L + 1 : Nat) : Int)) :: bx)) HPX.out (fun wp qp => ?_)
        have HP := Lib.hid qp
        clear qp hpb HPX H10
        have MP : Hid ((pb, Value.int .i64 L, Value.int .i64 ((L + 1 : Nat) : Int)) ∈ (pb, Value.int .i64 L, Value.int .i64 ((L + 1 : Nat) : Int)) :: bx) := Lib.hid (List.mem_cons_self)
        have M1 := Lib.hid (List.mem_cons_of_mem (pb, Value.int .i64 L, Value.int .i64 ((L + 1 : Nat) : Int)) HM1.out)
        have M2 := Lib.hid (List.mem_cons_of_mem (pb, Value.int .i64 L, Value.int .i64 ((L + 1 : Nat) : Int)) HM2.out)
        have hlc900002 : (nodeM (nodeM (stepM b))).sts.length = L + 2 := by (repeat rw [len_free]); exact E2.out
        have HLC900002 := Lib.hid hlc900002
        clear hlc900002
        obtain ⟨o11, q11⟩ := HP.out
        have k11 := free_bs q11 L x1 (by have := HLC900002.out; omega) (by have := T2.out; omega)
        obtain ⟨z11_0, y11_0, _, _, _⟩ := HP.out.cells MP.out
        obtain ⟨z11_1, y11_1, _, _, _⟩ := HP.out.cells M1.out
        clear q11
        go_wp2_with fail
        refine k11.mono ?_
        rintro e w11 ⟨rfl, h11⟩
        have H11 := Lib.hid h11
        clear k11 h11 z11_0 y11_0 z11_1 y11_1 HP
        have T900003 : Hid (tot (freeM (nodeM (nodeM (stepM b))) L x1).sts ≤ 900003) := Lib.hid (by have := tot_free (nodeM (nodeM (stepM b))) L x1; have := T2.out; omega)
        have hlc900003 : (freeM (nodeM (nodeM (stepM b))) L x1).sts.length = L + 2 := by (repeat rw [len_free]); exact E2.out
        have HLC900003 := Lib.hid hlc900003
        clear hlc900003
        obtain ⟨o12, q12⟩ := H11.out
        have k12 := free_bs q12 x2 (L + 1) (by have := HLC900003.out; omega) (by have := T900003.out; omega)
        obtain ⟨z12_0, y12_0, _, _, _⟩ := H11.out.cells MP.out
        obtain ⟨z12_1, y12_1, _, _, _⟩ := H11.out.cells M1.out
        clear q12
        go_wp2_with fail
        refine k12.mono ?_
        rintro e w12 ⟨rfl, h12⟩
        have H12 := Lib.hid h12
        clear k12 h12 z12_0 y12_0 z12_1 y12_1 H11
        have T900004 : Hid (tot (freeM (freeM (nodeM (nodeM (stepM b))) L x1) x2 (L + 1)).sts ≤ 900004) := Lib.hid (by have := tot_free (freeM (nodeM (nodeM (stepM b))) L x1) x2 (L + 1); have := T900003.out; omega)
        have hlc900004 : (freeM (freeM (nodeM (nodeM (stepM b))) L x1) x2 (L + 1)).sts.length = L + 2 := by (repeat rw [len_free]); exact E2.out
        have HLC900004 := Lib.hid hlc900004
        clear hlc900004
        obtain ⟨o13, q13⟩ := H12.out
        have k13 := free_bs q13 L (L + 1) (by have := HLC900004.out; omega) (by have := T900004.out; omega)
        obtain ⟨z13_0, y13_0, _, _, _⟩ := H12.out.cells MP.out
        clear q13
        go_wp2_with fail
        refine k13.mono ?_
        rintro e w13 ⟨rfl, h13⟩
        have H13 := Lib.hid h13
        clear k13 h13 z13_0 y13_0 H12
        have T900005 : Hid (tot (freeM (freeM (freeM (nodeM (nodeM (stepM b))) L x1) x2 (L + 1)) L (L + 1)).sts ≤ 900005) := Lib.hid (by have := tot_free (freeM (freeM (nodeM (nodeM (stepM b))) L x1) x2 (L + 1)) L (L + 1); have := T900004.out; omega)
        have HEQ : Hid (timesM s b (x1, x2) = ((freeM (freeM (freeM (nodeM (nodeM (stepM b))) L x1) x2 (L + 1)) L (L + 1)), (L, L + 1))) := Lib.hid (by unfold timesM; rw [HO.out]; dsimp only; rw [if_pos HPT.out, HLL.out]; rfl)
        obtain ⟨z0, z1, _, _, _⟩ := H13.out.cells MP.out
        obtain ⟨y0, y1, f0, f1, _⟩ := H13.out.cells M2.out
        go_wp2
        refine bodyPost_ret (results_agg1 rfl _ _ (w.heap.size + 1) [.int .i64 (L : Nat), .int .i64 ((L + 1) : Nat)] (.struct _) rfl (World.rangeAt_setCells_same w13 (w.heap.size + 1) 0 [.int .i64 (L : Nat), .int .i64 ((L + 1) : Nat)] (H13.out.there M2.out)) Tryz.underlying192 rfl (by kernel_rfl)) rfl ?_
        rw [HEQ.out]
        exact H13.out.done M2.out
    · have hpf : postB c = false := by simpa using hpb
      have kx := Tryz.strings_IndexByte ⟨#[42, 43, 63]⟩ (c : Int)
      have hix : Lib.indexByte (⟨#[42, 43, 63]⟩ : ByteArray).data.toList ((c : Int).toNat.toUInt8) = -1 := post_in c hc256 hpf
      rw [hix] at kx
      have HPF := Lib.hid hpf
      clear hix hpb hpf
      obtain ⟨z0, z1, _, _, _⟩ := HA.out.cells HM1.out
      obtain ⟨y0, y1, f0, f1, _⟩ := HA.out.cells HM2.out
      go_wp2_with (go_at_call 175; refine (kx _).mono ?_; rintro e w' ⟨rfl, hw⟩; obtain rfl := hw.symm)
      refine bodyPost_ret (results_agg1 rfl _ _ (w.heap.size + 1) [.int .i64 (x1 : Nat), .int .i64 (x2 : Nat)] (.struct _) rfl (World.rangeAt_setCells_same wa (w.heap.size + 1) 0 [.int .i64 (x1 : Nat), .int .i64 (x2 : Nat)] (HA.out.there HM2.out)) Tryz.underlying192 rfl (by kernel_rfl)) rfl ?_
      rw [times_no HO.out HPF.out]
      exact HA.out.done HM2.out
end Go.Proofs.YtcfococinllcmaaGreat
