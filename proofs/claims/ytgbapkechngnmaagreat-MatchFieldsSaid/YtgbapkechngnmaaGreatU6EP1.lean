/- What several claims of this seat share: contracts of the functions that they reach. -/
import Derived.Test.YtgbapkechngnmaaGreatU6EP0
import Derived.Test.YtgbapkechngnmaaGreatShelf
import Derived.Test.YtgbapkechngnmaaGreatAppRd
import Derived.Maps.OwnOps
import Derived.Maps.Ext
import Derived.Sort.OwnSorted
import Derived.Lib.ConvBytes
import Derived.Shelf.SlicesQ.IndexFunc
import Derived.Test.YtgbapkechngnmaaGreatMaE
import Derived.Test.YtgbapkechngnmaaGreatRd
import Derived.Shelf.Strings.OnBuilder
import Derived.Test.YtgbapkechngnmaaGreatRows
import Derived.WalkKit
import Derived.WalkSpells
import Derived.Lib.Hide
import Derived.Laws.BitsLemmas
import Derived.Test.YtgbapkechngnmaaGreatBox
import Derived.Deep.LoopGhost
import Derived.Laws.AppendOwn
import Derived.Maps.AppendAt
import Derived.Deep.DeepCutAuto

/- pattern's builder: times: a contract. -/
namespace Go.Proofs.YtgbapkechngnmaaGreat
open Go.RowKit
theorem len_node (b : Bs) : (nodeM b).sts.length = b.sts.length + 1 := by simp [nodeM]
theorem len_free (b : Bs) (f t : Nat) : (freeM b f t).sts.length = b.sts.length := by simp [freeM, addF_len]
theorem tot_node (b : Bs) : tot (nodeM b).sts ≤ tot b.sts + 1 := by simp [nodeM, tot]
theorem tot_free (b : Bs) (f t : Nat) : tot (freeM b f t).sts ≤ tot b.sts + 1 := tot_addF b.sts f t
theorem post_in : ∀ c : Nat, c < 256 → postB c = false → Lib.indexByte [42, 43, 63] ((c : Int).toNat.toUInt8) = -1 := by decide +kernel
theorem post_is {c : Nat} (h : postB c = true) : c = 42 ∨ c = 43 ∨ c = 63 := by
 unfold postB at h
 simp only [Bool.or_eq_true, decide_eq_true_eq] at h
 omega
theorem times_none {s : ByteArray} {b : Bs} {x : Nat × Nat} (h : peekM s b = none) : timesM s b x = (b, x) := by unfold timesM; rw [h]
theorem times_no {s : ByteArray} {b : Bs} {x : Nat × Nat} {c : Nat} (h : peekM s b = some c) (hc : postB c = false) : timesM s b x = (b, x) := by unfold timesM; rw [h]; dsimp only; rw [if_neg (by rw [hc]; decide)]
theorem node_bs {own0 own : Nat → Prop} {W0 w : World} {g : Nat} {s : ByteArray} {b : Bs} {bx : List (Nat × Value × Value)} (h : BSo own0 W0 g s b bx own w) (L : Nat) (hL : b.sts.length = L) (hn : L ≤ 1000000) :
  Calls Tryz.prog 105 #[.pointer (some ⟨g, 0, none⟩)] w fun e w' => e = .returned (.int .i64 (L : Nat)) ∧ BS own0 W0 g s (nodeM b) bx w' := by
 refine (node_is w g s b own h.bld (by omega)).mono ?_
 rintro e w' ⟨rfl, own', h1, h2⟩
 exact ⟨by rw [hL], h.call h1 h2⟩
theorem free_bs {own0 own : Nat → Prop} {W0 w : World} {g : Nat} {s : ByteArray} {b : Bs} {bx : List (Nat × Value × Value)} (h : BSo own0 W0 g s b bx own w) (f t : Nat) (hf : f < b.sts.length) (hn : tot b.sts ≤ 1000000) :
  Calls Tryz.prog 107 #[.pointer (some ⟨g, 0, none⟩), .int .i64 f, .int .i64 t] w fun e w' => e = .returned (.tuple #[]) ∧ BS own0 W0 g s (freeM b f t) bx w' := by
 refine (free_is w g s b own f t h.bld hf hn).mono ?_
 rintro e w' ⟨rfl, own', h1, h2⟩
 exact ⟨rfl, h.call h1 h2⟩
theorem peek_bs {own0 own : Nat → Prop} {W0 w : World} {g : Nat} {s : ByteArray} {b : Bs} {bx : List (Nat × Value × Value)} (h : BSo own0 W0 g s b bx own w) (o : Option Nat) (ho : peekM s b = o) (hp : b.pos ≤ 2000000) :
  Calls Tryz.prog 108 #[.pointer (some ⟨g, 0, none⟩)] w fun e w' => e = .returned (.tuple #[.int .u8 ((o.getD 0 : Nat) : Int), .bool o.isSome]) ∧ BS own0 W0 g s b bx w' := by
 refine (peek_is w g s b own o ho h.bld hp).mono ?_
 rintro e w' ⟨rfl, h1⟩
 exact ⟨rfl, BS.below ⟨own, h⟩ h1⟩
theorem fail_bs {own0 own : Nat → Prop} {W0 w : World} {g : Nat} {s : ByteArray} {b : Bs} {bx : List (Nat × Value × Value)} (h : BSo own0 W0 g s b bx own w) (e0 : Int) :
  Calls Tryz.prog 85 #[.pointer (some ⟨g, 0, none⟩), .int .i64 e0] w fun e w' => e = .returned (.tuple #[]) ∧ BS own0 W0 g s (failM b e0) bx w' := by
 refine (fail_is w g s b own e0 h.bld).mono ?_
 rintro e w' ⟨rfl, h1, h2⟩
 exact ⟨rfl, h.call h1 h2⟩
set_option maxHeartbeats 6400000 in
set_option maxRecDepth 100000 in
theorem times_is (w : World) (g : Nat) (s : ByteArray) (b : Bs) (own : Nat → Prop) (x1 x2 : Nat) (h : Bld w g s b own) (hx2 : x2 < b.sts.length) (hp : b.pos ≤ 1000000) (ht : tot b.sts ≤ 900000) :
  Calls Tryz.prog 127 #[.pointer (some ⟨g, 0, none⟩), .agg #[.int .i64 x1, .int .i64 x2]] w (PartPost own w g s (timesM s b (x1, x2))) := by
 have h0 := ((BS.start h).alloc (.int .i64 x1) (.int .i64 x2)).alloc (.int .i64 0) (.int .i64 0)
 rw [World.size_alloc] at h0
 obtain ⟨bx, hbx⟩ : ∃ bx, [(w.heap.size + 1, Value.int .i64 0, Value.int .i64 0), (w.heap.size, Value.int .i64 x1, Value.int .i64 x2)] = bx := ⟨_, rfl⟩
 have hm1 : (w.heap.size, Value.int .i64 x1, Value.int .i64 x2) ∈ bx := by rw [← hbx]; simp
 have hm2 : (w.heap.size + 1, Value.int .i64 0, Value.int .i64 0) ∈ bx := by rw [← hbx]; simp
 rw [hbx] at h0
 have H0 := Lib.hid h0
 have HM1 := Lib.hid hm1
 have HM2 := Lib.hid hm2
 obtain ⟨o, ho⟩ : ∃ o, peekM s b = o := ⟨_, rfl⟩
 have HO := Lib.hid ho
 have hl0 : b.sts.length ≤ 900000 := Nat.le_trans (len_tot _) ht
 clear h0 hbx hm1 hm2 h ho
 go_enter Tryz.func127, Tryz.ntmps127
 go_upto_region 1 with fail
 refine wp_forget (BS own w g s b bx) H0.out (fun w0 q0 => ?_)
 obtain ⟨own0, q0⟩ := q0
 have k1 := peek_bs q0 o HO.out (by omega)
 clear q0 H0
 go_wp2_with fail
 refine k1.mono ?_
 rintro e wa ⟨rfl, hA⟩
 have HA := Lib.hid hA
 clear k1 hA
 rcases o with _ | c
 ·obtain ⟨z0, z1, _, _, _⟩ := HA.out.cells HM1.out
  obtain ⟨y0, y1, f0, f1, _⟩ := HA.out.cells HM2.out
  go_wp2
  refine bodyPost_ret (results_agg1 rfl _ _ (w.heap.size + 1) [.int .i64 (x1 : Nat), .int .i64 (x2 : Nat)] (.struct _) rfl (World.rangeAt_setCells_same wa (w.heap.size + 1) 0 [.int .i64 (x1 : Nat), .int .i64 (x2 : Nat)] (HA.out.there HM2.out)) Tryz.underlying132 rfl (by kernel_rfl)) rfl ?_
  rw [times_none HO.out]
  exact HA.out.done HM2.out
 ·have hc256 : c < 256 := by rw [(peekM_some HO.out).2.2]; exact byteM_lt _ _
  by_cases hpb : postB c = true
  ·have HPB := Lib.hid (post_is hpb)
   have HPT := Lib.hid hpb
   clear hpb
   rcases HPB.out with rfl | rfl | rfl
   ·have kx := Tryz.strings_IndexByte ⟨#[42, 43, 63]⟩ 42
    have hix : Lib.indexByte (⟨#[42, 43, 63]⟩ : ByteArray).data.toList (42 : Int).toNat.toUInt8 = 0 := by decide
    rw [hix] at kx
    clear hix
    obtain ⟨_, c1, _, f1⟩ := HA.out.fields
    have HST := Lib.hid HA.out.step
    obtain ⟨L, hL⟩ : ∃ L, b.sts.length = L := ⟨_, rfl⟩
    have HLL := Lib.hid hL
    rw [hL] at hx2 hl0
    have HL : Hid ((stepM b).sts.length = L) := Lib.hid hL
    clear hL
    obtain ⟨og, qg⟩ := HST.out
    have kn := node_bs qg L HL.out (by omega)
    clear qg
    go_wp2_with (go_at_call 122; refine (kx _).mono ?_; rintro e w' ⟨rfl, hw⟩; obtain rfl := hw.symm)
    refine kn.mono ?_
    rintro e wb ⟨rfl, hB⟩
    have HB := Lib.hid hB
    clear kn hB c1 f1 kx HST
    have e1 : (nodeM (stepM b)).sts.length = L + 1 := by rw [len_node, HL.out]
    have e2 : (nodeM (nodeM (stepM b))).sts.length = L + 2 := by rw [len_node, e1]
    have E1 := Lib.hid e1
    have E2 := Lib.hid e2
    have T2 : Hid (tot (nodeM (nodeM (stepM b))).sts ≤ 900002) := Lib.hid (by have h1 := tot_node (stepM b); have h2 := tot_node (nodeM (stepM b)); have h3 : tot (stepM b).sts = tot b.sts := rfl; omega)
    clear e1 e2
    obtain ⟨o1, q1⟩ := HB.out
    have k1 := node_bs q1 (L + 1) E1.out (by omega)
    clear q1
    go_wp2_with fail
    refine k1.mono ?_
    rintro e w1 ⟨rfl, h1⟩
    have H1 := Lib.hid h1
    clear k1 h1  HB
    go_upto_region 6 with fail
    have HPX := Lib.hid (H1.out.alloc (.int .i64 L) (.int .i64 ((L + 1 : Nat) : Int)))
    obtain ⟨pb, hpb⟩ : ∃ pb, w1.heap.size = pb := ⟨_, rfl⟩
    rw [hpb] at HPX ⊢
    refine wp_forget (BS own w g s (nodeM (nodeM (stepM b))) ((pb, .int .i64 L, .int .i64 ((L + 1 : Nat) : Int)) :: bx)) HPX.out (fun wp qp => ?_)
    have HP := Lib.hid qp
    clear qp hpb HPX H1
    have MP : Hid ((pb, Value.int .i64 L, Value.int .i64 ((L + 1 : Nat) : Int)) ∈ (pb, Value.int .i64 L, Value.int .i64 ((L + 1 : Nat) : Int)) :: bx) := Lib.hid (List.mem_cons_self)
    have M1 := Lib.hid (List.mem_cons_of_mem (pb, Value.int .i64 L, Value.int .i64 ((L + 1 : Nat) : Int)) HM1.out)
    have M2 := Lib.hid (List.mem_cons_of_mem (pb, Value.int .i64 L, Value.int .i64 ((L + 1 : Nat) : Int)) HM2.out)
    have hlc900002 : (nodeM (nodeM (stepM b))).sts.length = L + 2 := by (repeat rw [len_free]); exact E2.out
    have HLC900002 := Lib.hid hlc900002
    clear hlc900002
    obtain ⟨o2, q2⟩ := HP.out
    have k2 := free_bs q2 L x1 (by have := HLC900002.out; omega) (by have := T2.out; omega)
    obtain ⟨z2_0, y2_0, _, _, _⟩ := HP.out.cells MP.out
    obtain ⟨z2_1, y2_1, _, _, _⟩ := HP.out.cells M1.out
    clear q2
    go_wp2_with fail
    refine k2.mono ?_
    rintro e w2 ⟨rfl, h2⟩
    have H2 := Lib.hid h2
    clear k2 h2 z2_0 y2_0 z2_1 y2_1 HP
    have T900003 : Hid (tot (freeM (nodeM (nodeM (stepM b))) L x1).sts ≤ 900003) := Lib.hid (by have := tot_free (nodeM (nodeM (stepM b))) L x1; have := T2.out; omega)
    have hlc900003 : (freeM (nodeM (nodeM (stepM b))) L x1).sts.length = L + 2 := by (repeat rw [len_free]); exact E2.out
    have HLC900003 := Lib.hid hlc900003
    clear hlc900003
    obtain ⟨o3, q3⟩ := H2.out
    have k3 := free_bs q3 x2 (L + 1) (by have := HLC900003.out; omega) (by have := T900003.out; omega)
    obtain ⟨z3_0, y3_0, _, _, _⟩ := H2.out.cells MP.out
    obtain ⟨z3_1, y3_1, _, _, _⟩ := H2.out.cells M1.out
    clear q3
    go_wp2_with fail
    refine k3.mono ?_
    rintro e w3 ⟨rfl, h3⟩
    have H3 := Lib.hid h3
    clear k3 h3 z3_0 y3_0 z3_1 y3_1 H2
    have T900004 : Hid (tot (freeM (freeM (nodeM (nodeM (stepM b))) L x1) x2 (L + 1)).sts ≤ 900004) := Lib.hid (by have := tot_free (freeM (nodeM (nodeM (stepM b))) L x1) x2 (L + 1); have := T900003.out; omega)
    have hlc900004 : (freeM (freeM (nodeM (nodeM (stepM b))) L x1) x2 (L + 1)).sts.length = L + 2 := by (repeat rw [len_free]); exact E2.out
    have HLC900004 := Lib.hid hlc900004
    clear hlc900004
    obtain ⟨o4, q4⟩ := H3.out
    have k4 := free_bs q4 L (L + 1) (by have := HLC900004.out; omega) (by have := T900004.out; omega)
    obtain ⟨z4_0, y4_0, _, _, _⟩ := H3.out.cells MP.out
    clear q4
    go_wp2_with fail
    refine k4.mono ?_
    rintro e w4 ⟨rfl, h4⟩
    have H4 := Lib.hid h4
    clear k4 h4 z4_0 y4_0 H3
    have T900005 : Hid (tot (freeM (freeM (freeM (nodeM (nodeM (stepM b))) L x1) x2 (L + 1)) L (L + 1)).sts ≤ 900005) := Lib.hid (by have := tot_free (freeM (freeM (nodeM (nodeM (stepM b))) L x1) x2 (L + 1)) L (L + 1); have := T900004.out; omega)
    have hlc900005 : (freeM (freeM (freeM (nodeM (nodeM (stepM b))) L x1) x2 (L + 1)) L (L + 1)).sts.length = L + 2 := by (repeat rw [len_free]); exact E2.out
    have HLC900005 := Lib.hid hlc900005
    clear hlc900005
    obtain ⟨o5, q5⟩ := H4.out
    have k5 := free_bs q5 x2 x1 (by have := HLC900005.out; omega) (by have := T900005.out; omega)
    obtain ⟨z5_0, y5_0, _, _, _⟩ := H4.out.cells M1.out
    clear q5
    go_wp2_with fail
    refine k5.mono ?_
    rintro e w5 ⟨rfl, h5⟩
    have H5 := Lib.hid h5
    clear k5 h5 z5_0 y5_0 H4
    have T900006 : Hid (tot (freeM (freeM (freeM (freeM (nodeM (nodeM (stepM b))) L x1) x2 (L + 1)) L (L + 1)) x2 x1).sts ≤ 900006) := Lib.hid (by have := tot_free (freeM (freeM (freeM (nodeM (nodeM (stepM b))) L x1) x2 (L + 1)) L (L + 1)) x2 x1; have := T900005.out; omega)
    have HEQ : Hid (timesM s b (x1, x2) = ((freeM (freeM (freeM (freeM (nodeM (nodeM (stepM b))) L x1) x2 (L + 1)) L (L + 1)) x2 x1), (L, L + 1))) := Lib.hid (by unfold timesM; rw [HO.out]; dsimp only; rw [if_pos HPT.out, HLL.out]; rfl)
    obtain ⟨z0, z1, _, _, _⟩ := H5.out.cells MP.out
    obtain ⟨y0, y1, f0, f1, _⟩ := H5.out.cells M2.out
    go_wp2
    refine bodyPost_ret (results_agg1 rfl _ _ (w.heap.size + 1) [.int .i64 (L : Nat), .int .i64 ((L + 1) : Nat)] (.struct _) rfl (World.rangeAt_setCells_same w5 (w.heap.size + 1) 0 [.int .i64 (L : Nat), .int .i64 ((L + 1) : Nat)] (H5.out.there M2.out)) Tryz.underlying132 rfl (by kernel_rfl)) rfl ?_
    rw [HEQ.out]
    exact H5.out.done M2.out
   ·have kx := Tryz.strings_IndexByte ⟨#[42, 43, 63]⟩ 43
    have hix : Lib.indexByte (⟨#[42, 43, 63]⟩ : ByteArray).data.toList (43 : Int).toNat.toUInt8 = 1 := by decide
    rw [hix] at kx
    clear hix
    obtain ⟨_, c1, _, f1⟩ := HA.out.fields
    have HST := Lib.hid HA.out.step
    obtain ⟨L, hL⟩ : ∃ L, b.sts.length = L := ⟨_, rfl⟩
    have HLL := Lib.hid hL
    rw [hL] at hx2 hl0
    have HL : Hid ((stepM b).sts.length = L) := Lib.hid hL
    clear hL
    obtain ⟨og, qg⟩ := HST.out
    have kn := node_bs qg L HL.out (by omega)
    clear qg
    go_wp2_with (go_at_call 122; refine (kx _).mono ?_; rintro e w' ⟨rfl, hw⟩; obtain rfl := hw.symm)
    refine kn.mono ?_
    rintro e wb ⟨rfl, hB⟩
    have HB := Lib.hid hB
    clear kn hB c1 f1 kx HST
    have e1 : (nodeM (stepM b)).sts.length = L + 1 := by rw [len_node, HL.out]
    have e2 : (nodeM (nodeM (stepM b))).sts.length = L + 2 := by rw [len_node, e1]
    have E1 := Lib.hid e1
    have E2 := Lib.hid e2
    have T2 : Hid (tot (nodeM (nodeM (stepM b))).sts ≤ 900002) := Lib.hid (by have h1 := tot_node (stepM b); have h2 := tot_node (nodeM (stepM b)); have h3 : tot (stepM b).sts = tot b.sts := rfl; omega)
    clear e1 e2
    obtain ⟨o6, q6⟩ := HB.out
    have k6 := node_bs q6 (L + 1) E1.out (by omega)
    clear q6
    go_wp2_with fail
    refine k6.mono ?_
    rintro e w6 ⟨rfl, h6⟩
    have H6 := Lib.hid h6
    clear k6 h6  HB
    go_upto_region 6 with fail
    have HPX := Lib.hid (H6.out.alloc (.int .i64 L) (.int .i64 ((L + 1 : Nat) : Int)))
    obtain ⟨pb, hpb⟩ : ∃ pb, w6.heap.size = pb := ⟨_, rfl⟩
    rw [hpb] at HPX ⊢
    refine wp_forget (BS own w g s (nodeM (nodeM (stepM b))) ((pb, .int .i64 L, .int .i64 ((L + 1 : Nat) : Int)) :: bx)) HPX.out (fun wp qp => ?_)
    have HP := Lib.hid qp
    clear qp hpb HPX H6
    have MP : Hid ((pb, Value.int .i64 L, Value.int .i64 ((L + 1 : Nat) : Int)) ∈ (pb, Value.int .i64 L, Value.int .i64 ((L + 1 : Nat) : Int)) :: bx) := Lib.hid (List.mem_cons_self)
    have M1 := Lib.hid (List.mem_cons_of_mem (pb, Value.int .i64 L, Value.int .i64 ((L + 1 : Nat) : Int)) HM1.out)
    have M2 := Lib.hid (List.mem_cons_of_mem (pb, Value.int .i64 L, Value.int .i64 ((L + 1 : Nat) : Int)) HM2.out)
    have hlc900002 : (nodeM (nodeM (stepM b))).sts.length = L + 2 := by (repeat rw [len_free]); exact E2.out
    have HLC900002 := Lib.hid hlc900002
    clear hlc900002
    obtain ⟨o7, q7⟩ := HP.out
    have k7 := free_bs q7 L x1 (by have := HLC900002.out; omega) (by have := T2.out; omega)
    obtain ⟨z7_0, y7_0, _, _, _⟩ := HP.out.cells MP.out
    obtain ⟨z7_1, y7_1, _, _, _⟩ := HP.out.cells M1.out
    clear q7
    go_wp2_with fail
    refine k7.mono ?_
    rintro e w7 ⟨rfl, h7⟩
    have H7 := Lib.hid h7
    clear k7 h7 z7_0 y7_0 z7_1 y7_1 HP
    have T900003 : Hid (tot (freeM (nodeM (nodeM (stepM b))) L x1).sts ≤ 900003) := Lib.hid (by have := tot_free (nodeM (nodeM (stepM b))) L x1; have := T2.out; omega)
    have hlc900003 : (freeM (nodeM (nodeM (stepM b))) L x1).sts.length = L + 2 := by (repeat rw [len_free]); exact E2.out
    have HLC900003 := Lib.hid hlc900003
    clear hlc900003
    obtain ⟨o8, q8⟩ := H7.out
    have k8 := free_bs q8 x2 (L + 1) (by have := HLC900003.out; omega) (by have := T900003.out; omega)
    obtain ⟨z8_0, y8_0, _, _, _⟩ := H7.out.cells MP.out
    obtain ⟨z8_1, y8_1, _, _, _⟩ := H7.out.cells M1.out
    clear q8
    go_wp2_with fail
    refine k8.mono ?_
    rintro e w8 ⟨rfl, h8⟩
    have H8 := Lib.hid h8
    clear k8 h8 z8_0 y8_0 z8_1 y8_1 H7
    have T900004 : Hid (tot (freeM (freeM (nodeM (nodeM (stepM b))) L x1) x2 (L + 1)).sts ≤ 900004) := Lib.hid (by have := tot_free (freeM (nodeM (nodeM (stepM b))) L x1) x2 (L + 1); have := T900003.out; omega)
    have hlc900004 : (freeM (freeM (nodeM (nodeM (stepM b))) L x1) x2 (L + 1)).sts.length = L + 2 := by (repeat rw [len_free]); exact E2.out
    have HLC900004 := Lib.hid hlc900004
    clear hlc900004
    obtain ⟨o9, q9⟩ := H8.out
    have k9 := free_bs q9 x2 x1 (by have := HLC900004.out; omega) (by have := T900004.out; omega)
    obtain ⟨z9_0, y9_0, _, _, _⟩ := H8.out.cells M1.out
    clear q9
    go_wp2_with fail
    refine k9.mono ?_
    rintro e w9 ⟨rfl, h9⟩
    have H9 := Lib.hid h9
    clear k9 h9 z9_0 y9_0 H8
    have T900005 : Hid (tot (freeM (freeM (freeM (nodeM (nodeM (stepM b))) L x1) x2 (L + 1)) x2 x1).sts ≤ 900005) := Lib.hid (by have := tot_free (freeM (freeM (nodeM (nodeM (stepM b))) L x1) x2 (L + 1)) x2 x1; have := T900004.out; omega)
    have HEQ : Hid (timesM s b (x1, x2) = ((freeM (freeM (freeM (nodeM (nodeM (stepM b))) L x1) x2 (L + 1)) x2 x1), (L, L + 1))) := Lib.hid (by unfold timesM; rw [HO.out]; dsimp only; rw [if_pos HPT.out, HLL.out]; rfl)
    obtain ⟨z0, z1, _, _, _⟩ := H9.out.cells MP.out
    obtain ⟨y0, y1, f0, f1, _⟩ := H9.out.cells M2.out
    go_wp2
    refine bodyPost_ret (results_agg1 rfl _ _ (w.heap.size + 1) [.int .i64 (L : Nat), .int .i64 ((L + 1) : Nat)] (.struct _) rfl (World.rangeAt_setCells_same w9 (w.heap.size + 1) 0 [.int .i64 (L : Nat), .int .i64 ((L + 1) : Nat)] (H9.out.there M2.out)) Tryz.underlying132 rfl (by kernel_rfl)) rfl ?_
    rw [HEQ.out]
    exact H9.out.done M2.out
   ·have kx := Tryz.strings_IndexByte ⟨#[42, 43, 63]⟩ 63
    have hix : Lib.indexByte (⟨#[42, 43, 63]⟩ : ByteArray).data.toList (63 : Int).toNat.toUInt8 = 2 := by decide
    rw [hix] at kx
    clear hix
    obtain ⟨_, c1, _, f1⟩ := HA.out.fields
    have HST := Lib.hid HA.out.step
    obtain ⟨L, hL⟩ : ∃ L, b.sts.length = L := ⟨_, rfl⟩
    have HLL := Lib.hid hL
    rw [hL] at hx2 hl0
    have HL : Hid ((stepM b).sts.length = L) := Lib.hid hL
    clear hL
    obtain ⟨og, qg⟩ := HST.out
    have kn := node_bs qg L HL.out (by omega)
    clear qg
    go_wp2_with (go_at_call 122; refine (kx _).mono ?_; rintro e w' ⟨rfl, hw⟩; obtain rfl := hw.symm)
    refine kn.mono ?_
    rintro e wb ⟨rfl, hB⟩
    have HB := Lib.hid hB
    clear kn hB c1 f1 kx HST
    have e1 : (nodeM (stepM b)).sts.length = L + 1 := by rw [len_node, HL.out]
    have e2 : (nodeM (nodeM (stepM b))).sts.length = L + 2 := by rw [len_node, e1]
    have E1 := Lib.hid e1
    have E2 := Lib.hid e2
    have T2 : Hid (tot (nodeM (nodeM (stepM b))).sts ≤ 900002) := Lib.hid (by have h1 := tot_node (stepM b); have h2 := tot_node (nodeM (stepM b)); have h3 : tot (stepM b).sts = tot b.sts := rfl; omega)
    clear e1 e2
    obtain ⟨o10, q10⟩ := HB.out
    have k10 := node_bs q10 (L + 1) E1.out (by omega)
    clear q10
    go_wp2_with fail
    refine k10.mono ?_
    rintro e w10 ⟨rfl, h10⟩
    have H10 := Lib.hid h10
    clear k10 h10  HB
    go_upto_region 6 with fail
    have HPX := Lib.hid (H10.out.alloc (.int .i64 L) (.int .i64 ((L + 1 : Nat) : Int)))
    obtain ⟨pb, hpb⟩ : ∃ pb, w10.heap.size = pb := ⟨_, rfl⟩
    rw [hpb] at HPX ⊢
    refine wp_forget (BS own w g s (nodeM (nodeM (stepM b))) ((pb, .int .i64 L, .int .i64 ((L + 1 : Nat) : Int)) :: bx)) HPX.out (fun wp qp => ?_)
    have HP := Lib.hid qp
    clear qp hpb HPX H10
    have MP : Hid ((pb, Value.int .i64 L, Value.int .i64 ((L + 1 : Nat) : Int)) ∈ (pb, Value.int .i64 L, Value.int .i64 ((L + 1 : Nat) : Int)) :: bx) := Lib.hid (List.mem_cons_self)
    have M1 := Lib.hid (List.mem_cons_of_mem (pb, Value.int .i64 L, Value.int .i64 ((L + 1 : Nat) : Int)) HM1.out)
    have M2 := Lib.hid (List.mem_cons_of_mem (pb, Value.int .i64 L, Value.int .i64 ((L + 1 : Nat) : Int)) HM2.out)
    have hlc900002 : (nodeM (nodeM (stepM b))).sts.length = L + 2 := by (repeat rw [len_free]); exact E2.out
    have HLC900002 := Lib.hid hlc900002
    clear hlc900002
    obtain ⟨o11, q11⟩ := HP.out
    have k11 := free_bs q11 L x1 (by have := HLC900002.out; omega) (by have := T2.out; omega)
    obtain ⟨z11_0, y11_0, _, _, _⟩ := HP.out.cells MP.out
    obtain ⟨z11_1, y11_1, _, _, _⟩ := HP.out.cells M1.out
    clear q11
    go_wp2_with fail
    refine k11.mono ?_
    rintro e w11 ⟨rfl, h11⟩
    have H11 := Lib.hid h11
    clear k11 h11 z11_0 y11_0 z11_1 y11_1 HP
    have T900003 : Hid (tot (freeM (nodeM (nodeM (stepM b))) L x1).sts ≤ 900003) := Lib.hid (by have := tot_free (nodeM (nodeM (stepM b))) L x1; have := T2.out; omega)
    have hlc900003 : (freeM (nodeM (nodeM (stepM b))) L x1).sts.length = L + 2 := by (repeat rw [len_free]); exact E2.out
    have HLC900003 := Lib.hid hlc900003
    clear hlc900003
    obtain ⟨o12, q12⟩ := H11.out
    have k12 := free_bs q12 x2 (L + 1) (by have := HLC900003.out; omega) (by have := T900003.out; omega)
    obtain ⟨z12_0, y12_0, _, _, _⟩ := H11.out.cells MP.out
    obtain ⟨z12_1, y12_1, _, _, _⟩ := H11.out.cells M1.out
    clear q12
    go_wp2_with fail
    refine k12.mono ?_
    rintro e w12 ⟨rfl, h12⟩
    have H12 := Lib.hid h12
    clear k12 h12 z12_0 y12_0 z12_1 y12_1 H11
    have T900004 : Hid (tot (freeM (freeM (nodeM (nodeM (stepM b))) L x1) x2 (L + 1)).sts ≤ 900004) := Lib.hid (by have := tot_free (freeM (nodeM (nodeM (stepM b))) L x1) x2 (L + 1); have := T900003.out; omega)
    have hlc900004 : (freeM (freeM (nodeM (nodeM (stepM b))) L x1) x2 (L + 1)).sts.length = L + 2 := by (repeat rw [len_free]); exact E2.out
    have HLC900004 := Lib.hid hlc900004
    clear hlc900004
    obtain ⟨o13, q13⟩ := H12.out
    have k13 := free_bs q13 L (L + 1) (by have := HLC900004.out; omega) (by have := T900004.out; omega)
    obtain ⟨z13_0, y13_0, _, _, _⟩ := H12.out.cells MP.out
    clear q13
    go_wp2_with fail
    refine k13.mono ?_
    rintro e w13 ⟨rfl, h13⟩
    have H13 := Lib.hid h13
    clear k13 h13 z13_0 y13_0 H12
    have T900005 : Hid (tot (freeM (freeM (freeM (nodeM (nodeM (stepM b))) L x1) x2 (L + 1)) L (L + 1)).sts ≤ 900005) := Lib.hid (by have := tot_free (freeM (freeM (nodeM (nodeM (stepM b))) L x1) x2 (L + 1)) L (L + 1); have := T900004.out; omega)
    have HEQ : Hid (timesM s b (x1, x2) = ((freeM (freeM (freeM (nodeM (nodeM (stepM b))) L x1) x2 (L + 1)) L (L + 1)), (L, L + 1))) := Lib.hid (by unfold timesM; rw [HO.out]; dsimp only; rw [if_pos HPT.out, HLL.out]; rfl)
    obtain ⟨z0, z1, _, _, _⟩ := H13.out.cells MP.out
    obtain ⟨y0, y1, f0, f1, _⟩ := H13.out.cells M2.out
    go_wp2
    refine bodyPost_ret (results_agg1 rfl _ _ (w.heap.size + 1) [.int .i64 (L : Nat), .int .i64 ((L + 1) : Nat)] (.struct _) rfl (World.rangeAt_setCells_same w13 (w.heap.size + 1) 0 [.int .i64 (L : Nat), .int .i64 ((L + 1) : Nat)] (H13.out.there M2.out)) Tryz.underlying132 rfl (by kernel_rfl)) rfl ?_
    rw [HEQ.out]
    exact H13.out.done M2.out
  ·have hpf : postB c = false := by simpa using hpb
   have kx := Tryz.strings_IndexByte ⟨#[42, 43, 63]⟩ (c : Int)
   have hix : Lib.indexByte (⟨#[42, 43, 63]⟩ : ByteArray).data.toList ((c : Int).toNat.toUInt8) = -1 := post_in c hc256 hpf
   rw [hix] at kx
   have HPF := Lib.hid hpf
   clear hix hpb hpf
   obtain ⟨z0, z1, _, _, _⟩ := HA.out.cells HM1.out
   obtain ⟨y0, y1, f0, f1, _⟩ := HA.out.cells HM2.out
   go_wp2_with (go_at_call 122; refine (kx _).mono ?_; rintro e w' ⟨rfl, hw⟩; obtain rfl := hw.symm)
   refine bodyPost_ret (results_agg1 rfl _ _ (w.heap.size + 1) [.int .i64 (x1 : Nat), .int .i64 (x2 : Nat)] (.struct _) rfl (World.rangeAt_setCells_same wa (w.heap.size + 1) 0 [.int .i64 (x1 : Nat), .int .i64 (x2 : Nat)] (HA.out.there HM2.out)) Tryz.underlying132 rfl (by kernel_rfl)) rfl ?_
   rw [times_no HO.out HPF.out]
   exact HA.out.done HM2.out
end Go.Proofs.YtgbapkechngnmaaGreat
/- pattern's builder: atom: a contract, out of either's. -/
namespace Go.Proofs.YtgbapkechngnmaaGreat
open Go.RowKit
def capM (s : ByteArray) (b : Bs) : Nat := tot b.sts + 6 * (s.size + 12 - b.pos)
def EitherC (s : ByteArray) (n : Nat) : Prop := ∀ (w : World) (g : Nat) (b : Bs) (own : Nat → Prop) (d : Nat), Bld w g s b own → d ≤ 8 → b.pos ≤ s.size + 12 - d → fuelM s b .either ≤ n → capM s b ≤ 10000 + 100 * d →
  Calls Tryz.prog 84 #[.pointer (some ⟨g, 0, none⟩), .int .i64 d] w (PartPost own w g s (runM s n .either d b))
def RowC (s : ByteArray) (n : Nat) : Prop := ∀ (w : World) (g : Nat) (b : Bs) (own : Nat → Prop) (d : Nat), Bld w g s b own → d ≤ 8 → b.pos ≤ s.size + 12 - d → fuelM s b .row ≤ n → capM s b ≤ 10000 + 100 * d + 10 →
  Calls Tryz.prog 106 #[.pointer (some ⟨g, 0, none⟩), .int .i64 d] w (PartPost own w g s (runM s n .row d b))
def AtomC (s : ByteArray) (n : Nat) : Prop := ∀ (w : World) (g : Nat) (b : Bs) (own : Nat → Prop) (d : Nat), Bld w g s b own → d ≤ 8 → b.pos < s.size → fuelM s b .atom ≤ n → capM s b ≤ 10000 + 100 * d + 20 →
  Calls Tryz.prog 128 #[.pointer (some ⟨g, 0, none⟩), .int .i64 d] w (PartPost own w g s (runM s n .atom d b))
structure AtAt (own : Nat → Prop) (W0 : World) (g : Nat) (s : ByteArray) (b : Bs) (rb sb : Nat) (S : Nat → Bool) (w : World) : Prop where
  bld : Bld w g s b own
  set : SetAt w sb S
  nk : ¬ own sb
  rbx : PBx w rb (.int .i64 0) (.int .i64 0)
  nr : ¬ own rb
  ne : rb ≠ sb
  keep : Keep own W0 w
  ws : W0.heap.size ≤ sb
  wr : W0.heap.size ≤ rb
theorem AtAt.call {own : Nat → Prop} {W0 w w' : World} {g : Nat} {s : ByteArray} {b b' : Bs} {rb sb : Nat} {S : Nat → Bool} (h : AtAt own W0 g s b rb sb S w) (hB : Bld w' g s b' own) (hs : Stp own w own w') : AtAt own W0 g s b' rb sb S w' :=
  ⟨hB, h.set.blk (hs.1.block sb h.set.lt h.nk), h.nk, hs.blk h.rbx h.nr, h.nr, h.ne, h.keep.trans hs.1 (fun _ hj => .inl hj), h.ws, h.wr⟩
theorem AtAt.below {own : Nat → Prop} {W0 w w' : World} {g : Nat} {s : ByteArray} {b : Bs} {rb sb : Nat} {S : Nat → Bool} (h : AtAt own W0 g s b rb sb S w) (hb : Below w.heap.size w w') : AtAt own W0 g s b rb sb S w' :=
  h.call (h.bld.below hb) (Stp.of_below hb)
theorem AtAt.step {own : Nat → Prop} {W0 w : World} {g : Nat} {s : ByteArray} {b : Bs} {rb sb : Nat} {S : Nat → Bool} (h : AtAt own W0 g s b rb sb S w) : AtAt own W0 g s (stepM b) rb sb S (w.setCell ⟨g, 1, none⟩ (.int .i64 ((b.pos : Int) + 1))) :=
  h.call h.bld.step (Stp.step h.bld _)
theorem AtAt.turn {own : Nat → Prop} {W0 w w' : World} {g : Nat} {s : ByteArray} {b b' : Bs} {rb sb : Nat} {S S' : Nat → Bool} (h : AtAt own W0 g s b rb sb S w) (hB : Bld w' g s b' own) (hS : SetAt w' sb S') (hk : Keep (fun j => own j ∨ j = sb) w w') : AtAt own W0 g s b' rb sb S' w' := by
  have hrl := PBx.lt h.rbx
  refine ⟨hB, hS, h.nk, (hk.block rb hrl (fun e => by rcases e with e | e; (· exact h.nr e); (· exact h.ne e))).trans h.rbx, h.nr, h.ne, h.keep.trans hk (fun j hj => ?_), h.ws, h.wr⟩
  rcases hj with hj | rfl
  · exact .inl hj
  · exact .inr h.ws
theorem AtAt.fill {own : Nat → Prop} {W0 w w' : World} {g : Nat} {s : ByteArray} {b : Bs} {rb sb : Nat} {S S' : Nat → Bool} (h : AtAt own W0 g s b rb sb S w) (hS : SetAt w' sb S') (hk : Keep (fun j => j = sb) w w') : AtAt own W0 g s b rb sb S' w' := by
  refine h.turn ?_ hS (hk.mono (fun _ h => .inr h))
  obtain ⟨sv, es, hV⟩ := h.bld
  exact ⟨sv, es, hV.kept hk.size (fun j hj => hk.block j (hV.lt j hj) (fun e => h.nk (e ▸ hj)))⟩
theorem AtAt.bs {own : Nat → Prop} {W0 w : World} {g : Nat} {s : ByteArray} {b : Bs} {rb sb : Nat} {S : Nat → Bool} (h : AtAt own W0 g s b rb sb S w) : BSo own W0 g s b [(rb, .int .i64 0, .int .i64 0)] own w :=
  ⟨h.bld, ⟨h.keep, fun _ h => .inl h⟩, fun x hx => by rw [List.mem_singleton.1 hx]; exact ⟨h.rbx, h.nr⟩, fun x hx => by rw [List.mem_singleton.1 hx]; exact h.wr⟩
theorem AtAt.one {own : Nat → Prop} {W0 w : World} {g : Nat} {s : ByteArray} {b : Bs} {rb sb : Nat} {S : Nat → Bool} (h : AtAt own W0 g s b rb sb S w) (hn : b.sts.length ≤ 900000) :
    Calls Tryz.prog 142 #[.pointer (some ⟨g, 0, none⟩), .pointer (some ⟨sb, 0, none⟩)] w fun e w' => e = .returned (.agg #[.int .i64 (((oneM b S).2.1 : Nat) : Int), .int .i64 (((oneM b S).2.2 : Nat) : Int)]) ∧ BS own W0 g s (oneM b S).1 [(rb, .int .i64 0, .int .i64 0)] w' := by
  refine (one_is w g s b own S sb h.bld h.set h.nk (by omega)).mono ?_
  rintro e w' ⟨rfl, own', hB, hk, ho⟩
  have hrl := PBx.lt h.rbx
  have hsz := h.keep.size
  refine ⟨rfl, own', hB, ⟨h.keep.trans hk (fun _ hj => .inl hj), fun j hj => ?_⟩, fun x hx => ?_, fun x hx => by rw [List.mem_singleton.1 hx]; exact h.wr⟩
  · rcases ho j hj with h1 | rfl | h1
    · exact .inl h1
    · exact .inr h.ws
    · exact .inr (by omega)
  · rw [List.mem_singleton.1 hx]
    refine ⟨(hk.block rb hrl h.nr).trans h.rbx, fun h0 => ?_⟩
    rcases ho rb h0 with h1 | h1 | h1
    · exact h.nr h1
    · exact h.ne h1
    · omega
theorem words_no : WordsOf noS [0, 0, 0, 0] := by
  refine ⟨rfl, by decide, fun c hc => ?_⟩
  have h : ([0, 0, 0, 0] : List Nat).getD (c / 64) 0 = 0 := by
    rcases (by omega : c / 64 = 0 ∨ c / 64 = 1 ∨ c / 64 = 2 ∨ c / 64 = 3) with e | e | e | e <;> rw [e] <;> rfl
  rw [h, Nat.zero_testBit]; rfl
structure At0 (own : Nat → Prop) (W0 : World) (g : Nat) (s : ByteArray) (b : Bs) (rb : Nat) (w : World) : Prop where
  bld : Bld w g s b own
  rbx : PBx w rb (.int .i64 0) (.int .i64 0)
  nr : ¬ own rb
  keep : Keep own W0 w
  wr : W0.heap.size ≤ rb
theorem At0.call {own : Nat → Prop} {W0 w w' : World} {g : Nat} {s : ByteArray} {b b' : Bs} {rb : Nat} (h : At0 own W0 g s b rb w) (hB : Bld w' g s b' own) (hs : Stp own w own w') : At0 own W0 g s b' rb w' :=
  ⟨hB, hs.blk h.rbx h.nr, h.nr, h.keep.trans hs.1 (fun _ hj => .inl hj), h.wr⟩
theorem At0.start {own : Nat → Prop} {w : World} {g : Nat} {s : ByteArray} {b : Bs} (h : Bld w g s b own) : At0 own w g s b w.heap.size (w.alloc (.cells #[.int .i64 0, .int .i64 0] 132)) :=
  ⟨h.below (alloc_below _ _), heap_alloc_new _ _, fun h0 => by have := h.lt _ h0; omega, Keep.of_below (alloc_below _ _), Nat.le_refl _⟩
theorem At0.set {own : Nat → Prop} {W0 w : World} {g : Nat} {s : ByteArray} {b : Bs} {rb : Nat} (h : At0 own W0 g s b rb w) :
    AtAt own W0 g s b rb w.heap.size noS (w.alloc (.cells #[.int .u64 0, .int .u64 0, .int .u64 0, .int .u64 0] 205)) := by
  have h1 := h.call (h.bld.below (alloc_below w (.cells #[.int .u64 0, .int .u64 0, .int .u64 0, .int .u64 0] 205))) (Stp.of_below (alloc_below _ _))
  exact ⟨h1.bld, ⟨[0, 0, 0, 0], words_no, heap_alloc_new _ _⟩, fun h0 => by have := h.bld.lt _ h0; omega, h1.rbx, h.nr, fun e => by have := h.rbx.lt; omega, h1.keep, h.keep.size, h.wr⟩
theorem odd_in : ∀ c : Nat, c < 256 → oddB c = false → Lib.indexByte [42, 43, 63, 124, 40, 41, 91, 93, 92, 46] ((c : Int).toNat.toUInt8) = -1 := by decide +kernel
theorem odd_out : ∀ c : Nat, c < 256 → oddB c = true → 0 ≤ Lib.indexByte [42, 43, 63, 124, 40, 41, 91, 93, 92, 46] ((c : Int).toNat.toUInt8) := by decide +kernel
theorem runM_atom (s : ByteArray) (n d : Nat) (b : Bs) : runM s (n + 1) .atom d b =
    (if byteM s b.pos = 40 then
      (if d = 8 then oneM (failM (stepM b) 3) noS else (closeM s (runM s n .either (d + 1) (stepM b)).1, (runM s n .either (d + 1) (stepM b)).2))
    else if byteM s b.pos = 91 then oneM (classM s (stepM b)).1 (classM s (stepM b)).2
    else if byteM s b.pos = 46 then oneM (stepM b) (turnS noS)
    else if byteM s b.pos = 92 then
      (match peekM s (stepM b) with
       | none => oneM (stepM (failM (stepM b) 2)) (oneS 0)
       | some e => oneM (stepM (stepM b)) (oneS e))
    else if oddB (byteM s b.pos) = true then oneM (failM (stepM b) 2) noS
    else oneM (stepM b) (oneS (byteM s b.pos))) := by rw [runM] <;> rfl
set_option maxHeartbeats 12800000 in
set_option maxRecDepth 100000 in
theorem atom_of (s : ByteArray) (n : Nat) (hs : s.size ≤ 100) (IH : EitherC s n) : AtomC s (n + 1) := by
  intro w g b own d h hd hps hfu hcap
  have hok := runM_ok s (n + 1) .atom d b hd (by omega) (fun _ => hps) trivial hfu
  have HOK := Lib.hid hok
  have htb : tot b.sts ≤ 11000 := by unfold capM at hcap; omega
  have hl0 : b.sts.length ≤ 11000 := Nat.le_trans (len_tot _) htb
  obtain ⟨c, hc⟩ : ∃ c, byteM s b.pos = c := ⟨_, rfl⟩
  have hc256 : c < 256 := by rw [← hc]; exact byteM_lt _ _
  have hby : (s[b.pos]'hps).toNat = c := by have := byteM_at s b.pos hps; rw [hc] at this; omega
  have hi0 : (0 : Int) ≤ (b.pos : Int) := by omega
  have hi1 : (b.pos : Int) < (s.size : Int) := by omega
  have HR := Lib.hid (runM_atom s n d b)
  have HC := Lib.hid hc
  have H0 := Lib.hid (At0.start h)
  have HIH := Lib.hid IH
  clear hok hc h IH htb
  go_enter Tryz.func128, Tryz.ntmps128
  go_upto_region 1 with fail
  refine wp_forget (At0 own w g s b w.heap.size) H0.out (fun w0 q0 => ?_)
  have Q0 := Lib.hid q0
  obtain ⟨c0, c1, _, f1⟩ := q0.bld.fields
  clear q0 H0
  go_quiet (fail)
  go_upto_region 2 with fail
  refine wp_forget (At0 own w g s b w.heap.size) (Q0.out.call (Q0.out.bld.below (bl_drewN (Below.refl _ _) _)) (Stp.of_below (bl_drewN (Below.refl _ _) _))) (fun w1 q1 => ?_)
  have Q1 := Lib.hid q1
  clear c0 c1 f1 Q0 q1
  obtain ⟨_, c1, _, f1⟩ := Q1.out.bld.fields
  go_upto_region 3 with fail
  refine wp_forget (At0 own w g s (stepM b) w.heap.size) (Q1.out.call Q1.out.bld.step (Stp.step Q1.out.bld _)) (fun w2 q2 => ?_)
  have Q2 := Lib.hid q2.set
  have HSB := Lib.hid q2.keep.size
  clear c1 f1 Q1 q2
  go_upto_region 5 with fail
  obtain ⟨sb, hsb⟩ : ∃ sb, w2.heap.size = sb := ⟨_, rfl⟩
  rw [hsb] at Q2 ⊢
  refine wp_forget (AtAt own w g s (stepM b) w.heap.size sb noS) Q2.out (fun w3 q3 => ?_)
  have HA := Lib.hid q3
  clear q3 Q2 HSB hsb
  have hpb : (stepM b).pos ≤ 1000 := by simp only [stepM]; omega
  have hlb : (stepM b).sts.length ≤ 11000 := hl0
  have kf := fun W b own e0 (h : Bld W g s b own) => fail_is W g s b own e0 h
  have KF := Lib.hid kf
  clear kf
  by_cases h40 : c = 40
  · subst h40
    by_cases hd8 : d = 8
    · subst hd8
      have kq1 := KF.out _ _ _ 3 HA.out.bld
      go_wp2_with fail
      refine kq1.mono ?_
      rintro e w1 ⟨rfl, hB1, hs1⟩
      have H1 := Lib.hid (HA.out.call hB1 hs1)
      clear kq1 hB1 hs1
      obtain ⟨b9, p, q, h9⟩ : ∃ b9 p q, oneM (failM (stepM b) 3) noS = (b9, (p, q)) := ⟨_, _, _, rfl⟩
      have k2 := H1.out.one (by first | exact Nat.le_trans hl0 (by decide) | (rw [failM_sts]; exact Nat.le_trans hl0 (by decide)) | (rw [classM_len]; exact Nat.le_trans hl0 (by decide)) | (show (failM (stepM b) 2).sts.length ≤ _; rw [failM_sts]; exact Nat.le_trans hl0 (by decide)))
      rw [h9] at k2
      dsimp only at k2
      have HE9 : Hid (runM s (n + 1) .atom 8 b = (b9, (p, q))) := Lib.hid ((HR.out.trans (by rw [if_pos HC.out]; simp)).trans h9)
      clear h9
      go_wp2_with fail
      refine k2.mono ?_
      rintro e w2 ⟨rfl, h2⟩
      have H2 := Lib.hid h2
      clear k2 h2
      obtain ⟨y0, y1, f0, f1, _⟩ := H2.out.cells (List.mem_singleton.2 rfl)
      go_wp2
      refine bodyPost_ret (results_agg1 rfl _ _ w.heap.size [.int .i64 (p : Nat), .int .i64 (q : Nat)] (.struct _) rfl (World.rangeAt_setCells_same w2 w.heap.size 0 [.int .i64 (p : Nat), .int .i64 (q : Nat)] (H2.out.there (List.mem_singleton.2 rfl))) Tryz.underlying132 rfl (by kernel_rfl)) rfl ?_
      rw [HE9.out]
      exact H2.out.done (List.mem_singleton.2 rfl)
    · have hd8b : ((d : Int) == 8) = false := by rw [beq_eq_false_iff_ne]; omega
      have hdi : IntKind.i64.wrap ((d : Int) + 1) = (d : Int) + 1 := IntWalk.i64_in _ ⟨by omega, by omega⟩
      have kE := HIH.out _ g (stepM b) own (d + 1) HA.out.bld (by omega) (by simp only [stepM]; omega) (by simp only [fuelM, stepM] at hfu ⊢; omega) (by unfold capM at hcap ⊢; simp only [stepM]; omega)
      have hro := runM_ok s n .either (d + 1) (stepM b) (by omega) (by simp only [stepM]; omega) (fun h => by cases h) trivial (by simp only [fuelM, stepM] at hfu ⊢; omega)
      obtain ⟨br, p, q, hr⟩ : ∃ br p q, runM s n .either (d + 1) (stepM b) = (br, (p, q)) := ⟨_, _, _, rfl⟩
      have HE9 : Hid (runM s (n + 1) .atom d b = (closeM s br, (p, q))) := Lib.hid (HR.out.trans (by rw [if_pos HC.out, if_neg hd8, hr]))
      rw [hr] at kE hro
      have hbp := hro.top
      dsimp only at hbp
      have HD8 := Lib.hid hd8
      clear hr hro hd8
      have HB0 := Lib.hid HA.out.bs
      go_wp2_with fail
      refine kE.mono ?_
      rintro e wb ⟨rfl, ownb, hBb, hsb⟩
      have HB1 := Lib.hid (HB0.out.call hBb hsb)
      clear kE hBb hsb HB0 HA
      go_upto_region 9 with fail
      have HPX := Lib.hid (HB1.out.alloc (.int .i64 p) (.int .i64 q))
      obtain ⟨pb, hpb⟩ : ∃ pb, wb.heap.size = pb := ⟨_, rfl⟩
      rw [hpb] at HPX ⊢
      refine wp_forget (BS own w g s br [(pb, .int .i64 p, .int .i64 q), (w.heap.size, .int .i64 0, .int .i64 0)]) HPX.out (fun wp qp => ?_)
      have HP := Lib.hid qp
      clear qp hpb HPX HB1
      obtain ⟨o, ho⟩ : ∃ o, peekM s br = o := ⟨_, rfl⟩
      obtain ⟨ow, qw⟩ := HP.out
      have k5 := peek_bs qw o ho (by omega)
      have HO := Lib.hid ho
      clear qw ho
      go_wp2_with fail
      refine k5.mono ?_
      rintro e wc ⟨rfl, hC⟩
      have HCC := Lib.hid hC
      clear k5 hC HP
      by_cases h41 : o = some 41
      · subst h41
        have hm1 : (pb, Value.int .i64 p, Value.int .i64 q) ∈ [(pb, Value.int .i64 p, Value.int .i64 q), (w.heap.size, .int .i64 0, .int .i64 0)] := by simp
        have hm2 : (w.heap.size, Value.int .i64 0, Value.int .i64 0) ∈ [(pb, Value.int .i64 p, Value.int .i64 q), (w.heap.size, .int .i64 0, .int .i64 0)] := by simp
        have HM1 := Lib.hid hm1
        have HM2 := Lib.hid hm2
        clear hm1 hm2
        have hbp2 : br.pos ≤ 1000 := by first | omega | (rw [failM_pos]; omega)
        obtain ⟨_, c1, _, f1⟩ := HCC.out.fields
        go_upto_region 13 with fail
        refine wp_forget (BS own w g s (stepM br) [(pb, .int .i64 p, .int .i64 q), (w.heap.size, .int .i64 0, .int .i64 0)]) HCC.out.step (fun w3 q3 => ?_)
        have H3 := Lib.hid q3
        clear c1 f1 q3
        obtain ⟨z0, z1, _, _, _⟩ := H3.out.cells HM1.out
        obtain ⟨y0, y1, f0, f1, _⟩ := H3.out.cells HM2.out
        go_wp2
        refine bodyPost_ret (results_agg1 rfl _ _ w.heap.size [.int .i64 (p : Nat), .int .i64 (q : Nat)] (.struct _) rfl (World.rangeAt_setCells_same w3 w.heap.size 0 [.int .i64 (p : Nat), .int .i64 (q : Nat)] (H3.out.there HM2.out)) Tryz.underlying132 rfl (by kernel_rfl)) rfl ?_
        rw [HE9.out, show closeM s br = stepM br from by unfold closeM; rw [if_pos HO.out]]
        exact H3.out.done HM2.out
      · have hno : (!o.isSome || ((((o.getD 0 : Nat) : Int)) != 41)) = true := by
          rcases o with _ | c
          · rfl
          · simp at h41 ⊢; omega
        have H41 := Lib.hid h41
        clear h41
        obtain ⟨ow, qw⟩ := HCC.out
        have k6 := fail_bs qw 2
        clear qw
        rcases o with _ | c
        · go_wp2_with fail
          refine k6.mono ?_
          rintro e wd ⟨rfl, hD⟩
          have HD := Lib.hid hD
          clear k6 hD HCC
          have hm1 : (pb, Value.int .i64 p, Value.int .i64 q) ∈ [(pb, Value.int .i64 p, Value.int .i64 q), (w.heap.size, .int .i64 0, .int .i64 0)] := by simp
          have hm2 : (w.heap.size, Value.int .i64 0, Value.int .i64 0) ∈ [(pb, Value.int .i64 p, Value.int .i64 q), (w.heap.size, .int .i64 0, .int .i64 0)] := by simp
          have HM1 := Lib.hid hm1
          have HM2 := Lib.hid hm2
          clear hm1 hm2
          have hbp2 : (failM br 2).pos ≤ 1000 := by first | omega | (rw [failM_pos]; omega)
          obtain ⟨_, c1, _, f1⟩ := HD.out.fields
          go_upto_region 13 with fail
          refine wp_forget (BS own w g s (stepM (failM br 2)) [(pb, .int .i64 p, .int .i64 q), (w.heap.size, .int .i64 0, .int .i64 0)]) HD.out.step (fun w5 q5 => ?_)
          have H5 := Lib.hid q5
          clear c1 f1 q5
          obtain ⟨z0, z1, _, _, _⟩ := H5.out.cells HM1.out
          obtain ⟨y0, y1, f0, f1, _⟩ := H5.out.cells HM2.out
          go_wp2
          refine bodyPost_ret (results_agg1 rfl _ _ w.heap.size [.int .i64 (p : Nat), .int .i64 (q : Nat)] (.struct _) rfl (World.rangeAt_setCells_same w5 w.heap.size 0 [.int .i64 (p : Nat), .int .i64 (q : Nat)] (H5.out.there HM2.out)) Tryz.underlying132 rfl (by kernel_rfl)) rfl ?_
          rw [HE9.out, show closeM s br = stepM (failM br 2) from by unfold closeM; rw [if_neg (by rw [HO.out]; exact H41.out)]]
          exact H5.out.done HM2.out
        · have hc41 : ((c : Int) != 41) = true := by simpa using hno
          clear hno
          go_wp2_with fail
          refine k6.mono ?_
          rintro e wd ⟨rfl, hD⟩
          have HD := Lib.hid hD
          clear k6 hD HCC
          have hm1 : (pb, Value.int .i64 p, Value.int .i64 q) ∈ [(pb, Value.int .i64 p, Value.int .i64 q), (w.heap.size, .int .i64 0, .int .i64 0)] := by simp
          have hm2 : (w.heap.size, Value.int .i64 0, Value.int .i64 0) ∈ [(pb, Value.int .i64 p, Value.int .i64 q), (w.heap.size, .int .i64 0, .int .i64 0)] := by simp
          have HM1 := Lib.hid hm1
          have HM2 := Lib.hid hm2
          clear hm1 hm2
          have hbp2 : (failM br 2).pos ≤ 1000 := by first | omega | (rw [failM_pos]; omega)
          obtain ⟨_, c1, _, f1⟩ := HD.out.fields
          go_upto_region 13 with fail
          refine wp_forget (BS own w g s (stepM (failM br 2)) [(pb, .int .i64 p, .int .i64 q), (w.heap.size, .int .i64 0, .int .i64 0)]) HD.out.step (fun w5 q5 => ?_)
          have H5 := Lib.hid q5
          clear c1 f1 q5
          obtain ⟨z0, z1, _, _, _⟩ := H5.out.cells HM1.out
          obtain ⟨y0, y1, f0, f1, _⟩ := H5.out.cells HM2.out
          go_wp2
          refine bodyPost_ret (results_agg1 rfl _ _ w.heap.size [.int .i64 (p : Nat), .int .i64 (q : Nat)] (.struct _) rfl (World.rangeAt_setCells_same w5 w.heap.size 0 [.int .i64 (p : Nat), .int .i64 (q : Nat)] (H5.out.there HM2.out)) Tryz.underlying132 rfl (by kernel_rfl)) rfl ?_
          rw [HE9.out, show closeM s br = stepM (failM br 2) from by unfold closeM; rw [if_neg (by rw [HO.out]; exact H41.out)]]
          exact H5.out.done HM2.out
  · have hb40 : ((c : Int) == 40) = false := by rw [beq_eq_false_iff_ne]; omega
    have HR2 : Hid (runM s (n + 1) .atom d b = _) := Lib.hid (HR.out.trans (if_neg (by rw [HC.out]; exact h40)))
    clear HR
    by_cases h91 : c = 91
    · subst h91
      have k7 := class_is _ g sb s (stepM b) own HA.out.bld HA.out.set HA.out.nk (by simp only [stepM]; omega) (by omega)
      go_wp2_with fail
      refine k7.mono ?_
      rintro e wb ⟨rfl, hB1, hS1, hk1⟩
      have HB1 := Lib.hid (HA.out.turn hB1 hS1 hk1)
      clear k7 hB1 hS1 hk1
      obtain ⟨b9, p, q, h9⟩ : ∃ b9 p q, oneM (classM s (stepM b)).1 (classM s (stepM b)).2 = (b9, (p, q)) := ⟨_, _, _, rfl⟩
      have k6 := HB1.out.one (by first | exact Nat.le_trans hl0 (by decide) | (rw [failM_sts]; exact Nat.le_trans hl0 (by decide)) | (rw [classM_len]; exact Nat.le_trans hl0 (by decide)) | (show (failM (stepM b) 2).sts.length ≤ _; rw [failM_sts]; exact Nat.le_trans hl0 (by decide)))
      rw [h9] at k6
      dsimp only at k6
      have HE9 : Hid (runM s (n + 1) .atom d b = (b9, (p, q))) := Lib.hid ((HR2.out.trans (if_pos HC.out)).trans h9)
      clear h9
      go_wp2_with fail
      refine k6.mono ?_
      rintro e w6 ⟨rfl, h6⟩
      have H6 := Lib.hid h6
      clear k6 h6
      obtain ⟨y0, y1, f0, f1, _⟩ := H6.out.cells (List.mem_singleton.2 rfl)
      go_wp2
      refine bodyPost_ret (results_agg1 rfl _ _ w.heap.size [.int .i64 (p : Nat), .int .i64 (q : Nat)] (.struct _) rfl (World.rangeAt_setCells_same w6 w.heap.size 0 [.int .i64 (p : Nat), .int .i64 (q : Nat)] (H6.out.there (List.mem_singleton.2 rfl))) Tryz.underlying132 rfl (by kernel_rfl)) rfl ?_
      rw [HE9.out]
      exact H6.out.done (List.mem_singleton.2 rfl)
    · have hb91 : ((c : Int) == 91) = false := by rw [beq_eq_false_iff_ne]; omega
      have HR3 : Hid (runM s (n + 1) .atom d b = _) := Lib.hid (HR2.out.trans (if_neg (by rw [HC.out]; exact h91)))
      clear HR2
      by_cases h46 : c = 46
      · subst h46
        have k7 := turn_is _ sb noS HA.out.set
        go_wp2_with fail
        refine k7.mono ?_
        rintro e wb ⟨rfl, hS1, hk1⟩
        have HB1 := Lib.hid (HA.out.fill hS1 hk1)
        clear k7 hS1 hk1
        obtain ⟨b9, p, q, h9⟩ : ∃ b9 p q, oneM (stepM b) (turnS noS) = (b9, (p, q)) := ⟨_, _, _, rfl⟩
        have k7 := HB1.out.one (by first | exact Nat.le_trans hl0 (by decide) | (rw [failM_sts]; exact Nat.le_trans hl0 (by decide)) | (rw [classM_len]; exact Nat.le_trans hl0 (by decide)) | (show (failM (stepM b) 2).sts.length ≤ _; rw [failM_sts]; exact Nat.le_trans hl0 (by decide)))
        rw [h9] at k7
        dsimp only at k7
        have HE9 : Hid (runM s (n + 1) .atom d b = (b9, (p, q))) := Lib.hid ((HR3.out.trans (if_pos HC.out)).trans h9)
        clear h9
        go_wp2_with fail
        refine k7.mono ?_
        rintro e w7 ⟨rfl, h7⟩
        have H7 := Lib.hid h7
        clear k7 h7
        obtain ⟨y0, y1, f0, f1, _⟩ := H7.out.cells (List.mem_singleton.2 rfl)
        go_wp2
        refine bodyPost_ret (results_agg1 rfl _ _ w.heap.size [.int .i64 (p : Nat), .int .i64 (q : Nat)] (.struct _) rfl (World.rangeAt_setCells_same w7 w.heap.size 0 [.int .i64 (p : Nat), .int .i64 (q : Nat)] (H7.out.there (List.mem_singleton.2 rfl))) Tryz.underlying132 rfl (by kernel_rfl)) rfl ?_
        rw [HE9.out]
        exact H7.out.done (List.mem_singleton.2 rfl)
      · have hb46 : ((c : Int) == 46) = false := by rw [beq_eq_false_iff_ne]; omega
        have HR4 : Hid (runM s (n + 1) .atom d b = _) := Lib.hid (HR3.out.trans (if_neg (by rw [HC.out]; exact h46)))
        clear HR3
        by_cases h92 : c = 92
        · subst h92
          obtain ⟨o, ho⟩ : ∃ o, peekM s (stepM b) = o := ⟨_, rfl⟩
          have k7 := peek_is _ g s (stepM b) own o ho HA.out.bld (by omega)
          have HO := Lib.hid ho
          clear ho
          go_wp2_with fail
          refine k7.mono ?_
          rintro e wb ⟨rfl, hb1⟩
          have HB1 := Lib.hid (HA.out.below hb1)
          clear k7 hb1
          rcases o with _ | e0
          · have kq8 := KF.out _ _ _ 2 HB1.out.bld
            go_wp2_with fail
            refine kq8.mono ?_
            rintro e w8 ⟨rfl, hB8, hs8⟩
            have H8 := Lib.hid (HB1.out.call hB8 hs8)
            clear kq8 hB8 hs8
            have hpf : (failM (stepM b) 2).pos ≤ 1000 := by rw [failM_pos]; omega
            obtain ⟨_, c1, _, f1⟩ := H8.out.bld.fields
            go_upto_region 23 with fail
            refine wp_forget (AtAt own w g s (stepM (failM (stepM b) 2)) w.heap.size sb noS) H8.out.step (fun w9 q9 => ?_)
            have H9 := Lib.hid q9
            clear c1 f1 q9
            have ka10 := add_is _ sb noS 0 0 H9.out.set (by decide) (by decide)
            go_wp2_with fail
            refine ka10.mono ?_
            rintro e w10 ⟨rfl, hS10, hk10⟩
            have H10 : Hid (AtAt own w g s _ w.heap.size sb (oneS 0) _) := Lib.hid (H9.out.fill hS10 hk10)
            clear ka10 hS10 hk10
            obtain ⟨b9, p, q, h9⟩ : ∃ b9 p q, oneM (stepM (failM (stepM b) 2)) (oneS 0) = (b9, (p, q)) := ⟨_, _, _, rfl⟩
            have k11 := H10.out.one (by first | exact Nat.le_trans hl0 (by decide) | (rw [failM_sts]; exact Nat.le_trans hl0 (by decide)) | (rw [classM_len]; exact Nat.le_trans hl0 (by decide)) | (show (failM (stepM b) 2).sts.length ≤ _; rw [failM_sts]; exact Nat.le_trans hl0 (by decide)))
            rw [h9] at k11
            dsimp only at k11
            have HE9 : Hid (runM s (n + 1) .atom d b = (b9, (p, q))) := Lib.hid ((HR4.out.trans (by rw [if_pos HC.out, HO.out])).trans h9)
            clear h9
            go_wp2_with fail
            refine k11.mono ?_
            rintro e w11 ⟨rfl, h11⟩
            have H11 := Lib.hid h11
            clear k11 h11
            obtain ⟨y0, y1, f0, f1, _⟩ := H11.out.cells (List.mem_singleton.2 rfl)
            go_wp2
            refine bodyPost_ret (results_agg1 rfl _ _ w.heap.size [.int .i64 (p : Nat), .int .i64 (q : Nat)] (.struct _) rfl (World.rangeAt_setCells_same w11 w.heap.size 0 [.int .i64 (p : Nat), .int .i64 (q : Nat)] (H11.out.there (List.mem_singleton.2 rfl))) Tryz.underlying132 rfl (by kernel_rfl)) rfl ?_
            rw [HE9.out]
            exact H11.out.done (List.mem_singleton.2 rfl)
          · have he0 : e0 < 256 := by rw [(peekM_some HO.out).2.2]; exact byteM_lt _ _
            obtain ⟨_, c1, _, f1⟩ := HB1.out.bld.fields
            go_upto_region 23 with fail
            refine wp_forget (AtAt own w g s (stepM (stepM b)) w.heap.size sb noS) HB1.out.step (fun w12 q12 => ?_)
            have H12 := Lib.hid q12
            clear c1 f1 q12
            have ka13 := add_is _ sb noS e0 e0 H12.out.set he0 he0
            go_wp2_with fail
            refine ka13.mono ?_
            rintro e w13 ⟨rfl, hS13, hk13⟩
            have H13 : Hid (AtAt own w g s _ w.heap.size sb (oneS e0) _) := Lib.hid (H12.out.fill hS13 hk13)
            clear ka13 hS13 hk13
            obtain ⟨b9, p, q, h9⟩ : ∃ b9 p q, oneM (stepM (stepM b)) (oneS e0) = (b9, (p, q)) := ⟨_, _, _, rfl⟩
            have k14 := H13.out.one (by first | exact Nat.le_trans hl0 (by decide) | (rw [failM_sts]; exact Nat.le_trans hl0 (by decide)) | (rw [classM_len]; exact Nat.le_trans hl0 (by decide)) | (show (failM (stepM b) 2).sts.length ≤ _; rw [failM_sts]; exact Nat.le_trans hl0 (by decide)))
            rw [h9] at k14
            dsimp only at k14
            have HE9 : Hid (runM s (n + 1) .atom d b = (b9, (p, q))) := Lib.hid ((HR4.out.trans (by rw [if_pos HC.out, HO.out])).trans h9)
            clear h9
            go_wp2_with fail
            refine k14.mono ?_
            rintro e w14 ⟨rfl, h14⟩
            have H14 := Lib.hid h14
            clear k14 h14
            obtain ⟨y0, y1, f0, f1, _⟩ := H14.out.cells (List.mem_singleton.2 rfl)
            go_wp2
            refine bodyPost_ret (results_agg1 rfl _ _ w.heap.size [.int .i64 (p : Nat), .int .i64 (q : Nat)] (.struct _) rfl (World.rangeAt_setCells_same w14 w.heap.size 0 [.int .i64 (p : Nat), .int .i64 (q : Nat)] (H14.out.there (List.mem_singleton.2 rfl))) Tryz.underlying132 rfl (by kernel_rfl)) rfl ?_
            rw [HE9.out]
            exact H14.out.done (List.mem_singleton.2 rfl)
        · have hb92 : ((c : Int) == 92) = false := by rw [beq_eq_false_iff_ne]; omega
          have HR5 : Hid (runM s (n + 1) .atom d b = _) := Lib.hid (HR4.out.trans (if_neg (by rw [HC.out]; exact h92)))
          clear HR4
          have kx := Tryz.strings_IndexByte ⟨#[42, 43, 63, 124, 40, 41, 91, 93, 92, 46]⟩ (c : Int)
          obtain ⟨ix, hix⟩ : ∃ ix, Lib.indexByte (⟨#[42, 43, 63, 124, 40, 41, 91, 93, 92, 46]⟩ : ByteArray).data.toList ((c : Int).toNat.toUInt8) = ix := ⟨_, rfl⟩
          rw [hix] at kx
          by_cases hod : oddB c = true
          · have hix0 : 0 ≤ ix := by rw [← hix]; exact odd_out c hc256 hod
            have HOD := Lib.hid hod
            clear hix hod
            have kq := KF.out _ _ _ 2 HA.out.bld
            go_wp2_with (go_at_call 122; refine (kx _).mono ?_; rintro e w' ⟨rfl, hw⟩; obtain rfl := hw.symm)
            refine kq.mono ?_
            rintro e wq ⟨rfl, hBq, hsq⟩
            have HQ := Lib.hid (HA.out.call hBq hsq)
            clear kq hBq hsq
            obtain ⟨b9, p, q, h9⟩ : ∃ b9 p q, oneM (failM (stepM b) 2) noS = (b9, (p, q)) := ⟨_, _, _, rfl⟩
            have k15 := HQ.out.one (by first | exact Nat.le_trans hl0 (by decide) | (rw [failM_sts]; exact Nat.le_trans hl0 (by decide)) | (rw [classM_len]; exact Nat.le_trans hl0 (by decide)) | (show (failM (stepM b) 2).sts.length ≤ _; rw [failM_sts]; exact Nat.le_trans hl0 (by decide)))
            rw [h9] at k15
            dsimp only at k15
            have HE9 : Hid (runM s (n + 1) .atom d b = (b9, (p, q))) := Lib.hid ((HR5.out.trans (if_pos (by rw [HC.out]; exact HOD.out))).trans h9)
            clear h9
            go_wp2_with fail
            refine k15.mono ?_
            rintro e w15 ⟨rfl, h15⟩
            have H15 := Lib.hid h15
            clear k15 h15
            obtain ⟨y0, y1, f0, f1, _⟩ := H15.out.cells (List.mem_singleton.2 rfl)
            go_wp2
            refine bodyPost_ret (results_agg1 rfl _ _ w.heap.size [.int .i64 (p : Nat), .int .i64 (q : Nat)] (.struct _) rfl (World.rangeAt_setCells_same w15 w.heap.size 0 [.int .i64 (p : Nat), .int .i64 (q : Nat)] (H15.out.there (List.mem_singleton.2 rfl))) Tryz.underlying132 rfl (by kernel_rfl)) rfl ?_
            rw [HE9.out]
            exact H15.out.done (List.mem_singleton.2 rfl)
          · have hof : oddB c = false := by simpa using hod
            have hix1 : ix = -1 := by rw [← hix]; exact odd_in c hc256 hof
            subst hix1
            have HOF := Lib.hid hof
            clear hix hod hof
            have ka := add_is _ sb noS c c HA.out.set hc256 hc256
            go_wp2_with (go_at_call 122; refine (kx _).mono ?_; rintro e w' ⟨rfl, hw⟩; obtain rfl := hw.symm)
            refine ka.mono ?_
            rintro e wq ⟨rfl, hSq, hkq⟩
            have HQ : Hid (AtAt own w g s _ w.heap.size sb (oneS c) _) := Lib.hid (HA.out.fill hSq hkq)
            clear ka hSq hkq
            obtain ⟨b9, p, q, h9⟩ : ∃ b9 p q, oneM (stepM b) (oneS c) = (b9, (p, q)) := ⟨_, _, _, rfl⟩
            have k16 := HQ.out.one (by first | exact Nat.le_trans hl0 (by decide) | (rw [failM_sts]; exact Nat.le_trans hl0 (by decide)) | (rw [classM_len]; exact Nat.le_trans hl0 (by decide)) | (show (failM (stepM b) 2).sts.length ≤ _; rw [failM_sts]; exact Nat.le_trans hl0 (by decide)))
            rw [h9] at k16
            dsimp only at k16
            have HE9 : Hid (runM s (n + 1) .atom d b = (b9, (p, q))) := Lib.hid ((HR5.out.trans (by rw [HC.out, if_neg (by rw [HOF.out]; decide)])).trans h9)
            clear h9
            go_wp2_with fail
            refine k16.mono ?_
            rintro e w16 ⟨rfl, h16⟩
            have H16 := Lib.hid h16
            clear k16 h16
            obtain ⟨y0, y1, f0, f1, _⟩ := H16.out.cells (List.mem_singleton.2 rfl)
            go_wp2
            refine bodyPost_ret (results_agg1 rfl _ _ w.heap.size [.int .i64 (p : Nat), .int .i64 (q : Nat)] (.struct _) rfl (World.rangeAt_setCells_same w16 w.heap.size 0 [.int .i64 (p : Nat), .int .i64 (q : Nat)] (H16.out.there (List.mem_singleton.2 rfl))) Tryz.underlying132 rfl (by kernel_rfl)) rfl ?_
            rw [HE9.out]
            exact H16.out.done (List.mem_singleton.2 rfl)
end Go.Proofs.YtgbapkechngnmaaGreat
/- pattern's builder: row, either: contracts; the three together. -/
namespace Go.Proofs.YtgbapkechngnmaaGreat
open Go.RowKit
theorem BS.posAt {own0 : Nat → Prop} {W0 w : World} {g : Nat} {s : ByteArray} {b : Bs} {bx : List (Nat × Value × Value)} (h : BS own0 W0 g s b bx w) : posAt w g = b.pos := by
 obtain ⟨own, h⟩ := h
 exact h.bld.posAt
theorem BSo.part {own0 own : Nat → Prop} {W0 w w' : World} {g : Nat} {s : ByteArray} {b : Bs} {bx : List (Nat × Value × Value)} {r : Bs × (Nat × Nat)} {e : Ending} (h : BSo own0 W0 g s b bx own w) (hp : PartPost own w g s r e w') :
  e = .returned (.agg #[.int .i64 (r.2.1 : Nat), .int .i64 (r.2.2 : Nat)]) ∧ BS own0 W0 g s r.1 bx w' := by
 obtain ⟨h1, own', h2, h3⟩ := hp
 exact ⟨h1, h.call h2 h3⟩
def PartsAt (own : Nat → Prop) (W0 : World) (g : Nat) (s : ByteArray) (d N p1 rb pb : Nat) (r : Bs × (Nat × Nat)) (w : World) : Prop :=
 ∃ (m : Nat) (b : Bs) (p2 : Nat), runM s (m + 1) (.parts (p1, p2)) d b = r ∧ m < N ∧ fuelM s b (.parts (p1, p2)) ≤ m + 1 ∧ b.pos ≤ s.size + 12 - d ∧ p1 < b.sts.length ∧ p2 < b.sts.length ∧ capM s b ≤ 10000 + 100 * d + 20 ∧
  BS own W0 g s b [(pb, .int .i64 p1, .int .i64 p2), (rb, .int .i64 0, .int .i64 0)] w
theorem parts_stop {s : ByteArray} {m d : Nat} {p : Nat × Nat} {b : Bs} (h : peekM s b = none ∨ peekM s b = some 124 ∨ peekM s b = some 41) : runM s (m + 1) (.parts p) d b = (b, p) := by
 rw [runM]
 rcases h with h | h | h <;> rw [h] <;> rfl
theorem parts_on {s : ByteArray} {m d c : Nat} {p : Nat × Nat} {b : Bs} (h : peekM s b = some c) (h1 : c ≠ 124) (h2 : c ≠ 41) {ra : Bs × (Nat × Nat)} (hr : runM s m .atom d b = ra) {t : Bs × (Nat × Nat)} (ht : timesM s ra.1 ra.2 = t) :
  runM s (m + 1) (.parts p) d b = runM s m (.parts (p.1, t.2.2)) d (freeM t.1 p.2 t.2.1) := by
 rw [runM, h]
 dsimp only
 rw [if_neg (by omega), hr, ht]
def AltsAt (own : Nat → Prop) (W0 : World) (g : Nat) (s : ByteArray) (d N p1 p2 rb pb : Nat) (r : Bs × (Nat × Nat)) (w : World) : Prop :=
 ∃ (m : Nat) (b : Bs), runM s (m + 1) (.alts (p1, p2)) d b = r ∧ m < N ∧ fuelM s b (.alts (p1, p2)) ≤ m + 1 ∧ b.pos ≤ s.size + 12 - d ∧ p1 < b.sts.length ∧ p2 < b.sts.length ∧ capM s b ≤ 10000 + 100 * d + 5 ∧
  BS own W0 g s b [(pb, .int .i64 p1, .int .i64 p2), (rb, .int .i64 0, .int .i64 0)] w
theorem alts_at {s : ByteArray} {m d : Nat} {p : Nat × Nat} {b : Bs} {rr : Bs × (Nat × Nat)} (hr : runM s m .row d b = rr) {b2 : Bs} (hb : freeM (freeM rr.1 p.1 rr.2.1) rr.2.2 p.2 = b2) :
  runM s (m + 1) (.alts p) d b = if peekM s b2 = some 124 then runM s m (.alts p) d (stepM b2) else (b2, p) := by
 rw [runM, hr, hb]
theorem times_pos (s : ByteArray) (b : Bs) (x : Nat × Nat) (d : Nat) (hd : d ≤ 8) (h : b.pos ≤ s.size + 12 - d) : (timesM s b x).1.pos ≤ s.size + 12 - d := by
 unfold timesM
 split
 ·exact h
 ·rename_i c' hc'
  have := (peekM_some hc').2.1
  split
  ·have e : ∀ b f t, (freeM b f t).pos = b.pos := fun _ _ _ => rfl
   dsimp only
   split <;> split <;> simp only [e, nodeM, stepM] <;> omega
  ·exact h
set_option maxHeartbeats 12800000 in
set_option maxRecDepth 100000 in
theorem row_of (s : ByteArray) (n : Nat) (hs : s.size ≤ 100) (IH : ∀ m, m < n → AtomC s m) : RowC s (n + 1) := by
 intro w g b own d h hd hp hfu hcap
 have hl0 : tot b.sts ≤ 11000 := by unfold capM at hcap; omega
 have hl1 : b.sts.length ≤ 11000 := Nat.le_trans (len_tot _) hl0
 have H0 := Lib.hid ((BS.start h).alloc (.int .i64 0) (.int .i64 0))
 have HIH := Lib.hid IH
 obtain ⟨L, hL⟩ : ∃ L, b.sts.length = L := ⟨_, rfl⟩
 obtain ⟨r, hr⟩ : ∃ r, runM s n (.parts (L, L)) d (nodeM b) = r := ⟨_, rfl⟩
 have HR : Hid (runM s (n + 1) .row d b = r) := Lib.hid (by rw [runM, hL]; exact hr)
 have HST : Hid (∃ m, n = m + 1 ∧ runM s (m + 1) (.parts (L, L)) d (nodeM b) = r ∧ fuelM s (nodeM b) (.parts (L, L)) ≤ m + 1 ∧ L < (nodeM b).sts.length ∧ capM s (nodeM b) ≤ 10000 + 100 * d + 20 ∧ (nodeM b).pos ≤ s.size + 12 - d) := Lib.hid (by
  simp only [fuelM] at hfu
  obtain ⟨m, rfl⟩ : ∃ m, n = m + 1 := ⟨n - 1, by omega⟩
  refine ⟨m, rfl, hr, ?_, by rw [len_node]; omega, ?_, hp⟩
  ·simp only [fuelM, nodeM]; omega
  ·have := tot_node b
   unfold capM at hcap ⊢
   have e : (nodeM b).pos = b.pos := rfl
   rw [e]; omega)
 have HLL := Lib.hid hL
 clear h IH hr hL
 go_enter Tryz.func106, Tryz.ntmps106
 go_upto_region 1 with fail
 refine wp_forget (BS own w g s b [(w.heap.size, .int .i64 0, .int .i64 0)]) H0.out (fun w0 q0 => ?_)
 obtain ⟨ow, q0⟩ := q0
 have k1 := node_bs q0 L HLL.out (by have := HLL.out; omega)
 clear q0 H0
 go_wp2_with fail
 refine k1.mono ?_
 rintro e w1 ⟨rfl, h1⟩
 have H1 := Lib.hid h1
 clear k1 h1
 have HPX := Lib.hid (H1.out.alloc (.int .i64 L) (.int .i64 L))
 obtain ⟨pb, hpb⟩ : ∃ pb, w1.heap.size = pb := ⟨_, rfl⟩
 have hpr : pb ≠ w.heap.size := by have := H1.out.dist _ (List.mem_singleton.2 rfl); dsimp only at this; omega
 go_wp2
 rw [hpb] at HPX
 go_loopw [7] (fun _ wr => PartsAt own w g s d n L w.heap.size pb r wr) (fun _ wr => s.size + 20 - posAt wr g)
 case atStart =>
  obtain ⟨m, e1, e2, e3, e4, e5, e6⟩ := HST.out
  exact ⟨m, nodeM b, L, e2, by omega, e3, e6, e4, e4, e5, HPX.out⟩
 case round =>
  clear HST HPX H1 hpb hl0 hl1 HLL hcap hfu hp
  obtain ⟨m, b1, p2, hr, hmn, hfu, hp, hp1, hp2, hcap, hB⟩ := hrel
  have HE := Lib.hid hr
  have HB := Lib.hid hB
  have HBP := Lib.hid hB.posAt
  obtain ⟨o, ho⟩ : ∃ o, peekM s b1 = o := ⟨_, rfl⟩
  obtain ⟨ow, q⟩ := hB
  have k1 := peek_bs q o ho (by omega)
  have HO := Lib.hid ho
  clear hr ho q
  go_wp2_with fail
  refine k1.mono ?_
  rintro e wa ⟨rfl, hA⟩
  have HA := Lib.hid hA
  clear k1 hA
  rcases o with _ | c
  ·obtain ⟨z0, z1, _, _, _⟩ := HA.out.cells (List.mem_cons_self)
   obtain ⟨y0, y1, f0, f1, _⟩ := HA.out.cells (List.mem_cons_of_mem _ (List.mem_singleton.2 rfl))
   go_wp2
   refine bodyPost_ret (results_agg1 rfl _ _ w.heap.size [.int .i64 (L : Nat), .int .i64 (p2 : Nat)] (.struct _) rfl (World.rangeAt_setCells_same wa w.heap.size 0 [.int .i64 (L : Nat), .int .i64 (p2 : Nat)] (HA.out.there (List.mem_cons_of_mem _ (List.mem_singleton.2 rfl)))) Tryz.underlying132 rfl (by kernel_rfl)) rfl ?_
   rw [HR.out, ← HE.out, parts_stop (.inl HO.out)]
   exact HA.out.done (List.mem_cons_of_mem _ (List.mem_singleton.2 rfl))
  ·by_cases h124 : c = 124
   ·subst h124
    obtain ⟨z0, z1, _, _, _⟩ := HA.out.cells (List.mem_cons_self)
    obtain ⟨y0, y1, f0, f1, _⟩ := HA.out.cells (List.mem_cons_of_mem _ (List.mem_singleton.2 rfl))
    go_wp2
    refine bodyPost_ret (results_agg1 rfl _ _ w.heap.size [.int .i64 (L : Nat), .int .i64 (p2 : Nat)] (.struct _) rfl (World.rangeAt_setCells_same wa w.heap.size 0 [.int .i64 (L : Nat), .int .i64 (p2 : Nat)] (HA.out.there (List.mem_cons_of_mem _ (List.mem_singleton.2 rfl)))) Tryz.underlying132 rfl (by kernel_rfl)) rfl ?_
    rw [HR.out, ← HE.out, parts_stop (.inr (.inl HO.out))]
    exact HA.out.done (List.mem_cons_of_mem _ (List.mem_singleton.2 rfl))
   ·have hb124 : ((c : Int) == 124) = false := by rw [beq_eq_false_iff_ne]; omega
    have H124 := Lib.hid h124
    clear h124
    by_cases h41 : c = 41
    ·subst h41
     obtain ⟨z0, z1, _, _, _⟩ := HA.out.cells (List.mem_cons_self)
     obtain ⟨y0, y1, f0, f1, _⟩ := HA.out.cells (List.mem_cons_of_mem _ (List.mem_singleton.2 rfl))
     go_wp2
     refine bodyPost_ret (results_agg1 rfl _ _ w.heap.size [.int .i64 (L : Nat), .int .i64 (p2 : Nat)] (.struct _) rfl (World.rangeAt_setCells_same wa w.heap.size 0 [.int .i64 (L : Nat), .int .i64 (p2 : Nat)] (HA.out.there (List.mem_cons_of_mem _ (List.mem_singleton.2 rfl)))) Tryz.underlying132 rfl (by kernel_rfl)) rfl ?_
     rw [HR.out, ← HE.out, parts_stop (.inr (.inr HO.out))]
     exact HA.out.done (List.mem_cons_of_mem _ (List.mem_singleton.2 rfl))
    ·have hb41 : ((c : Int) == 41) = false := by rw [beq_eq_false_iff_ne]; omega
     have H41 := Lib.hid h41
     clear h41
     have hps := (peekM_some HO.out).2.1
     have hfa : fuelM s b1 .atom ≤ m := by simp only [fuelM] at hfu ⊢; omega
     have hro := runM_ok s m .atom d b1 hd hp (fun _ => hps) trivial hfa
     obtain ⟨oa, qa⟩ := HA.out
     have k2 := HIH.out m hmn wa g b1 oa d qa.bld hd hps hfa hcap
     have k2' := k2.mono (fun e w' hp' => qa.part hp')
     clear k2 qa
     obtain ⟨ba, a1, a2, hra⟩ : ∃ ba a1 a2, runM s m .atom d b1 = (ba, (a1, a2)) := ⟨_, _, _, rfl⟩
     rw [hra] at k2' hro
     obtain ⟨ho1, ho2, ho3, ho4, ho5⟩ := hro
     obtain ⟨ho6, ho7⟩ := ho5 rfl
     obtain ⟨ho8, ho9, _⟩ := ho1
     dsimp only at k2' ho2 ho3 ho4 ho6 ho7 ho8 ho9
     have hta : tot ba.sts ≤ 12000 := by unfold capM at hcap; omega
     obtain ⟨bt, t1, t2, htm⟩ : ∃ bt t1 t2, timesM s ba (a1, a2) = (bt, (t1, t2)) := ⟨_, _, _, rfl⟩
     have gt := gd_times s ba (a1, a2)
     have pt := times_part s ba (a1, a2) ⟨ho2, ho3⟩
     have hpt : (timesM s ba (a1, a2)).1.pos ≤ s.size + 12 - d := times_pos s ba (a1, a2) d hd ho4
     rw [htm] at gt pt hpt
     obtain ⟨gt1, gt2, gt3⟩ := gt
     dsimp only at gt1 gt2 gt3 pt hpt
     have HNX : Hid (runM s (m + 1) (.parts (L, p2)) d b1 = runM s m (.parts (L, t2)) d (freeM bt p2 t1)) := Lib.hid (parts_on HO.out H124.out H41.out hra htm)
     have HTM := Lib.hid htm
     clear hra htm
     have HG : Hid (b1.pos < bt.pos ∧ bt.pos ≤ s.size + 12 - d ∧ t1 < bt.sts.length ∧ t2 < bt.sts.length ∧ L < bt.sts.length ∧ p2 < bt.sts.length ∧ tot bt.sts + 1 ≤ tot b1.sts + 6 * (bt.pos - b1.pos) ∧ tot bt.sts ≤ 12000) := Lib.hid ⟨by omega, hpt, pt.1, pt.2, by omega, by omega, by omega, by unfold capM at hcap; omega⟩
     clear ho2 ho4 ho6 ho7 ho8 ho9 gt1 gt2 gt3 pt hpt
     go_wp2_with fail
     refine k2'.mono ?_
     rintro e wb ⟨rfl, hb⟩
     obtain ⟨ob, qb⟩ := hb
     have k3 := times_is wb g s ba ob a1 a2 qb.bld ho3 (by have := HG.out; have := gd_times s ba (a1, a2); have h0 := this.pos; rw [HTM.out] at h0; dsimp only at h0; omega) (by omega)
     have k3' := k3.mono (fun e w' hp' => qb.part hp')
     rw [HTM.out] at k3'
     dsimp only at k3'
     clear k3 qb k2' HB HA HTM
     go_wp2_with fail
     refine k3'.mono ?_
     rintro e wc ⟨rfl, hc⟩
     have HC := Lib.hid hc
     clear k3' hc
     go_upto_region 7 with fail
     have HXX := Lib.hid (HC.out.alloc (.int .i64 t1) (.int .i64 t2))
     obtain ⟨xb, hxb⟩ : ∃ xb, wc.heap.size = xb := ⟨_, rfl⟩
     rw [hxb] at HXX ⊢
     refine wp_forget (BS own w g s bt [(xb, .int .i64 t1, .int .i64 t2), (pb, .int .i64 L, .int .i64 p2), (w.heap.size, .int .i64 0, .int .i64 0)]) HXX.out (fun wx qx => ?_)
     have HX := Lib.hid qx
     have hxn : xb ≠ pb := by have := HC.out.dist _ (List.mem_cons_self); dsimp only at this; omega
     clear qx hxb HXX HC
     obtain ⟨x0, x1, _, _, _⟩ := HX.out.cells (List.mem_cons_self)
     obtain ⟨z0, z1, g0, g1, _⟩ := HX.out.cells (List.mem_cons_of_mem _ (List.mem_cons_self))
     obtain ⟨oy, qy⟩ := HX.out
     have k4 := free_bs qy p2 t1 HG.out.2.2.2.2.2.1 (by have := HG.out; omega)
     clear qy
     go_wp2_with fail
     refine k4.mono ?_
     rintro e wy ⟨rfl, hy⟩
     have HY := Lib.hid hy
     clear k4 hy x0 x1 z0 z1 g0 g1 HX
     obtain ⟨x0, x1, _, _, _⟩ := HY.out.cells (List.mem_cons_self)
     obtain ⟨z0, z1, g0, g1, _⟩ := HY.out.cells (List.mem_cons_of_mem _ (List.mem_cons_self))
     have hz : BS own w g s (freeM bt p2 t1) [(pb, .int .i64 L, .int .i64 p2), (w.heap.size, .int .i64 0, .int .i64 0)] wy := HY.out.sub (fun z hz => List.mem_cons_of_mem _ hz)
     have hz2 := hz.put (k := pb) (j := 1) (fun z hz => by rw [List.mem_singleton.1 hz]; exact fun e => hpr e.symm) (.int .i64 t2)
     have HZ : Hid (BS own w g s (freeM bt p2 t1) [(pb, .int .i64 L, .int .i64 t2), (w.heap.size, .int .i64 0, .int .i64 0)] (wy.setCell ⟨pb, 1, none⟩ (.int .i64 t2))) := Lib.hid hz2
     clear hz hz2 HY
     go_wp2
     go_roundw
     case rel =>
      simp only [fuelM] at hfu
      refine ⟨m - 1, freeM bt p2 t1, t2, ?_, by omega, ?_, HG.out.2.1, ?_, ?_, ?_, HZ.out⟩
      ·rw [show m - 1 + 1 = m by omega]; exact HNX.out.symm.trans HE.out
      ·simp only [fuelM]; have := HG.out; have e : (freeM bt p2 t1).pos = bt.pos := rfl; rw [e]; omega
      ·rw [len_free]; exact HG.out.2.2.2.2.1
      ·rw [len_free]; exact HG.out.2.2.2.1
      ·have h1 := tot_free bt p2 t1
       have h2 := HG.out
       unfold capM at hcap ⊢
       have e : (freeM bt p2 t1).pos = bt.pos := rfl
       rw [e]; omega
     case measure =>
      rw [HZ.out.posAt, HBP.out]
      have := HG.out
      have e : (freeM bt p2 t1).pos = bt.pos := rfl
      rw [e]; omega
set_option maxHeartbeats 12800000 in
set_option maxRecDepth 100000 in
theorem either_of (s : ByteArray) (n : Nat) (hs : s.size ≤ 100) (IH : ∀ m, m < n → RowC s m) : EitherC s (n + 1) := by
 intro w g b own d h hd hp hfu hcap
 have hl0 : tot b.sts ≤ 11000 := by unfold capM at hcap; omega
 have hl1 : b.sts.length ≤ 11000 := Nat.le_trans (len_tot _) hl0
 have H0 := Lib.hid ((BS.start h).alloc (.int .i64 0) (.int .i64 0))
 have HIH := Lib.hid IH
 obtain ⟨L, hL⟩ : ∃ L, b.sts.length = L := ⟨_, rfl⟩
 obtain ⟨r, hr⟩ : ∃ r, runM s n (.alts (L, L + 1)) d (nodeM (nodeM b)) = r := ⟨_, rfl⟩
 have HR : Hid (runM s (n + 1) .either d b = r) := Lib.hid (by rw [runM, hL]; exact hr)
 have HST : Hid (∃ m, n = m + 1 ∧ runM s (m + 1) (.alts (L, L + 1)) d (nodeM (nodeM b)) = r ∧ fuelM s (nodeM (nodeM b)) (.alts (L, L + 1)) ≤ m + 1 ∧ L + 1 < (nodeM (nodeM b)).sts.length ∧ capM s (nodeM (nodeM b)) ≤ 10000 + 100 * d + 5 ∧ (nodeM (nodeM b)).pos ≤ s.size + 12 - d) := Lib.hid (by
  simp only [fuelM] at hfu
  obtain ⟨m, rfl⟩ : ∃ m, n = m + 1 := ⟨n - 1, by omega⟩
  refine ⟨m, rfl, hr, ?_, by rw [len_node, len_node]; omega, ?_, hp⟩
  ·simp only [fuelM, nodeM]; omega
  ·have h1 := tot_node b
   have h2 := tot_node (nodeM b)
   unfold capM at hcap ⊢
   have e : (nodeM (nodeM b)).pos = b.pos := rfl
   rw [e]; omega)
 have HLL := Lib.hid hL
 clear h IH hr hL
 go_enter Tryz.func84, Tryz.ntmps84
 go_upto_region 1 with fail
 refine wp_forget (BS own w g s b [(w.heap.size, .int .i64 0, .int .i64 0)]) H0.out (fun w0 q0 => ?_)
 obtain ⟨ow, q0⟩ := q0
 have k1 := node_bs q0 L HLL.out (by have := HLL.out; omega)
 clear q0 H0
 go_wp2_with fail
 refine k1.mono ?_
 rintro e w1 ⟨rfl, h1⟩
 obtain ⟨ox, q1⟩ := h1
 have k2 := node_bs q1 (L + 1) (by rw [len_node, HLL.out]) (by have := HLL.out; omega)
 clear q1 k1
 go_wp2_with fail
 refine k2.mono ?_
 rintro e w2 ⟨rfl, h2⟩
 have H1 := Lib.hid h2
 clear k2 h2
 have HPX := Lib.hid (H1.out.alloc (.int .i64 L) (.int .i64 ((L + 1 : Nat) : Int)))
 obtain ⟨pb, hpb⟩ : ∃ pb, w2.heap.size = pb := ⟨_, rfl⟩
 go_wp2
 rw [hpb] at HPX
 go_loopw [6] (fun _ wr => AltsAt own w g s d n L (L + 1) w.heap.size pb r wr) (fun _ wr => s.size + 20 - posAt wr g)
 case atStart =>
  obtain ⟨m, e1, e2, e3, e4, e5, e6⟩ := HST.out
  exact ⟨m, nodeM (nodeM b), e2, by omega, e3, e6, by omega, e4, e5, HPX.out⟩
 case round =>
  clear HST HPX H1 hpb hl0 hl1 HLL hcap hfu hp
  obtain ⟨m, b1, hr, hmn, hfu, hp, hp1, hp2, hcap, hB⟩ := hrel
  have HE := Lib.hid hr
  have HBP := Lib.hid hB.posAt
  have hfr : fuelM s b1 .row ≤ m := by simp only [fuelM] at hfu ⊢; omega
  have hro := runM_ok s m .row d b1 hd hp (fun h => by cases h) trivial hfr
  obtain ⟨oa, qa⟩ := hB
  have k2 := HIH.out m hmn wr g b1 oa d qa.bld hd hp hfr (by omega)
  have k2' := k2.mono (fun e w' hp' => qa.part hp')
  clear k2 qa hr
  obtain ⟨br, x1, x2, hrr⟩ : ∃ br x1 x2, runM s m .row d b1 = (br, (x1, x2)) := ⟨_, _, _, rfl⟩
  rw [hrr] at k2' hro
  obtain ⟨⟨ho1, ho2, ho3⟩, ho4, ho5, ho6, _⟩ := hro
  simp only [costM] at ho3
  dsimp only at k2' ho1 ho2 ho3 ho4 ho5 ho6
  have HNX : Hid (runM s (m + 1) (.alts (L, L + 1)) d b1 = if peekM s (freeM (freeM br L x1) x2 (L + 1)) = some 124 then runM s m (.alts (L, L + 1)) d (stepM (freeM (freeM br L x1) x2 (L + 1))) else (freeM (freeM br L x1) x2 (L + 1), (L, L + 1))) := Lib.hid (alts_at hrr rfl)
  clear hrr
  go_wp2_with fail
  refine k2'.mono ?_
  rintro e wc ⟨rfl, hc⟩
  have HC := Lib.hid hc
  clear k2' hc
  go_upto_region 3 with fail
  have HXX := Lib.hid (HC.out.alloc (.int .i64 x1) (.int .i64 x2))
  obtain ⟨xb, hxb⟩ : ∃ xb, wc.heap.size = xb := ⟨_, rfl⟩
  rw [hxb] at HXX ⊢
  refine wp_forget (BS own w g s br [(xb, .int .i64 x1, .int .i64 x2), (pb, .int .i64 L, .int .i64 ((L + 1 : Nat) : Int)), (w.heap.size, .int .i64 0, .int .i64 0)]) HXX.out (fun wx qx => ?_)
  have HX := Lib.hid qx
  clear qx hxb HXX HC
  obtain ⟨a0, a1, _, _, _⟩ := HX.out.cells (List.mem_cons_self)
  obtain ⟨z0, z1, _, _, _⟩ := HX.out.cells (List.mem_cons_of_mem _ (List.mem_cons_self))
  have htb : tot br.sts ≤ 12000 := by unfold capM at hcap; omega
  have hF1 : tot (freeM br L x1).sts ≤ tot br.sts + 1 := tot_free br L x1
  have hF2 : tot (freeM (freeM br L x1) x2 (L + 1)).sts ≤ tot (freeM br L x1).sts + 1 := tot_free _ _ _
  obtain ⟨oy, qy⟩ := HX.out
  have k4 := free_bs qy L x1 (by omega) (by omega)
  clear qy
  go_wp2_with fail
  refine k4.mono ?_
  rintro e wy ⟨rfl, hy⟩
  have HY := Lib.hid hy
  clear k4 hy a0 a1 z0 z1 HX
  obtain ⟨a0, a1, _, _, _⟩ := HY.out.cells (List.mem_cons_self)
  obtain ⟨z0, z1, _, _, _⟩ := HY.out.cells (List.mem_cons_of_mem _ (List.mem_cons_self))
  obtain ⟨oz, qz⟩ := HY.out
  have k5 := free_bs qz x2 (L + 1) (by rw [len_free]; omega) (by omega)
  clear qz
  go_wp2_with fail
  refine k5.mono ?_
  rintro e wz ⟨rfl, hz⟩
  have HZ : Hid (BS own w g s (freeM (freeM br L x1) x2 (L + 1)) [(pb, .int .i64 L, .int .i64 ((L + 1 : Nat) : Int)), (w.heap.size, .int .i64 0, .int .i64 0)] wz) := Lib.hid (hz.sub (fun z hz => List.mem_cons_of_mem _ hz))
  clear k5 hz a0 a1 z0 z1 HY
  have HG : Hid (b1.pos ≤ br.pos ∧ br.pos ≤ s.size + 12 - d ∧ L < (freeM (freeM br L x1) x2 (L + 1)).sts.length ∧ L + 1 < (freeM (freeM br L x1) x2 (L + 1)).sts.length ∧ tot (freeM (freeM br L x1) x2 (L + 1)).sts ≤ tot b1.sts + 3 + 6 * (br.pos - b1.pos)) := Lib.hid ⟨ho1, ho6, by rw [len_free, len_free]; omega, by rw [len_free, len_free]; omega, by omega⟩
  have hbp : (freeM (freeM br L x1) x2 (L + 1)).pos = br.pos := rfl
  generalize freeM (freeM br L x1) x2 (L + 1) = b2 at *
  obtain ⟨o, ho⟩ : ∃ o, peekM s b2 = o := ⟨_, rfl⟩
  obtain ⟨oq, qq⟩ := HZ.out
  have k6 := peek_bs qq o ho (by omega)
  have HO := Lib.hid ho
  have HBB := Lib.hid hbp
  clear ho qq
  go_wp2_with fail
  refine k6.mono ?_
  rintro e wa ⟨rfl, hA⟩
  have HA := Lib.hid hA
  clear k6 hA HZ
  by_cases h124 : o = some 124
  ·subst h124
   have hp6 : b2.pos ≤ 1000 := by omega
   have HPS := Lib.hid (peekM_some HO.out).2.1
   have HNX2 : Hid (runM s (m + 1) (.alts (L, L + 1)) d b1 = runM s m (.alts (L, L + 1)) d (stepM b2)) := Lib.hid (HNX.out.trans (if_pos HO.out))
   obtain ⟨_, c1, _, f1⟩ := HA.out.fields
   have HS := Lib.hid HA.out.step
   clear hbp HNX
   go_wp2
   go_roundw
   case rel =>
    simp only [fuelM] at hfu
    have h2 := HG.out
    have h3 := HPS.out
    have h4 := HBB.out
    refine ⟨m - 1, stepM b2, ?_, by omega, ?_, ?_, h2.2.2.1, h2.2.2.2.1, ?_, HS.out⟩
    ·rw [show m - 1 + 1 = m by omega]; exact HNX2.out.symm.trans HE.out
    ·simp only [fuelM, stepM]; omega
    ·simp only [stepM]; omega
    ·unfold capM at hcap ⊢
     simp only [stepM]; omega
   case measure =>
    rw [HS.out.posAt, HBP.out]
    have h2 := HG.out
    have h3 := HPS.out
    have h4 := HBB.out
    simp only [stepM]; omega
  ·have HNX2 : Hid (runM s (m + 1) (.alts (L, L + 1)) d b1 = (b2, (L, L + 1))) := Lib.hid (HNX.out.trans (if_neg (by rw [HO.out]; exact h124)))
   rcases o with _ | c
   ·obtain ⟨z0, z1, _, _, _⟩ := HA.out.cells (List.mem_cons_self)
    obtain ⟨y0, y1, f0, f1, _⟩ := HA.out.cells (List.mem_cons_of_mem _ (List.mem_singleton.2 rfl))
    go_wp2
    refine bodyPost_ret (results_agg1 rfl _ _ w.heap.size [.int .i64 (L : Nat), .int .i64 ((L + 1) : Nat)] (.struct _) rfl (World.rangeAt_setCells_same wa w.heap.size 0 [.int .i64 (L : Nat), .int .i64 ((L + 1) : Nat)] (HA.out.there (List.mem_cons_of_mem _ (List.mem_singleton.2 rfl)))) Tryz.underlying132 rfl (by kernel_rfl)) rfl ?_
    rw [HR.out, ← HE.out, HNX2.out]
    exact HA.out.done (List.mem_cons_of_mem _ (List.mem_singleton.2 rfl))
   ·have hc1 : ((c : Int) != 124) = true := by simp at h124 ⊢; omega
    clear h124
    obtain ⟨z0, z1, _, _, _⟩ := HA.out.cells (List.mem_cons_self)
    obtain ⟨y0, y1, f0, f1, _⟩ := HA.out.cells (List.mem_cons_of_mem _ (List.mem_singleton.2 rfl))
    go_wp2
    refine bodyPost_ret (results_agg1 rfl _ _ w.heap.size [.int .i64 (L : Nat), .int .i64 ((L + 1) : Nat)] (.struct _) rfl (World.rangeAt_setCells_same wa w.heap.size 0 [.int .i64 (L : Nat), .int .i64 ((L + 1) : Nat)] (HA.out.there (List.mem_cons_of_mem _ (List.mem_singleton.2 rfl)))) Tryz.underlying132 rfl (by kernel_rfl)) rfl ?_
    rw [HR.out, ← HE.out, HNX2.out]
    exact HA.out.done (List.mem_cons_of_mem _ (List.mem_singleton.2 rfl))
theorem all_of (s : ByteArray) (hs : s.size ≤ 100) (n : Nat) : EitherC s n ∧ RowC s n ∧ AtomC s n := by
 induction n using Nat.strongRecOn with
 | ind n ih =>
  rcases n with _ | n
  ·refine ⟨?_, ?_, ?_⟩
   ·intro w g b own d _ _ _ hf; simp [fuelM] at hf
   ·intro w g b own d _ _ _ hf; simp [fuelM] at hf
   ·intro w g b own d _ _ _ hf; simp [fuelM] at hf
  ·exact ⟨either_of s n hs (fun m hm => (ih m (by omega)).2.1), row_of s n hs (fun m hm => (ih m (by omega)).2.2), atom_of s n hs (ih n (Nat.lt_succ_self n)).1⟩
end Go.Proofs.YtgbapkechngnmaaGreat
/- pattern.Read, pattern.Right: contracts. -/
namespace Go.Proofs.YtgbapkechngnmaaGreat
open Go.RowKit
def bs0 : Bs := ⟨0, 0, []⟩
def runR (s : ByteArray) : Bs × (Nat × Nat) := runM s (8 * s.size + 5) .either 0 bs0
def endR (s : ByteArray) : Bs := if (runR s).1.pos < s.size then failM (runR s).1 2 else (runR s).1
def errM (s : ByteArray) : Int := if 100 < s.size then 4 else (endR s).err
structure PatV (w : World) (a : Nat) (s : ByteArray) (sts : List St) (st en : Nat) (sv : Value) (es : List (Value × Value)) : Prop where
 blk : w.heap[a]? = some (.cells #[.string s, sv, .int .i64 st, .int .i64 en] 135 (0, 0))
 len : es.length = sts.length
 row : w.ownsRow 0 159 3 sv sts.length (stC sts es)
 ptr : ∀ (i : Nat) x (e : Value × Value), sts[i]? = some x → es[i]? = some e → PtrAt w (fun _ => True) x e.1
 free : ∀ (i : Nat) x (e : Value × Value), sts[i]? = some x → es[i]? = some e → FreeAt w (fun _ => True) x e.2
def PatAt (w : World) (a : Nat) (s : ByteArray) (sts : List St) (st en : Nat) : Prop := ∃ sv es, PatV w a s sts st en sv es
theorem ownsRow_below {w w' : World} {base : Nat} {e : TypeId} {size : Nat} {v : Value} {n : Nat} {xs : List Value} (h : w.ownsRow base e size v n xs) (hb : Below w.heap.size w w') : w'.ownsRow base e size v n xs :=
 ownsRow_blk h (fun k hk => hb.block k (h.lt k hk).2)
theorem PtrAt.below {w w' : World} {own : Nat → Prop} {x : St} {v : Value} (h : PtrAt w own x v) (hb : Below w.heap.size w w') : PtrAt w' own x v := by
 unfold PtrAt at h ⊢
 split
 ·rename_i e; rw [e] at h; exact h
 ·rename_i f e
  rw [e] at h
  obtain ⟨k, h1, h2, h3⟩ := h
  exact ⟨k, h1, h2.blk (hb.block k h2.lt), h3⟩
theorem PatAt.below {w w' : World} {a : Nat} {s : ByteArray} {sts : List St} {st en : Nat} (h : PatAt w a s sts st en) (hb : Below w.heap.size w w') : PatAt w' a s sts st en := by
 obtain ⟨sv, es, h⟩ := h
 refine ⟨sv, es, (hb.block a (Array.getElem?_eq_some_iff.1 h.blk).1).trans h.blk, h.len, ownsRow_below h.row hb, fun i x e hx he => (h.ptr i x e hx he).below hb, fun i x e hx he => ?_⟩
 obtain ⟨h1, h2⟩ := h.free i x e hx he
 exact ⟨ownsRow_below h1 hb, h2⟩
theorem BldV.pat {w : World} {g : Nat} {s : ByteArray} {b : Bs} {own : Nat → Prop} {sv : Value} {es : List (Value × Value)} (h : BldV w g s b own sv es) (st en : Nat) :
  PatAt (w.alloc (.cells #[.string s, sv, .int .i64 st, .int .i64 en] 135)) w.heap.size s b.sts st en := by
 have hb := alloc_below w (.cells #[.string s, sv, .int .i64 st, .int .i64 en] 135)
 refine ⟨sv, es, heap_alloc_new _ _, h.len, ownsRow_below h.row hb, fun i x e hx he => ((h.ptr i x e hx he).mono (fun _ _ => trivial)).below hb, fun i x e hx he => ?_⟩
 obtain ⟨h1, _⟩ := h.free i x e hx he
 exact ⟨ownsRow_below h1 hb, fun _ _ => trivial⟩
theorem Bld.new (w : World) (s : ByteArray) : Bld (w.alloc (.cells #[.string s, .int .i64 0, .int .i64 0, .slice none 0 0] 130)) w.heap.size s bs0 (fun k => k = w.heap.size) := by
 refine ⟨.slice none 0 0, [], ⟨heap_alloc_new _ _, rfl, fun k hk => by rw [hk, World.size_alloc]; omega, rfl, World.ownsRow_nil _ _ _ _, ?_, ?_, ?_, ?_, ?_, ?_⟩⟩
 ·intro k hk; simp [Value.ownBlock] at hk
 ·intro i x e hx; simp [bs0] at hx
 ·intro i x e hx; simp [bs0] at hx
 ·intro i e k he; simp at he
 ·intro i e k he; simp at he
 ·intro i j e e' k he; simp at he
def ReadPost (s : ByteArray) (w : World) (e : Ending) (w' : World) : Prop :=
 Below w.heap.size w w' ∧ ((errM s ≠ 0 ∧ e = .returned (.tuple #[.pointer none, .int .i64 (errM s)])) ∨
  (errM s = 0 ∧ ∃ a, e = .returned (.tuple #[.pointer (some ⟨a, 0, none⟩), .int .i64 0]) ∧ PatAt w' a s (endR s).sts (runR s).2.1 (runR s).2.2 ∧ w.heap.size ≤ a))
theorem ownsRow_slice {w : World} {base : Nat} {e : TypeId} {size : Nat} {v : Value} {n : Nat} {xs : List Value} (h : w.ownsRow base e size v n xs) : ∃ a m c, v = .slice a m c := by
 rcases h.2 with ⟨rfl, _⟩ | ⟨g, cap, _, rfl, _⟩
 ·exact ⟨_, _, _, rfl⟩
 ·exact ⟨_, _, _, rfl⟩
theorem endR_sts (s : ByteArray) : (endR s).sts = (runR s).1.sts := by unfold endR; split <;> simp [failM_sts]
theorem runR_ok (s : ByteArray) : RunOk s .either 0 bs0 (runR s) :=
 runM_ok s _ .either 0 bs0 (by omega) (by simp [bs0]) (fun h => by cases h) trivial (by simp [fuelM, bs0])
set_option maxHeartbeats 6400000 in
set_option maxRecDepth 100000 in
theorem read_is (s : ByteArray) (w : World) : Calls Tryz.prog 66 #[.string s] w (ReadPost s w) := by
 by_cases hs : 100 < s.size
 ·have he : errM s = 4 := by unfold errM; rw [if_pos hs]
  have HE := Lib.hid he
  have hsi : (100 : Int) < (s.size : Int) := by omega
  clear he
  go_enter Tryz.func66, Tryz.ntmps66
  go_wp2
  go_ret2
  refine ⟨Below.refl _ _, .inl ⟨by rw [HE.out]; decide, by rw [HE.out]; rfl⟩⟩
 ·have hs' : s.size ≤ 100 := by omega
  have he : errM s = (endR s).err := by unfold errM; rw [if_neg hs]
  have HE := Lib.hid he
  have hsi : ¬ (100 : Int) < (s.size : Int) := by omega
  have hb0 := alloc_below w (.cells #[.string s, .int .i64 0, .int .i64 0, .slice none 0 0] 130)
  have hB0 := Bld.new w s
  have ok := runR_ok s
  have k1 := (all_of s hs' (8 * s.size + 5)).1 _ w.heap.size bs0 _ 0 hB0 (by omega) (by simp [bs0]) (by simp [fuelM, bs0]) (by simp [capM, bs0, tot]; omega)
  change Calls _ _ _ _ (PartPost _ _ _ _ (runR s)) at k1
  have HEN : Hid (endR s = if (runR s).1.pos < s.size then failM (runR s).1 2 else (runR s).1) := Lib.hid rfl
  have hpos := ok.top
  obtain ⟨br, p, q, hr⟩ : ∃ br p q, runR s = (br, (p, q)) := ⟨_, _, _, rfl⟩
  have HRR := Lib.hid hr
  rw [hr] at k1 hpos HEN
  dsimp only at hpos HEN
  have HB0 := Lib.hid hb0
  clear he ok hB0 hb0 hs hr
  go_enter Tryz.func66, Tryz.ntmps66
  go_wp2_with fail
  refine k1.mono ?_
  rintro e w1 ⟨rfl, own1, hB1, hst1⟩
  have hbw : Below w.heap.size w w1 := HB0.out.trans (hst1.1.below (by rw [World.size_alloc]; omega) (fun k hk => by rw [hk]; exact Nat.le_refl _))
  have hgl : ∀ k, own1 k → w.heap.size ≤ k := fun k hk => by
   rcases hst1.2 k hk with h | h
   ·rw [h]; exact Nat.le_refl _
   ·rw [World.size_alloc] at h; omega
  clear k1 hst1
  go_upto_region 5 with fail
  obtain ⟨pb, hpb⟩ : ∃ pb, w1.heap.size = pb := ⟨_, rfl⟩
  refine wp_forget (fun W => Bld W w.heap.size s br own1 ∧ PBx W pb (.int .i64 p) (.int .i64 q) ∧ ¬ own1 pb ∧ Below w.heap.size w W) ?_ (fun w2 q2 => ?_)
  ·have hba := alloc_below w1 (.cells #[.int .i64 p, .int .i64 q] 132)
   refine ⟨hB1.below hba, ?_, ?_, hbw.trans (hba.mono hbw.size)⟩
   ·rw [← hpb]; exact heap_alloc_new _ _
   ·rw [← hpb]; exact fun h0 => by have := hB1.lt _ h0; omega
  rw [hpb]
  have Q2 := Lib.hid q2
  have HGL := Lib.hid hgl
  clear q2 hbw hB1 hpb hgl
  obtain ⟨_, c1, _, _⟩ := Q2.out.1.fields
  have hfin : ∀ (W : World) (b2 : Bs), endR s = b2 → Bld W w.heap.size s b2 own1 → PBx W pb (.int .i64 p) (.int .i64 q) → Below w.heap.size w W → Hid (Bld W w.heap.size s b2 own1 ∧ PBx W pb (.int .i64 p) (.int .i64 q) ∧ Below w.heap.size w W ∧ endR s = b2) := fun W b2 h1 h2 h3 h4 => Lib.hid ⟨h2, h3, h4, h1⟩
  by_cases hlt : br.pos < s.size
  ·have HE2 : Hid (endR s = failM br 2) := Lib.hid (HEN.out.trans (if_pos hlt))
   have hlti : (br.pos : Int) < (s.size : Int) := by omega
   have kf := fail_is w2 w.heap.size s br own1 2 Q2.out.1
   clear hlt HEN
   go_wp2_with fail
   refine kf.mono ?_
   rintro e w3 ⟨rfl, hB3, hs3⟩
   have H3 := hfin w3 _ HE2.out hB3 (hs3.blk Q2.out.2.1 Q2.out.2.2.1) (Q2.out.2.2.2.trans (hs3.1.below Q2.out.2.2.2.size HGL.out))
   generalize failM br 2 = b2 at *
   clear kf hB3 hs3 c1 Q2 HE2 hfin
   obtain ⟨_, _, c2, _⟩ := H3.out.1.fields
   by_cases he : b2.err = 0
   ·have hee : (b2.err != 0) = false := by rw [he]; rfl
    obtain ⟨pos, err, sts⟩ := b2
    dsimp only at he
    subst he
    obtain ⟨sv, es, hV⟩ := H3.out.1
    obtain ⟨sa, sn, sc, rfl⟩ := ownsRow_slice hV.row
    have HV := Lib.hid hV
    obtain ⟨_, _, _, c3, _⟩ := hV.cells
    have c4 := H3.out.2.1.c0
    have c5 := H3.out.2.1.c1
    have HER : Hid (errM s = 0) := Lib.hid (by rw [HE.out, H3.out.2.2.2])
    have hsts : Hid ((endR s).sts = sts) := Lib.hid (by rw [H3.out.2.2.2])
    clear hV
    go_upto_region 9 with fail
    have hlg : w.heap.size < w3.heap.size := HV.out.lt _ HV.out.og
    have hlp := H3.out.2.1.lt
    have hVd : BldV w3.drew w.heap.size s ⟨pos, 0, sts⟩ own1 (.slice sa sn sc) es := HV.out.kept (Nat.le_refl _) (fun _ _ => rfl)
    have HPT := Lib.hid (hVd.pat p q)
    have hba := alloc_below w3.drew (.cells #[.string s, .slice sa sn sc, .int .i64 p, .int .i64 q] 135)
    have HBA : Hid (Below w.heap.size w (w3.drew.alloc (.cells #[.string s, .slice sa sn sc, .int .i64 p, .int .i64 q] 135))) := Lib.hid ((H3.out.2.2.1.drew).trans (hba.mono H3.out.2.2.1.size))
    have HSZ : Hid (w.heap.size ≤ w3.drew.heap.size) := Lib.hid H3.out.2.2.1.size
    refine wp_region_held_drew (S := (fun W => W.cell? ⟨w.heap.size, 3, none⟩ = some (.slice sa sn sc) ∧ W.cell? ⟨pb, 0, none⟩ = some (.int .i64 p) ∧ W.cell? ⟨pb, 1, none⟩ = some (.int .i64 q))) (by kernel_rfl) ⟨c3, c4, c5⟩ (fun hHeld => ?_)
    have c3 : w3.drew.cell? ⟨w.heap.size, 3, none⟩ = some (.slice sa sn sc) := c3
    have c4 : w3.drew.cell? ⟨pb, 0, none⟩ = some (.int .i64 p) := c4
    have c5 : w3.drew.cell? ⟨pb, 1, none⟩ = some (.int .i64 q) := c5
    have hlg : w.heap.size < w3.drew.heap.size := hlg
    have hlp : pb < w3.drew.heap.size := hlp
    clear hVd
    generalize w3.drew = wd at *
    refine plIn [0, 1, 2, 3, 4, 5, 6, 7, 8, 9] ?_
    iterate 10
     refine hP (v := ?_) rfl rfl hHeld ?_ ?_
     rotate_left
     ·rintro wh ⟨z0, z1, z2⟩
      go_simp
      (try with_reducible rfl)
     simp only [Act.put, List.setIfInBounds_toArray, List.set_cons_zero, List.set_cons_succ]
    refine plOut ?_
    refine held_step (i := 10) rfl (by kernel_rfl) (fun K hK => ?_)
    go_simp
    refine hK.out _ _ ⟨keep_cell c3 hba hlg, keep_cell c4 hba hlp, keep_cell c5 hba hlp⟩ (fun hHeld => ?_)
    clear hK K
    (try simp only [Act.put, List.setIfInBounds_toArray])
    refine plIn [11, 12] ?_
    iterate 2
     refine hP (v := ?_) rfl rfl hHeld ?_ ?_
     rotate_left
     ·rintro wh ⟨z0, z1, z2⟩
      go_simp
      (try with_reducible rfl)
     simp only [Act.put, List.setIfInBounds_toArray, List.set_cons_zero, List.set_cons_succ]
    refine plOut ?_
    refine wpAnyH_done (by kernel_rfl) ?_ _
    go_wp2
    go_ret2
    refine ⟨HBA.out, .inr ⟨HER.out, wd.heap.size, rfl, ?_, HSZ.out⟩⟩
    rw [hsts.out, HRR.out]
    exact HPT.out
   ·have hee : (b2.err != 0) = true := by simpa using he
    have heb : (b2.err == 0) = false := by simpa using he
    have HER : Hid (errM s = b2.err) := Lib.hid (by rw [HE.out, H3.out.2.2.2])
    have HNE := Lib.hid he
    clear he
    go_upto_region 8 with fail
    go_quiet (fail)
    go_wp2
    go_ret2
    refine ⟨H3.out.2.2.1.trans (bl_drewN (Below.refl _ _) _), .inl ⟨by rw [HER.out]; exact HNE.out, by rw [HER.out]; rfl⟩⟩
  ·have HE2 : Hid (endR s = br) := Lib.hid (HEN.out.trans (if_neg hlt))
   have hlti : ¬ (br.pos : Int) < (s.size : Int) := by omega
   have H3 := hfin w2 _ HE2.out Q2.out.1 Q2.out.2.1 Q2.out.2.2.2
   clear hlt HEN Q2 HE2 hfin
   obtain ⟨_, _, c2, _⟩ := H3.out.1.fields
   by_cases he : br.err = 0
   ·have hee : (br.err != 0) = false := by rw [he]; rfl
    obtain ⟨pos, err, sts⟩ := br
    dsimp only at he
    subst he
    obtain ⟨sv, es, hV⟩ := H3.out.1
    obtain ⟨sa, sn, sc, rfl⟩ := ownsRow_slice hV.row
    have HV := Lib.hid hV
    obtain ⟨_, _, _, c3, _⟩ := hV.cells
    have c4 := H3.out.2.1.c0
    have c5 := H3.out.2.1.c1
    have HER : Hid (errM s = 0) := Lib.hid (by rw [HE.out, H3.out.2.2.2])
    have hsts : Hid ((endR s).sts = sts) := Lib.hid (by rw [H3.out.2.2.2])
    clear hV
    go_upto_region 9 with fail
    have hlg : w.heap.size < w2.heap.size := HV.out.lt _ HV.out.og
    have hlp := H3.out.2.1.lt
    have hVd : BldV w2.drew w.heap.size s ⟨pos, 0, sts⟩ own1 (.slice sa sn sc) es := HV.out.kept (Nat.le_refl _) (fun _ _ => rfl)
    have HPT := Lib.hid (hVd.pat p q)
    have hba := alloc_below w2.drew (.cells #[.string s, .slice sa sn sc, .int .i64 p, .int .i64 q] 135)
    have HBA : Hid (Below w.heap.size w (w2.drew.alloc (.cells #[.string s, .slice sa sn sc, .int .i64 p, .int .i64 q] 135))) := Lib.hid ((H3.out.2.2.1.drew).trans (hba.mono H3.out.2.2.1.size))
    have HSZ : Hid (w.heap.size ≤ w2.drew.heap.size) := Lib.hid H3.out.2.2.1.size
    refine wp_region_held_drew (S := (fun W => W.cell? ⟨w.heap.size, 3, none⟩ = some (.slice sa sn sc) ∧ W.cell? ⟨pb, 0, none⟩ = some (.int .i64 p) ∧ W.cell? ⟨pb, 1, none⟩ = some (.int .i64 q))) (by kernel_rfl) ⟨c3, c4, c5⟩ (fun hHeld => ?_)
    have c3 : w2.drew.cell? ⟨w.heap.size, 3, none⟩ = some (.slice sa sn sc) := c3
    have c4 : w2.drew.cell? ⟨pb, 0, none⟩ = some (.int .i64 p) := c4
    have c5 : w2.drew.cell? ⟨pb, 1, none⟩ = some (.int .i64 q) := c5
    have hlg : w.heap.size < w2.drew.heap.size := hlg
    have hlp : pb < w2.drew.heap.size := hlp
    clear hVd
    generalize w2.drew = wd at *
    refine plIn [0, 1, 2, 3, 4, 5, 6, 7, 8, 9] ?_
    iterate 10
     refine hP (v := ?_) rfl rfl hHeld ?_ ?_
     rotate_left
     ·rintro wh ⟨z0, z1, z2⟩
      go_simp
      (try with_reducible rfl)
     simp only [Act.put, List.setIfInBounds_toArray, List.set_cons_zero, List.set_cons_succ]
    refine plOut ?_
    refine held_step (i := 10) rfl (by kernel_rfl) (fun K hK => ?_)
    go_simp
    refine hK.out _ _ ⟨keep_cell c3 hba hlg, keep_cell c4 hba hlp, keep_cell c5 hba hlp⟩ (fun hHeld => ?_)
    clear hK K
    (try simp only [Act.put, List.setIfInBounds_toArray])
    refine plIn [11, 12] ?_
    iterate 2
     refine hP (v := ?_) rfl rfl hHeld ?_ ?_
     rotate_left
     ·rintro wh ⟨z0, z1, z2⟩
      go_simp
      (try with_reducible rfl)
     simp only [Act.put, List.setIfInBounds_toArray, List.set_cons_zero, List.set_cons_succ]
    refine plOut ?_
    refine wpAnyH_done (by kernel_rfl) ?_ _
    go_wp2
    go_ret2
    refine ⟨HBA.out, .inr ⟨HER.out, wd.heap.size, rfl, ?_, HSZ.out⟩⟩
    rw [hsts.out, HRR.out]
    exact HPT.out
   ·have hee : (br.err != 0) = true := by simpa using he
    have heb : (br.err == 0) = false := by simpa using he
    have HER : Hid (errM s = br.err) := Lib.hid (by rw [HE.out, H3.out.2.2.2])
    have HNE := Lib.hid he
    clear he
    go_upto_region 8 with fail
    go_quiet (fail)
    go_wp2
    go_ret2
    refine ⟨H3.out.2.2.1.trans (bl_drewN (Below.refl _ _) _), .inl ⟨by rw [HER.out]; exact HNE.out, by rw [HER.out]; rfl⟩⟩
theorem right_is (s : ByteArray) (w : World) : Calls Tryz.prog 54 #[.string s] w fun e w' => e = .returned (.int .i64 (errM s)) ∧ Below w.heap.size w w' := by
 have k1 := read_is s w
 go_enter Tryz.func54, Tryz.ntmps54
 go_wp2_with fail
 refine k1.mono ?_
 rintro e w1 ⟨hb, ⟨h0, rfl⟩ | ⟨h0, a, rfl, _⟩⟩
 ·clear k1
  go_wp2
  go_ret
  exact ⟨rfl, hb⟩
 ·have H0 := Lib.hid h0
  clear k1 h0
  go_wp2
  go_ret
  exact ⟨by rw [H0.out]; rfl, hb⟩
end Go.Proofs.YtgbapkechngnmaaGreat
/- Going on without a byte, said plainly; the builder's states are well made. No program in sight. -/
namespace Go.Proofs.YtgbapkechngnmaaGreat
def frees (sts : List St) (k : Nat) : List Nat := match sts[k]? with
 | some x => x.free
 | none => []
inductive FR (sts : List St) : Nat → Nat → Prop
 | refl (k : Nat) : FR sts k k
 | step {j k f : Nat} : FR sts j k → f ∈ frees sts k → FR sts j f
def Cl (sts : List St) (l : List Nat) (k : Nat) : Prop := ∃ j ∈ l, FR sts j k
def SWf (sts : List St) : Prop := ∀ x ∈ sts, (∀ f ∈ x.free, f < sts.length) ∧ x.next < sts.length
theorem frees_lt {sts : List St} (h : SWf sts) {k f : Nat} (hf : f ∈ frees sts k) : f < sts.length := by
 unfold frees at hf
 split at hf
 ·rename_i x hx
  exact (h x (List.mem_of_getElem? hx)).1 f hf
 ·cases hf
theorem FR_lt {sts : List St} (h : SWf sts) {j k : Nat} (hr : FR sts j k) (hj : j < sts.length) : k < sts.length := by
 induction hr with
 | refl => exact hj
 | step _ hf _ => exact frees_lt h hf
theorem frees_len (sts : List St) (k : Nat) : (frees sts k).length ≤ tot sts := by
 unfold frees
 split
 ·rename_i x hx
  exact free_tot sts x (List.mem_of_getElem? hx)
 ·simp
structure ReInv (sts : List St) (l out todo : List Nat) : Prop where
 nd : out.Nodup
 so : ∀ k ∈ out, Cl sts l k
 st : ∀ k ∈ todo, Cl sts l k
 c1 : ∀ j ∈ l, j ∈ out ∨ j ∈ todo
 c2 : ∀ k ∈ out, ∀ f ∈ frees sts k, f ∈ out ∨ f ∈ todo
 bo : ∀ k ∈ out, k < sts.length
 bt : ∀ k ∈ todo, k < sts.length
theorem ReInv.start (sts : List St) (l : List Nat) (hl : ∀ j ∈ l, j < sts.length) : ReInv sts l [] l :=
 ⟨List.nodup_nil, (fun _ h => by cases h), fun k h => ⟨k, h, .refl k⟩, fun _ h => .inr h, (fun _ h => by cases h), (fun _ h => by cases h), hl⟩
theorem ReInv.done {sts : List St} {l out : List Nat} (h : ReInv sts l out []) (k : Nat) : k ∈ out ↔ Cl sts l k := by
 refine ⟨h.so k, ?_⟩
 rintro ⟨j, hj, hr⟩
 induction hr with
 | refl => rcases h.c1 j hj with h1 | h1; (· exact h1); (· cases h1)
 | step _ hf ih => rcases h.c2 _ ih _ hf with h1 | h1; (· exact h1); (· cases h1)
theorem ReInv.seen {sts : List St} {l out t : List Nat} {k : Nat} (h : ReInv sts l out (t ++ [k])) (hk : k ∈ out) : ReInv sts l out t := by
 have key : ∀ x, x ∈ t ++ [k] → x ∈ out ∨ x ∈ t := fun x hx => by
  rcases List.mem_append.1 hx with h1 | h1
  ·exact .inr h1
  ·rw [List.mem_singleton.1 h1]; exact .inl hk
 refine ⟨h.nd, h.so, fun x hx => h.st x (List.mem_append_left _ hx), fun j hj => ?_, fun x hx f hf => ?_, h.bo, fun x hx => h.bt x (List.mem_append_left _ hx)⟩
 ·rcases h.c1 j hj with h1 | h1
  ·exact .inl h1
  ·exact key j h1
 ·rcases h.c2 x hx f hf with h1 | h1
  ·exact .inl h1
  ·exact key f h1
theorem ReInv.new {sts : List St} {l out t : List Nat} {k : Nat} (hw : SWf sts) (h : ReInv sts l out (t ++ [k])) (hk : k ∉ out) : ReInv sts l (out ++ [k]) (t ++ frees sts k) := by
 have hkt : k ∈ t ++ [k] := List.mem_append_right _ (List.mem_singleton.2 rfl)
 have key : ∀ x, x ∈ t ++ [k] → x ∈ out ++ [k] ∨ x ∈ t ++ frees sts k := fun x hx => by
  rcases List.mem_append.1 hx with h1 | h1
  ·exact .inr (List.mem_append_left _ h1)
  ·exact .inl (List.mem_append_right _ h1)
 refine ⟨?_, ?_, ?_, ?_, ?_, ?_, ?_⟩
 ·refine List.nodup_append.2 ⟨h.nd, by simp, fun a ha b hb => ?_⟩
  rw [List.mem_singleton.1 hb]
  exact fun e => hk (e ▸ ha)
 ·intro x hx
  rcases List.mem_append.1 hx with h1 | h1
  ·exact h.so x h1
  ·rw [List.mem_singleton.1 h1]; exact h.st k hkt
 ·intro x hx
  rcases List.mem_append.1 hx with h1 | h1
  ·exact h.st x (List.mem_append_left _ h1)
  ·obtain ⟨j, hj, hr⟩ := h.st k hkt
   exact ⟨j, hj, .step hr h1⟩
 ·intro j hj
  rcases h.c1 j hj with h1 | h1
  ·exact .inl (List.mem_append_left _ h1)
  ·exact key j h1
 ·intro x hx f hf
  rcases List.mem_append.1 hx with h1 | h1
  ·rcases h.c2 x h1 f hf with h2 | h2
   ·exact .inl (List.mem_append_left _ h2)
   ·exact key f h2
  ·rw [List.mem_singleton.1 h1] at hf
   exact .inr (List.mem_append_right _ hf)
 ·intro x hx
  rcases List.mem_append.1 hx with h1 | h1
  ·exact h.bo x h1
  ·rw [List.mem_singleton.1 h1]; exact h.bt k hkt
 ·intro x hx
  rcases List.mem_append.1 hx with h1 | h1
  ·exact h.bt x (List.mem_append_left _ h1)
  ·exact frees_lt hw h1
theorem nodup_lt : ∀ {n : Nat} {l : List Nat}, l.Nodup → (∀ k ∈ l, k < n) → l.length ≤ n
 | 0, [], _, _ => Nat.le_refl _
 | 0, k :: _, _, h => absurd (h k List.mem_cons_self) (Nat.not_lt_zero k)
 | n + 1, l, hd, hb => by
  have h1 := nodup_lt (n := n) (l := l.erase n) (hd.erase n) (fun k hk => by
   obtain ⟨h2, h3⟩ := (hd.mem_erase_iff).1 hk
   have := hb k h3
   omega)
  by_cases hm : n ∈ l
  ·rw [List.length_erase_of_mem hm] at h1; omega
  ·rw [List.erase_of_not_mem hm] at h1; omega
/-! the builder's states are well made -/
theorem swf_grow {l : List St} (h : SWf l) (y : St) (hy : ∀ f ∈ y.free, f < l.length + 1) (hn : y.next < l.length + 1) : SWf (l ++ [y]) := by
 intro x hx
 rw [List.length_append]
 rcases List.mem_append.1 hx with h1 | h1
 ·exact ⟨fun f hf => Nat.lt_of_lt_of_le ((h x h1).1 f hf) (by simp), Nat.lt_of_lt_of_le (h x h1).2 (by simp)⟩
 ·rw [List.mem_singleton.1 h1]; exact ⟨hy, hn⟩
theorem swf_node {b : Bs} (h : SWf b.sts) : SWf (nodeM b).sts := swf_grow h _ (fun _ h => by cases h) (by dsimp only; omega)
theorem swf_one {b : Bs} {S : Nat → Bool} (h : SWf b.sts) : SWf (oneM b S).1.sts := by
 intro x hx
 simp only [oneM] at hx ⊢
 rw [List.length_append]
 rcases List.mem_append.1 hx with h1 | h1
 ·exact ⟨fun f hf => Nat.lt_of_lt_of_le ((h x h1).1 f hf) (by simp), Nat.lt_of_lt_of_le (h x h1).2 (by simp)⟩
 ·simp at h1
  rcases h1 with rfl | rfl
  ·exact ⟨(fun _ h => by cases h), by simp⟩
  ·exact ⟨(fun _ h => by cases h), by simp⟩
theorem mem_addF {x : St} {t : Nat} : ∀ {l : List St} {f : Nat}, x ∈ addF l f t → ∃ y ∈ l, x.next = y.next ∧ ∀ k ∈ x.free, k ∈ y.free ∨ k = t
 | [], _, h => by cases h
 | y :: l, 0, h => by
  rcases List.mem_cons.1 h with rfl | h
  ·exact ⟨y, List.mem_cons_self, rfl, fun k hk => by simpa using hk⟩
  ·exact ⟨x, List.mem_cons_of_mem _ h, rfl, fun k hk => .inl hk⟩
 | y :: l, f + 1, h => by
  rcases List.mem_cons.1 h with rfl | h
  ·exact ⟨x, List.mem_cons_self, rfl, fun k hk => .inl hk⟩
  ·obtain ⟨z, hz, h1, h2⟩ := mem_addF h
   exact ⟨z, List.mem_cons_of_mem _ hz, h1, h2⟩
theorem swf_free {b : Bs} {f t : Nat} (h : SWf b.sts) (ht : t < b.sts.length) : SWf (freeM b f t).sts := by
 intro x hx
 simp only [freeM] at hx ⊢
 rw [addF_len]
 obtain ⟨y, hy, h1, h2⟩ := mem_addF hx
 refine ⟨fun k hk => ?_, by rw [h1]; exact (h y hy).2⟩
 rcases h2 k hk with h3 | rfl
 ·exact (h y hy).1 k h3
 ·exact ht
theorem swf_times {s : ByteArray} {b : Bs} {x : Nat × Nat} (h : SWf b.sts) (hx : x.1 < b.sts.length) : SWf (timesM s b x).1.sts := by
 unfold timesM
 split
 ·exact h
 ·split
  ·have h2 : SWf (nodeM (nodeM (stepM b))).sts := swf_node (swf_node (b := stepM b) h)
   have hl : (nodeM (nodeM (stepM b))).sts.length = b.sts.length + 2 := by simp [nodeM, stepM]
   have e : ∀ b f t, (freeM b f t).sts.length = b.sts.length := fun b f t => by simp [freeM, addF_len]
   dsimp only
   have h3 : SWf (freeM (freeM (nodeM (nodeM (stepM b))) b.sts.length x.1) x.2 (b.sts.length + 1)).sts := swf_free (swf_free h2 (by omega)) (by rw [e]; omega)
   have l3 : (freeM (freeM (nodeM (nodeM (stepM b))) b.sts.length x.1) x.2 (b.sts.length + 1)).sts.length = b.sts.length + 2 := by rw [e, e, hl]
   split
   ·split
    ·exact h3
    ·exact swf_free h3 (by omega)
   ·split
    ·exact swf_free h3 (by omega)
    ·exact swf_free (swf_free h3 (by omega)) (by rw [e]; omega)
  ·exact h
theorem runM_wf (s : ByteArray) (n : Nat) : ∀ (md : Md) (d : Nat) (b : Bs), d ≤ 8 → b.pos ≤ s.size + 12 - d → (md = .atom → b.pos < s.size) → partOk md b → fuelM s b md ≤ n → SWf b.sts → SWf (runM s n md d b).1.sts := by
 induction n with
 | zero => intro md d b _ _ _ _ hn; cases md <;> simp [fuelM] at hn
 | succ n ih =>
  intro md d b hd hp ha hk hn hw
  cases md with
  | either =>
   simp only [fuelM] at hn
   rw [runM]
   exact ih _ d _ hd hp (fun h => by cases h) ⟨by simp [nodeM], by simp [nodeM]⟩ (by simp only [fuelM, nodeM]; omega) (swf_node (swf_node hw))
  | alts p =>
   simp only [fuelM] at hn
   obtain ⟨hp1, hp2⟩ := hk
   have ok := runM_ok s n .row d b hd hp (fun h => by cases h) trivial (by simp only [fuelM]; omega)
   have h1 := ih .row d b hd hp (fun h => by cases h) trivial (by simp only [fuelM]; omega) hw
   obtain ⟨g1, q1, q2, q3, _⟩ := ok
   have e : ∀ b f t, (freeM b f t).sts.length = b.sts.length := fun b f t => by simp [freeM, addF_len]
   have hgl := g1.len
   have hgp := g1.pos
   have h2 : SWf (freeM (freeM (runM s n .row d b).1 p.1 (runM s n .row d b).2.1) (runM s n .row d b).2.2 p.2).sts := swf_free (swf_free h1 q1) (by rw [e]; omega)
   have hl2 : (freeM (freeM (runM s n .row d b).1 p.1 (runM s n .row d b).2.1) (runM s n .row d b).2.2 p.2).sts.length = (runM s n .row d b).1.sts.length := by rw [e, e]
   have hpp : (freeM (freeM (runM s n .row d b).1 p.1 (runM s n .row d b).2.1) (runM s n .row d b).2.2 p.2).pos = (runM s n .row d b).1.pos := rfl
   rw [runM]
   split
   ·rename_i hpk
    have hps := (peekM_some hpk).2.1
    exact ih (.alts p) d _ hd (by simp only [stepM]; omega) (fun h => by cases h) ⟨by simp only [stepM]; omega, by simp only [stepM]; omega⟩ (by simp only [fuelM, stepM]; omega) h2
   ·exact h2
  | row =>
   simp only [fuelM] at hn
   rw [runM]
   exact ih _ d _ hd hp (fun h => by cases h) ⟨by simp [nodeM], by simp [nodeM]⟩ (by simp only [fuelM, nodeM]; omega) (swf_node hw)
  | parts p =>
   simp only [fuelM] at hn
   obtain ⟨hp1, hp2⟩ := hk
   rw [runM]
   split
   ·exact hw
   ·rename_i c hc
    split
    ·exact hw
    ·dsimp only
     have hps := (peekM_some hc).2.1
     have ok := runM_ok s n .atom d b hd hp (fun _ => hps) trivial (by simp only [fuelM]; omega)
     have h1 := ih .atom d b hd hp (fun _ => hps) trivial (by simp only [fuelM]; omega) hw
     obtain ⟨g1, q1, q2, q3, q4⟩ := ok
     obtain ⟨q5, q6⟩ := q4 rfl
     have gt := gd_times s (runM s n .atom d b).1 (runM s n .atom d b).2
     have pt := times_part s (runM s n .atom d b).1 (runM s n .atom d b).2 ⟨q1, q2⟩
     have h2 := swf_times (s := s) h1 q1
     have tp : (timesM s (runM s n .atom d b).1 (runM s n .atom d b).2).1.pos ≤ s.size + 12 - d := by
      unfold timesM
      split
      ·exact q3
      ·rename_i c' hc'
       have := (peekM_some hc').2.1
       split
       ·have e : ∀ b f t, (freeM b f t).pos = b.pos := fun _ _ _ => rfl
        dsimp only
        split <;> split <;> simp only [e, nodeM, stepM] <;> omega
       ·exact q3
     generalize hr : runM s n .atom d b = r at *
     generalize ht : timesM s r.1 r.2 = t at *
     have hfl : (freeM t.1 p.2 t.2.1).sts.length = t.1.sts.length := by simp [freeM, addF_len]
     have hgl := gt.len
     have hgp := gt.pos
     have h1l := g1.len
     exact ih (.parts (p.1, t.2.2)) d (freeM t.1 p.2 t.2.1) hd tp (fun h => by cases h) ⟨by rw [hfl]; show p.1 < _; omega, by rw [hfl]; exact pt.2⟩ (by simp only [fuelM, freeM]; omega) (swf_free h2 pt.1)
  | atom =>
   simp only [fuelM] at hn
   have hps := ha rfl
   rw [runM]
   split
   ·split
    ·exact swf_one (by rw [failM_sts]; exact hw)
    ·rw [closeM_sts]
     exact ih .either (d + 1) (stepM b) (by omega) (by simp only [stepM]; omega) (fun h => by cases h) trivial (by simp only [fuelM, stepM]; omega) hw
   ·split
    ·exact swf_one (by rw [classM_len]; exact hw)
    ·split
     ·exact swf_one hw
     ·split
      ·split
       ·exact swf_one (by show SWf (failM (stepM b) 2).sts; rw [failM_sts]; exact hw)
       ·exact swf_one hw
      ·split
       ·exact swf_one (by rw [failM_sts]; exact hw)
       ·exact swf_one hw
end Go.Proofs.YtgbapkechngnmaaGreat
/- pattern's reach: a contract. -/
namespace Go.Proofs.YtgbapkechngnmaaGreat
open Go.RowKit Go.Sort Go.Maps
/-! slices of ints: what a sort leaves -/
theorem sortI_own (g cap : Nat) (zs : List Int) (w : World) {cur : Array Value} {e0 : TypeId} (hg : w.heap[g]? = some (.cells cur e0 (0, 0))) (hH : Holds (Value.int .i64) w g 0 zs.toArray) (hsz : zs.length ≤ 1000000) :
  Calls Tryz.prog 110 #[.slice (some ⟨g, 0, none⟩) zs.length cap] w fun e w' =>
   e = .returned (.tuple #[]) ∧ w'.heap[g]? = some (.cells (putCells (Value.int .i64) 0 (zs.mergeSort fun x y => decide (x ≤ y)).toArray cur) e0 (0, 0)) ∧ Below g w w' := by
 have hlt : g < w.heap.size := (Array.getElem?_eq_some_iff.1 hg).1
 refine (Tryz.slices_Sort_int g 0 cap zs w hH hlt (by omega)).mono ?_
 rintro e w' ⟨rfl, n, os, rfl⟩
 refine ⟨rfl, ?_, rfl, rfl, rfl, by simp, fun k hk => ?_⟩
 ·rw [heap_grow_old _ _ (by simpa using hlt)]
  simp [putRow, mapBlock, Sort.ahead, Array.getElem?_modify, hg, onCells]
 ·rw [heap_grow_old _ _ (by simp; omega)]
  have : g ≠ k := by omega
  simp [putRow, mapBlock, Sort.ahead, Array.getElem?_modify, this]
theorem holdsI_own {w : World} {g : Nat} {cur : Array Value} {e : TypeId} {ids : List Int} (hb : w.heap[g]? = some (.cells cur e (0, 0))) (ht : cur.toList.take ids.length = ids.map (Value.int .i64)) : Holds (Value.int .i64) w g 0 ids.toArray := by
 intro j hj
 have hj' : j < ids.length := by simpa using hj
 refine ⟨?_, by simp [World.frozen?, hb]⟩
 have h1 : (cur.toList.take ids.length)[j]? = (ids.map (Value.int .i64))[j]? := by rw [ht]
 rw [List.getElem?_take_of_lt hj'] at h1
 simp only [World.cell?, hb, Nat.zero_add]
 simp only [Option.isSome_none, Bool.false_eq_true, if_false]
 rw [← Array.getElem?_toList, h1]
 simp [hj']
theorem putI_take (cur : Array Value) (ts : List Int) (h : ts.length ≤ cur.size) : (putCells (Value.int .i64) 0 ts.toArray cur).toList.take ts.length = ts.map (Value.int .i64) := by
 apply List.ext_getElem?
 intro j
 by_cases hj : j < ts.length
 ·rw [List.getElem?_take_of_lt hj, Array.getElem?_toList, List.getElem?_map]
  simp [putCells, hj, show j < cur.size by omega]
 ·rw [List.getElem?_take_eq_none (by omega), List.getElem?_eq_none (by simp; omega)]
def intsN (l : List Nat) : List Int := l.map fun (n : Nat) => (n : Int)
theorem freeC_ints (l : List Nat) : freeC l = (intsN l).map (Value.int .i64) := by simp [freeC, intsN]
def sortN (l : List Nat) : List Nat := l.mergeSort fun x y => decide (x ≤ y)
theorem intsN_sort (l : List Nat) : (intsN l).mergeSort (fun x y => decide (x ≤ y)) = intsN (sortN l) := by
 refine List.Perm.eq_of_pairwise (le := fun x y : Int => x ≤ y) (fun a b _ _ h1 h2 => Int.le_antisymm h1 h2) ?_ ?_ ?_
 ·have h := List.pairwise_mergeSort (le := fun (x y : Int) => decide (x ≤ y)) (fun a b c h1 h2 => by simp at h1 h2 ⊢; omega) (fun a b => by simp; omega) (intsN l)
  exact h.imp (fun h => by simpa using h)
 ·have h := List.pairwise_mergeSort (le := fun (x y : Nat) => decide (x ≤ y)) (fun a b c h1 h2 => by simp at h1 h2 ⊢; omega) (fun a b => by simp; omega) l
  unfold intsN sortN
  rw [List.pairwise_map]
  exact h.imp (fun h => by simp at h ⊢; omega)
 ·exact (List.mergeSort_perm _ _).trans ((List.mergeSort_perm l _).map _).symm
theorem mem_sortN {l : List Nat} {k : Nat} : k ∈ sortN l ↔ k ∈ l := (List.mergeSort_perm l _).mem_iff
theorem len_sortN (l : List Nat) : (sortN l).length = l.length := (List.mergeSort_perm l _).length_eq
def RisingN (l : List Nat) : Prop := l.Pairwise (· < ·)
theorem rising_sort {l : List Nat} (h : l.Nodup) : RisingN (sortN l) := by
 have h1 := List.pairwise_mergeSort (le := fun (x y : Nat) => decide (x ≤ y)) (fun a b c h1 h2 => by simp at h1 h2 ⊢; omega) (fun a b => by simp; omega) l
 have h2 : (sortN l).Nodup := (List.mergeSort_perm l _).nodup_iff.2 h
 exact (h1.and h2).imp (fun h => by simp at h; omega)
/-! a set of numbers, as a map of bools -/
def SeenAt (w : World) (b n : Nat) (S : Nat → Bool) : Prop := ∃ D : DataW Unit, w.ownsMap Tryz.prog 3 (plainElem Tryz.prog 4) b n D ∧ IsMap D ∧ ∀ k : Nat, D.atKey (.int .i64 k) (.lit (.bool false)) = .lit (.bool (S k))
theorem lawI : Keyed Tryz.prog 3 := int_keyed Tryz.underlying3
theorem keyI (k : Nat) (h : k ≤ 1000000) : keyOf Tryz.prog 3 (.int .i64 (k : Int)) = some (.int .i64 (k : Int)) := keyOf_int_mk Tryz.underlying3 (by simp [Lit.wf, IntKind.min, IntKind.max, IntKind.signed, IntKind.bits]; omega)
theorem SeenAt.made (w : World) : SeenAt (w.alloc (.map #[] 0)) w.heap.size 0 (fun _ => false) := ⟨.map [], World.ownsMap_made _ _ _ _, isMap_empty, fun _ => rfl⟩
theorem SeenAt.lt {w : World} {b n : Nat} {S : Nat → Bool} (h : SeenAt w b n S) : b < w.heap.size := by
 obtain ⟨D, h, _⟩ := h
 exact h.lt
theorem SeenAt.kept {w w' : World} {b n : Nat} {S : Nat → Bool} {row : Option Nat} (h : SeenAt w b n S) (hg : w.grownBy w' row) (hne : some b ≠ row) : SeenAt w' b n S := by
 obtain ⟨D, h1, h2⟩ := h
 exact ⟨D, h1.kept hg hne, h2⟩
set_option maxRecDepth 100000 in
theorem SeenAt.look {w : World} {b n : Nat} {S : Nat → Bool} (h : SeenAt w b n S) (k : Nat) (hk : k ≤ 1000000) : (Instr.lookup 156 (.map (some b)) (.int .i64 (k : Int)) false).run Tryz.prog w = .ok (.bool (S k)) w := by
 obtain ⟨D, h1, _, h3⟩ := h
 obtain ⟨v, ps, hr, hv⟩ := h1.lookup lawI Tryz.underlying156 (Tryz.zeroValue4 w) (zd := .lit (.bool false)) (zp := []) (plainElem_bool Tryz.underlying4 false) (keyI k hk)
 rw [h3 k] at hv
 have : v = .bool (S k) := by
  unfold plainElem at hv
  rw [Tryz.underlying4] at hv
  split at hv
  ·rename_i h1 h2; simp at hv; rw [hv.1]
  all_goals (first | cases hv | simp_all)
 rw [hr, this]
theorem SeenAt.put {w' : World} {b n : Nat} {D : DataW Unit} {S : Nat → Bool} (hD : IsMap D) (hS : ∀ k : Nat, D.atKey (.int .i64 k) (.lit (.bool false)) = .lit (.bool (S k))) (k : Nat) (h : w'.ownsMap Tryz.prog 3 (plainElem Tryz.prog 4) b n (D.put (.int .i64 (k : Int)) (.lit (.bool true)))) : SeenAt w' b n (fun j => S j || decide (j = k)) := by
 refine ⟨_, h, hD.put _ _, fun j => ?_⟩
 by_cases hj : j = k
 ·subst hj
  rw [atKey_put_same hD (show WideAt.IsKeyLit (.int .i64 (j : Int)) from trivial)]; simp
 ·rw [atKey_put_other (by simp; omega), hS j]; simp [hj]
theorem wpList_append_rd2 {P : Program} {w : World} {ops : Array Oper} {rest : List Oper} {o : Oper} {a : Act} {Q : Exit → Act → World → Prop} (hgd : o.guard = none) (s x : Operand) (t : TypeId)
  (ho : o.op = .call { callee := .builtin .append, args := #[s, x], argTypes := #[t, t] })
  (base : Nat) (e : TypeId) (i : TypeInfo) (z : Value) (size bytes : Nat) (ht : P.underlying t = some (.slice e)) (hi : P.info? e = some i) (hz : i.zero = some z)
  (hsize : i.size = size) (hby : i.bytes = bytes) (hzs : z.cells.size = size) (hsz : 0 < size)
  (v : Value) (n : Nat) (xs : List Value) (hs : a.eval s = v) (hown : w.ownsRow base e size v n xs)
  (u : Value) (m : Nat) (news : List Value) (hx : a.eval x = u) (hu : RdAt w u m size news) (h1 : ∀ y ∈ news, y.oneCell' = true)
  (h63 : n + m ≤ maxLen) (hbytes : (n + m) * bytes ≤ 140737488355328) (hbase : base ≤ w.heap.size)
  (h : ∀ v' w', w'.ownsRow base e size v' (n + m) (xs ++ news) → w.grownBy w' v.ownBlock → (v'.ownBlock = v.ownBlock ∨ v'.ownBlock = some w.heap.size) → wpList P ops Q rest (a.put o.dst v') w') : wpList P ops Q (o :: rest) a w := by
 refine wpList_plain hgd fun K hK => ?_
 obtain ⟨v', w', hr, h2, h3, h4⟩ := run_append_rd (P := P) w t o.type base e i z size bytes ht hi hz hsize hby hzs hsz v n xs hown u m news hu h1 h63 hbytes hbase
 unfold Oper.wp execOp
 simp only [ho, resolve, invoke, builtin, Sem.run_bind, Sem.run_pure, Result.andThen_ok, List.map_toArray, List.map_cons, List.map_nil, hs, hx, hr]
 exact hK _ _ (h v' w' h2 h3 h4)
theorem ownsRow_pop {w : World} {base : Nat} {e : TypeId} {g n cap : Nat} {xs : List Value} {x : Value} (h : w.ownsRow base e 1 (.slice (some ⟨g, 0, none⟩) (n + 1) cap) (n + 1) (xs ++ [x])) : w.ownsRow base e 1 (.slice (some ⟨g, 0, none⟩) n cap) n xs ∧ w.cell? ⟨g, n, none⟩ = some x ∧ n + 1 ≤ cap := by
 have hxl : xs.length = n := by have := h.1; simp at this; omega
 have hc := (ownsRow_cell h (g := g) (j := n) (u := x) rfl (by rw [List.getElem?_append_right (by omega)]; simp [hxl])).1
 rcases h.2 with ⟨h1, _⟩ | ⟨g', cap', cur, he, hb, hg, hle, hcap, hsz, htk⟩
 ·simp at h1
 ·simp only [Value.slice.injEq, Option.some.injEq, Addr.mk.injEq] at he
  obtain ⟨⟨rfl, _, _⟩, _, rfl⟩ := he
  refine ⟨⟨by simp [hxl], .inr ⟨g, cap, cur, rfl, hb, hg, by omega, hcap, hsz, ?_⟩⟩, hc, hle⟩
  have h2 : cur.toList.take (n * 1) = (cur.toList.take ((n + 1) * 1)).take n := by rw [List.take_take]; congr 1; omega
  rw [h2, htk, ← hxl, List.take_left]
theorem run_clear_map (w : World) (T : TypeId) (k e ty : TypeId) {P : Program} (ht : P.underlying T = some (.map k e)) {b : Nat} {es : Array MapEntry} {clock : Nat} (hb : w.heap[b]? = some (.map es clock)) :
  ∃ w', (Builtin.clear_ #[T] ty #[.map (some b)]).run P w = .ok (.tuple #[]) w' ∧ w.grownBy w' (some b) := by
 refine ⟨{ w with heap := w.heap.setIfInBounds b (.map #[] clock) }, ?_, ⟨rfl, rfl, rfl, by simp, fun k _ hk => ?_⟩⟩
 ·simp [Builtin.clear_, run_underlying ht, Result.andThen]
  simp [getObj, setObj, Sem.run, hb]
 ·have : b ≠ k := fun e => hk (by rw [e])
  simp [this]
def lenV : Value → Nat
 | .slice _ n _ => n
 | _ => 0
structure ReAt (w : World) (m : Nat) (sts : List St) (l out todo : List Nat) (vo vt : Value) (wr : World) : Prop where
 ge : w.heap.size ≤ m
 below : Below w.heap.size w wr
 inv : ReInv sts l out todo
 seen : ∃ n, n ≤ out.length ∧ SeenAt wr m n (fun k => decide (k ∈ out))
 ro : wr.ownsRow w.heap.size 3 1 vo out.length (freeC out)
 rt : wr.ownsRow w.heap.size 3 1 vt todo.length (freeC todo)
 mo : vo.ownBlock ≠ some m
 mt : vt.ownBlock ≠ some m
 ot : vo.ownBlock = none ∨ vo.ownBlock ≠ vt.ownBlock
 len : todo.length ≤ l.length + out.length * tot sts
theorem ReAt.bound {w : World} {m : Nat} {sts : List St} {l out todo : List Nat} {vo vt : Value} {wr : World} (h : ReAt w m sts l out todo vo vt wr) : out.length ≤ sts.length := nodup_lt h.inv.nd h.inv.bo
theorem freeC_snoc (l : List Nat) (k : Nat) : freeC (l ++ [k]) = freeC l ++ [.int .i64 k] := by simp [freeC]
theorem freeC_app (l r : List Nat) : freeC (l ++ r) = freeC l ++ freeC r := by simp [freeC]
theorem own_len {w : World} {base : Nat} {e : TypeId} {size : Nat} {v : Value} {n : Nat} {xs : List Value} (h : w.ownsRow base e size v n xs) : lenV v = n := by
 rcases h.2 with ⟨rfl, rfl⟩ | ⟨g, cap, _, rfl, _⟩ <;> rfl
theorem own_shape {w : World} {base : Nat} {e : TypeId} {size : Nat} {v : Value} {n : Nat} {xs : List Value} (h : w.ownsRow base e size v n xs) : ∃ a c, v = .slice a n c ∧ (0 < n → ∃ g, a = some ⟨g, 0, none⟩) := by
 rcases h.2 with ⟨rfl, rfl⟩ | ⟨g, cap, _, rfl, _⟩
 ·exact ⟨_, _, rfl, fun h => absurd h (Nat.lt_irrefl _)⟩
 ·exact ⟨_, _, rfl, fun _ => ⟨g, rfl⟩⟩
theorem sort_row (w : World) (base n : Nat) (l : List Nat) (v : Value) (hn : l.length = n) (h : w.ownsRow base 3 1 v n (freeC l)) (hl : n ≤ 1000000) :
  Calls Tryz.prog 110 #[v] w fun e w' => e = .returned (.tuple #[]) ∧ w'.ownsRow base 3 1 v n (freeC (sortN l)) ∧ Below base w w' := by
 subst hn
 rcases Nat.eq_zero_or_pos l.length with h0 | h0
 ·have hnil : l = [] := List.length_eq_zero_iff.1 h0
  subst hnil
  obtain ⟨a, c, rfl, _⟩ := own_shape h
  refine (Tryz.slices_Sort_int_none a c w).mono ?_
  rintro e w' ⟨rfl, rfl⟩
  exact ⟨rfl, by simpa [sortN] using h, Below.refl _ _⟩
 ·rcases h.2 with ⟨_, h1⟩ | ⟨g, cap, cur, rfl, hb, hg, hle, hcap, hsz, htk⟩
  ·omega
  ·have hil : (intsN l).length = l.length := by simp [intsN]
   have htk' : cur.toList.take (intsN l).length = (intsN l).map (Value.int .i64) := by rw [hil, ← freeC_ints, ← htk]; congr 1; omega
   have hk := sortI_own g cap (intsN l) w hg (holdsI_own hg htk') (by omega)
   rw [hil, intsN_sort] at hk
   refine hk.mono ?_
   rintro e w' ⟨rfl, h2, h3⟩
   refine ⟨rfl, ⟨?_, .inr ⟨g, cap, _, rfl, hb, h2, hle, hcap, by simpa [putCells] using hsz, ?_⟩⟩, h3.mono hb⟩
   ·simp [freeC, len_sortN]
   ·have hsl : (intsN (sortN l)).length = l.length := by simp [intsN, len_sortN]
    have := putI_take cur (intsN (sortN l)) (by rw [hsl]; omega)
    rw [hsl] at this
    rw [Nat.mul_one, this, freeC_ints]
theorem PatAt.cells {w : World} {a : Nat} {s : ByteArray} {sts : List St} {st en : Nat} (h : PatAt w a s sts st en) : ∃ sa sn sc, w.cell? ⟨a, 1, none⟩ = some (.slice sa sn sc) ∧ w.cell? ⟨a, 0, none⟩ = some (.string s) ∧ w.cell? ⟨a, 2, none⟩ = some (.int .i64 st) ∧ w.cell? ⟨a, 3, none⟩ = some (.int .i64 en) ∧ a < w.heap.size ∧
  ∀ (k : Nat) (hk : k < sts.length), ∃ r cap pv fv, (.slice sa sn sc : Value) = .slice (some ⟨r, 0, none⟩) sts.length cap ∧ r < w.heap.size ∧ w.cell? ⟨r, k * 3, none⟩ = some pv ∧ w.cell? ⟨r, k * 3 + 1, none⟩ = some (.int .i64 (sts[k].next : Nat)) ∧ w.cell? ⟨r, k * 3 + 2, none⟩ = some fv ∧
   PtrAt w (fun _ => True) sts[k] pv ∧ w.ownsRow 0 3 1 fv sts[k].free.length (freeC sts[k].free) := by
 obtain ⟨sv, es, h⟩ := h
 obtain ⟨sa, sn, sc, rfl⟩ := ownsRow_slice h.row
 refine ⟨sa, sn, sc, by rw [cell_of_row _ _ _ _ _ _ h.blk]; rfl, by rw [cell_of_row _ _ _ _ _ _ h.blk]; rfl, by rw [cell_of_row _ _ _ _ _ _ h.blk]; rfl, by rw [cell_of_row _ _ _ _ _ _ h.blk]; rfl, (Array.getElem?_eq_some_iff.1 h.blk).1, fun k hk => ?_⟩
 obtain ⟨r, cap, he, _, hlt⟩ := h.row.form (by omega)
 have hx : sts[k]? = some sts[k] := List.getElem?_eq_getElem hk
 obtain ⟨e, hee⟩ : ∃ e, es[k]? = some e := ⟨_, List.getElem?_eq_getElem (by rw [h.len]; exact hk)⟩
 obtain ⟨q0, q1, q2⟩ := stC_at sts es k _ e hx hee
 have hb : (Value.slice sa sn sc).ownBlock = some r := by rw [he]; rfl
 exact ⟨r, cap, e.1, e.2, he, hlt, (ownsRow_cell h.row hb q0).1, (ownsRow_cell h.row hb q1).1, (ownsRow_cell h.row hb q2).1, h.ptr k _ e hx hee, (h.free k _ e hx hee).1⟩
theorem own_lt {w : World} {base : Nat} {e : TypeId} {size : Nat} {v : Value} {n : Nat} {xs : List Value} (h : w.ownsRow base e size v n xs) {k : Nat} (hk : v.ownBlock = some k) : k < w.heap.size := (h.lt k hk).2
theorem ReAt.more {w : World} {m : Nat} {sts : List St} {l out t : List Nat} {k gt tc go oc : Nat} {vo vt' : Value} {wr w1 w2 w3 : World} {o : Obj} (hw : SWf sts) (h : ReAt w m sts l out (t ++ [k]) vo (.slice (some ⟨gt, 0, none⟩) (t.length + 1) tc) wr) (hk : k ∉ out)
  (n : Nat) (hn : n ≤ out.length) (hs1 : SeenAt w1 m (n + 1) (fun j => decide (j ∈ out) || decide (j = k))) (hg1 : wr.grownBy w1 (some m))
  (ho2 : w2.ownsRow w.heap.size 3 1 (.slice (some ⟨go, 0, none⟩) (out.length + 1) oc) (out.length + 1) (freeC out ++ [.int .i64 k])) (hg2 : (w1.alloc o).grownBy w2 vo.ownBlock) (ha2 : vo.ownBlock = some go ∨ go = w1.heap.size + 1)
  (hr3 : w3.ownsRow w.heap.size 3 1 vt' (t.length + (frees sts k).length) (freeC t ++ freeC (frees sts k))) (hg3 : w2.grownBy w3 (some gt)) (ha3 : vt'.ownBlock = some gt ∨ vt'.ownBlock = some w2.heap.size) :
  ReAt w m sts l (out ++ [k]) (t ++ frees sts k) (.slice (some ⟨go, 0, none⟩) (out.length + 1) oc) vt' w3 := by
 have hgm := (own_lt h.rt rfl : gt < wr.heap.size)
 obtain ⟨n0, _, hs0⟩ := h.seen
 have hml := hs0.lt
 have hg1s := hg1.size
 have hg2s : w1.heap.size + 1 ≤ w2.heap.size := by have := hg2.size; rw [World.size_alloc] at this; exact this
 have hgom : go ≠ m := by
  rcases ha2 with e | e
  ·exact fun e' => h.mo (e' ▸ e)
  ·omega
 have hgt : gt ≠ m := fun e => h.mt (by rw [← e]; rfl)
 have hgog : go ≠ gt := by
  rcases ha2 with e | e
  ·rcases h.ot with h1 | h1
   ·rw [h1] at e; cases e
   ·exact fun e' => h1 (by rw [e, e']; rfl)
  ·omega
 have hvom : vo.ownBlock ≠ some m := h.mo
 have hbase : ∀ j, (Value.slice (some ⟨gt, 0, none⟩) (t.length + 1) tc).ownBlock = some j → w.heap.size ≤ j := fun j e => (h.rt.lt j e).1
 have b1 : Below w.heap.size w w1 := h.below.grown hg1 h.below.size (fun j e => by cases e; exact h.ge)
 have b1' : Below w.heap.size w (w1.alloc o) := b1.alloc b1.size o
 have b2 : Below w.heap.size w w2 := b1'.grown hg2 b1'.size (fun j e => (h.ro.lt j e).1)
 have b3 : Below w.heap.size w w3 := b2.grown hg3 b2.size (fun j e => by cases e; exact hbase gt rfl)
 refine ⟨h.ge, b3, h.inv.new hw hk, ⟨n + 1, by simp; omega, ?_⟩, ?_, ?_, ?_, ?_, ?_, ?_⟩
 ·have hs2 : SeenAt w2 m (n + 1) (fun j => decide (j ∈ out) || decide (j = k)) := SeenAt.kept (row := vo.ownBlock) (SeenAt.kept (row := none) hs1 (World.grownBy_alloc w1 o none) (by simp)) hg2 (fun e => hvom e.symm)
  have hs3 := SeenAt.kept (row := some gt) hs2 hg3 (fun e => hgt (Option.some.inj e).symm)
  have hf : (fun j => decide (j ∈ out ++ [k])) = (fun j => decide (j ∈ out) || decide (j = k)) := by
   funext j
   rw [Bool.eq_iff_iff]
   simp
  rw [hf]
  exact hs3
 ·rw [List.length_append, freeC_snoc]
  exact ho2.kept hg3 (.inr (fun e => hgog (Option.some.inj e)))
 ·rw [List.length_append, freeC_app]
  exact hr3
 ·exact fun e => hgom (Option.some.inj e)
 ·rcases ha3 with e | e
  ·rw [e]; exact fun e' => hgt (Option.some.inj e')
  ·rw [e]; exact fun e' => by have := Option.some.inj e'; omega
 ·refine .inr (fun e => ?_)
  rcases ha3 with e' | e'
  ·rw [e'] at e; exact hgog (Option.some.inj e)
  ·rw [e'] at e
   have h5 : go = w2.heap.size := Option.some.inj e
   have h4 := own_lt ho2 (k := go) rfl
   omega
 ·have h1 := h.len
  have h2 := frees_len sts k
  simp only [List.length_append, List.length_cons, List.length_nil] at h1 ⊢
  rw [Nat.add_mul]
  omega
set_option maxHeartbeats 6400000 in
set_option maxRecDepth 100000 in
theorem reach_is (w : World) (a : Nat) (s : ByteArray) (sts : List St) (st en : Nat) (l : List Nat) (v : Value) (hp : PatAt w a s sts st en) (hw : SWf sts) (hN : tot sts ≤ 100000) (hv : RdAt w v l.length 1 (freeC l)) (hl : ∀ j ∈ l, j < sts.length) (hll : l.length ≤ 1000000) :
  Calls Tryz.prog 86 #[.pointer (some ⟨a, 0, none⟩), v] w fun e w' => ∃ v' out, e = .returned v' ∧ w'.ownsRow w.heap.size 3 1 v' out.length (freeC out) ∧ Below w.heap.size w w' ∧ RisingN out ∧ ∀ k, k ∈ out ↔ Cl sts l k := by
 have hNl : sts.length ≤ 100000 := Nat.le_trans (len_tot _) hN
 obtain ⟨sa, sn, sc, c1, _, _, _, halt, hst⟩ := hp.cells
 obtain ⟨i0, hi, hz0, hz1, hz2⟩ := info_parts info_intP
 have HW := Lib.hid hw
 have HST := Lib.hid hst
 have hmm := @run_makeMap Tryz.prog
 have hba := alloc_below w (.map #[] 0)
 have hS0 := SeenAt.made w
 have hcl : ∀ W, Below w.heap.size w W → Calls Tryz.prog 109 #[v] W fun e w' => ∃ v', e = .returned v' ∧ w'.ownsRow W.heap.size 3 1 v' l.length (freeC l) ∧ Below W.heap.size W w' := fun W hW => by
  have hvW := hv.later hW
  rcases Nat.eq_zero_or_pos l.length with h0 | h0
  ·have hnil : l = [] := List.length_eq_zero_iff.1 h0
   subst hnil
   rcases hvW.2 with ⟨rfl, _⟩ | ⟨ad, c, rfl, _, _⟩
   ·refine (Tryz.slices_Clone_int_nil 0 0 W).mono ?_
    rintro e w' ⟨rfl, rfl⟩
    exact ⟨_, rfl, World.ownsRow_nil _ _ _ _, Below.refl _ _⟩
   ·refine (Tryz.slices_Clone_int_zero ad c W).mono ?_
    rintro e w' ⟨v', rfl, h1, _, h2⟩
    exact ⟨v', rfl, h1, h2⟩
  ·obtain ⟨b, o, c, rfl, hcc, _, hcell⟩ := hvW.some h0
   have hil : (intsN l).length = l.length := by simp [intsN]
   have hlen : l.length = (intsN l).length := hil.symm
   refine (Tryz.slices_Clone_int b o l.length c (intsN l) W (by omega) (by omega) (fun j hj => ?_)).mono ?_
   ·refine hcell j _ ?_
    rw [freeC_ints, List.getElem?_map, List.getD_eq_getElem?_getD, List.getElem?_eq_getElem hj]; rfl
   ·rintro e w' ⟨v', rfl, h1, _, h2⟩
    rw [hlen, List.take_length, ← freeC_ints, ← hlen] at h1
    exact ⟨v', rfl, h1, h2⟩
 have HCL := Lib.hid hcl
 have HLt := Lib.hid hl
 clear hp hw hl hv hcl hst
 go_enter Tryz.func86, Tryz.ntmps86
 go_wp2_with fail
 refine (HCL.out _ hba).mono ?_
 rintro e w1 ⟨vt, rfl, hrt, hb1⟩
 rw [World.size_alloc] at hrt
 have hre : ReAt w w.heap.size sts l [] l (.slice none 0 0) vt w1 := by
  refine ⟨Nat.le_refl _, hba.trans (hb1.mono (by rw [World.size_alloc]; omega)), ReInv.start sts l HLt.out, ⟨0, Nat.zero_le _, ?_⟩, World.ownsRow_nil _ _ _ _, own_base hrt (by omega), by simp [Value.ownBlock], fun e => ?_, .inl rfl, by simp⟩
  ·exact SeenAt.kept (row := none) (by simpa using hS0) (below_grown hb1 none) (by simp)
  ·have := (hrt.lt _ e).1; omega
 have HRE := Lib.hid hre
 clear hba hS0 hre hrt hb1 hmm HCL HLt
 go_wp2
 go_loopw [6, 7] (fun vo vt wr => ∃ out todo, ReAt w w.heap.size sts l out todo vo vt wr) (fun vo vt _ => (sts.length - lenV vo) * (tot sts + 1) + lenV vt)
 case atStart => exact ⟨[], l, HRE.out⟩
 case round =>
  clear HRE
  obtain ⟨out, todo, hR⟩ := hrel
  have hob := hR.bound
  rcases List.eq_nil_or_concat todo with rfl | ⟨t, k, rfl⟩
  ·have HR := Lib.hid hR
   obtain ⟨n, hn, hS⟩ := hR.seen
   obtain ⟨D, hD, hDm, _⟩ := hS
   obtain ⟨es, clock, hbk, _⟩ := hD
   obtain ⟨wc, hclr, hgc⟩ := run_clear_map wr 156 3 4 0 Tryz.underlying156 hbk
   obtain ⟨ta, tc, rfl, _⟩ := own_shape hR.rt
   have hks := sort_row wc w.heap.size out.length out u6 rfl (hR.ro.kept hgc (.inr hR.mo)) (by omega)
   have HGC := Lib.hid hgc
   obtain ⟨oa, oc, rfl, _⟩ := own_shape hR.ro
   clear hR hn hDm hbk hgc
   go_wp2_with fail
   refine hks.mono ?_
   rintro e w2 ⟨rfl, hro2, hb2⟩
   go_wp2
   go_ret
   have hbc : Below w.heap.size w wc := HR.out.below.grown HGC.out HR.out.below.size (fun k e => by cases e; exact HR.out.ge)
   refine ⟨_, sortN out, rfl, by rw [len_sortN]; exact hro2, hbc.trans (hb2), rising_sort HR.out.inv.nd, fun k => by rw [mem_sortN]; exact HR.out.inv.done k⟩
  ·have hkt : k < sts.length := hR.inv.bt k (by simp)
   have htl := hR.len
   have hmul : out.length * tot sts ≤ 100000 * 100000 := Nat.mul_le_mul (by omega) hN
   simp only [List.concat_eq_append] at hR
   obtain ⟨ta, tc, rfl, hta⟩ := own_shape hR.rt
   obtain ⟨gt, rfl⟩ := hta (by simp)
   have hrt := hR.rt
   have htn : (t ++ [k]).length = t.length + 1 := by simp
   simp only [htn] at hR hrt ⊢
   rw [freeC_snoc] at hrt
   obtain ⟨hpop, hck, hcap⟩ := ownsRow_pop hrt
   obtain ⟨n, hn, hS⟩ := hR.seen
   have hlk := hS.look k (by omega)
   have HR := Lib.hid hR
   obtain ⟨oa, oc, rfl, _⟩ := own_shape hR.ro
   have hb := hR.below
   have hml := hS.lt
   have hge := hR.ge
   have hol : lenV (.slice oa out.length oc) = out.length := rfl
   have HS := Lib.hid hS
   have HN := Lib.hid hn
   simp only [List.length_concat] at htl
   have hil : (0 : Int) ≤ (t.length : Int) := by omega
   have htc : (t.length : Int) + 1 ≤ (tc : Int) := by omega
   have htm : (t.length : Int) ≤ (tc : Int) := by omega
   clear hR hrt hS hn hcap
   by_cases hk : k ∈ out
   ·rw [decide_eq_true hk] at hlk
    have HK := Lib.hid hk
    have HPOP := Lib.hid hpop
    clear hk hpop
    go_wp2
    go_roundw
    case rel =>
     refine ⟨out, t, HR.out.ge, HR.out.below, HR.out.inv.seen HK.out, HR.out.seen, HR.out.ro, HPOP.out, HR.out.mo, HR.out.mt, HR.out.ot, by have := HR.out.len; simp at this; omega⟩
    case measure => simp [lenV]
   ·rw [decide_eq_false hk] at hlk
    have HK := Lib.hid hk
    obtain ⟨D, hD, hDm, hDa⟩ := HS.out
    obtain ⟨r, cap, pv, fv, hsv, hrl, _, _, hcf, _, hfr⟩ := HST.out k hkt
    simp only [Value.slice.injEq] at hsv
    obtain ⟨hsa, hsn, hsc⟩ := hsv
    subst hsa hsn hsc
    have hft : sts[k].free.length ≤ 100000 := Nat.le_trans (free_tot sts _ (List.getElem_mem hkt)) hN
    have HFE : Hid (frees sts k = sts[k].free) := Lib.hid (by unfold frees; rw [List.getElem?_eq_getElem hkt])
    have HDM := Lib.hid hDm
    have HDA := Lib.hid hDa
    have HHD := Lib.hid hD
    have hone : ∀ u ∈ ([.int .i64 k] : List Value), u.oneCell' = true := by
     intro u hu; simp at hu; subst hu; rfl
    have hkey := keyI k (by omega)
    have hval : plainElem (H := Unit) Tryz.prog 4 (.bool true) = some (.lit (.bool true), []) := plainElem_bool Tryz.underlying4 true
    have hff : ∀ y ∈ freeC sts[k].free, y.oneCell' = true := by
     intro y hy
     obtain ⟨q, _, rfl⟩ := List.mem_map.1 hy
     rfl
    have HFR := Lib.hid hfr
    have hk0 : (0 : Int) ≤ (k : Int) := by omega
    have hk1 : (k : Int) < (sts.length : Int) := by omega
    have HPOP := Lib.hid hpop
    clear hk hDm hDa hpop hfr
    have hnn := HN.out
    have HOT : Hid ((Value.slice (some ⟨gt, 0, none⟩) t.length tc).ownBlock ≠ (Value.slice oa out.length oc).ownBlock) := Lib.hid (by
     rcases HR.out.ot with e | e
     ·rw [e]; simp [Value.ownBlock]
     ·exact fun e' => e e'.symm)
    go_wp2_with (first
     | (at_mapUpdate; (refine wpList_mapUpdate_own _ rfl _ _ _ 156 rfl 3 4 lawI Tryz.underlying156 _ w.heap.size n D rfl HHD.out (by unfold maxLen; omega) _ _ _ rfl rfl hkey _ [] hval ?_); intro w1 hown1 hgrow1; have HO1 := Lib.hid (SeenAt.put HDM.out HDA.out k hown1); have HG1 := Lib.hid hgrow1; have hro1 := (HR.out.ro.kept hgrow1 (.inr HR.out.mo)).alloc (.cells #[.int .i64 k] 3); have hnb1 : (w1.alloc (.cells #[.int .i64 k] 3)).heap[w1.heap.size]? = some (.cells #[.int .i64 k] 3 (0, 0)) := heap_alloc_new _ _; have HNB1 := Lib.hid hnb1; have hb1 := hb.grown hgrow1 hb.size (fun j e => by cases e; exact hge); have HBS1 : Hid (w.heap.size ≤ (w1.alloc (.cells #[.int .i64 k] 3)).heap.size) := Lib.hid (by rw [World.size_alloc]; have := hb1.size; omega); have HSZ1 := Lib.hid (World.size_alloc w1 (.cells #[.int .i64 k] 3)); clear hown1 hgrow1 hnb1)
     | (at_builtin; (refine wpList_append_lies _ rfl (.tmp 32) (.tmp 34) 136 rfl w.heap.size 3 i0 (.int .i64 0) 1 8 Tryz.underlying136 hi hz0 hz1 hz2 rfl (by decide) _ out.length (freeC out) rfl hro1 ⟨w1.heap.size, 0, none⟩ 1 1 [.int .i64 k] rfl rfl (World.news_of_block HNB1.out) hone (by decide) (by unfold maxLen; omega) (by omega) HBS1.out (w1.heap.size + 1) HSZ1.out ?_); intro go cp w2 hown2 hgrow2 hat2 hlt2; have HO2 := Lib.hid (And.intro hown2 (And.intro hgrow2 hat2)); have hb2 := (hb1.alloc hb1.size (.cells #[.int .i64 k] 3)).grown hgrow2 HBS1.out (fun j e => (HR.out.ro.lt j e).1); have c1' := keep_cell c1 hb2 halt; have cf' := keep_cell hcf hb2 hrl; have hrt2 := ((HPOP.out.kept HG1.out (.inr HR.out.mt)).alloc (.cells #[.int .i64 k] 3)).kept hgrow2 (.inr HOT.out); have hrd := (RdAt.own HFR.out).later hb2; clear hown2 hgrow2 hat2 hro1)
     | (at_builtin; (refine wpList_append_rd2 rfl (.tmp 36) (.tmp 44) 136 rfl w.heap.size 3 i0 (.int .i64 0) 1 8 Tryz.underlying136 hi hz0 hz1 hz2 rfl (by decide) _ t.length (freeC t) rfl hrt2 _ sts[k].free.length (freeC sts[k].free) rfl hrd hff (by unfold maxLen; omega) (by omega) hb2.size ?_); intro v3 w3 hown3 hgrow3 hat3; have HO3 := Lib.hid (And.intro hown3 (And.intro hgrow3 hat3)); clear hown3 hgrow3 hat3))
    go_roundw
    case rel =>
     obtain ⟨h2a, h2b, h2c⟩ := HO2.out
     obtain ⟨h3a, h3b, h3c⟩ := HO3.out
     rw [← HFE.out] at h3a
     exact ⟨out ++ [k], t ++ frees sts k, HR.out.more HW.out HK.out n HN.out HO1.out HG1.out h2a h2b h2c h3a h3b h3c⟩
    case measure =>
     have hne : out.length < sts.length := by
      have := (HR.out.more HW.out HK.out n HN.out HO1.out HG1.out HO2.out.1 HO2.out.2.1 HO2.out.2.2 (by rw [HFE.out]; exact HO3.out.1) HO3.out.2.1 HO3.out.2.2).bound
      rw [List.length_append] at this; simp only [List.length_cons, List.length_nil] at this; omega
     have hf := free_tot sts _ (List.getElem_mem hkt)
     have h3 : lenV v3 = t.length + sts[k].free.length := own_len HO3.out.1
     rw [h3]
     simp only [lenV]
     obtain ⟨dd, hdd⟩ : ∃ dd, sts.length - out.length = dd + 1 := ⟨sts.length - out.length - 1, by omega⟩
     rw [show sts.length - (out.length + 1) = dd by omega, hdd, Nat.add_mul]
     omega
end Go.Proofs.YtgbapkechngnmaaGreat
/- pattern's step: a contract. -/
namespace Go.Proofs.YtgbapkechngnmaaGreat
open Go.RowKit
/-! plain: one byte on -/
def goB (x : St) (c : Nat) : Bool := match x.set with
 | some f => f c
 | none => false
def go1 (sts : List St) (c k : Nat) : List Nat := match sts[k]? with
 | some x => if goB x c = true then [x.next] else []
 | none => []
def goN (sts : List St) (c : Nat) (l : List Nat) : List Nat := l.flatMap (go1 sts c)
theorem go1_len (sts : List St) (c k : Nat) : (go1 sts c k).length ≤ 1 := by
 unfold go1; split
 ·split <;> simp
 ·simp
theorem goN_len (sts : List St) (c : Nat) : ∀ l : List Nat, (goN sts c l).length ≤ l.length
 | [] => Nat.le_refl _
 | k :: l => by
  have := goN_len sts c l
  have h1 := go1_len sts c k
  unfold goN at this ⊢
  rw [List.flatMap_cons, List.length_append, List.length_cons]; omega
theorem goN_take (sts : List St) (c : Nat) {l : List Nat} {j : Nat} (hj : j < l.length) : goN sts c (l.take (j + 1)) = goN sts c (l.take j) ++ go1 sts c l[j] := by
 unfold goN
 rw [List.take_succ_eq_append_getElem hj, List.flatMap_append]; simp
theorem goN_lt {sts : List St} (h : SWf sts) {c k : Nat} {l : List Nat} (hk : k ∈ goN sts c l) : k < sts.length := by
 obtain ⟨j, _, h1⟩ := List.mem_flatMap.1 hk
 unfold go1 at h1
 split at h1
 ·rename_i x hx
  split at h1
  ·rw [List.mem_singleton.1 h1]; exact (h x (List.mem_of_getElem? hx)).2
  ·cases h1
 ·cases h1
theorem freeC_at (l : List Nat) (j : Nat) (h : j < l.length) : (freeC l)[j]? = some (.int .i64 (l[j] : Nat)) := by
 unfold freeC; rw [List.getElem?_map, List.getElem?_eq_getElem h]; rfl
set_option maxHeartbeats 3200000 in
set_option maxRecDepth 100000 in
theorem step_is (w : World) (a : Nat) (s : ByteArray) (sts : List St) (st en : Nat) (l : List Nat) (v : Value) (c : Nat) (hc : c < 256) (hp : PatAt w a s sts st en) (hw : SWf sts) (hN : tot sts ≤ 100000) (hv : RdAt w v l.length 1 (freeC l)) (hl : ∀ j ∈ l, j < sts.length) (hll : l.length ≤ 1000000) :
  Calls Tryz.prog 87 #[.pointer (some ⟨a, 0, none⟩), v, .int .u8 c] w fun e w' => ∃ v' out, e = .returned v' ∧ w'.ownsRow w.heap.size 3 1 v' out.length (freeC out) ∧ Below w.heap.size w w' ∧ RisingN out ∧ ∀ k, k ∈ out ↔ Cl sts (goN sts c l) k := by
 have hNl : sts.length ≤ 100000 := Nat.le_trans (len_tot _) hN
 obtain ⟨sa, sn, sc, c1, _, _, _, halt, hst⟩ := hp.cells
 obtain ⟨i0, hi, hz0, hz1, hz2⟩ := info_parts info_intP
 have hreach : ∀ W v', Below w.heap.size w W → W.ownsRow w.heap.size 3 1 v' (goN sts c l).length (freeC (goN sts c l)) → Calls Tryz.prog 86 #[.pointer (some ⟨a, 0, none⟩), v'] W fun e w' => ∃ v' out, e = .returned v' ∧ w'.ownsRow W.heap.size 3 1 v' out.length (freeC out) ∧ Below W.heap.size W w' ∧ RisingN out ∧ ∀ k, k ∈ out ↔ Cl sts (goN sts c l) k :=
  fun W v' hb ho => reach_is W a s sts st en _ v' (hp.below hb) hw hN (RdAt.own ho) (fun j hj => goN_lt hw hj) (Nat.le_trans (goN_len sts c l) hll)
 obtain ⟨va, vc, rfl, hvc, hr⟩ := RdAt.shape hv
 have HW := Lib.hid hw
 have HST := Lib.hid hst
 have HR := Lib.hid hr
 have HL := Lib.hid hl
 have HRE := Lib.hid hreach
 clear hp hw hv hl hst hr hreach
 go_enter Tryz.func87, Tryz.ntmps87
 go_wp2
 go_loopw [7, 13] (fun vo vi wr => ∃ j : Nat, j ≤ l.length ∧ vi = .int .i64 j ∧ wr.ownsRow w.heap.size 3 1 vo (goN sts c (l.take j)).length (freeC (goN sts c (l.take j))) ∧ Below w.heap.size w wr) (fun _ vi _ => l.length - (intOf vi).toNat)
 case atStart => exact ⟨0, Nat.zero_le _, rfl, World.ownsRow_nil _ _ _ _, Below.refl _ _⟩
 case round =>
  obtain ⟨j, hj, rfl, hown, hb⟩ := hrel
  by_cases hjl : j < l.length
  ·obtain ⟨b, o, rfl, hblt, hcell⟩ := HR.out (by omega)
   have hkc := hcell j _ (freeC_at l j hjl)
   have hk := HL.out _ (List.getElem_mem hjl)
   obtain ⟨k, hke⟩ : ∃ k, l[j] = k := ⟨_, rfl⟩
   rw [hke] at hkc hk
   obtain ⟨r, cap, pv, fv, hsv, hrl, q0, q1, q2, hptr, hfr⟩ := HST.out k hk
   simp only [Value.slice.injEq] at hsv
   obtain ⟨hsa, hsn, hsc⟩ := hsv
   subst hsa hsn hsc
   obtain ⟨fa, fc, rfl, _⟩ := own_shape hfr
   have hcw : wr.cell? ⟨b, o + j, none⟩ = some (.int .i64 k) := keep_cell hkc hb hblt
   have d1 := keep_cell c1 hb halt
   have d2 := keep_cell q0 hb hrl
   have d3 := keep_cell q1 hb hrl
   have d4 := keep_cell q2 hb hrl
   have hE : Hid (goN sts c (l.take (j + 1)) = goN sts c (l.take j) ++ if goB sts[k] c = true then [sts[k].next] else []) := Lib.hid (by
    rw [goN_take sts c hjl, hke]
    unfold go1
    rw [List.getElem?_eq_getElem hk])
   have hn0 : (goN sts c (l.take j)).length ≤ 1000000 := Nat.le_trans (goN_len sts c _) (by simp; omega)
   obtain ⟨nx, hnx⟩ : ∃ nx, sts[k].next = nx := ⟨_, rfl⟩
   obtain ⟨fn, hfn⟩ : ∃ fn, sts[k].free.length = fn := ⟨_, rfl⟩
   rw [hnx] at d3 hE
   rw [hfn] at d4
   have hk0 : (0 : Int) ≤ (k : Int) := by omega
   have hk1 : (k : Int) < (sts.length : Int) := by omega
   clear hcell hkc q0 q1 q2 hke
   cases hset : sts[k].set with
   | none =>
    have hpv : pv = .pointer none := by unfold PtrAt at hptr; rw [hset] at hptr; exact hptr
    subst hpv
    have hg : goB sts[k] c = false := by unfold goB; rw [hset]
    clear hptr hset
    rw [hg] at hE
    go_wp2
    refine ⟨⟨j + 1, by omega, by go_num, ?_, ?_⟩, by simp [intOf]; omega⟩
    ·rw [hE.out]; simp only [Bool.false_eq_true, if_false, List.append_nil]; exact hown.alloc _
    ·exact hb.alloc hb.size _
   | some f =>
    obtain ⟨kk, rfl, hS, _⟩ : ∃ kk, pv = .pointer (some ⟨kk, 0, none⟩) ∧ SetAt w kk f ∧ True := by unfold PtrAt at hptr; rw [hset] at hptr; exact hptr
    have hg : goB sts[k] c = f c := by unfold goB; rw [hset]
    clear hptr hset
    rw [hg] at hE
    go_upto_region 6 with fail
    have x0 := heap_alloc_new wr (.cells #[.pointer (some ⟨kk, 0, none⟩), .int .i64 nx, .slice fa fn fc] 159)
    have b1 : Below w.heap.size w (wr.alloc (.cells #[.pointer (some ⟨kk, 0, none⟩), .int .i64 nx, .slice fa fn fc] 159)) := hb.alloc hb.size _
    have S1 : SetAt (wr.alloc (.cells #[.pointer (some ⟨kk, 0, none⟩), .int .i64 nx, .slice fa fn fc] 159)) kk f := hS.blk (b1.block kk hS.lt)
    have o1 := hown.alloc (.cells #[.pointer (some ⟨kk, 0, none⟩), .int .i64 nx, .slice fa fn fc] 159)
    have hsz : wr.heap.size < (wr.alloc (.cells #[.pointer (some ⟨kk, 0, none⟩), .int .i64 nx, .slice fa fn fc] 159)).heap.size := by rw [World.size_alloc]; omega
    have e0 : (wr.alloc (.cells #[.pointer (some ⟨kk, 0, none⟩), .int .i64 nx, .slice fa fn fc] 159)).cell? ⟨wr.heap.size, 0, none⟩ = some (.pointer (some ⟨kk, 0, none⟩)) := by rw [cell_of_row _ _ _ _ _ _ x0]; rfl
    have e1 : (wr.alloc (.cells #[.pointer (some ⟨kk, 0, none⟩), .int .i64 nx, .slice fa fn fc] 159)).cell? ⟨wr.heap.size, 1, none⟩ = some (.int .i64 nx) := by rw [cell_of_row _ _ _ _ _ _ x0]; rfl
    generalize wr.alloc (.cells #[.pointer (some ⟨kk, 0, none⟩), .int .i64 nx, .slice fa fn fc] 159) = W at *
    have hk := has_is W kk f c S1 hc
    have hnw : (W.alloc (.cells #[.int .i64 nx] 3)).heap[W.heap.size]? = some (.cells #[.int .i64 nx] 3 (0, 0)) := heap_alloc_new _ _
    have HNW := Lib.hid hnw
    have o2 := o1.alloc (.cells #[.int .i64 nx] 3)
    have b2 := b1.alloc b1.size (.cells #[.int .i64 nx] 3)
    have hb2 : w.heap.size ≤ (W.alloc (.cells #[.int .i64 nx] 3)).heap.size := b2.size
    have hsz2 : (W.alloc (.cells #[.int .i64 nx] 3)).heap.size = W.heap.size + 1 := World.size_alloc _ _
    have hone : ∀ u ∈ ([.int .i64 nx] : List Value), u.oneCell' = true := by
     intro u hu; simp at hu; subst hu; rfl
    clear hnw
    go_wp2_with fail
    refine hk.mono ?_
    rintro e w' ⟨rfl, hww⟩
    obtain rfl := hww.symm
    cases hfc : f c with
    | false =>
     rw [hfc] at hE
     clear hk
     go_wp2
     refine ⟨⟨j + 1, by omega, by go_num, ?_, b1⟩, by simp [intOf]; omega⟩
     rw [hE.out]; simp only [Bool.false_eq_true, if_false, List.append_nil]; exact o1
    | true =>
     rw [hfc] at hE
     clear hk
     go_wp2_with (at_builtin; (refine wpList_append_lies _ rfl (.tmp 33) (.tmp 36) 136 rfl w.heap.size 3 i0 (.int .i64 0) 1 8 Tryz.underlying136 hi hz0 hz1 hz2 rfl (by decide) _ _ _ rfl o2 ⟨W.heap.size, 0, none⟩ 1 1 [.int .i64 nx] rfl rfl (World.news_of_block HNW.out) hone (by decide) (by unfold maxLen; omega) (by omega) hb2 (W.heap.size + 1) hsz2 ?_); intro go cp w2 hown2 hgrow2 hat2 hlt2)
     refine ⟨⟨j + 1, by omega, by go_num, ?_, b2.grown hgrow2 hb2 (fun m e => (o2.lt m e).1)⟩, by simp [intOf]; omega⟩
     rw [hE.out]; simp only [if_true, List.length_append, freeC_app]; exact hown2
  ·obtain rfl : j = l.length := by omega
   rw [List.take_length] at hown
   have hk := HRE.out wr _ hb hown
   go_wp2_with fail
   refine hk.mono ?_
   rintro e w' ⟨v', out, rfl, h1, h2, h3, h4⟩
   go_wp2
   go_ret
   exact ⟨v', out, rfl, own_base h1 hb.size, hb.trans (h2.mono hb.size), h3, h4⟩
end Go.Proofs.YtgbapkechngnmaaGreat
/- pattern's Fits, of a pattern and of a text: contracts. -/
namespace Go.Proofs.YtgbapkechngnmaaGreat
open Go.RowKit
/-! plain: the states behind some bytes -/
inductive Rn (sts : List St) (st : Nat) : List Nat → Nat → Prop
 | start {k : Nat} : FR sts st k → Rn sts st [] k
 | byte {cs : List Nat} {c j k : Nat} {x : St} : Rn sts st cs j → sts[j]? = some x → goB x c = true → FR sts x.next k → Rn sts st (cs ++ [c]) k
theorem Rn_nil {sts : List St} {st k : Nat} : Rn sts st [] k ↔ Cl sts [st] k := by
 constructor
 ·intro h
  cases hcs : ([] : List Nat) with
  | nil => 
   generalize hg : ([] : List Nat) = l at h
   cases h with
   | start h => exact ⟨st, List.mem_singleton.2 rfl, h⟩
   | byte => simp at hg
  | cons => cases hcs
 ·rintro ⟨j, hj, hr⟩
  rw [List.mem_singleton.1 hj] at hr
  exact .start hr
theorem Rn_snoc {sts : List St} {st : Nat} {cs : List Nat} {c k : Nat} {out : List Nat} (ho : ∀ k, k ∈ out ↔ Rn sts st cs k) : Rn sts st (cs ++ [c]) k ↔ Cl sts (goN sts c out) k := by
 constructor
 ·intro h
  generalize hg : cs ++ [c] = l at h
  cases h with
  | start h => simp at hg
  | byte h1 h2 h3 h4 =>
   rename_i cs' c' j x
   obtain ⟨h5, h6⟩ := List.append_inj' hg rfl
   subst h5
   simp only [List.cons.injEq, and_true] at h6
   subst h6
   refine ⟨x.next, List.mem_flatMap.2 ⟨j, (ho j).2 h1, ?_⟩, h4⟩
   unfold go1; rw [h2]; simp [h3]
 ·rintro ⟨j, hj, hr⟩
  obtain ⟨q, hq, h1⟩ := List.mem_flatMap.1 hj
  unfold go1 at h1
  split at h1
  ·rename_i x hx
   split at h1
   ·rename_i hg
    rw [List.mem_singleton.1 h1] at hr
    exact .byte ((ho q).1 hq) hx hg hr
   ·cases h1
  ·cases h1
theorem Rn_lt {sts : List St} (h : SWf sts) {st : Nat} (hs : st < sts.length) {cs : List Nat} {k : Nat} (hr : Rn sts st cs k) : k < sts.length := by
 cases hr with
 | start h1 => exact FR_lt h h1 hs
 | byte _ h2 _ h4 => exact FR_lt h h4 (h _ (List.mem_of_getElem? h2)).2
theorem rising_len {n : Nat} {l : List Nat} (h : RisingN l) (hb : ∀ k ∈ l, k < n) : l.length ≤ n := nodup_lt (h.imp (fun h => Nat.ne_of_lt h)) hb
def bytesN (t : ByteArray) : List Nat := (B t).map (·.toNat)
theorem bytesN_len (t : ByteArray) : (bytesN t).length = t.size := by simp [bytesN]
theorem bytesN_lt {t : ByteArray} {c : Nat} (h : c ∈ bytesN t) : c < 256 := by
 obtain ⟨x, _, rfl⟩ := List.mem_map.1 h
 exact x.toNat_lt
theorem contains_row (w : World) (base : Nat) (l : List Nat) (v : Value) (x : Nat) (h : w.ownsRow base 3 1 v l.length (freeC l)) (hl : l.length ≤ 1000000) :
  Calls Tryz.prog 88 #[v, .int .i64 x] w fun e w' => ∃ b, e = .returned (.bool b) ∧ (b = true ↔ x ∈ l) ∧ w' = w := by
 rcases Nat.eq_zero_or_pos l.length with h0 | h0
 ·have hnil : l = [] := List.length_eq_zero_iff.1 h0
  subst hnil
  obtain ⟨a, c, rfl, _⟩ := own_shape h
  refine (Tryz.slices_Contains_int_empty a c x w).mono ?_
  rintro e w' ⟨rfl, rfl⟩
  exact ⟨_, rfl, by simp, rfl⟩
 ·obtain ⟨b, o, c, rfl, hcc, _, hcell⟩ := RdAt.some (RdAt.own h) h0
  have hil : (intsN l).length = l.length := by simp [intsN]
  refine (Tryz.slices_Contains_int b o l.length c (intsN l) x w (by omega) (by omega) (fun j hj => ?_)).mono ?_
  ·refine hcell j _ ?_
   rw [freeC_ints, List.getElem?_map, List.getD_eq_getElem?_getD, List.getElem?_eq_getElem hj]; rfl
  ·rintro e w' ⟨rfl, rfl⟩
   refine ⟨_, rfl, ?_, rfl⟩
   rw [← hil, List.take_length]
   simp only [List.contains_eq_mem, decide_eq_true_eq, intsN, List.mem_map]
   exact ⟨fun ⟨a, h1, h2⟩ => by rw [← Int.ofNat.inj h2]; exact h1, fun h => ⟨x, h, rfl⟩⟩
set_option maxHeartbeats 3200000 in
set_option maxRecDepth 100000 in
theorem pfits_is (w : World) (a : Nat) (s : ByteArray) (sts : List St) (st en : Nat) (t : ByteArray) (hp : PatAt w a s sts st en) (hw : SWf sts) (hN : tot sts ≤ 100000) (hs : st < sts.length) (ht : t.size ≤ maxLen) :
  Calls Tryz.prog 67 #[.pointer (some ⟨a, 0, none⟩), .string t] w fun e w' => ∃ b, e = .returned (.bool b) ∧ (b = true ↔ Rn sts st (bytesN t) en) ∧ Below w.heap.size w w' := by
 have hNl : sts.length ≤ 100000 := Nat.le_trans (len_tot _) hN
 unfold maxLen at ht
 obtain ⟨sa, sn, sc, c1, _, c2, c3, halt, _⟩ := hp.cells
 have hr1 : ∀ W (v : Value) (l : List Nat), Below w.heap.size w W → RdAt W v l.length 1 (freeC l) → (∀ j ∈ l, j < sts.length) → l.length ≤ 1000000 → Calls Tryz.prog 86 #[.pointer (some ⟨a, 0, none⟩), v] W fun e w' => ∃ v' out, e = .returned v' ∧ w'.ownsRow W.heap.size 3 1 v' out.length (freeC out) ∧ Below W.heap.size W w' ∧ RisingN out ∧ ∀ k, k ∈ out ↔ Cl sts l k :=
  fun W v l hb hv hl hll => reach_is W a s sts st en l v (hp.below hb) hw hN hv hl hll
 have hr2 : ∀ W (v : Value) (l : List Nat) (c : Nat), c < 256 → Below w.heap.size w W → RdAt W v l.length 1 (freeC l) → (∀ j ∈ l, j < sts.length) → l.length ≤ 1000000 → Calls Tryz.prog 87 #[.pointer (some ⟨a, 0, none⟩), v, .int .u8 c] W fun e w' => ∃ v' out, e = .returned v' ∧ w'.ownsRow W.heap.size 3 1 v' out.length (freeC out) ∧ Below W.heap.size W w' ∧ RisingN out ∧ ∀ k, k ∈ out ↔ Cl sts (goN sts c l) k :=
  fun W v l c hc hb hv hl hll => step_is W a s sts st en l v c hc (hp.below hb) hw hN hv hl hll
 have H1 := Lib.hid hr1
 have H2 := Lib.hid hr2
 have HW := Lib.hid hw
 have hba := alloc_below w (.cells #[.int .i64 st] 3)
 have x0 := heap_alloc_new w (.cells #[.int .i64 st] 3)
 have hv0 : RdAt (w.alloc (.cells #[.int .i64 st] 3)) (.slice (some ⟨w.heap.size, 0, none⟩) 1 1) [st].length 1 (freeC [st]) :=
  RdAt.mk (by simp [freeC]) (Nat.le_refl _) (by rw [World.size_alloc]; omega) (fun j x hj => by
   obtain ⟨h1, h2⟩ := List.getElem?_eq_some_iff.1 hj
   have h0 : j = 0 := by simp [freeC] at h1; omega
   subst h0
   rw [cell_of_row _ _ _ _ _ _ x0]
   simp [freeC] at h2
   simp [h2])
 have hk1 := hr1 _ _ [st] hba hv0 (fun j hj => by rw [List.mem_singleton.1 hj]; exact hs) (by simp)
 have HK1 := Lib.hid hk1
 have hcv := fun W => Lib.run_convert_string_bytes (P := Tryz.prog) W 9 43 5 t Tryz.underlying9 Tryz.underlying43 Tryz.underlying5
 clear hp hw hr1 hr2 hv0 x0 hk1
 go_enter Tryz.func67, Tryz.ntmps67
 go_wp2_with fail
 refine HK1.out.mono ?_
 rintro e w1 ⟨v1, out1, rfl, ho1, hb1, hri1, hm1⟩
 rw [World.size_alloc] at ho1
 have hB1 : Below w.heap.size w w1 := hba.trans (hb1.mono (by rw [World.size_alloc]; omega))
 have hO1 := own_base ho1 (show w.heap.size ≤ w.heap.size + 1 by omega)
 have hcell : ∀ j (h : j < t.size), (Lib.bytesWorld w1 5 t).cell? ⟨w1.heap.size, j, none⟩ = some (.int .u8 ((bytesN t)[j]'(by rw [bytesN_len]; exact h) : Nat)) := by
  intro j h
  rw [Lib.bytesWorld_cell w1 5 t j h]
  simp only [List.getD, List.getElem?_eq_getElem (l := t.data.toList) (i := j) (by simpa using h)]
  simp [bytesN, B]
 have HC := Lib.hid hcell
 have hbw : Below w1.heap.size w1 (Lib.bytesWorld w1 5 t) := ⟨rfl, rfl, rfl, by rw [Lib.bytesWorld_size]; omega, fun k hk => Lib.bytesWorld_at_old w1 5 t k hk⟩
 have hB2 : Below w.heap.size w (Lib.bytesWorld w1 5 t) := hB1.trans (hbw.mono hB1.size)
 have hO2 := ownsRow_below hO1 hbw
 have hws : w1.heap.size < (Lib.bytesWorld w1 5 t).heap.size := by rw [Lib.bytesWorld_size]; omega
 have HM1 : Hid (∀ k, k ∈ out1 ↔ Rn sts st [] k) := Lib.hid (fun k => by rw [hm1 k, Rn_nil])
 have hcw := hcv w1
 clear hcell hcv hm1 ho1 HK1 hba hb1 hO1
 go_upto_region 5 with fail
 generalize Lib.bytesWorld w1 5 t = w2 at *
 generalize grownCap w1 t.size 0 5 = gc at *
 generalize hbe : w1.heap.size = be at *
 clear hcw hbw
 have HO2 := Lib.hid hO2
 have HR1 := Lib.hid hri1
 have HB2 := Lib.hid hB2
 clear hO2 hri1 hB2
 go_loopw [5, 20] (fun vl vi wr => ∃ (j : Nat) (out : List Nat), j ≤ t.size ∧ vi = .int .i64 j ∧ Hid (wr.ownsRow w.heap.size 3 1 vl out.length (freeC out)) ∧ Hid (RisingN out) ∧ Hid (Below w.heap.size w wr) ∧ Hid (∀ k, k ∈ out ↔ Rn sts st ((bytesN t).take j) k) ∧ (j < t.size → wr.cell? ⟨be, j, none⟩ = some (.int .u8 ((bytesN t).getD j 0 : Nat))) ∧ Hid (∀ j (h : j < t.size), wr.cell? ⟨be, j, none⟩ = some (.int .u8 ((bytesN t)[j]'(by rw [bytesN_len]; exact h) : Nat))) ∧ be < wr.heap.size) (fun _ vi _ => t.size - (intOf vi).toNat)
 case atStart => exact ⟨0, out1, Nat.zero_le _, rfl, HO2, HR1, HB2, HM1, fun h => by rw [HC.out 0 h, List.getD_eq_getElem?_getD, List.getElem?_eq_getElem (by rw [bytesN_len]; exact h)]; rfl, HC, hws⟩
 case round =>
  obtain ⟨j, out, hj, rfl, HO, HR, HB, HM, hcj, HCJ, hbe2⟩ := hrel
  have hlt : ∀ k ∈ out, k < sts.length := fun k hk => Rn_lt HW.out hs ((HM.out k).1 hk)
  have hle : out.length ≤ 1000000 := Nat.le_trans (rising_len HR.out hlt) (by omega)
  by_cases hjt : j < t.size
  ·replace hcj := hcj hjt
   obtain ⟨c, hce⟩ : ∃ c, (bytesN t).getD j 0 = c := ⟨_, rfl⟩
   have hjl : j < (bytesN t).length := by rw [bytesN_len]; exact hjt
   have hc : c < 256 := by
    rw [← hce, List.getD_eq_getElem?_getD, List.getElem?_eq_getElem hjl]
    exact bytesN_lt (List.getElem_mem hjl)
   have HT : Hid ((bytesN t).take (j + 1) = (bytesN t).take j ++ [c]) := Lib.hid (by
    rw [List.take_succ_eq_append_getElem hjl, ← hce, List.getD_eq_getElem?_getD, List.getElem?_eq_getElem hjl]; rfl)
   rw [hce] at hcj
   have hk := H2.out wr u5 out c hc HB.out (RdAt.own HO.out) hlt hle
   clear hlt
   go_wp2_with fail
   refine hk.mono ?_
   rintro e w3 ⟨v3, out3, rfl, h1, h2, h3, h4⟩
   have H4 : Hid (Below wr.heap.size wr w3) := Lib.hid h2
   have H5 : Hid (w3.ownsRow wr.heap.size 3 1 v3 out3.length (freeC out3)) := Lib.hid h1
   have H6 := Lib.hid h4
   have q1 : Hid (w3.ownsRow w.heap.size 3 1 v3 out3.length (freeC out3)) := Lib.hid (own_base H5.out HB.out.size)
   have q2 : Hid (RisingN out3) := Lib.hid h3
   have q3 : Hid (Below w.heap.size w w3) := Lib.hid (HB.out.trans (H4.out.mono HB.out.size))
   have q4 : Hid (∀ k, k ∈ out3 ↔ Rn sts st ((bytesN t).take (j + 1)) k) := Lib.hid (fun k => by rw [H6.out k, HT.out, Rn_snoc HM.out])
   have q6 : Hid (∀ j (h : j < t.size), w3.cell? ⟨be, j, none⟩ = some (.int .u8 ((bytesN t)[j]'(by rw [bytesN_len]; exact h) : Nat))) := Lib.hid (fun i hi => (H4.out.cell (p := ⟨be, i, none⟩) hbe2).trans (HCJ.out i hi))
   have q5 : Hid (j + 1 < t.size → w3.cell? ⟨be, j + 1, none⟩ = some (.int .u8 ((bytesN t).getD (j + 1) 0 : Nat))) := Lib.hid (fun h => by
    rw [q6.out (j + 1) h, List.getD_eq_getElem?_getD, List.getElem?_eq_getElem (by rw [bytesN_len]; exact h)]; rfl)
   have q7 : be < w3.heap.size := Nat.lt_of_lt_of_le hbe2 H4.out.size
   clear hk h1 h2 h4 h3 H4 H5 H6 HO HR HB HM HCJ hbe2 hcj HT
   go_wp2
   go_roundw
   case rel => exact ⟨j + 1, out3, by omega, by go_num, q1, q2, q3, q4, q5.out, q6, q7⟩
   case measure => (simp [intOf]; try omega)
  ·obtain rfl : j = t.size := by omega
   have hk := contains_row wr _ out u5 en HO.out hle
   have d3 := keep_cell c3 HB.out halt
   have hall : (bytesN t).take t.size = bytesN t := by rw [← bytesN_len, List.take_length]
   rw [hall] at HM
   clear hcj
   go_wp2_with fail
   refine hk.mono ?_
   rintro e w3 ⟨b, rfl, h1, hww⟩
   obtain rfl := hww.symm
   clear hk
   go_wp2
   go_ret
   exact ⟨b, rfl, h1.trans (HM.out en), HB.out⟩
theorem pfits_nil (w : World) (t : ByteArray) : Calls Tryz.prog 67 #[.pointer none, .string t] w fun e w' => e = .returned (.bool false) ∧ w' = w := by
 go_enter Tryz.func67, Tryz.ntmps67
 go_wp2
 go_ret
 exact ⟨rfl, rfl⟩
def FitsP (p t : ByteArray) : Prop := errM p = 0 ∧ Rn (endR p).sts (runR p).2.1 (bytesN t) (runR p).2.2
theorem runR_len (p : ByteArray) (h : p.size ≤ 100) : tot (endR p).sts ≤ 100000 := by
 have h1 := (runR_ok p).gd.tot
 have h2 := (runR_ok p).top
 rw [endR_sts]
 simp only [costM, bs0, tot, List.map_nil, List.sum_nil] at h1
 unfold tot
 omega
theorem errM_size {p : ByteArray} (h : errM p = 0) : p.size ≤ 100 := by
 unfold errM at h
 split at h
 ·cases h
 ·omega
theorem runR_swf (p : ByteArray) : SWf (endR p).sts := by
 rw [endR_sts]
 exact runM_wf p _ .either 0 bs0 (by omega) (by simp [bs0]) (fun h => by cases h) trivial (by simp [fuelM, bs0]) (fun x hx => by simp [bs0] at hx)
theorem runR_st (p : ByteArray) : (runR p).2.1 < (endR p).sts.length := by rw [endR_sts]; exact (runR_ok p).p1
set_option maxHeartbeats 1600000 in
theorem tfits_is (p t : ByteArray) (w : World) (ht : t.size ≤ maxLen) : Calls Tryz.prog 40 #[.string p, .string t] w fun e w' => ∃ b, e = .returned (.bool b) ∧ (b = true ↔ FitsP p t) ∧ Below w.heap.size w w' := by
 have hr := read_is p w
 have hf : ∀ W a, errM p = 0 → PatAt W a p (endR p).sts (runR p).2.1 (runR p).2.2 → Calls Tryz.prog 67 #[.pointer (some ⟨a, 0, none⟩), .string t] W fun e w' => ∃ b, e = .returned (.bool b) ∧ (b = true ↔ Rn (endR p).sts (runR p).2.1 (bytesN t) (runR p).2.2) ∧ Below W.heap.size W w' :=
  fun W a he h => pfits_is W a p _ _ _ t h (runR_swf p) (runR_len p (errM_size he)) (runR_st p) ht
 have HF := Lib.hid hf
 clear hf
 go_enter Tryz.func40, Tryz.ntmps40
 go_wp2_with fail
 refine hr.mono ?_
 rintro e w1 ⟨hb, ⟨hne, rfl⟩ | ⟨he, a, rfl, hp, _⟩⟩
 ·have hk := pfits_nil w1 t
  go_wp2_with fail
  refine hk.mono ?_
  rintro e w3 ⟨rfl, hww⟩
  obtain rfl := hww.symm
  clear hk
  go_wp2
  go_ret
  exact ⟨false, rfl, ⟨(fun h => by cases h), fun h => absurd h.1 hne⟩, hb⟩
 ·have hk := HF.out w1 a he hp
  go_wp2_with fail
  refine hk.mono ?_
  rintro e w3 ⟨b, rfl, h1, h2⟩
  clear hk
  go_wp2
  go_ret
  exact ⟨b, rfl, h1.trans ⟨fun h => ⟨he, h⟩, fun h => h.2⟩, hb.trans (h2.mono hb.size)⟩
end Go.Proofs.YtgbapkechngnmaaGreat
/- Several parts in one: Matchers: what lies in memory; match.Fine, Value, is, not: contracts. slices.IndexFunc and ContainsFunc at matchers and at fields, whatever the closure: contracts; match.Value. -/
namespace Go.Proofs.YtgbapkechngnmaaGreat
open Go.RowKit
structure Mt where
 nm : ByteArray
 op : Int
 val : ByteArray
instance : Inhabited Mt := ⟨⟨⟨#[]⟩, 0, ⟨#[]⟩⟩⟩
def mtC (m : Mt) : List Value := [.string m.nm, .int .i64 m.op, .string m.val]
abbrev mtV (m : Mt) : Value := .agg #[.string m.nm, .int .i64 m.op, .string m.val]
def mtCells : List Mt → List Value
 | [] => []
 | m :: l => .string m.nm :: .int .i64 m.op :: .string m.val :: mtCells l
theorem mtCells_len (l : List Mt) : (mtCells l).length = l.length * 3 := by
 induction l with
 | nil => rfl
 | cons s l ih => simp [mtCells, ih]; omega
theorem mtCells_append (a b : List Mt) : mtCells (a ++ b) = mtCells a ++ mtCells b := by
 induction a with
 | nil => rfl
 | cons s l ih => simp [mtCells, ih]
theorem mtCells_at (l : List Mt) (i : Nat) (h : i < l.length) : (mtCells l)[i * 3]? = some (.string l[i].nm) ∧ (mtCells l)[i * 3 + 1]? = some (.int .i64 l[i].op) ∧ (mtCells l)[i * 3 + 2]? = some (.string l[i].val) := by
 induction l generalizing i with
 | nil => cases h
 | cons s l ih =>
  cases i with
  | zero => simp [mtCells]
  | succ i =>
   obtain ⟨h1, h2, h3⟩ := ih i (by simpa using h)
   have e : (i + 1) * 3 = i * 3 + 3 := by omega
   rw [e]
   simp only [mtCells, List.getElem_cons_succ]
   refine ⟨?_, ?_, ?_⟩
   ·rw [show i * 3 + 3 = i * 3 + 1 + 1 + 1 by omega]; simpa using h1
   ·rw [show i * 3 + 3 + 1 = i * 3 + 1 + 1 + 1 + 1 by omega]; simpa using h2
   ·rw [show i * 3 + 3 + 2 = i * 3 + 2 + 1 + 1 + 1 by omega]; simpa using h3
def MtsAt (w : World) (v : Value) (l : List Mt) : Prop := RdAt w v l.length 3 (mtCells l)
theorem MtsAt.later {w w' : World} {v : Value} {l : List Mt} (h : MtsAt w v l) (hb : Below w.heap.size w w') : MtsAt w' v l := RdAt.later h hb
def MtFit (m : Mt) : Prop := m.nm.size ≤ maxLen ∧ m.val.size ≤ maxLen
def MtsFit (l : List Mt) : Prop := ∀ m ∈ l, MtFit m
def fineM (m : Mt) : Bool := nameL (B m.nm) && decide (0 ≤ m.op) && decide (m.op ≤ 3) && decide (m.val.size ≤ 200) && (decide (m.op < 2) || decide (errM m.val = 0))
theorem fineM_true {m : Mt} (h : fineM m = true) : nameL (B m.nm) = true ∧ 0 ≤ m.op ∧ m.op ≤ 3 ∧ m.val.size ≤ 200 ∧ (m.op < 2 ∨ errM m.val = 0) := by
 unfold fineM at h
 simp only [Bool.and_eq_true, Bool.or_eq_true, decide_eq_true_eq] at h
 obtain ⟨⟨⟨⟨h1, h2⟩, h3⟩, h4⟩, h5⟩ := h
 exact ⟨h1, h2, h3, h4, h5⟩
theorem box3m {w W : World} {a b c : Value} {t : TypeId} (hb : Below (w.alloc (.cells #[a, b, c] t)).heap.size (w.alloc (.cells #[a, b, c] t)) W) :
  (W.cell? ⟨w.heap.size, 0, none⟩ = some a ∧ W.cell? ⟨w.heap.size, 1, none⟩ = some b ∧ W.cell? ⟨w.heap.size, 2, none⟩ = some c) ∧ w.heap.size < W.heap.size ∧ Below w.heap.size w W := by
 obtain ⟨h, h2, h3⟩ := box_cells hb
 exact ⟨⟨h 0 _ rfl, h 1 _ rfl, h 2 _ rfl⟩, h2, h3⟩
set_option maxHeartbeats 1600000 in
set_option maxRecDepth 100000 in
theorem mfine_any (m : Mt) (w : World) (hf : MtFit m) : Calls Tryz.prog 23 #[.agg #[.string m.nm, .int .i64 m.op, .string m.val]] w fun e w' => e = .returned (.bool (fineM m)) ∧ Below w.heap.size w w' := by
 have kn := fun W => name_any m.nm W hf.1
 have kr := fun W => right_is m.val W
 have hz := hf.2
 have HF : Hid (fineM m = (nameL (B m.nm) && decide (0 ≤ m.op) && decide (m.op ≤ 3) && decide (m.val.size ≤ 200) && (decide (m.op < 2) || decide (errM m.val = 0)))) := Lib.hid rfl
 obtain ⟨nm, op, val⟩ := m
 dsimp only at *
 generalize fineM ⟨nm, op, val⟩ = R at *
 generalize nameL (B nm) = N at *
 have HR := Lib.hid kr
 unfold maxLen at hz
 clear hf kr
 have kn0 := kn (w.alloc (.cells #[.string nm, .int .i64 op, .string val] 29))
 clear kn
 go_enter Tryz.func23, Tryz.ntmps23
 go_wp2_with fail
 refine kn0.mono ?_
 rintro e w1 ⟨rfl, hb1⟩
 obtain ⟨⟨x0, x1, x2⟩, hlt, hB1⟩ := box3m hb1
 have HB := Lib.hid hB1
 clear kn0 hb1 hB1
 cases N with
 | false =>
  go_wp2
  go_ret
  exact ⟨by rw [HF.out]; rfl, HB.out⟩
 | true =>
  by_cases h0 : op < 0
  ·rw [show decide (0 ≤ op) = false from decide_eq_false (by omega)] at HF
   go_wp2
   go_ret
   exact ⟨by rw [HF.out]; rfl, HB.out⟩
  ·rw [show decide (0 ≤ op) = true from decide_eq_true (by omega)] at HF
   by_cases h3 : 3 < op
   ·rw [show decide (op ≤ 3) = false from decide_eq_false (by omega)] at HF
    go_wp2
    go_ret
    exact ⟨by rw [HF.out]; rfl, HB.out⟩
   ·rw [show decide (op ≤ 3) = true from decide_eq_true (by omega)] at HF
    by_cases hs : 200 < val.size
    ·rw [show decide (val.size ≤ 200) = false from decide_eq_false (by omega)] at HF
     go_wp2
     go_ret
     exact ⟨by rw [HF.out]; rfl, HB.out⟩
    ·rw [show decide (val.size ≤ 200) = true from decide_eq_true (by omega)] at HF
     by_cases h2 : op < 2
     ·rw [show decide (op < 2) = true from decide_eq_true h2] at HF
      go_wp2
      go_ret
      exact ⟨by rw [HF.out]; rfl, HB.out⟩
     ·rw [show decide (op < 2) = false from decide_eq_false h2] at HF
      have kr := HR.out w1
      have hde : Hid ((errM val == 0) = decide (errM val = 0)) := Lib.hid (by rw [Bool.eq_iff_iff]; simp)
      generalize errM val = E at *
      go_wp2_with fail
      refine kr.mono ?_
      rintro e w2 ⟨rfl, hb2⟩
      clear kr
      go_wp2
      go_ret
      exact ⟨by show Ending.returned (.bool (decide (op < 2) || E == 0)) = _; rw [HF.out, ← hde.out, decide_eq_false (show ¬ op < 2 by omega)]; rfl, HB.out.trans (hb2.mono HB.out.size)⟩
theorem is_any (a b : ByteArray) (w : World) : Calls Tryz.prog 38 #[.string a, .string b] w fun e w' => e = .returned (.bool (b.toList == a.toList)) ∧ Below w.heap.size w w' := by
 go_enter Tryz.func38, Tryz.ntmps38
 go_wp2
 go_ret
 exact ⟨rfl, Below.refl _ _⟩
end Go.Proofs.YtgbapkechngnmaaGreat
namespace Go.Proofs.YtgbapkechngnmaaGreat
open Go.RowKit
theorem idx_findM {α : Type} (p : α → Bool) (x : α) : ∀ (l : List α) (i : Nat),
  (∃ k, ∃ h : k < l.length, Lib.idxByFrom (fun _ y => p y) x l i = ((i + k : Nat) : Int) ∧ l.find? p = some l[k] ∧ l.any p = true) ∨
  (Lib.idxByFrom (fun _ y => p y) x l i = -1 ∧ l.find? p = none ∧ l.any p = false)
 | [], i => .inr ⟨rfl, rfl, rfl⟩
 | y :: r, i => by
  by_cases h : p y = true
  ·exact .inl ⟨0, Nat.succ_pos _, by simp [Lib.idxByFrom, h], by simp [h], by simp [h]⟩
  ·have h' : p y = false := by simpa using h
   rcases idx_findM p x r (i + 1) with ⟨k, hk, h1, h2, h3⟩ | ⟨h1, h2, h3⟩
   ·refine .inl ⟨k + 1, by simpa using hk, ?_, by simp [h', h2], by simp [h', h3]⟩
    simp only [Lib.idxByFrom, h']
    rw [show (if false = true then (i : Int) else Lib.idxByFrom (fun _ y => p y) x r (i + 1)) = Lib.idxByFrom (fun _ y => p y) x r (i + 1) from rfl, h1]
    congr 1; omega
   ·refine .inr ⟨?_, by simp [h', h2], by simp [h', h3]⟩
    simp only [Lib.idxByFrom, h']
    rw [show (if false = true then (i : Int) else Lib.idxByFrom (fun _ y => p y) x r (i + 1)) = Lib.idxByFrom (fun _ y => p y) x r (i + 1) from rfl, h1]
abbrev MtF := { m : Mt // MtFit m }
instance : Inhabited MtF := ⟨⟨⟨⟨#[]⟩, 0, ⟨#[]⟩⟩, by unfold MtFit maxLen; decide⟩⟩
theorem mtF_list : ∀ l : List Mt, MtsFit l → ∃ l' : List MtF, l'.map Subtype.val = l
 | [], _ => ⟨[], rfl⟩
 | m :: l, h => by
  obtain ⟨l', h'⟩ := mtF_list l (fun x hx => h x (List.mem_cons_of_mem _ hx))
  exact ⟨⟨m, h m List.mem_cons_self⟩ :: l', by rw [List.map_cons, h']⟩
theorem mtC_at (l : List Mt) (j : Nat) (h : j < l.length) (i : Nat) (v : Value) (hi : (mtC l[j])[i]? = some v) : (mtCells l)[j * 3 + i]? = some v := by
 obtain ⟨h1, h2, h3⟩ := mtCells_at l j h
 match i, hi with
 | 0, hi => rw [Nat.add_zero, h1]; exact hi
 | 1, hi => rw [h2]; exact hi
 | 2, hi => rw [h3]; exact hi
 | i + 3, hi => simp [mtC] at hi
theorem idxm_empty (a : Option Addr) (c : Nat) (f : Value) (w : World) :
  Calls Tryz.prog 71 #[.slice a 0 c, f] w fun e w' => e = .returned (.int .i64 (-1)) ∧ w' = w := by
 go_enter Tryz.func71, Tryz.ntmps71
 go_wp2
 refine wp_loop_rounds 1 ?_
 rw [rounds_succ]
 go_wp2
 go_ret
 exact ⟨rfl, rfl⟩
theorem idxm_gen (l : List Mt) (hfit : MtsFit l) (p : Mt → Bool) (g : Nat) (lb : Array Value) (eg : ∀ args w, (callFunc g args).run Tryz.prog w = .ok (.enter g args) w) (v : Value) (w : World) (hv : MtsAt w v l) (hl : l.length ≤ 1000000000000)
  (hp : ∀ W m, MtFit m → Below w.heap.size w W → Calls Tryz.prog g (#[mtV m] ++ lb) W fun e w' => e = .returned (.bool (p m)) ∧ Below W.heap.size W w') :
  Calls Tryz.prog 71 #[v, .func (.func g) #[] lb] w fun e w' => ∃ i : Int, e = .returned (.int .i64 i) ∧ decide (0 ≤ i) = l.any p ∧ Below w.heap.size w w' := by
 obtain ⟨a, c, rfl, hc, hr⟩ := RdAt.shape hv
 rcases Nat.eq_zero_or_pos l.length with h0 | h0
 ·have hnil : l = [] := List.length_eq_zero_iff.1 h0
  subst hnil
  refine (idxm_empty _ _ _ _).mono ?_
  rintro e w' ⟨rfl, rfl⟩
  exact ⟨_, rfl, rfl, Below.refl _ _⟩
 ·obtain ⟨gb, o, rfl, hg, hcell⟩ := hr h0
  obtain ⟨l', hl'⟩ : ∃ l' : List MtF, l'.map Subtype.val = l := mtF_list l hfit
  have hlen : l'.length = l.length := by rw [← hl', List.length_map]
  have hpb : PredBelow Tryz.prog g lb (fun x : MtF => .agg (mtC x.1).toArray) (fun x => p x.1) w := fun W x hW => by
   refine Calls.mono (hp W x.1 x.2 hW) ?_
   rintro e w' ⟨rfl, hb⟩
   exact ⟨rfl, hW.trans (hb.mono hW.size)⟩
  have h := AnyQ.slices_IndexFunc (α := MtF) Tryz.laysIdxM 3 Tryz.isAgg29 Tryz.sizeOf29 (fun x => mtC x.1) (fun _ => rfl) (fun x => p x.1) g lb eg gb o l.length c l' w hpb (by omega) (by omega) hg (fun j hj i x hx => by
    have hj' : j < l'.length := by omega
    have he : l[j]'(by omega) = (l'[j]'hj').1 := by
     have : (l'.map Subtype.val)[j]'(by rw [List.length_map]; exact hj') = (l'[j]'hj').1 := List.getElem_map ..
     rw [← this]; congr 1; exact hl'.symm
    have := hcell (j * 3 + i) x (mtC_at l j (by omega) i x (by rw [he]; rw [List.getElem!_eq_getElem?_getD, List.getElem?_eq_getElem hj'] at hx; exact hx))
    rw [show o + j * 3 + i = o + (j * 3 + i) by omega]
    exact this)
  rw [← hlen, List.take_length] at h
  rw [hlen] at h
  refine h.mono ?_
  rintro e w' ⟨rfl, hb⟩
  refine ⟨_, rfl, ?_, hb⟩
  have ha : l.any p = l'.any (fun x => p x.1) := by rw [← hl', List.any_map]; rfl
  rw [ha]
  unfold Lib.idxBy
  rcases idx_findM (fun x : MtF => p x.1) default l' 0 with ⟨k, _, h1, _, h3⟩ | ⟨h1, _, h3⟩
  ·rw [h1, h3]; simp
  ·rw [h1, h3]; decide
set_option maxHeartbeats 800000 in
theorem hasm_gen (l : List Mt) (hfit : MtsFit l) (p : Mt → Bool) (g : Nat) (lb : Array Value) (eg : ∀ args w, (callFunc g args).run Tryz.prog w = .ok (.enter g args) w) (v : Value) (w : World) (hv : MtsAt w v l) (hl : l.length ≤ 1000000000000)
  (hp : ∀ W m, MtFit m → Below w.heap.size w W → Calls Tryz.prog g (#[mtV m] ++ lb) W fun e w' => e = .returned (.bool (p m)) ∧ Below W.heap.size W w') :
  Calls Tryz.prog 45 #[v, .func (.func g) #[] lb] w fun e w' => e = .returned (.bool (l.any p)) ∧ Below w.heap.size w w' := by
 have hk := idxm_gen l hfit p g lb eg v w hv hl hp
 generalize l.any p = R at *
 obtain ⟨a, c, rfl, hc, hr⟩ := RdAt.shape hv
 clear hfit eg hv hp hr
 go_enter Tryz.func45, Tryz.ntmps45
 go_wp2_with fail
 refine hk.mono ?_
 rintro e w1 ⟨i, rfl, hi, hb1⟩
 have HI := Lib.hid hi
 clear hk hi
 go_wp2
 go_ret
 exact ⟨by rw [← HI.out]; rfl, hb1⟩
/-! fields -/
theorem fldC_at' (l : List Fld) (j : Nat) (h : j < l.length) (i : Nat) (v : Value) (hi : ([Value.string l[j].1, Value.string l[j].2])[i]? = some v) : (fldCells l)[j * 2 + i]? = some v := by
 obtain ⟨h1, h2⟩ := fldCells_at l j h
 match i, hi with
 | 0, hi => rw [Nat.add_zero, h1]; exact hi
 | 1, hi => rw [h2]; exact hi
 | i + 2, hi => simp at hi
theorem idxf_empty (a : Option Addr) (c : Nat) (f : Value) (w : World) :
  Calls Tryz.prog 43 #[.slice a 0 c, f] w fun e w' => e = .returned (.int .i64 (-1)) ∧ w' = w := by
 go_enter Tryz.func43, Tryz.ntmps43
 go_wp2
 refine wp_loop_rounds 1 ?_
 rw [rounds_succ]
 go_wp2
 go_ret
 exact ⟨rfl, rfl⟩
theorem idxf_gen (l : List Fld) (p : Fld → Bool) (g : Nat) (lb : Array Value) (eg : ∀ args w, (callFunc g args).run Tryz.prog w = .ok (.enter g args) w) (v : Value) (w : World) (hv : FldsAt w v l) (hl : l.length ≤ 1000000000000)
  (hp : ∀ W (x : Fld), Below w.heap.size w W → Calls Tryz.prog g (#[.agg #[.string x.1, .string x.2]] ++ lb) W fun e w' => e = .returned (.bool (p x)) ∧ Below W.heap.size W w') :
  Calls Tryz.prog 43 #[v, .func (.func g) #[] lb] w fun e w' =>
   e = .returned (.int .i64 (Lib.idxByFrom (fun _ (y : Fld) => p y) default l 0)) ∧ Below w.heap.size w w' := by
 obtain ⟨a, c, rfl, hc, hr⟩ := RdAt.shape hv
 rcases Nat.eq_zero_or_pos l.length with h0 | h0
 ·have hnil : l = [] := List.length_eq_zero_iff.1 h0
  subst hnil
  refine (idxf_empty _ _ _ _).mono ?_
  rintro e w' ⟨rfl, rfl⟩
  exact ⟨rfl, Below.refl _ _⟩
 ·obtain ⟨gb, o, rfl, hg, hcell⟩ := hr h0
  have hpb : PredBelow Tryz.prog g lb (fun x : Fld => .agg [Value.string x.1, Value.string x.2].toArray) p w := fun W x hW => by
   refine Calls.mono (hp W x hW) ?_
   rintro e w' ⟨rfl, hb⟩
   exact ⟨rfl, hW.trans (hb.mono hW.size)⟩
  have h := AnyQ.slices_IndexFunc (α := Fld) Tryz.laysIdxF 2 Tryz.isAgg46 Tryz.sizeOf46 (fun x => [Value.string x.1, Value.string x.2]) (fun _ => rfl) p g lb eg gb o l.length c l w hpb (Nat.le_refl _) (by omega) hg (fun j hj i x hx => by
    have := hcell (j * 2 + i) x (fldC_at' l j hj i x (by rw [List.getElem!_eq_getElem?_getD, List.getElem?_eq_getElem hj] at hx; exact hx))
    rw [show o + j * 2 + i = o + (j * 2 + i) by omega]
    exact this)
  rw [List.take_length] at h
  exact h
theorem valclos (x : Fld) (b : Nat) (n : ByteArray) (w : World) (hn : w.cell? ⟨b, 0, none⟩ = some (.string n)) (hlt : b < w.heap.size) :
  Calls Tryz.prog 44 #[.agg #[.string x.1, .string x.2], .pointer (some ⟨b, 0, none⟩)] w fun e w' => e = .returned (.bool (x.1.toList == n.toList)) ∧ Below w.heap.size w w' := by
 have h1 := keep_cell hn (alloc_below w (.cells #[.string x.1, .string x.2] 46)) hlt
 go_enter Tryz.func44, Tryz.ntmps44
 go_wp2
 go_ret
 exact ⟨rfl, alloc_below _ _⟩
def valueF (l : List Fld) (name : ByteArray) : ByteArray := match l.find? fun f => f.1.toList == name.toList with
 | some f => f.2
 | none => ⟨#[]⟩
set_option maxHeartbeats 1600000 in
set_option maxRecDepth 100000 in
theorem value_any (l : List Fld) (n : ByteArray) (w : World) (v : Value) (hv : FldsAt w v l) (hl : l.length ≤ 1000000000000) :
  Calls Tryz.prog 16 #[v, .string n] w fun e w' => e = .returned (.string (valueF l n)) ∧ Below w.heap.size w w' := by
 have hb0 := alloc_below w (.cells #[.string n] 9)
 have hv0 := FldsAt.later hv hb0
 have hlt0 : w.heap.size < (w.alloc (.cells #[.string n] 9)).heap.size := by rw [World.size_alloc]; omega
 have hn0 : (w.alloc (.cells #[.string n] 9)).cell? ⟨w.heap.size, 0, none⟩ = some (.string n) := by rw [cell_of_row _ _ _ _ _ _ (heap_alloc_new w _)]; rfl
 have kc := idxf_gen l (fun f => f.1.toList == n.toList) 44 #[.pointer (some ⟨w.heap.size, 0, none⟩)] (enters_of Tryz.func44 (by kernel_rfl) rfl) v _ hv0 hl
  (fun W x hW => valclos x w.heap.size n W (keep_cell hn0 hW hlt0) (Nat.lt_of_lt_of_le hlt0 hW.size))
 have HV := Lib.hid hv0
 obtain ⟨a, c, rfl, hc, hr⟩ := RdAt.shape hv
 clear hr hv hv0
 go_enter Tryz.func16, Tryz.ntmps16
 go_wp2_with fail
 refine kc.mono ?_
 rintro e w1 ⟨rfl, hb1⟩
 have B1 := Lib.hid (hb0.trans (hb1.mono (Nat.le_of_lt hlt0)))
 have HV1 := Lib.hid (HV.out.later hb1)
 clear kc hb0 hb1 hn0 hlt0 HV
 rcases idx_findM (fun f : Fld => f.1.toList == n.toList) default l 0 with ⟨k, hk, h1, h2, _⟩ | ⟨h1, h2, _⟩
 ·have HR : Hid (valueF l n = l[k].2) := Lib.hid (by unfold valueF; rw [h2])
  rw [h1, Nat.zero_add]
  obtain ⟨_, _, he, _, hr⟩ := RdAt.shape HV1.out
  obtain ⟨gb, o, hab, hg, hcell⟩ := hr (by omega)
  simp only [Value.slice.injEq] at he
  obtain ⟨rfl, _, rfl⟩ := he
  subst hab
  have hc2 := hcell (k * 2 + 1) _ (fldCells_at l k hk).2
  have hk0 : (0 : Int) ≤ (k : Int) := by omega
  have hk1 : (k : Int) < (l.length : Int) := by omega
  clear h1 h2 hr hcell
  rw [← Nat.add_assoc] at hc2
  go_wp2
  go_ret
  exact ⟨by rw [HR.out]; rfl, B1.out⟩
 ·have HR : Hid (valueF l n = ⟨#[]⟩) := Lib.hid (by unfold valueF; rw [h2])
  rw [h1]
  clear h1 h2
  go_wp2
  go_ret
  exact ⟨by rw [HR.out]; rfl, B1.out⟩
end Go.Proofs.YtgbapkechngnmaaGreat
/- Matchers as text, plainly: what is written, what is read; there and back. -/
namespace Go.Proofs.YtgbapkechngnmaaGreat
open Go.RowKit
def wordB (op : Int) : List UInt8 := if op = 0 then [61] else if op = 1 then [33, 61] else if op = 2 then [61, 126] else [33, 126]
def oneB (m : Mt) : List UInt8 := B m.nm ++ (wordB m.op ++ 34 :: (escB (B m.val) ++ [34]))
def textB : List Mt → List UInt8
  | [] => []
  | m :: l => oneB m ++ (match l with | [] => [] | _ :: _ => 44 :: textB l)
theorem textB_one (m : Mt) : textB [m] = oneB m := by simp [textB]
theorem textB_more (m n : Mt) (l : List Mt) : textB (m :: n :: l) = oneB m ++ 44 :: textB (n :: l) := rfl
def mtsOk (l : List Mt) : Bool := decide (l.length ≤ 12) && l.all fineM
def valB : List UInt8 → Option (List UInt8 × List UInt8)
  | [] => none
  | c :: r =>
    if c = 34 then some ([], r)
    else if c = 92 then
      match r with
      | [] => none
      | d :: q => if d = 34 ∨ d = 92 then (valB q).map fun x => (d :: x.1, x.2) else none
    else (valB r).map fun x => (c :: x.1, x.2)
theorem valB_cons (c : UInt8) (r : List UInt8) : valB (c :: r) = if c = 34 then some ([], r)
    else if c = 92 then
      match r with
      | [] => none
      | d :: q => if d = 34 ∨ d = 92 then (valB q).map fun x => (d :: x.1, x.2) else none
    else (valB r).map fun x => (c :: x.1, x.2) := by rw [valB.eq_def]
theorem val_esc (v r : List UInt8) : valB (escB v ++ 34 :: r) = some (v, r) := by
  induction v with
  | nil => rw [escB, List.nil_append, valB_cons, if_pos rfl]
  | cons c l ih =>
    unfold escB
    by_cases h : c = 34 ∨ c = 92
    · rw [if_pos h]
      simp only [List.cons_append]
      rw [valB_cons, if_neg (by decide), if_pos rfl]
      show (if c = 34 ∨ c = 92 then (valB (escB l ++ 34 :: r)).map fun x => (c :: x.1, x.2) else none) = _
      rw [if_pos h, ih]
      rfl
    · rw [if_neg h]
      simp only [List.cons_append]
      rw [valB_cons, if_neg (fun e => h (.inl e)), if_neg (fun e => h (.inr e)), ih]
      rfl
theorem esc_val : ∀ (n : Nat) (s v r : List UInt8), s.length ≤ n → valB s = some (v, r) → s = escB v ++ 34 :: r
  | 0, s, v, r, hn, h => by
    have : s = [] := List.length_eq_zero_iff.1 (by omega)
    subst this
    simp [valB] at h
  | n + 1, [], v, r, hn, h => by simp [valB] at h
  | n + 1, c :: s, v, r, hn, h => by
    rw [valB_cons] at h
    split at h
    · rename_i e
      subst e
      simp only [Option.some.injEq, Prod.mk.injEq] at h
      obtain ⟨rfl, rfl⟩ := h
      rfl
    · rename_i e1
      split at h
      · rename_i e2
        subst e2
        split at h
        · cases h
        · rename_i d q
          split at h
          · rename_i e3
            cases hq : valB q with
            | none => rw [hq] at h; cases h
            | some x =>
              rw [hq] at h
              simp only [Option.map_some, Option.some.injEq, Prod.mk.injEq] at h
              obtain ⟨rfl, rfl⟩ := h
              have := esc_val n q x.1 x.2 (by simp at hn; omega) hq
              rw [escB, if_pos e3]
              simp only [List.cons_append]
              rw [← this]
          · cases h
      · rename_i e2
        cases hq : valB s with
        | none => rw [hq] at h; cases h
        | some x =>
          rw [hq] at h
          simp only [Option.map_some, Option.some.injEq, Prod.mk.injEq] at h
          obtain ⟨rfl, rfl⟩ := h
          have := esc_val n s x.1 x.2 (by simp at hn; omega) hq
          rw [escB, if_neg (fun e => e.elim e1 e2)]
          simp only [List.cons_append]
          rw [← this]
def signB (c : UInt8) : Bool := c == 61 || c == 33
def opB (t : List UInt8) : Option (Int × List UInt8) :=
  match t with
  | 61 :: 34 :: r => some (0, r)
  | 33 :: 61 :: 34 :: r => some (1, r)
  | 61 :: 126 :: 34 :: r => some (2, r)
  | 33 :: 126 :: 34 :: r => some (3, r)
  | _ => none
theorem op_word {o : Int} (h0 : 0 ≤ o) (h3 : o ≤ 3) (r : List UInt8) : opB (wordB o ++ 34 :: r) = some (o, r) := by
  rcases (show o = 0 ∨ o = 1 ∨ o = 2 ∨ o = 3 by omega) with rfl | rfl | rfl | rfl <;> rfl
theorem word_op {t : List UInt8} {o : Int} {r : List UInt8} (h : opB t = some (o, r)) : t = wordB o ++ 34 :: r ∧ 0 ≤ o ∧ o ≤ 3 := by
  unfold opB at h
  split at h
  all_goals first
    | (cases h; done)
    | (simp only [Option.some.injEq, Prod.mk.injEq] at h
       obtain ⟨rfl, rfl⟩ := h
       exact ⟨rfl, by decide, by decide⟩)
def oneR (s : List UInt8) : Option (Mt × List UInt8) :=
  match opB (s.dropWhile fun c => !signB c) with
  | none => none
  | some (o, t) => match valB t with
    | none => none
    | some (v, r) => if fineM ⟨⟨(s.takeWhile fun c => !signB c).toArray⟩, o, ⟨v.toArray⟩⟩ then some (⟨⟨(s.takeWhile fun c => !signB c).toArray⟩, o, ⟨v.toArray⟩⟩, r) else none
def rdB : Nat → List UInt8 → Option (List Mt)
  | k, s => if s = [] then some [] else match k with
    | 0 => none
    | k + 1 => match oneR s with
      | none => none
      | some (m, r) => match r with
        | [] => some [m]
        | c :: q => if c = 44 ∧ q ≠ [] then (rdB k q).map (m :: ·) else none
theorem rdB_eq (k : Nat) (s : List UInt8) : rdB k s = if s = [] then some [] else match k with
    | 0 => none
    | k + 1 => match oneR s with
      | none => none
      | some (m, r) => match r with
        | [] => some [m]
        | c :: q => if c = 44 ∧ q ≠ [] then (rdB k q).map (m :: ·) else none := by rw [rdB.eq_def]
theorem B_mk (l : List UInt8) : B ⟨l.toArray⟩ = l := by simp [B]
theorem mk_B (s : ByteArray) : (⟨(B s).toArray⟩ : ByteArray) = s := by
  cases s
  simp [B]
theorem name_sign {l : List UInt8} (h : nameL l = true) : ∀ c ∈ l, (!signB c) = true := by
  intro c hc
  unfold nameL at h
  simp only [Bool.and_eq_true, Bool.not_eq_true', List.any_eq_false] at h
  have ho := h.2 c hc
  unfold signB
  rw [Bool.not_eq_true', Bool.or_eq_false_iff]
  constructor
  · rw [beq_eq_false_iff_ne]
    rintro rfl
    exact absurd (by decide : oddN (61 : UInt8).toNat = true) (by simpa using ho)
  · rw [beq_eq_false_iff_ne]
    rintro rfl
    exact absurd (by decide : oddN (33 : UInt8).toNat = true) (by simpa using ho)
theorem word_sign {o : Int} : ∃ c t, wordB o = c :: t ∧ (!signB c) = false := by
  unfold wordB
  split
  · exact ⟨_, _, rfl, by decide⟩
  split
  · exact ⟨_, _, rfl, by decide⟩
  split
  · exact ⟨_, _, rfl, by decide⟩
  · exact ⟨_, _, rfl, by decide⟩
theorem take_sign {l t : List UInt8} {o : Int} (h : ∀ c ∈ l, (!signB c) = true) : (l ++ (wordB o ++ t)).takeWhile (fun c => !signB c) = l ∧ (l ++ (wordB o ++ t)).dropWhile (fun c => !signB c) = wordB o ++ t := by
  obtain ⟨c, u, he, hc⟩ := word_sign (o := o)
  constructor
  · rw [List.takeWhile_append_of_pos h, he, List.cons_append, List.takeWhile_cons, hc]
    simp
  · rw [List.dropWhile_append_of_pos h, he, List.cons_append, List.dropWhile_cons, hc]
    simp
theorem oneR_oneB {m : Mt} (h : fineM m = true) (r : List UInt8) : oneR (oneB m ++ r) = some (m, r) := by
  obtain ⟨h1, h2, h3, _, _⟩ := fineM_true h
  obtain ⟨e1, e2⟩ := take_sign (o := m.op) (t := 34 :: (escB (B m.val) ++ 34 :: r)) (name_sign h1)
  have e : oneB m ++ r = B m.nm ++ (wordB m.op ++ 34 :: (escB (B m.val) ++ 34 :: r)) := by
    unfold oneB
    simp
  rw [e]
  unfold oneR
  rw [e2, op_word h2 h3]
  simp only []
  rw [val_esc]
  simp only []
  rw [e1, mk_B, mk_B]
  rw [if_pos h]
theorem oneB_oneR {s r : List UInt8} {m : Mt} (h : oneR s = some (m, r)) : s = oneB m ++ r ∧ fineM m = true := by
  unfold oneR at h
  split at h
  · cases h
  · rename_i o t ho
    split at h
    · cases h
    · rename_i v q hv
      split at h
      · rename_i hf
        simp only [Option.some.injEq, Prod.mk.injEq] at h
        obtain ⟨rfl, rfl⟩ := h
        refine ⟨?_, hf⟩
        obtain ⟨e1, _, _⟩ := word_op ho
        have e2 := esc_val _ _ _ _ (Nat.le_refl _) hv
        have e3 := List.takeWhile_append_dropWhile (p := fun c => !signB c) (l := s)
        unfold oneB
        rw [B_mk, B_mk]
        conv => lhs; rw [← e3, e1, e2]
        simp
      · cases h
theorem oneB_ne {m : Mt} : oneB m ≠ [] := by
  unfold oneB
  simp
theorem rd_text : ∀ (l : List Mt) (k : Nat), l.length ≤ k → l.all fineM = true → rdB k (textB l) = some l
  | [], k, _, _ => by rw [textB, rdB_eq, if_pos rfl]
  | m :: l, 0, h, _ => by simp at h
  | [m], k + 1, _, ha => by
    rw [textB_one, rdB_eq, if_neg oneB_ne]
    have := oneR_oneB (m := m) (by simpa using ha) []
    rw [List.append_nil] at this
    simp only [this]
  | m :: n :: l, k + 1, h, ha => by
    rw [textB_more, rdB_eq, if_neg (by simp)]
    rw [List.all_cons, Bool.and_eq_true] at ha
    simp only [oneR_oneB ha.1]
    have hne : textB (n :: l) ≠ [] := by
      cases l with
      | nil => rw [textB_one]; exact oneB_ne
      | cons x l => rw [textB_more]; simp
    rw [if_pos (And.intro trivial hne), rd_text (n :: l) k (by simp at h ⊢; omega) ha.2]
    rfl
theorem text_rd : ∀ (k : Nat) (s : List UInt8) (l : List Mt), rdB k s = some l → textB l = s ∧ l.length ≤ k ∧ l.all fineM = true
  | 0, s, l, h => by
    rw [rdB_eq] at h
    split at h
    · rename_i e
      simp only [Option.some.injEq] at h
      subst h e
      exact ⟨rfl, Nat.le_refl _, rfl⟩
    · cases h
  | k + 1, s, l, h => by
    rw [rdB_eq] at h
    split at h
    · rename_i e
      simp only [Option.some.injEq] at h
      subst h e
      exact ⟨rfl, Nat.zero_le _, rfl⟩
    · dsimp only at h
      split at h
      · cases h
      · rename_i m r ho
        obtain ⟨e1, hf⟩ := oneB_oneR ho
        split at h
        · simp only [Option.some.injEq] at h
          subst h
          refine ⟨?_, by simp, by simp [hf]⟩
          rw [textB_one, e1, List.append_nil]
        · rename_i c q
          split at h
          · rename_i hc
            obtain ⟨rfl, hq⟩ := hc
            cases hr : rdB k q with
            | none => rw [hr] at h; cases h
            | some l' =>
              rw [hr] at h
              simp only [Option.map_some, Option.some.injEq] at h
              subst h
              obtain ⟨g1, g2, g3⟩ := text_rd k q l' hr
              refine ⟨?_, by simp; omega, by simp [hf]; simpa using g3⟩
              cases l' with
              | nil => rw [textB] at g1; exact absurd g1.symm hq
              | cons n l' => rw [textB_more, g1, e1]
          · cases h
theorem rd_iff (s : List UInt8) (l : List Mt) : rdB 12 s = some l ↔ mtsOk l = true ∧ textB l = s := by
  unfold mtsOk
  rw [Bool.and_eq_true, decide_eq_true_eq]
  constructor
  · intro h
    obtain ⟨h1, h2, h3⟩ := text_rd 12 s l h
    exact ⟨⟨h2, h3⟩, h1⟩
  · rintro ⟨⟨h1, h2⟩, rfl⟩
    exact rd_text l 12 h1 h2
end Go.Proofs.YtgbapkechngnmaaGreat
/- match.Fits: a contract. -/
namespace Go.Proofs.YtgbapkechngnmaaGreat
open Go.RowKit
noncomputable def fitB (p t : ByteArray) : Bool := @decide (FitsP p t) (Classical.propDecidable _)
theorem fitB_iff {p t : ByteArray} : fitB p t = true ↔ FitsP p t := @decide_eq_true_iff _ (Classical.propDecidable _)
theorem fits_b (p t : ByteArray) (W : World) (ht : t.size ≤ maxLen) : Calls Tryz.prog 40 #[.string p, .string t] W fun e w' => e = .returned (.bool (fitB p t)) ∧ Below W.heap.size W w' := by
 refine (tfits_is p t W ht).mono ?_
 rintro e w' ⟨b, rfl, h1, h2⟩
 have : b = fitB p t := by rw [Bool.eq_iff_iff, fitB_iff]; exact h1
 rw [this]
 exact ⟨rfl, h2⟩
noncomputable def opM (m : Mt) (v : ByteArray) : Bool :=
 if m.op = 0 then v.toList == m.val.toList else if m.op = 1 then !(v.toList == m.val.toList) else if m.op = 2 then fitB m.val v else !(fitB m.val v)
noncomputable def fitM (l : List Fld) (m : Mt) : Bool := fineM m && opM m (valueF l m.nm)
theorem valueF_size {l : List Fld} (hf : FldsFit l) (n : ByteArray) : (valueF l n).size ≤ maxLen := by
 unfold valueF
 split
 ·rename_i f h
  exact (hf f (List.mem_of_find?_eq_some h)).2
 ·exact Nat.zero_le _
theorem not_fn (g : Nat) (w : World) : Calls Tryz.prog 39 #[.func (.func g) #[] #[]] w fun e w' => e = .returned (.func (.func 65) #[] #[.pointer (some ⟨w.heap.size, 0, none⟩)]) ∧ w' = w.alloc (.cells #[.func (.func g) #[] #[]] 56) := by
 go_enter Tryz.func39, Tryz.ntmps39
 go_wp2
 go_ret
 exact ⟨rfl, rfl⟩
theorem not_is (a v : ByteArray) (b : Nat) (w : World) (hc : w.cell? ⟨b, 0, none⟩ = some (.func (.func 38) #[] #[])) : Calls Tryz.prog 65 #[.string a, .string v, .pointer (some ⟨b, 0, none⟩)] w fun e w' => e = .returned (.bool (!(v.toList == a.toList))) ∧ Below w.heap.size w w' := by
 have k := is_any a v w
 go_enter Tryz.func65, Tryz.ntmps65
 go_wp2_with fail
 refine k.mono ?_
 rintro e w1 ⟨rfl, hb⟩
 clear k
 go_wp2
 go_ret
 exact ⟨rfl, hb⟩
theorem not_fits (a v : ByteArray) (b : Nat) (w : World) (hv : v.size ≤ maxLen) (hc : w.cell? ⟨b, 0, none⟩ = some (.func (.func 40) #[] #[])) : Calls Tryz.prog 65 #[.string a, .string v, .pointer (some ⟨b, 0, none⟩)] w fun e w' => e = .returned (.bool (!(fitB a v))) ∧ Below w.heap.size w w' := by
 have k := fits_b a v w hv
 generalize fitB a v = r at *
 go_enter Tryz.func65, Tryz.ntmps65
 go_wp2_with fail
 refine k.mono ?_
 rintro e w1 ⟨rfl, hb⟩
 clear k
 go_wp2
 go_ret
 exact ⟨rfl, hb⟩
structure FitBox (w : World) (nm : ByteArray) (op : Int) (val : ByteArray) (W : World) : Prop where
 b : Below w.heap.size w W
 z : w.heap.size + 2 < W.heap.size
 a0 : W.cell? ⟨w.heap.size, 0, none⟩ = some (.string nm)
 a1 : W.cell? ⟨w.heap.size, 1, none⟩ = some (.int .i64 op)
 a2 : W.cell? ⟨w.heap.size, 2, none⟩ = some (.string val)
 f1 : W.cell? ⟨w.heap.size + 1, 0, none⟩ = some (.func (.func 38) #[] #[])
 f2 : W.cell? ⟨w.heap.size + 2, 0, none⟩ = some (.func (.func 40) #[] #[])
theorem FitBox.later {w : World} {nm : ByteArray} {op : Int} {val : ByteArray} {W W' : World} (h : FitBox w nm op val W) (hb : Below W.heap.size W W') : FitBox w nm op val W' := by
 obtain ⟨b, z, a0, a1, a2, f1, f2⟩ := h
 exact ⟨b.trans (hb.mono b.size), Nat.lt_of_lt_of_le z hb.size, keep_cell a0 hb (by omega), keep_cell a1 hb (by omega), keep_cell a2 hb (by omega), keep_cell f1 hb (by omega), keep_cell f2 hb (by omega)⟩
theorem FitBox.mk3 (w : World) (nm : ByteArray) (op : Int) (val : ByteArray) (t u : TypeId) : FitBox w nm op val (((w.alloc (.cells #[.string nm, .int .i64 op, .string val] t)).alloc (.cells #[.func (.func 38) #[] #[]] u)).alloc (.cells #[.func (.func 40) #[] #[]] u)) := by
 have b1 := alloc_below w (.cells #[.string nm, .int .i64 op, .string val] t)
 have s1 := World.size_alloc w (.cells #[.string nm, .int .i64 op, .string val] t)
 have x1 := heap_alloc_new w (.cells #[.string nm, .int .i64 op, .string val] t)
 generalize w.alloc (.cells #[.string nm, .int .i64 op, .string val] t) = w1 at *
 have b2 := alloc_below w1 (.cells #[.func (.func 38) #[] #[]] u)
 have s2 := World.size_alloc w1 (.cells #[.func (.func 38) #[] #[]] u)
 have x2 := heap_alloc_new w1 (.cells #[.func (.func 38) #[] #[]] u)
 generalize w1.alloc (.cells #[.func (.func 38) #[] #[]] u) = w2 at *
 have b3 := alloc_below w2 (.cells #[.func (.func 40) #[] #[]] u)
 have s3 := World.size_alloc w2 (.cells #[.func (.func 40) #[] #[]] u)
 have x3 := heap_alloc_new w2 (.cells #[.func (.func 40) #[] #[]] u)
 generalize w2.alloc (.cells #[.func (.func 40) #[] #[]] u) = w3 at *
 rw [s1] at x2
 rw [show w2.heap.size = w.heap.size + 2 by omega] at x3
 have k : ∀ i v, w1.cell? ⟨w.heap.size, i, none⟩ = some v → w3.cell? ⟨w.heap.size, i, none⟩ = some v := fun i v h => keep_cell (keep_cell h b2 (by omega)) b3 (by omega)
 refine ⟨(b1.trans (b2.mono (by omega))).trans (b3.mono (by omega)), by omega, k _ _ ?_, k _ _ ?_, k _ _ ?_, keep_cell ?_ b3 (by omega), ?_⟩
 ·rw [cell_of_row _ _ _ _ _ _ x1]; rfl
 ·rw [cell_of_row _ _ _ _ _ _ x1]; rfl
 ·rw [cell_of_row _ _ _ _ _ _ x1]; rfl
 ·rw [cell_of_row _ _ _ _ _ _ x2]; rfl
 ·rw [cell_of_row _ _ _ _ _ _ x3]; rfl
theorem store_row_step {P : Program} {W : World} {g j : Nat} {arr : Array Value} {t : TypeId} {v : Value} (hg : W.heap[g]? = some (.cells arr t (0, 0))) (hj : j < arr.size) (h1 : v.oneCell' = true) :
  ∃ W', (store ⟨g, j, none⟩ v).run P W = .ok () W' ∧ W'.heap[g]? = some (.cells (arr.setIfInBounds j v) t (0, 0)) ∧ Below g W W' := by
 have hc : W.cell? ⟨g, j, none⟩ = some arr[j] := by rw [cell_of_row _ _ _ _ _ _ hg]; exact Array.getElem?_eq_getElem hj
 have hf : W.frozen? ⟨g, j, none⟩ = false := by simp [World.frozen?, hg]
 refine ⟨W.setCell ⟨g, j, none⟩ v, ?_, ?_, ?_⟩
 ·rw [run_store P W _ v _ h1, hc, hf]; rfl
 ·simp [World.setCell, Array.getElem?_modify, hg]
 ·refine ⟨rfl, rfl, rfl, by simp [World.setCell], fun k hk => ?_⟩
  have : g ≠ k := by omega
  simp [World.setCell, Array.getElem?_modify, this]
set_option maxHeartbeats 3200000 in
set_option maxRecDepth 100000 in
theorem fits_any (l : List Fld) (m : Mt) (w : World) (v : Value) (hv : FldsAt w v l) (hl : l.length ≤ 1000000000000) (hfit : FldsFit l) (hf : MtFit m) :
  Calls Tryz.prog 14 #[v, .agg #[.string m.nm, .int .i64 m.op, .string m.val]] w fun e w' => e = .returned (.bool (fitM l m)) ∧ Below w.heap.size w w' := by
 have kn := fun W => not_fn 38 W
 have kp := fun W => not_fn 40 W
 have kf := fun W => mfine_any m W hf
 have kv := fun W (hW : Below w.heap.size w W) => value_any l m.nm W v (hv.later hW) hl
 have hvs := valueF_size hfit m.nm
 have HM : Hid (fitM l m = (fineM m && opM m (valueF l m.nm))) := Lib.hid rfl
 have HO : Hid (∀ u, opM m u = if m.op = 0 then u.toList == m.val.toList else if m.op = 1 then !(u.toList == m.val.toList) else if m.op = 2 then fitB m.val u else !(fitB m.val u)) := Lib.hid (fun _ => rfl)
 have HT : Hid (fineM m = true → 0 ≤ m.op ∧ m.op ≤ 3) := Lib.hid (fun h => ⟨(fineM_true h).2.1, (fineM_true h).2.2.1⟩)
 obtain ⟨fa, fc, rfl, _, _⟩ := RdAt.shape hv
 generalize l.length = fn at *
 generalize valueF l m.nm = u at *
 generalize fitM l m = R at *
 generalize fineM m = N at *
 have HOU := Lib.hid (HO.out u)
 clear HO
 generalize opM m u = OU at *
 obtain ⟨nm, op, val⟩ := m
 dsimp only at *
 have HN := Lib.hid kn
 have HP := Lib.hid kp
 have HFI := Lib.hid kf
 have HV := Lib.hid kv
 clear hv hfit hf kn kp kf kv
 have kn := HN.out (w.alloc (.cells #[.string nm, .int .i64 op, .string val] 29))
 go_enter Tryz.func14, Tryz.ntmps14
 go_wp2_with fail
 refine kn.mono ?_
 rintro e w1 ⟨rfl, hw1⟩
 clear kn
 obtain rfl := hw1.symm
 clear hw1
 have kp := HP.out ((w.alloc (.cells #[.string nm, .int .i64 op, .string val] 29)).alloc (.cells #[.func (.func 38) #[] #[]] 56))
 go_wp2_with fail
 refine kp.mono ?_
 rintro e w2 ⟨rfl, hw2⟩
 clear kp
 have FB : FitBox w nm op val w2 := by rw [hw2]; exact FitBox.mk3 w nm op val _ _
 clear hw2
 have HFB := Lib.hid FB
 clear FB
 rw [World.size_alloc]
 have hx := heap_alloc_new w2 (.cells #[.nilFunc, .nilFunc, .nilFunc, .nilFunc] 58)
 have hba := alloc_below w2 (.cells #[.nilFunc, .nilFunc, .nilFunc, .nilFunc] 58)
 obtain ⟨s1, hs1, hx1, hb1⟩ := store_row_step (P := Tryz.prog) (j := 0) (v := .func (.func 38) #[] #[]) hx (by simp) rfl
 obtain ⟨s2, hs2, hx2, hb2⟩ := store_row_step (P := Tryz.prog) (j := 1) (v := .func (.func 65) #[] #[.pointer (some ⟨w.heap.size + 1, 0, none⟩)]) hx1 (by simp) rfl
 obtain ⟨s3, hs3, hx3, hb3⟩ := store_row_step (P := Tryz.prog) (j := 2) (v := .func (.func 40) #[] #[]) hx2 (by simp) rfl
 obtain ⟨s4, hs4, hx4, hb4⟩ := store_row_step (P := Tryz.prog) (j := 3) (v := .func (.func 65) #[] #[.pointer (some ⟨w.heap.size + 1 + 1, 0, none⟩)]) hx3 (by simp) rfl
 have FB := HFB.out.later ((((hba.trans hb1).trans hb2).trans hb3).trans hb4)
 have hz4 : w2.heap.size < s4.heap.size := (Array.getElem?_eq_some_iff.1 hx4).1
 have D0 : s4.cell? ⟨w2.heap.size, 0, none⟩ = some (.func (.func 38) #[] #[]) := by rw [cell_of_row _ _ _ _ _ _ hx4]; rfl
 have D1 : s4.cell? ⟨w2.heap.size, 1, none⟩ = some (.func (.func 65) #[] #[.pointer (some ⟨w.heap.size + 1, 0, none⟩)]) := by rw [cell_of_row _ _ _ _ _ _ hx4]; rfl
 have D2 : s4.cell? ⟨w2.heap.size, 2, none⟩ = some (.func (.func 40) #[] #[]) := by rw [cell_of_row _ _ _ _ _ _ hx4]; rfl
 have D3 : s4.cell? ⟨w2.heap.size, 3, none⟩ = some (.func (.func 65) #[] #[.pointer (some ⟨w.heap.size + 1 + 1, 0, none⟩)]) := by rw [cell_of_row _ _ _ _ _ _ hx4]; rfl
 clear hx hx1 hx2 hx3 hx4 hba hb1 hb2 hb3 hb4 HFB
 go_upto_region 2 with fail
 obtain ⟨fb, fz, a0, a1, a2, f1, f2⟩ := FB
 have y0 : w.heap.size < s4.heap.size := by omega
 have y1 : w.heap.size + 1 < s4.heap.size := by omega
 have y2 : w.heap.size + 1 + 1 < s4.heap.size := by omega
 have F1 := Lib.hid f1
 have F2 := Lib.hid f2
 have FBB := Lib.hid fb
 clear f1 f2 fb fz hs1 hs2 hs3 hs4
 cases N with
 | false =>
  refine wp_region_held_drew (S := (fun W' => W'.cell? ⟨w.heap.size, 0, none⟩ = some (.string nm) ∧ W'.cell? ⟨w.heap.size, 1, none⟩ = some (.int .i64 op) ∧ W'.cell? ⟨w.heap.size, 2, none⟩ = some (.string val))) (by kernel_rfl) ⟨a0, a1, a2⟩ (fun hHeld => ?_)
  refine hT (i := 0) (v := ?_) rfl rfl hHeld ?_ ?_
  rotate_left
  ·rintro wh ⟨z0, z1, z2⟩
   go_simp
   (try with_reducible rfl)
  simp only [Act.put, List.setIfInBounds_toArray, List.set_cons_zero, List.set_cons_succ]
  refine held_call (i := 1) rfl (by kernel_rfl) (by rfl) (fun K hK => ?_)
  (go_simp; go_at_call 23; refine (HFI.out _).mono ?_; rintro e w5 ⟨rfl, hb5⟩; have hB5 : Below s4.heap.size s4 w5 := ((Below.refl _ _).drew).trans hb5)
  refine hK.out _ _ ⟨keep_cell a0 hB5 y0, keep_cell a1 hB5 y0, keep_cell a2 hB5 y0⟩ (fun hHeld => ?_)
  clear hK K
  (try simp only [Act.put, List.setIfInBounds_toArray, List.set_cons_zero, List.set_cons_succ])
  refine hT (i := 2) (v := ?_) rfl rfl hHeld ?_ ?_
  rotate_left
  ·rintro wh ⟨z0, z1, z2⟩
   go_simp
   (try with_reducible rfl)
  simp only [Act.put, List.setIfInBounds_toArray, List.set_cons_zero, List.set_cons_succ]
  refine plIn [3, 4, 5, 6, 7, 8, 9, 10, 11, 12, 13] ?_
  iterate 11
   refine hK rfl rfl hHeld ?_
   simp only [Act.put, List.setIfInBounds_toArray, List.set_cons_zero, List.set_cons_succ]
  refine plOut ?_
  refine plIn [14, 15] ?_
  iterate 2
   refine hP (v := ?_) rfl rfl hHeld ?_ ?_
   rotate_left
   ·rintro wh ⟨z0, z1, z2⟩
    go_simp
    (try with_reducible rfl)
   simp only [Act.put, List.setIfInBounds_toArray, List.set_cons_zero, List.set_cons_succ]
  refine plOut ?_
  refine wpAnyH_done (by kernel_rfl) ?_ _
  have HB := Lib.hid (FBB.out.trans (hB5.mono FBB.out.size))
  go_wp2
  go_ret
  exact ⟨by rw [HM.out]; rfl, HB.out⟩
 | true =>
  have ht := HT.out rfl
  rcases (show op = 0 ∨ op = 1 ∨ op = 2 ∨ op = 3 by omega) with rfl | rfl | rfl | rfl
  ·clear ht
   rw [if_pos rfl] at HOU
   refine wp_region_held_drew (S := (fun W' => W'.cell? ⟨w.heap.size, 0, none⟩ = some (.string nm) ∧ W'.cell? ⟨w.heap.size, 1, none⟩ = some (.int .i64 0) ∧ W'.cell? ⟨w.heap.size, 2, none⟩ = some (.string val) ∧ W'.cell? ⟨w2.heap.size, 0, none⟩ = some (.func (.func 38) #[] #[]))) (by kernel_rfl) ⟨a0, a1, a2, D0⟩ (fun hHeld => ?_)
   refine hT (i := 0) (v := ?_) rfl rfl hHeld ?_ ?_
   rotate_left
   ·rintro wh ⟨z0, z1, z2, z3⟩
    go_simp
    (try with_reducible rfl)
   simp only [Act.put, List.setIfInBounds_toArray, List.set_cons_zero, List.set_cons_succ]
   refine held_call (i := 1) rfl (by kernel_rfl) (by rfl) (fun K hK => ?_)
   (go_simp; go_at_call 23; refine (HFI.out _).mono ?_; rintro e w5 ⟨rfl, hb5⟩; have hB5 : Below s4.heap.size s4 w5 := ((Below.refl _ _).drew).trans hb5)
   refine hK.out _ _ ⟨keep_cell a0 hB5 y0, keep_cell a1 hB5 y0, keep_cell a2 hB5 y0, keep_cell D0 hB5 hz4⟩ (fun hHeld => ?_)
   clear hK K
   (try simp only [Act.put, List.setIfInBounds_toArray, List.set_cons_zero, List.set_cons_succ])
   refine plIn [2, 3, 4, 5, 6, 7, 8, 9, 10, 11] ?_
   iterate 10
    refine hP (v := ?_) rfl rfl hHeld ?_ ?_
    rotate_left
    ·rintro wh ⟨z0, z1, z2, z3⟩
     go_simp
     (try with_reducible rfl)
    simp only [Act.put, List.setIfInBounds_toArray, List.set_cons_zero, List.set_cons_succ]
   refine plOut ?_
   refine held_call (i := 12) rfl (by kernel_rfl) (by rfl) (fun K hK => ?_)
   (go_simp; go_at_call 16; refine (HV.out _ (FBB.out.trans (hB5.mono FBB.out.size))).mono ?_; rintro e w6 ⟨rfl, hb6⟩; have hB6 : Below s4.heap.size s4 w6 := hB5.trans (hb6.mono hB5.size))
   refine hK.out _ _ ⟨keep_cell a0 hB6 y0, keep_cell a1 hB6 y0, keep_cell a2 hB6 y0, keep_cell D0 hB6 hz4⟩ (fun hHeld => ?_)
   clear hK K
   (try simp only [Act.put, List.setIfInBounds_toArray, List.set_cons_zero, List.set_cons_succ])
   refine held_call (i := 13) rfl (by kernel_rfl) (by rfl) (fun K hK => ?_)
   (go_simp; go_at_call 38; refine (is_any _ _ _).mono ?_; rintro e w7 ⟨rfl, hb7⟩; have hB7 : Below s4.heap.size s4 w7 := hB6.trans (hb7.mono hB6.size))
   refine hK.out _ _ ⟨keep_cell a0 hB7 y0, keep_cell a1 hB7 y0, keep_cell a2 hB7 y0, keep_cell D0 hB7 hz4⟩ (fun hHeld => ?_)
   clear hK K
   (try simp only [Act.put, List.setIfInBounds_toArray, List.set_cons_zero, List.set_cons_succ])
   refine plIn [14, 15] ?_
   iterate 2
    refine hP (v := ?_) rfl rfl hHeld ?_ ?_
    rotate_left
    ·rintro wh ⟨z0, z1, z2, z3⟩
     go_simp
     (try with_reducible rfl)
    simp only [Act.put, List.setIfInBounds_toArray, List.set_cons_zero, List.set_cons_succ]
   refine plOut ?_
   refine wpAnyH_done (by kernel_rfl) ?_ _
   have HB := Lib.hid (FBB.out.trans (hB7.mono FBB.out.size))
   go_wp2
   go_ret
   exact ⟨by rw [HM.out, HOU.out]; rfl, HB.out⟩
  ·clear ht
   rw [if_neg (by decide), if_pos rfl] at HOU
   refine wp_region_held_drew (S := (fun W' => W'.cell? ⟨w.heap.size, 0, none⟩ = some (.string nm) ∧ W'.cell? ⟨w.heap.size, 1, none⟩ = some (.int .i64 1) ∧ W'.cell? ⟨w.heap.size, 2, none⟩ = some (.string val) ∧ W'.cell? ⟨w2.heap.size, 1, none⟩ = some (.func (.func 65) #[] #[.pointer (some ⟨w.heap.size + 1, 0, none⟩)]))) (by kernel_rfl) ⟨a0, a1, a2, D1⟩ (fun hHeld => ?_)
   refine hT (i := 0) (v := ?_) rfl rfl hHeld ?_ ?_
   rotate_left
   ·rintro wh ⟨z0, z1, z2, z3⟩
    go_simp
    (try with_reducible rfl)
   simp only [Act.put, List.setIfInBounds_toArray, List.set_cons_zero, List.set_cons_succ]
   refine held_call (i := 1) rfl (by kernel_rfl) (by rfl) (fun K hK => ?_)
   (go_simp; go_at_call 23; refine (HFI.out _).mono ?_; rintro e w5 ⟨rfl, hb5⟩; have hB5 : Below s4.heap.size s4 w5 := ((Below.refl _ _).drew).trans hb5)
   refine hK.out _ _ ⟨keep_cell a0 hB5 y0, keep_cell a1 hB5 y0, keep_cell a2 hB5 y0, keep_cell D1 hB5 hz4⟩ (fun hHeld => ?_)
   clear hK K
   (try simp only [Act.put, List.setIfInBounds_toArray, List.set_cons_zero, List.set_cons_succ])
   refine plIn [2, 3, 4, 5, 6, 7, 8, 9, 10, 11] ?_
   iterate 10
    refine hP (v := ?_) rfl rfl hHeld ?_ ?_
    rotate_left
    ·rintro wh ⟨z0, z1, z2, z3⟩
     go_simp
     (try with_reducible rfl)
    simp only [Act.put, List.setIfInBounds_toArray, List.set_cons_zero, List.set_cons_succ]
   refine plOut ?_
   refine held_call (i := 12) rfl (by kernel_rfl) (by rfl) (fun K hK => ?_)
   (go_simp; go_at_call 16; refine (HV.out _ (FBB.out.trans (hB5.mono FBB.out.size))).mono ?_; rintro e w6 ⟨rfl, hb6⟩; have hB6 : Below s4.heap.size s4 w6 := hB5.trans (hb6.mono hB5.size))
   refine hK.out _ _ ⟨keep_cell a0 hB6 y0, keep_cell a1 hB6 y0, keep_cell a2 hB6 y0, keep_cell D1 hB6 hz4⟩ (fun hHeld => ?_)
   clear hK K
   (try simp only [Act.put, List.setIfInBounds_toArray, List.set_cons_zero, List.set_cons_succ])
   refine held_call (i := 13) rfl (by kernel_rfl) (by rfl) (fun K hK => ?_)
   (go_simp; go_at_call 65; refine (not_is _ _ _ _ (keep_cell F1.out hB6 y1)).mono ?_; rintro e w7 ⟨rfl, hb7⟩; have hB7 : Below s4.heap.size s4 w7 := hB6.trans (hb7.mono hB6.size))
   refine hK.out _ _ ⟨keep_cell a0 hB7 y0, keep_cell a1 hB7 y0, keep_cell a2 hB7 y0, keep_cell D1 hB7 hz4⟩ (fun hHeld => ?_)
   clear hK K
   (try simp only [Act.put, List.setIfInBounds_toArray, List.set_cons_zero, List.set_cons_succ])
   refine plIn [14, 15] ?_
   iterate 2
    refine hP (v := ?_) rfl rfl hHeld ?_ ?_
    rotate_left
    ·rintro wh ⟨z0, z1, z2, z3⟩
     go_simp
     (try with_reducible rfl)
    simp only [Act.put, List.setIfInBounds_toArray, List.set_cons_zero, List.set_cons_succ]
   refine plOut ?_
   refine wpAnyH_done (by kernel_rfl) ?_ _
   have HB := Lib.hid (FBB.out.trans (hB7.mono FBB.out.size))
   go_wp2
   go_ret
   exact ⟨by rw [HM.out, HOU.out]; rfl, HB.out⟩
  ·clear ht
   rw [if_neg (by decide), if_neg (by decide), if_pos rfl] at HOU
   refine wp_region_held_drew (S := (fun W' => W'.cell? ⟨w.heap.size, 0, none⟩ = some (.string nm) ∧ W'.cell? ⟨w.heap.size, 1, none⟩ = some (.int .i64 2) ∧ W'.cell? ⟨w.heap.size, 2, none⟩ = some (.string val) ∧ W'.cell? ⟨w2.heap.size, 2, none⟩ = some (.func (.func 40) #[] #[]))) (by kernel_rfl) ⟨a0, a1, a2, D2⟩ (fun hHeld => ?_)
   refine hT (i := 0) (v := ?_) rfl rfl hHeld ?_ ?_
   rotate_left
   ·rintro wh ⟨z0, z1, z2, z3⟩
    go_simp
    (try with_reducible rfl)
   simp only [Act.put, List.setIfInBounds_toArray, List.set_cons_zero, List.set_cons_succ]
   refine held_call (i := 1) rfl (by kernel_rfl) (by rfl) (fun K hK => ?_)
   (go_simp; go_at_call 23; refine (HFI.out _).mono ?_; rintro e w5 ⟨rfl, hb5⟩; have hB5 : Below s4.heap.size s4 w5 := ((Below.refl _ _).drew).trans hb5)
   refine hK.out _ _ ⟨keep_cell a0 hB5 y0, keep_cell a1 hB5 y0, keep_cell a2 hB5 y0, keep_cell D2 hB5 hz4⟩ (fun hHeld => ?_)
   clear hK K
   (try simp only [Act.put, List.setIfInBounds_toArray, List.set_cons_zero, List.set_cons_succ])
   refine plIn [2, 3, 4, 5, 6, 7, 8, 9, 10, 11] ?_
   iterate 10
    refine hP (v := ?_) rfl rfl hHeld ?_ ?_
    rotate_left
    ·rintro wh ⟨z0, z1, z2, z3⟩
     go_simp
     (try with_reducible rfl)
    simp only [Act.put, List.setIfInBounds_toArray, List.set_cons_zero, List.set_cons_succ]
   refine plOut ?_
   refine held_call (i := 12) rfl (by kernel_rfl) (by rfl) (fun K hK => ?_)
   (go_simp; go_at_call 16; refine (HV.out _ (FBB.out.trans (hB5.mono FBB.out.size))).mono ?_; rintro e w6 ⟨rfl, hb6⟩; have hB6 : Below s4.heap.size s4 w6 := hB5.trans (hb6.mono hB5.size))
   refine hK.out _ _ ⟨keep_cell a0 hB6 y0, keep_cell a1 hB6 y0, keep_cell a2 hB6 y0, keep_cell D2 hB6 hz4⟩ (fun hHeld => ?_)
   clear hK K
   (try simp only [Act.put, List.setIfInBounds_toArray, List.set_cons_zero, List.set_cons_succ])
   refine held_call (i := 13) rfl (by kernel_rfl) (by rfl) (fun K hK => ?_)
   (go_simp; go_at_call 40; refine (fits_b _ _ _ hvs).mono ?_; rintro e w7 ⟨rfl, hb7⟩; have hB7 : Below s4.heap.size s4 w7 := hB6.trans (hb7.mono hB6.size))
   refine hK.out _ _ ⟨keep_cell a0 hB7 y0, keep_cell a1 hB7 y0, keep_cell a2 hB7 y0, keep_cell D2 hB7 hz4⟩ (fun hHeld => ?_)
   clear hK K
   (try simp only [Act.put, List.setIfInBounds_toArray, List.set_cons_zero, List.set_cons_succ])
   refine plIn [14, 15] ?_
   iterate 2
    refine hP (v := ?_) rfl rfl hHeld ?_ ?_
    rotate_left
    ·rintro wh ⟨z0, z1, z2, z3⟩
     go_simp
     (try with_reducible rfl)
    simp only [Act.put, List.setIfInBounds_toArray, List.set_cons_zero, List.set_cons_succ]
   refine plOut ?_
   refine wpAnyH_done (by kernel_rfl) ?_ _
   have HB := Lib.hid (FBB.out.trans (hB7.mono FBB.out.size))
   go_wp2
   go_ret
   exact ⟨by rw [HM.out, HOU.out]; rfl, HB.out⟩
  ·clear ht
   rw [if_neg (by decide), if_neg (by decide), if_neg (by decide)] at HOU
   refine wp_region_held_drew (S := (fun W' => W'.cell? ⟨w.heap.size, 0, none⟩ = some (.string nm) ∧ W'.cell? ⟨w.heap.size, 1, none⟩ = some (.int .i64 3) ∧ W'.cell? ⟨w.heap.size, 2, none⟩ = some (.string val) ∧ W'.cell? ⟨w2.heap.size, 3, none⟩ = some (.func (.func 65) #[] #[.pointer (some ⟨w.heap.size + 1 + 1, 0, none⟩)]))) (by kernel_rfl) ⟨a0, a1, a2, D3⟩ (fun hHeld => ?_)
   refine hT (i := 0) (v := ?_) rfl rfl hHeld ?_ ?_
   rotate_left
   ·rintro wh ⟨z0, z1, z2, z3⟩
    go_simp
    (try with_reducible rfl)
   simp only [Act.put, List.setIfInBounds_toArray, List.set_cons_zero, List.set_cons_succ]
   refine held_call (i := 1) rfl (by kernel_rfl) (by rfl) (fun K hK => ?_)
   (go_simp; go_at_call 23; refine (HFI.out _).mono ?_; rintro e w5 ⟨rfl, hb5⟩; have hB5 : Below s4.heap.size s4 w5 := ((Below.refl _ _).drew).trans hb5)
   refine hK.out _ _ ⟨keep_cell a0 hB5 y0, keep_cell a1 hB5 y0, keep_cell a2 hB5 y0, keep_cell D3 hB5 hz4⟩ (fun hHeld => ?_)
   clear hK K
   (try simp only [Act.put, List.setIfInBounds_toArray, List.set_cons_zero, List.set_cons_succ])
   refine plIn [2, 3, 4, 5, 6, 7, 8, 9, 10, 11] ?_
   iterate 10
    refine hP (v := ?_) rfl rfl hHeld ?_ ?_
    rotate_left
    ·rintro wh ⟨z0, z1, z2, z3⟩
     go_simp
     (try with_reducible rfl)
    simp only [Act.put, List.setIfInBounds_toArray, List.set_cons_zero, List.set_cons_succ]
   refine plOut ?_
   refine held_call (i := 12) rfl (by kernel_rfl) (by rfl) (fun K hK => ?_)
   (go_simp; go_at_call 16; refine (HV.out _ (FBB.out.trans (hB5.mono FBB.out.size))).mono ?_; rintro e w6 ⟨rfl, hb6⟩; have hB6 : Below s4.heap.size s4 w6 := hB5.trans (hb6.mono hB5.size))
   refine hK.out _ _ ⟨keep_cell a0 hB6 y0, keep_cell a1 hB6 y0, keep_cell a2 hB6 y0, keep_cell D3 hB6 hz4⟩ (fun hHeld => ?_)
   clear hK K
   (try simp only [Act.put, List.setIfInBounds_toArray, List.set_cons_zero, List.set_cons_succ])
   refine held_call (i := 13) rfl (by kernel_rfl) (by rfl) (fun K hK => ?_)
   (go_simp; go_at_call 65; refine (not_fits _ _ _ _ hvs (keep_cell F2.out hB6 y2)).mono ?_; rintro e w7 ⟨rfl, hb7⟩; have hB7 : Below s4.heap.size s4 w7 := hB6.trans (hb7.mono hB6.size))
   refine hK.out _ _ ⟨keep_cell a0 hB7 y0, keep_cell a1 hB7 y0, keep_cell a2 hB7 y0, keep_cell D3 hB7 hz4⟩ (fun hHeld => ?_)
   clear hK K
   (try simp only [Act.put, List.setIfInBounds_toArray, List.set_cons_zero, List.set_cons_succ])
   refine plIn [14, 15] ?_
   iterate 2
    refine hP (v := ?_) rfl rfl hHeld ?_ ?_
    rotate_left
    ·rintro wh ⟨z0, z1, z2, z3⟩
     go_simp
     (try with_reducible rfl)
    simp only [Act.put, List.setIfInBounds_toArray, List.set_cons_zero, List.set_cons_succ]
   refine plOut ?_
   refine wpAnyH_done (by kernel_rfl) ?_ _
   have HB := Lib.hid (FBB.out.trans (hB7.mono FBB.out.size))
   go_wp2
   go_ret
   exact ⟨by rw [HM.out, HOU.out]; rfl, HB.out⟩
end Go.Proofs.YtgbapkechngnmaaGreat
/- Slices of strings that are read: what lies in memory, said plainly. -/
namespace Go.Proofs.YtgbapkechngnmaaGreat
open Go.RowKit
def StrsAt (w : World) (v : Value) (ws : List ByteArray) : Prop := RdAt w v ws.length 1 (ws.map Value.string) ∧ ws.length ≤ 1073741824
theorem StrsAt.nil (w : World) : StrsAt w (.slice none 0 0) [] := ⟨RdAt.nil w 1, Nat.zero_le _⟩
theorem StrsAt.later {w w' : World} {v : Value} {ws : List ByteArray} (h : StrsAt w v ws) (hb : Below w.heap.size w w') : StrsAt w' v ws := ⟨h.1.later hb, h.2⟩
theorem StrsAt.own {w : World} {base : Nat} {e : TypeId} {v : Value} {ws : List ByteArray} (h : w.ownsRow base e 1 v ws.length (ws.map Value.string)) (hm : ws.length ≤ 1073741824) : StrsAt w v ws := ⟨RdAt.own h, hm⟩
theorem StrsAt.shape {w : World} {v : Value} {ws : List ByteArray} (h : StrsAt w v ws) : ∃ a c, v = .slice a ws.length c ∧ ws.length ≤ c ∧
  (ws ≠ [] → ∃ b o, a = some ⟨b, o, none⟩ ∧ b < w.heap.size ∧ ∀ (j : Nat) x, ws[j]? = some x → w.cell? ⟨b, o + j, none⟩ = some (.string x)) := by
 obtain ⟨a, c, hv, hc, hr⟩ := h.1.shape
 refine ⟨a, c, hv, hc, fun hne => ?_⟩
 obtain ⟨b, o, ha, hlt, hcell⟩ := hr (List.length_pos_iff.2 hne)
 exact ⟨b, o, ha, hlt, fun j x hx => hcell j _ (by rw [List.getElem?_map, hx]; rfl)⟩
theorem B_inj {a b : ByteArray} (h : B a = B b) : a = b := ByteArray.ext (Array.toList_inj.1 h)
theorem B_append (a b : ByteArray) : B (a ++ b) = B a ++ B b := by simp [B]
end Go.Proofs.YtgbapkechngnmaaGreat
/- match.Text: a contract. (Printed by wip/genmat.py.) -/
namespace Go.Proofs.YtgbapkechngnmaaGreat
open Go.RowKit
theorem step_append_rdD {P : Program} {w : World} {ops : Array Oper} {o : Oper} {a : Act} {K : Act → World → Prop} {Q : Exit → Act → World → Prop} {E : Prop} (d : Tmp) (hd : o.dst = some d) (hgd : o.guard = none) (s x : Operand) (t : TypeId)
  (ho : o.op = .call { callee := .builtin .append, args := #[s, x], argTypes := #[t, t] })
  (base : Nat) (e : TypeId) (i : TypeInfo) (z : Value) (size bytes : Nat) (ht : P.underlying t = some (.slice e)) (hi : P.info? e = some i) (hz : i.zero = some z)
  (hsize : i.size = size) (hby : i.bytes = bytes) (hzs : z.cells.size = size) (hsz : 0 < size)
  (v : Value) (n : Nat) (xs : List Value) (hs : a.eval s = v) (hown : w.ownsRow base e size v n xs)
  (u : Value) (m : Nat) (news : List Value) (hx : a.eval x = u) (hu : RdAt w u m size news) (h1 : ∀ y ∈ news, y.oneCell' = true)
  (h63 : n + m ≤ maxLen) (hbytes : (n + m) * bytes ≤ 140737488355328) (hbase : base ≤ w.heap.size)
  (h : ∀ v' w', w'.ownsRow base e size v' (n + m) (xs ++ news) → w.grownBy w' v.ownBlock → (v'.ownBlock = v.ownBlock ∨ v'.ownBlock = some w.heap.size) → K (a.put (some d) v') w') :
  if Region.wanted o (yielded ops a.tmps) = true then Oper.wp P o a w K Q else E :=
 step_append_rd hgd s x t ho base e i z size bytes ht hi hz hsize hby hzs hsz v n xs hs hown u m news hx hu h1 h63 hbytes hbase (fun v' w' h2 h3 h4 => by rw [hd]; exact h v' w' h2 h3 h4)
/-! plain -/
theorem join_textB : ∀ ms : List Mt, Lib.join (ms.map oneB) [44] = textB ms
 | [] => rfl
 | [m] => by rw [textB_one]; exact Lib.join_one _ _
 | m :: n :: l => by
  have := join_textB (n :: l)
  rw [textB_more, ← this, List.map_cons, List.map_cons, Lib.join_cons, Lib.join_cons]
  simp [Lib.joinTail]
theorem oneB_len {m : Mt} (h : fineM m = true) : (oneB m).length ≤ 420 := by
 obtain ⟨h1, _, _, h4, _⟩ := fineM_true h
 have h5 : (B m.nm).length ≤ 12 := by
  unfold nameL at h1
  simp only [Bool.and_eq_true, decide_eq_true_eq] at h1
  exact h1.1.1.2
 have h6 := escB_bound (B m.val)
 rw [len_B] at h6
 have h7 : (wordB m.op).length ≤ 2 := by unfold wordB; split <;> (try split) <;> (try split) <;> decide
 unfold oneB
 simp only [List.length_append, List.length_cons, List.length_nil]
 omega
theorem textB_len : ∀ (ms : List Mt), ms.all fineM = true → (textB ms).length ≤ ms.length * 421
 | [], _ => Nat.zero_le _
 | [m], h => by
  have := oneB_len (m := m) (by simpa using h)
  rw [textB_one]
  simp only [List.length_cons, List.length_nil]
  omega
 | m :: n :: l, h => by
  rw [List.all_cons, Bool.and_eq_true] at h
  have h1 := oneB_len h.1
  have h2 := textB_len (n :: l) h.2
  rw [textB_more]
  simp only [List.length_append, List.length_cons] at h2 ⊢
  omega
def wordS (op : Int) : ByteArray := ⟨(wordB op).toArray⟩
/-! what a replacer keeps -/
def RepS (w : World) (b N : Nat) : Prop := ∃ gb a0 c0 a1 c1 t ct, RepB w b gb a0 c0 a1 c1 t ct ∧ b < N ∧ gb < N ∧ a0 < N ∧ a1 < N ∧ t < N
theorem RepS.at_ {w : World} {b N : Nat} (h : RepS w b N) : RepAt w b := by
 obtain ⟨gb, a0, c0, a1, c1, t, ct, h, _⟩ := h
 exact .inr ⟨gb, a0, c0, a1, c1, t, ct, h⟩
theorem RepS.keep {w W : World} {b N : Nat} (h : RepS w b N) (hb : Below N w W) : RepS W b N := by
 obtain ⟨gb, a0, c0, a1, c1, t, ct, h, n0, n1, n2, n3, n4⟩ := h
 have k : ∀ {g j : Nat} {v : Value}, g < N → w.cell? ⟨g, j, none⟩ = some v → W.cell? ⟨g, j, none⟩ = some v := fun {g j v} hg hc => (hb.cell (p := ⟨g, j, none⟩) hg).trans hc
 exact ⟨gb, a0, c0, a1, c1, t, ct, ⟨(hb.block b n0).trans h.bk, ⟨k n1 h.r.q, k n2 h.r.q0, k n2 h.r.q1, k n1 h.r.b, k n3 h.r.b0, k n3 h.r.b1, k n1 h.r.tt, k n4 h.r.tt0, k n4 h.r.tt1, fun j h1 h2 h3 => k n1 (h.r.n j h1 h2 h3)⟩⟩, n0, n1, n2, n3, n4⟩
theorem RepS.up {w : World} {b N M : Nat} (h : RepS w b N) (hM : N ≤ M) : RepS w b M := by
 obtain ⟨gb, a0, c0, a1, c1, t, ct, h, n0, n1, n2, n3, n4⟩ := h
 exact ⟨gb, a0, c0, a1, c1, t, ct, h, by omega, by omega, by omega, by omega, by omega⟩
theorem RepB.s {w : World} {b gb a0 c0 a1 c1 t ct : Nat} (h : RepB w b gb a0 c0 a1 c1 t ct) : RepS w b w.heap.size :=
 ⟨gb, a0, c0, a1, c1, t, ct, h, (Array.getElem?_eq_some_iff.1 h.bk).1, cell_blt h.r.q, cell_blt h.r.q0, cell_blt h.r.b0, cell_blt h.r.tt0⟩
theorem RepN.later {w w' : World} {b g c : Nat} {m : Int} (h : RepN w b g c m) (hb : Below w.heap.size w w') : RepN w' b g c m :=
 ⟨(hb.block b (Array.getElem?_eq_some_iff.1 h.bk).1).trans h.bk, keep_cell h.s0 hb (cell_blt h.s0), keep_cell h.s1 hb (cell_blt h.s1), keep_cell h.s2 hb (cell_blt h.s2), keep_cell h.s3 hb (cell_blt h.s3)⟩
theorem RepAt.later {w w' : World} {b : Nat} (h : RepAt w b) (hb : Below w.heap.size w w') : RepAt w' b := by
 rcases h with ⟨g, c, h⟩ | ⟨gb, a0, c0, a1, c1, t, ct, h⟩
 ·exact .inl ⟨g, c, h.later hb⟩
 ·exact (h.s.keep hb).at_
theorem RepAt.lt {w : World} {b : Nat} (h : RepAt w b) : b < w.heap.size := by
 rcases h with ⟨g, c, h⟩ | ⟨gb, a0, c0, a1, c1, t, ct, h⟩
 ·exact (Array.getElem?_eq_some_iff.1 h.bk).1
 ·exact (Array.getElem?_eq_some_iff.1 h.bk).1
theorem rrep_any (w : World) (b N : Nat) (s : ByteArray) (h : RepAt w b) (hN : N ≤ w.heap.size) (hs : s.size ≤ 1000000) :
  Calls Tryz.prog 50 #[.pointer (some ⟨b, 0, none⟩), .string s] w fun e w' => ∃ r, e = .returned (.string r) ∧ B r = escB (B s) ∧ w.grownBy w' (some b) ∧ RepS w' b w'.heap.size ∧ (RepS w b N → RepS w' b N) := by
 by_cases hS : RepS w b N
 ·obtain ⟨gb, a0, c0, a1, c1, t, ct, h, n0, n1, n2, n3, n4⟩ := hS
  refine (rrepS_any w b gb a0 c0 a1 c1 t ct s h hs).mono ?_
  rintro e w' ⟨r, rfl, hr, hb⟩
  have hk := RepS.keep (N := N) ⟨gb, a0, c0, a1, c1, t, ct, h, n0, n1, n2, n3, n4⟩ (hb.mono hN)
  refine ⟨r, rfl, hr, grownBy_below hb, ?_, fun _ => hk⟩
  exact (h.s.keep hb).up hb.size
 ·refine (rreplace_any w b s h hs).mono ?_
  rintro e w' ⟨r, rfl, hr, hR, hg⟩
  obtain ⟨gb, a0, c0, a1, c1, t, ct, hR⟩ := hR
  exact ⟨r, rfl, hr, hg, hR.s, fun h => absurd h hS⟩
theorem words_any (w : World) : Calls Tryz.prog 49 #[] w fun e w' => e = .returned (.agg #[.string ⟨#[61]⟩, .string ⟨#[33, 61]⟩, .string ⟨#[61, 126]⟩, .string ⟨#[33, 126]⟩]) ∧ Below w.heap.size w w' := by
 have hb := alloc_below w (.cells #[.string ⟨#[61]⟩, .string ⟨#[33, 61]⟩, .string ⟨#[61, 126]⟩, .string ⟨#[33, 126]⟩] 71)
 have hr : (w.alloc (.cells #[.string ⟨#[61]⟩, .string ⟨#[33, 61]⟩, .string ⟨#[61, 126]⟩, .string ⟨#[33, 126]⟩] 71)).rangeAt w.heap.size 0 [.string ⟨#[61]⟩, .string ⟨#[33, 61]⟩, .string ⟨#[61, 126]⟩, .string ⟨#[33, 126]⟩] := fun j v hj => by
  rw [Nat.zero_add, cell_of_row _ _ _ _ _ _ (heap_alloc_new _ _)]
  simpa using hj
 go_enter Tryz.func49, Tryz.ntmps49
 go_wp2
 refine bodyPost_ret (results_agg1 rfl _ _ w.heap.size [.string ⟨#[61]⟩, .string ⟨#[33, 61]⟩, .string ⟨#[61, 126]⟩, .string ⟨#[33, 126]⟩] _ rfl hr Tryz.underlying71 rfl (by kernel_rfl)) rfl ?_
 exact ⟨rfl, hb⟩
theorem wordS_size (op : Int) : (wordS op).size ≤ 2 := by
 show (wordB op).toArray.size ≤ 2
 unfold wordB
 split <;> (try split) <;> (try split) <;> decide
theorem oneB_nm {m : Mt} (h : fineM m = true) : m.nm.size ≤ 12 := by
 obtain ⟨h1, _⟩ := fineM_true h
 unfold nameL at h1
 simp only [Bool.and_eq_true, decide_eq_true_eq, len_B] at h1
 exact h1.1.1.2
theorem esc_size {r val : ByteArray} (hr : B r = escB (B val)) (hv : val.size ≤ 200) : r.size ≤ 400 := by
 have h1 := congrArg List.length hr
 have h2 := escB_bound (B val)
 rw [len_B] at h1 h2
 omega
theorem run_index_words (op : Int) (h0 : 0 ≤ op) (h3 : op ≤ 3) (w : World) : (Instr.index 71 (.agg #[.string ⟨#[61]⟩, .string ⟨#[33, 61]⟩, .string ⟨#[61, 126]⟩, .string ⟨#[33, 126]⟩]) (.int .i64 op)).run Tryz.prog w = .ok (.string (wordS op)) w := by
 rcases (show op = 0 ∨ op = 1 ∨ op = 2 ∨ op = 3 by omega) with rfl | rfl | rfl | rfl <;>
  simp [Instr.index, run_underlying Tryz.underlying71, asIntOf, go_sem, part, Tryz.isAgg9, Tryz.sizeOf9, wordS, wordB]
theorem sjoinM_any (w : World) {v : Value} {ws : List ByteArray} (sep : ByteArray) (hv : StrsAt w v ws) (hl : (Lib.join (ws.map B) (B sep)).length ≤ 140737488355328) :
  Calls Tryz.prog 51 #[v, .string sep] w fun e w' => ∃ s : ByteArray, e = .returned (.string s) ∧ B s = Lib.join (ws.map B) (B sep) ∧ Below w.heap.size w w' := by
 have hm := hv.2
 obtain ⟨a, c, rfl, hc, hr⟩ := hv.shape
 by_cases h0 : ws = []
 ·subst h0
  refine (Tryz.strings_Join_none a c sep w).mono ?_
  rintro e w' ⟨rfl, rfl⟩
  exact ⟨_, rfl, rfl, Below.refl _ _⟩
 ·obtain ⟨b, o, rfl, hlt, hcell⟩ := hr h0
  refine (Tryz.strings_Join b o c ws sep w hcell hlt (by omega) hc hl).mono ?_
  rintro e w' ⟨rfl, hb⟩
  exact ⟨_, rfl, rfl, hb⟩
theorem textclos (m : Mt) (w : World) (hf : MtFit m) : Calls Tryz.prog 47 #[.agg #[.string m.nm, .int .i64 m.op, .string m.val]] w fun e w' => e = .returned (.bool (!(fineM m))) ∧ Below w.heap.size w w' := by
 have hb := alloc_below w (.cells #[.string m.nm, .int .i64 m.op, .string m.val] 29)
 have k := mfine_any m (w.alloc (.cells #[.string m.nm, .int .i64 m.op, .string m.val] 29)) hf
 have HB := Lib.hid hb
 generalize fineM m = R at *
 obtain ⟨nm, op, val⟩ := m
 dsimp only at *
 clear hf hb
 go_enter Tryz.func47, Tryz.ntmps47
 go_wp2_with fail
 refine k.mono ?_
 rintro e w1 ⟨rfl, hb1⟩
 clear k
 go_wp2
 go_ret
 exact ⟨rfl, HB.out.trans (hb1.mono HB.out.size)⟩
theorem rep_step {wr w3 w4 : World} {b N k : Nat} {lv : Value} {ys : List Value} (ho : wr.ownsRow N 9 1 lv k ys) (hs : (k = 0 ∧ lv = .slice none 0 0) ∨ RepS wr b N) (h3 : Below wr.heap.size wr w3) (hN : N ≤ wr.heap.size)
  (hg : w3.grownBy w4 (some b)) (hS : RepS w4 b w4.heap.size) (hK : RepS w3 b N → RepS w4 b N) : ∃ M, N ≤ M ∧ M ≤ w4.heap.size ∧ RepS w4 b M ∧ w4.ownsRow M 9 1 lv k ys := by
 have h4 : wr.heap.size ≤ w4.heap.size := Nat.le_trans h3.size hg.size
 rcases hs with ⟨rfl, rfl⟩ | hs
 ·have : ys = [] := List.length_eq_zero_iff.1 (by rw [ho.1])
  subst this
  exact ⟨w4.heap.size, Nat.le_trans hN h4, Nat.le_refl _, hS, World.ownsRow_nil _ _ _ _⟩
 ·have hb : b < N := by obtain ⟨_, _, _, _, _, _, _, _, n0, _⟩ := hs; exact n0
  refine ⟨N, Nat.le_refl _, Nat.le_trans hN h4, hK (hs.keep (h3.mono hN)), (own_later ho h3).kept hg ?_⟩
  cases hv : lv.ownBlock with
  | none => exact .inl rfl
  | some q => exact .inr (fun e => by have := (ho.lt q hv).1; have := Option.some.inj e; omega)
theorem cell3_block {W W' : World} {g : Nat} {a b c : Value} (e : W'.heap[g]? = W.heap[g]?) (h : W.cell? ⟨g, 0, none⟩ = some a ∧ W.cell? ⟨g, 1, none⟩ = some b ∧ W.cell? ⟨g, 2, none⟩ = some c) :
  W'.cell? ⟨g, 0, none⟩ = some a ∧ W'.cell? ⟨g, 1, none⟩ = some b ∧ W'.cell? ⟨g, 2, none⟩ = some c :=
 ⟨(World.cell?_of_block (w := W) (a := ⟨g, 0, none⟩) e).trans h.1, (World.cell?_of_block (w := W) (a := ⟨g, 1, none⟩) e).trans h.2.1, (World.cell?_of_block (w := W) (a := ⟨g, 2, none⟩) e).trans h.2.2⟩
theorem row_str (w : World) (z : ByteArray) : RdAt (w.alloc (.cells #[.string z] 9)) (.slice (some ⟨w.heap.size, 0, none⟩) 1 1) 1 1 [.string z] :=
 RdAt.mk rfl (Nat.le_refl _) (by rw [World.size_alloc]; omega) (fun j x hj => by
  rw [Nat.zero_add, cell_of_row _ _ _ _ _ _ (heap_alloc_new _ _)]
  simpa using hj)
theorem mtsOk_any (ms : List Mt) : mtsOk ms = (decide (ms.length ≤ 12) && !(ms.any fun m => !(fineM m))) := by
 unfold mtsOk
 congr 1
 induction ms with
 | nil => rfl
 | cons m l ih => rw [List.any_cons, List.all_cons, ih]; cases fineM m <;> simp
set_option maxHeartbeats 3200000 in
set_option maxRecDepth 100000 in
theorem mtext_any (ms : List Mt) (v : Value) (w : World) (hm : MtsAt w v ms) (hfit : MtsFit ms) (hl : ms.length ≤ 1000000000000) :
  Calls Tryz.prog 20 #[v] w fun e w' => ∃ s n, e = .returned (.tuple #[.string s, .int .i64 n]) ∧ Below w.heap.size w w' ∧ ((mtsOk ms = true ∧ n = 0 ∧ B s = textB ms) ∨ (mtsOk ms = false ∧ n = 1 ∧ s = ⟨#[]⟩)) := by
 have kc := hasm_gen ms hfit (fun m => !(fineM m)) 47 #[] (enters_of Tryz.func47 (by kernel_rfl) rfl) v w hm hl (fun W m hmf _ => textclos m W hmf)
 have HOK := Lib.hid (mtsOk_any ms)
 obtain ⟨ma, mc, rfl, hc, hr⟩ := RdAt.shape hm
 by_cases h12 : 12 < ms.length
 ·have HO : Hid (mtsOk ms = false) := Lib.hid (by rw [HOK.out, decide_eq_false (by omega)]; rfl)
  have h12' : (12 : Int) < (ms.length : Int) := by omega
  clear kc hm hfit hr
  generalize ms.length = ln at *
  go_enter Tryz.func20, Tryz.ntmps20
  go_wp2
  go_ret2
  exact ⟨_, _, rfl, Below.refl _ _, .inr ⟨HO.out, rfl, rfl⟩⟩
 have h12' : ¬ (12 : Int) < (ms.length : Int) := by omega
 have h12'' : decide ((12 : Int) < (ms.length : Int)) = false := decide_eq_false h12'
 obtain ⟨R, hR⟩ : ∃ R, (ms.any fun m => !(fineM m)) = R := ⟨_, rfl⟩
 rw [hR] at kc HOK
 rw [decide_eq_true (by omega), Bool.true_and] at HOK
 cases R with
 | true =>
  clear hm hfit hr
  generalize hln : ms.length = ln at *
  clear hln
  go_enter Tryz.func20, Tryz.ntmps20
  go_wp2_with fail
  refine kc.mono ?_
  rintro e w1 ⟨rfl, hb1⟩
  have HB1 := Lib.hid hb1
  clear kc hb1
  go_wp2
  go_ret2
  exact ⟨_, _, rfl, HB1.out, .inr ⟨HOK.out, rfl, rfl⟩⟩
 | false =>
 obtain ⟨i0, hi, hz0, hz1, hz2⟩ := info_parts info_strC
 have HF : Hid (∀ m ∈ ms, fineM m = true) := Lib.hid (fun m hmem => by
  have := (List.any_eq_false.1 hR) m hmem
  simpa using this)
 have HM := Lib.hid hm
 have HR := Lib.hid hr
 have hln : ms.length ≤ 12 := by omega
 clear hR hm hr
 go_enter Tryz.func20, Tryz.ntmps20
 go_wp2_with fail
 refine kc.mono ?_
 rintro e w1 ⟨rfl, hb1⟩
 have hg := heap_alloc_new w1 (.cells #[.string ⟨#[34]⟩, .string ⟨#[92, 34]⟩, .string ⟨#[92]⟩, .string ⟨#[92, 92]⟩] 9)
 have kn := newrep_any _ w1.heap.size hg
 have HB1 := Lib.hid (hb1.trans ((alloc_below w1 (.cells #[.string ⟨#[34]⟩, .string ⟨#[92, 34]⟩, .string ⟨#[92]⟩, .string ⟨#[92, 92]⟩] 9)).mono hb1.size))
 clear kc hb1 hg
 go_wp2_with fail
 refine kn.mono ?_
 rintro e w2 ⟨b, rfl, hR2, hb2, hbb⟩
 have HB2 := Lib.hid (HB1.out.trans (hb2.mono HB1.out.size))
 have HR2 := Lib.hid hR2
 have HBB := Lib.hid (Nat.le_trans HB1.out.size hbb)
 clear kn hR2 hb2 hbb HB1
 go_wp2_with fail
 go_loopw [21, 6] (fun vi vl wr => ∃ (k N : Nat) (lv : Value) (xs : List ByteArray), vi = .int .i64 k ∧ lv = vl ∧ k ≤ ms.length ∧ xs.length = k ∧ Hid (xs.map B = (ms.take k).map oneB) ∧ Hid (wr.ownsRow N 9 1 lv k (xs.map Value.string)) ∧ Hid (RepAt wr b) ∧ Hid ((k = 0 ∧ lv = .slice none 0 0) ∨ RepS wr b N) ∧ Hid (Below w.heap.size w wr) ∧ w.heap.size ≤ N ∧ N ≤ wr.heap.size) (fun v _ _ => ms.length - (intOf v).toNat)
 case atStart => exact ⟨0, w2.heap.size, .slice none 0 0, [], rfl, rfl, Nat.zero_le _, rfl, Lib.hid rfl, Lib.hid (World.ownsRow_nil _ _ _ _), HR2, Lib.hid (.inl ⟨rfl, rfl⟩), HB2, HB2.out.size, Nat.le_refl _⟩
 case round =>
  clear HR2 HB2
  obtain ⟨k, N, lv, xs, rfl, rfl, hk, hxl, HX, HOW, HRA, HRS, HB, hN0, hN1⟩ := hrel
  by_cases hkl : k < ms.length
  ·obtain ⟨g, o, rfl, hg, hcell⟩ := HR.out (by omega)
   obtain ⟨x, hx⟩ : ∃ x, ms[k] = x := ⟨_, rfl⟩
   obtain ⟨hfx1, hfx2⟩ := hfit _ (List.getElem_mem hkl)
   have hfine := HF.out _ (List.getElem_mem hkl)
   have hfm := fineM_true hfine
   obtain ⟨q0, q1, q2⟩ := mtCells_at ms k hkl
   rw [hx] at q0 q1 q2 hfx1 hfx2 hfine hfm
   have p0 := keep_cell (hcell _ _ q0) HB.out hg
   have p1 := keep_cell (hcell _ _ q1) HB.out hg
   have p2 := keep_cell (hcell _ _ q2) HB.out hg
   rw [← Nat.add_assoc] at p1 p2
   have HXX := Lib.hid hx
   clear hx q0 q1 q2 hcell
   obtain ⟨nm, op, val⟩ := x
   obtain ⟨hn1, hop0, hop3, hval, _⟩ := hfm
   dsimp only at *
   have HFIN := Lib.hid hfine
   clear hfine hn1
   go_upto_region 9 with fail
   change Code.wp _ _ _ _ (wr.alloc (.cells #[.string nm, .int .i64 op, .string val] 29))
   have hba := alloc_below wr (.cells #[.string nm, .int .i64 op, .string val] 29)
   have r0 : (wr.alloc (.cells #[.string nm, .int .i64 op, .string val] 29)).cell? ⟨wr.heap.size, 0, none⟩ = some (.string nm) := World.cell?_alloc_at _ _ _ _ rfl
   have r1 : (wr.alloc (.cells #[.string nm, .int .i64 op, .string val] 29)).cell? ⟨wr.heap.size, 1, none⟩ = some (.int .i64 op) := World.cell?_alloc_at _ _ _ _ rfl
   have r2 : (wr.alloc (.cells #[.string nm, .int .i64 op, .string val] 29)).cell? ⟨wr.heap.size, 2, none⟩ = some (.string val) := World.cell?_alloc_at _ _ _ _ rfl
   have hlx : wr.heap.size < (wr.alloc (.cells #[.string nm, .int .i64 op, .string val] 29)).heap.size := by rw [World.size_alloc]; omega
   have hbx : b < wr.heap.size := HRA.out.lt
   clear p0 p1 p2
   generalize wr.alloc (.cells #[.string nm, .int .i64 op, .string val] 29) = wa at *
   have HBA := Lib.hid hba
   have SK : Hid (∀ W : World, Below wa.heap.size wa W → W.cell? ⟨wr.heap.size, 0, none⟩ = some (.string nm) ∧ W.cell? ⟨wr.heap.size, 1, none⟩ = some (.int .i64 op) ∧ W.cell? ⟨wr.heap.size, 2, none⟩ = some (.string val)) := Lib.hid (fun W h => ⟨keep_cell r0 h hlx, keep_cell r1 h hlx, keep_cell r2 h hlx⟩)
   have SG : Hid (∀ W W' : World, wr.heap.size < W.heap.size → W.grownBy W' (some b) → W.cell? ⟨wr.heap.size, 0, none⟩ = some (.string nm) ∧ W.cell? ⟨wr.heap.size, 1, none⟩ = some (.int .i64 op) ∧ W.cell? ⟨wr.heap.size, 2, none⟩ = some (.string val) → W'.cell? ⟨wr.heap.size, 0, none⟩ = some (.string nm) ∧ W'.cell? ⟨wr.heap.size, 1, none⟩ = some (.int .i64 op) ∧ W'.cell? ⟨wr.heap.size, 2, none⟩ = some (.string val)) := Lib.hid (fun W W' hl hg h => by
    have e := hg.block wr.heap.size hl (fun e => by have := Option.some.inj e; omega)
    exact ⟨(World.cell?_of_block (w := W) (a := ⟨wr.heap.size, 0, none⟩) e).trans h.1, (World.cell?_of_block (w := W) (a := ⟨wr.heap.size, 1, none⟩) e).trans h.2.1, (World.cell?_of_block (w := W) (a := ⟨wr.heap.size, 2, none⟩) e).trans h.2.2⟩)
   have KR := Lib.hid (fun W (h : RepAt W b) (hN : N ≤ W.heap.size) => rrep_any W b N val h hN (by omega))
   have HLX := Lib.hid hlx
   have HBX := Lib.hid hbx
   clear hba hlx hbx
   have hidx := run_index_words op hop0 hop3
   have hnz : nm.size ≤ 12 := by
    have := oneB_nm HFIN.out
    exact this
   have hwz := wordS_size op
   have z1 : ¬ 9223372036854775807 < nm.size + (wordS op).size := by omega
   have z2 : ¬ 9223372036854775807 < nm.size + (wordS op).size + 1 := by omega
   clear hop0 hop3
   refine wp_region_held_drew (S := (fun W => W.cell? ⟨wr.heap.size, 0, none⟩ = some (.string nm) ∧ W.cell? ⟨wr.heap.size, 1, none⟩ = some (.int .i64 op) ∧ W.cell? ⟨wr.heap.size, 2, none⟩ = some (.string val))) (by kernel_rfl) (SK.out _ ((Below.refl _ _).drew)) (fun hHeld => ?_)
   have hbd : Below wa.heap.size wa wa.drew := (Below.refl _ _).drew
   have HBD := Lib.hid hbd
   clear hbd
   generalize wa.drew = wd at *
   refine plIn [0, 1, 2, 4, 5, 9, 10, 11] ?_
   iterate 8
    refine hP (v := ?_) rfl rfl hHeld ?_ ?_
    rotate_left
    ·rintro wh ⟨z0, z1, z2⟩
     go_simp
     (try with_reducible rfl)
    simp only [Act.put, List.setIfInBounds_toArray, List.set_cons_zero, List.set_cons_succ]
   refine plOut ?_
   refine held_call (i := 3) rfl (by kernel_rfl) (by rfl) (fun K hK => ?_)
   go_simp; refine (words_any _).mono ?_; rintro e w3 ⟨rfl, hb3⟩; have HB3 := Lib.hid (HBD.out.trans (hb3.mono HBD.out.size)); have HW3 := Lib.hid (HBA.out.trans (HB3.out.mono HBA.out.size)); clear hb3
   refine hK.out _ _ (SK.out _ HB3.out) (fun hHeld => ?_)
   clear hK K
   (try simp only [Act.put, List.setIfInBounds_toArray, List.set_cons_zero, List.set_cons_succ])
   refine plIn [6, 7, 8] ?_
   iterate 3
    refine hP (v := ?_) rfl rfl hHeld ?_ ?_
    rotate_left
    ·rintro wh ⟨z0, z1, z2⟩
     go_simp
     (try with_reducible rfl)
    simp only [Act.put, List.setIfInBounds_toArray, List.set_cons_zero, List.set_cons_succ]
   refine plOut ?_
   refine held_call (i := 12) rfl (by kernel_rfl) (by rfl) (fun K hK => ?_)
   go_simp; refine (KR.out w3 (HRA.out.later HW3.out) (Nat.le_trans hN1 HW3.out.size)).mono ?_; rintro e w4 ⟨r, rfl, hr, hg4, hS4, hK4⟩; obtain ⟨M, hM0, hM1, hMS, hMO⟩ := rep_step HOW.out HRS.out HW3.out hN1 hg4 hS4 hK4; have HSS := Lib.hid (SG.out w3 w4 (Nat.lt_of_lt_of_le HLX.out HB3.out.size) hg4 (SK.out w3 HB3.out)); have HMS := Lib.hid hMS; have HMO := Lib.hid hMO; have HRR := Lib.hid hr; have hrz := esc_size hr hval; have z3 : ¬ 9223372036854775807 < nm.size + (wordS op).size + 1 + r.size := (by omega); have z4 : ¬ 9223372036854775807 < nm.size + (wordS op).size + 1 + r.size + 1 := (by omega); have HG4 := Lib.hid hg4; have HL4 := Lib.hid (Nat.lt_of_lt_of_le HLX.out (Nat.le_trans HB3.out.size hg4.size)); have HW4 := Lib.hid ((HB.out.trans (HW3.out.mono HB.out.size)).grown hg4 (Nat.le_trans HB.out.size HW3.out.size) (fun q hq => by have := Option.some.inj hq; have := HBB.out; omega)); clear hr hg4 hS4 hK4 hMS hMO
   refine hK.out _ _ HSS.out (fun hHeld => ?_)
   clear hK K
   (try simp only [Act.put, List.setIfInBounds_toArray, List.set_cons_zero, List.set_cons_succ])
   refine plIn [13, 14] ?_
   iterate 2
    refine hP (v := ?_) rfl rfl hHeld ?_ ?_
    rotate_left
    ·rintro wh ⟨z0, z1, z2⟩
     go_simp
     (try with_reducible rfl)
    simp only [Act.put, List.setIfInBounds_toArray, List.set_cons_zero, List.set_cons_succ]
   refine plOut ?_
   refine held_step (i := 15) rfl (by kernel_rfl) (fun K hK => ?_)
   go_simp
   refine hK.out _ _ ⟨keep_cell HSS.out.1 (alloc_below _ _) HL4.out, keep_cell HSS.out.2.1 (alloc_below _ _) HL4.out, keep_cell HSS.out.2.2 (alloc_below _ _) HL4.out⟩ (fun hHeld => ?_)
   clear hK K
   (try simp only [Act.put, List.setIfInBounds_toArray])
   refine held_step (i := 16) rfl (by kernel_rfl) (fun K hK => ?_)
   refine step_append_rdD 41 (by rfl) (by rfl) (.tmp 25) (.tmp 40) _ (by rfl) M 9 i0 (.string ⟨#[]⟩) 1 16 Tryz.underlying49 hi hz0 hz1 hz2 rfl (by decide) lv k (xs.map Value.string) (by rfl) (own_later HMO.out (alloc_below _ _)) _ 1 [.string (nm ++ wordS op ++ ⟨#[34]⟩ ++ r ++ ⟨#[34]⟩)] (by rfl) (row_str _ _) (by simp [Value.oneCell']) (by unfold maxLen; omega) (by omega) (by rw [World.size_alloc]; omega) ?_; intro v' w6 hown6 hgrow6 hat6; have HB46 := Lib.hid ((((alloc_below w4 (.cells #[.string (nm ++ wordS op ++ ⟨#[34]⟩ ++ r ++ ⟨#[34]⟩)] 9)).mono hM1).grown hgrow6 (by rw [World.size_alloc]; omega) (fun q hq => (HMO.out.lt q hq).1)) : Below M w4 w6); have HO6 := Lib.hid hown6; have HS6 := Lib.hid (HMS.out.keep HB46.out); have hle6 : M ≤ w6.heap.size := Nat.le_trans hM1 HB46.out.size; have he6 := hgrow6.block wr.heap.size (by rw [World.size_alloc]; have := HL4.out; omega) (fun e => by have := (HOW.out.lt _ e.symm).2; omega); have HSX := Lib.hid (cell3_block he6 ⟨keep_cell HSS.out.1 (alloc_below _ _) HL4.out, keep_cell HSS.out.2.1 (alloc_below _ _) HL4.out, keep_cell HSS.out.2.2 (alloc_below _ _) HL4.out⟩); clear he6 hown6 hgrow6 hat6
   refine hK.out _ _ HSX.out (fun hHeld => ?_)
   clear hK K
   (try simp only [Act.put, List.setIfInBounds_toArray])
   refine hT (i := 17) (v := ?_) rfl rfl hHeld ?_ ?_
   rotate_left
   ·rintro wh ⟨z0, z1, z2⟩
    go_simp
    (try with_reducible rfl)
   simp only [Act.put, List.setIfInBounds_toArray, List.set_cons_zero, List.set_cons_succ]
   refine wpAnyH_done (by kernel_rfl) ?_ _
   clear SK SG KR HB3 HW3 HSS HL4 hidx
   go_wp2
   go_roundw
   case rel => exact ⟨k + 1, M, v', xs ++ [nm ++ wordS op ++ ⟨#[34]⟩ ++ r ++ ⟨#[34]⟩], by go_num, rfl, by omega, by rw [List.length_append, hxl]; rfl, Lib.hid (by rw [List.map_append, HX.out, List.take_succ_eq_append_getElem hkl, List.map_append, HXX.out]; congr 1; simp only [List.map_cons, List.map_nil, B_append, HRR.out]; simp [oneB, wordS, B]), Lib.hid (by rw [List.map_append]; exact HO6.out), Lib.hid HS6.out.at_, Lib.hid (.inr HS6.out), Lib.hid (HW4.out.trans (HB46.out.mono (Nat.le_trans hN0 hM0))), Nat.le_trans hN0 hM0, hle6⟩
   case measure => (simp [intOf]; try omega)
  ·obtain rfl : k = ms.length := by omega
   have HXF : Hid (xs.map B = ms.map oneB) := Lib.hid (by rw [HX.out, List.take_length])
   have hjl : (Lib.join (xs.map B) [44]).length ≤ 140737488355328 := by
    rw [HXF.out, join_textB]
    have := textB_len ms (List.all_eq_true.2 HF.out)
    omega
   have hJ : StrsAt wr lv xs := ⟨by have := RdAt.own HOW.out; rw [← hxl] at this; exact this, by omega⟩
   have kj := sjoinM_any wr (v := lv) ⟨#[44]⟩ hJ hjl
   have HJ := Lib.hid (show Lib.join (xs.map B) [44] = textB ms by rw [HXF.out, join_textB])
   have HWR := Lib.hid HB.out
   clear hJ hjl HX HXF HOW HRA HRS HB
   go_wp2_with fail
   refine kj.mono ?_
   rintro e w5 ⟨s, rfl, hs, hb5⟩
   have HS := Lib.hid hs
   have HB5 := Lib.hid (HWR.out.trans (hb5.mono HWR.out.size))
   clear kj hs hb5
   go_wp2
   go_ret2
   exact ⟨s, 0, rfl, HB5.out, .inl ⟨HOK.out, rfl, HS.out.trans HJ.out⟩⟩
end Go.Proofs.YtgbapkechngnmaaGreat
/- Slices of integers that are read. No program in sight. -/
namespace Go.Proofs.YtgbapkechngnmaaGreat
open Go.RowKit
abbrev I (x : Int) : Value := .int .i64 x
def IntsAt (w : World) (v : Value) (l : List Int) : Prop := RdAt w v l.length 1 (l.map I)
theorem IntsAt.nil (w : World) : IntsAt w (.slice none 0 0) [] := RdAt.nil w 1
theorem IntsAt.later {w w' : World} {v : Value} {l : List Int} (h : IntsAt w v l) (hb : Below w.heap.size w w') : IntsAt w' v l := RdAt.later h hb
theorem IntsAt.own {w : World} {base : Nat} {e : TypeId} {v : Value} {l : List Int} (h : w.ownsRow base e 1 v l.length (l.map I)) : IntsAt w v l := RdAt.own h
end Go.Proofs.YtgbapkechngnmaaGreat
/- Several parts in one: Labels, said plainly: a level and 32 teams as the bits of a number. No program in sight. label.Right and label.Flows: contracts. -/
namespace Go.Proofs.YtgbapkechngnmaaGreat
open Go.RowKit
end Go.Proofs.YtgbapkechngnmaaGreat
namespace Go.Proofs.YtgbapkechngnmaaGreat
open Go.RowKit
end Go.Proofs.YtgbapkechngnmaaGreat
/- The element of a list of int. -/
namespace Go.Proofs.YtgbapkechngnmaaGreat
open Go.RowKit
end Go.Proofs.YtgbapkechngnmaaGreat
/- lychgateref01: Right, Teams, has, Flows: contracts. -/
namespace Go.Proofs.YtgbapkechngnmaaGreat
open Go.RowKit
end Go.Proofs.YtgbapkechngnmaaGreat
/- policy.Find, label.Join, policy.Raised: contracts. -/
namespace Go.Proofs.YtgbapkechngnmaaGreat
open Go.RowKit
/-! plain -/
theorem idx_find {α : Type} (p : α → Bool) (x : α) : ∀ (l : List α) (i : Nat),
  (∃ k, ∃ h : k < l.length, Lib.idxByFrom (fun _ y => p y) x l i = ((i + k : Nat) : Int) ∧ l.find? p = some l[k] ∧ p l[k] = true ∧ ∀ j (hj : j < l.length), j < k → p l[j] = false) ∨
  (Lib.idxByFrom (fun _ y => p y) x l i = -1 ∧ l.find? p = none ∧ ∀ j (hj : j < l.length), p l[j] = false)
 | [], i => .inr ⟨rfl, rfl, fun j hj => absurd hj (Nat.not_lt_zero _)⟩
 | y :: r, i => by
  by_cases h : p y = true
  ·exact .inl ⟨0, Nat.succ_pos _, by simp [Lib.idxByFrom, h], by simp [h], by simpa using h, fun j _ hj => absurd hj (Nat.not_lt_zero _)⟩
  ·have h' : p y = false := by simpa using h
   rcases idx_find p x r (i + 1) with ⟨k, hk, h1, h2, h3, h4⟩ | ⟨h1, h2, h3⟩
   ·refine .inl ⟨k + 1, by simpa using hk, ?_, by simp [h', h2], by simpa using h3, fun j hj hjk => ?_⟩
    ·simp only [Lib.idxByFrom, h']
     rw [show (if false = true then (i : Int) else Lib.idxByFrom (fun _ y => p y) x r (i + 1)) = Lib.idxByFrom (fun _ y => p y) x r (i + 1) from rfl, h1]
     congr 1; omega
    ·cases j with
     | zero => simpa using h'
     | succ j => simpa using h4 j (by simpa using hj) (by omega)
   ·refine .inr ⟨?_, by simp [h', h2], fun j hj => ?_⟩
    ·simp only [Lib.idxByFrom, h']
     rw [show (if false = true then (i : Int) else Lib.idxByFrom (fun _ y => p y) x r (i + 1)) = Lib.idxByFrom (fun _ y => p y) x r (i + 1) from rfl, h1]
    ·cases j with
     | zero => simpa using h'
     | succ j => simpa using h3 j (by simpa using hj)
abbrev Nmd := ByteArray × Int × Nat
def nmdC (x : Nmd) : List Value := [.string x.1, .int .i64 x.2.1, .int .u32 x.2.2]
def nmdCells : List Nmd → List Value
 | [] => []
 | x :: l => nmdC x ++ nmdCells l
def NmdsAt (w : World) (v : Value) (l : List Nmd) : Prop := RdAt w v l.length 3 (nmdCells l)
theorem NmdsAt.later {w w' : World} {v : Value} {l : List Nmd} (h : NmdsAt w v l) (hb : Below w.heap.size w w') : NmdsAt w' v l := RdAt.later h hb
theorem cell_lt {w : World} {b o : Nat} {v : Value} (h : w.cell? ⟨b, o, none⟩ = some v) : b < w.heap.size := by
 by_cases hb : b < w.heap.size
 ·exact hb
 ·have : w.heap[b]? = none := Array.getElem?_eq_none_iff.2 (by omega)
  simp [World.cell?, this] at h
/-! the walks -/
end Go.Proofs.YtgbapkechngnmaaGreat
