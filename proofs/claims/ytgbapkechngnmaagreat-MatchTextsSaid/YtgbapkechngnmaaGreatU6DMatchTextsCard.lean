/- MatchTexts: the card: whatever the arguments, the law returns true and its arguments read as they did. No condition. -/
import Derived.Test.YtgbapkechngnmaaGreatU6DP4
import Derived.Deep.QuietTactic
import Derived.BigQuiet
import Derived.Test.YtgbapkechngnmaaGreatFrame12

/- lychgateref06.SameAll of the same matchers: a contract; MatchBack: the law's walk: whatever the arguments, it returns true. No condition. -/
namespace Go.Proofs.YtgbapkechngnmaaGreat
open Go.RowKit

set_option maxHeartbeats 1600000 in
set_option maxRecDepth 100000 in
theorem sameall_eq (l : List Mt) (u v : Value) (w : World) (hu : MtsAt w u l) (hv : MtsAt w v l) (hl : l.length ≤ 1000000) :
  Calls Tryz.prog 22 #[u, v] w fun e w' => e = .returned (.bool true) ∧ Below w.heap.size w w' := by
 obtain ⟨a, c, rfl, hc, hr⟩ := RdAt.shape hu
 obtain ⟨a', c', rfl, hc', hr'⟩ := RdAt.shape hv
 have HR := Lib.hid hr
 have HR' := Lib.hid hr'
 have hb0 : ((l.length : Int) != (l.length : Int)) = false := by simp
 clear hr hr' hu hv
 go_enter Tryz.func22, Tryz.ntmps22
 go_wp2
 go_loopw [5] (fun i wr => ∃ k : Nat, k ≤ l.length ∧ i = .int .i64 k ∧ Below w.heap.size w wr) (fun i _ => l.length - (intOf i).toNat)
 case atStart => exact ⟨0, Nat.zero_le _, rfl, Below.refl _ _⟩
 case round =>
  obtain ⟨k, hk, rfl, hbr⟩ := hrel
  by_cases hkl : k < l.length
  ·obtain ⟨⟨x0, x1, x2⟩, hxe⟩ : ∃ x, l[k] = x := ⟨_, rfl⟩
   obtain ⟨b0, o0, rfl, hb0', hcell⟩ := HR.out (by omega)
   obtain ⟨b1, o1, rfl, hb1', hcell'⟩ := HR'.out (by omega)
   obtain ⟨q0, q1, q2⟩ := mtCells_at l k hkl
   rw [hxe] at q0 q1 q2
   have c0 : wr.cell? ⟨b0, o0 + k * 3, none⟩ = some (.string x0) := keep_cell (hcell _ _ q0) hbr hb0'
   have c1 : wr.cell? ⟨b0, o0 + k * 3 + 1, none⟩ = some (.int .i64 x1) := keep_cell (by have := hcell _ _ q1; rwa [← Nat.add_assoc] at this) hbr hb0'
   have c2 : wr.cell? ⟨b0, o0 + k * 3 + 2, none⟩ = some (.string x2) := keep_cell (by have := hcell _ _ q2; rwa [← Nat.add_assoc] at this) hbr hb0'
   have d0 : wr.cell? ⟨b1, o1 + k * 3, none⟩ = some (.string x0) := keep_cell (hcell' _ _ q0) hbr hb1'
   have d1 : wr.cell? ⟨b1, o1 + k * 3 + 1, none⟩ = some (.int .i64 x1) := keep_cell (by have := hcell' _ _ q1; rwa [← Nat.add_assoc] at this) hbr hb1'
   have d2 : wr.cell? ⟨b1, o1 + k * 3 + 2, none⟩ = some (.string x2) := keep_cell (by have := hcell' _ _ q2; rwa [← Nat.add_assoc] at this) hbr hb1'
   have e0 : (x0.toList == x0.toList) = true := by simp
   have e2 : (x2.toList == x2.toList) = true := by simp
   have e1 : (x1 == x1) = true := by simp
   clear hcell hcell' q0 q1 q2 hxe
   go_wp2
   go_quiet (fail)
   have hb2 : Below w.heap.size w (wr.drewN nq) := bl_drewN hbr nq
   generalize wr.drewN nq = wq at *
   go_wp2
   go_roundw
   case rel => exact ⟨k + 1, by omega, by go_num, hb2⟩
   case measure => simp [intOf]; omega
  ·go_wp2
   go_ret
   exact ⟨rfl, hbr⟩
theorem mtsOk_small {l : List Mt} (h : mtsOk l = true) : l.length ≤ 12 ∧ l.all fineM = true := by
 unfold mtsOk at h
 rw [Bool.and_eq_true, decide_eq_true_eq] at h
 exact h
theorem text_size {s : ByteArray} {l : List Mt} (h : mtsOk l = true) (hs : B s = textB l) : s.size ≤ 900000 := by
 obtain ⟨h1, h2⟩ := mtsOk_small h
 have := textB_len l h2
 rw [← hs, len_B] at this
 omega
namespace lawBack
set_option maxHeartbeats 3200000 in
set_option maxRecDepth 100000 in
theorem walk (v0 : Value) (a0 : List Mt) (s : ByteArray) (w : World) (ha : ArgMts w v0 a0) (hs : s.size ≤ maxLen) :
  Calls Tryz.prog 4 #[v0, .string s] w fun e w' => e = .returned (.bool true) ∧ Below w.heap.size w w' := by
 have kl := lives6_any w
 have KA := Lib.hid (fun W (h : Below w.heap.size w W) => few6_any a0 v0 W (ha.1.later h) ha.2.1)
 have HFA := Lib.hid (fewM_fit ha.2.2)
 unfold maxLen at hs
 have hmin0 : (0 : Int) ≤ min (s.size : Int) 600 := by omega
 have hmin1 : min (s.size : Int) 600 ≤ (s.size : Int) := by omega
 have htz : (s.extract 0 (min (s.size : Int) 600).toNat).size ≤ 600 := by rw [ByteArray.size_extract]; omega
 obtain ⟨t, ht⟩ : ∃ t, s.extract 0 (min (s.size : Int) 600).toNat = t := ⟨_, rfl⟩
 rw [ht] at htz
 clear ha
 go_enter Tryz.func4, Tryz.ntmps4
 go_wp2_with fail
 refine kl.mono ?_
 rintro e w1 ⟨rfl, hb1⟩
 have HB1 := Lib.hid hb1
 have ka := KA.out w1 hb1
 clear kl hb1 KA
 go_wp2_with fail
 refine ka.mono ?_
 rintro e w3 ⟨av, rfl, hao, hb3⟩
 have HB3 := Lib.hid (HB1.out.trans (hb3.mono HB1.out.size))
 have HA3 := Lib.hid (RdAt.own hao)
 have hal := fewM_le a0
 generalize fewM a0 = A at *
 obtain ⟨aa, ac, rfl, _, _⟩ := RdAt.shape HA3.out
 have kt := mtext_any A _ w3 HA3.out HFA.out (by omega)
 clear ka hb3 hao
 go_wp2_with fail
 refine kt.mono ?_
 rintro e w4 ⟨tx, n, rfl, hb4, htx⟩
 have HB4 := Lib.hid (HB3.out.trans (hb4.mono HB3.out.size))
 have HA4 := Lib.hid (HA3.out.later hb4)
 have HTX := Lib.hid htx
 have hn : n = 0 ∨ n = 1 := by rcases htx with ⟨_, h, _⟩ | ⟨_, h, _⟩; exact .inl h; exact .inr h
 clear kt hb4 htx HA3
 go_upto_if 23 with fail
 go_cut [7, 8] (fun _ _ wx => Below w4.heap.size w4 wx)
 case first =>
  rcases hn with rfl | rfl
  ·have hok : mtsOk A = true ∧ B tx = textB A := by
    rcases HTX.out with ⟨h1, _, h3⟩ | ⟨_, h, _⟩
    ·exact ⟨h1, h3⟩
    ·cases h
   have kr := mread_any tx w4 (text_size hok.1 hok.2)
   have hrd : rdB 12 (B tx) = some A := (rd_iff _ _).2 ⟨hok.1, hok.2.symm⟩
   have HRD := Lib.hid hrd
   clear hok hrd
   go_wp2_with fail
   refine kr.mono ?_
   rintro e w5 ⟨xv, n, rfl, hb5, ⟨rfl, l, hl, hM, hF⟩ | ⟨_, hn, _⟩⟩
   rotate_left
   ·rw [HRD.out] at hn; cases hn
   obtain rfl : l = A := by rw [HRD.out] at hl; exact (Option.some.inj hl).symm
   obtain ⟨xa, xc, rfl, _, _⟩ := RdAt.shape hM
   have ks := sameall_eq l _ _ w5 hM (HA4.out.later hb5) (by omega)
   have HB5 := Lib.hid hb5
   clear kr hl hM hF hb5
   go_wp2_with fail
   refine ks.mono ?_
   rintro e w6 ⟨rfl, hb6⟩
   have HB6 := Lib.hid (HB5.out.trans (hb6.mono HB5.out.size))
   clear ks hb6
   go_wp2
   go_meet
   case rel => exact HB6.out
  ·go_wp2
   go_meet
   case rel => exact Below.refl _ _
 case rest =>
  have HCW := Lib.hid (HB4.out.trans (hcut.mono HB4.out.size))
  clear hcut HTX hn HA4
  have kr := mread_any t wc (by omega)
  go_upto_region 10 with fail
  clear ht hmin0 hmin1
  go_wp2_with fail
  refine kr.mono ?_
  rintro e w5 ⟨xv, n, rfl, hb5, ⟨rfl, l, hl, hM, hF⟩ | ⟨rfl, hn, rfl⟩⟩
  ·obtain ⟨h1, h2⟩ := (rd_iff _ _).1 hl
   have kt := mtext_any l xv w5 hM hF (by have := (mtsOk_small h1).1; omega)
   obtain ⟨xa, xc, rfl, _, _⟩ := RdAt.shape hM
   have HH := Lib.hid (And.intro h1 h2)
   have HB5 := Lib.hid (HCW.out.trans (hb5.mono HCW.out.size))
   clear kr hl hM hF hb5 h1 h2
   go_wp2_with fail
   refine kt.mono ?_
   rintro e w6 ⟨tu, n, rfl, hb6, ⟨_, rfl, htu⟩ | ⟨hno, _, _⟩⟩
   ·obtain rfl : tu = t := B_inj (htu.trans HH.out.2)
    have HB6 := Lib.hid (HB5.out.trans (hb6.mono HB5.out.size))
    have et : (tu.toList == tu.toList) = true := by simp
    clear kt hb6 htu
    go_wp2
    go_ret
    exact ⟨rfl, HB6.out⟩
   ·rw [HH.out.1] at hno; cases hno
  ·have HB5 := Lib.hid (HCW.out.trans (hb5.mono HCW.out.size))
   clear kr hn hb5
   go_wp2
   go_ret
   exact ⟨rfl, HB5.out⟩
end lawBack
end Go.Proofs.YtgbapkechngnmaaGreat
/- MatchTexts: the law's walk: whatever the arguments, it returns true. No condition. (Regions 3, 7 and 12 are printed by wip/genmatexts.py.) -/
namespace Go.Proofs.YtgbapkechngnmaaGreat
open Go.RowKit

theorem cut_fld6 {w : World} {v : Value} {fl : List Fld} (h : FldsAt w v fl) : ∃ a n c, v = .slice a n c ∧ n = fl.length ∧ n ≤ c ∧ FldsAt w (.slice a (min (n : Int) 12).toNat c) (fl.take 12) := by
 obtain ⟨a, c, rfl, hc, hr⟩ := RdAt.shape h
 refine ⟨a, _, c, rfl, rfl, hc, ?_⟩
 have := fld_take h (min fl.length 12) (by omega) (fun ha => by
  rcases Nat.eq_zero_or_pos fl.length with h0 | h0
  ·exact h0
  ·obtain ⟨_, _, h1, _⟩ := hr h0
   rw [ha] at h1; cases h1)
 have e : fl.take (min fl.length 12) = fl.take 12 := by
  rcases Nat.le_total fl.length 12 with h1 | h1
  ·rw [Nat.min_eq_left h1, List.take_of_length_le h1, List.take_length]
  ·rw [Nat.min_eq_right h1]
 rw [e] at this
 rwa [show (min (fl.length : Int) 12).toNat = min fl.length 12 by omega]
def rdL (s : ByteArray) : List Mt := (rdB 12 (B s)).getD []
def rdN (s : ByteArray) : Int := if (rdB 12 (B s)).isSome then 0 else 2
theorem readpost_at {s : ByteArray} {w : World} {e : Ending} {w' : World} (h : ReadPost6 s w e w') : ∃ v, e = .returned (.tuple #[v, .int .i64 (rdN s)]) ∧ Below w.heap.size w w' ∧ MtsAt w' v (rdL s) := by
 unfold rdL rdN
 obtain ⟨v, n, rfl, hb, ⟨rfl, l, hl, hM, _⟩ | ⟨rfl, hn, rfl⟩⟩ := h
 ·exact ⟨v, by rw [hl]; rfl, hb, by rw [hl]; exact hM⟩
 ·exact ⟨_, by rw [hn]; rfl, hb, by rw [hn]; exact RdAt.nil _ _⟩
theorem rdL_len (s : ByteArray) : (rdL s).length ≤ 12 := by
 unfold rdL
 cases h : rdB 12 (B s) with
 | none => exact Nat.zero_le _
 | some l => exact (mtsOk_small ((rd_iff _ _).1 h).1).1
namespace lawTexts
set_option maxHeartbeats 3200000 in
set_option maxRecDepth 100000 in
theorem walk (v0 : Value) (l : List Fld) (v1 : Value) (a0 : List Mt) (s : ByteArray) (w : World) (hv : ArgFlds w v0 l) (ha : ArgMts w v1 a0) (hs : s.size ≤ maxLen) :
  Calls Tryz.prog 8 #[v0, v1, .string s] w fun e w' => e = .returned (.bool true) ∧ Below w.heap.size w w' := by
 have kl := lives6_any w
 have KA := Lib.hid (fun W (h : Below w.heap.size w W) => few6_any a0 v1 W (ha.1.later h) ha.2.1)
 have HFA := Lib.hid (fewM_fit ha.2.2)
 obtain ⟨la, ln, lc, rfl, hln, hlc, hl12⟩ := cut_fld6 hv.1
 have hlm := hv.2.1
 rw [← hln] at hlm
 have HLF : Hid (FldsFit (l.take 12)) := Lib.hid (fun f hf => hv.2.2 f (List.mem_of_mem_take hf))
 have HL := Lib.hid hl12
 have hLl : (l.take 12).length ≤ 12 := by rw [List.length_take]; omega
 have hLn : (min (ln : Int) 12).toNat = (l.take 12).length := by rw [List.length_take]; omega
 unfold maxLen at hs hlm
 have hmin0 : (0 : Int) ≤ min (s.size : Int) 600 := by omega
 have hmin1 : min (s.size : Int) 600 ≤ (s.size : Int) := by omega
 have hmin2 : (0 : Int) ≤ min (ln : Int) 12 := by omega
 have hmin3 : min (ln : Int) 12 ≤ (lc : Int) := by omega
 have htz : (s.extract 0 (min (s.size : Int) 600).toNat).size ≤ 600 := by rw [ByteArray.size_extract]; omega
 rw [hLn] at HL
 obtain ⟨L, hL⟩ : ∃ L, l.take 12 = L := ⟨_, rfl⟩
 rw [hL] at HL HLF hLl hLn
 clear hv ha hl12 hln hL
 go_enter Tryz.func8, Tryz.ntmps8
 go_wp2_with fail
 refine kl.mono ?_
 rintro e w1 ⟨rfl, hb1⟩
 have HB1 := Lib.hid hb1
 clear kl hb1
 go_upto_region 3 with fail
 refine wp_region_held_drew (S := (fun _ => True)) (by kernel_rfl) trivial (fun hHeld => ?_)
 have hbd : Below w1.heap.size w1 w1.drew := (Below.refl _ _).drew
 have HBD := Lib.hid hbd
 clear hbd
 generalize w1.drew = wd at *
 refine plIn [0, 1, 2, 3, 4, 5, 7, 8, 9, 10, 11] ?_
 iterate 11
  refine hP (v := ?_) rfl rfl hHeld ?_ ?_
  rotate_left
  ·rintro wh _
   go_simp
   (try with_reducible rfl)
  simp only [Act.put, List.setIfInBounds_toArray, List.set_cons_zero, List.set_cons_succ]
 refine plOut ?_
 refine held_call (i := 6) rfl (by kernel_rfl) (by rfl) (fun K hK => ?_)
 go_simp; refine (KA.out _ (HB1.out.trans (HBD.out.mono HB1.out.size))).mono ?_; rintro e w2 ⟨av, rfl, hao, hb2⟩; have HX2 := Lib.hid (HBD.out.trans (hb2.mono HBD.out.size)); have HAO := Lib.hid (RdAt.own hao); clear hb2 hao
 refine hK.out _ _ trivial (fun hHeld => ?_)
 clear hK K
 (try simp only [Act.put, List.setIfInBounds_toArray, List.set_cons_zero, List.set_cons_succ])
 refine hT (i := 12) (v := ?_) rfl rfl hHeld ?_ ?_
 rotate_left
 ·rintro wh _
  go_simp
  (try with_reducible rfl)
 simp only [Act.put, List.setIfInBounds_toArray, List.set_cons_zero]
 refine plIn [13, 14] ?_
 iterate 2
  refine hP (v := ?_) rfl rfl hHeld ?_ ?_
  rotate_left
  ·rintro wh _
   go_simp
   (try with_reducible rfl)
  simp only [Act.put, List.setIfInBounds_toArray, List.set_cons_zero, List.set_cons_succ]
 refine plOut ?_
 refine wpAnyH_done (by kernel_rfl) ?_ _
 clear KA hmin0 hmin1 hmin2 hmin3 hLn hlc hlm
 generalize s.extract 0 (min (s.size : Int) 600).toNat = t at *
 have hal := fewM_le a0
 generalize fewM a0 = A at *
 have HL2 := Lib.hid ((HL.out.later HB1.out).later HX2.out)
 have HB2 := Lib.hid (HB1.out.trans (HX2.out.mono HB1.out.size))
 clear HL HBD HX2 HB1
 obtain ⟨aa, ac, rfl, hac, har⟩ := RdAt.shape HAO.out
 have HAR := Lib.hid har
 clear har
 obtain ⟨_, _, he, _, hlr⟩ := RdAt.shape HL2.out
 have hlr' := hlr
 obtain ⟨rfl, _⟩ : _ = la ∧ True := ⟨(by injection he with h1 _ _; exact h1.symm), trivial⟩
 have HLR := Lib.hid hlr
 clear hlr hlr' he
 go_wp2_with fail
 go_loopw [7] (fun v wr => ∃ k : Nat, v = .int .i64 k ∧ k ≤ L.length ∧ Hid (Below w2.heap.size w2 wr)) (fun v _ => L.length - (intOf v).toNat)
 case atStart => exact ⟨0, rfl, Nat.zero_le _, Lib.hid (Below.refl _ _)⟩
 case round =>
  obtain ⟨k, rfl, hk, HB⟩ := hrel
  have hk0 : (0 : Int) ≤ (k : Int) := by omega
  by_cases hkl : k < L.length
  ·have hkl' : (k : Int) < (L.length : Int) := by omega
   obtain ⟨g, o, rfl, hg, hcell⟩ := HLR.out (by omega)
   obtain ⟨x, hx⟩ : ∃ x, L[k] = x := ⟨_, rfl⟩
   have hmem : x ∈ L := by rw [← hx]; exact List.getElem_mem hkl
   have hxz := (HLF.out x hmem).1
   obtain ⟨q0, _⟩ := fldCells_at L k hkl
   rw [hx] at q0
   have p0 := keep_cell (hcell _ _ q0) HB.out hg
   have hgr : g < wr.heap.size := Nat.lt_of_lt_of_le hg HB.out.size
   obtain ⟨nm, val⟩ := x
   dsimp only at p0 hxz
   have SK : Hid (∀ W, Below wr.heap.size wr W → W.cell? ⟨g, o + k * 2, none⟩ = some (.string nm)) := Lib.hid (fun W h => keep_cell p0 h hgr)
   have k1 := Lib.hid (fun W => name_any nm W hxz)
   have k2 := Lib.hid (fun W => refName.name_any nm W hxz)
   obtain ⟨N, hN⟩ : ∃ N, nameL (B nm) = N := ⟨_, rfl⟩
   rw [hN] at k1 k2
   have hne : (N != N) = false := by cases N <;> rfl
   clear hx q0 hcell hmem hN p0 hg hgr hxz
   go_upto_region 7 with fail
   refine wp_region_held_drew (S := (fun W => W.cell? ⟨g, o + k * 2, none⟩ = some (.string nm))) (by kernel_rfl) (SK.out _ ((Below.refl _ _).drew)) (fun hHeld => ?_)
   have hbd : Below wr.heap.size wr wr.drew := (Below.refl _ _).drew
   have HBD := Lib.hid hbd
   clear hbd
   generalize wr.drew = wd at *
   refine plIn [0, 1, 2, 3, 4, 6, 7, 8, 9, 10] ?_
   iterate 10
    refine hP (v := ?_) rfl rfl hHeld ?_ ?_
    rotate_left
    ·rintro wh z0
     go_simp
     (try with_reducible rfl)
    simp only [Act.put, List.setIfInBounds_toArray, List.set_cons_zero, List.set_cons_succ]
   refine plOut ?_
   refine held_call (i := 5) rfl (by kernel_rfl) (by rfl) (fun K hK => ?_)
   go_simp; refine (k1.out _).mono ?_; rintro e x1 ⟨rfl, hb1⟩; have HX1 := Lib.hid (HBD.out.trans (hb1.mono HBD.out.size)); clear hb1
   refine hK.out _ _ (SK.out _ HX1.out) (fun hHeld => ?_)
   clear hK K
   (try simp only [Act.put, List.setIfInBounds_toArray, List.set_cons_zero, List.set_cons_succ])
   refine held_call (i := 11) rfl (by kernel_rfl) (by rfl) (fun K hK => ?_)
   go_simp; refine (k2.out _).mono ?_; rintro e x2 ⟨rfl, rfl⟩
   refine hK.out _ _ (SK.out _ HX1.out) (fun hHeld => ?_)
   clear hK K
   (try simp only [Act.put, List.setIfInBounds_toArray, List.set_cons_zero, List.set_cons_succ])
   refine hT (i := 12) (v := ?_) rfl rfl hHeld ?_ ?_
   rotate_left
   ·rintro wh z0
    go_simp
    (try with_reducible rfl)
   simp only [Act.put, List.setIfInBounds_toArray, List.set_cons_zero, List.set_cons_succ]
   refine wpAnyH_done (by kernel_rfl) ?_ _
   have HE := Lib.hid (HB.out.trans (HX1.out.mono HB.out.size))
   go_wp2
   go_roundw
   case rel => exact ⟨k + 1, by go_num, by omega, HE⟩
   case measure => (simp [intOf]; try omega)
  ·have hkl' : ¬ (k : Int) < (L.length : Int) := by omega
   have HB3 := HB
   obtain ⟨w3, hw3⟩ : ∃ w3, wr = w3 := ⟨_, rfl⟩
   rw [hw3] at HB3
   rw [hw3]
   clear hw3 HB
   go_wp2_with fail
   go_loopw [8] (fun v wr => ∃ k : Nat, v = .int .i64 k ∧ k ≤ A.length ∧ Hid (Below w2.heap.size w2 wr)) (fun v _ => A.length - (intOf v).toNat)
   case atStart => exact ⟨0, rfl, Nat.zero_le _, HB3⟩
   case round =>
    clear HB3
    obtain ⟨k, rfl, hk, HB⟩ := hrel
    have hk0 : (0 : Int) ≤ (k : Int) := by omega
    by_cases hkl : k < A.length
    ·have hkl' : (k : Int) < (A.length : Int) := by omega
     obtain ⟨g, o, rfl, hg, hcell⟩ := HAR.out (by omega)
     obtain ⟨x, hx⟩ : ∃ x, A[k] = x := ⟨_, rfl⟩
     have hmem : x ∈ A := by rw [← hx]; exact List.getElem_mem hkl
     have hxf := HFA.out x hmem
     obtain ⟨q0, q1, q2⟩ := mtCells_at A k hkl
     rw [hx] at q0 q1 q2
     have p0 := keep_cell (hcell _ _ q0) HB.out hg
     have p1 := keep_cell (hcell _ _ q1) HB.out hg
     have p2 := keep_cell (hcell _ _ q2) HB.out hg
     rw [← Nat.add_assoc] at p1 p2
     have hgr : g < wr.heap.size := Nat.lt_of_lt_of_le hg HB.out.size
     have SK : Hid (∀ W, Below wr.heap.size wr W → W.cell? ⟨g, o + k * 3, none⟩ = some (.string x.nm) ∧ W.cell? ⟨g, o + k * 3 + 1, none⟩ = some (.int .i64 x.op) ∧ W.cell? ⟨g, o + k * 3 + 2, none⟩ = some (.string x.val)) := Lib.hid (fun W h => ⟨keep_cell p0 h hgr, keep_cell p1 h hgr, keep_cell p2 h hgr⟩)
     have k1 := Lib.hid (fun W => mfine_any x W hxf)
     have k2 := Lib.hid (fun W => fine6_any x W hxf)
     obtain ⟨N, hN⟩ : ∃ N, fineM x = N := ⟨_, rfl⟩
     rw [hN] at k1 k2
     have hne : (N != N) = false := by cases N <;> rfl
     clear hx q0 q1 q2 hcell hmem hN p0 p1 p2 hg hgr hxf
     obtain ⟨nm, op, val⟩ := x
     dsimp only at *
     go_upto_region 12 with fail
     refine wp_region_held_drew (S := (fun W => W.cell? ⟨g, o + k * 3, none⟩ = some (.string nm) ∧ W.cell? ⟨g, o + k * 3 + 1, none⟩ = some (.int .i64 op) ∧ W.cell? ⟨g, o + k * 3 + 2, none⟩ = some (.string val))) (by kernel_rfl) (SK.out _ ((Below.refl _ _).drew)) (fun hHeld => ?_)
     have hbd : Below wr.heap.size wr wr.drew := (Below.refl _ _).drew
     have HBD := Lib.hid hbd
     clear hbd
     generalize wr.drew = wd at *
     refine plIn [0, 1, 2, 3, 5, 6, 7, 8] ?_
     iterate 8
      refine hP (v := ?_) rfl rfl hHeld ?_ ?_
      rotate_left
      ·rintro wh ⟨z0, z1, z2⟩
       go_simp
       (try with_reducible rfl)
      simp only [Act.put, List.setIfInBounds_toArray, List.set_cons_zero, List.set_cons_succ]
     refine plOut ?_
     refine held_call (i := 4) rfl (by kernel_rfl) (by rfl) (fun K hK => ?_)
     go_simp; refine (k1.out _).mono ?_; rintro e x1 ⟨rfl, hb1⟩; have HX1 := Lib.hid (HBD.out.trans (hb1.mono HBD.out.size)); clear hb1
     refine hK.out _ _ (SK.out _ HX1.out) (fun hHeld => ?_)
     clear hK K
     (try simp only [Act.put, List.setIfInBounds_toArray, List.set_cons_zero, List.set_cons_succ])
     refine held_call (i := 9) rfl (by kernel_rfl) (by rfl) (fun K hK => ?_)
     go_simp; refine (k2.out _).mono ?_; rintro e x2 ⟨rfl, hb2⟩; have HX2 := Lib.hid (HX1.out.trans (hb2.mono HX1.out.size)); clear hb2
     refine hK.out _ _ (SK.out _ HX2.out) (fun hHeld => ?_)
     clear hK K
     (try simp only [Act.put, List.setIfInBounds_toArray, List.set_cons_zero, List.set_cons_succ])
     refine hT (i := 10) (v := ?_) rfl rfl hHeld ?_ ?_
     rotate_left
     ·rintro wh ⟨z0, z1, z2⟩
      go_simp
      (try with_reducible rfl)
     simp only [Act.put, List.setIfInBounds_toArray, List.set_cons_zero, List.set_cons_succ]
     refine wpAnyH_done (by kernel_rfl) ?_ _
     have HE := Lib.hid (HB.out.trans (HX2.out.mono HB.out.size))
     go_wp2
     go_roundw
     case rel => exact ⟨k + 1, by go_num, by omega, HE⟩
     case measure => (simp [intOf]; try omega)
    ·have hkl' : ¬ (k : Int) < (A.length : Int) := by omega
     have HA3 := Lib.hid (RdAt.later HAO.out HB.out)
     have kt := mtext_any A _ wr HA3.out HFA.out (by omega)
     clear HAR HLR
     go_wp2_with fail
     refine kt.mono ?_
     rintro e w4 ⟨tx, n, rfl, hb4, htx⟩
     have HB4 := Lib.hid (HB.out.trans (hb4.mono HB.out.size))
     have HTX := Lib.hid htx
     have HA4 := Lib.hid (RdAt.later HA3.out hb4)
     have ku := rtext_any A _ w4 HA4.out HFA.out (by omega)
     clear kt hb4 htx HA3
     go_wp2_with fail
     refine ku.mono ?_
     rintro e w5 ⟨ty, n', rfl, hb5, hty⟩
     have HB5 := Lib.hid (HB4.out.trans (hb5.mono HB4.out.size))
     obtain ⟨rfl, rfl⟩ : ty = tx ∧ n' = n := by
      rcases HTX.out with ⟨h1, h2, h3⟩ | ⟨h1, h2, h3⟩ <;> rcases hty with ⟨g1, g2, g3⟩ | ⟨g1, g2, g3⟩
      ·exact ⟨B_inj (g3.trans h3.symm), by rw [h2, g2]⟩
      ·rw [h1] at g1; cases g1
      ·rw [h1] at g1; cases g1
      ·exact ⟨by rw [h3, g3], by rw [h2, g2]⟩
     have kr := mread_any t w5 (by omega)
     clear ku hb5 hty HTX HA4
     go_wp2_with fail
     refine kr.mono ?_
     rintro e w6 hrp
     obtain ⟨cv, rfl, hb6, hcv⟩ := readpost_at hrp
     have HB6 := Lib.hid (HB5.out.trans (hb6.mono HB5.out.size))
     have HC6 := Lib.hid hcv
     have kr' := rread6_any t w6 (by omega)
     clear kr hrp hb6 hcv
     go_wp2_with fail
     refine kr'.mono ?_
     rintro e w7 hrp
     obtain ⟨dv, rfl, hb7, hdv⟩ := readpost_at hrp
     have HB7 := Lib.hid (HB6.out.trans (hb7.mono HB6.out.size))
     have HC7 := Lib.hid (RdAt.later HC6.out hb7)
     have HD7 := Lib.hid hdv
     have hrl := rdL_len t
     clear kr' hrp hb7 hdv HC6
     have kf := rightf_any L w7 _ (RdAt.later HL2.out HB7.out) HLF.out (by unfold maxLen; omega)
     have kg := fun W (h : Below w2.heap.size w2 W) => rright6_any L W _ (RdAt.later HL2.out h) HLF.out (by unfold maxLen; omega)
     obtain ⟨RF, hRF⟩ : ∃ F, rightF L = F := ⟨_, rfl⟩
     rw [hRF] at kf
     simp only [hRF] at kg
     have et : (ty.toList == ty.toList) = true := by simp
     have eR : (RF == RF) = true := by simp
     clear hRF
     go_wp2_with fail
     refine kf.mono ?_
     rintro e w8 ⟨rfl, hb8⟩
     have HB8 := Lib.hid (HB7.out.trans (hb8.mono HB7.out.size))
     have HC8 := Lib.hid (RdAt.later HC7.out hb8)
     have HD8 := Lib.hid (RdAt.later HD7.out hb8)
     have kg := kg w8 HB8.out
     clear kf hb8 HC7 HD7
     go_wp2_with fail
     refine kg.mono ?_
     rintro e w9 ⟨rfl, hb9⟩
     have HB9 := Lib.hid (HB8.out.trans (hb9.mono HB8.out.size))
     have ks := sameall_eq (rdL t) _ _ w9 (RdAt.later HC8.out hb9) (RdAt.later HD8.out hb9) (by omega)
     clear kg hb9 HC8 HD8
     go_wp2_with fail
     refine ks.mono ?_
     rintro e w10 ⟨rfl, hb10⟩
     have HBX := Lib.hid (HB2.out.trans ((HB9.out.trans (hb10.mono HB9.out.size)).mono HB2.out.size))
     clear ks hb10
     go_wp2
     go_ret
     exact ⟨by simp, HBX.out⟩
end lawTexts
end Go.Proofs.YtgbapkechngnmaaGreat
/- MatchTexts: the card: whatever the arguments, the law returns true and its arguments read as they did. No condition. -/
namespace Go.Proofs.YtgbapkechngnmaaGreat.lawTexts
open Go.ChangeShapes Go.WideShapes Go.ChangeAt Go.RowKit
open Go.ChangeMaps (open_string)

set_option maxRecDepth 100000 in
theorem contract (H : Type) (enc : TypeId × Value → H) (W : World) (base : Nat) (args : Array Value) (ds gs : List (DataW H)) (before : List MemPlace)
  (hval : ∀ (j : Nat) t v, Tryz.f8.params[j]? = some t → args[j]? = some v → Value.okWide Tryz.prog W .any base t v)
  (hW : DataW.Whole enc Tryz.prog Tryz.f8.params.toList Rows.matchTextsSpec.vars false W args.toList ds gs before) :
  Calls Tryz.prog 8 args W fun e W' => ∃ v, e = .returned v ∧ Rows.matchTextsSpec.post enc Tryz.prog Tryz.f8 false true false false W args v W' := by
 have hW' := hW
 obtain ⟨p, q, hA0, hV, rfl, hfz, hnd⟩ := hW
 have hA : DataW.TrodAll enc Tryz.prog W 0 (fun _ => true) true Tryz.f8.params.toList args.toList ds p := hA0
 rw [Tryz.params8] at hA hval
 obtain ⟨v0, vs0, d0, ds0, p0, q0, hargs, rfl, rfl, h0, r0⟩ := trodAll_cons hA
 obtain ⟨v1, vs1, d1, ds1, p1, q1, rfl, rfl, rfl, h1, r1⟩ := trodAll_cons r0
 obtain ⟨v2, vs2, d2, ds2, p2, q2, rfl, rfl, rfl, h2, r2⟩ := trodAll_cons r1
 obtain ⟨rfl, rfl, rfl⟩ := trodAll_nil r2
 obtain rfl : args = #[v0, v1, v2] := by cases args; simp_all
 obtain ⟨rfl, rfl⟩ := trodVars_none hV
 obtain ⟨x0, hx0⟩ := flds_of_arg (hval 0 22 v0 rfl rfl) h0
 obtain ⟨x1, hx1⟩ := mts_of_arg (hval 1 23 v1 rfl rfl) h1
 obtain ⟨x2, rfl, rfl, rfl, hx2⟩ := open_string Tryz.underlying9 (hval 2 9 v2 rfl rfl) h2
 clear hA0
 refine (walk v0 x0 v1 x1 x2 W hx0 hx1 hx2).mono ?_
 rintro e W' ⟨rfl, hb⟩
 exact ⟨_, rfl, law_post laidOut Tryz.underlying4 rfl rfl (by kernel_rfl) hW' rfl rfl rfl hb⟩

theorem laid_met (os : Os) : laidMet Tryz.prog Rows.matchTextsRow.laid ((laidWorld os).forCall (fun _ _ => 0) ⟨#[], #[.slice none 0 0, .slice none 0 0, .string ⟨#[]⟩], []⟩).memory :=
 ⟨[], rfl, List.nodup_nil, fun _ _ h => by cases h⟩
theorem reads (os : Os) {H : Type} (enc : TypeId × Value → H) : ∃ places, DataW.whole enc Tryz.prog ((laidWorld os).forCall (fun _ _ => 0) ⟨#[], #[.slice none 0 0, .slice none 0 0, .string ⟨#[]⟩], []⟩).memory Tryz.f8.params.toList Rows.matchTextsSpec.vars false (#[.slice none 0 0, .slice none 0 0, .string ⟨#[]⟩] : Array Value).toList 8 = some ([.nil, .nil, .lit (.string [])], [], places) :=
 ⟨[], by kernel_rfl⟩

set_option maxRecDepth 100000 in
theorem lifted (os : Os) (started : os.Started) (H : Type) (enc : TypeId × Value → H) (F : Stop.Interp) :
  ReturnsInHanded {} Tryz.checked os 8 .any ((OpenSpec.ofChange Rows.matchTextsSpec).preRow enc Tryz.prog Tryz.f8 Rows.matchTextsRow.domain false Rows.matchTextsRow.laid) (((OpenSpec.ofChange Rows.matchTextsSpec).at F).post enc Tryz.prog Tryz.f8 false true false false) := by
 obtain ⟨places, hx⟩ := reads os enc
 refine returnsInHanded_of_row (C := Tryz.checked) (s := OpenSpec.ofChange Rows.matchTextsSpec) ownNone started (by kernel_rfl) Tryz.func8
  (witness_row_at (enc := enc) (C := Tryz.checked) false (laidWorld os) #[.slice none 0 0, .slice none 0 0, .string ⟨#[]⟩] rfl (by kernel_rfl) (by kernel_rfl) (by kernel_rfl)
   (OpenSpec.preRow_of_cond 8 hx (by kernel_rfl) (fun k hk => by cases hk) (by kernel_rfl) (laid_met os))) ?_
 intro W base args ds gs before hval hW _ _ _ _ _ _
 exact contract H enc W base args ds gs before hval hW

theorem said : Rows.MatchTextsSaid :=
 OpenClaim.holds_of_cond 8 Tryz.f8 rfl rfl rfl rfl rfl rfl rfl ⟨rfl, rfl, rfl, rfl, rfl⟩ rfl rfl rfl rfl rfl (by kernel_rfl) Tryz.func8 (by kernel_rfl)
  (of_decide_eq_true (by kernel_rfl)) (by unfold Func.isWrapper; first | (rw [if_pos (by decide +kernel)]; kernel_rfl) | (rw [if_neg (by decide +kernel)]; exact ⟨rfl, rfl⟩))
  (fun os started H enc _ F => by rw [OpenClaim.pre_eq_preRow]; exact lifted os started H enc F)

end Go.Proofs.YtgbapkechngnmaaGreat.lawTexts
