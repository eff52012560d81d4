/- pattern's builder: class: a contract. -/
import Derived.Test.YtcfococinllcmaaGreatPatK
import Derived.Defers
namespace Go.Proofs.YtcfococinllcmaaGreat
open Go.RowKit

/-- what class carries: the builder, the set, what turned -/
structure ClsAt (w0 : World) (own : Nat → Prop) (k g : Nat) (s : ByteArray) (b : Bs) (S : Nat → Bool) (w : World) : Prop where
  bld : Bld w g s b own
  set : SetAt w k S
  nk : ¬ own k
  keep : Keep (fun j => own j ∨ j = k) w0 w
theorem ClsAt.below {w0 : World} {own : Nat → Prop} {k g : Nat} {s : ByteArray} {b : Bs} {S : Nat → Bool} {w w' : World} (h : ClsAt w0 own k g s b S w) (hb : Below w.heap.size w w') : ClsAt w0 own k g s b S w' :=
  ⟨h.bld.below hb, h.set.blk (hb.block k h.set.lt), h.nk, h.keep.trans (Keep.of_below (own := own) hb) (fun _ hj => .inl (.inl hj))⟩
theorem ClsAt.stp {w0 : World} {own : Nat → Prop} {k g : Nat} {s : ByteArray} {b b' : Bs} {S : Nat → Bool} {w w' : World} (h : ClsAt w0 own k g s b S w) (hB : Bld w' g s b' own) (hs : Stp own w own w') : ClsAt w0 own k g s b' S w' :=
  ⟨hB, h.set.blk (hs.1.block k h.set.lt h.nk), h.nk, h.keep.trans hs.1 (fun _ hj => .inl (.inl hj))⟩
theorem ClsAt.step {w0 : World} {own : Nat → Prop} {k g : Nat} {s : ByteArray} {b : Bs} {S : Nat → Bool} {w : World} (h : ClsAt w0 own k g s b S w) : ClsAt w0 own k g s (stepM b) S (w.setCell ⟨g, 1, none⟩ (.int .i64 ((b.pos : Int) + 1))) :=
  h.stp h.bld.step (Stp.step h.bld _)
theorem ClsAt.turn {w0 : World} {own : Nat → Prop} {k g : Nat} {s : ByteArray} {b : Bs} {S S' : Nat → Bool} {w w' : World} (h : ClsAt w0 own k g s b S w) (hS : SetAt w' k S') (hk : Keep (fun j => j = k) w w') : ClsAt w0 own k g s b S' w' := by
  refine ⟨?_, hS, h.nk, h.keep.trans hk (fun _ hj => .inl (.inr hj))⟩
  obtain ⟨sv, es, hV⟩ := h.bld
  exact ⟨sv, es, hV.kept hk.size (fun j hj => hk.block j (hV.lt j hj) (fun e => h.nk (e ▸ hj)))⟩
/-- what is known of a world is all that is kept of it -/
theorem wp_forget {Pr : Program} {Q : Exit → Act → World → Prop} {c : Code} {a : Act} {W : World} (P : World → Prop) (h : P W) (k : ∀ W', P W' → Code.wp Pr c Q a W') : Code.wp Pr c Q a W := k W h
/-- where a builder stands, read out of memory -/
def posAt (w : World) (g : Nat) : Nat := match w.cell? ⟨g, 1, none⟩ with
  | some (.int _ n) => n.toNat
  | _ => 0
theorem Bld.posAt {w : World} {g : Nat} {s : ByteArray} {b : Bs} {own : Nat → Prop} (h : Bld w g s b own) : posAt w g = b.pos := by
  unfold Go.Proofs.YtcfococinllcmaaGreat.posAt
  rw [h.fields.2.1]
  simp
/-- the loop's head -/
def LoopAt (w0 : World) (own : Nat → Prop) (k g : Nat) (s : ByteArray) (r : Bs × (Nat → Bool)) (v : Value) (w : World) : Prop :=
  ∃ (n : Nat) (first : Bool) (b : Bs) (S : Nat → Bool), v = .bool first ∧ loopM s (n + 1) first b S = r ∧ s.size - b.pos ≤ n ∧ b.pos ≤ s.size + 1 ∧ ClsAt w0 own k g s b S w
theorem loopM_none {s : ByteArray} {n : Nat} {first : Bool} {b : Bs} {S : Nat → Bool} (h : peekM s b = none) : loopM s (n + 1) first b S = (failM b 2, S) := by rw [loopM, h]
theorem loopM_first {s : ByteArray} {n : Nat} {b : Bs} {S : Nat → Bool} (h : peekM s b = some 93) : loopM s (n + 1) true b S = (failM b 2, S) := by rw [loopM, h]; rfl
theorem loopM_end {s : ByteArray} {n : Nat} {b : Bs} {S : Nat → Bool} (h : peekM s b = some 93) : loopM s (n + 1) false b S = (stepM b, S) := by rw [loopM, h]; rfl
theorem loopM_on {s : ByteArray} {n d : Nat} {first : Bool} {b : Bs} {S : Nat → Bool} (h : peekM s b = some d) (hd : d ≠ 93) {x : Bs × Nat} (hx : signM s b = x) {y : Bs × Nat} (hy : rangeM s x.1 x.2 = y) : loopM s (n + 1) first b S = loopM s n false (if y.2 < x.2 then failM y.1 2 else y.1) (addS S x.2 y.2) := by
  rw [loopM, h]
  dsimp only
  rw [if_neg hd, hx, hy]
theorem rangeB_false {s : ByteArray} {b : Bs} (h : peekM s b ≠ some 45) : rangeB s b = false := by unfold rangeB; rw [decide_eq_false h]; rfl
theorem rangeM_no {s : ByteArray} {b : Bs} {lo : Nat} (h : rangeB s b = false) : rangeM s b lo = (b, lo) := by unfold rangeM; rw [h]; rfl
theorem rangeM_yes {s : ByteArray} {b : Bs} {lo : Nat} (h : rangeB s b = true) : rangeM s b lo = signM s (stepM b) := by unfold rangeM; rw [h]; rfl
theorem rangeB_at {s : ByteArray} {b : Bs} (h : peekM s b = some 45) : rangeB s b = (decide (b.pos + 1 < s.size) && !decide (byteM s (b.pos + 1) = 93)) := by unfold rangeB; rw [decide_eq_true h]; rfl
set_option maxHeartbeats 12800000 in
set_option maxRecDepth 100000 in
theorem class_is (w : World) (g k : Nat) (s : ByteArray) (b1 : Bs) (own : Nat → Prop) (h : Bld w g s b1 own) (hS : SetAt w k noS) (hk : ¬ own k) (hp : b1.pos ≤ s.size) (hs : s.size ≤ 1000) :
    Calls Tryz.prog 176 #[.pointer (some ⟨g, 0, none⟩), .pointer (some ⟨k, 0, none⟩)] w fun e w' => e = .returned (.tuple #[]) ∧ Bld w' g s (classM s b1).1 own ∧ SetAt w' k (classM s b1).2 ∧ Keep (fun j => own j ∨ j = k) w w' := by
  have hc0 : ClsAt w own k g s b1 noS w := ⟨h, hS, hk, Keep.refl _ _⟩
  obtain ⟨o, ho⟩ : ∃ o, peekM s b1 = o := ⟨_, rfl⟩
  have k1 := peek_is w g s b1 own o ho h (by omega)
  have kf := fun W b own (h : Bld W g s b own) => fail_is W g s b own 2 h
  have KF := Lib.hid kf
  have kt := fun u W f (h : SetAt W k f) => turn_d u W k f h
  have KT := Lib.hid kt
  have HO := Lib.hid ho
  have H0 := Lib.hid hc0
  clear kf kt ho hc0 h hS hk
  go_enter_defers Tryz.func176, Tryz.ntmps176
  go_wp2_with fail
  refine k1.mono ?_
  rintro e w1 ⟨rfl, hb1⟩
  have H1 := Lib.hid (H0.out.below hb1)
  clear k1 hb1 H0
  by_cases h94 : o = some 94
  · subst h94
    obtain ⟨_, c1, _, f1⟩ := H1.out.bld.fields
    have hps := (peekM_some HO.out).2.1
    obtain ⟨r0, hr0⟩ : ∃ r0, loopM s (s.size + 1) true (stepM b1) noS = r0 := ⟨_, rfl⟩
    have HR0 := Lib.hid hr0
    have HCM : Hid (classM s b1 = (r0.1, turnS r0.2)) := Lib.hid (by unfold classM; rw [if_pos HO.out, hr0])
    go_upto_region 3 with fail
    refine wp_forget (ClsAt w own k g s (stepM b1) noS) H1.out.step (fun w2 h2 => ?_)
    have H2 := Lib.hid h2
    have hsp : (stepM b1).pos ≤ s.size + 1 := by simp only [stepM]; omega
    obtain ⟨b0, hb0⟩ : ∃ b0, stepM b1 = b0 := ⟨_, rfl⟩
    rw [hb0] at H2 HR0 hsp
    clear h2 c1 f1 H1 hr0 HO hb0
    go_wp2
    go_loopw [6] (fun v wr => LoopAt w own k g s r0 v wr) (fun _ wr => s.size + 5 - posAt wr g)
    case atStart => exact ⟨s.size, true, b0, noS, rfl, HR0.out, by omega, hsp, H2.out⟩
    case round =>
      clear H2 HR0 hsp hps hp b0
      obtain ⟨n, first, b, S, rfl, he, hn, hp, hC⟩ := hrel
      have HE := Lib.hid he
      have HC := Lib.hid hC
      obtain ⟨o, ho⟩ : ∃ o, peekM s b = o := ⟨_, rfl⟩
      have k1 := peek_is wr g s b own o ho HC.out.bld (by omega)
      have HO := Lib.hid ho
      clear he hC ho
      go_wp2_with fail
      refine k1.mono ?_
      rintro e wa ⟨rfl, hba⟩
      have HA := Lib.hid (HC.out.below hba)
      clear k1 hba
      rcases o with _ | d
      · have kq1 := KF.out _ _ _ HA.out.bld
        go_wp2_with fail
        refine kq1.mono ?_
        rintro e w1 ⟨rfl, hB1, hs1⟩
        have H1 := Lib.hid (HA.out.stp hB1 hs1)
        clear kq1 hB1 hs1
        go_wp2
        refine leaves_cons (f := 177) (args := #[.pointer (some ⟨k, 0, none⟩)]) (by simp) (by simp [go_sem]) ?_
        refine (KT.out .returning _ _ H1.out.set).mono ?_
        rintro e u w2 ⟨rfl, rfl, hS2, hk2⟩
        have he := HE.out
        rw [loopM_none HO.out] at he
        subst he
        have H2 := H1.out.turn hS2 hk2
        refine ⟨_, results_none rfl _ _ _, rfl, ?_⟩
        rw [HCM.out]
        exact ⟨H2.bld, H2.set, H2.keep⟩
      · by_cases hd : d = 93
        · subst hd
          cases first
          · obtain ⟨_, c1, _, f1⟩ := HA.out.bld.fields
            have HST := Lib.hid HA.out.step
            go_wp2
            refine leaves_cons (f := 177) (args := #[.pointer (some ⟨k, 0, none⟩)]) (by simp) (by simp [go_sem]) ?_
            refine (KT.out .returning _ _ HST.out.set).mono ?_
            rintro e u w4 ⟨rfl, rfl, hS4, hk4⟩
            have he := HE.out
            rw [loopM_end HO.out] at he
            subst he
            have H4 := HST.out.turn hS4 hk4
            refine ⟨_, results_none rfl _ _ _, rfl, ?_⟩
            rw [HCM.out]
            exact ⟨H4.bld, H4.set, H4.keep⟩
          · have kq5 := KF.out _ _ _ HA.out.bld
            go_wp2_with fail
            refine kq5.mono ?_
            rintro e w5 ⟨rfl, hB5, hs5⟩
            have H5 := Lib.hid (HA.out.stp hB5 hs5)
            clear kq5 hB5 hs5
            go_wp2
            refine leaves_cons (f := 177) (args := #[.pointer (some ⟨k, 0, none⟩)]) (by simp) (by simp [go_sem]) ?_
            refine (KT.out .returning _ _ H5.out.set).mono ?_
            rintro e u w6 ⟨rfl, rfl, hS6, hk6⟩
            have he := HE.out
            rw [loopM_first HO.out] at he
            subst he
            have H6 := H5.out.turn hS6 hk6
            refine ⟨_, results_none rfl _ _ _, rfl, ?_⟩
            rw [HCM.out]
            exact ⟨H6.bld, H6.set, H6.keep⟩
        · have hdb : ((d : Int) == 93) = false := by rw [beq_eq_false_iff_ne]; omega
          have HD := Lib.hid hd
          have hps := (peekM_some HO.out).2.1
          obtain ⟨xb, lo, hx⟩ : ∃ xb lo, signM s b = (xb, lo) := ⟨_, _, rfl⟩
          have k2 := sign_is wa g s b own HA.out.bld (by omega)
          have hsp := signM_pos s b hps
          have hlo := signM_lt s b
          rw [hx] at k2 hsp hlo
          dsimp only at k2 hsp hlo
          have HX := Lib.hid hx
          clear hd hx
          go_wp2_with fail
          refine k2.mono ?_
          rintro e wb ⟨rfl, hBb, hsb⟩
          have HB := Lib.hid (HA.out.stp hBb hsb)
          clear k2 hBb hsb
          obtain ⟨o2, ho2⟩ : ∃ o2, peekM s xb = o2 := ⟨_, rfl⟩
          have k3 := peek_is wb g s xb own o2 ho2 HB.out.bld (by omega)
          have HO2 := Lib.hid ho2
          clear ho2
          go_wp2_with fail
          refine k3.mono ?_
          rintro e wc ⟨rfl, hbc⟩
          have HCC := Lib.hid (HB.out.below hbc)
          clear k3 hbc
          obtain ⟨c0, c1, _, _⟩ := HCC.out.bld.fields
          have HSP := Lib.hid hsp
          rcases o2 with _ | e2
          · have HY : Hid (rangeM s (xb, lo).1 (xb, lo).2 = (xb, lo)) := Lib.hid (rangeM_no (rangeB_false (by rw [HO2.out]; simp)))
            go_upto_region 14 with fail
            go_quiet (fail)
            go_upto_region 17 with fail
            refine wp_forget (ClsAt w own k g s xb S) (HCC.out.below (bl_drewN (Below.refl _ _) _)) (fun wq hq => ?_)
            have HQ := Lib.hid hq
            clear c0 c1 hq
            have HLT : Hid (¬ (xb, lo).2 < (xb, lo).2) := Lib.hid (Nat.lt_irrefl _)
            have ka := add_is wq k S lo lo HQ.out.set hlo hlo
            go_wp2_with fail
            refine ka.mono ?_
            rintro e w7 ⟨rfl, hS7, hk7⟩
            have H7 := Lib.hid (HQ.out.turn hS7 hk7)
            clear ka hS7 hk7
            go_wp2
            go_roundw
            case rel =>
              refine ⟨n - 1, false, xb, addS S lo lo, rfl, ?_, ?_, ?_, H7.out⟩
              · have he := HE.out
                rw [loopM_on HO.out HD.out HX.out HY.out, if_neg HLT.out] at he
                have hn1 : n - 1 + 1 = n := by have := HSP.out; omega
                rw [hn1]
                exact he
              · have := HSP.out; omega
              · have := HSP.out; omega
            case measure =>
              rw [H7.out.bld.posAt, HC.out.bld.posAt]
              have := HSP.out; omega
          · by_cases h45 : e2 = 45
            · subst h45
              by_cases hin : xb.pos + 1 < s.size
              · by_cases h93 : byteM s (xb.pos + 1) = 93
                · have hi0 : (0 : Int) ≤ (xb.pos : Int) + 1 := by omega
                  have hi1 : (xb.pos : Int) + 1 < (s.size : Int) := by omega
                  have hnt : ((xb.pos : Int) + 1).toNat = xb.pos + 1 := by omega
                  have hwr : IntKind.i64.wrap ((xb.pos : Int) + 1) = (xb.pos : Int) + 1 := IntWalk.i64_in _ ⟨by omega, by omega⟩
                  have hd1 : decide ((xb.pos : Int) + 1 < (s.size : Int)) = true := decide_eq_true hi1
                  have hba := byteM_at s (xb.pos + 1) hin
                  have h9 : (((s[xb.pos + 1]'hin).toNat : Int) != 93) = false := by rw [hba, h93]; rfl
                  have HY : Hid (rangeM s (xb, lo).1 (xb, lo).2 = (xb, lo)) := Lib.hid (rangeM_no (by rw [rangeB_at HO2.out, h93]; simp))
                  go_upto_region 14 with fail
                  go_quiet (fail)
                  go_upto_region 17 with fail
                  refine wp_forget (ClsAt w own k g s xb S) (HCC.out.below (bl_drewN (Below.refl _ _) _)) (fun wq hq => ?_)
                  have HQ := Lib.hid hq
                  clear c0 c1 hq
                  have HLT : Hid (¬ (xb, lo).2 < (xb, lo).2) := Lib.hid (Nat.lt_irrefl _)
                  have ka := add_is wq k S lo lo HQ.out.set hlo hlo
                  go_wp2_with fail
                  refine ka.mono ?_
                  rintro e w8 ⟨rfl, hS8, hk8⟩
                  have H8 := Lib.hid (HQ.out.turn hS8 hk8)
                  clear ka hS8 hk8
                  go_wp2
                  go_roundw
                  case rel =>
                    refine ⟨n - 1, false, xb, addS S lo lo, rfl, ?_, ?_, ?_, H8.out⟩
                    · have he := HE.out
                      rw [loopM_on HO.out HD.out HX.out HY.out, if_neg HLT.out] at he
                      have hn1 : n - 1 + 1 = n := by have := HSP.out; omega
                      rw [hn1]
                      exact he
                    · have := HSP.out; omega
                    · have := HSP.out; omega
                  case measure =>
                    rw [H8.out.bld.posAt, HC.out.bld.posAt]
                    have := HSP.out; omega
                · have hi0 : (0 : Int) ≤ (xb.pos : Int) + 1 := by omega
                  have hi1 : (xb.pos : Int) + 1 < (s.size : Int) := by omega
                  have hnt : ((xb.pos : Int) + 1).toNat = xb.pos + 1 := by omega
                  have hwr : IntKind.i64.wrap ((xb.pos : Int) + 1) = (xb.pos : Int) + 1 := IntWalk.i64_in _ ⟨by omega, by omega⟩
                  have hd1 : decide ((xb.pos : Int) + 1 < (s.size : Int)) = true := decide_eq_true hi1
                  have hba := byteM_at s (xb.pos + 1) hin
                  have h9 : (((s[xb.pos + 1]'hin).toNat : Int) != 93) = true := by rw [hba]; simp; omega
                  have hrb : rangeB s xb = true := by rw [rangeB_at HO2.out]; simp [hin, h93]
                  go_upto_region 14 with fail
                  go_quiet (fail)
                  go_upto_region 16 with fail
                  refine wp_forget (ClsAt w own k g s (stepM xb) S) (HCC.out.below (bl_drewN (Below.refl _ _) _)).step (fun wq hq => ?_)
                  have HQ := Lib.hid hq
                  obtain ⟨yb, hi, hye⟩ : ∃ yb hi, signM s (stepM xb) = (yb, hi) := ⟨_, _, rfl⟩
                  have k4 := sign_is wq g s (stepM xb) own HQ.out.bld (by simp only [stepM]; omega)
                  have hsp2 := signM_pos s (stepM xb) hin
                  have hhi := signM_lt s (stepM xb)
                  rw [hye] at k4 hsp2 hhi
                  dsimp only at k4 hsp2 hhi
                  have HY : Hid (rangeM s (xb, lo).1 (xb, lo).2 = (yb, hi)) := Lib.hid ((rangeM_yes hrb).trans hye)
                  have HP : Hid (b.pos < yb.pos ∧ yb.pos ≤ s.size + 1) := Lib.hid ⟨by simp only [stepM] at hsp2; have := HSP.out; omega, hsp2.2⟩
                  clear c0 c1 hq hye hrb hsp2 h9 hba hi0 hi1 hnt hwr hd1
                  go_wp2_with fail
                  refine k4.mono ?_
                  rintro e wd ⟨rfl, hBd, hsd⟩
                  have HDD := Lib.hid (HQ.out.stp hBd hsd)
                  clear k4 hBd hsd
                  by_cases hlt : hi < lo
                  · have HLT := Lib.hid hlt
                    have hlti : (hi : Int) < (lo : Int) := by omega
                    clear hlt
                    have kq10 := KF.out _ _ _ HDD.out.bld
                    go_wp2_with fail
                    refine kq10.mono ?_
                    rintro e w10 ⟨rfl, hB10, hs10⟩
                    have H10 := Lib.hid (HDD.out.stp hB10 hs10)
                    clear kq10 hB10 hs10
                    have ka11 := add_is _ k S lo hi H10.out.set hlo hhi
                    go_wp2_with fail
                    refine ka11.mono ?_
                    rintro e w11 ⟨rfl, hS11, hk11⟩
                    have H11 := Lib.hid (H10.out.turn hS11 hk11)
                    clear ka11 hS11 hk11
                    go_wp2
                    go_roundw
                    case rel =>
                      refine ⟨n - 1, false, failM yb 2, addS S lo hi, rfl, ?_, ?_, ?_, H11.out⟩
                      · have he := HE.out
                        rw [loopM_on HO.out HD.out HX.out HY.out] at he
                        dsimp only at he
                        rw [if_pos HLT.out] at he
                        have hn1 : n - 1 + 1 = n := by have := HSP.out; omega
                        rw [hn1]
                        exact he
                      · rw [failM_pos]; have := HP.out; omega
                      · rw [failM_pos]; have := HP.out; omega
                    case measure =>
                      rw [H11.out.bld.posAt, HC.out.bld.posAt]
                      rw [failM_pos]
                      have := HP.out; omega
                  · have HLT := Lib.hid hlt
                    have hlti : ¬ (hi : Int) < (lo : Int) := by omega
                    have hlti' : (lo : Int) ≤ (hi : Int) := by omega
                    clear hlt
                    have ka14 := add_is _ k S lo hi HDD.out.set hlo hhi
                    go_wp2_with fail
                    refine ka14.mono ?_
                    rintro e w14 ⟨rfl, hS14, hk14⟩
                    have H14 := Lib.hid (HDD.out.turn hS14 hk14)
                    clear ka14 hS14 hk14
                    go_wp2
                    go_roundw
                    case rel =>
                      refine ⟨n - 1, false, yb, addS S lo hi, rfl, ?_, ?_, ?_, H14.out⟩
                      · have he := HE.out
                        rw [loopM_on HO.out HD.out HX.out HY.out] at he
                        dsimp only at he
                        rw [if_neg HLT.out] at he
                        have hn1 : n - 1 + 1 = n := by have := HSP.out; omega
                        rw [hn1]
                        exact he
                      · have := HP.out; omega
                      · have := HP.out; omega
                    case measure =>
                      rw [H14.out.bld.posAt, HC.out.bld.posAt]
                      skip
                      have := HP.out; omega
              · have hd1 : decide ((xb.pos : Int) + 1 < (s.size : Int)) = false := decide_eq_false (by omega)
                have hwr : IntKind.i64.wrap ((xb.pos : Int) + 1) = (xb.pos : Int) + 1 := IntWalk.i64_in _ ⟨by omega, by omega⟩
                have HY : Hid (rangeM s (xb, lo).1 (xb, lo).2 = (xb, lo)) := Lib.hid (rangeM_no (by rw [rangeB_at HO2.out]; simp [hin]))
                go_upto_region 14 with fail
                go_quiet (fail)
                go_upto_region 17 with fail
                refine wp_forget (ClsAt w own k g s xb S) (HCC.out.below (bl_drewN (Below.refl _ _) _)) (fun wq hq => ?_)
                have HQ := Lib.hid hq
                clear c0 c1 hq
                have HLT : Hid (¬ (xb, lo).2 < (xb, lo).2) := Lib.hid (Nat.lt_irrefl _)
                have ka := add_is wq k S lo lo HQ.out.set hlo hlo
                go_wp2_with fail
                refine ka.mono ?_
                rintro e w16 ⟨rfl, hS16, hk16⟩
                have H16 := Lib.hid (HQ.out.turn hS16 hk16)
                clear ka hS16 hk16
                go_wp2
                go_roundw
                case rel =>
                  refine ⟨n - 1, false, xb, addS S lo lo, rfl, ?_, ?_, ?_, H16.out⟩
                  · have he := HE.out
                    rw [loopM_on HO.out HD.out HX.out HY.out, if_neg HLT.out] at he
                    have hn1 : n - 1 + 1 = n := by have := HSP.out; omega
                    rw [hn1]
                    exact he
                  · have := HSP.out; omega
                  · have := HSP.out; omega
                case measure =>
                  rw [H16.out.bld.posAt, HC.out.bld.posAt]
                  have := HSP.out; omega
            · have hb45 : ((e2 : Int) == 45) = false := by rw [beq_eq_false_iff_ne]; omega
              have HY : Hid (rangeM s (xb, lo).1 (xb, lo).2 = (xb, lo)) := Lib.hid (rangeM_no (rangeB_false (by rw [HO2.out]; simpa using h45)))
              go_upto_region 14 with fail
              go_quiet (fail)
              go_upto_region 17 with fail
              refine wp_forget (ClsAt w own k g s xb S) (HCC.out.below (bl_drewN (Below.refl _ _) _)) (fun wq hq => ?_)
              have HQ := Lib.hid hq
              clear c0 c1 hq
              have HLT : Hid (¬ (xb, lo).2 < (xb, lo).2) := Lib.hid (Nat.lt_irrefl _)
              have ka := add_is wq k S lo lo HQ.out.set hlo hlo
              go_wp2_with fail
              refine ka.mono ?_
              rintro e w17 ⟨rfl, hS17, hk17⟩
              have H17 := Lib.hid (HQ.out.turn hS17 hk17)
              clear ka hS17 hk17
              go_wp2
              go_roundw
              case rel =>
                refine ⟨n - 1, false, xb, addS S lo lo, rfl, ?_, ?_, ?_, H17.out⟩
                · have he := HE.out
                  rw [loopM_on HO.out HD.out HX.out HY.out, if_neg HLT.out] at he
                  have hn1 : n - 1 + 1 = n := by have := HSP.out; omega
                  rw [hn1]
                  exact he
                · have := HSP.out; omega
                · have := HSP.out; omega
              case measure =>
                rw [H17.out.bld.posAt, HC.out.bld.posAt]
                have := HSP.out; omega
  · have hn94 : ((((o.getD 0 : Nat) : Int)) == 94) = false := by
      rw [beq_eq_false_iff_ne]
      rcases o with _ | c
      · simp
      · simp at h94 ⊢; omega
    obtain ⟨r0, hr0⟩ : ∃ r0, loopM s (s.size + 1) true b1 noS = r0 := ⟨_, rfl⟩
    have HR0 := Lib.hid hr0
    have HCM : Hid (classM s b1 = r0) := Lib.hid (by unfold classM; rw [if_neg (by rw [HO.out]; exact h94)]; exact hr0)
    clear hr0 h94
    go_wp2
    go_loopw [6] (fun v wr => LoopAt w own k g s r0 v wr) (fun _ wr => s.size + 5 - posAt wr g)
    case atStart => exact ⟨s.size, true, b1, noS, rfl, HR0.out, by omega, by omega, H1.out⟩
    case round =>
      clear H1 HR0 HO hn94 hp
      obtain ⟨n, first, b, S, rfl, he, hn, hp, hC⟩ := hrel
      have HE := Lib.hid he
      have HC := Lib.hid hC
      obtain ⟨o, ho⟩ : ∃ o, peekM s b = o := ⟨_, rfl⟩
      have k1 := peek_is wr g s b own o ho HC.out.bld (by omega)
      have HO := Lib.hid ho
      clear he hC ho
      go_wp2_with fail
      refine k1.mono ?_
      rintro e wa ⟨rfl, hba⟩
      have HA := Lib.hid (HC.out.below hba)
      clear k1 hba
      rcases o with _ | d
      · have kq18 := KF.out _ _ _ HA.out.bld
        go_wp2_with fail
        refine kq18.mono ?_
        rintro e w18 ⟨rfl, hB18, hs18⟩
        have H18 := Lib.hid (HA.out.stp hB18 hs18)
        clear kq18 hB18 hs18
        go_wp2
        have he := HE.out
        rw [loopM_none HO.out] at he
        subst he
        refine ⟨_, results_none rfl _ _ _, rfl, ?_⟩
        rw [HCM.out]
        exact ⟨H18.out.bld, H18.out.set, H18.out.keep⟩
      · by_cases hd : d = 93
        · subst hd
          cases first
          · obtain ⟨_, c1, _, f1⟩ := HA.out.bld.fields
            have HST := Lib.hid HA.out.step
            go_wp2
            have he := HE.out
            rw [loopM_end HO.out] at he
            subst he
            refine ⟨_, results_none rfl _ _ _, rfl, ?_⟩
            rw [HCM.out]
            exact ⟨HST.out.bld, HST.out.set, HST.out.keep⟩
          · have kq22 := KF.out _ _ _ HA.out.bld
            go_wp2_with fail
            refine kq22.mono ?_
            rintro e w22 ⟨rfl, hB22, hs22⟩
            have H22 := Lib.hid (HA.out.stp hB22 hs22)
            clear kq22 hB22 hs22
            go_wp2
            have he := HE.out
            rw [loopM_first HO.out] at he
            subst he
            refine ⟨_, results_none rfl _ _ _, rfl, ?_⟩
            rw [HCM.out]
            exact ⟨H22.out.bld, H22.out.set, H22.out.keep⟩
        · have hdb : ((d : Int) == 93) = false := by rw [beq_eq_false_iff_ne]; omega
          have HD := Lib.hid hd
          have hps := (peekM_some HO.out).2.1
          obtain ⟨xb, lo, hx⟩ : ∃ xb lo, signM s b = (xb, lo) := ⟨_, _, rfl⟩
          have k2 := sign_is wa g s b own HA.out.bld (by omega)
          have hsp := signM_pos s b hps
          have hlo := signM_lt s b
          rw [hx] at k2 hsp hlo
          dsimp only at k2 hsp hlo
          have HX := Lib.hid hx
          clear hd hx
          go_wp2_with fail
          refine k2.mono ?_
          rintro e wb ⟨rfl, hBb, hsb⟩
          have HB := Lib.hid (HA.out.stp hBb hsb)
          clear k2 hBb hsb
          obtain ⟨o2, ho2⟩ : ∃ o2, peekM s xb = o2 := ⟨_, rfl⟩
          have k3 := peek_is wb g s xb own o2 ho2 HB.out.bld (by omega)
          have HO2 := Lib.hid ho2
          clear ho2
          go_wp2_with fail
          refine k3.mono ?_
          rintro e wc ⟨rfl, hbc⟩
          have HCC := Lib.hid (HB.out.below hbc)
          clear k3 hbc
          obtain ⟨c0, c1, _, _⟩ := HCC.out.bld.fields
          have HSP := Lib.hid hsp
          rcases o2 with _ | e2
          · have HY : Hid (rangeM s (xb, lo).1 (xb, lo).2 = (xb, lo)) := Lib.hid (rangeM_no (rangeB_false (by rw [HO2.out]; simp)))
            go_upto_region 14 with fail
            go_quiet (fail)
            go_upto_region 17 with fail
            refine wp_forget (ClsAt w own k g s xb S) (HCC.out.below (bl_drewN (Below.refl _ _) _)) (fun wq hq => ?_)
            have HQ := Lib.hid hq
            clear c0 c1 hq
            have HLT : Hid (¬ (xb, lo).2 < (xb, lo).2) := Lib.hid (Nat.lt_irrefl _)
            have ka := add_is wq k S lo lo HQ.out.set hlo hlo
            go_wp2_with fail
            refine ka.mono ?_
            rintro e w24 ⟨rfl, hS24, hk24⟩
            have H24 := Lib.hid (HQ.out.turn hS24 hk24)
            clear ka hS24 hk24
            go_wp2
            go_roundw
            case rel =>
              refine ⟨n - 1, false, xb, addS S lo lo, rfl, ?_, ?_, ?_, H24.out⟩
              · have he := HE.out
                rw [loopM_on HO.out HD.out HX.out HY.out, if_neg HLT.out] at he
                have hn1 : n - 1 + 1 = n := by have := HSP.out; omega
                rw [hn1]
                exact he
              · have := HSP.out; omega
              · have := HSP.out; omega
            case measure =>
              rw [H24.out.bld.posAt, HC.out.bld.posAt]
              have := HSP.out; omega
          · by_cases h45 : e2 = 45
            · subst h45
              by_cases hin : xb.pos + 1 < s.size
              · by_cases h93 : byteM s (xb.pos + 1) = 93
                · have hi0 : (0 : Int) ≤ (xb.pos : Int) + 1 := by omega
                  have hi1 : (xb.pos : Int) + 1 < (s.size : Int) := by omega
                  have hnt : ((xb.pos : Int) + 1).toNat = xb.pos + 1 := by omega
                  have hwr : IntKind.i64.wrap ((xb.pos : Int) + 1) = (xb.pos : Int) + 1 := IntWalk.i64_in _ ⟨by omega, by omega⟩
                  have hd1 : decide ((xb.pos : Int) + 1 < (s.size : Int)) = true := decide_eq_true hi1
                  have hba := byteM_at s (xb.pos + 1) hin
                  have h9 : (((s[xb.pos + 1]'hin).toNat : Int) != 93) = false := by rw [hba, h93]; rfl
                  have HY : Hid (rangeM s (xb, lo).1 (xb, lo).2 = (xb, lo)) := Lib.hid (rangeM_no (by rw [rangeB_at HO2.out, h93]; simp))
                  go_upto_region 14 with fail
                  go_quiet (fail)
                  go_upto_region 17 with fail
                  refine wp_forget (ClsAt w own k g s xb S) (HCC.out.below (bl_drewN (Below.refl _ _) _)) (fun wq hq => ?_)
                  have HQ := Lib.hid hq
                  clear c0 c1 hq
                  have HLT : Hid (¬ (xb, lo).2 < (xb, lo).2) := Lib.hid (Nat.lt_irrefl _)
                  have ka := add_is wq k S lo lo HQ.out.set hlo hlo
                  go_wp2_with fail
                  refine ka.mono ?_
                  rintro e w25 ⟨rfl, hS25, hk25⟩
                  have H25 := Lib.hid (HQ.out.turn hS25 hk25)
                  clear ka hS25 hk25
                  go_wp2
                  go_roundw
                  case rel =>
                    refine ⟨n - 1, false, xb, addS S lo lo, rfl, ?_, ?_, ?_, H25.out⟩
                    · have he := HE.out
                      rw [loopM_on HO.out HD.out HX.out HY.out, if_neg HLT.out] at he
                      have hn1 : n - 1 + 1 = n := by have := HSP.out; omega
                      rw [hn1]
                      exact he
                    · have := HSP.out; omega
                    · have := HSP.out; omega
                  case measure =>
                    rw [H25.out.bld.posAt, HC.out.bld.posAt]
                    have := HSP.out; omega
                · have hi0 : (0 : Int) ≤ (xb.pos : Int) + 1 := by omega
                  have hi1 : (xb.pos : Int) + 1 < (s.size : Int) := by omega
                  have hnt : ((xb.pos : Int) + 1).toNat = xb.pos + 1 := by omega
                  have hwr : IntKind.i64.wrap ((xb.pos : Int) + 1) = (xb.pos : Int) + 1 := IntWalk.i64_in _ ⟨by omega, by omega⟩
                  have hd1 : decide ((xb.pos : Int) + 1 < (s.size : Int)) = true := decide_eq_true hi1
                  have hba := byteM_at s (xb.pos + 1) hin
                  have h9 : (((s[xb.pos + 1]'hin).toNat : Int) != 93) = true := by rw [hba]; simp; omega
                  have hrb : rangeB s xb = true := by rw [rangeB_at HO2.out]; simp [hin, h93]
                  go_upto_region 14 with fail
                  go_quiet (fail)
                  go_upto_region 16 with fail
                  refine wp_forget (ClsAt w own k g s (stepM xb) S) (HCC.out.below (bl_drewN (Below.refl _ _) _)).step (fun wq hq => ?_)
                  have HQ := Lib.hid hq
                  obtain ⟨yb, hi, hye⟩ : ∃ yb hi, signM s (stepM xb) = (yb, hi) := ⟨_, _, rfl⟩
                  have k4 := sign_is wq g s (stepM xb) own HQ.out.bld (by simp only [stepM]; omega)
                  have hsp2 := signM_pos s (stepM xb) hin
                  have hhi := signM_lt s (stepM xb)
                  rw [hye] at k4 hsp2 hhi
                  dsimp only at k4 hsp2 hhi
                  have HY : Hid (rangeM s (xb, lo).1 (xb, lo).2 = (yb, hi)) := Lib.hid ((rangeM_yes hrb).trans hye)
                  have HP : Hid (b.pos < yb.pos ∧ yb.pos ≤ s.size + 1) := Lib.hid ⟨by simp only [stepM] at hsp2; have := HSP.out; omega, hsp2.2⟩
                  clear c0 c1 hq hye hrb hsp2 h9 hba hi0 hi1 hnt hwr hd1
                  go_wp2_with fail
                  refine k4.mono ?_
                  rintro e wd ⟨rfl, hBd, hsd⟩
                  have HDD := Lib.hid (HQ.out.stp hBd hsd)
                  clear k4 hBd hsd
                  by_cases hlt : hi < lo
                  · have HLT := Lib.hid hlt
                    have hlti : (hi : Int) < (lo : Int) := by omega
                    clear hlt
                    have kq27 := KF.out _ _ _ HDD.out.bld
                    go_wp2_with fail
                    refine kq27.mono ?_
                    rintro e w27 ⟨rfl, hB27, hs27⟩
                    have H27 := Lib.hid (HDD.out.stp hB27 hs27)
                    clear kq27 hB27 hs27
                    have ka28 := add_is _ k S lo hi H27.out.set hlo hhi
                    go_wp2_with fail
                    refine ka28.mono ?_
                    rintro e w28 ⟨rfl, hS28, hk28⟩
                    have H28 := Lib.hid (H27.out.turn hS28 hk28)
                    clear ka28 hS28 hk28
                    go_wp2
                    go_roundw
                    case rel =>
                      refine ⟨n - 1, false, failM yb 2, addS S lo hi, rfl, ?_, ?_, ?_, H28.out⟩
                      · have he := HE.out
                        rw [loopM_on HO.out HD.out HX.out HY.out] at he
                        dsimp only at he
                        rw [if_pos HLT.out] at he
                        have hn1 : n - 1 + 1 = n := by have := HSP.out; omega
                        rw [hn1]
                        exact he
                      · rw [failM_pos]; have := HP.out; omega
                      · rw [failM_pos]; have := HP.out; omega
                    case measure =>
                      rw [H28.out.bld.posAt, HC.out.bld.posAt]
                      rw [failM_pos]
                      have := HP.out; omega
                  · have HLT := Lib.hid hlt
                    have hlti : ¬ (hi : Int) < (lo : Int) := by omega
                    have hlti' : (lo : Int) ≤ (hi : Int) := by omega
                    clear hlt
                    have ka31 := add_is _ k S lo hi HDD.out.set hlo hhi
                    go_wp2_with fail
                    refine ka31.mono ?_
                    rintro e w31 ⟨rfl, hS31, hk31⟩
                    have H31 := Lib.hid (HDD.out.turn hS31 hk31)
                    clear ka31 hS31 hk31
                    go_wp2
                    go_roundw
                    case rel =>
                      refine ⟨n - 1, false, yb, addS S lo hi, rfl, ?_, ?_, ?_, H31.out⟩
                      · have he := HE.out
                        rw [loopM_on HO.out HD.out HX.out HY.out] at he
                        dsimp only at he
                        rw [if_neg HLT.out] at he
                        have hn1 : n - 1 + 1 = n := by have := HSP.out; omega
                        rw [hn1]
                        exact he
                      · have := HP.out; omega
                      · have := HP.out; omega
                    case measure =>
                      rw [H31.out.bld.posAt, HC.out.bld.posAt]
                      skip
                      have := HP.out; omega
              · have hd1 : decide ((xb.pos : Int) + 1 < (s.size : Int)) = false := decide_eq_false (by omega)
                have hwr : IntKind.i64.wrap ((xb.pos : Int) + 1) = (xb.pos : Int) + 1 := IntWalk.i64_in _ ⟨by omega, by omega⟩
                have HY : Hid (rangeM s (xb, lo).1 (xb, lo).2 = (xb, lo)) := Lib.hid (rangeM_no (by rw [rangeB_at HO2.out]; simp [hin]))
                go_upto_region 14 with fail
                go_quiet (fail)
                go_upto_region 17 with fail
                refine wp_forget (ClsAt w own k g s xb S) (HCC.out.below (bl_drewN (Below.refl _ _) _)) (fun wq hq => ?_)
                have HQ := Lib.hid hq
                clear c0 c1 hq
                have HLT : Hid (¬ (xb, lo).2 < (xb, lo).2) := Lib.hid (Nat.lt_irrefl _)
                have ka := add_is wq k S lo lo HQ.out.set hlo hlo
                go_wp2_with fail
                refine ka.mono ?_
                rintro e w33 ⟨rfl, hS33, hk33⟩
                have H33 := Lib.hid (HQ.out.turn hS33 hk33)
                clear ka hS33 hk33
                go_wp2
                go_roundw
                case rel =>
                  refine ⟨n - 1, false, xb, addS S lo lo, rfl, ?_, ?_, ?_, H33.out⟩
                  · have he := HE.out
                    rw [loopM_on HO.out HD.out HX.out HY.out, if_neg HLT.out] at he
                    have hn1 : n - 1 + 1 = n := by have := HSP.out; omega
                    rw [hn1]
                    exact he
                  · have := HSP.out; omega
                  · have := HSP.out; omega
                case measure =>
                  rw [H33.out.bld.posAt, HC.out.bld.posAt]
                  have := HSP.out; omega
            · have hb45 : ((e2 : Int) == 45) = false := by rw [beq_eq_false_iff_ne]; omega
              have HY : Hid (rangeM s (xb, lo).1 (xb, lo).2 = (xb, lo)) := Lib.hid (rangeM_no (rangeB_false (by rw [HO2.out]; simpa using h45)))
              go_upto_region 14 with fail
              go_quiet (fail)
              go_upto_region 17 with fail
              refine wp_forget (ClsAt w own k g s xb S) (HCC.out.below (bl_drewN (Below.refl _ _) _)) (fun wq hq => ?_)
              have HQ := Lib.hid hq
              clear c0 c1 hq
              have HLT : Hid (¬ (xb, lo).2 < (xb, lo).2) := Lib.hid (Nat.lt_irrefl _)
              have ka := add_is wq k S lo lo HQ.out.set hlo hlo
              go_wp2_with fail
              refine ka.mono ?_
              rintro e w34 ⟨rfl, hS34, hk34⟩
              have H34 := Lib.hid (HQ.out.turn hS34 hk34)
              clear ka hS34 hk34
              go_wp2
              go_roundw
              case rel =>
                refine ⟨n - 1, false, xb, addS S lo lo, rfl, ?_, ?_, ?_, H34.out⟩
                · have he := HE.out
                  rw [loopM_on HO.out HD.out HX.out HY.out, if_neg HLT.out] at he
                  have hn1 : n - 1 + 1 = n := by have := HSP.out; omega
                  rw [hn1]
                  exact he
                · have := HSP.out; omega
                · have := HSP.out; omega
              case measure =>
                rw [H34.out.bld.posAt, HC.out.bld.posAt]
                have := HSP.out; omega
end Go.Proofs.YtcfococinllcmaaGreat
