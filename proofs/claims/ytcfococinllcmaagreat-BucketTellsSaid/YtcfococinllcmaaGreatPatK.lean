/- pattern's builder: sign: a contract. -/
import Derived.Test.YtcfococinllcmaaGreatPatS
namespace Go.Proofs.YtcfococinllcmaaGreat
open Go.RowKit

theorem Bld.fields {w : World} {g : Nat} {s : ByteArray} {b : Bs} {own : Nat → Prop} (h : Bld w g s b own) :
    w.cell? ⟨g, 0, none⟩ = some (.string s) ∧ w.cell? ⟨g, 1, none⟩ = some (.int .i64 b.pos) ∧ w.cell? ⟨g, 2, none⟩ = some (.int .i64 b.err) ∧ w.frozen? ⟨g, 1, none⟩ = false := by
  obtain ⟨sv, es, hV⟩ := h
  obtain ⟨h0, h1, h2, _, h4⟩ := hV.cells
  exact ⟨h0, h1, h2, h4 1⟩
theorem Stp.step {w : World} {g : Nat} {s : ByteArray} {b : Bs} {own : Nat → Prop} (h : Bld w g s b own) (v : Value) : Stp own w own (w.setCell ⟨g, 1, none⟩ v) := Stp.setCell h.og v
theorem signM_none {s : ByteArray} {b : Bs} (h : peekM s b = none) : signM s b = (failM (stepM b) 2, 0) := by unfold signM; rw [h]
theorem signM_plain {s : ByteArray} {b : Bs} {c : Nat} (h : peekM s b = some c) (hc : c ≠ 92) : signM s b = (stepM b, c) := by unfold signM; rw [h]; simp [hc]
theorem signM_end {s : ByteArray} {b : Bs} (h : peekM s b = some 92) (h' : peekM s (stepM b) = none) : signM s b = (failM (stepM (stepM b)) 2, 0) := by unfold signM; rw [h]; simp [h']
theorem signM_esc {s : ByteArray} {b : Bs} {d : Nat} (h : peekM s b = some 92) (h' : peekM s (stepM b) = some d) : signM s b = (stepM (stepM b), d) := by unfold signM; rw [h]; simp [h']
set_option maxHeartbeats 1600000 in
set_option maxRecDepth 100000 in
theorem sign_is (w : World) (g : Nat) (s : ByteArray) (b : Bs) (own : Nat → Prop) (h : Bld w g s b own) (hp : b.pos ≤ 1000000) :
    Calls Tryz.prog 182 #[.pointer (some ⟨g, 0, none⟩)] w fun e w' => e = .returned (.int .u8 ((signM s b).2 : Nat)) ∧ Bld w' g s (signM s b).1 own ∧ Stp own w own w' := by
  obtain ⟨o, ho⟩ : ∃ o, peekM s b = o := ⟨_, rfl⟩
  have k1 := peek_is w g s b own o ho h (by omega)
  have HO := Lib.hid ho
  have HB := Lib.hid h
  clear ho h
  go_enter Tryz.func182, Tryz.ntmps182
  go_wp2_with fail
  refine k1.mono ?_
  rintro e w1 ⟨rfl, hb1⟩
  have HB1 := Lib.hid (HB.out.below hb1)
  have HS1 := Lib.hid (Stp.of_below (own := own) hb1)
  obtain ⟨_, c1, _, f1⟩ := HB1.out.fields
  clear k1 hb1
  go_upto_region 3 with fail
  change Code.wp _ _ _ _ (w1.setCell ⟨g, 1, none⟩ (.int .i64 ((b.pos : Int) + 1)))
  have HB2 := Lib.hid HB1.out.step
  have HS2 := Lib.hid (HS1.out.trans (Stp.step HB1.out (.int .i64 ((b.pos : Int) + 1))))
  clear c1 f1 HB1 HS1 HB
  generalize w1.setCell ⟨g, 1, none⟩ (.int .i64 ((b.pos : Int) + 1)) = w2 at *
  have kf := fun W b own (h : Bld W g s b own) => fail_is W g s b own 2 h
  have KF := Lib.hid kf
  clear kf
  cases o
  · have k2 := KF.out _ _ _ HB2.out
    go_wp2_with fail
    refine k2.mono ?_
    rintro e w3 ⟨rfl, hB3, hs3⟩
    have HB3 := Lib.hid hB3
    have HS3 := Lib.hid (HS2.out.trans hs3)
    clear k2 hB3 hs3
    go_wp2
    go_ret
    rw [signM_none HO.out]
    exact ⟨rfl, HB3.out, HS3.out⟩
  · rename_i c
    by_cases hc : c = 92
    · subst hc
      obtain ⟨o, ho⟩ : ∃ o, peekM s (stepM b) = o := ⟨_, rfl⟩
      have k2 := peek_is w2 g s (stepM b) own o ho HB2.out (by simp only [stepM]; omega)
      have HO2 := Lib.hid ho
      clear ho
      go_wp2_with fail
      refine k2.mono ?_
      rintro e w3 ⟨rfl, hb3⟩
      have HB3 := Lib.hid (HB2.out.below hb3)
      have HS3 := Lib.hid (HS2.out.trans (Stp.of_below (own := own) hb3))
      obtain ⟨_, c1, _, f1⟩ := HB3.out.fields
      have hps : (stepM b).pos ≤ 1000001 := by simp only [stepM]; omega
      clear k2 hb3 HB2 HS2
      go_upto_region 6 with fail
      change Code.wp _ _ _ _ (w3.setCell ⟨g, 1, none⟩ (.int .i64 (((stepM b).pos : Int) + 1)))
      have HB4 := Lib.hid HB3.out.step
      have HS4 := Lib.hid (HS3.out.trans (Stp.step HB3.out (.int .i64 (((stepM b).pos : Int) + 1))))
      clear c1 f1 HB3 HS3
      generalize w3.setCell ⟨g, 1, none⟩ (.int .i64 (((stepM b).pos : Int) + 1)) = w4 at *
      cases o
      · have k2 := KF.out _ _ _ HB4.out
        go_wp2_with fail
        refine k2.mono ?_
        rintro e w5 ⟨rfl, hB5, hs5⟩
        have HB5 := Lib.hid hB5
        have HS5 := Lib.hid (HS4.out.trans hs5)
        clear k2 hB5 hs5
        go_wp2
        go_ret
        rw [signM_end HO.out HO2.out]
        exact ⟨rfl, HB5.out, HS5.out⟩
      · rename_i d
        go_wp2
        go_ret
        rw [signM_esc HO.out HO2.out]
        exact ⟨rfl, HB4.out, HS4.out⟩
    · have hcb : ((c : Int) == 92) = false := by rw [beq_eq_false_iff_ne]; omega
      have HC := Lib.hid hc
      clear hc
      go_wp2
      go_ret
      rw [signM_plain HO.out HC.out]
      exact ⟨rfl, HB2.out, HS2.out⟩
end Go.Proofs.YtcfococinllcmaaGreat
