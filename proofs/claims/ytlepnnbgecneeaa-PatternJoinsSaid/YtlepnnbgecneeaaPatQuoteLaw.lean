/- PatternQuote: the walk. -/
import Derived.Test.YtlepnnbgecneeaaPatTimes
import Derived.Test.YtlepnnbgecneeaaRefQuote
namespace Go.Proofs.Ytlepnnbgecneeaa
open Go.RowKit

theorem ne_self (s : ByteArray) : (s.toList != s.toList) = false := by simp
/-- does a text fit? -/
noncomputable def fitB (p t : ByteArray) : Bool := @decide (FitsP p t) (Classical.propDecidable _)
theorem fitB_iff {p t : ByteArray} : fitB p t = true ↔ FitsP p t := @decide_eq_true_iff _ (Classical.propDecidable _)
theorem fits_b (p t : ByteArray) (W : World) (ht : t.size ≤ maxLen) : Calls Try.prog 15 #[.string p, .string t] W fun e w' => e = .returned (.bool (fitB p t)) ∧ Below W.heap.size W w' := by
  refine (tfits_is p t W ht).mono ?_
  rintro e w' ⟨b, rfl, h1, h2⟩
  have : b = fitB p t := by rw [Bool.eq_iff_iff, fitB_iff]; exact h1
  rw [this]
  exact ⟨rfl, h2⟩
theorem quote_self (s : ByteArray) (h : (quoteB s).size ≤ 100) : fitB (quoteB s) s = true := fitB_iff.2 ((quote_fits s s h).2 rfl)
theorem quote_other (s t : ByteArray) (h : (quoteB s).size ≤ 100) : fitB (quoteB s) t = (s.toList == t.toList) := by
  rw [Bool.eq_iff_iff, fitB_iff, quote_fits s t h, beq_iff_eq, Lib.toList_data, Lib.toList_data]
  constructor
  · intro h1
    have := bytesN_inj h1
    rw [this]
  · intro h1
    unfold bytesN B
    rw [h1]
namespace lawQuote
set_option maxHeartbeats 3200000 in
set_option maxRecDepth 100000 in
theorem walk (s t : ByteArray) (w : World) (hs : s.size ≤ maxLen) (ht : t.size ≤ maxLen) :
    Calls Try.prog 7 #[.string s, .string t] w fun e w' => e = .returned (.bool true) ∧ Below w.heap.size w w' := by
  have kl := lives_is w
  have k1 := fun W => early5_is s W hs
  have k2 := fun W => early5_is t W ht
  have zs := cutB_size s 60
  have zt := cutB_size t 60
  change (cutB s 60).size ≤ 60 at zs
  change (cutB t 60).size ≤ 60 at zt
  generalize cutB s 60 = S at *
  generalize cutB t 60 = T at *
  have H1 := Lib.hid k1
  have H2 := Lib.hid k2
  clear k1 k2
  go_enter Try.func7, Try.ntmps7
  go_wp2_with fail
  refine kl.mono ?_
  rintro e w1 ⟨rfl, hb1⟩
  clear kl
  have B1 := Lib.hid hb1
  have k1 := H1.out w1
  have k2 := H2.out w1
  clear hb1 H1 H2
  go_wp2_with fail
  refine k1.mono ?_
  rintro e w2 ⟨rfl, hww⟩
  obtain rfl := hww.symm
  clear k1
  go_wp2_with fail
  refine k2.mono ?_
  rintro e w2 ⟨rfl, hww⟩
  obtain rfl := hww.symm
  clear k2
  have kq := quote_is S w1 (by omega)
  go_wp2_with fail
  refine kq.mono ?_
  rintro e w2 ⟨rfl, hb2⟩
  have B2 := Lib.hid (B1.out.trans (hb2.mono B1.out.size))
  clear kq hb2 B1
  have kr := refquote_is S w2 (by omega)
  have kR := fun W => right_is (quoteB S) W
  have kF := fun W => fits_b (quoteB S) S W (by unfold maxLen; omega)
  have kG := fun W => fits_b (quoteB S) T W (by unfold maxLen; omega)
  have zq := quote_size S
  have HQ1 := Lib.hid (quote_err S)
  have HQ2 := Lib.hid (quote_self S)
  have HQ3 := Lib.hid (quote_other S T)
  have hne := ne_self (quoteB S)
  have HR := Lib.hid kR
  have HF := Lib.hid kF
  have HG := Lib.hid kG
  clear kR kF kG
  generalize quoteB S = q at *
  go_wp2_with fail
  refine kr.mono ?_
  rintro e w3 ⟨rfl, hb3⟩
  have B3 := Lib.hid (B2.out.trans (hb3.mono B2.out.size))
  clear kr hb3 B2
  by_cases hq : 100 < q.size
  · have kR := HR.out w3
    rw [HQ1.out, if_pos hq] at kR
    go_wp2_with fail
    refine kR.mono ?_
    rintro e w4 ⟨rfl, hb4⟩
    have B4 := Lib.hid (B3.out.trans (hb4.mono B3.out.size))
    clear kR hb4 B3
    go_wp2
    go_ret
    exact ⟨rfl, B4.out⟩
  · have kR := HR.out w3
    rw [HQ1.out, if_neg hq] at kR
    have q1 := HQ2.out (by omega)
    have q2 := HQ3.out (by omega)
    rw [q1] at HF
    rw [q2] at HG
    clear q1 q2
    go_wp2_with fail
    refine kR.mono ?_
    rintro e w4 ⟨rfl, hb4⟩
    have B4 := Lib.hid (B3.out.trans (hb4.mono B3.out.size))
    have kF := HF.out w4
    clear kR hb4 B3
    go_wp2_with fail
    refine kF.mono ?_
    rintro e w5 ⟨rfl, hb5⟩
    have B5 := Lib.hid (B4.out.trans (hb5.mono B4.out.size))
    have kG := HG.out w5
    clear kF hb5 B4
    go_wp2_with fail
    refine kG.mono ?_
    rintro e w6 ⟨rfl, hb6⟩
    have B6 := Lib.hid (B5.out.trans (hb6.mono B5.out.size))
    clear kG hb6 B5
    go_wp2
    go_ret
    exact ⟨rfl, B6.out⟩
end lawQuote
end Go.Proofs.Ytlepnnbgecneeaa
