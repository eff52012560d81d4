/- AlertTimes: the walk. -/
import Derived.Test.YtnmgfmmjdiephaaAlBack
import Derived.Test.YtnmgfmmjdiephaaAlArgs
namespace Go.Proofs.Ytnmgfmmjdiephaa
open Go.RowKit Go.Maps

/-- does it fire: as a contract with its answer at hand -/
theorem fires_is (src : ByteArray) (a : Option Addr) (n m : Nat) (lv : Int) (c : Nat) (fr til now : Int) (b : Bool) (hb : (decide (fr ≤ now) && (decide (til = 0) || decide (now < til))) = b) (w : World) :
    Calls Try.prog 24 #[.agg #[.string src, .slice a n m, .int .i64 lv, .int .u32 c, .int .i64 fr, .int .i64 til], .int .i64 now] w fun e w' => e = .returned (.bool b) ∧ Below w.heap.size w w' := by
  have h := fires_any src a n m lv c fr til now w
  rw [hb] at h
  exact h
theorem rightA_times {x : Al} (h : rightA x = true) : 0 ≤ x.fr ∧ x.fr ≤ 1099511627776 ∧ (x.til = 0 ∨ (x.fr < x.til ∧ x.til ≤ 1099511627776)) := by
  unfold rightA beginsA endsA at h
  simp only [Bool.and_eq_true, Bool.or_eq_true, decide_eq_true_eq] at h
  exact ⟨h.1.2.1, h.1.2.2, h.2⟩
namespace lawTimes
set_option maxHeartbeats 3200000 in
set_option maxRecDepth 100000 in
theorem walk0 (src : ByteArray) (fl : List Fld) (fv : Value) (lv : Int) (c : Nat) (fr til now : Int) (w : World) (hs : src.size ≤ maxLen) (hv : FldsAt w fv fl) (hfit : FldsFit fl) (hl : fl.length ≤ maxLen) :
    Calls Try.prog 5 #[.agg #[.string src, fv, .int .i64 lv, .int .u32 c, .int .i64 fr, .int .i64 til], .int .i64 now] w fun e w' => e = .returned (.bool true) ∧ Below w.heap.size w w' := by
  have kl := lives_any
  have kb := fun W (h : Below w.heap.size w W) => back_any src fl fv lv c fr til W (hv.later h) hl
  have hfit' : FldsFit (fl.take 12) := fun f hf => hfit f (List.mem_of_mem_take hf)
  have hl' : (fl.take 12).length ≤ maxLen := by rw [List.length_take]; omega
  obtain ⟨fa, fc, rfl, _, _⟩ := RdAt.shape hv
  generalize fl.take 12 = gl at *
  have KB := Lib.hid kb
  clear kb hv hfit hl
  go_enter Try.func5, Try.ntmps5
  go_wp2_with fail
  refine (kl _).mono ?_
  rintro e w1 ⟨rfl, hb1⟩
  obtain ⟨⟨x0, x1, x2, x3, x4, x5⟩, hlt1, hB1⟩ := box6 hb1
  have kb := KB.out w1 hB1
  clear kl hb1 KB
  go_wp2_with fail
  refine kb.mono ?_
  rintro e w2 ⟨v2, rfl, hf2, hb2⟩
  obtain ⟨ga, gc, rfl, _, _⟩ := RdAt.shape hf2
  have HB2 := Lib.hid (hB1.trans (hb2.mono hB1.size))
  have HF2 := Lib.hid (hf2.later hb2)
  clear x0 x1 x2 x3 x4 x5 hlt1 hB1 hb2 kb hf2
  have hba := alloc_below w2 (.cells #[.string src, .slice ga gl.length gc, .int .i64 lv, .int .u32 c, .int .i64 fr, .int .i64 til] 35)
  obtain ⟨hX, hltx, _⟩ := box6 (Below.refl (w2.alloc (.cells #[.string src, .slice ga gl.length gc, .int .i64 lv, .int .u32 c, .int .i64 fr, .int .i64 til] 35)).heap.size _)
  go_upto_region 4 with fail
  change Code.wp _ _ _ _ (w2.alloc (.cells #[.string src, .slice ga gl.length gc, .int .i64 lv, .int .u32 c, .int .i64 fr, .int .i64 til] 35))
  generalize w2.alloc (.cells #[.string src, .slice ga gl.length gc, .int .i64 lv, .int .u32 c, .int .i64 fr, .int .i64 til] 35) = w3 at *
  have HB3 := Lib.hid (HB2.out.trans (hba.mono HB2.out.size))
  have hr := aright_any src gl lv c fr til (.slice ga gl.length gc) w3 hs (HF2.out.later hba) hfit' hl'
  generalize w2.heap.size = bx at *
  have X3 : Hid (C6 bx _ _ _ _ _ _ w3) := Lib.hid hX
  obtain ⟨x0, x1, x2, x3, x4, x5⟩ := hX
  obtain ⟨rt, hrt⟩ : ∃ rt, (whoA src gl lv && beginsA fr && endsA fr til) = rt := ⟨_, rfl⟩
  have HRT : Hid (rightA ⟨src, gl, lv, c, fr, til⟩ = rt) := hrt
  rw [hrt] at hr
  clear hba hrt HF2 HB2
  go_wp2_with fail
  refine hr.mono ?_
  rintro e w4 ⟨rfl, hb4⟩
  have X4 := Lib.hid (X3.out.later hb4 hltx)
  have HLT4 := Lib.hid (Nat.lt_of_lt_of_le hltx hb4.size)
  have HB4 := Lib.hid (HB3.out.trans (hb4.mono HB3.out.size))
  clear x0 x1 x2 x3 x4 x5 X3 hltx HB3 hb4 hr
  cases rt
  · go_wp2
    go_ret
    exact ⟨rfl, HB4.out⟩
  · obtain ⟨t1, t2, t3⟩ := rightA_times HRT.out
    dsimp only at t1 t2 t3
    obtain ⟨u, hu⟩ : ∃ u, IntKind.u64.wrap now = u := ⟨_, rfl⟩
    have hu0 : 0 ≤ u ∧ u < 18446744073709551616 := by
      rw [← hu]; simp only [IntKind.wrap, IntKind.bits, IntKind.signed]; simp; omega
    obtain ⟨n, hn⟩ : ∃ n, u.tmod 2199023255552 = n := ⟨_, rfl⟩
    have hn0 : 0 ≤ n ∧ n < 2199023255552 := by
      rw [Int.tmod_eq_emod_of_nonneg hu0.1] at hn; omega
    have hn1 : IntKind.i64.wrap n = n := IntWalk.i64_in _ ⟨by omega, by omega⟩
    obtain ⟨x0, x1, x2, x3, x4, x5⟩ := X4.out
    go_upto_region 7 with fail
    obtain ⟨fb, hfb⟩ : ∃ fb, (decide (fr ≤ n) && (decide (til = 0) || decide (n < til))) = fb := ⟨_, rfl⟩
    have HFB := Lib.hid hfb
    go_cut [6] (fun s6 wx => s6 = .bool fb ∧ C6 bx (.string src) (.slice ga gl.length gc) (.int .i64 lv) (.int .u32 c) (.int .i64 fr) (.int .i64 til) wx ∧ bx < wx.heap.size ∧ Below w.heap.size w wx)
    case first =>
      clear hfb
      by_cases h1 : fr ≤ n
      · by_cases h2 : til = 0
        · subst h2
          go_wp2
          go_meet
          exact ⟨by rw [← HFB.out]; first | rfl | (simp; omega) | (simp [*]), X4.out, HLT4.out, HB4.out⟩
        · have hz : (til == 0) = false := by rw [beq_eq_false_iff_ne]; exact h2
          by_cases h3 : n < til
          · go_wp2
            go_meet
            exact ⟨by rw [← HFB.out]; first | rfl | (simp; omega) | (simp [*]), X4.out, HLT4.out, HB4.out⟩
          · have h3' : til ≤ n := by omega
            go_wp2
            go_meet
            exact ⟨by rw [← HFB.out]; first | rfl | (simp; omega) | (simp [*]), X4.out, HLT4.out, HB4.out⟩
      · have h1' : n < fr := by omega
        go_wp2
        go_meet
        exact ⟨by rw [← HFB.out]; first | rfl | (simp; omega) | (simp [*]), X4.out, HLT4.out, HB4.out⟩
    case rest =>
      obtain ⟨rfl, X5, hlt5, hB5⟩ := hcut
      have k1 := fires_is src ga gl.length gc lv c fr til n fb hfb wc
      have k2 := fun W => fires_is src ga gl.length gc lv c fr til fr true (by rcases t3 with h | ⟨h, _⟩ <;> simp <;> omega) W
      have k3 := fun W => fires_is src ga gl.length gc lv c fr til (fr - 1) false (by simp; omega) W
      have hw3 : IntKind.i64.wrap (fr - 1) = fr - 1 := IntWalk.i64_in _ ⟨by omega, by omega⟩
      have HX5 : Hid (C6 bx _ _ _ _ _ _ wc) := Lib.hid X5
      clear x0 x1 x2 x3 x4 x5 X4 HLT4 HB4 hfb HFB hu hu0 hn hn0 hn1
      obtain ⟨x0, x1, x2, x3, x4, x5⟩ := X5
      go_wp2_with fail
      refine k1.mono ?_
      rintro e w6 ⟨rfl, hb6⟩
      have X6 := Lib.hid (HX5.out.later hb6 hlt5)
      have hlt6 := Nat.lt_of_lt_of_le hlt5 hb6.size
      have hB6 := hB5.trans (hb6.mono hB5.size)
      clear x0 x1 x2 x3 x4 x5 HX5 hlt5 hB5 hb6 k1
      obtain ⟨x0, x1, x2, x3, x4, x5⟩ := X6.out
      go_wp2_with fail
      refine (k2 _).mono ?_
      rintro e w7 ⟨rfl, hb7⟩
      have X7 := Lib.hid (X6.out.later hb7 hlt6)
      have hlt7 := Nat.lt_of_lt_of_le hlt6 hb7.size
      have hB7 := hB6.trans (hb7.mono hB6.size)
      clear x0 x1 x2 x3 x4 x5 X6 hlt6 hB6 hb7 k2
      obtain ⟨x0, x1, x2, x3, x4, x5⟩ := X7.out
      go_wp2_with fail
      refine (k3 _).mono ?_
      rintro e w8 ⟨rfl, hb8⟩
      have X8 := Lib.hid (X7.out.later hb8 hlt7)
      have hlt8 := Nat.lt_of_lt_of_le hlt7 hb8.size
      have hB8 := hB7.trans (hb8.mono hB7.size)
      clear x0 x1 x2 x3 x4 x5 X7 hlt7 hB7 hb8 k3
      obtain ⟨x0, x1, x2, x3, x4, x5⟩ := X8.out
      by_cases h0 : til = 0
      · subst h0
        have k4 := fun W => fires_is src ga gl.length gc lv c fr 0 2199023255552 true (by simp; omega) W
        go_wp2_with fail
        refine (k4 _).mono ?_
        rintro e w9 ⟨rfl, hb9⟩
        have X9 := Lib.hid (X8.out.later hb9 hlt8)
        have hlt9 := Nat.lt_of_lt_of_le hlt8 hb9.size
        have hB9 := hB8.trans (hb9.mono hB8.size)
        clear x0 x1 x2 x3 x4 x5 X8 hlt8 hB8 hb9 k4
        obtain ⟨x0, x1, x2, x3, x4, x5⟩ := X9.out
        go_wp2
        go_ret
        exact ⟨rfl, hB9⟩
      · obtain ⟨h1, h2⟩ : fr < til ∧ til ≤ 1099511627776 := by
          rcases t3 with h | h
          · exact absurd h h0
          · exact h
        have hz : (til == 0) = false := by rw [beq_eq_false_iff_ne]; exact h0
        have hp : 0 < til := by omega
        have k4 := fun W => fires_is src ga gl.length gc lv c fr til til false (by simp; omega) W
        have k5 := fun W => fires_is src ga gl.length gc lv c fr til (til - 1) true (by simp; omega) W
        have hw4 : IntKind.i64.wrap (til - 1) = til - 1 := IntWalk.i64_in _ ⟨by omega, by omega⟩
        go_wp2_with fail
        refine (k4 _).mono ?_
        rintro e w9 ⟨rfl, hb9⟩
        have X9 := Lib.hid (X8.out.later hb9 hlt8)
        have hlt9 := Nat.lt_of_lt_of_le hlt8 hb9.size
        have hB9 := hB8.trans (hb9.mono hB8.size)
        clear x0 x1 x2 x3 x4 x5 X8 hlt8 hB8 hb9 k4
        obtain ⟨x0, x1, x2, x3, x4, x5⟩ := X9.out
        go_wp2_with fail
        refine (k5 _).mono ?_
        rintro e w10 ⟨rfl, hb10⟩
        have X10 := Lib.hid (X9.out.later hb10 hlt9)
        have hlt10 := Nat.lt_of_lt_of_le hlt9 hb10.size
        have hB10 := hB9.trans (hb10.mono hB9.size)
        clear x0 x1 x2 x3 x4 x5 X9 hlt9 hB9 hb10 k5
        obtain ⟨x0, x1, x2, x3, x4, x5⟩ := X10.out
        go_wp2
        go_ret
        exact ⟨rfl, hB10⟩
theorem walk (v : Value) (x : Al) (fv : Value) (now : Int) (w : World) (h : ArgAl w v x fv) : Calls Try.prog 5 #[v, .int .i64 now] w fun e w' => e = .returned (.bool true) ∧ Below w.heap.size w w' := by
  obtain ⟨rfl, h2, h3⟩ := h
  exact walk0 x.src x.fl fv x.lv x.c x.fr x.til now w h3.src h2 h3.fl h3.len
end lawTimes
end Go.Proofs.Ytnmgfmmjdiephaa
