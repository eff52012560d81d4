/- SilenceForget: the card: whatever the arguments, the law returns true and its arguments read as they did. No condition. -/
import Derived.Test.YtcfococinllcmaaGreatTopSilenceForgetCardP0
import Derived.Test.YtcfococinllcmaaGreatInts
import Derived.Deep.LoopGhost
import Derived.Lib.Hide
import Derived.Test.YtcfococinllcmaaGreatFrame12

/- silences: Quiet: where its result lies. -/
namespace Go.Proofs.YtcfococinllcmaaGreat
open Go.RowKit Go.Maps

set_option maxHeartbeats 3200000 in
set_option maxRecDepth 100000 in
theorem quiet_own (s0 s1 s2 s4 s5 : Option Addr × Nat × Nat) (rs : List Nmd) (rv : Value) (src : ByteArray) (fl : List Fld) (fv : Value) (lv : Int) (c : Nat) (fr til : Int) (tl : Int) (tc : Nat) (now : Int) (lp m n : Nat) (S : List Sil) (last : Int) (w : World)
    (h : SlAt w lp m n S last) (hv : NmdsAt w rv rs) (hl : rs.length ≤ maxLen) (hf : FldsAt w fv fl) (hfl : fl.length ≤ 1000000000000) (hfit : FldsFit fl) :
    Calls Tryz.prog 29 #[.pointer (some ⟨lp, 0, none⟩), .agg #[SV s0, SV s1, SV s2, rv, SV s4, SV s5], .agg #[.string src, fv, .int .i64 lv, .int .u32 c, .int .i64 fr, .int .i64 til], Lab tl tc, .int .i64 now] w fun e w' =>
      ∃ v', e = .returned v' ∧ IntsAt w' v' (quietL rs S fl (lv, c) (tl, tc) now) ∧ Below w.heap.size w w' ∧ ∀ q, v'.ownBlock = some q → w.heap.size ≤ q := by
  obtain ⟨ra, rc, rfl, _, _⟩ := RdAt.shape hv
  obtain ⟨fa, fc, rfl, _, _⟩ := RdAt.shape hf
  have k1 := fun W (hb : Below w.heap.size w W) => cut_any s0 s1 s2 s4 s5 rs (.slice ra rs.length rc) src fl (.slice fa fl.length fc) lv c fr til tl tc W (hv.later hb) hl (hf.later hb) hfl
  obtain ⟨a0, n0, c0⟩ := s0
  obtain ⟨a1, n1, c1⟩ := s1
  obtain ⟨a2, n2, c2⟩ := s2
  obtain ⟨a4, n4, c4⟩ := s4
  obtain ⟨a5, n5, c5⟩ := s5
  have hX := quBox w (.pointer (some ⟨lp, 0, none⟩)) (.slice a0 n0 c0) (.slice a1 n1 c1) (.slice a2 n2 c2) (.slice ra rs.length rc) (.slice a4 n4 c4) (.slice a5 n5 c5) (.string src) (.slice fa fl.length fc) (.int .i64 lv) (.int .u32 c) (.int .i64 fr) (.int .i64 til) (.int .i64 tl) (.int .u32 tc) now 51 76 53 26 3
  obtain ⟨W0, hW0⟩ : ∃ z, (((((w.alloc (.cells #[.pointer (some ⟨lp, 0, none⟩)] 51)).alloc (.cells #[.slice a0 n0 c0, .slice a1 n1 c1, .slice a2 n2 c2, .slice ra rs.length rc, .slice a4 n4 c4, .slice a5 n5 c5] 76)).alloc (.cells #[.string src, .slice fa fl.length fc, .int .i64 lv, .int .u32 c, .int .i64 fr, .int .i64 til] 53)).alloc (.cells #[.int .i64 tl, .int .u32 tc] 26)).alloc (.cells #[.int .i64 now] 3)) = z := ⟨_, rfl⟩
  rw [hW0] at hX
  have HX := Lib.hid hX
  have H := Lib.hid h
  have k1 := k1 W0 hX.below
  have HQL : Hid (quietL rs S fl (lv, c) (tl, tc) now = if cutOk rs fl (lv, c) (tl, tc) = true then (S.filter fun s => quietS (visL rs fl (lv, c) (tl, tc)) (tl, tc) now s).map (·.id) else []) := Lib.hid rfl
  have hvl : (visL rs fl (lv, c) (tl, tc)).length ≤ fl.length := List.length_filter_le _ _
  have hvf : FldsFit (visL rs fl (lv, c) (tl, tc)) := fun x hx => hfit x (List.mem_filter.1 hx).1
  have HVF := Lib.hid hvf
  generalize visL rs fl (lv, c) (tl, tc) = V at *
  generalize cutOk rs fl (lv, c) (tl, tc) = CO at *
  generalize quietL rs S fl (lv, c) (tl, tc) now = QL at *
  obtain ⟨q1, ⟨p0, p1, p2, p3, p4, p5⟩, ⟨x0, x1, x2, x3, x4, x5⟩, l0, l1, y0, _, _⟩ := hX
  unfold SV at k1 ⊢
  dsimp only at k1 ⊢
  clear h hv hf hfit hvf
  go_enter Tryz.func29, Tryz.ntmps29
  go_upto_region 1 with fail
  clear hW0
  go_wp2_with fail
  refine k1.mono ?_
  rintro e w1 ⟨v', hF, hO, hb1, rfl⟩
  have HX1 := Lib.hid (HX.out.later hb1)
  have HF := Lib.hid hF
  clear k1 hb1 HX hF hO q1 p0 p1 p2 p3 p4 p5 x0 x1 x2 x3 x4 x5 l0 l1 y0
  obtain ⟨va, vc, rfl, _, _⟩ := RdAt.shape HF.out
  cases CO with
  | false =>
    unfold cutR zeroA
    dsimp only
    go_wp2
    go_ret
    exact ⟨_, rfl, by rw [HQL.out]; exact IntsAt.nil _, HX1.out.below.trans ((alloc_below _ _).mono HX1.out.below.size), fun q hq => by cases hq⟩
  | true =>
  have hba := alloc_below w1 (.cells #[.string src, .slice va V.length vc, .int .i64 lv, .int .u32 c, .int .i64 fr, .int .i64 til] 53)
  have hbx := box_later (Below.refl (w1.alloc (.cells #[.string src, .slice va V.length vc, .int .i64 lv, .int .u32 c, .int .i64 fr, .int .i64 til] 53)).heap.size (w1.alloc (.cells #[.string src, .slice va V.length vc, .int .i64 lv, .int .u32 c, .int .i64 fr, .int .i64 til] 53))) (i := 1) (x := .slice va V.length vc) rfl
  unfold cutR
  dsimp only
  obtain ⟨W2, hW2⟩ : ∃ z, w1.alloc (.cells #[.string src, .slice va V.length vc, .int .i64 lv, .int .u32 c, .int .i64 fr, .int .i64 til] 53) = z := ⟨_, rfl⟩
  rw [hW2] at hba hbx
  have HX2 := Lib.hid (HX1.out.later hba)
  have HF2 := Lib.hid (HF.out.later hba)
  have HBX := Lib.hid hbx
  obtain ⟨q1, _, _, _, _, _, _, _⟩ := HX2.out
  have H2 := Lib.hid (H.out.later HX2.out.below)
  have kn := num_any lp m n S last W2 H2.out
  have hSl : (S.map (·.id)).length ≤ 1000000 := by
    have h1 := H2.out.own.size_le
    rw [DS_size] at h1
    rw [List.length_map]
    have := H2.out.len
    omega
  clear hba hbx HX1 HF H
  go_wp2_with fail
  refine kn.mono ?_
  rintro e w3 ⟨v, rfl, hrow, hb3⟩
  have HX3 := Lib.hid (HX2.out.later hb3)
  have kd := delS_own (S.map (·.id)) (offS S V (tl, tc) now) (.pointer (some ⟨w.heap.size, 0, none⟩)) (.pointer (some ⟨w.heap.size + 1 + 1 + 1, 0, none⟩)) (.pointer (some ⟨w.heap.size + 1 + 1 + 1 + 1, 0, none⟩)) (.pointer (some ⟨w1.heap.size, 0, none⟩)) W2.heap.size v w3 (by rw [List.length_map]; exact hrow) hb3.size hSl (fun W hW x hx => by
    obtain ⟨s, hs, rfl⟩ := List.mem_map.1 hx
    have hb := hb3.trans hW
    have hO : offS S V (tl, tc) now s.id = !(quietS V (tl, tc) now s) := by unfold offS; rw [find_self H2.out.up hs]
    rw [hO]
    have hx2 := HX2.out.later hb
    exact qclos w.heap.size (w.heap.size + 1 + 1 + 1) (w.heap.size + 1 + 1 + 1 + 1) w1.heap.size lp m n (tl, tc) now V (.slice va V.length vc) S last s W (H2.out.later hb) hs
      ⟨hx2.b1, hx2.l0, hx2.l1, hx2.n, keep_cell HBX.out hb (cell_lt HBX.out), HF2.out.later hb⟩ (by omega) HVF.out)
  rw [off_ids H2.out.up] at kd
  have HB3 := Lib.hid (HX3.out.below)
  have hs3 : w.heap.size ≤ W2.heap.size := HX2.out.below.size
  have HS3 := Lib.hid (HX2.out.below.trans (hb3.mono hs3))
  have hb3s := hb3.size
  clear kn hrow hb3 q1
  go_wp2_with fail
  refine kd.mono ?_
  rintro e w4 ⟨v', rfl, hI, hb4, hq4⟩
  have HI := Lib.hid hI
  have HQ4 := Lib.hid (fun q hq => Nat.le_trans hs3 (hq4 q hq))
  have HB4 := Lib.hid (HS3.out.trans (hb4.mono hs3))
  clear kd hI hb4 hq4
  go_wp2
  go_ret
  exact ⟨_, rfl, by rw [HQL.out]; exact HI.out, HB4.out, HQ4.out⟩
end Go.Proofs.YtcfococinllcmaaGreat

/- silences, plainly: what is forgotten. -/
namespace Go.Proofs.YtcfococinllcmaaGreat
open Go.RowKit

theorem quiet_ended (fl : List Fld) (t : Int × Nat) (now : Int) (s : Sil) (h : quietS fl t now s = true) : endS now s = false := by
  unfold quietS at h
  simp only [Bool.and_eq_true, decide_eq_true_eq] at h
  unfold endS
  exact decide_eq_false (by omega)
theorem quiet_left (rs : List Nmd) (S : List Sil) (fl : List Fld) (f t : Int × Nat) (now : Int) : quietL rs (S.filter fun s => !endS now s) fl f t now = quietL rs S fl f t now := by
  unfold quietL
  split
  · congr 1
    rw [List.filter_filter]
    apply List.filter_congr
    intro s _
    cases h : quietS (visL rs fl f t) t now s with
    | false => rfl
    | true => rw [quiet_ended _ _ _ _ h]; rfl
  · rfl
theorem left_none (S : List Sil) (now : Int) : (S.filter fun s => !endS now s).countP (endS now) = 0 := by
  rw [List.countP_eq_zero]
  intro s hs
  have := (List.mem_filter.1 hs).2
  cases h : endS now s with
  | false => simp
  | true => rw [h] at this; cases this
theorem left_count (S : List Sil) (now : Int) : S.countP (endS now) + (S.filter fun s => !endS now s).length = S.length := by
  rw [← List.countP_eq_length_filter, List.length_eq_countP_add_countP (endS now) (l := S)]
  congr 1
  apply List.countP_congr
  intro s _
  simp
theorem left_til (S : List Sil) (now : Int) (s : Sil) (h : s ∈ S.filter fun s => !endS now s) : now < s.til := by
  have := (List.mem_filter.1 h).2
  unfold endS at this
  simp at this
  exact this
theorem quiet_len (rs : List Nmd) (S : List Sil) (fl : List Fld) (f t : Int × Nat) (now : Int) : (quietL rs S fl f t now).length ≤ S.length := by
  unfold quietL
  split
  · rw [List.length_map]; exact List.length_filter_le _ _
  · exact Nat.zero_le _
/-- ints, where their block is kept -/
theorem ints_kp {w w' : World} {lp m : Nat} {v : Value} {l : List Int} (h : IntsAt w v l) (hk : Kp lp m w w') (hq : ∀ q, v.ownBlock = some q → q ≠ lp ∧ q ≠ m) : IntsAt w' v l := hk.rd h hq
theorem c6_kp {w w' : World} {lp m p : Nat} {a b c d e f : Value} (h : C6 p a b c d e f w) (hk : Kp lp m w w') (h1 : p ≠ lp) (h2 : p ≠ m) : C6 p a b c d e f w' := by
  obtain ⟨x0, x1, x2, x3, x4, x5⟩ := h
  exact ⟨hk.cell x0 h1 h2, hk.cell x1 h1 h2, hk.cell x2 h1 h2, hk.cell x3 h1 h2, hk.cell x4 h1 h2, hk.cell x5 h1 h2⟩
theorem rd_kp {w w' : World} {lp m : Nat} {v : Value} {n k : Nat} {xs : List Value} (h : RdAt w v n k xs) (hk : Kp lp m w w') (hq : 0 < n → ∀ q, v.ownBlock = some q → q ≠ lp ∧ q ≠ m) : RdAt w' v n k xs := by
  rcases Nat.eq_zero_or_pos n with h0 | h0
  · subst h0
    refine ⟨h.1, ?_⟩
    rcases h.2 with h1 | ⟨a, c, rfl, hc, _⟩
    · exact .inl h1
    · exact .inr ⟨a, c, rfl, hc, fun hn => absurd hn (Nat.lt_irrefl _)⟩
  · exact hk.rd h (hq h0)
end Go.Proofs.YtcfococinllcmaaGreat

/- the law's alert: good: where its fields lie. -/
namespace Go.Proofs.YtcfococinllcmaaGreat
open Go.RowKit

set_option maxHeartbeats 3200000 in
set_option maxRecDepth 100000 in
theorem good_own (src : ByteArray) (fl : List Fld) (fv : Value) (lv : Int) (c : Nat) (fr til : Int) (w : World) (hs : src.size ≤ maxLen) (hv : FldsAt w fv fl) (hfit : FldsFit fl) (hl : fl.length ≤ maxLen) :
    Calls Tryz.prog 22 #[.agg #[.string src, fv, .int .i64 lv, .int .u32 c, .int .i64 fr, .int .i64 til]] w fun e w' =>
      ∃ v', e = .returned (.tuple #[.agg #[.string (gSrc src), v', .int .i64 (gLv lv), .int .u32 c, .int .i64 (gFr fr), .int .i64 (gTil fr til)], .agg #[.string (gSrc src), v', .int .i64 (gLv lv), .int .u32 c, .int .i64 (gFr fr), .int .i64 (gTil fr til)]]) ∧ FldsAt w' v' (goodF fl) ∧ FldsFit (goodF fl) ∧ rightF (goodF fl) = true ∧ (0 < (goodF fl).length → ∀ q, v'.ownBlock = some q → w.heap.size ≤ q) ∧ Below w.heap.size w w' := by
  have k9 := fun W (hW : Below w.heap.size w W) => rgood9_any src fl fv lv c fr til W hs (hv.later hW) hfit hl
  obtain ⟨fa, fc, rfl, _, _⟩ := RdAt.shape hv
  obtain ⟨W1, h1⟩ : ∃ z, w.alloc (.cells #[.string src, .slice fa fl.length fc, .int .i64 lv, .int .u32 c, .int .i64 fr, .int .i64 til] 50) = z := ⟨_, rfl⟩
  obtain ⟨W2, h2⟩ : ∃ z, W1.alloc (.cells #[.string ⟨#[]⟩, .slice none 0 0, .int .i64 0, .int .u32 0, .int .i64 0, .int .i64 0] 53) = z := ⟨_, rfl⟩
  obtain ⟨W3, h3⟩ : ∃ z, W2.alloc (.cells #[.string ⟨#[]⟩, .slice none 0 0, .int .i64 0, .int .u32 0, .int .i64 0, .int .i64 0] 50) = z := ⟨_, rfl⟩
  have s1 : W1.heap.size = w.heap.size + 1 := by rw [← h1, World.size_alloc]
  have s2 : W2.heap.size = w.heap.size + 1 + 1 := by rw [← h2, World.size_alloc, s1]
  have s3 : W3.heap.size = w.heap.size + 1 + 1 + 1 := by rw [← h3, World.size_alloc, s2]
  have b1 : Below w.heap.size w W1 := by rw [← h1]; exact alloc_below _ _
  have b2 : Below W1.heap.size W1 W2 := by rw [← h2]; exact alloc_below _ _
  have b3 : Below W2.heap.size W2 W3 := by rw [← h3]; exact alloc_below _ _
  have x1 := alc6 w (.string src) (.slice fa fl.length fc) (.int .i64 lv) (.int .u32 c) (.int .i64 fr) (.int .i64 til) 50
  have x2 := alc6 W1 (.string ⟨#[]⟩) (.slice none 0 0) (.int .i64 0) (.int .u32 0) (.int .i64 0) (.int .i64 0) 53
  have x3 := alc6 W2 (.string ⟨#[]⟩) (.slice none 0 0) (.int .i64 0) (.int .u32 0) (.int .i64 0) (.int .i64 0) 50
  have t2 := box_there (Below.refl _ (W1.alloc (.cells #[.string ⟨#[]⟩, .slice none 0 0, .int .i64 0, .int .u32 0, .int .i64 0, .int .i64 0] 53)))
  have t3 := box_there (Below.refl _ (W2.alloc (.cells #[.string ⟨#[]⟩, .slice none 0 0, .int .i64 0, .int .u32 0, .int .i64 0, .int .i64 0] 50)))
  rw [h1] at x1
  rw [h2] at x2 t2
  rw [h3] at x3 t3
  change W2.there W1.heap.size 0 6 at t2
  change W3.there W2.heap.size 0 6 at t3
  rw [s1] at x2 t2
  rw [s2] at x3 t3
  have x1 := (x1.later b2 (by omega)).later b3 (by omega)
  have x2 := x2.later b3 (by omega)
  have t2 := there_later t2 b3 (by omega)
  have hB3 : Below w.heap.size w W3 := (b1.trans (b2.mono (by omega))).trans (b3.mono (by omega))
  have k9 := k9 W3 hB3
  have HB3 := Lib.hid hB3
  have HX2 := Lib.hid x2
  have HX3 := Lib.hid x3
  have HT2 := Lib.hid t2
  have HT3 := Lib.hid t3
  generalize goodF fl = G at *
  generalize gSrc src = s' at *
  generalize gLv lv = l' at *
  generalize gFr fr = f' at *
  generalize gTil fr til = t' at *
  obtain ⟨y0, y1, y2, y3, y4, y5⟩ := x1
  clear x2 x3 t2 t3 b1 b2 b3 hB3 hv hfit hl hs
  go_enter Tryz.func22, Tryz.ntmps22
  go_upto_region 1 with fail
  try rw [h1]
  try rw [h2]
  try rw [h3]
  try rw [s1]
  try rw [s2]
  clear h1 h2 h3
  go_wp2_with fail
  refine k9.mono ?_
  rintro e w4 ⟨v', rfl, hF, hff, hrf, hfar, hb4⟩
  rw [s3] at hfar
  obtain ⟨va, vc, rfl, _, _⟩ := RdAt.shape hF
  have HF := Lib.hid hF
  have HFAR := Lib.hid hfar
  have HFF := Lib.hid hff
  have HRF := Lib.hid hrf
  have HB4 := Lib.hid (HB3.out.trans (hb4.mono HB3.out.size))
  have HX4 := Lib.hid (HX2.out.later hb4 (by omega))
  have HX5 := Lib.hid (HX3.out.later hb4 (by omega))
  have HT4 := Lib.hid (there_later HT2.out hb4 (by omega))
  have HT5 := Lib.hid (there_later HT3.out hb4 (by omega))
  have hs4 : w.heap.size + 1 + 1 + 1 ≤ w4.heap.size := by have := hb4.size; omega
  clear k9 hF hff hrf hfar hb4 HB3 HX2 HX3 HT2 HT3 y0 y1 y2 y3 y4 y5
  have hba := alloc_below w4 (.cells #[.string s', .slice va G.length vc, .int .i64 l', .int .u32 c, .int .i64 f', .int .i64 t'] 50)
  have x6 := alc6 w4 (.string s') (.slice va G.length vc) (.int .i64 l') (.int .u32 c) (.int .i64 f') (.int .i64 t') 50
  obtain ⟨W5, h5⟩ : ∃ z, w4.alloc (.cells #[.string s', .slice va G.length vc, .int .i64 l', .int .u32 c, .int .i64 f', .int .i64 t'] 50) = z := ⟨_, rfl⟩
  rw [h5] at hba x6
  have HX6 := Lib.hid x6
  have HF5 := Lib.hid (HF.out.later hba)
  have HB5 := Lib.hid (HB4.out.trans (hba.mono HB4.out.size))
  have x4 := HX4.out.later hba (by omega)
  have x5 := HX5.out.later hba (by omega)
  have t4 := there_later HT4.out hba (by omega)
  have t5 := there_later HT5.out hba (by omega)
  have HX4 := Lib.hid x4
  have HX5 := Lib.hid x5
  have HT4 := Lib.hid t4
  have HT5 := Lib.hid t5
  clear hba x6 x4 x5 t4 t5 HF HB4
  go_upto_region 2 with fail
  try rw [h5]
  clear h5
  obtain ⟨z0, z1, z2, z3, z4, z5⟩ := HX6.out
  obtain ⟨p0, p1, p2, p3, p4, p5⟩ := HX4.out
  obtain ⟨q0, q1, q2, q3, q4, q5⟩ := HX5.out
  have f0 := there_free HT4.out 0 (by omega)
  have f1 := there_free HT4.out 1 (by omega)
  have f2 := there_free HT4.out 2 (by omega)
  have f3 := there_free HT4.out 3 (by omega)
  have f4 := there_free HT4.out 4 (by omega)
  have f5 := there_free HT4.out 5 (by omega)
  have e0 := there_free HT5.out 0 (by omega)
  have e1 := there_free HT5.out 1 (by omega)
  have e2 := there_free HT5.out 2 (by omega)
  have e3 := there_free HT5.out 3 (by omega)
  have e4 := there_free HT5.out 4 (by omega)
  have e5 := there_free HT5.out 5 (by omega)
  go_region
  clear z0 z1 z2 z3 z4 z5 p0 p1 p2 p3 p4 p5 q0 q1 q2 q3 q4 q5 f0 f1 f2 f3 f4 f5 e0 e1 e2 e3 e4 e5
  have hx : (W5.setCells (w.heap.size + 1) 0 [.string s', .slice va G.length vc, .int .i64 l', .int .u32 c, .int .i64 f', .int .i64 t']).rangeAt (w.heap.size + 1) 0 [.string s', .slice va G.length vc, .int .i64 l', .int .u32 c, .int .i64 f', .int .i64 t'] := World.rangeAt_setCells_same _ _ 0 _ HT4.out
  have hT := World.there_setCells HT5.out (w.heap.size + 1) 0 [.string s', .slice va G.length vc, .int .i64 l', .int .u32 c, .int .i64 f', .int .i64 t']
  have hy := World.rangeAt_setCells_same (W5.setCells (w.heap.size + 1) 0 [.string s', .slice va G.length vc, .int .i64 l', .int .u32 c, .int .i64 f', .int .i64 t']) (w.heap.size + 1 + 1) 0 [.string s', .slice va G.length vc, .int .i64 l', .int .u32 c, .int .i64 f', .int .i64 t'] hT
  have hx2 : ((W5.setCells (w.heap.size + 1) 0 [.string s', .slice va G.length vc, .int .i64 l', .int .u32 c, .int .i64 f', .int .i64 t']).setCells (w.heap.size + 1 + 1) 0 [.string s', .slice va G.length vc, .int .i64 l', .int .u32 c, .int .i64 f', .int .i64 t']).rangeAt (w.heap.size + 1) 0 [.string s', .slice va G.length vc, .int .i64 l', .int .u32 c, .int .i64 f', .int .i64 t'] := fun j v hv => by
    rw [World.cell?_setCells_out _ _ _ _ _ (fun h _ => by simp at h)]
    exact hx j v hv
  have hba := below_puts (g := w.heap.size + 1) (o := 0) HB5.out (by omega) [.string s', .slice va G.length vc, .int .i64 l', .int .u32 c, .int .i64 f', .int .i64 t']
  have hbb := below_puts (g := w.heap.size + 1 + 1) (o := 0) hba (by omega) [.string s', .slice va G.length vc, .int .i64 l', .int .u32 c, .int .i64 f', .int .i64 t']
  have hsz : W5.heap.size ≤ ((W5.setCells (w.heap.size + 1) 0 [.string s', .slice va G.length vc, .int .i64 l', .int .u32 c, .int .i64 f', .int .i64 t']).setCells (w.heap.size + 1 + 1) 0 [.string s', .slice va G.length vc, .int .i64 l', .int .u32 c, .int .i64 f', .int .i64 t']).heap.size := ((Below.refl 0 W5).trans (below_puts_base (below_puts_base (Below.refl 0 W5) (Nat.zero_le _) [.string s', .slice va G.length vc, .int .i64 l', .int .u32 c, .int .i64 f', .int .i64 t']) (Nat.zero_le _) [.string s', .slice va G.length vc, .int .i64 l', .int .u32 c, .int .i64 f', .int .i64 t'])).size
  have HX := Lib.hid hx2
  have HY := Lib.hid hy
  have hF8 := rd_puts' (g := w.heap.size + 1) (o := 0) HF5.out (fun h0 q hq => by have := HFAR.out h0 q hq; omega) [.string s', .slice va G.length vc, .int .i64 l', .int .u32 c, .int .i64 f', .int .i64 t']
  have hF9 := rd_puts' (g := w.heap.size + 1 + 1) (o := 0) hF8 (fun h0 q hq => by have := HFAR.out h0 q hq; omega) [.string s', .slice va G.length vc, .int .i64 l', .int .u32 c, .int .i64 f', .int .i64 t']
  have HF9 : Hid (FldsAt _ _ G) := Lib.hid hF9
  have HBB := Lib.hid hbb
  clear hx hT hy hx2 hba hbb hF8 hF9
  change Exit.then _ _ _ _ (World.drew ((W5.setCells (w.heap.size + 1) 0 [.string s', .slice va G.length vc, .int .i64 l', .int .u32 c, .int .i64 f', .int .i64 t']).setCells (w.heap.size + 1 + 1) 0 [.string s', .slice va G.length vc, .int .i64 l', .int .u32 c, .int .i64 f', .int .i64 t']))
  generalize (W5.setCells (w.heap.size + 1) 0 [.string s', .slice va G.length vc, .int .i64 l', .int .u32 c, .int .i64 f', .int .i64 t']).setCells (w.heap.size + 1 + 1) 0 [.string s', .slice va G.length vc, .int .i64 l', .int .u32 c, .int .i64 f', .int .i64 t'] = WX at *
  have HX2 : Hid (WX.drew.rangeAt (w.heap.size + 1) 0 [.string s', .slice va G.length vc, .int .i64 l', .int .u32 c, .int .i64 f', .int .i64 t']) := HX
  have HY2 : Hid (WX.drew.rangeAt (w.heap.size + 1 + 1) 0 [.string s', .slice va G.length vc, .int .i64 l', .int .u32 c, .int .i64 f', .int .i64 t']) := HY
  have HBD := Lib.hid HBB.out.drew
  have HFD : Hid (FldsAt WX.drew (.slice va G.length vc) G) := HF9
  clear HX HY HBB HF9
  generalize WX.drew = WD at *
  go_wp2
  refine bodyPost_ret (results_agg22 rfl _ _ (w.heap.size + 1) (w.heap.size + 1 + 1) [.string s', .slice va G.length vc, .int .i64 l', .int .u32 c, .int .i64 f', .int .i64 t'] [.string s', .slice va G.length vc, .int .i64 l', .int .u32 c, .int .i64 f', .int .i64 t'] (.struct _) (.struct _) rfl HX2.out Tryz.underlying53 rfl (by kernel_rfl) rfl HY2.out Tryz.underlying50 rfl (by kernel_rfl)) rfl ?_
  exact ⟨_, rfl, HFD.out, HFF.out, HRF.out, fun h0 q hq => by have := HFAR.out h0 q hq; omega, HBD.out⟩
end Go.Proofs.YtcfococinllcmaaGreat

/- lychgateref01.SameInts. -/
namespace Go.Proofs.YtcfococinllcmaaGreat
open Go.RowKit

set_option maxHeartbeats 1600000 in
set_option maxRecDepth 100000 in
theorem same_ints (xs ys : List Int) (w : World) (u v : Value) (hx : IntsAt w u xs) (hy : IntsAt w v ys) (hl : xs.length ≤ 1000) (hl2 : ys.length ≤ 1000) :
    Calls Tryz.prog 18 #[u, v] w fun e w' => e = .returned (.bool (decide (xs = ys))) ∧ Below w.heap.size w w' := by
  obtain ⟨a, c, rfl, hc, hr⟩ := RdAt.shape hx
  obtain ⟨a', c', rfl, hc', hr'⟩ := RdAt.shape hy
  have HR := Lib.hid hr
  have HR' := Lib.hid hr'
  clear hr hr' hx hy
  by_cases hlen : xs.length = ys.length
  · have hlen' : (xs.length : Int) = (ys.length : Int) := by omega
    have hb0 : ((xs.length : Int) != (ys.length : Int)) = false := by simp [hlen]
    have HLEN := Lib.hid hlen
    clear hlen hlen'
    go_enter Tryz.func18, Tryz.ntmps18
    go_wp2
    go_loopw [5] (fun i wr => ∃ k : Nat, k ≤ xs.length ∧ i = .int .i64 k ∧ Hid (xs.take k = ys.take k) ∧ Below w.heap.size w wr) (fun i _ => xs.length - (intOf i).toNat)
    case atStart => exact ⟨0, Nat.zero_le _, rfl, Lib.hid rfl, Below.refl _ _⟩
    case round =>
      obtain ⟨k, hk, rfl, HT, hbr⟩ := hrel
      by_cases hkl : k < xs.length
      · have hkl2 : k < ys.length := by have := HLEN.out; omega
        obtain ⟨x, hxe⟩ : ∃ x, xs[k] = x := ⟨_, rfl⟩
        obtain ⟨y, hye⟩ : ∃ y, ys[k] = y := ⟨_, rfl⟩
        obtain ⟨b0, o0, rfl, hb0', hcell⟩ := HR.out (by omega)
        obtain ⟨b1, o1, rfl, hb1', hcell'⟩ := HR'.out (by omega)
        have hcr : wr.cell? ⟨b0, o0 + k, none⟩ = some (.int .i64 x) := (hbr.cell (p := ⟨b0, o0 + k, none⟩) hb0').trans (hcell k _ (by rw [List.getElem?_map, List.getElem?_eq_getElem hkl, hxe]; rfl))
        have hcr' : wr.cell? ⟨b1, o1 + k, none⟩ = some (.int .i64 y) := (hbr.cell (p := ⟨b1, o1 + k, none⟩) hb1').trans (hcell' k _ (by rw [List.getElem?_map, List.getElem?_eq_getElem hkl2, hye]; rfl))
        clear hcell hcell'
        by_cases hxy : x = y
        · have HN : Hid (xs.take (k + 1) = ys.take (k + 1)) := take_step HT.out hkl hkl2 (by rw [hxe, hye, hxy])
          have hbx : (x != y) = false := by simp [hxy]
          clear hxy hxe hye
          go_wp2_with fail
          go_region
          all_goals go_wp2
          go_roundw
          case rel => exact ⟨k + 1, by omega, by go_num, HN, bl_drewN hbr 1⟩
          case measure => simp [intOf]; omega
        · have hbx : (x != y) = true := by simp [hxy]
          have HN : Hid (xs ≠ ys) := ne_at hkl hkl2 (by rw [hxe, hye]; exact hxy)
          clear hxy hxe hye
          go_wp2_with fail
          go_region
          all_goals go_wp2
          go_ret
          exact ⟨by rw [decide_eq_false HN.out]; rfl, bl_drewN hbr 1⟩
      · obtain rfl : k = xs.length := by omega
        have HN : Hid (xs = ys) := take_done HLEN.out HT.out
        clear HT
        go_wp2
        go_ret
        exact ⟨by rw [decide_eq_true HN.out]; rfl, hbr⟩
  · have hlen' : ¬ (xs.length : Int) = (ys.length : Int) := by omega
    go_enter Tryz.func18, Tryz.ntmps18
    go_wp2
    go_ret
    exact ⟨by rw [decide_eq_false (fun h => hlen (by rw [h]))]; rfl, Below.refl _ _⟩
end Go.Proofs.YtcfococinllcmaaGreat

/- SilenceForget: the walk. -/
namespace Go.Proofs.YtcfococinllcmaaGreat
open Go.RowKit

namespace lawForget
set_option maxHeartbeats 6400000 in
set_option maxRecDepth 100000 in
theorem walk (lv : Value) (l : List SOp) (av : Value) (x : Al) (fv : Value) (now : Int) (w : World) (hl : ArgOps w lv l) (hx : ArgAl w av x fv) :
    Calls Tryz.prog 9 #[lv, av, .int .i64 now] w fun e w' => e = .returned (.bool true) ∧ Below w.heap.size w w' := by
  obtain ⟨hl1, hl2, -⟩ := hl
  obtain ⟨rfl, hfl, hfit⟩ := hx
  obtain ⟨src, fl, alv, ac, afr, atil⟩ := x
  dsimp only at hfl hfit ⊢
  obtain ⟨hf0, hf1, hf2, hf3⟩ := hfit
  dsimp only at hf0 hf1 hf2 hf3
  have KG := Lib.hid (fun W (hW : Below w.heap.size w W) => good_own src fl fv alv ac afr atil W hf0 (hfl.later hW) hf1 hf2)
  have KE := Lib.hid (fun W => early_any l lv w W hl1 hl2)
  obtain ⟨a0, c0, rfl, -, -⟩ := RdAt.shape hl1.row
  obtain ⟨fa, fc, rfl, -, -⟩ := RdAt.shape hfl
  clear hl1 hl2 hfl hf0 hf1 hf2 hf3
  obtain ⟨W1, h1⟩ : ∃ z, w.alloc (.cells #[.string src, .slice fa fl.length fc, .int .i64 alv, .int .u32 ac, .int .i64 afr, .int .i64 atil] 50) = z := ⟨_, rfl⟩
  have b1 : Below w.heap.size w W1 := by rw [← h1]; exact alloc_below _ _
  have s1 : W1.heap.size = w.heap.size + 1 := by rw [← h1, World.size_alloc]
  have y := alc6 w (.string src) (.slice fa fl.length fc) (.int .i64 alv) (.int .u32 ac) (.int .i64 afr) (.int .i64 atil) 50
  rw [h1] at y
  have HY := Lib.hid y
  have HB := Lib.hid b1
  clear y b1
  have kl := lives_any W1
  go_enter Tryz.func9, Tryz.ntmps9
  go_upto_region 1 with fail
  try rw [h1]
  clear h1
  go_wp2_with fail
  refine kl.mono ?_
  rintro e w1 ⟨rfl, hb⟩
  have HY1 := Lib.hid (HY.out.later hb (by omega))
  have HB1 := Lib.hid (HB.out.trans (hb.mono HB.out.size))
  have hs1 : w.heap.size < w1.heap.size := by have := hb.size; omega
  clear kl hb HY HB s1
  have kn := new_any w1
  go_wp2_with fail
  refine kn.mono ?_
  rintro e w2 ⟨lp, m, rfl, hS, hlp, hm, hb⟩
  have HS2 := Lib.hid hS
  have HY2 := Lib.hid (HY1.out.later hb hs1)
  have HB2 := Lib.hid (HB1.out.trans (hb.mono HB1.out.size))
  have hlp0 : w.heap.size < lp := Nat.lt_of_lt_of_le hs1 hlp
  have hm0 : w.heap.size < m := Nat.lt_of_lt_of_le hs1 hm
  have hs2 : w.heap.size < w2.heap.size := by have := hb.size; omega
  clear kn hS hb HB1 HY1 hlp hm hs1
  have ke := KE.out w2
  go_wp2_with fail
  refine ke.mono ?_
  rintro e w3 ⟨v, rfl, hO, hb⟩
  have HS3 := Lib.hid (HS2.out.later hb)
  have HY3 := Lib.hid (HY2.out.later hb hs2)
  have HB3 := Lib.hid (HB2.out.trans (hb.mono HB2.out.size))
  have hL60 : (l.take 60).length ≤ 60 := by rw [List.length_take]; omega
  have HO := Lib.hid hO
  clear ke hb HS2 HB2 KE HY2 hs2
  generalize l.take 60 = L at *
  obtain ⟨a, c, rfl, hcl, hcell⟩ := ops_cells hO
  have HCELL := Lib.hid hcell
  clear hO hcell
  go_wp2
  go_loopw [8] (fun vi wr => ∃ (k n : Nat) (S : List Sil) (lst : Int), k ≤ L.length ∧ vi = .int .i64 k ∧ 0 ≤ lst ∧ lst ≤ k ∧ n ≤ k ∧ Hid (SlAt wr lp m n S lst) ∧ Hid (C6 w.heap.size (.string src) (.slice fa fl.length fc) (.int .i64 alv) (.int .u32 ac) (.int .i64 afr) (.int .i64 atil) wr) ∧ Hid (Below w.heap.size w wr)) (fun vi _ => L.length - (intOf vi).toNat)
  case atStart => exact ⟨0, 0, [], 0, Nat.zero_le _, rfl, by decide, by decide, Nat.le_refl _, HS3, HY3, HB3⟩
  case round =>
    obtain ⟨k, n, S, lst, hk, rfl, hl0, hlk, hnk, HSR, HYR, HBR⟩ := hrel
    clear HS3 HB3 HY3
    by_cases hkl : k < L.length
    · obtain ⟨b, o, rfl, hbl, hcell⟩ := HCELL.out (by omega)
      have hcell := hcell k hkl
      have hop := (HO.out.each L[k] (List.getElem_mem hkl)).later HBR.out
      have q0 := keep_cell (hcell 0 _ rfl) HBR.out hbl
      have q1 := keep_cell (hcell 1 _ rfl) HBR.out hbl
      have q2 := keep_cell (hcell 2 _ rfl) HBR.out hbl
      have q3 := keep_cell (hcell 3 _ rfl) HBR.out hbl
      have q4 := keep_cell (hcell 4 _ rfl) HBR.out hbl
      have q5 := keep_cell (hcell 5 _ rfl) HBR.out hbl
      have q6 := keep_cell (hcell 6 _ rfl) HBR.out hbl
      have q7 := keep_cell (hcell 7 _ rfl) HBR.out hbl
      have q8 := keep_cell (hcell 8 _ rfl) HBR.out hbl
      rw [Nat.add_zero] at q0
      clear hcell HCELL HO
      generalize L[k] = op at *
      have kd := does_any op lp m n S lst wr HSR.out hop (by omega) (by omega) hl0
      have hk0 : (0 : Int) ≤ (k : Int) := by omega
      have hk1 : (k : Int) < (L.length : Int) := by omega
      unfold SOp.v at kd
      clear hop hbl
      go_wp2_with fail
      refine kd.mono ?_
      rintro e w4 ⟨r, S', last', n', rfl, hD, hS4, hn4, hk4⟩
      have hla := does_last hD
      have HSa := Lib.hid hS4
      have HYa := Lib.hid (c6_kp HYR.out hk4 (by omega) (by omega))
      have HBa := Lib.hid (HBR.out.trans (hk4.below (by omega) (by omega) HBR.out.size))
      clear kd hS4 hD hk4 q0 q1 q2 q3 q4 q5 q6 q7 q8 HSR HYR HBR hk0 hk1
      go_wp2
      go_roundw
      case rel => exact ⟨k + 1, n', S', last', by omega, by go_num, by omega, by omega, by omega, HSa, HYa, HBa⟩
      case measure => (simp [intOf]; try omega)
    · obtain rfl : k = L.length := by omega
      have hn60 : n ≤ 60 := by omega
      clear HCELL HO hkl hk hcl hlk hnk hl0
      have kg := KG.out wr HBR.out
      obtain ⟨y0, y1, y2, y3, y4, y5⟩ := HYR.out
      go_wp2_with fail
      refine kg.mono ?_
      rintro e w4 ⟨v', rfl, hF, hFF, hRF, hfar, hb⟩
      have HS4 := Lib.hid (HSR.out.later hb)
      have HB4 := Lib.hid (HBR.out.trans (hb.mono HBR.out.size))
      have hln : (goodF fl).length ≤ 8 := rightF_len hRF
      have HF4 := Lib.hid hF
      have HFF := Lib.hid hFF
      have hlpr : lp < wr.heap.size := cell_lt HSR.out.h0
      have hmr : m < wr.heap.size := HSR.out.own.lt
      have HFAR : Hid (0 < (goodF fl).length → ∀ q, v'.ownBlock = some q → q ≠ lp ∧ q ≠ m) := Lib.hid (fun h0 q hq => by have := hfar h0 q hq; omega)
      generalize goodF fl = G at *
      generalize gSrc src = s' at *
      generalize gLv alv = l' at *
      generalize gFr afr = f' at *
      generalize gTil afr atil = t' at *
      obtain ⟨ga, gc, rfl, -, -⟩ := RdAt.shape hF
      have hsz4 := hb.size
      clear kg hb HSR HBR HYR KG y0 y1 y2 y3 y4 y5 hF hFF hRF hfar
      obtain ⟨V1, h1⟩ : ∃ z, w4.alloc (.cells #[.string s', .slice ga G.length gc, .int .i64 l', .int .u32 ac, .int .i64 f', .int .i64 t'] 53) = z := ⟨_, rfl⟩
      obtain ⟨V2, h2⟩ : ∃ z, V1.alloc (.cells #[.string s', .slice ga G.length gc, .int .i64 l', .int .u32 ac, .int .i64 f', .int .i64 t'] 50) = z := ⟨_, rfl⟩
      obtain ⟨V3, h3⟩ : ∃ z, V2.alloc (.cells #[.int .i64 7, .int .u32 4294967295] 26) = z := ⟨_, rfl⟩
      have b1 : Below w4.heap.size w4 V1 := by rw [← h1]; exact alloc_below _ _
      have b2 : Below V1.heap.size V1 V2 := by rw [← h2]; exact alloc_below _ _
      have b3 : Below V2.heap.size V2 V3 := by rw [← h3]; exact alloc_below _ _
      have y := alc6 w4 (.string s') (.slice ga G.length gc) (.int .i64 l') (.int .u32 ac) (.int .i64 f') (.int .i64 t') 53
      rw [h1] at y
      have s1 : V1.heap.size = w4.heap.size + 1 := by rw [← h1, World.size_alloc]
      have s2 : V2.heap.size = w4.heap.size + 1 + 1 := by rw [← h2, World.size_alloc, s1]
      have b23 : Below V1.heap.size V1 V3 := b2.trans (b3.mono b2.size)
      have b13 : Below w4.heap.size w4 V3 := b1.trans (b23.mono b1.size)
      have hr3 := Below.refl (V2.alloc (.cells #[.int .i64 7, .int .u32 4294967295] 26)).heap.size (V2.alloc (.cells #[.int .i64 7, .int .u32 4294967295] 26))
      have t0 := box_later hr3 (i := 0) rfl
      have t1 := box_later hr3 (i := 1) rfl
      rw [h3, s2] at t0 t1
      have HY5 := Lib.hid (y.later b23 (by omega))
      have HT5 : Hid (V3.cell? ⟨w4.heap.size + 1 + 1, 0, none⟩ = some (.int .i64 7) ∧ V3.cell? ⟨w4.heap.size + 1 + 1, 1, none⟩ = some (.int .u32 4294967295)) := Lib.hid ⟨t0, t1⟩
      have HS5 := Lib.hid (HS4.out.later b13)
      have HF5 := Lib.hid (HF4.out.later b13)
      have HB5 := Lib.hid (HB4.out.trans (b13.mono HB4.out.size))
      have hV3 : w4.heap.size + 1 + 1 < V3.heap.size := by
        have : V3.heap.size = V2.heap.size + 1 := by rw [← h3, World.size_alloc]
        omega
      clear y b1 b2 b3 b23 b13 hr3 t0 t1 HS4 HF4 HB4
      go_upto_region 11 with fail
      try rw [h1]
      try rw [h2]
      try rw [h3]
      try rw [s1]
      try rw [s2]
      clear h1 h2 h3 s1 s2
      generalize hbx : w4.heap.size = bx at *
      clear hbx
      have hbl : lp ≠ bx ∧ m ≠ bx ∧ lp < bx ∧ m < bx := by omega
      clear hlpr hmr hsz4
      have kq := quiet_own (none, 0, 0) (none, 0, 0) (none, 0, 0) (none, 0, 0) (none, 0, 0) [] (.slice none 0 0) s' G (.slice ga G.length gc) l' ac f' t' 7 4294967295 now lp m n S lst V3 HS5.out (RdAt.nil _ _) (by decide) HF5.out (by omega) HFF.out
      have HQE := Lib.hid (quiet_left [] S G (l', ac) (7, 4294967295) now)
      have hSn : S.length ≤ 60 := by
        have h1 := HS5.out.own.size_le
        rw [DS_size] at h1
        omega
      have hQn : (quietL [] S G (l', ac) (7, 4294967295) now).length ≤ 60 := Nat.le_trans (quiet_len _ _ _ _ _ _) hSn
      unfold SV at kq
      dsimp only at kq
      generalize quietL [] S G (l', ac) (7, 4294967295) now = QL at *
      obtain ⟨y0, y1, y2, y3, y4, y5⟩ := HY5.out
      obtain ⟨t0, t1⟩ := HT5.out
      go_wp2_with fail
      refine kq.mono ?_
      rintro e w5 ⟨v1, rfl, hI, hb, hfar⟩
      have HI6 := Lib.hid hI
      have HFQ : Hid (∀ q, v1.ownBlock = some q → q ≠ lp ∧ q ≠ m) := Lib.hid (fun q hq => by have := hfar q hq; omega)
      obtain ⟨ia, ic, rfl, -, -⟩ := RdAt.shape hI
      have HY6 := Lib.hid (HY5.out.later hb (by omega))
      have HT6 : Hid (w5.cell? ⟨bx + 1 + 1, 0, none⟩ = some (.int .i64 7) ∧ w5.cell? ⟨bx + 1 + 1, 1, none⟩ = some (.int .u32 4294967295)) := Lib.hid ⟨keep_cell t0 hb (by omega), keep_cell t1 hb (by omega)⟩
      have HS6 := Lib.hid (HS5.out.later hb)
      have HF6 := Lib.hid (HF5.out.later hb)
      have HB6 := Lib.hid (HB5.out.trans (hb.mono HB5.out.size))
      have hz6 : bx + 1 + 1 < w5.heap.size := by have := hb.size; omega
      clear kq hI hfar hb HY5 HT5 HS5 HF5 HB5 hV3 y0 y1 y2 y3 y4 y5 t0 t1
      have kn := num_any lp m n S lst w5 HS6.out
      go_wp2_with fail
      refine kn.mono ?_
      rintro e w6 ⟨v2, rfl, hrow, hb⟩
      obtain ⟨na, nc, rfl, -, -⟩ := RdAt.shape (RdAt.own hrow)
      have HI7 := Lib.hid (HI6.out.later hb)
      have HY7 := Lib.hid (HY6.out.later hb (by omega))
      have HT7 : Hid (w6.cell? ⟨bx + 1 + 1, 0, none⟩ = some (.int .i64 7) ∧ w6.cell? ⟨bx + 1 + 1, 1, none⟩ = some (.int .u32 4294967295)) := Lib.hid ⟨keep_cell HT6.out.1 hb hz6, keep_cell HT6.out.2 hb hz6⟩
      have HS7 := Lib.hid (HS6.out.later hb)
      have HF7 := Lib.hid (HF6.out.later hb)
      have HB7 := Lib.hid (HB6.out.trans (hb.mono HB6.out.size))
      clear kn hrow hb HI6 HY6 HT6 HS6 HF6 HB6
      have kf := forget_any lp m n S lst now w6 HS7.out
      have HCT := Lib.hid (left_count S now)
      have HC0 := Lib.hid (left_none S now)
      have HTL := Lib.hid (left_til S now)
      generalize (S.filter fun s => !endS now s) = S2 at *
      have hct : S.countP (endS now) ≤ 60 := by have := HCT.out; omega
      have hs2 : S2.length ≤ 60 := by have := HCT.out; omega
      generalize S.countP (endS now) = C at *
      go_wp2_with fail
      refine kf.mono ?_
      rintro e w7 ⟨rfl, hS8, hk⟩
      have HI8 := Lib.hid (ints_kp HI7.out hk HFQ.out)
      have HY8 := Lib.hid (c6_kp HY7.out hk (by omega) (by omega))
      have HT8 : Hid (w7.cell? ⟨bx + 1 + 1, 0, none⟩ = some (.int .i64 7) ∧ w7.cell? ⟨bx + 1 + 1, 1, none⟩ = some (.int .u32 4294967295)) := Lib.hid ⟨hk.cell HT7.out.1 (by omega) (by omega), hk.cell HT7.out.2 (by omega) (by omega)⟩
      have HS8 := Lib.hid hS8
      have HF8 : Hid (FldsAt w7 (.slice ga G.length gc) G) := Lib.hid (rd_kp HF7.out hk HFAR.out)
      have HB8 := Lib.hid (HB7.out.trans (hk.below (by omega) (by omega) HB7.out.size))
      have hz8 : bx + 1 + 1 < w7.heap.size := cell_lt HT8.out.1
      clear kf hS8 hk HI7 HY7 HT7 HS7 HF7 HB7 hz6 HFQ HFAR
      have kn := num_any lp m n S2 lst w7 HS8.out
      go_wp2_with fail
      refine kn.mono ?_
      rintro e w8 ⟨v3, rfl, hrow, hb⟩
      have hi3 : IntsAt w8 v3 (S2.map (·.id)) := by
        have := RdAt.own hrow
        unfold IntsAt
        rw [List.length_map]
        exact this
      obtain ⟨va, vc, rfl, hvc, hids⟩ := ids_cells hi3
      have HIDS := Lib.hid hids
      have HI9 := Lib.hid (HI8.out.later hb)
      have HY9 := Lib.hid (HY8.out.later hb (by omega))
      have HT9 : Hid (w8.cell? ⟨bx + 1 + 1, 0, none⟩ = some (.int .i64 7) ∧ w8.cell? ⟨bx + 1 + 1, 1, none⟩ = some (.int .u32 4294967295)) := Lib.hid ⟨keep_cell HT8.out.1 hb hz8, keep_cell HT8.out.2 hb hz8⟩
      have HS9 := Lib.hid (HS8.out.later hb)
      have HF9 := Lib.hid (HF8.out.later hb)
      have HB9 := Lib.hid (HB8.out.trans (hb.mono HB8.out.size))
      have hz9 : bx + 1 + 1 < w8.heap.size := by have := hb.size; omega
      clear kn hrow hb HI8 HY8 HT8 HS8 HF8 HB8 hids hi3 hz8
      obtain ⟨M, hMe⟩ : ∃ M, S2.length = M := ⟨_, rfl⟩
      have HME := Lib.hid hMe
      rw [hMe] at hvc hs2 HCT ⊢
      clear hMe
      go_wp2
      go_loopw [16] (fun vi wr => ∃ j : Nat, j ≤ M ∧ vi = .int .i64 j ∧ Hid (Below w8.heap.size w8 wr)) (fun vi _ => M - (intOf vi).toNat)
      case atStart => exact ⟨0, Nat.zero_le _, rfl, Lib.hid (Below.refl _ _)⟩
      case round =>
        obtain ⟨j, hj, rfl, HW⟩ := hrel
        by_cases hjM : j < M
        · have hjS : j < S2.length := by rw [HME.out]; exact hjM
          obtain ⟨ib, io, rfl, hib, hic⟩ := HIDS.out (by omega)
          have q0 := keep_cell (hic j hjS) HW.out hib
          have kg := get_is lp m n S2 lst wr (HS9.out.later HW.out) j hjS
          have htl := HTL.out _ (List.getElem_mem hjS)
          have hj0 : (0 : Int) ≤ (j : Int) := by omega
          have hj1 : (j : Int) < (M : Int) := by omega
          generalize S2[j] = sj at *
          obtain ⟨sid, smv, sms, sfr, stil, slv, sc⟩ := sj
          dsimp only at kg q0 htl
          clear hic HIDS
          go_wp2_with fail
          refine kg.mono ?_
          rintro e wa ⟨⟨mva, mvn, mvc⟩, rfl, hb⟩
          have hWa := HW.out.trans (hb.mono HW.out.size)
          clear kg hb q0
          dsimp only
          have hba := alloc_below wa (.cells #[.slice mva mvn mvc, .int .i64 sfr, .int .i64 stil, .int .i64 slv, .int .u32 sc] 67)
          have x := alc5 wa (.slice mva mvn mvc) (.int .i64 sfr) (.int .i64 stil) (.int .i64 slv) (.int .u32 sc) 67
          go_upto_region 18 with fail
          change Code.wp _ _ _ _ (wa.alloc (.cells #[.slice mva mvn mvc, .int .i64 sfr, .int .i64 stil, .int .i64 slv, .int .u32 sc] 67))
          generalize wa.alloc (.cells #[.slice mva mvn mvc, .int .i64 sfr, .int .i64 stil, .int .i64 slv, .int .u32 sc] 67) = wb at *
          have HWb := Lib.hid (hWa.trans (hba.mono hWa.size))
          obtain ⟨-, -, x2, -, -⟩ := x
          clear hba hWa HW
          go_wp2
          go_roundw
          case rel => exact ⟨j + 1, by omega, by go_num, HWb⟩
          case measure => (simp [intOf]; try omega)
        · obtain rfl : j = M := by omega
          have hsum : ((C : Int) + (j : Int)) = (S.length : Int) := by have := HCT.out; omega
          have hw2 : wrap64 (S.length : Int) = (S.length : Int) := IntWalk.wrap64_in _ ⟨by omega, by omega⟩
          have hw : wrap64 ((C : Int) + (j : Int)) = (S.length : Int) := by rw [hsum]; exact hw2
          have HSX := HS9.out.later HW.out
          have HFX := HF9.out.later HW.out
          have HIX := Lib.hid (HI9.out.later HW.out)
          have HBX := Lib.hid (HB9.out.trans (HW.out.mono HB9.out.size))
          have kq := quiet_own (none, 0, 0) (none, 0, 0) (none, 0, 0) (none, 0, 0) (none, 0, 0) [] (.slice none 0 0) s' G (.slice ga G.length gc) l' ac f' t' 7 4294967295 now lp m n S2 lst wr HSX (RdAt.nil _ _) (by decide) HFX (by omega) HFF.out
          have HSX := Lib.hid HSX
          rw [HQE.out] at kq
          unfold SV at kq
          dsimp only at kq
          obtain ⟨y0, y1, y2, y3, y4, y5⟩ := HY9.out.later HW.out (by omega)
          have t0 := keep_cell HT9.out.1 HW.out hz9
          have t1 := keep_cell HT9.out.2 HW.out hz9
          have hbq : (((C : Int) + (j : Int)) == (S.length : Int)) = true := by rw [hsum]; exact beq_self_eq_true _
          clear HFX HS9 HF9 HI9 HB9 HY9 HT9 HW HIDS
          go_wp2_with fail
          refine kq.mono ?_
          rintro e wa ⟨v5, rfl, hI5, hb, -⟩
          obtain ⟨ja, jc, rfl, -, -⟩ := RdAt.shape hI5
          have ks := same_ints QL QL wa _ _ (HIX.out.later hb) hI5 (Nat.le_trans hQn (by decide)) (Nat.le_trans hQn (by decide))
          rw [decide_eq_true rfl] at ks
          have HSY := Lib.hid (HSX.out.later hb)
          have HBY := Lib.hid (HBX.out.trans (hb.mono HBX.out.size))
          clear kq hI5 hb HSX HBX y0 y1 y2 y3 y4 y5 t0 t1
          go_wp2_with fail
          refine ks.mono ?_
          rintro e wb ⟨rfl, hb⟩
          have kf := forget_any lp m n S2 lst now wb (HSY.out.later hb)
          rw [HC0.out] at kf
          have HBZ := Lib.hid (HBY.out.trans (hb.mono HBY.out.size))
          clear ks hb
          go_wp2_with fail
          refine kf.mono ?_
          rintro e wc ⟨rfl, -, hk⟩
          have HBU := Lib.hid (HBZ.out.trans (hk.below (by omega) (by omega) HBZ.out.size))
          clear kf hk
          go_wp2
          go_ret
          exact ⟨rfl, HBU.out⟩
end lawForget
end Go.Proofs.YtcfococinllcmaaGreat

/- SilenceForget: the card: whatever the arguments, the law returns true and its arguments read as they did. No condition. -/
namespace Go.Proofs.YtcfococinllcmaaGreat.lawForget
open Go.ChangeShapes Go.WideShapes Go.ChangeAt Go.RowKit
open Go.ChangeMaps (open_string)

set_option maxRecDepth 100000 in
theorem contract (H : Type) (enc : TypeId × Value → H) (W : World) (base : Nat) (args : Array Value) (ds gs : List (DataW H)) (before : List MemPlace)
    (hval : ∀ (j : Nat) t v, Tryz.f9.params[j]? = some t → args[j]? = some v → Value.okWide Tryz.prog W .any base t v)
    (hW : DataW.Whole enc Tryz.prog Tryz.f9.params.toList Rows.silenceForgetSpec.vars false W args.toList ds gs before) :
    Calls Tryz.prog 9 args W fun e W' => ∃ v, e = .returned v ∧ Rows.silenceForgetSpec.post enc Tryz.prog Tryz.f9 false true false false W args v W' := by
  have hW' := hW
  obtain ⟨p, q, hA0, hV, rfl, hfz, hnd⟩ := hW
  have hA : DataW.TrodAll enc Tryz.prog W 0 (fun _ => true) true Tryz.f9.params.toList args.toList ds p := hA0
  rw [Tryz.params9] at hA hval
  obtain ⟨v0, vs0, d0, ds0, p0, q0, hargs, rfl, rfl, h0, r0⟩ := trodAll_cons hA
  obtain ⟨v1, vs1, d1, ds1, p1, q1, rfl, rfl, rfl, h1, r1⟩ := trodAll_cons r0
  obtain ⟨v2, vs2, d2, ds2, p2, q2, rfl, rfl, rfl, h2, r2⟩ := trodAll_cons r1
  obtain ⟨rfl, rfl, rfl⟩ := trodAll_nil r2
  obtain rfl : args = #[v0, v1, v2] := by cases args; simp_all
  obtain ⟨rfl, rfl⟩ := trodVars_none hV
  obtain ⟨x0, hx0⟩ := ops_of_arg (hval 0 47 v0 rfl rfl) h0
  obtain ⟨x1, y1, hx1⟩ := al_of_arg (hval 1 50 v1 rfl rfl) h1
  obtain ⟨x2, rfl, rfl, rfl, wx2⟩ := open_int Tryz.underlying3 (hval 2 3 v2 rfl rfl) h2
  clear hA0
  refine (walk v0 x0 v1 x1 y1 x2 W hx0 hx1).mono ?_
  rintro e W' ⟨rfl, hb⟩
  exact ⟨_, rfl, law_post laidOut Tryz.underlying4 rfl rfl (by kernel_rfl) hW' rfl rfl rfl hb⟩

theorem laid_met (os : Os) : laidMet Tryz.prog Rows.silenceForgetRow.laid ((laidWorld os).forCall (fun _ _ => 0) ⟨#[], #[.slice none 0 0, .agg #[.string ⟨#[]⟩, .slice none 0 0, .int .i64 0, .int .u32 0, .int .i64 0, .int .i64 0], .int .i64 0], []⟩).memory :=
  ⟨[], rfl, List.nodup_nil, fun _ _ h => by cases h⟩
theorem reads (os : Os) {H : Type} (enc : TypeId × Value → H) : ∃ places, DataW.whole enc Tryz.prog ((laidWorld os).forCall (fun _ _ => 0) ⟨#[], #[.slice none 0 0, .agg #[.string ⟨#[]⟩, .slice none 0 0, .int .i64 0, .int .u32 0, .int .i64 0, .int .i64 0], .int .i64 0], []⟩).memory Tryz.f9.params.toList Rows.silenceForgetSpec.vars false (#[.slice none 0 0, .agg #[.string ⟨#[]⟩, .slice none 0 0, .int .i64 0, .int .u32 0, .int .i64 0, .int .i64 0], .int .i64 0] : Array Value).toList 8 = some ([.nil, .agg [.lit (.string []), .nil, .agg [.lit (.int .i64 0), .lit (.int .u32 0)], .lit (.int .i64 0), .lit (.int .i64 0)], .lit (.int .i64 0)], [], places) :=
  ⟨[], by kernel_rfl⟩

set_option maxRecDepth 100000 in
theorem lifted (os : Os) (started : os.Started) (H : Type) (enc : TypeId × Value → H) (F : Stop.Interp) :
    ReturnsInHanded {} Tryz.checked os 9 .any ((OpenSpec.ofChange Rows.silenceForgetSpec).preRow enc Tryz.prog Tryz.f9 Rows.silenceForgetRow.domain false Rows.silenceForgetRow.laid) (((OpenSpec.ofChange Rows.silenceForgetSpec).at F).post enc Tryz.prog Tryz.f9 false true false false) := by
  obtain ⟨places, hx⟩ := reads os enc
  refine returnsInHanded_of_row (C := Tryz.checked) (s := OpenSpec.ofChange Rows.silenceForgetSpec) ownNone started (by kernel_rfl) Tryz.func9
    (witness_row_at (enc := enc) (C := Tryz.checked) false (laidWorld os) #[.slice none 0 0, .agg #[.string ⟨#[]⟩, .slice none 0 0, .int .i64 0, .int .u32 0, .int .i64 0, .int .i64 0], .int .i64 0] rfl (by kernel_rfl) (by kernel_rfl) (by kernel_rfl)
      (OpenSpec.preRow_of_cond 8 hx (by kernel_rfl) (fun k hk => by cases hk) (by kernel_rfl) (laid_met os))) ?_
  intro W base args ds gs before hval hW _ _ _ _ _ _
  exact contract H enc W base args ds gs before hval hW

theorem said : Rows.SilenceForgetSaid :=
  OpenClaim.holds_of_cond 9 Tryz.f9 rfl rfl rfl rfl rfl rfl rfl ⟨rfl, rfl, rfl, rfl, rfl⟩ rfl rfl rfl rfl rfl (by kernel_rfl) Tryz.func9 (by kernel_rfl)
    (of_decide_eq_true (by kernel_rfl)) (by unfold Func.isWrapper; first | (rw [if_pos (by decide +kernel)]; kernel_rfl) | (rw [if_neg (by decide +kernel)]; exact ⟨rfl, rfl⟩))
    (fun os started H enc _ F => by rw [OpenClaim.pre_eq_preRow]; exact lifted os started H enc F)

end Go.Proofs.YtcfococinllcmaaGreat.lawForget

