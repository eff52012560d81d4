/- SilencePlays: the card: whatever the arguments, the law returns true and its arguments read as they did. No condition. -/
import Derived.Test.YtcfococinllcmaaGreatTopSilencePlaysCardP3
import Derived.Deep.LoopGhost

/- silences: Quiet. -/
namespace Go.Proofs.YtcfococinllcmaaGreat
open Go.RowKit Go.Maps
noncomputable def quietS (fl : List Fld) (t : Int × Nat) (now : Int) (s : Sil) : Bool := flowsL s.lv s.c t.1 t.2 && decide (s.fr ≤ now) && decide (now < s.til) && allM fl s.ms
structure QAt (w : World) (b1 b2 b3 b4 lp : Nat) (t : Int × Nat) (now : Int) (fl : List Fld) (fv : Value) : Prop where
  c1 : w.cell? ⟨b1, 0, none⟩ = some (.pointer (some ⟨lp, 0, none⟩))
  c2 : w.cell? ⟨b2, 0, none⟩ = some (.int .i64 t.1)
  c3 : w.cell? ⟨b2, 1, none⟩ = some (.int .u32 t.2)
  c4 : w.cell? ⟨b3, 0, none⟩ = some (.int .i64 now)
  c5 : w.cell? ⟨b4, 1, none⟩ = some fv
  fl : FldsAt w fv fl
theorem QAt.later {w w' : World} {b1 b2 b3 b4 lp : Nat} {t : Int × Nat} {now : Int} {fl : List Fld} {fv : Value} (h : QAt w b1 b2 b3 b4 lp t now fl fv) (hb : Below w.heap.size w w') : QAt w' b1 b2 b3 b4 lp t now fl fv :=
  ⟨keep_cell h.c1 hb (cell_lt h.c1), keep_cell h.c2 hb (cell_lt h.c2), keep_cell h.c3 hb (cell_lt h.c3), keep_cell h.c4 hb (cell_lt h.c4), keep_cell h.c5 hb (cell_lt h.c5), h.fl.later hb⟩
set_option maxHeartbeats 3200000 in
set_option maxRecDepth 100000 in
theorem qclos (b1 b2 b3 b4 lp m n : Nat) (t : Int × Nat) (now : Int) (fl : List Fld) (fv : Value) (S : List Sil) (last : Int) (s : Sil) (w : World) (h : SlAt w lp m n S last) (hs : s ∈ S) (hq : QAt w b1 b2 b3 b4 lp t now fl fv) (hl : fl.length ≤ 1000000000000) (hfit : FldsFit fl) :
    Calls Tryz.prog 65 #[.int .i64 s.id, .pointer (some ⟨b1, 0, none⟩), .pointer (some ⟨b2, 0, none⟩), .pointer (some ⟨b3, 0, none⟩), .pointer (some ⟨b4, 0, none⟩)] w fun e w' => e = .returned (.bool (!(quietS fl t now s))) ∧ Below w.heap.size w w' := by
  have hr := (look_some h hs).2
  unfold Sil.v at hr
  have l0 := h.h0
  have hb := alloc_below w (.cells #[.slice s.mv.1 s.mv.2.1 s.mv.2.2, .int .i64 s.fr, .int .i64 s.til, .int .i64 s.lv, .int .u32 s.c] 67)
  have x := alc5 w (.slice s.mv.1 s.mv.2.1 s.mv.2.2) (.int .i64 s.fr) (.int .i64 s.til) (.int .i64 s.lv) (.int .u32 s.c) 67
  obtain ⟨W1, hW1⟩ : ∃ z, w.alloc (.cells #[.slice s.mv.1 s.mv.2.1 s.mv.2.2, .int .i64 s.fr, .int .i64 s.til, .int .i64 s.lv, .int .u32 s.c] 67) = z := ⟨_, rfl⟩
  rw [hW1] at hb x
  obtain ⟨m1, m2, m3, _⟩ := h.ms s hs
  have hq0 := hq.c1
  have HQ1 := Lib.hid (hq.later hb)
  have HX1 := Lib.hid x
  have HB1 := Lib.hid hb
  have k1 := flows_any s.lv s.c t.1 t.2 W1
  have k2 := fun W (hW : Below w.heap.size w W) => all_any fl s.ms fv (SV s.mv) W (hq.fl.later hW) hl hfit (m1.later hW) (by omega) m2
  unfold SV at k2
  have HE : Hid ((!(quietS fl t now s)) = !(flowsL s.lv s.c t.1 t.2 && decide (s.fr ≤ now) && decide (now < s.til) && allM fl s.ms)) := Lib.hid rfl
  generalize quietS fl t now s = R at *
  generalize allM fl s.ms = AL at *
  generalize flowsL s.lv s.c t.1 t.2 = FL at *
  have K2 := Lib.hid k2
  obtain ⟨fa, fc, rfl, _, _⟩ := RdAt.shape hq.fl
  generalize fl.length = fn at *
  clear h hs hq hfit hb x m1 m2 m3 k2
  go_enter Tryz.func65, Tryz.ntmps65
  go_upto_region 2 with fail
  clear hW1 hr l0 hq0
  obtain ⟨x0, x1, x2, x3, x4⟩ := HX1.out
  obtain ⟨q1, q2, q3, q4, q5, _⟩ := HQ1.out
  go_wp2_with fail
  refine k1.mono ?_
  rintro e w2 ⟨rfl, hb2⟩
  have HX2 := Lib.hid (HX1.out.later hb2)
  have HQ2 := Lib.hid (HQ1.out.later hb2)
  have HB2 := Lib.hid (HB1.out.trans (hb2.mono HB1.out.size))
  clear k1 hb2 HX1 HQ1 HB1 x0 x1 x2 x3 x4 q1 q2 q3 q4 q5
  obtain ⟨x0, x1, x2, x3, x4⟩ := HX2.out
  obtain ⟨q1, q2, q3, q4, q5, _⟩ := HQ2.out
  cases FL with
  | false =>
    go_wp2
    go_ret
    exact ⟨by rw [HE.out]; rfl, HB2.out⟩
  | true =>
  by_cases h1 : s.fr ≤ now
  case neg =>
    rw [decide_eq_false h1] at HE
    go_wp2
    go_ret
    exact ⟨by rw [HE.out]; rfl, HB2.out⟩
  rw [decide_eq_true h1] at HE
  by_cases h2 : now < s.til
  case neg =>
    rw [decide_eq_false h2] at HE
    go_wp2
    go_ret
    exact ⟨by rw [HE.out]; rfl, HB2.out⟩
  rw [decide_eq_true h2] at HE
  have HD1 : Hid (decide (now < s.fr) = false) := Lib.hid (decide_eq_false (by omega))
  have HD2 : Hid (decide (s.til ≤ now) = false) := Lib.hid (decide_eq_false (by omega))
  have k2 := K2.out w2 HB2.out
  go_wp2_with fail
  refine k2.mono ?_
  rintro e w3 ⟨rfl, hb3⟩
  have HB3 := Lib.hid (HB2.out.trans (hb3.mono HB2.out.size))
  clear k2 hb3
  go_wp2
  go_ret
  refine ⟨?_, HB3.out⟩
  show Ending.returned (.bool (decide (now < s.fr) || decide (s.til ≤ now) || !AL)) = _
  rw [HD1.out, HD2.out, HE.out]
  cases AL <;> rfl
noncomputable def offS (S : List Sil) (fl : List Fld) (t : Int × Nat) (now : Int) (id : Int) : Bool := match S.find? fun s => s.id == id with
  | some s => !(quietS fl t now s)
  | none => true
theorem find_self {S : List Sil} (h : UpS S) {s : Sil} (hs : s ∈ S) : (S.find? fun u => u.id == s.id) = some s := by
  induction S with
  | nil => cases hs
  | cons u S ih =>
    obtain ⟨h1, h2⟩ := List.pairwise_cons.1 h
    rcases List.mem_cons.1 hs with rfl | hs'
    · simp
    · have hne : (u.id == s.id) = false := by rw [beq_eq_false_iff_ne]; have := h1 s hs'; omega
      rw [List.find?_cons, hne]
      exact ih h2 hs'
theorem off_ids {S : List Sil} (h : UpS S) (fl : List Fld) (t : Int × Nat) (now : Int) : (S.map (·.id)).filter (fun x => !(offS S fl t now x)) = (S.filter fun s => quietS fl t now s).map (·.id) := by
  rw [List.filter_map]
  congr 1
  apply List.filter_congr
  intro s hs
  simp only [Function.comp]
  unfold offS
  rw [find_self h hs]
  simp
noncomputable def quietL (rs : List Nmd) (S : List Sil) (fl : List Fld) (f t : Int × Nat) (now : Int) : List Int :=
  if cutOk rs fl f t = true then (S.filter fun s => quietS (visL rs fl f t) t now s).map (·.id) else []
structure QuBox (w W : World) (pv : Value) (p0 p1 p2 p3 p4 p5 a0 a1 a2 a3 a4 a5 l0 l1 : Value) (now : Int) : Prop where
  b1 : W.cell? ⟨w.heap.size, 0, none⟩ = some pv
  p : C6 (w.heap.size + 1) p0 p1 p2 p3 p4 p5 W
  a : C6 (w.heap.size + 1 + 1) a0 a1 a2 a3 a4 a5 W
  l0 : W.cell? ⟨w.heap.size + 1 + 1 + 1, 0, none⟩ = some l0
  l1 : W.cell? ⟨w.heap.size + 1 + 1 + 1, 1, none⟩ = some l1
  n : W.cell? ⟨w.heap.size + 1 + 1 + 1 + 1, 0, none⟩ = some (.int .i64 now)
  lt : w.heap.size + 1 + 1 + 1 + 1 < W.heap.size
  below : Below w.heap.size w W
theorem QuBox.later {w W W' : World} {pv : Value} {p0 p1 p2 p3 p4 p5 a0 a1 a2 a3 a4 a5 l0 l1 : Value} {now : Int} (h : QuBox w W pv p0 p1 p2 p3 p4 p5 a0 a1 a2 a3 a4 a5 l0 l1 now) (hb : Below W.heap.size W W') : QuBox w W' pv p0 p1 p2 p3 p4 p5 a0 a1 a2 a3 a4 a5 l0 l1 now := by
  have hl := h.lt
  exact ⟨keep_cell h.b1 hb (by omega), h.p.later hb (by omega), h.a.later hb (by omega), keep_cell h.l0 hb (by omega), keep_cell h.l1 hb (by omega), keep_cell h.n hb (by omega), Nat.lt_of_lt_of_le hl hb.size, h.below.trans (hb.mono h.below.size)⟩
theorem quBox (w : World) (pv : Value) (p0 p1 p2 p3 p4 p5 a0 a1 a2 a3 a4 a5 l0 l1 : Value) (now : Int) (t u s q r : TypeId) :
    QuBox w (((((w.alloc (.cells #[pv] t)).alloc (.cells #[p0, p1, p2, p3, p4, p5] u)).alloc (.cells #[a0, a1, a2, a3, a4, a5] s)).alloc (.cells #[l0, l1] q)).alloc (.cells #[.int .i64 now] r)) pv p0 p1 p2 p3 p4 p5 a0 a1 a2 a3 a4 a5 l0 l1 now := by
  obtain ⟨W1, h1⟩ : ∃ z, w.alloc (.cells #[pv] t) = z := ⟨_, rfl⟩
  obtain ⟨W2, h2⟩ : ∃ z, W1.alloc (.cells #[p0, p1, p2, p3, p4, p5] u) = z := ⟨_, rfl⟩
  obtain ⟨W3, h3⟩ : ∃ z, W2.alloc (.cells #[a0, a1, a2, a3, a4, a5] s) = z := ⟨_, rfl⟩
  obtain ⟨W4, h4⟩ : ∃ z, W3.alloc (.cells #[l0, l1] q) = z := ⟨_, rfl⟩
  obtain ⟨W5, h5⟩ : ∃ z, W4.alloc (.cells #[.int .i64 now] r) = z := ⟨_, rfl⟩
  rw [h1, h2, h3, h4, h5]
  have s1 : W1.heap.size = w.heap.size + 1 := by rw [← h1, World.size_alloc]
  have s2 : W2.heap.size = w.heap.size + 1 + 1 := by rw [← h2, World.size_alloc, s1]
  have s3 : W3.heap.size = w.heap.size + 1 + 1 + 1 := by rw [← h3, World.size_alloc, s2]
  have s4 : W4.heap.size = w.heap.size + 1 + 1 + 1 + 1 := by rw [← h4, World.size_alloc, s3]
  have s5 : W5.heap.size = w.heap.size + 1 + 1 + 1 + 1 + 1 := by rw [← h5, World.size_alloc, s4]
  have b1 : Below w.heap.size w W1 := by rw [← h1]; exact alloc_below _ _
  have b2 : Below W1.heap.size W1 W2 := by rw [← h2]; exact alloc_below _ _
  have b3 : Below W2.heap.size W2 W3 := by rw [← h3]; exact alloc_below _ _
  have b4 : Below W3.heap.size W3 W4 := by rw [← h4]; exact alloc_below _ _
  have b5 : Below W4.heap.size W4 W5 := by rw [← h5]; exact alloc_below _ _
  have c45 : Below W4.heap.size W4 W5 := b5
  have c35 : Below W3.heap.size W3 W5 := b4.trans (c45.mono (by omega))
  have c25 : Below W2.heap.size W2 W5 := b3.trans (c35.mono (by omega))
  have c15 : Below W1.heap.size W1 W5 := b2.trans (c25.mono (by omega))
  have g1 : Below (w.alloc (.cells #[pv] t)).heap.size (w.alloc (.cells #[pv] t)) W5 := by rw [h1]; exact c15
  have g2 : Below (W1.alloc (.cells #[p0, p1, p2, p3, p4, p5] u)).heap.size (W1.alloc (.cells #[p0, p1, p2, p3, p4, p5] u)) W5 := by rw [h2]; exact c25
  have g3 : Below (W2.alloc (.cells #[a0, a1, a2, a3, a4, a5] s)).heap.size (W2.alloc (.cells #[a0, a1, a2, a3, a4, a5] s)) W5 := by rw [h3]; exact c35
  have g4 : Below (W3.alloc (.cells #[l0, l1] q)).heap.size (W3.alloc (.cells #[l0, l1] q)) W5 := by rw [h4]; exact c45
  have g5 : Below (W4.alloc (.cells #[.int .i64 now] r)).heap.size (W4.alloc (.cells #[.int .i64 now] r)) W5 := by rw [h5]; exact Below.refl _ _
  exact ⟨box_later g1 rfl,
    by rw [← s1]; exact ⟨box_later g2 rfl, box_later g2 rfl, box_later g2 rfl, box_later g2 rfl, box_later g2 rfl, box_later g2 rfl⟩,
    by rw [← s2]; exact ⟨box_later g3 rfl, box_later g3 rfl, box_later g3 rfl, box_later g3 rfl, box_later g3 rfl, box_later g3 rfl⟩,
    by rw [← s3]; exact box_later g4 rfl, by rw [← s3]; exact box_later g4 rfl, by rw [← s4]; exact box_later g5 rfl, by omega, b1.trans (c15.mono (by omega))⟩
set_option maxHeartbeats 3200000 in
set_option maxRecDepth 100000 in
theorem quiet_any (s0 s1 s2 s4 s5 : Option Addr × Nat × Nat) (rs : List Nmd) (rv : Value) (src : ByteArray) (fl : List Fld) (fv : Value) (lv : Int) (c : Nat) (fr til : Int) (tl : Int) (tc : Nat) (now : Int) (lp m n : Nat) (S : List Sil) (last : Int) (w : World)
    (h : SlAt w lp m n S last) (hv : NmdsAt w rv rs) (hl : rs.length ≤ maxLen) (hf : FldsAt w fv fl) (hfl : fl.length ≤ 1000000000000) (hfit : FldsFit fl) :
    Calls Tryz.prog 29 #[.pointer (some ⟨lp, 0, none⟩), .agg #[SV s0, SV s1, SV s2, rv, SV s4, SV s5], .agg #[.string src, fv, .int .i64 lv, .int .u32 c, .int .i64 fr, .int .i64 til], Lab tl tc, .int .i64 now] w fun e w' =>
      ∃ v', e = .returned v' ∧ IntsAt w' v' (quietL rs S fl (lv, c) (tl, tc) now) ∧ Below w.heap.size w w' := by
  obtain ⟨ra, rc, rfl, _, _⟩ := RdAt.shape hv
  obtain ⟨fa, fc, rfl, _, _⟩ := RdAt.shape hf
  have k1 := fun W (hb : Below w.heap.size w W) => cut_any s0 s1 s2 s4 s5 rs (.slice ra rs.length rc) src fl (.slice fa fl.length fc) lv c fr til tl tc W (hv.later hb) hl (hf.later hb) hfl
  obtain ⟨a0, n0, c0⟩ := s0
  obtain ⟨a1, n1, c1⟩ := s1
  obtain ⟨a2, n2, c2⟩ := s2
  obtain ⟨a4, n4, c4⟩ := s4
  obtain ⟨a5, n5, c5⟩ := s5
  have hX := quBox w (.pointer (some ⟨lp, 0, none⟩)) (.slice a0 n0 c0) (.slice a1 n1 c1) (.slice a2 n2 c2) (.slice ra rs.length rc) (.slice a4 n4 c4) (.slice a5 n5 c5) (.string src) (.slice fa fl.length fc) (.int .i64 lv) (.int .u32 c) (.int .i64 fr) (.int .i64 til) (.int .i64 tl) (.int .u32 tc) now 51 76 53 26 3
  obtain ⟨W0, hW0⟩ : ∃ z, (((((w.alloc (.cells #[.pointer (some ⟨lp, 0, none⟩)] 51)).alloc (.cells #[.slice a0 n0 c0, .slice a1 n1 c1, .slice a2 n2 c2, .slice ra rs.length rc, .slice a4 n4 c4, .slice a5 n5 c5] 76)).alloc (.cells #[.string src, .slice fa fl.length fc, .int .i64 lv, .int .u32 c, .int .i64 fr, .int .i64 til] 53)).alloc (.cells #[.int .i64 tl, .int .u32 tc] 26)).alloc (.cells #[.int .i64 now] 3)) = z := ⟨_, rfl⟩
  rw [hW0] at hX
  have HX := Lib.hid hX
  have H := Lib.hid h
  have k1 := k1 W0 hX.below
  have HQL : Hid (quietL rs S fl (lv, c) (tl, tc) now = if cutOk rs fl (lv, c) (tl, tc) = true then (S.filter fun s => quietS (visL rs fl (lv, c) (tl, tc)) (tl, tc) now s).map (·.id) else []) := Lib.hid rfl
  have hvl : (visL rs fl (lv, c) (tl, tc)).length ≤ fl.length := List.length_filter_le _ _
  have hvf : FldsFit (visL rs fl (lv, c) (tl, tc)) := fun x hx => hfit x (List.mem_filter.1 hx).1
  have HVF := Lib.hid hvf
  generalize visL rs fl (lv, c) (tl, tc) = V at *
  generalize cutOk rs fl (lv, c) (tl, tc) = CO at *
  generalize quietL rs S fl (lv, c) (tl, tc) now = QL at *
  obtain ⟨q1, ⟨p0, p1, p2, p3, p4, p5⟩, ⟨x0, x1, x2, x3, x4, x5⟩, l0, l1, y0, _, _⟩ := hX
  unfold SV at k1 ⊢
  dsimp only at k1 ⊢
  clear h hv hf hfit hvf
  go_enter Tryz.func29, Tryz.ntmps29
  go_upto_region 1 with fail
  clear hW0
  go_wp2_with fail
  refine k1.mono ?_
  rintro e w1 ⟨v', hF, hO, hb1, rfl⟩
  have HX1 := Lib.hid (HX.out.later hb1)
  have HF := Lib.hid hF
  clear k1 hb1 HX hF hO q1 p0 p1 p2 p3 p4 p5 x0 x1 x2 x3 x4 x5 l0 l1 y0
  obtain ⟨va, vc, rfl, _, _⟩ := RdAt.shape HF.out
  cases CO with
  | false =>
    unfold cutR zeroA
    dsimp only
    go_wp2
    go_ret
    exact ⟨_, rfl, by rw [HQL.out]; exact IntsAt.nil _, HX1.out.below.trans ((alloc_below _ _).mono HX1.out.below.size)⟩
  | true =>
  have hba := alloc_below w1 (.cells #[.string src, .slice va V.length vc, .int .i64 lv, .int .u32 c, .int .i64 fr, .int .i64 til] 53)
  have hbx := box_later (Below.refl (w1.alloc (.cells #[.string src, .slice va V.length vc, .int .i64 lv, .int .u32 c, .int .i64 fr, .int .i64 til] 53)).heap.size (w1.alloc (.cells #[.string src, .slice va V.length vc, .int .i64 lv, .int .u32 c, .int .i64 fr, .int .i64 til] 53))) (i := 1) (x := .slice va V.length vc) rfl
  unfold cutR
  dsimp only
  obtain ⟨W2, hW2⟩ : ∃ z, w1.alloc (.cells #[.string src, .slice va V.length vc, .int .i64 lv, .int .u32 c, .int .i64 fr, .int .i64 til] 53) = z := ⟨_, rfl⟩
  rw [hW2] at hba hbx
  have HX2 := Lib.hid (HX1.out.later hba)
  have HF2 := Lib.hid (HF.out.later hba)
  have HBX := Lib.hid hbx
  obtain ⟨q1, _, _, _, _, _, _, _⟩ := HX2.out
  have H2 := Lib.hid (H.out.later HX2.out.below)
  have kn := num_any lp m n S last W2 H2.out
  have hSl : (S.map (·.id)).length ≤ 1000000 := by
    have h1 := H2.out.own.size_le
    rw [DS_size] at h1
    rw [List.length_map]
    have := H2.out.len
    omega
  clear hba hbx HX1 HF H
  go_wp2_with fail
  refine kn.mono ?_
  rintro e w3 ⟨v, rfl, hrow, hb3⟩
  have HX3 := Lib.hid (HX2.out.later hb3)
  have kd := delS_any (S.map (·.id)) (offS S V (tl, tc) now) (.pointer (some ⟨w.heap.size, 0, none⟩)) (.pointer (some ⟨w.heap.size + 1 + 1 + 1, 0, none⟩)) (.pointer (some ⟨w.heap.size + 1 + 1 + 1 + 1, 0, none⟩)) (.pointer (some ⟨w1.heap.size, 0, none⟩)) W2.heap.size v w3 (by rw [List.length_map]; exact hrow) hb3.size hSl (fun W hW x hx => by
    obtain ⟨s, hs, rfl⟩ := List.mem_map.1 hx
    have hb := hb3.trans hW
    have hO : offS S V (tl, tc) now s.id = !(quietS V (tl, tc) now s) := by unfold offS; rw [find_self H2.out.up hs]
    rw [hO]
    have hx2 := HX2.out.later hb
    exact qclos w.heap.size (w.heap.size + 1 + 1 + 1) (w.heap.size + 1 + 1 + 1 + 1) w1.heap.size lp m n (tl, tc) now V (.slice va V.length vc) S last s W (H2.out.later hb) hs
      ⟨hx2.b1, hx2.l0, hx2.l1, hx2.n, keep_cell HBX.out hb (cell_lt HBX.out), HF2.out.later hb⟩ (by omega) HVF.out)
  rw [off_ids H2.out.up] at kd
  have HB3 := Lib.hid (HX3.out.below)
  have hs3 : w.heap.size ≤ W2.heap.size := HX2.out.below.size
  have HS3 := Lib.hid (HX2.out.below.trans (hb3.mono hs3))
  have hb3s := hb3.size
  clear kn hrow hb3 q1
  go_wp2_with fail
  refine kd.mono ?_
  rintro e w4 ⟨v', rfl, hI, hb4⟩
  have HI := Lib.hid hI
  have HB4 := Lib.hid (HS3.out.trans (hb4.mono hs3))
  clear kd hI hb4
  go_wp2
  go_ret
  exact ⟨_, rfl, by rw [HQL.out]; exact HI.out, HB4.out⟩
end Go.Proofs.YtcfococinllcmaaGreat

/- silences: Quiet: where its result lies. -/
namespace Go.Proofs.YtcfococinllcmaaGreat
open Go.RowKit Go.Maps
set_option maxHeartbeats 3200000 in
set_option maxRecDepth 100000 in
theorem quiet_own (s0 s1 s2 s4 s5 : Option Addr × Nat × Nat) (rs : List Nmd) (rv : Value) (src : ByteArray) (fl : List Fld) (fv : Value) (lv : Int) (c : Nat) (fr til : Int) (tl : Int) (tc : Nat) (now : Int) (lp m n : Nat) (S : List Sil) (last : Int) (w : World)
    (h : SlAt w lp m n S last) (hv : NmdsAt w rv rs) (hl : rs.length ≤ maxLen) (hf : FldsAt w fv fl) (hfl : fl.length ≤ 1000000000000) (hfit : FldsFit fl) :
    Calls Tryz.prog 29 #[.pointer (some ⟨lp, 0, none⟩), .agg #[SV s0, SV s1, SV s2, rv, SV s4, SV s5], .agg #[.string src, fv, .int .i64 lv, .int .u32 c, .int .i64 fr, .int .i64 til], Lab tl tc, .int .i64 now] w fun e w' =>
      ∃ v', e = .returned v' ∧ IntsAt w' v' (quietL rs S fl (lv, c) (tl, tc) now) ∧ Below w.heap.size w w' ∧ ∀ q, v'.ownBlock = some q → w.heap.size ≤ q := by
  obtain ⟨ra, rc, rfl, _, _⟩ := RdAt.shape hv
  obtain ⟨fa, fc, rfl, _, _⟩ := RdAt.shape hf
  have k1 := fun W (hb : Below w.heap.size w W) => cut_any s0 s1 s2 s4 s5 rs (.slice ra rs.length rc) src fl (.slice fa fl.length fc) lv c fr til tl tc W (hv.later hb) hl (hf.later hb) hfl
  obtain ⟨a0, n0, c0⟩ := s0
  obtain ⟨a1, n1, c1⟩ := s1
  obtain ⟨a2, n2, c2⟩ := s2
  obtain ⟨a4, n4, c4⟩ := s4
  obtain ⟨a5, n5, c5⟩ := s5
  have hX := quBox w (.pointer (some ⟨lp, 0, none⟩)) (.slice a0 n0 c0) (.slice a1 n1 c1) (.slice a2 n2 c2) (.slice ra rs.length rc) (.slice a4 n4 c4) (.slice a5 n5 c5) (.string src) (.slice fa fl.length fc) (.int .i64 lv) (.int .u32 c) (.int .i64 fr) (.int .i64 til) (.int .i64 tl) (.int .u32 tc) now 51 76 53 26 3
  obtain ⟨W0, hW0⟩ : ∃ z, (((((w.alloc (.cells #[.pointer (some ⟨lp, 0, none⟩)] 51)).alloc (.cells #[.slice a0 n0 c0, .slice a1 n1 c1, .slice a2 n2 c2, .slice ra rs.length rc, .slice a4 n4 c4, .slice a5 n5 c5] 76)).alloc (.cells #[.string src, .slice fa fl.length fc, .int .i64 lv, .int .u32 c, .int .i64 fr, .int .i64 til] 53)).alloc (.cells #[.int .i64 tl, .int .u32 tc] 26)).alloc (.cells #[.int .i64 now] 3)) = z := ⟨_, rfl⟩
  rw [hW0] at hX
  have HX := Lib.hid hX
  have H := Lib.hid h
  have k1 := k1 W0 hX.below
  have HQL : Hid (quietL rs S fl (lv, c) (tl, tc) now = if cutOk rs fl (lv, c) (tl, tc) = true then (S.filter fun s => quietS (visL rs fl (lv, c) (tl, tc)) (tl, tc) now s).map (·.id) else []) := Lib.hid rfl
  have hvl : (visL rs fl (lv, c) (tl, tc)).length ≤ fl.length := List.length_filter_le _ _
  have hvf : FldsFit (visL rs fl (lv, c) (tl, tc)) := fun x hx => hfit x (List.mem_filter.1 hx).1
  have HVF := Lib.hid hvf
  generalize visL rs fl (lv, c) (tl, tc) = V at *
  generalize cutOk rs fl (lv, c) (tl, tc) = CO at *
  generalize quietL rs S fl (lv, c) (tl, tc) now = QL at *
  obtain ⟨q1, ⟨p0, p1, p2, p3, p4, p5⟩, ⟨x0, x1, x2, x3, x4, x5⟩, l0, l1, y0, _, _⟩ := hX
  unfold SV at k1 ⊢
  dsimp only at k1 ⊢
  clear h hv hf hfit hvf
  go_enter Tryz.func29, Tryz.ntmps29
  go_upto_region 1 with fail
  clear hW0
  go_wp2_with fail
  refine k1.mono ?_
  rintro e w1 ⟨v', hF, hO, hb1, rfl⟩
  have HX1 := Lib.hid (HX.out.later hb1)
  have HF := Lib.hid hF
  clear k1 hb1 HX hF hO q1 p0 p1 p2 p3 p4 p5 x0 x1 x2 x3 x4 x5 l0 l1 y0
  obtain ⟨va, vc, rfl, _, _⟩ := RdAt.shape HF.out
  cases CO with
  | false =>
    unfold cutR zeroA
    dsimp only
    go_wp2
    go_ret
    exact ⟨_, rfl, by rw [HQL.out]; exact IntsAt.nil _, HX1.out.below.trans ((alloc_below _ _).mono HX1.out.below.size), fun q hq => by cases hq⟩
  | true =>
  have hba := alloc_below w1 (.cells #[.string src, .slice va V.length vc, .int .i64 lv, .int .u32 c, .int .i64 fr, .int .i64 til] 53)
  have hbx := box_later (Below.refl (w1.alloc (.cells #[.string src, .slice va V.length vc, .int .i64 lv, .int .u32 c, .int .i64 fr, .int .i64 til] 53)).heap.size (w1.alloc (.cells #[.string src, .slice va V.length vc, .int .i64 lv, .int .u32 c, .int .i64 fr, .int .i64 til] 53))) (i := 1) (x := .slice va V.length vc) rfl
  unfold cutR
  dsimp only
  obtain ⟨W2, hW2⟩ : ∃ z, w1.alloc (.cells #[.string src, .slice va V.length vc, .int .i64 lv, .int .u32 c, .int .i64 fr, .int .i64 til] 53) = z := ⟨_, rfl⟩
  rw [hW2] at hba hbx
  have HX2 := Lib.hid (HX1.out.later hba)
  have HF2 := Lib.hid (HF.out.later hba)
  have HBX := Lib.hid hbx
  obtain ⟨q1, _, _, _, _, _, _, _⟩ := HX2.out
  have H2 := Lib.hid (H.out.later HX2.out.below)
  have kn := num_any lp m n S last W2 H2.out
  have hSl : (S.map (·.id)).length ≤ 1000000 := by
    have h1 := H2.out.own.size_le
    rw [DS_size] at h1
    rw [List.length_map]
    have := H2.out.len
    omega
  clear hba hbx HX1 HF H
  go_wp2_with fail
  refine kn.mono ?_
  rintro e w3 ⟨v, rfl, hrow, hb3⟩
  have HX3 := Lib.hid (HX2.out.later hb3)
  have kd := delS_own (S.map (·.id)) (offS S V (tl, tc) now) (.pointer (some ⟨w.heap.size, 0, none⟩)) (.pointer (some ⟨w.heap.size + 1 + 1 + 1, 0, none⟩)) (.pointer (some ⟨w.heap.size + 1 + 1 + 1 + 1, 0, none⟩)) (.pointer (some ⟨w1.heap.size, 0, none⟩)) W2.heap.size v w3 (by rw [List.length_map]; exact hrow) hb3.size hSl (fun W hW x hx => by
    obtain ⟨s, hs, rfl⟩ := List.mem_map.1 hx
    have hb := hb3.trans hW
    have hO : offS S V (tl, tc) now s.id = !(quietS V (tl, tc) now s) := by unfold offS; rw [find_self H2.out.up hs]
    rw [hO]
    have hx2 := HX2.out.later hb
    exact qclos w.heap.size (w.heap.size + 1 + 1 + 1) (w.heap.size + 1 + 1 + 1 + 1) w1.heap.size lp m n (tl, tc) now V (.slice va V.length vc) S last s W (H2.out.later hb) hs
      ⟨hx2.b1, hx2.l0, hx2.l1, hx2.n, keep_cell HBX.out hb (cell_lt HBX.out), HF2.out.later hb⟩ (by omega) HVF.out)
  rw [off_ids H2.out.up] at kd
  have HB3 := Lib.hid (HX3.out.below)
  have hs3 : w.heap.size ≤ W2.heap.size := HX2.out.below.size
  have HS3 := Lib.hid (HX2.out.below.trans (hb3.mono hs3))
  have hb3s := hb3.size
  clear kn hrow hb3 q1
  go_wp2_with fail
  refine kd.mono ?_
  rintro e w4 ⟨v', rfl, hI, hb4, hq4⟩
  have HI := Lib.hid hI
  have HQ4 := Lib.hid (fun q hq => Nat.le_trans hs3 (hq4 q hq))
  have HB4 := Lib.hid (HS3.out.trans (hb4.mono hs3))
  clear kd hI hb4 hq4
  go_wp2
  go_ret
  exact ⟨_, rfl, by rw [HQL.out]; exact HI.out, HB4.out, HQ4.out⟩
end Go.Proofs.YtcfococinllcmaaGreat

/- silences, plainly: what is forgotten. -/
namespace Go.Proofs.YtcfococinllcmaaGreat
open Go.RowKit
theorem quiet_len (rs : List Nmd) (S : List Sil) (fl : List Fld) (f t : Int × Nat) (now : Int) : (quietL rs S fl f t now).length ≤ S.length := by
  unfold quietL
  split
  · rw [List.length_map]; exact List.length_filter_le _ _
  · exact Nat.zero_le _
theorem c6_kp {w w' : World} {lp m p : Nat} {a b c d e f : Value} (h : C6 p a b c d e f w) (hk : Kp lp m w w') (h1 : p ≠ lp) (h2 : p ≠ m) : C6 p a b c d e f w' := by
  obtain ⟨x0, x1, x2, x3, x4, x5⟩ := h
  exact ⟨hk.cell x0 h1 h2, hk.cell x1 h1 h2, hk.cell x2 h1 h2, hk.cell x3 h1 h2, hk.cell x4 h1 h2, hk.cell x5 h1 h2⟩
theorem rd_kp {w w' : World} {lp m : Nat} {v : Value} {n k : Nat} {xs : List Value} (h : RdAt w v n k xs) (hk : Kp lp m w w') (hq : 0 < n → ∀ q, v.ownBlock = some q → q ≠ lp ∧ q ≠ m) : RdAt w' v n k xs := by
  rcases Nat.eq_zero_or_pos n with h0 | h0
  · subst h0
    refine ⟨h.1, ?_⟩
    rcases h.2 with h1 | ⟨a, c, rfl, hc, _⟩
    · exact .inl h1
    · exact .inr ⟨a, c, rfl, hc, fun hn => absurd hn (Nat.lt_irrefl _)⟩
  · exact hk.rd h (hq h0)
end Go.Proofs.YtcfococinllcmaaGreat

/- silences: Get. -/
namespace Go.Proofs.YtcfococinllcmaaGreat
open Go.RowKit Go.Maps
abbrev zeroS : Sil := ⟨0, (none, 0, 0), [], 0, 0, 0, 0⟩
def getS (S : List Sil) (id : Int) : Sil := (S.find? fun s => s.id == id).getD zeroS
set_option maxHeartbeats 3200000 in
set_option maxRecDepth 100000 in
theorem get_any (lp m n : Nat) (S : List Sil) (last id : Int) (w : World) (h : SlAt w lp m n S last) (hw : (Lit.int .i64 id).wf = true) :
    Calls Tryz.prog 38 #[.pointer (some ⟨lp, 0, none⟩), .int .i64 id] w fun e w' =>
      ∃ mv : Option Addr × Nat × Nat, e = .returned (.tuple #[({ getS S id with mv := mv } : Sil).v, .bool (S.find? fun s => s.id == id).isSome]) ∧ MtsAt w' (SV mv) (getS S id).ms ∧ Below w.heap.size w w' := by
  obtain ⟨W1, h1⟩ : ∃ z, w.alloc (.cells #[.slice none 0 0, .int .i64 0, .int .i64 0, .int .i64 0, .int .u32 0] 67) = z := ⟨_, rfl⟩
  have s1 : W1.heap.size = w.heap.size + 1 := by rw [← h1, World.size_alloc]
  have b1 : Below w.heap.size w W1 := by rw [← h1]; exact alloc_below _ _
  have t1 : W1.there w.heap.size 0 5 := by
    have := box_there (Below.refl _ (w.alloc (.cells #[.slice none 0 0, .int .i64 0, .int .i64 0, .int .i64 0, .int .u32 0] 67)))
    rw [h1] at this; exact this
  have z1 : C5 w.heap.size (.slice none 0 0) (.int .i64 0) (.int .i64 0) (.int .i64 0) (.int .u32 0) W1 := by
    have := alc5 w (.slice none 0 0) (.int .i64 0) (.int .i64 0) (.int .i64 0) (.int .u32 0) 67
    rw [h1] at this; exact this
  have h' := h.later b1
  have l0 := h'.h0
  obtain ⟨z, hz, hzs, hm⟩ : ∃ z : Sil, (Instr.lookup 115 (.map (some m)) (.int .i64 id) true).run Tryz.prog W1 = .ok (.tuple #[z.v, .bool (S.find? fun s => s.id == id).isSome]) W1 ∧ z = getS S id ∧ (MtsAt W1 (SV z.mv) z.ms ∧ z.ms.length ≤ 12) := by
    cases hf : (S.find? fun s => s.id == id) with
    | none =>
      obtain ⟨z, hr, rfl⟩ := look_none h' hw hf
      exact ⟨_, hr, by unfold getS; rw [hf]; rfl, RdAt.nil _ _, by decide⟩
    | some s =>
      have hs := List.mem_of_find?_eq_some hf
      have hid : s.id = id := by simpa using List.find?_some hf
      have hr := (look_some h' hs).1
      rw [hid] at hr
      exact ⟨s, hr, by unfold getS; rw [hf]; rfl, (h'.ms s hs).1, (h'.ms s hs).2.2.1⟩
  rw [← hzs]
  generalize (S.find? fun s => s.id == id).isSome = OK at *
  clear hzs h h'
  obtain ⟨hm1, hm2⟩ := hm
  obtain ⟨za, zc, e, _, _⟩ := RdAt.shape hm1
  unfold Sil.v at hz ⊢
  obtain ⟨zid, zmv, ms, fr, til, lv, c⟩ := z
  dsimp only [SV] at *
  rw [e] at hz hm1
  clear e
  obtain ⟨W2, h2⟩ : ∃ z, W1.alloc (.cells #[.slice za ms.length zc, .int .i64 fr, .int .i64 til, .int .i64 lv, .int .u32 c] 67) = z := ⟨_, rfl⟩
  have s2 : W2.heap.size = w.heap.size + 1 + 1 := by rw [← h2, World.size_alloc, s1]
  have b2 : Below W1.heap.size W1 W2 := by rw [← h2]; exact alloc_below _ _
  have x2 : C5 (w.heap.size + 1) (.slice za ms.length zc) (.int .i64 fr) (.int .i64 til) (.int .i64 lv) (.int .u32 c) W2 := by
    have := alc5 W1 (.slice za ms.length zc) (.int .i64 fr) (.int .i64 til) (.int .i64 lv) (.int .u32 c) 67
    rw [h2, s1] at this; exact this
  have t2 : W2.there (w.heap.size + 1) 0 5 := by
    have := box_there (Below.refl _ (W1.alloc (.cells #[.slice za ms.length zc, .int .i64 fr, .int .i64 til, .int .i64 lv, .int .u32 c] 67)))
    rw [h2, s1] at this; exact this
  have t12 := there_later t1 b2 (by omega)
  have hB2 : Below w.heap.size w W2 := b1.trans (b2.mono (by omega))
  have kc := cloneM_any ms W2 (.slice za ms.length zc) (RdAt.later hm1 b2) (by omega)
  have HB2 := Lib.hid hB2
  have HX2 := Lib.hid x2
  have HZ2 := Lib.hid (z1.later b2)
  clear z1
  have HT1 := Lib.hid t12
  have HT2 := Lib.hid t2
  have HBB := Lib.hid b2
  clear b1 b2 t1 t2 t12 hB2 x2 hm1 hw
  go_enter Tryz.func38, Tryz.ntmps38
  go_upto_region 3 with fail
  try rw [h1]
  clear h1
  go_upto_region 4 with fail
  try rw [s1]
  clear h2 hz l0
  obtain ⟨x0, x1, x2, x3, x4⟩ := HX2.out
  go_wp2_with fail
  refine kc.mono ?_
  rintro e w3 ⟨v', rfl, hown, hb3⟩
  obtain ⟨ga, gc, rfl, _, _⟩ := RdAt.shape (RdAt.own hown)
  have HO := Lib.hid hown
  have HX3 := Lib.hid (HX2.out.later hb3)
  obtain ⟨z0, z1, z2, z3, z4⟩ := HZ2.out.later hb3
  have HT3 := Lib.hid (there_later HT1.out hb3 (by omega))
  have HT4 := Lib.hid (there_later HT2.out hb3 (by omega))
  have HB3 := Lib.hid (HB2.out.trans (hb3.mono HB2.out.size))
  have hs3 := hb3.size
  clear kc hown hb3 x0 x1 x2 x3 x4 HX2 HT1 HT2 HB2
  obtain ⟨x0, x1, x2, x3, x4⟩ := HX3.out
  have g0 := there_free HT4.out 0 (by omega)
  have f0 := there_free HT3.out 0 (by omega)
  have f1 := there_free HT3.out 1 (by omega)
  have f2 := there_free HT3.out 2 (by omega)
  have f3 := there_free HT3.out 3 (by omega)
  have f4 := there_free HT3.out 4 (by omega)
  go_wp2
  have hT := World.there_setCells HT3.out (w.heap.size + 1) 0 [.slice ga ms.length gc]
  refine bodyPost_ret (results_agg2 rfl _ _ w.heap.size [.slice ga ms.length gc, .int .i64 fr, .int .i64 til, .int .i64 lv, .int .u32 c] (.struct _) rfl (World.rangeAt_setCells_same _ w.heap.size 0 [.slice ga ms.length gc, .int .i64 fr, .int .i64 til, .int .i64 lv, .int .u32 c] hT) Tryz.underlying67 rfl (by kernel_rfl)) rfl ?_
  have hba := below_puts (g := w.heap.size + 1) (o := 0) HB3.out (by omega) [.slice ga ms.length gc]
  have hbb := below_puts (g := w.heap.size) (o := 0) hba (by omega) [.slice ga ms.length gc, .int .i64 fr, .int .i64 til, .int .i64 lv, .int .u32 c]
  have ho : ∀ q, (Value.slice ga ms.length gc).ownBlock = some q → w.heap.size + 1 + 1 ≤ q := fun q hq => by
    have := (HO.out.lt q hq).1
    omega
  have hF3 := rd_puts (g := w.heap.size + 1) (o := 0) (RdAt.own HO.out) (fun q hq => by have := ho q hq; omega) [.slice ga ms.length gc]
  have hF4 := rd_puts (g := w.heap.size) (o := 0) hF3 (fun q hq => by have := ho q hq; omega) [.slice ga ms.length gc, .int .i64 fr, .int .i64 til, .int .i64 lv, .int .u32 c]
  exact ⟨(ga, ms.length, gc), rfl, hF4, hbb⟩
end Go.Proofs.YtcfococinllcmaaGreat

/- the law's steps: kind, back. -/
namespace Go.Proofs.YtcfococinllcmaaGreat
open Go.RowKit
structure SOp where
  kd : Int
  id : Int
  now : Int
  sid : Int
  s : Sil
abbrev SOp.v (o : SOp) : Value := .agg #[.int .i64 o.kd, .int .i64 o.id, .int .i64 o.now, .int .i64 o.sid, .slice o.s.mv.1 o.s.mv.2.1 o.s.mv.2.2, .int .i64 o.s.fr, .int .i64 o.s.til, .int .i64 o.s.lv, .int .u32 o.s.c]
abbrev rsV (sid : Int) (s : Sil) : Value := .agg #[.int .i64 sid, .slice s.mv.1 s.mv.2.1 s.mv.2.2, .int .i64 s.fr, .int .i64 s.til, .int .i64 s.lv, .int .u32 s.c]
def kindO (k : Int) : Nat := ((k % 18446744073709551616) % 3).toNat
theorem kindO_lt (k : Int) : kindO k < 3 := by
  unfold kindO
  have := Int.emod_lt_of_pos (k % 18446744073709551616) (by decide : (0 : Int) < 3)
  have := Int.emod_nonneg (k % 18446744073709551616) (by decide : (3 : Int) ≠ 0)
  omega
theorem kindO_eq (k : Int) : wrap64 ((IntKind.u64.wrap k).tmod 3) = (kindO k : Int) := by
  have h1 : 0 ≤ k % 18446744073709551616 := Int.emod_nonneg _ (by omega)
  rw [IntKind.wrap_u64, Int.tmod_eq_emod_of_nonneg h1]
  have h2 := Int.emod_nonneg (k % 18446744073709551616) (by decide : (3 : Int) ≠ 0)
  have h3 := Int.emod_lt_of_pos (k % 18446744073709551616) (by decide : (0 : Int) < 3)
  rw [IntWalk.wrap64_in _ ⟨by omega, by omega⟩]
  unfold kindO
  omega
set_option maxHeartbeats 1600000 in
theorem kind_any (o : SOp) (w : World) : Calls Tryz.prog 24 #[o.v] w fun e w' => e = .returned (.int .i64 ((kindO o.kd : Nat) : Int)) ∧ Below w.heap.size w w' := by
  have hb := alloc_below w (.cells #[.int .i64 o.kd, .int .i64 o.id, .int .i64 o.now, .int .i64 o.sid, .slice o.s.mv.1 o.s.mv.2.1 o.s.mv.2.2, .int .i64 o.s.fr, .int .i64 o.s.til, .int .i64 o.s.lv, .int .u32 o.s.c] 60)
  have hx := box_later (Below.refl (w.alloc (.cells #[.int .i64 o.kd, .int .i64 o.id, .int .i64 o.now, .int .i64 o.sid, .slice o.s.mv.1 o.s.mv.2.1 o.s.mv.2.2, .int .i64 o.s.fr, .int .i64 o.s.til, .int .i64 o.s.lv, .int .u32 o.s.c] 60)).heap.size (w.alloc (.cells #[.int .i64 o.kd, .int .i64 o.id, .int .i64 o.now, .int .i64 o.sid, .slice o.s.mv.1 o.s.mv.2.1 o.s.mv.2.2, .int .i64 o.s.fr, .int .i64 o.s.til, .int .i64 o.s.lv, .int .u32 o.s.c] 60))) (i := 0) (x := .int .i64 o.kd) rfl
  have HB := Lib.hid hb
  have HK := Lib.hid (kindO_eq o.kd)
  unfold SOp.v
  clear hb
  go_enter Tryz.func24, Tryz.ntmps24
  go_wp2
  go_ret
  exact ⟨by rw [← HK.out]; rfl, HB.out⟩
set_option maxHeartbeats 1600000 in
set_option maxRecDepth 100000 in
theorem sback_any (sid : Int) (s : Sil) (w : World) : Calls Tryz.prog 26 #[rsV sid s] w fun e w' => e = .returned s.v ∧ Below w.heap.size w w' := by
  obtain ⟨id, ⟨ma, mn, mc⟩, ms, fr, til, lv, c⟩ := s
  unfold rsV Sil.v
  dsimp only
  obtain ⟨W1, h1⟩ : ∃ z, w.alloc (.cells #[.int .i64 sid, .slice ma mn mc, .int .i64 fr, .int .i64 til, .int .i64 lv, .int .u32 c] 58) = z := ⟨_, rfl⟩
  obtain ⟨W2, h2⟩ : ∃ z, W1.alloc (.cells #[.slice none 0 0, .int .i64 0, .int .i64 0, .int .i64 0, .int .u32 0] 67) = z := ⟨_, rfl⟩
  have s1 : W1.heap.size = w.heap.size + 1 := by rw [← h1, World.size_alloc]
  have b1 : Below w.heap.size w W1 := by rw [← h1]; exact alloc_below _ _
  have b2 : Below W1.heap.size W1 W2 := by rw [← h2]; exact alloc_below _ _
  have hr := Below.refl W2.heap.size W2
  have g1 : Below (w.alloc (.cells #[.int .i64 sid, .slice ma mn mc, .int .i64 fr, .int .i64 til, .int .i64 lv, .int .u32 c] 58)).heap.size (w.alloc (.cells #[.int .i64 sid, .slice ma mn mc, .int .i64 fr, .int .i64 til, .int .i64 lv, .int .u32 c] 58)) W2 := by rw [h1]; exact b2
  have y1 := box_later g1 (i := 1) rfl
  have y2 := box_later g1 (i := 2) rfl
  have y3 := box_later g1 (i := 3) rfl
  have y4 := box_later g1 (i := 4) rfl
  have y5 := box_later g1 (i := 5) rfl
  have z1 := alc5 W1 (.slice none 0 0) (.int .i64 0) (.int .i64 0) (.int .i64 0) (.int .u32 0) 67
  have t1 := box_there (Below.refl _ (W1.alloc (.cells #[.slice none 0 0, .int .i64 0, .int .i64 0, .int .i64 0, .int .u32 0] 67)))
  rw [h2] at z1 t1
  change W2.there W1.heap.size 0 5 at t1
  rw [s1] at z1 t1
  have f0 := there_free t1 0 (by omega)
  have f1 := there_free t1 1 (by omega)
  have f2 := there_free t1 2 (by omega)
  have f3 := there_free t1 3 (by omega)
  have f4 := there_free t1 4 (by omega)
  have HB := Lib.hid (b1.trans (b2.mono (by omega)))
  have HT := Lib.hid t1
  obtain ⟨z0, z1, z2, z3, z4⟩ := z1
  clear hr g1 b1 b2 t1
  go_enter Tryz.func26, Tryz.ntmps26
  go_upto_region 1 with fail
  try rw [h1]
  try rw [h2]
  try rw [s1]
  clear h1 h2
  go_wp2
  refine bodyPost_ret (results_agg1 rfl _ _ (w.heap.size + 1) [.slice ma mn mc, .int .i64 fr, .int .i64 til, .int .i64 lv, .int .u32 c] (.struct _) rfl (World.rangeAt_setCells_same _ (w.heap.size + 1) 0 [.slice ma mn mc, .int .i64 fr, .int .i64 til, .int .i64 lv, .int .u32 c] HT.out) Tryz.underlying67 rfl (by kernel_rfl)) rfl ?_
  exact ⟨rfl, below_puts (g := w.heap.size + 1) (o := 0) HB.out (by omega) [.slice ma mn mc, .int .i64 fr, .int .i64 til, .int .i64 lv, .int .u32 c]⟩
theorem mtCells_takeS (l : List Mt) (i : Nat) : mtCells (l.take i) = (mtCells l).take (i * 3) := by
  induction l generalizing i with
  | nil => simp [mtCells]
  | cons f l ih =>
    cases i with
    | zero => simp [mtCells]
    | succ i => rw [List.take_succ_cons, mtCells, ih, mtCells, show (i + 1) * 3 = i * 3 + 1 + 1 + 1 by omega]; rfl
theorem rd_takeS {w : World} {a : Option Addr} {n c size : Nat} {xs : List Value} (h : RdAt w (.slice a n c) n size xs) (k : Nat) (hk : k ≤ n) (hn : a = none → n = 0) : RdAt w (.slice a k c) k size (xs.take (k * size)) := by
  refine ⟨by rw [List.length_take, h.1, Nat.min_eq_left (Nat.mul_le_mul_right _ hk)], ?_⟩
  rcases h.2 with ⟨h1, h0⟩ | ⟨ad, c', h1, hc, hr⟩
  · simp only [Value.slice.injEq] at h1
    obtain ⟨rfl, h2, rfl⟩ := h1
    exact .inl ⟨by rw [show k = 0 by omega], by omega⟩
  · simp only [Value.slice.injEq] at h1
    obtain ⟨rfl, _, rfl⟩ := h1
    refine .inr ⟨ad, c, rfl, by omega, fun h0 => ?_⟩
    obtain ⟨b, o, rfl, hlt, hcell⟩ := hr (by omega)
    refine ⟨b, o, rfl, hlt, fun j x hj => hcell j x ?_⟩
    have hjl := (List.getElem?_eq_some_iff.1 hj).1
    rw [List.length_take] at hjl
    rwa [List.getElem?_take_of_lt (by omega)] at hj
theorem mts_takeS {w : World} {a : Option Addr} {c : Nat} {l : List Mt} (h : MtsAt w (.slice a l.length c) l) (k : Nat) (hk : k ≤ l.length) (hn : a = none → l.length = 0) : MtsAt w (.slice a k c) (l.take k) := by
  have hl : (l.take k).length = k := by rw [List.length_take]; omega
  unfold MtsAt at h ⊢
  rw [hl, mtCells_takeS]
  exact rd_takeS h k hk hn
theorem none_ofS {w : World} {size n c : Nat} {a : Option Addr} {xs : List Value} (h : RdAt w (.slice a n c) n size xs) : a = none → n = 0 := by
  rintro rfl
  rcases h.2 with ⟨h1, h0⟩ | ⟨ad, c', h1, _⟩
  · exact h0
  · cases h1
theorem min_cutS {α : Type} (l : List α) (m : Nat) : ∃ k : Nat, k ≤ l.length ∧ l.take m = l.take k ∧ min (l.length : Int) m = (k : Int) ∧ k ≤ m := by
  rcases Nat.le_total l.length m with h | h
  · exact ⟨l.length, Nat.le_refl _, by rw [List.take_length, List.take_of_length_le h], by omega, h⟩
  · exact ⟨m, h, rfl, by omega, Nat.le_refl _⟩
def cutS (s : Sil) : Sil := { s with ms := s.ms.take 14 }
set_option maxHeartbeats 3200000 in
set_option maxRecDepth 100000 in
theorem short_any (o : SOp) (w : World) (hm : MtsAt w (SV o.s.mv) o.s.ms) (hl : o.s.ms.length ≤ maxLen) :
    Calls Tryz.prog 27 #[o.v] w fun e w' => ∃ mv : Option Addr × Nat × Nat, e = .returned (rsV o.sid { cutS o.s with mv := mv }) ∧ MtsAt w (SV mv) (cutS o.s).ms ∧ Below w.heap.size w w' := by
  obtain ⟨kd, id, now, sid, ⟨xid, ⟨xa, xn, xc⟩, ms, fr, til, lv, c⟩⟩ := o
  dsimp only [SV] at hm hl
  obtain ⟨ma, mc, e, hmc, _⟩ := RdAt.shape hm
  rw [e] at hm
  simp only [Value.slice.injEq] at e
  obtain ⟨rfl, rfl, rfl⟩ := e
  obtain ⟨k, hk, hkl, hmin, _⟩ := min_cutS ms 14
  change min (ms.length : Int) 14 = _ at hmin
  have HMT := Lib.hid (mts_takeS hm k hk (none_ofS hm))
  have HKL := Lib.hid hkl
  have hkc : k ≤ xc := Nat.le_trans hk hmc
  have hkm : k < 9223372036854775807 := by unfold maxLen at hl; omega
  have hmn63 : ms.length ≤ 9223372036854775807 := by unfold maxLen at hl; omega
  unfold SOp.v rsV cutS
  dsimp only
  obtain ⟨W1, h1⟩ : ∃ z, w.alloc (.cells #[.int .i64 kd, .int .i64 id, .int .i64 now, .int .i64 sid, .slice xa ms.length xc, .int .i64 fr, .int .i64 til, .int .i64 lv, .int .u32 c] 60) = z := ⟨_, rfl⟩
  obtain ⟨W2, h2⟩ : ∃ z, W1.alloc (.cells #[.int .i64 0, .slice none 0 0, .int .i64 0, .int .i64 0, .int .i64 0, .int .u32 0] 58) = z := ⟨_, rfl⟩
  obtain ⟨W3, h3⟩ : ∃ z, W2.alloc (.cells #[.int .i64 sid, .slice xa ms.length xc, .int .i64 fr, .int .i64 til, .int .i64 lv, .int .u32 c] 58) = z := ⟨_, rfl⟩
  have s1 : W1.heap.size = w.heap.size + 1 := by rw [← h1, World.size_alloc]
  have s2 : W2.heap.size = w.heap.size + 1 + 1 := by rw [← h2, World.size_alloc, s1]
  have b1 : Below w.heap.size w W1 := by rw [← h1]; exact alloc_below _ _
  have b2 : Below W1.heap.size W1 W2 := by rw [← h2]; exact alloc_below _ _
  have b3 : Below W2.heap.size W2 W3 := by rw [← h3]; exact alloc_below _ _
  have g1 : Below (w.alloc (.cells #[.int .i64 kd, .int .i64 id, .int .i64 now, .int .i64 sid, .slice xa ms.length xc, .int .i64 fr, .int .i64 til, .int .i64 lv, .int .u32 c] 60)).heap.size (w.alloc (.cells #[.int .i64 kd, .int .i64 id, .int .i64 now, .int .i64 sid, .slice xa ms.length xc, .int .i64 fr, .int .i64 til, .int .i64 lv, .int .u32 c] 60)) W2 := by rw [h1]; exact b2
  have y3 := box_later g1 (i := 3) rfl
  have y4 := box_later g1 (i := 4) rfl
  have y5 := box_later g1 (i := 5) rfl
  have y6 := box_later g1 (i := 6) rfl
  have y7 := box_later g1 (i := 7) rfl
  have y8 := box_later g1 (i := 8) rfl
  have g2 : Below (W1.alloc (.cells #[.int .i64 0, .slice none 0 0, .int .i64 0, .int .i64 0, .int .i64 0, .int .u32 0] 58)).heap.size (W1.alloc (.cells #[.int .i64 0, .slice none 0 0, .int .i64 0, .int .i64 0, .int .i64 0, .int .u32 0] 58)) W3 := by rw [h2]; exact b3
  have z0 := box_later g2 (i := 0) rfl
  have z1 := box_later g2 (i := 1) rfl
  have z2 := box_later g2 (i := 2) rfl
  have z3 := box_later g2 (i := 3) rfl
  have z4 := box_later g2 (i := 4) rfl
  have z5 := box_later g2 (i := 5) rfl
  have t1 := box_there g2
  have hr3 := Below.refl (W2.alloc (.cells #[.int .i64 sid, .slice xa ms.length xc, .int .i64 fr, .int .i64 til, .int .i64 lv, .int .u32 c] 58)).heap.size (W2.alloc (.cells #[.int .i64 sid, .slice xa ms.length xc, .int .i64 fr, .int .i64 til, .int .i64 lv, .int .u32 c] 58))
  have u0 := box_later hr3 (i := 0) rfl
  have u1 := box_later hr3 (i := 1) rfl
  have u2 := box_later hr3 (i := 2) rfl
  have u3 := box_later hr3 (i := 3) rfl
  have u4 := box_later hr3 (i := 4) rfl
  have u5 := box_later hr3 (i := 5) rfl
  have t3 := box_there hr3
  rw [h3] at u0 u1 u2 u3 u4 u5 t3
  change W3.there W1.heap.size 0 6 at t1
  change W3.there W2.heap.size 0 6 at t3
  rw [s1] at t1 z0 z1 z2 z3 z4 z5
  rw [s2] at t3 u0 u1 u2 u3 u4 u5
  have f0 := there_free t1 0 (by omega)
  have f1 := there_free t1 1 (by omega)
  have f2 := there_free t1 2 (by omega)
  have f3 := there_free t1 3 (by omega)
  have f4 := there_free t1 4 (by omega)
  have f5 := there_free t1 5 (by omega)
  have e1 := there_free t3 1 (by omega)
  have HB := Lib.hid ((b1.trans (b2.mono (by omega))).trans (b3.mono (by omega)))
  have HT := Lib.hid t1
  clear hr3 g1 g2 b1 b2 b3 t1 t3 hm hkl hk hmc hl
  go_enter Tryz.func27, Tryz.ntmps27
  go_upto_region 1 with fail
  try rw [h1]
  try rw [h2]
  clear h1 h2
  go_upto_region 2 with fail
  try rw [h3]
  try rw [s1]
  try rw [s2]
  clear h3 y3 y4 y5 y6 y7 y8
  go_wp2
  have hT := World.there_setCells HT.out (w.heap.size + 1 + 1) 1 [.slice xa k xc]
  refine bodyPost_ret (results_agg1 rfl _ _ (w.heap.size + 1) [.int .i64 sid, .slice xa k xc, .int .i64 fr, .int .i64 til, .int .i64 lv, .int .u32 c] (.struct _) rfl (World.rangeAt_setCells_same _ (w.heap.size + 1) 0 [.int .i64 sid, .slice xa k xc, .int .i64 fr, .int .i64 til, .int .i64 lv, .int .u32 c] hT) Tryz.underlying58 rfl (by kernel_rfl)) rfl ?_
  have hba := below_puts (g := w.heap.size + 1 + 1) (o := 1) HB.out (by omega) [.slice xa k xc]
  have hbb := below_puts (g := w.heap.size + 1) (o := 0) hba (by omega) [.int .i64 sid, .slice xa k xc, .int .i64 fr, .int .i64 til, .int .i64 lv, .int .u32 c]
  exact ⟨(xa, k, xc), rfl, by rw [HKL.out]; exact HMT.out, hbb⟩
end Go.Proofs.YtcfococinllcmaaGreat

/- the law's steps: does. -/
namespace Go.Proofs.YtcfococinllcmaaGreat
open Go.RowKit
def C9 (p : Nat) (a b c d e f g h i : Value) (W : World) : Prop := W.cell? ⟨p, 0, none⟩ = some a ∧ W.cell? ⟨p, 1, none⟩ = some b ∧ W.cell? ⟨p, 2, none⟩ = some c ∧ W.cell? ⟨p, 3, none⟩ = some d ∧ W.cell? ⟨p, 4, none⟩ = some e ∧ W.cell? ⟨p, 5, none⟩ = some f ∧ W.cell? ⟨p, 6, none⟩ = some g ∧ W.cell? ⟨p, 7, none⟩ = some h ∧ W.cell? ⟨p, 8, none⟩ = some i
theorem C9.later {p : Nat} {a b c d e f g h i : Value} {W W' : World} (x : C9 p a b c d e f g h i W) (hb : Below W.heap.size W W') : C9 p a b c d e f g h i W' := by
  obtain ⟨h0, h1, h2, h3, h4, h5, h6, h7, h8⟩ := x
  exact ⟨keep_cell h0 hb (cell_lt h0), keep_cell h1 hb (cell_lt h1), keep_cell h2 hb (cell_lt h2), keep_cell h3 hb (cell_lt h3), keep_cell h4 hb (cell_lt h4), keep_cell h5 hb (cell_lt h5), keep_cell h6 hb (cell_lt h6), keep_cell h7 hb (cell_lt h7), keep_cell h8 hb (cell_lt h8)⟩
theorem alc9 (W : World) (a b c d e f g h i : Value) (t : TypeId) : C9 W.heap.size a b c d e f g h i (W.alloc (.cells #[a, b, c, d, e, f, g, h, i] t)) := by
  have hc : ∀ (j : Nat), (W.alloc (.cells #[a, b, c, d, e, f, g, h, i] t)).cell? ⟨W.heap.size, j, none⟩ = _ := fun j => World.cell?_alloc_at _ _ _ _ rfl
  exact ⟨hc 0, hc 1, hc 2, hc 3, hc 4, hc 5, hc 6, hc 7, hc 8⟩
structure OpAt (w : World) (o : SOp) : Prop where
  ms : MtsAt w (SV o.s.mv) o.s.ms
  fit : MtsFit o.s.ms
  len : o.s.ms.length ≤ maxLen
  wf : (Lit.int .i64 o.id).wf = true
theorem OpAt.later {w w' : World} {o : SOp} (h : OpAt w o) (hb : Below w.heap.size w w') : OpAt w' o := ⟨RdAt.later h.ms hb, h.fit, h.len, h.wf⟩
inductive DoesS (o : SOp) (S : List Sil) (last : Int) : Value → List Sil → Int → Prop
  | lay (h : kindO o.kd = 0) (mv : Option Addr × Nat × Nat) {S' : List Sil} {last' : Int} (hl : LayS S last { cutS o.s with mv := mv } S' last') : DoesS o S last (layE S { cutS o.s with mv := mv } last) S' last'
  | fin (h : kindO o.kd = 1) : DoesS o S last (.tuple #[.int .i64 0, .int .i64 (endE S o.id o.now)]) (endL S o.id o.now) last
  | forget (h : kindO o.kd = 2) : DoesS o S last (.tuple #[.int .i64 ((S.countP (endS o.now) : Nat) : Int), .int .i64 0]) (S.filter fun s => !endS o.now s) last
theorem cutS_len (s : Sil) : (cutS s).ms.length ≤ 14 := by unfold cutS; rw [List.length_take]; omega
theorem cutS_fit {s : Sil} (h : MtsFit s.ms) : MtsFit (cutS s).ms := fun m hm => h m (List.mem_of_mem_take hm)
end Go.Proofs.YtcfococinllcmaaGreat

/- Several parts in one: lychgateref06.With: a contract. lychgateref06.Good: a contract: fields that may be. lychgateref09.Good: a contract. -/
namespace Go.Proofs.YtcfococinllcmaaGreat
open Go.RowKit
theorem fit_snoc {L : List Fld} {x y : ByteArray} (h : FldsFit L) (hx : x.size ≤ maxLen) (hy : y.size ≤ maxLen) : FldsFit (L ++ [(x, y)]) := fun f hf => by
  rcases List.mem_append.1 hf with h' | h'
  · exact h f h'
  · simp only [List.mem_singleton] at h'
    subst h'
    exact ⟨hx, hy⟩
def withS (nm val : ByteArray) (s : List Fld × Bool) (f : Fld) : List Fld × Bool :=
  let s1 := if !s.2 && !ltS f.1 nm then (s.1 ++ [(nm, val)], true) else s
  if f.1 = nm then s1 else (s1.1 ++ [f], s1.2)
def withK (l : List Fld) (nm val : ByteArray) (k : Nat) : List Fld × Bool := (l.take k).foldl (withS nm val) ([], false)
def withL (l : List Fld) (nm val : ByteArray) : List Fld := if (withK l nm val l.length).2 then (withK l nm val l.length).1 else (withK l nm val l.length).1 ++ [(nm, val)]
theorem withK_step {l : List Fld} {nm val : ByteArray} {k : Nat} (h : k < l.length) : withK l nm val (k + 1) = withS nm val (withK l nm val k) l[k] := by
  unfold withK
  rw [List.take_succ_eq_append_getElem h, List.foldl_append]
  rfl
theorem rd_fld (w : World) (x y : ByteArray) (t : TypeId) : RdAt (w.alloc (.cells #[.string x, .string y] t)) (.slice (some ⟨w.heap.size, 0, none⟩) 1 1) 1 2 [.string x, .string y] := by
  refine RdAt.mk rfl (Nat.le_refl _) (by simp) (fun j v hj => ?_)
  rw [Nat.zero_add]
  exact (World.cell?_alloc_at _ _ _ _ rfl).trans (by
    match j, hj with
    | 0, hj => exact hj
    | 1, hj => exact hj
    | j + 2, hj => simp at hj)
set_option maxHeartbeats 1600000 in
set_option maxRecDepth 100000 in
theorem rwith_any (l : List Fld) (nm val : ByteArray) (w : World) (v : Value) (hv : FldsAt w v l) (hf : FldsFit l) (hl : l.length ≤ 1000) (hnm : nm.size ≤ maxLen) (hval : val.size ≤ maxLen) :
    Calls Tryz.prog 111 #[v, .string nm, .string val] w fun e w' => ∃ v', e = .returned v' ∧ FldsAt w' v' (withL l nm val) ∧ FldsFit (withL l nm val) ∧ (withL l nm val).length ≤ 2 * l.length + 1 ∧ (∀ q, v'.ownBlock = some q → w.heap.size ≤ q) ∧ Below w.heap.size w w' := by
  obtain ⟨i0, hi, hz0, hz1, hz2⟩ := info_parts info_fld
  obtain ⟨a, c, rfl, hc, hr⟩ := RdAt.shape hv
  have HR := Lib.hid hr
  have HF := Lib.hid hf
  clear hr hv hf
  go_enter Tryz.func111, Tryz.ntmps111
  go_wp2
  go_loopw [7, 8, 9] (fun s7 s8 i wr => ∃ (k : Nat) (L : List Fld) (d : Bool), s8 = .bool d ∧ i = .int .i64 k ∧ k ≤ l.length ∧ wr.ownsRow w.heap.size 103 2 s7 L.length (fldCells L) ∧ FldsFit L ∧ L.length ≤ 2 * k ∧ Hid (withK l nm val k = (L, d)) ∧ Below w.heap.size w wr) (fun _ _ i _ => l.length - (intOf i).toNat)
  case atStart => exact ⟨0, [], false, rfl, rfl, Nat.zero_le _, World.ownsRow_nil _ _ _ _, (fun _ h => by cases h), Nat.zero_le _, Lib.hid rfl, Below.refl _ _⟩
  case round =>
    obtain ⟨k, L, d, rfl, rfl, hk, hown, hfit, hlen, HWK, hbr⟩ := hrel
    obtain ⟨va, vc, rfl, _, _⟩ := RdAt.shape (RdAt.own hown)
    by_cases hkl : k < l.length
    · obtain ⟨b, o, rfl, hb, hcell⟩ := HR.out (by omega)
      obtain ⟨x, hxe⟩ : ∃ x, l[k].1 = x := ⟨_, rfl⟩
      obtain ⟨y, hye⟩ : ∃ y, l[k].2 = y := ⟨_, rfl⟩
      have hfs := HF.out _ (List.getElem_mem hkl)
      rw [hxe, hye] at hfs
      obtain ⟨hx0, hy0⟩ := fldCells_at l k hkl
      rw [hxe] at hx0
      rw [hye] at hy0
      have hq0 : ∀ W, Below w.heap.size w W → W.cell? ⟨b, o + k * 2, none⟩ = some (.string x) := fun W h => keep_cell (hcell _ _ hx0) h hb
      have hq1 : ∀ W, Below w.heap.size w W → W.cell? ⟨b, o + k * 2 + 1, none⟩ = some (.string y) := fun W h => keep_cell (by have := hcell _ _ hy0; rwa [← Nat.add_assoc] at this) h hb
      have HQ0 := Lib.hid hq0
      have HQ1 := Lib.hid hq1
      have HFX := Lib.hid hfs
      have hws := withK_step (nm := nm) (val := val) hkl
      rw [show l[k] = (x, y) by rw [← hxe, ← hye], HWK.out] at hws
      have HWS := Lib.hid hws
      clear hcell hx0 hy0 hxe hye hq0 hq1 hfs hws
      have hah := fun W => rahead_any x nm W HFX.out.1
      obtain ⟨lt, hlt⟩ : ∃ lt, ltS x nm = lt := ⟨_, rfl⟩
      simp only [hlt] at hah
      have HLT := Lib.hid hlt
      have a0 := HQ0.out wr hbr
      have HO := Lib.hid hown
      have HB := Lib.hid hbr
      clear hlt hown hbr
      go_upto_region 6 with fail
      go_cut [27] (fun s27 wx => s27 = .bool (!d && !lt) ∧ wx.ownsRow w.heap.size 103 2 (.slice va L.length vc) L.length (fldCells L) ∧ Below w.heap.size w wx)
      case first =>
        cases d
        · go_wp2_with fail
          refine (hah _).mono ?_
          rintro e w1 ⟨rfl, hb1⟩
          cases lt
          · go_wp2
            go_meet
            exact ⟨rfl, own_later HO.out hb1, HB.out.trans (hb1.mono HB.out.size)⟩
          · go_wp2
            go_meet
            exact ⟨rfl, own_later HO.out hb1, HB.out.trans (hb1.mono HB.out.size)⟩
        · clear hah
          go_wp2
          go_meet
          exact ⟨rfl, HO.out, HB.out⟩
      case rest =>
        obtain ⟨rfl, hown, hbr⟩ := hcut
        clear a0 hah HO HB
        obtain ⟨q, hq⟩ : ∃ q, (!d && !lt) = q := ⟨_, rfl⟩
        have HQQ := Lib.hid hq
        rw [hq]
        clear hq
        have HO := Lib.hid hown
        have HB := Lib.hid hbr
        clear hown hbr
        go_upto_if 27 with fail
        go_cut [7, 8] (fun s7 s8 wx => ∃ (L2 : List Fld) (d2 : Bool), s8 = .bool d2 ∧ wx.ownsRow w.heap.size 103 2 s7 L2.length (fldCells L2) ∧ FldsFit L2 ∧ L2.length ≤ L.length + 1 ∧ Hid ((if q then (L ++ [(nm, val)], true) else (L, d)) = (L2, d2)) ∧ Below w.heap.size w wx)
        case first =>
          cases q
          · go_wp2
            go_meet
            exact ⟨L, d, rfl, HO.out, hfit, Nat.le_succ _, Lib.hid rfl, HB.out⟩
          · have hown9 := HO.out.alloc (.cells #[.string nm, .string val] 103)
            have hrd := rd_fld wc nm val 103
            go_wp2_with (at_builtin; (refine wpList_append_rd rfl (.tmp 28) (.tmp 32) 48 rfl w.heap.size 103 i0 (.agg #[.string ⟨#[]⟩, .string ⟨#[]⟩]) 2 32 Tryz.underlying48 hi hz0 hz1 hz2 rfl (by decide) _ _ _ rfl hown9 _ 1 [.string nm, .string val] rfl hrd (by simp [Value.oneCell']) (by unfold maxLen; omega) (by omega) (by have := HB.out.size; simp; omega) ?_); intro v' w8 hown' hg8)
            have hB8 : Below w.heap.size w w8 := (HB.out.alloc HB.out.size _).grown hg8 (by have := HB.out.size; simp; omega) (fun j e => (hown9.lt j e).1)
            go_wp2
            go_meet
            exact ⟨L ++ [(nm, val)], true, rfl, by rw [List.length_append, fldCells_append]; exact hown', fit_snoc hfit hnm hval, by simp, Lib.hid rfl, hB8⟩
        case rest =>
          obtain ⟨L2, d2, rfl, hown, hfit2, hlen2, HIF, hbr⟩ := hcut
          have HWN : Hid (withK l nm val (k + 1) = (if x = nm then (L2, d2) else (L2 ++ [(x, y)], d2))) := by
            show _ = _
            rw [HWS.out]
            unfold withS
            simp only [HLT.out, HQQ.out, HIF.out]
          clear HIF HWS
          clear HO HB
          obtain ⟨vb, vd, rfl, _, _⟩ := RdAt.shape (RdAt.own hown)
          have a0 := HQ0.out _ hbr
          have a1 := HQ1.out _ hbr
          have HO := Lib.hid hown
          have HB := Lib.hid hbr
          clear hown hbr
          by_cases hxn : x = nm
          · have hbq : (x.toList == nm.toList) = true := bytes_eq_iff.2 hxn
            rw [if_pos hxn] at HWN
            clear hxn
            go_wp2
            go_roundw
            case rel => exact ⟨k + 1, L2, d2, rfl, by go_num, by omega, HO.out, hfit2, by omega, HWN, HB.out⟩
            case measure => (simp [intOf]; try omega)
          · have hbq : (x.toList == nm.toList) = false := by rw [bytes_beq]; exact decide_eq_false hxn
            rw [if_neg hxn] at HWN
            clear hxn
            have hown9 := HO.out.alloc (.cells #[.string x, .string y] 103)
            have hrd := rd_fld wc x y 103
            go_wp2_with (at_builtin; (refine wpList_append_rd rfl (.tmp 41) (.tmp 46) 48 rfl w.heap.size 103 i0 (.agg #[.string ⟨#[]⟩, .string ⟨#[]⟩]) 2 32 Tryz.underlying48 hi hz0 hz1 hz2 rfl (by decide) _ _ _ rfl hown9 _ 1 [.string x, .string y] rfl hrd (by simp [Value.oneCell']) (by unfold maxLen; omega) (by omega) (by have := HB.out.size; simp; omega) ?_); intro v' w8 hown' hg8)
            have hB8 : Below w.heap.size w w8 := (HB.out.alloc HB.out.size _).grown hg8 (by have := HB.out.size; simp; omega) (fun j e => (hown9.lt j e).1)
            go_wp2
            go_roundw
            case rel => exact ⟨k + 1, L2 ++ [(x, y)], d2, rfl, by go_num, by omega, by rw [List.length_append, fldCells_append]; exact hown', fit_snoc hfit2 HFX.out.1 HFX.out.2, by simp; omega, HWN, hB8⟩
            case measure => (simp [intOf]; try omega)
    · obtain rfl : k = l.length := by omega
      have HWL : Hid (withL l nm val = (if d then L else L ++ [(nm, val)])) := by show _ = _; unfold withL; rw [HWK.out]
      have HO := Lib.hid hown
      have HB := Lib.hid hbr
      clear hown hbr
      cases d
      · have hown9 := HO.out.alloc (.cells #[.string nm, .string val] 103)
        have hrd := rd_fld wr nm val 103
        go_wp2_with (at_builtin; (refine wpList_append_rd rfl (.tmp 50) (.tmp 54) 48 rfl w.heap.size 103 i0 (.agg #[.string ⟨#[]⟩, .string ⟨#[]⟩]) 2 32 Tryz.underlying48 hi hz0 hz1 hz2 rfl (by decide) _ _ _ rfl hown9 _ 1 [.string nm, .string val] rfl hrd (by simp [Value.oneCell']) (by unfold maxLen; omega) (by omega) (by have := HB.out.size; simp; omega) ?_); intro v' w8 hown' hg8)
        have hB8 : Below w.heap.size w w8 := (HB.out.alloc HB.out.size _).grown hg8 (by have := HB.out.size; simp; omega) (fun j e => (hown9.lt j e).1)
        go_wp2
        go_ret
        have hr8 := RdAt.own hown'
        rw [show (1 : Nat) = [(nm, val)].length from rfl, ← List.length_append] at hr8
        refine ⟨_, rfl, ?_⟩
        rw [HWL.out]
        exact ⟨by simp only [Bool.false_eq_true, if_false]; unfold FldsAt; rw [fldCells_append]; exact hr8, fit_snoc hfit hnm hval, by simp; omega, fun q hq => (hown'.lt q hq).1, hB8⟩
      · go_wp2
        go_ret
        refine ⟨_, rfl, ?_⟩
        rw [HWL.out]
        exact ⟨RdAt.own HO.out, hfit, by simp; omega, fun q hq => (HO.out.lt q hq).1, HB.out⟩
end Go.Proofs.YtcfococinllcmaaGreat
namespace Go.Proofs.YtcfococinllcmaaGreat
open Go.RowKit
theorem rightF_nil : rightF [] = true := by decide
theorem rightF_len {L : List Fld} (h : rightF L = true) : L.length ≤ 8 := by
  unfold rightF at h
  simp only [Bool.and_eq_true, decide_eq_true_eq] at h
  exact h.1
def goodS (out : List Fld) (f : Fld) : List Fld := if rightF (withL out f.1 (f.2.extract 0 (min f.2.size 30))) then withL out f.1 (f.2.extract 0 (min f.2.size 30)) else out
def goodK (l : List Fld) (k : Nat) : List Fld := (l.take k).foldl goodS []
def goodF (l : List Fld) : List Fld := goodK l 12
theorem goodK_step {l : List Fld} {k : Nat} (h : k < l.length) : goodK l (k + 1) = goodS (goodK l k) l[k] := by
  unfold goodK
  rw [List.take_succ_eq_append_getElem h, List.foldl_append]
  rfl
theorem goodK_end {l : List Fld} {k : Nat} (h : k ≤ 12) (h2 : 12 ≤ k ∨ l.length ≤ k) : goodF l = goodK l k := by
  unfold goodF goodK
  rcases h2 with h2 | h2
  · rw [show k = 12 by omega]
  · rw [List.take_of_length_le h2, List.take_of_length_le (Nat.le_trans h2 h)]
set_option maxHeartbeats 1600000 in
set_option maxRecDepth 100000 in
theorem rgood6_any (l : List Fld) (w : World) (v : Value) (hv : FldsAt w v l) (hf : FldsFit l) (hl : l.length ≤ maxLen) :
    Calls Tryz.prog 90 #[v] w fun e w' => ∃ v', e = .returned v' ∧ FldsAt w' v' (goodF l) ∧ FldsFit (goodF l) ∧ rightF (goodF l) = true ∧ (∀ q, v'.ownBlock = some q → w.heap.size ≤ q) ∧ Below w.heap.size w w' := by
  obtain ⟨a, c, rfl, hc, hr⟩ := RdAt.shape hv
  have HR := Lib.hid hr
  have HF := Lib.hid hf
  have hl63 : l.length < 9223372036854775808 := by unfold maxLen at hl; omega
  clear hr hv hf hl
  go_enter Tryz.func90, Tryz.ntmps90
  go_wp2
  go_loopw [3, 4] (fun s3 i wr => ∃ (k : Nat) (L : List Fld), i = .int .i64 k ∧ k ≤ l.length ∧ k ≤ 12 ∧ Hid (goodK l k = L) ∧ FldsAt wr s3 L ∧ FldsFit L ∧ rightF L = true ∧ (∀ q, s3.ownBlock = some q → w.heap.size ≤ q) ∧ Below w.heap.size w wr) (fun _ i _ => l.length - (intOf i).toNat)
  case atStart => exact ⟨0, [], rfl, Nat.zero_le _, Nat.zero_le _, Lib.hid rfl, RdAt.nil _ _, (fun _ h => by cases h), rightF_nil, (fun q hq => by simp [Value.ownBlock] at hq), Below.refl _ _⟩
  case round =>
    obtain ⟨k, L, rfl, hk, hk12, HGK, hL, hfit, hright, hown, hbr⟩ := hrel
    obtain ⟨va, vc, rfl, _, _⟩ := RdAt.shape hL
    have HL := Lib.hid hL
    have HRT := Lib.hid hright
    have HFT := Lib.hid hfit
    have HOW := Lib.hid hown
    clear hL hright hfit hown
    by_cases hkl : k < l.length
    · by_cases h12 : k < 12
      · obtain ⟨b, o, rfl, hb, hcell⟩ := HR.out (by omega)
        obtain ⟨x, hxe⟩ : ∃ x, l[k].1 = x := ⟨_, rfl⟩
        obtain ⟨y, hye⟩ : ∃ y, l[k].2 = y := ⟨_, rfl⟩
        have hfs := HF.out _ (List.getElem_mem hkl)
        rw [hxe, hye] at hfs
        obtain ⟨hx0, hy0⟩ := fldCells_at l k hkl
        rw [hxe] at hx0
        rw [hye] at hy0
        have a0 : wr.cell? ⟨b, o + k * 2, none⟩ = some (.string x) := keep_cell (hcell _ _ hx0) hbr hb
        have a1 : wr.cell? ⟨b, o + k * 2 + 1, none⟩ = some (.string y) := keep_cell (by have := hcell _ _ hy0; rwa [← Nat.add_assoc] at this) hbr hb
        have hwb : b < wr.heap.size := Nat.lt_of_lt_of_le hb hbr.size
        have HFX := Lib.hid hfs
        have hys : y.size ≤ 9223372036854775807 := by have := hfs.2; unfold maxLen at this; omega
        obtain ⟨m, hm, hm1, hm2, hm3⟩ : ∃ m : Nat, min y.size 30 = m ∧ m ≤ 30 ∧ m ≤ y.size ∧ min (y.size : Int) 30 = (m : Int) := ⟨min y.size 30, rfl, by omega, by omega, by omega⟩
        have HGS : Hid (goodK l (k + 1) = if rightF (withL L x (y.extract 0 m)) then withL L x (y.extract 0 m) else L) := by
          show _ = _
          rw [goodK_step hkl, HGK.out, show l[k] = (x, y) by rw [← hxe, ← hye]]
          unfold goodS
          simp only [hm]
        clear hm HGK
        have hwith : ∀ (val : ByteArray) W, val.size ≤ maxLen → Below wr.heap.size wr W → Calls Tryz.prog 111 #[.slice va L.length vc, .string x, .string val] W fun e w' => ∃ v', e = .returned v' ∧ FldsAt w' v' (withL L x val) ∧ FldsFit (withL L x val) ∧ (withL L x val).length ≤ 2 * L.length + 1 ∧ (∀ q, v'.ownBlock = some q → W.heap.size ≤ q) ∧ Below W.heap.size W w' := fun val W hval h =>
          rwith_any L x val W _ (HL.out.later h) HFT.out (by have := rightF_len HRT.out; omega) HFX.out.1 hval
        have HWI := Lib.hid hwith
        have HB := Lib.hid hbr
        clear hcell hx0 hy0 hxe hye hfs hwith hbr
        go_upto_region 5 with fail
        refine wp_region_held_drew (S := (fun W => W.cell? ⟨b, o + k * 2, none⟩ = some (.string x) ∧ W.cell? ⟨b, o + k * 2 + 1, none⟩ = some (.string y))) (by kernel_rfl) ⟨a0, a1⟩ (fun hHeld => ?_)
        refine held_take (i := 0) (v := ?_) rfl rfl (by kernel_rfl) (by kernel_rfl) (by kernel_rfl) (fun _ _ _ h => h) (by rfl) hHeld ?_ ?_
        rotate_left
        · rintro wh ⟨z0, z1⟩
          go_simp
          (try with_reducible rfl)
        simp only [Act.put, List.setIfInBounds_toArray, List.set_cons_zero, List.set_cons_succ]
        refine held_take (i := 1) (v := ?_) rfl rfl (by kernel_rfl) (by kernel_rfl) (by kernel_rfl) (fun _ _ _ h => h) (by rfl) hHeld ?_ ?_
        rotate_left
        · rintro wh ⟨z0, z1⟩
          go_simp
          (try with_reducible rfl)
        simp only [Act.put, List.setIfInBounds_toArray, List.set_cons_zero, List.set_cons_succ]
        refine held_take (i := 2) (v := ?_) rfl rfl (by kernel_rfl) (by kernel_rfl) (by kernel_rfl) (fun _ _ _ h => h) (by rfl) hHeld ?_ ?_
        rotate_left
        · rintro wh ⟨z0, z1⟩
          go_simp
          (try with_reducible rfl)
        simp only [Act.put, List.setIfInBounds_toArray, List.set_cons_zero, List.set_cons_succ]
        refine held_take (i := 3) (v := ?_) rfl rfl (by kernel_rfl) (by kernel_rfl) (by kernel_rfl) (fun _ _ _ h => h) (by rfl) hHeld ?_ ?_
        rotate_left
        · rintro wh ⟨z0, z1⟩
          go_simp
          (try with_reducible rfl)
        simp only [Act.put, List.setIfInBounds_toArray, List.set_cons_zero, List.set_cons_succ]
        refine held_take (i := 4) (v := ?_) rfl rfl (by kernel_rfl) (by kernel_rfl) (by kernel_rfl) (fun _ _ _ h => h) (by rfl) hHeld ?_ ?_
        rotate_left
        · rintro wh ⟨z0, z1⟩
          go_simp
          (try with_reducible rfl)
        simp only [Act.put, List.setIfInBounds_toArray, List.set_cons_zero, List.set_cons_succ]
        refine held_take (i := 5) (v := ?_) rfl rfl (by kernel_rfl) (by kernel_rfl) (by kernel_rfl) (fun _ _ _ h => h) (by rfl) hHeld ?_ ?_
        rotate_left
        · rintro wh ⟨z0, z1⟩
          go_simp
          (try with_reducible rfl)
        simp only [Act.put, List.setIfInBounds_toArray, List.set_cons_zero, List.set_cons_succ]
        refine held_take (i := 6) (v := ?_) rfl rfl (by kernel_rfl) (by kernel_rfl) (by kernel_rfl) (fun _ _ _ h => h) (by rfl) hHeld ?_ ?_
        rotate_left
        · rintro wh ⟨z0, z1⟩
          go_simp
          (try with_reducible rfl)
        simp only [Act.put, List.setIfInBounds_toArray, List.set_cons_zero, List.set_cons_succ]
        refine held_take (i := 7) (v := ?_) rfl rfl (by kernel_rfl) (by kernel_rfl) (by kernel_rfl) (fun _ _ _ h => h) (by rfl) hHeld ?_ ?_
        rotate_left
        · rintro wh ⟨z0, z1⟩
          go_simp
          (try with_reducible rfl)
        simp only [Act.put, List.setIfInBounds_toArray, List.set_cons_zero, List.set_cons_succ]
        refine held_take (i := 8) (v := ?_) rfl rfl (by kernel_rfl) (by kernel_rfl) (by kernel_rfl) (fun _ _ _ h => h) (by rfl) hHeld ?_ ?_
        rotate_left
        · rintro wh ⟨z0, z1⟩
          go_simp
          (try with_reducible rfl)
        simp only [Act.put, List.setIfInBounds_toArray, List.set_cons_zero, List.set_cons_succ]
        refine held_take (i := 9) (v := ?_) rfl rfl (by kernel_rfl) (by kernel_rfl) (by kernel_rfl) (fun _ _ _ h => h) (by rfl) hHeld ?_ ?_
        rotate_left
        · rintro wh ⟨z0, z1⟩
          go_simp
          (try with_reducible rfl)
        simp only [Act.put, List.setIfInBounds_toArray, List.set_cons_zero, List.set_cons_succ]
        refine held_take (i := 10) (v := ?_) rfl rfl (by kernel_rfl) (by kernel_rfl) (by kernel_rfl) (fun _ _ _ h => h) (by rfl) hHeld ?_ ?_
        rotate_left
        · rintro wh ⟨z0, z1⟩
          go_simp
          (try with_reducible rfl)
        simp only [Act.put, List.setIfInBounds_toArray, List.set_cons_zero, List.set_cons_succ]
        refine held_take (i := 11) (v := ?_) rfl rfl (by kernel_rfl) (by kernel_rfl) (by kernel_rfl) (fun _ _ _ h => h) (by rfl) hHeld ?_ ?_
        rotate_left
        · rintro wh ⟨z0, z1⟩
          go_simp
          (try with_reducible rfl)
        simp only [Act.put, List.setIfInBounds_toArray, List.set_cons_zero, List.set_cons_succ]
        refine held_take (i := 12) (v := ?_) rfl rfl (by kernel_rfl) (by kernel_rfl) (by kernel_rfl) (fun _ _ _ h => h) (by rfl) hHeld ?_ ?_
        rotate_left
        · rintro wh ⟨z0, z1⟩
          go_simp
          (try with_reducible rfl)
        simp only [Act.put, List.setIfInBounds_toArray, List.set_cons_zero, List.set_cons_succ]
        refine held_take (i := 13) (v := ?_) rfl rfl (by kernel_rfl) (by kernel_rfl) (by kernel_rfl) (fun _ _ _ h => h) (by rfl) hHeld ?_ ?_
        rotate_left
        · rintro wh ⟨z0, z1⟩
          go_simp
          (try with_reducible rfl)
        simp only [Act.put, List.setIfInBounds_toArray, List.set_cons_zero, List.set_cons_succ]
        refine held_take (i := 14) (v := ?_) rfl rfl (by kernel_rfl) (by kernel_rfl) (by kernel_rfl) (fun _ _ _ h => h) (by rfl) hHeld ?_ ?_
        rotate_left
        · rintro wh ⟨z0, z1⟩
          go_simp
          (try with_reducible rfl)
        simp only [Act.put, List.setIfInBounds_toArray, List.set_cons_zero, List.set_cons_succ]
        refine held_take (i := 15) (v := ?_) rfl rfl (by kernel_rfl) (by kernel_rfl) (by kernel_rfl) (fun _ _ _ h => h) (by rfl) hHeld ?_ ?_
        rotate_left
        · rintro wh ⟨z0, z1⟩
          go_simp
          (try with_reducible rfl)
        simp only [Act.put, List.setIfInBounds_toArray, List.set_cons_zero, List.set_cons_succ]
        refine held_take (i := 16) (v := ?_) rfl rfl (by kernel_rfl) (by kernel_rfl) (by kernel_rfl) (fun _ _ _ h => h) (by rfl) hHeld ?_ ?_
        rotate_left
        · rintro wh ⟨z0, z1⟩
          go_simp
          (try with_reducible rfl)
        simp only [Act.put, List.setIfInBounds_toArray, List.set_cons_zero, List.set_cons_succ]
        refine held_take (i := 17) (v := ?_) rfl rfl (by kernel_rfl) (by kernel_rfl) (by kernel_rfl) (fun _ _ _ h => h) (by rfl) hHeld ?_ ?_
        rotate_left
        · rintro wh ⟨z0, z1⟩
          go_simp
          (try with_reducible rfl)
        simp only [Act.put, List.setIfInBounds_toArray, List.set_cons_zero, List.set_cons_succ]
        refine held_take (i := 18) (v := ?_) rfl rfl (by kernel_rfl) (by kernel_rfl) (by kernel_rfl) (fun _ _ _ h => h) (by rfl) hHeld ?_ ?_
        rotate_left
        · rintro wh ⟨z0, z1⟩
          go_simp
          (try with_reducible rfl)
        simp only [Act.put, List.setIfInBounds_toArray, List.set_cons_zero, List.set_cons_succ]
        refine held_call (i := 19) rfl (by kernel_rfl) (by rfl) (fun K hK => ?_)
        (go_simp; go_at_call 111; refine (HWI.out _ _ ?_ (Below.refl _ wr).drew).mono ?_; (· rw [ByteArray.size_extract]; unfold maxLen; omega); rintro e w1 ⟨v1, rfl, hF1, hfit1, hlen1, hown1, hb1⟩; have hB1 : Below wr.heap.size wr w1 := ((Below.refl _ _).drew).trans hb1)
        refine hK.out _ _ ⟨keep_cell a0 hB1 hwb, keep_cell a1 hB1 hwb⟩ (fun hHeld => ?_)
        clear hK K
        (try simp only [Act.put, List.setIfInBounds_toArray, List.set_cons_zero, List.set_cons_succ])
        refine held_take (i := 20) (v := ?_) rfl rfl (by kernel_rfl) (by kernel_rfl) (by kernel_rfl) (fun _ _ _ h => h) (by rfl) hHeld ?_ ?_
        rotate_left
        · rintro wh ⟨z0, z1⟩
          go_simp
          (try with_reducible rfl)
        simp only [Act.put, List.setIfInBounds_toArray, List.set_cons_zero, List.set_cons_succ]
        refine wpAnyH_done (by kernel_rfl) ?_ _
        have HB1 := Lib.hid (HB.out.trans (hB1.mono HB.out.size))
        generalize withL L x (y.extract 0 m) = L1 at *
        have hL1 := HL.out.later hB1
        have hlen17 := rightF_len HRT.out
        have kr := rright6_any L1 w1 v1 hF1 hfit1 (by unfold maxLen; omega)
        obtain ⟨q, hq⟩ : ∃ q, rightF L1 = q := ⟨_, rfl⟩
        rw [hq] at kr
        obtain ⟨vb, vd, rfl, _, _⟩ := RdAt.shape hF1
        have HF1 := Lib.hid hF1
        have HO1 : Hid (∀ q, (Value.slice vb L1.length vd).ownBlock = some q → w.heap.size ≤ q) := Lib.hid (fun q hq => Nat.le_trans HB.out.size (hown1 q hq))
        clear hown1
        have HFT1 := Lib.hid hfit1
        have HQ := Lib.hid hq
        have HL1 := Lib.hid hL1
        clear hB1 hb1 hF1 hfit1 hlen1 hq hL1 hlen17 a0 a1 HWI HB hm1 hm2 hm3 hys
        go_wp2_with fail
        refine kr.mono ?_
        rintro e w2 ⟨rfl, hb2⟩
        have HF2 := Lib.hid (HF1.out.later hb2)
        have HL2 := Lib.hid (HL1.out.later hb2)
        have HB2 := Lib.hid (HB1.out.trans (hb2.mono HB1.out.size))
        clear kr hb2 HF1 HL1 HB1
        cases q
        · go_wp2
          go_roundw
          case rel => exact ⟨k + 1, L, by go_num, by omega, by omega, Lib.hid (by rw [HGS.out, HQ.out]; rfl), HL2.out, HFT.out, HRT.out, HOW.out, HB2.out⟩
          case measure => (simp [intOf]; try omega)
        · go_wp2
          go_roundw
          case rel => exact ⟨k + 1, L1, by go_num, by omega, by omega, Lib.hid (by rw [HGS.out, HQ.out]; rfl), HF2.out, HFT1.out, HQ.out, HO1.out, HB2.out⟩
          case measure => (simp [intOf]; try omega)
      · have h12' : (12 : Int) ≤ (k : Int) := by omega
        have HE : Hid (goodF l = L) := by show _ = _; rw [goodK_end hk12 (.inl (by omega)), HGK.out]
        go_wp2
        go_ret
        exact ⟨_, rfl, by rw [HE.out]; exact HL.out, by rw [HE.out]; exact HFT.out, by rw [HE.out]; exact HRT.out, HOW.out, hbr⟩
    · obtain rfl : k = l.length := by omega
      have HE : Hid (goodF l = L) := by show _ = _; rw [goodK_end hk12 (.inr (Nat.le_refl _)), HGK.out]
      go_wp2
      go_ret
      exact ⟨_, rfl, by rw [HE.out]; exact HL.out, by rw [HE.out]; exact HFT.out, by rw [HE.out]; exact HRT.out, HOW.out, hbr⟩
end Go.Proofs.YtcfococinllcmaaGreat
namespace Go.Proofs.YtcfococinllcmaaGreat
open Go.RowKit
theorem rd_puts' {w : World} {v : Value} {n k : Nat} {xs : List Value} (h : RdAt w v n k xs) {g o : Nat} (hg : 0 < n → ∀ q, v.ownBlock = some q → q ≠ g) (vs : List Value) : RdAt (w.setCells g o vs) v n k xs := by
  refine ⟨h.1, ?_⟩
  rcases h.2 with h | ⟨a, c, rfl, hc, hr⟩
  · exact .inl h
  · refine .inr ⟨a, c, rfl, hc, fun hn => ?_⟩
    obtain ⟨b, o', rfl, hlt, hcell⟩ := hr hn
    have hne := hg hn b rfl
    refine ⟨b, o', rfl, Nat.lt_of_lt_of_le hlt (below_puts_base (g := g) (o := o) (Below.refl 0 w) (Nat.zero_le _) vs).size, fun j x hx => ?_⟩
    rw [World.cell?_setCells_out _ _ _ _ _ (fun hb _ => absurd hb hne)]
    exact hcell j x hx
def gSrc (s : ByteArray) : ByteArray := if nameL (B s) then s else ⟨#[112, 114, 111, 109]⟩
def gLv (l : Int) : Int := if rightL l then l else 1
def gFr (f : Int) : Int := (IntKind.u64.wrap f).tmod 1000
def gTil (f t : Int) : Int := if t = 0 then 0 else gFr f + 1 + (IntKind.u64.wrap t).tmod 1000
theorem gFr_in (f : Int) : 0 ≤ gFr f ∧ gFr f < 1000 := by
  have h : 0 ≤ IntKind.u64.wrap f := by simp only [IntKind.wrap, IntKind.bits, IntKind.signed]; simp; omega
  unfold gFr
  rw [Int.tmod_eq_emod_of_nonneg h]
  omega
structure GSt (w : World) (go : Nat) (src : ByteArray) (fa : Value) (lv : Int) (c : Nat) (fr til : Int) (vo : Value) (L : List Fld) (s' : ByteArray) (l' f' t' : Int) (W : World) : Prop where
  a : C6 w.heap.size (.string src) fa (.int .i64 lv) (.int .u32 c) (.int .i64 fr) (.int .i64 til) W
  o : C6 go (.string s') vo (.int .i64 l') (.int .u32 c) (.int .i64 f') (.int .i64 t') W
  oth : W.there go 0 6
  rth : W.there (w.heap.size + 1) 0 6
  f : FldsAt W vo L
  far : 0 < L.length → ∀ q, vo.ownBlock = some q → q ≠ go ∧ q ≠ w.heap.size + 1 ∧ w.heap.size ≤ q
  ge : w.heap.size + 2 ≤ go
  lt : go < W.heap.size
  below : Below w.heap.size w W
theorem GSt.later {w W W' : World} {go : Nat} {src : ByteArray} {fa : Value} {lv : Int} {c : Nat} {fr til : Int} {vo : Value} {L : List Fld} {s' : ByteArray} {l' f' t' : Int} (h : GSt w go src fa lv c fr til vo L s' l' f' t' W) (hb : Below W.heap.size W W') : GSt w go src fa lv c fr til vo L s' l' f' t' W' := by
  have h1 := h.lt
  have h2 := h.ge
  exact ⟨h.a.later hb (by omega), h.o.later hb h1, there_later h.oth hb h1, there_later h.rth hb (by omega), h.f.later hb, h.far, h2, Nat.lt_of_lt_of_le h1 hb.size, h.below.trans (hb.mono h.below.size)⟩
theorem c6_set {w : World} {g : Nat} {v0 v1 v2 v3 v4 v5 : Value} (h : C6 g v0 v1 v2 v3 v4 v5 w) (x : Value) :
    C6 g x v1 v2 v3 v4 v5 (w.setCells g 0 [x]) ∧ C6 g v0 v1 x v3 v4 v5 (w.setCells g 2 [x]) ∧ C6 g v0 v1 v2 v3 x v5 (w.setCells g 4 [x]) ∧ C6 g v0 v1 v2 v3 v4 x (w.setCells g 5 [x]) := by
  obtain ⟨h0, h1, h2, h3, h4, h5⟩ := h
  have hs : ∀ j v, w.cell? ⟨g, j, none⟩ = some v → (w.setCells g j [x]).cell? ⟨g, j, none⟩ = some x := fun j v h => World.cell?_setCell_same' w ⟨g, j, none⟩ x (by rw [h]; rfl)
  have ho : ∀ i j v, j ≠ i → w.cell? ⟨g, j, none⟩ = some v → (w.setCells g i [x]).cell? ⟨g, j, none⟩ = some v := fun i j v hne h => by
    rw [World.cell?_setCells_out _ _ _ _ _ (fun _ _ => by simp; omega)]
    exact h
  exact ⟨⟨hs _ _ h0, ho _ _ _ (by decide) h1, ho _ _ _ (by decide) h2, ho _ _ _ (by decide) h3, ho _ _ _ (by decide) h4, ho _ _ _ (by decide) h5⟩,
    ⟨ho _ _ _ (by decide) h0, ho _ _ _ (by decide) h1, hs _ _ h2, ho _ _ _ (by decide) h3, ho _ _ _ (by decide) h4, ho _ _ _ (by decide) h5⟩,
    ⟨ho _ _ _ (by decide) h0, ho _ _ _ (by decide) h1, ho _ _ _ (by decide) h2, ho _ _ _ (by decide) h3, hs _ _ h4, ho _ _ _ (by decide) h5⟩,
    ⟨ho _ _ _ (by decide) h0, ho _ _ _ (by decide) h1, ho _ _ _ (by decide) h2, ho _ _ _ (by decide) h3, ho _ _ _ (by decide) h4, hs _ _ h5⟩⟩
section
variable {w W : World} {go : Nat} {src : ByteArray} {fa : Value} {lv : Int} {c : Nat} {fr til : Int} {vo : Value} {L : List Fld} {s' : ByteArray} {l' f' t' : Int}
theorem GSt.put (h : GSt w go src fa lv c fr til vo L s' l' f' t' W) (j : Nat) (x : Value) {s2 : ByteArray} {l2 f2 t2 : Int} (ho : C6 go (.string s2) vo (.int .i64 l2) (.int .u32 c) (.int .i64 f2) (.int .i64 t2) (W.setCells go j [x])) : GSt w go src fa lv c fr til vo L s2 l2 f2 t2 (W.setCells go j [x]) := by
  have h2 := h.ge
  exact ⟨c6_out h.a (by omega) j [x], ho, World.there_setCells h.oth go j [x], World.there_setCells h.rth go j [x], rd_puts' h.f (fun h0 q hq => (h.far h0 q hq).1) [x], h.far, h2,
    Nat.lt_of_lt_of_le h.lt (below_puts_base (g := go) (o := j) (Below.refl 0 W) (Nat.zero_le _) [x]).size, below_puts h.below (by omega) [x]⟩
theorem GSt.put0 (h : GSt w go src fa lv c fr til vo L s' l' f' t' W) (x : ByteArray) : GSt w go src fa lv c fr til vo L x l' f' t' (W.setCells go 0 [.string x]) := h.put 0 _ (c6_set h.o _).1
theorem GSt.put2 (h : GSt w go src fa lv c fr til vo L s' l' f' t' W) (x : Int) : GSt w go src fa lv c fr til vo L s' x f' t' (W.setCells go 2 [.int .i64 x]) := h.put 2 _ (c6_set h.o _).2.1
theorem GSt.put4 (h : GSt w go src fa lv c fr til vo L s' l' f' t' W) (x : Int) : GSt w go src fa lv c fr til vo L s' l' x t' (W.setCells go 4 [.int .i64 x]) := h.put 4 _ (c6_set h.o _).2.2.1
theorem GSt.put5 (h : GSt w go src fa lv c fr til vo L s' l' f' t' W) (x : Int) : GSt w go src fa lv c fr til vo L s' l' f' x (W.setCells go 5 [.int .i64 x]) := h.put 5 _ (c6_set h.o _).2.2.2
end
set_option maxHeartbeats 1600000 in
set_option maxRecDepth 100000 in
theorem rgood9_any (src : ByteArray) (fl : List Fld) (fv : Value) (lv : Int) (c : Nat) (fr til : Int) (w : World) (hs : src.size ≤ maxLen) (hv : FldsAt w fv fl) (hfit : FldsFit fl) (hl : fl.length ≤ maxLen) :
    Calls Tryz.prog 59 #[.agg #[.string src, fv, .int .i64 lv, .int .u32 c, .int .i64 fr, .int .i64 til]] w fun e w' =>
      ∃ v', e = .returned (.tuple #[.agg #[.string (gSrc src), v', .int .i64 (gLv lv), .int .u32 c, .int .i64 (gFr fr), .int .i64 (gTil fr til)], .bool (decide (0 < (goodF fl).length))]) ∧ FldsAt w' v' (goodF fl) ∧ FldsFit (goodF fl) ∧ rightF (goodF fl) = true ∧ (0 < (goodF fl).length → ∀ q, v'.ownBlock = some q → w.heap.size ≤ q) ∧ Below w.heap.size w w' := by
  have k1 := fun W (h : Below w.heap.size w W) => rgood6_any fl W fv (hv.later h) hfit hl
  have k2 := fun W => refName.name_any src W hs
  have k3 := rright_any lv c
  obtain ⟨fa, fc, rfl, _, _⟩ := RdAt.shape hv
  obtain ⟨L, hL⟩ : ∃ z, goodF fl = z := ⟨_, rfl⟩
  rw [hL] at k1 ⊢
  have K1 := Lib.hid k1
  have K2 := Lib.hid k2
  have K3 := Lib.hid k3
  clear hL hv hfit hl hs k1 k2 k3
  obtain ⟨W0, hW0⟩ : ∃ z, (w.alloc (.cells #[.string src, .slice fa fl.length fc, .int .i64 lv, .int .u32 c, .int .i64 fr, .int .i64 til] 50)).alloc (.cells #[.string ⟨#[]⟩, .slice none 0 0, .int .i64 0, .int .u32 0, .int .i64 0, .int .i64 0] 50) = z := ⟨_, rfl⟩
  have hb0 : Below w.heap.size w W0 := by rw [← hW0]; exact (alloc_below _ _).trans ((alloc_below _ _).mono (by simp))
  have hz : w.heap.size + 2 ≤ W0.heap.size := by rw [← hW0]; simp
  have hd := (Below.refl W0.heap.size W0)
  rw [← hW0] at hd
  obtain ⟨h1, h2, h3⟩ := box_cells hd
  have hT := box_there hd
  obtain ⟨h4, _, _⟩ := box_cells h3
  rw [World.size_alloc] at h1 hT
  rw [hW0] at h1 h4 hT
  have q0 := h4 0 _ rfl
  have q1 := h4 1 _ rfl
  have q2 := h4 2 _ rfl
  have q3 := h4 3 _ rfl
  have q4 := h4 4 _ rfl
  have q5 := h4 5 _ rfl
  have HA : Hid (C6 w.heap.size (.string src) (.slice fa fl.length fc) (.int .i64 lv) (.int .u32 c) (.int .i64 fr) (.int .i64 til) W0) := Lib.hid ⟨q0, q1, q2, q3, q4, q5⟩
  have HB0 := Lib.hid hb0
  have HT : Hid (W0.there (w.heap.size + 1) 0 6) := Lib.hid hT
  have HW0 := Lib.hid hW0
  clear h1 h2 h3 h4 hd hT hb0 hW0
  go_enter Tryz.func59, Tryz.ntmps59
  go_upto_region 1 with fail
  rw [HW0.out]
  clear HW0
  go_cut [4] (fun s4 wx => ∃ go vo, s4 = .pointer (some ⟨go, 0, none⟩) ∧ FldsFit L ∧ rightF L = true ∧ GSt w go src (.slice fa fl.length fc) lv c fr til vo L src lv 0 0 wx)
  case first =>
    refine wp_region_held_drew (S := (fun W => W.cell? ⟨w.heap.size, 0, none⟩ = some (.string src) ∧ W.cell? ⟨w.heap.size, 1, none⟩ = some (.slice fa fl.length fc) ∧ W.cell? ⟨w.heap.size, 2, none⟩ = some (.int .i64 lv) ∧ W.cell? ⟨w.heap.size, 3, none⟩ = some (.int .u32 c) ∧ W.cell? ⟨w.heap.size, 4, none⟩ = some (.int .i64 fr) ∧ W.cell? ⟨w.heap.size, 5, none⟩ = some (.int .i64 til))) (by kernel_rfl) ⟨q0, q1, q2, q3, q4, q5⟩ (fun hHeld => ?_)
    have hd : Below W0.heap.size W0 W0.drew := (Below.refl _ _).drew
    have hds : W0.heap.size ≤ W0.drew.heap.size := Nat.le_refl _
    generalize W0.drew = wd at *
    refine held_take (i := 0) (v := ?_) rfl rfl (by kernel_rfl) (by kernel_rfl) (by kernel_rfl) (fun _ _ _ h => h) (by rfl) hHeld ?_ ?_
    rotate_left
    · rintro wh ⟨z0, z1, z2, z3, z4, z5⟩
      go_simp
      (try with_reducible rfl)
    simp only [Act.put, List.setIfInBounds_toArray, List.set_cons_zero, List.set_cons_succ]
    refine held_take (i := 1) (v := ?_) rfl rfl (by kernel_rfl) (by kernel_rfl) (by kernel_rfl) (fun _ _ _ h => h) (by rfl) hHeld ?_ ?_
    rotate_left
    · rintro wh ⟨z0, z1, z2, z3, z4, z5⟩
      go_simp
      (try with_reducible rfl)
    simp only [Act.put, List.setIfInBounds_toArray, List.set_cons_zero, List.set_cons_succ]
    refine held_take (i := 2) (v := ?_) rfl rfl (by kernel_rfl) (by kernel_rfl) (by kernel_rfl) (fun _ _ _ h => h) (by rfl) hHeld ?_ ?_
    rotate_left
    · rintro wh ⟨z0, z1, z2, z3, z4, z5⟩
      go_simp
      (try with_reducible rfl)
    simp only [Act.put, List.setIfInBounds_toArray, List.set_cons_zero, List.set_cons_succ]
    refine held_take (i := 3) (v := ?_) rfl rfl (by kernel_rfl) (by kernel_rfl) (by kernel_rfl) (fun _ _ _ h => h) (by rfl) hHeld ?_ ?_
    rotate_left
    · rintro wh ⟨z0, z1, z2, z3, z4, z5⟩
      go_simp
      (try with_reducible rfl)
    simp only [Act.put, List.setIfInBounds_toArray, List.set_cons_zero, List.set_cons_succ]
    refine held_take (i := 5) (v := ?_) rfl rfl (by kernel_rfl) (by kernel_rfl) (by kernel_rfl) (fun _ _ _ h => h) (by rfl) hHeld ?_ ?_
    rotate_left
    · rintro wh ⟨z0, z1, z2, z3, z4, z5⟩
      go_simp
      (try with_reducible rfl)
    simp only [Act.put, List.setIfInBounds_toArray, List.set_cons_zero, List.set_cons_succ]
    refine held_take (i := 6) (v := ?_) rfl rfl (by kernel_rfl) (by kernel_rfl) (by kernel_rfl) (fun _ _ _ h => h) (by rfl) hHeld ?_ ?_
    rotate_left
    · rintro wh ⟨z0, z1, z2, z3, z4, z5⟩
      go_simp
      (try with_reducible rfl)
    simp only [Act.put, List.setIfInBounds_toArray, List.set_cons_zero, List.set_cons_succ]
    refine held_two (i := 4) (j := 8) rfl rfl (by kernel_rfl) (fun K hK => ?_) (fun K hK => ?_)
    · go_simp; go_at_call 90; refine (K1.out _ (HB0.out.trans (hd.mono HB0.out.size))).mono ?_; rintro e wc ⟨vz, rfl, hFz, hfit, hright, hOz, hbc⟩
      obtain ⟨va, vc, rfl, _, _⟩ := RdAt.shape hFz
      have hBc := hd.trans (hbc.mono hd.size)
      refine hK.out _ _ ⟨keep_cell q0 hBc (by omega), keep_cell q1 hBc (by omega), keep_cell q2 hBc (by omega), keep_cell q3 hBc (by omega), keep_cell q4 hBc (by omega), keep_cell q5 hBc (by omega)⟩ (fun hHeld => ?_)
      clear hK K
      (try simp only [Act.put, List.setIfInBounds_toArray, List.set_cons_zero, List.set_cons_succ])
      refine held_take (i := 7) (v := ?_) rfl rfl (by kernel_rfl) (by kernel_rfl) (by kernel_rfl) (fun _ _ _ h => h) (by rfl) hHeld ?_ ?_
      rotate_left
      · rintro wh ⟨z0, z1, z2, z3, z4, z5⟩
        go_simp
        (try with_reducible rfl)
      simp only [Act.put, List.setIfInBounds_toArray, List.set_cons_zero, List.set_cons_succ]
      refine held_step (i := 8) rfl (by kernel_rfl) (fun K hK => ?_)
      have haa := alloc_below wc (.cells #[.string ⟨#[]⟩, .slice none 0 0, .int .i64 0, .int .u32 0, .int .i64 0, .int .i64 0] 50)
      have hBa := hBc.trans (haa.mono hBc.size)
      have hTa := box_there (Below.refl (wc.alloc (.cells #[.string ⟨#[]⟩, .slice none 0 0, .int .i64 0, .int .u32 0, .int .i64 0, .int .i64 0] 50)).heap.size (wc.alloc (.cells #[.string ⟨#[]⟩, .slice none 0 0, .int .i64 0, .int .u32 0, .int .i64 0, .int .i64 0] 50)))
      have hlta : wc.heap.size < (wc.alloc (.cells #[.string ⟨#[]⟩, .slice none 0 0, .int .i64 0, .int .u32 0, .int .i64 0, .int .i64 0] 50)).heap.size := by rw [World.size_alloc]; omega
      go_simp
      refine hK.out _ _ ⟨keep_cell q0 hBa (by omega), keep_cell q1 hBa (by omega), keep_cell q2 hBa (by omega), keep_cell q3 hBa (by omega), keep_cell q4 hBa (by omega), keep_cell q5 hBa (by omega)⟩ (fun hHeld => ?_)
      clear hK K
      (try simp only [Act.put, List.setIfInBounds_toArray, List.set_cons_zero, List.set_cons_succ])
      have hFl := hFz.later (below_puts (g := wc.heap.size) (o := 0) haa (Nat.le_refl _) [.string src, .slice va L.length vc, .int .i64 lv, .int .u32 c, .int .i64 0, .int .i64 0])
      have hT : (wc.alloc (.cells #[.string ⟨#[]⟩, .slice none 0 0, .int .i64 0, .int .u32 0, .int .i64 0, .int .i64 0] 50)).there wc.heap.size 0 6 := hTa
      clear hTa
      have hcs := hBc.size
      have hfar : 0 < L.length → ∀ q, (Value.slice va L.length vc).ownBlock = some q → q ≠ wc.heap.size ∧ q ≠ w.heap.size + 1 ∧ w.heap.size ≤ q := fun h0 q hq => ⟨by obtain ⟨b, o, c, he, _, hlt, _⟩ := RdAt.some hFz h0; rw [he] at hq; simp only [Value.ownBlock, Option.some.injEq] at hq; omega, by have := hOz q hq; omega, by have := hOz q hq; omega⟩
      generalize wc.alloc (.cells #[.string ⟨#[]⟩, .slice none 0 0, .int .i64 0, .int .u32 0, .int .i64 0, .int .i64 0] 50) = wa at *
      have f0 := there_free hT 0 (by decide)
      have f1 := there_free hT 1 (by decide)
      have f2 := there_free hT 2 (by decide)
      have f3 := there_free hT 3 (by decide)
      have f4 := there_free hT 4 (by decide)
      have f5 := there_free hT 5 (by decide)
      obtain ⟨y0, hy0⟩ := there_cell hT 0 (by decide)
      obtain ⟨y1, hy1⟩ := there_cell hT 1 (by decide)
      obtain ⟨y2, hy2⟩ := there_cell hT 2 (by decide)
      obtain ⟨y3, hy3⟩ := there_cell hT 3 (by decide)
      obtain ⟨y4, hy4⟩ := there_cell hT 4 (by decide)
      obtain ⟨y5, hy5⟩ := there_cell hT 5 (by decide)
      have hB9 : Below W0.heap.size W0 (wa.setCells wc.heap.size 0 [.string src, .slice va L.length vc, .int .i64 lv, .int .u32 c, .int .i64 0, .int .i64 0]) := below_puts (g := wc.heap.size) (o := 0) hBa (by omega) [.string src, .slice va L.length vc, .int .i64 lv, .int .u32 c, .int .i64 0, .int .i64 0]
      have hF9 : FldsAt (wa.setCells wc.heap.size 0 [.string src, .slice va L.length vc, .int .i64 lv, .int .u32 c, .int .i64 0, .int .i64 0]) (.slice va L.length vc) L := hFl
      have hZ9 := c6_puts wa wc.heap.size (.string src) (.slice va L.length vc) (.int .i64 lv) (.int .u32 c) (.int .i64 0) (.int .i64 0) hT
      have hL9 : wc.heap.size < (wa.setCells wc.heap.size 0 [.string src, .slice va L.length vc, .int .i64 lv, .int .u32 c, .int .i64 0, .int .i64 0]).heap.size := Nat.lt_of_lt_of_le hlta (below_puts_base (g := wc.heap.size) (o := 0) (Below.refl 0 wa) (Nat.zero_le _) [.string src, .slice va L.length vc, .int .i64 lv, .int .u32 c, .int .i64 0, .int .i64 0]).size
      have HG : Hid (GSt w wc.heap.size src (.slice fa fl.length fc) lv c fr til (.slice va L.length vc) L src lv 0 0 (wa.setCells wc.heap.size 0 [.string src, .slice va L.length vc, .int .i64 lv, .int .u32 c, .int .i64 0, .int .i64 0])) := Lib.hid ⟨HA.out.later hB9 (by omega), hZ9, World.there_setCells hT wc.heap.size 0 [.string src, .slice va L.length vc, .int .i64 lv, .int .u32 c, .int .i64 0, .int .i64 0], there_later HT.out hB9 (by omega), hF9, hfar, by omega, hL9, HB0.out.trans (hB9.mono HB0.out.size)⟩
      have HB9 := Lib.hid hB9
      clear hB9 hF9 hZ9 hL9
      refine held_step (i := 9) rfl (by kernel_rfl) (fun K hK => ?_)
      go_simp
      refine hK.out _ _ ⟨keep_cell q0 HB9.out (by omega), keep_cell q1 HB9.out (by omega), keep_cell q2 HB9.out (by omega), keep_cell q3 HB9.out (by omega), keep_cell q4 HB9.out (by omega), keep_cell q5 HB9.out (by omega)⟩ (fun hHeld => ?_)
      clear hK K
      (try simp only [Act.put, List.setIfInBounds_toArray, List.set_cons_zero, List.set_cons_succ])
      refine wpAnyH_done (by kernel_rfl) ?_ _
      go_wp2
      go_meet
      exact ⟨wc.heap.size, _, rfl, hfit, hright, HG.out⟩
    · have haa := alloc_below wd (.cells #[.string ⟨#[]⟩, .slice none 0 0, .int .i64 0, .int .u32 0, .int .i64 0, .int .i64 0] 50)
      have hBa := hd.trans (haa.mono hd.size)
      have hTa := box_there (Below.refl (wd.alloc (.cells #[.string ⟨#[]⟩, .slice none 0 0, .int .i64 0, .int .u32 0, .int .i64 0, .int .i64 0] 50)).heap.size (wd.alloc (.cells #[.string ⟨#[]⟩, .slice none 0 0, .int .i64 0, .int .u32 0, .int .i64 0, .int .i64 0] 50)))
      have hlta : wd.heap.size < (wd.alloc (.cells #[.string ⟨#[]⟩, .slice none 0 0, .int .i64 0, .int .u32 0, .int .i64 0, .int .i64 0] 50)).heap.size := by rw [World.size_alloc]; omega
      go_simp
      refine hK.out _ _ ⟨keep_cell q0 hBa (by omega), keep_cell q1 hBa (by omega), keep_cell q2 hBa (by omega), keep_cell q3 hBa (by omega), keep_cell q4 hBa (by omega), keep_cell q5 hBa (by omega)⟩ (fun hHeld => ?_)
      clear hK K
      (try simp only [Act.put, List.setIfInBounds_toArray, List.set_cons_zero, List.set_cons_succ])
      have hT : (wd.alloc (.cells #[.string ⟨#[]⟩, .slice none 0 0, .int .i64 0, .int .u32 0, .int .i64 0, .int .i64 0] 50)).there wd.heap.size 0 6 := hTa
      clear hTa
      generalize wd.alloc (.cells #[.string ⟨#[]⟩, .slice none 0 0, .int .i64 0, .int .u32 0, .int .i64 0, .int .i64 0] 50) = wa at *
      refine held_call (i := 4) rfl (by kernel_rfl) (by rfl) (fun K hK => ?_)
      go_simp; go_at_call 90; refine (K1.out _ (HB0.out.trans (hBa.mono HB0.out.size))).mono ?_; rintro e wc ⟨vz, rfl, hFz, hfit, hright, hOz, hbc⟩
      obtain ⟨va, vc, rfl, _, _⟩ := RdAt.shape hFz
      have hBc := hBa.trans (hbc.mono hBa.size)
      refine hK.out _ _ ⟨keep_cell q0 hBc (by omega), keep_cell q1 hBc (by omega), keep_cell q2 hBc (by omega), keep_cell q3 hBc (by omega), keep_cell q4 hBc (by omega), keep_cell q5 hBc (by omega)⟩ (fun hHeld => ?_)
      clear hK K
      (try simp only [Act.put, List.setIfInBounds_toArray, List.set_cons_zero, List.set_cons_succ])
      refine held_take (i := 7) (v := ?_) rfl rfl (by kernel_rfl) (by kernel_rfl) (by kernel_rfl) (fun _ _ _ h => h) (by rfl) hHeld ?_ ?_
      rotate_left
      · rintro wh ⟨z0, z1, z2, z3, z4, z5⟩
        go_simp
        (try with_reducible rfl)
      simp only [Act.put, List.setIfInBounds_toArray, List.set_cons_zero, List.set_cons_succ]
      have hT := there_later hT hbc hlta
      have hfar : 0 < L.length → ∀ q, (Value.slice va L.length vc).ownBlock = some q → q ≠ wd.heap.size ∧ q ≠ w.heap.size + 1 ∧ w.heap.size ≤ q := fun _ q hq => by have := hOz q hq; omega
      have f0 := there_free hT 0 (by decide)
      have f1 := there_free hT 1 (by decide)
      have f2 := there_free hT 2 (by decide)
      have f3 := there_free hT 3 (by decide)
      have f4 := there_free hT 4 (by decide)
      have f5 := there_free hT 5 (by decide)
      obtain ⟨y0, hy0⟩ := there_cell hT 0 (by decide)
      obtain ⟨y1, hy1⟩ := there_cell hT 1 (by decide)
      obtain ⟨y2, hy2⟩ := there_cell hT 2 (by decide)
      obtain ⟨y3, hy3⟩ := there_cell hT 3 (by decide)
      obtain ⟨y4, hy4⟩ := there_cell hT 4 (by decide)
      obtain ⟨y5, hy5⟩ := there_cell hT 5 (by decide)
      have hB9 : Below W0.heap.size W0 (wc.setCells wd.heap.size 0 [.string src, .slice va L.length vc, .int .i64 lv, .int .u32 c, .int .i64 0, .int .i64 0]) := below_puts (g := wd.heap.size) (o := 0) hBc (by omega) [.string src, .slice va L.length vc, .int .i64 lv, .int .u32 c, .int .i64 0, .int .i64 0]
      have hF9 : FldsAt (wc.setCells wd.heap.size 0 [.string src, .slice va L.length vc, .int .i64 lv, .int .u32 c, .int .i64 0, .int .i64 0]) (.slice va L.length vc) L := rd_puts' (g := wd.heap.size) (o := 0) hFz (fun h0 q hq => (hfar h0 q hq).1) [.string src, .slice va L.length vc, .int .i64 lv, .int .u32 c, .int .i64 0, .int .i64 0]
      have hZ9 := c6_puts wc wd.heap.size (.string src) (.slice va L.length vc) (.int .i64 lv) (.int .u32 c) (.int .i64 0) (.int .i64 0) hT
      have hL9 : wd.heap.size < (wc.setCells wd.heap.size 0 [.string src, .slice va L.length vc, .int .i64 lv, .int .u32 c, .int .i64 0, .int .i64 0]).heap.size := Nat.lt_of_lt_of_le (Nat.lt_of_lt_of_le hlta hbc.size) (below_puts_base (g := wd.heap.size) (o := 0) (Below.refl 0 wc) (Nat.zero_le _) [.string src, .slice va L.length vc, .int .i64 lv, .int .u32 c, .int .i64 0, .int .i64 0]).size
      have HG : Hid (GSt w wd.heap.size src (.slice fa fl.length fc) lv c fr til (.slice va L.length vc) L src lv 0 0 (wc.setCells wd.heap.size 0 [.string src, .slice va L.length vc, .int .i64 lv, .int .u32 c, .int .i64 0, .int .i64 0])) := Lib.hid ⟨HA.out.later hB9 (by omega), hZ9, World.there_setCells hT wd.heap.size 0 [.string src, .slice va L.length vc, .int .i64 lv, .int .u32 c, .int .i64 0, .int .i64 0], there_later HT.out hB9 (by omega), hF9, hfar, by omega, hL9, HB0.out.trans (hB9.mono HB0.out.size)⟩
      have HB9 := Lib.hid hB9
      clear hB9 hF9 hZ9 hL9
      refine held_step (i := 9) rfl (by kernel_rfl) (fun K hK => ?_)
      go_simp
      refine hK.out _ _ ⟨keep_cell q0 HB9.out (by omega), keep_cell q1 HB9.out (by omega), keep_cell q2 HB9.out (by omega), keep_cell q3 HB9.out (by omega), keep_cell q4 HB9.out (by omega), keep_cell q5 HB9.out (by omega)⟩ (fun hHeld => ?_)
      clear hK K
      (try simp only [Act.put, List.setIfInBounds_toArray, List.set_cons_zero, List.set_cons_succ])
      refine wpAnyH_done (by kernel_rfl) ?_ _
      go_wp2
      go_meet
      exact ⟨wd.heap.size, _, rfl, hfit, hright, HG.out⟩
  case rest =>
    obtain ⟨go, vo, rfl, hfit, hright, hG⟩ := hcut
    clear q0 q1 q2 q3 q4 q5 HA HB0 HT hz
    have HFT := Lib.hid hfit
    have HRT := Lib.hid hright
    have k2 := K2.out
    obtain ⟨nb, hnb⟩ : ∃ nb, nameL (B src) = nb := ⟨_, rfl⟩
    simp only [hnb] at k2
    have HS : Hid (gSrc src = if nb then src else ⟨#[112, 114, 111, 109]⟩) := by show _ = _; unfold gSrc; rw [hnb]
    have HG := Lib.hid hG
    obtain ⟨o0, o1, o2, o3, o4, o5⟩ := hG.o
    have f0 := there_free hG.oth 0 (by decide)
    clear hfit hright hnb K1 K2 hG
    go_upto_if 16 with (go_at_call 55; refine (k2 _).mono ?_; rintro e w2 ⟨rfl, rfl⟩)
    go_cut [] (fun wx => GSt w go src (.slice fa fl.length fc) lv c fr til vo L (gSrc src) lv 0 0 wx)
    case first =>
      clear k2
      cases nb
      · go_wp2
        go_meet
        rw [HS.out]
        exact HG.out.put0 _
      · go_wp2
        go_meet
        rw [HS.out]
        exact HG.out
    case rest =>
      have HG := Lib.hid hcut
      have k3 := K3.out
      obtain ⟨nb, hnb⟩ : ∃ nb, rightL lv = nb := ⟨_, rfl⟩
      simp only [hnb] at k3
      have HSL : Hid (gLv lv = if nb then lv else 1) := by show _ = _; unfold gLv; rw [hnb]
      clear o0 o1 o2 o3 o4 o5 f0 HS k2 hcut hnb K3
      obtain ⟨o0, o1, o2, o3, o4, o5⟩ := HG.out.o
      go_wp2_with fail
      refine (k3 _).mono ?_
      rintro e w3 ⟨rfl, hb3⟩
      have HG3 := Lib.hid (HG.out.later hb3)
      clear o0 o1 o2 o3 o4 o5 HG hb3 k3
      obtain ⟨o0, o1, o2, o3, o4, o5⟩ := HG3.out.o
      have f2 := there_free HG3.out.oth 2 (by decide)
      go_upto_if 21 with fail
      go_cut [] (fun wx => GSt w go src (.slice fa fl.length fc) lv c fr til vo L (gSrc src) (gLv lv) 0 0 wx)
      case first =>
        cases nb
        · go_wp2
          go_meet
          rw [HSL.out]
          exact HG3.out.put2 _
        · go_wp2
          go_meet
          rw [HSL.out]
          exact HG3.out
      case rest =>
        have HG4 := Lib.hid hcut
        clear o0 o1 o2 o3 o4 o5 f2 HG3 hcut HSL
        obtain ⟨a0, a1, a2, a3, a4, a5⟩ := HG4.out.a
        have f4 := there_free HG4.out.oth 4 (by decide)
        obtain ⟨u, hu⟩ : ∃ u, IntKind.u64.wrap fr = u := ⟨_, rfl⟩
        obtain ⟨f', hf'⟩ : ∃ f', u.tmod 1000 = f' := ⟨_, rfl⟩
        have hgf : gFr fr = f' := by unfold gFr; rw [hu, hf']
        have hfin := gFr_in fr
        rw [hgf] at hfin
        have hf1 : IntKind.i64.wrap f' = f' := IntWalk.i64_in _ ⟨by omega, by omega⟩
        obtain ⟨_, _, _, _, o4, _⟩ := HG4.out.o
        go_upto_region 7 with fail
        change Code.wp _ _ _ _ (wc.setCells go 4 [.int .i64 f'])
        have HG5 := Lib.hid (HG4.out.put4 f')
        generalize wc.setCells go 4 [.int .i64 f'] = w5 at *
        clear a0 a1 a2 a3 a4 a5 o4 f4 HG4 hu hf' hf1
        have HGF := Lib.hid hgf
        clear hgf
        obtain ⟨a0, a1, a2, a3, a4, a5⟩ := HG5.out.a
        obtain ⟨o0, o1, o2, o3, o4, o5⟩ := HG5.out.o
        have f5 := there_free HG5.out.oth 5 (by decide)
        go_upto_if 32 with fail
        go_cut [] (fun wx => GSt w go src (.slice fa fl.length fc) lv c fr til vo L (gSrc src) (gLv lv) (gFr fr) (gTil fr til) wx)
        case first =>
          by_cases h0 : til = 0
          · have hb : (til != 0) = false := by rw [h0]; rfl
            have HE : Hid (gTil fr til = 0) := by show _ = _; unfold gTil; rw [if_pos h0]
            clear h0
            go_wp2
            go_meet
            rw [HE.out, HGF.out]
            exact HG5.out
          · have hb : (til != 0) = true := by rw [bne_iff_ne]; exact h0
            have hu0 : 0 ≤ IntKind.u64.wrap til := by simp only [IntKind.wrap, IntKind.bits, IntKind.signed]; simp; omega
            obtain ⟨u2, hu2⟩ : ∃ u2, IntKind.u64.wrap til = u2 := ⟨_, rfl⟩
            obtain ⟨t2, ht2⟩ : ∃ t2, u2.tmod 1000 = t2 := ⟨_, rfl⟩
            have ht3 : 0 ≤ t2 ∧ t2 < 1000 := by
              rw [← ht2, Int.tmod_eq_emod_of_nonneg (by rw [← hu2]; exact hu0)]; omega
            have HE : Hid (gTil fr til = f' + 1 + t2) := by show _ = _; unfold gTil; rw [if_neg h0, HGF.out, hu2, ht2]
            have w1 : IntKind.i64.wrap t2 = t2 := IntWalk.i64_in _ ⟨by omega, by omega⟩
            have w2 : IntKind.i64.wrap (f' + 1) = f' + 1 := IntWalk.i64_in _ ⟨by omega, by omega⟩
            have w3 : IntKind.i64.wrap (f' + 1 + t2) = f' + 1 + t2 := IntWalk.i64_in _ ⟨by omega, by omega⟩
            have e5 := there_cell HG5.out.oth 5 (by decide)
            clear h0 hu0 ht3
            go_wp2
            go_meet
            rw [HE.out, HGF.out]
            exact HG5.out.put5 _
        case rest =>
          have HG6 := Lib.hid hcut
          clear a0 a1 a2 a3 a4 a5 o0 o1 o2 o3 o4 o5 f5 HG5 hcut HGF
          obtain ⟨va, vc, rfl, _, _⟩ := RdAt.shape HG6.out.f
          obtain ⟨o0, o1, o2, o3, o4, o5⟩ := HG6.out.o
          have hp : ∀ o v, wc.drew.cell? ⟨go, o, none⟩ = some v → (wc.drew.setCells (w.heap.size + 1) 0 [.string (gSrc src), .slice va L.length vc, .int .i64 (gLv lv), .int .u32 c, .int .i64 (gFr fr), .int .i64 (gTil fr til)]).cell? ⟨go, o, none⟩ = some v := fun o v h => by
            rw [World.cell?_setCells_out _ _ _ _ _ (fun hb _ => by have := HG6.out.ge; simp at hb; omega)]
            exact h
          go_upto_region 9 with fail
          refine wp_region_held_drew (S := (fun W => W.cell? ⟨go, 0, none⟩ = some (.string (gSrc src)) ∧ W.cell? ⟨go, 1, none⟩ = some (.slice va L.length vc) ∧ W.cell? ⟨go, 2, none⟩ = some (.int .i64 (gLv lv)) ∧ W.cell? ⟨go, 3, none⟩ = some (.int .u32 c) ∧ W.cell? ⟨go, 4, none⟩ = some (.int .i64 (gFr fr)) ∧ W.cell? ⟨go, 5, none⟩ = some (.int .i64 (gTil fr til)))) (by kernel_rfl) ⟨o0, o1, o2, o3, o4, o5⟩ (fun hHeld => ?_)
          have HG7 := Lib.hid (HG6.out.later (Below.refl _ wc).drew)
          clear HG6
          generalize wc.drew = wd at *
          have f0 := there_free HG7.out.rth 0 (by decide)
          obtain ⟨y0, hy0⟩ := there_cell HG7.out.rth 0 (by decide)
          have f1 := there_free HG7.out.rth 1 (by decide)
          obtain ⟨y1, hy1⟩ := there_cell HG7.out.rth 1 (by decide)
          have f2 := there_free HG7.out.rth 2 (by decide)
          obtain ⟨y2, hy2⟩ := there_cell HG7.out.rth 2 (by decide)
          have f3 := there_free HG7.out.rth 3 (by decide)
          obtain ⟨y3, hy3⟩ := there_cell HG7.out.rth 3 (by decide)
          have f4 := there_free HG7.out.rth 4 (by decide)
          obtain ⟨y4, hy4⟩ := there_cell HG7.out.rth 4 (by decide)
          have f5 := there_free HG7.out.rth 5 (by decide)
          obtain ⟨y5, hy5⟩ := there_cell HG7.out.rth 5 (by decide)
          refine held_take (i := 0) (v := ?_) rfl rfl (by kernel_rfl) (by kernel_rfl) (by kernel_rfl) (fun _ _ _ h => h) (by rfl) hHeld ?_ ?_
          rotate_left
          · rintro wh ⟨z0, z1, z2, z3, z4, z5⟩
            go_simp
            (try with_reducible rfl)
          simp only [Act.put, List.setIfInBounds_toArray, List.set_cons_zero, List.set_cons_succ]
          refine held_take (i := 1) (v := ?_) rfl rfl (by kernel_rfl) (by kernel_rfl) (by kernel_rfl) (fun _ _ _ h => h) (by rfl) hHeld ?_ ?_
          rotate_left
          · rintro wh ⟨z0, z1, z2, z3, z4, z5⟩
            go_simp
            (try with_reducible rfl)
          simp only [Act.put, List.setIfInBounds_toArray, List.set_cons_zero, List.set_cons_succ]
          refine held_take (i := 2) (v := ?_) rfl rfl (by kernel_rfl) (by kernel_rfl) (by kernel_rfl) (fun _ _ _ h => h) (by rfl) hHeld ?_ ?_
          rotate_left
          · rintro wh ⟨z0, z1, z2, z3, z4, z5⟩
            go_simp
            (try with_reducible rfl)
          simp only [Act.put, List.setIfInBounds_toArray, List.set_cons_zero, List.set_cons_succ]
          refine held_take (i := 3) (v := ?_) rfl rfl (by kernel_rfl) (by kernel_rfl) (by kernel_rfl) (fun _ _ _ h => h) (by rfl) hHeld ?_ ?_
          rotate_left
          · rintro wh ⟨z0, z1, z2, z3, z4, z5⟩
            go_simp
            (try with_reducible rfl)
          simp only [Act.put, List.setIfInBounds_toArray, List.set_cons_zero, List.set_cons_succ]
          refine held_take (i := 4) (v := ?_) rfl rfl (by kernel_rfl) (by kernel_rfl) (by kernel_rfl) (fun _ _ _ h => h) (by rfl) hHeld ?_ ?_
          rotate_left
          · rintro wh ⟨z0, z1, z2, z3, z4, z5⟩
            go_simp
            (try with_reducible rfl)
          simp only [Act.put, List.setIfInBounds_toArray, List.set_cons_zero, List.set_cons_succ]
          refine held_step (i := 5) rfl (by kernel_rfl) (fun K hK => ?_)
          go_simp
          refine hK.out _ _ ⟨hp _ _ HG7.out.o.1, hp _ _ HG7.out.o.2.1, hp _ _ HG7.out.o.2.2.1, hp _ _ HG7.out.o.2.2.2.1, hp _ _ HG7.out.o.2.2.2.2.1, hp _ _ HG7.out.o.2.2.2.2.2⟩ (fun hHeld => ?_)
          clear hK K
          (try simp only [Act.put, List.setIfInBounds_toArray])
          refine held_take (i := 6) (v := ?_) rfl rfl (by kernel_rfl) (by kernel_rfl) (by kernel_rfl) (fun _ _ _ h => h) (by rfl) hHeld ?_ ?_
          rotate_left
          · rintro wh ⟨z0, z1, z2, z3, z4, z5⟩
            go_simp
            (try with_reducible rfl)
          simp only [Act.put, List.setIfInBounds_toArray, List.set_cons_zero, List.set_cons_succ]
          refine wpAnyH_done (by kernel_rfl) ?_ _
          go_wp2
          refine bodyPost_ret (results_agg2 rfl _ _ (w.heap.size + 1) [.string (gSrc src), .slice va L.length vc, .int .i64 (gLv lv), .int .u32 c, .int .i64 (gFr fr), .int .i64 (gTil fr til)] (.struct _) rfl (World.rangeAt_setCells_same wd (w.heap.size + 1) 0 [.string (gSrc src), .slice va L.length vc, .int .i64 (gLv lv), .int .u32 c, .int .i64 (gFr fr), .int .i64 (gTil fr til)] HG7.out.rth) Tryz.underlying50 rfl (by kernel_rfl)) rfl ?_
          have hbb := below_puts (g := w.heap.size + 1) (o := 0) HG7.out.below (by omega) [.string (gSrc src), .slice va L.length vc, .int .i64 (gLv lv), .int .u32 c, .int .i64 (gFr fr), .int .i64 (gTil fr til)]
          have hF3 := rd_puts' (g := w.heap.size + 1) (o := 0) HG7.out.f (fun h0 q hq => (HG7.out.far h0 q hq).2.1) [.string (gSrc src), .slice va L.length vc, .int .i64 (gLv lv), .int .u32 c, .int .i64 (gFr fr), .int .i64 (gTil fr til)]
          exact ⟨_, by simp, hF3, HFT.out, HRT.out, fun h0 q hq => (HG7.out.far h0 q hq).2.2, hbb⟩
end Go.Proofs.YtcfococinllcmaaGreat

/- the law's alert: good. -/
namespace Go.Proofs.YtcfococinllcmaaGreat
open Go.RowKit
theorem results_agg22 {P : Program} {fn : Func} {p u : Tmp} {t1 t2 : TypeId} (h : fn.results = #[.cell p t1, .cell u t2]) (tmps : Array Value) (w : World) (g k : Nat) (cs ds : List Value) (d1 d2 : TypeDesc)
    (hp : tmps.getD p undef = .pointer (some ⟨g, 0, none⟩)) (hc : w.rangeAt g 0 cs) (hu : P.underlying t1 = some d1) (hd : d1.isRow = true) (hi : (P.info? t1).map (·.size) = some cs.length)
    (hp2 : tmps.getD u undef = .pointer (some ⟨k, 0, none⟩)) (hc2 : w.rangeAt k 0 ds) (hu2 : P.underlying t2 = some d2) (hd2 : d2.isRow = true) (hi2 : (P.info? t2).map (·.size) = some ds.length) :
    (results fn tmps).run P w = .ok (.tuple #[.agg cs.toArray, .agg ds.toArray]) w := by
  have hp' : tmps[p]?.getD undef = .pointer (some ⟨g, 0, none⟩) := by simpa using hp
  have hp2' : tmps[u]?.getD undef = .pointer (some ⟨k, 0, none⟩) := by simpa using hp2
  simp [results, h, hp', hp2', asAddr, run_loadVar_mid (P := P) w g 0 t1 cs d1 hc hu hd hi, run_loadVar_mid (P := P) w k 0 t2 ds d2 hc2 hu2 hd2 hi2]
theorem alc6 (W : World) (a b c d e f : Value) (t : TypeId) : C6 W.heap.size a b c d e f (W.alloc (.cells #[a, b, c, d, e, f] t)) := by
  have hc : ∀ (j : Nat), (W.alloc (.cells #[a, b, c, d, e, f] t)).cell? ⟨W.heap.size, j, none⟩ = _ := fun j => World.cell?_alloc_at _ _ _ _ rfl
  exact ⟨hc 0, hc 1, hc 2, hc 3, hc 4, hc 5⟩
end Go.Proofs.YtcfococinllcmaaGreat

/- lychgateref10: silences in memory; Right, At. -/
namespace Go.Proofs.YtcfococinllcmaaGreat
open Go.RowKit
def rsC (s : Sil) : List Value := [.int .i64 s.id, .slice s.mv.1 s.mv.2.1 s.mv.2.2, .int .i64 s.fr, .int .i64 s.til, .int .i64 s.lv, .int .u32 s.c]
def rsCells : List Sil → List Value
  | [] => []
  | s :: l => rsC s ++ rsCells l
theorem rsCells_len (l : List Sil) : (rsCells l).length = l.length * 6 := by
  induction l with
  | nil => rfl
  | cons x l ih => simp only [rsCells, List.length_append, ih, List.length_cons]; simp [rsC]; omega
theorem rsCells_append (a b : List Sil) : rsCells (a ++ b) = rsCells a ++ rsCells b := by
  induction a with
  | nil => rfl
  | cons s l ih => simp [rsCells, ih]
theorem rsCells_one (l : List Sil) : ∀ y ∈ rsCells l, y.oneCell' = true := by
  induction l with
  | nil => intro y hy; cases hy
  | cons s l ih =>
    intro y hy
    simp only [rsCells, List.mem_append] at hy
    rcases hy with hy | hy
    · simp only [rsC, List.mem_cons, List.not_mem_nil, or_false] at hy
      rcases hy with rfl | rfl | rfl | rfl | rfl | rfl <;> rfl
    · exact ih y hy
theorem rsCells_at : ∀ (l : List Sil) (j : Nat) (h : j < l.length) (i : Nat) (v : Value), (rsC l[j])[i]? = some v → (rsCells l)[j * 6 + i]? = some v
  | x :: l, 0, _, i, v, hi => by
    have hlt := (List.getElem?_eq_some_iff.1 hi).1
    simp only [rsCells]
    rw [List.getElem?_append_left (by simpa using hlt)]
    simpa using hi
  | x :: l, j + 1, h, i, v, hi => by
    simp only [rsCells]
    rw [List.getElem?_append_right (by simp [rsC]; omega)]
    have := rsCells_at l j (by simpa using h) i v (by simpa using hi)
    rw [show (j + 1) * 6 + i - (rsC x).length = j * 6 + i by simp [rsC]; omega]
    exact this
structure RlAt (w : World) (q base : Nat) (R : List Sil) (N : Int) (v : Value) : Prop where
  h0 : w.cell? ⟨q, 0, none⟩ = some v
  h1 : w.cell? ⟨q, 1, none⟩ = some (.int .i64 N)
  own : w.ownsRow base 58 6 v R.length (rsCells R)
  th : w.there q 0 2
  ne : ∀ g, v.ownBlock = some g → g ≠ q
  ms : ∀ s ∈ R, MtsAt w (SV s.mv) s.ms ∧ MtsFit s.ms ∧ s.ms.length ≤ 14 ∧ ∀ b, (SV s.mv).ownBlock = some b → b < base
  bq : base ≤ q
  few : R.length ≤ 1000000
theorem RlAt.later {w w' : World} {q base : Nat} {R : List Sil} {N : Int} {v : Value} (h : RlAt w q base R N v) (hb : Below w.heap.size w w') : RlAt w' q base R N v :=
  ⟨keep_cell h.h0 hb (cell_lt h.h0), keep_cell h.h1 hb (cell_lt h.h1), own_later h.own hb, there_later h.th hb (cell_lt h.h0), h.ne, fun s hs => ⟨(h.ms s hs).1.later hb, (h.ms s hs).2⟩, h.bq, h.few⟩
theorem RlAt.row {w : World} {q base : Nat} {R : List Sil} {N : Int} {v : Value} (h : RlAt w q base R N v) : ∃ a c, v = .slice a R.length c ∧ R.length ≤ c ∧ (0 < R.length → ∃ g o, a = some ⟨g, o, none⟩ ∧ g < w.heap.size ∧ g ≠ q ∧ ∀ (k : Nat) (hk : k < R.length),
    w.cell? ⟨g, o + k * 6, none⟩ = some (.int .i64 R[k].id) ∧ w.cell? ⟨g, o + k * 6 + 1, none⟩ = some (.slice R[k].mv.1 R[k].mv.2.1 R[k].mv.2.2) ∧ w.cell? ⟨g, o + k * 6 + 2, none⟩ = some (.int .i64 R[k].fr) ∧ w.cell? ⟨g, o + k * 6 + 3, none⟩ = some (.int .i64 R[k].til) ∧ w.cell? ⟨g, o + k * 6 + 4, none⟩ = some (.int .i64 R[k].lv) ∧ w.cell? ⟨g, o + k * 6 + 5, none⟩ = some (.int .u32 R[k].c)) := by
  obtain ⟨a, c, rfl, hc, hr⟩ := RdAt.shape (RdAt.own h.own)
  refine ⟨a, c, rfl, hc, fun h0 => ?_⟩
  obtain ⟨g, o, rfl, hg, hcell⟩ := hr h0
  refine ⟨g, o, rfl, hg, h.ne g rfl, fun k hk => ?_⟩
  have hx := fun i v hv => hcell _ v (rsCells_at R k hk i v hv)
  have h1 := hx 1 _ rfl
  have h2 := hx 2 _ rfl
  have h3 := hx 3 _ rfl
  have h4 := hx 4 _ rfl
  have h5 := hx 5 _ rfl
  rw [← Nat.add_assoc] at h1 h2 h3 h4 h5
  exact ⟨hx 0 _ rfl, h1, h2, h3, h4, h5⟩
set_option maxHeartbeats 3200000 in
set_option maxRecDepth 100000 in
theorem r10right_any (i : Int) (s : Sil) (w : World) (hm : MtsAt w (SV s.mv) s.ms) (hf : MtsFit s.ms) (hl : s.ms.length ≤ 1000000) :
    Calls Tryz.prog 37 #[rsV i s] w fun e w' => e = .returned (.bool (rightS s)) ∧ Below w.heap.size w w' := by
  have HR : Hid (rightS s = (decide (0 < s.ms.length) && decide (s.ms.length ≤ 12) && !(s.ms.any fun m => !fineM m) && decide (0 ≤ s.fr) && decide (s.fr < s.til) && decide (s.til ≤ 1099511627776) && rightL s.lv)) := Lib.hid rfl
  have KF := Lib.hid (fun (m : Mt) (h : m ∈ s.ms) W => fine6_any m W (hf m h))
  obtain ⟨ma, mc, e, _, hr⟩ := RdAt.shape hm
  have hb0 := alloc_below w (.cells #[.int .i64 i, .slice s.mv.1 s.mv.2.1 s.mv.2.2, .int .i64 s.fr, .int .i64 s.til, .int .i64 s.lv, .int .u32 s.c] 58)
  have hz0 := World.size_alloc w (.cells #[.int .i64 i, .slice s.mv.1 s.mv.2.1 s.mv.2.2, .int .i64 s.fr, .int .i64 s.til, .int .i64 s.lv, .int .u32 s.c] 58)
  have x := alc6 w (.int .i64 i) (.slice s.mv.1 s.mv.2.1 s.mv.2.2) (.int .i64 s.fr) (.int .i64 s.til) (.int .i64 s.lv) (.int .u32 s.c) 58
  unfold rsV
  simp only [SV] at e
  rw [e] at x hb0 hz0 ⊢
  generalize rightS s = R at *
  obtain ⟨id, mv, ms, fr, til, lv, c⟩ := s
  dsimp only at *
  have X0 := Lib.hid x
  have HB0 := Lib.hid hb0
  have HRD := Lib.hid hr
  have HZ0 := Lib.hid hz0
  have K5 := Lib.hid (fun W => rright_any lv c W)
  clear hm hf x hb0 hr hz0 e
  go_enter Tryz.func37, Tryz.ntmps37
  go_upto_region 1 with fail
  change Code.wp _ _ _ _ (w.alloc (.cells #[.int .i64 i, .slice ma ms.length mc, .int .i64 fr, .int .i64 til, .int .i64 lv, .int .u32 c] 58))
  generalize w.alloc (.cells #[.int .i64 i, .slice ma ms.length mc, .int .i64 fr, .int .i64 til, .int .i64 lv, .int .u32 c] 58) = w1 at *
  go_upto_region 2 with fail
  go_loopw [3] (fun vi wr => ∃ k : Nat, k ≤ ms.length ∧ vi = .int .i64 (k : Nat) ∧ Hid ((ms.take k).any (fun m => !fineM m) = false) ∧ Hid (C6 w.heap.size (.int .i64 i) (.slice ma ms.length mc) (.int .i64 fr) (.int .i64 til) (.int .i64 lv) (.int .u32 c) wr) ∧ Hid (Below w.heap.size w wr) ∧ Hid (w.heap.size < wr.heap.size)) (fun vi _ => ms.length + 1 - (intOf vi).toNat)
  case atStart => exact ⟨0, Nat.zero_le _, rfl, Lib.hid rfl, X0, HB0, Lib.hid (by have := HZ0.out; omega)⟩
  case round =>
    clear X0 HB0 HZ0
    obtain ⟨k, hk, rfl, HT, HX, HB, HS⟩ := hrel
    obtain ⟨x0, x1, x2, x3, x4, x5⟩ := HX.out
    by_cases hkl : k < ms.length
    · obtain ⟨b, o, rfl, hb, hcell⟩ := HRD.out (by omega)
      have HTK : Hid ((ms.take (k + 1)).any (fun m => !fineM m) = ((ms.take k).any (fun m => !fineM m) || !fineM ms[k])) := Lib.hid (by rw [List.take_add_one, List.getElem?_eq_getElem hkl, List.any_append]; simp)
      have HNO : Hid (fineM ms[k] = false → ms.any (fun m => !fineM m) = true) := Lib.hid (fun h => by rw [List.any_eq_true]; exact ⟨_, List.getElem_mem hkl, by rw [h]; decide⟩)
      have kf := KF.out ms[k] (List.getElem_mem hkl) wr
      obtain ⟨h0, h1, h2⟩ := mtCells_at ms k hkl
      have a0 := keep_cell (hcell _ _ h0) HB.out hb
      have a1 : wr.cell? ⟨b, o + k * 3 + 1, none⟩ = _ := keep_cell (by have := hcell _ _ h1; rwa [← Nat.add_assoc] at this) HB.out hb
      have a2 : wr.cell? ⟨b, o + k * 3 + 2, none⟩ = _ := keep_cell (by have := hcell _ _ h2; rwa [← Nat.add_assoc] at this) HB.out hb
      have hi0 : (0 : Int) ≤ (k : Int) := by omega
      have hi1 : (k : Int) < (ms.length : Int) := by omega
      clear hcell h0 h1 h2
      generalize ms[k] = m at *
      obtain ⟨nm, op, val⟩ := m
      dsimp only at *
      go_wp2_with fail
      refine kf.mono ?_
      rintro e w2 ⟨rfl, hb2⟩
      have HB2 := Lib.hid (HB.out.trans (hb2.mono HB.out.size))
      have HX2 := Lib.hid (HX.out.later hb2 HS.out)
      have HS2 := Lib.hid (Nat.lt_of_lt_of_le HS.out hb2.size)
      clear kf hb2 a0 a1 a2
      cases hfm : fineM ⟨nm, op, val⟩ with
      | true =>
        rw [hfm] at HTK
        go_wp2
        go_roundw
        case rel => exact ⟨k + 1, by omega, by go_num, Lib.hid (by rw [HTK.out, HT.out]; rfl), HX2, HB2, HS2⟩
        case measure => (simp [intOf]; try omega)
      | false =>
        rw [hfm] at HNO
        go_wp2
        go_ret
        exact ⟨by rw [HR.out, HNO.out (by trivial)]; simp, HB2.out⟩
    · obtain rfl : k = ms.length := by omega
      have hi1 : ¬ (ms.length : Int) < (ms.length : Int) := by omega
      have HA : Hid (ms.any (fun m => !fineM m) = false) := Lib.hid (by have := HT.out; rwa [List.take_length] at this)
      rw [HA.out] at HR
      clear HT HA KF HRD
      generalize ms.length = mn at *
      go_upto_region 6 with fail
      by_cases h0 : 0 < mn
      case neg =>
        rw [decide_eq_false h0] at HR
        obtain rfl : mn = 0 := by omega
        go_wp2
        go_ret
        exact ⟨by rw [HR.out]; rfl, HB.out⟩
      rw [decide_eq_true h0] at HR
      by_cases h1 : mn ≤ 12
      case neg =>
        rw [decide_eq_false h1] at HR
        go_wp2
        go_ret
        exact ⟨by rw [HR.out]; rfl, HB.out⟩
      rw [decide_eq_true h1] at HR
      by_cases h2 : 0 ≤ fr
      case neg =>
        rw [decide_eq_false h2] at HR
        go_wp2
        go_ret
        exact ⟨by rw [HR.out]; rfl, HB.out⟩
      rw [decide_eq_true h2] at HR
      by_cases h3 : fr < til
      case neg =>
        rw [decide_eq_false h3] at HR
        go_wp2
        go_ret
        exact ⟨by rw [HR.out]; rfl, HB.out⟩
      rw [decide_eq_true h3] at HR
      by_cases h4 : til ≤ 1099511627776
      case neg =>
        rw [decide_eq_false h4] at HR
        go_wp2
        go_ret
        exact ⟨by rw [HR.out]; rfl, HB.out⟩
      rw [decide_eq_true h4] at HR
      have k5 := K5.out wr
      go_wp2_with fail
      refine k5.mono ?_
      rintro e w5 ⟨rfl, hb5⟩
      have HB5 := Lib.hid (HB.out.trans (hb5.mono HB.out.size))
      clear k5 hb5 x0 x1 x2 x3 x4 x5
      go_wp2
      go_ret
      exact ⟨by rw [HR.out]; rfl, HB5.out⟩
def AtR (R : List Sil) (id z : Int) : Prop := (z = -1 ∧ ∀ s ∈ R, s.id ≠ id) ∨ ∃ (k : Nat) (hk : k < R.length), z = (k : Int) ∧ R[k].id = id
set_option maxHeartbeats 1600000 in
set_option maxRecDepth 100000 in
theorem rat_any (q base : Nat) (R : List Sil) (N id : Int) (v : Value) (w : World) (h : RlAt w q base R N v) :
    Calls Tryz.prog 100 #[.pointer (some ⟨q, 0, none⟩), .int .i64 id] w fun e w' => ∃ z : Int, e = .returned (.int .i64 z) ∧ Hid (AtR R id z) ∧ w' = w := by
  have l0 := h.h0
  obtain ⟨va, vc, rfl, hc, hr⟩ := h.row
  have HR := Lib.hid hr
  have hlen := h.few
  clear hr h
  go_enter Tryz.func100, Tryz.ntmps100
  go_wp2
  go_loopw [5] (fun vi wr => ∃ k : Nat, k ≤ R.length ∧ vi = .int .i64 (k : Nat) ∧ wr = w ∧ Hid (∀ (j : Nat) (hj : j < R.length), j < k → R[j].id ≠ id)) (fun vi _ => R.length + 1 - (intOf vi).toNat)
  case atStart => exact ⟨0, Nat.zero_le _, rfl, rfl, Lib.hid (fun j _ hj => absurd hj (Nat.not_lt_zero _))⟩
  case round =>
    obtain ⟨k, hk, rfl, hww, HT⟩ := hrel
    obtain rfl := hww.symm
    by_cases hkl : k < R.length
    · obtain ⟨g, o, rfl, hg, _, hcell⟩ := HR.out (by omega)
      obtain ⟨a0, _⟩ := hcell k hkl
      have hi0 : (0 : Int) ≤ (k : Int) := by omega
      have hi1 : (k : Int) < (R.length : Int) := by omega
      obtain ⟨z, hz⟩ : ∃ z, R[k].id = z := ⟨_, rfl⟩
      rw [hz] at a0
      have HZ := Lib.hid hz
      clear hcell hz
      by_cases he : z = id
      · have hbe : (z == id) = true := by simpa using he
        have HE := Lib.hid he
        clear he
        go_wp2
        go_ret
        exact ⟨_, rfl, Lib.hid (.inr ⟨k, hkl, rfl, HZ.out.trans HE.out⟩), rfl⟩
      · have hbe : (z == id) = false := by simpa using he
        have HE := Lib.hid he
        clear he
        go_wp2
        go_roundw
        case rel => exact ⟨k + 1, by omega, by go_num, trivial, Lib.hid (fun j hj hjk => by
          by_cases e : j = k
          · subst e; rw [HZ.out]; exact HE.out
          · exact HT.out j hj (by omega))⟩
        case measure => (simp [intOf]; try omega)
    · obtain rfl : k = R.length := by omega
      have hi1 : ¬ (R.length : Int) < (R.length : Int) := by omega
      go_wp2
      go_ret
      exact ⟨_, rfl, Lib.hid (.inl ⟨rfl, fun s hs => by
        obtain ⟨j, hj, rfl⟩ := List.getElem_of_mem hs
        exact HT.out j hj hj⟩), by trivial⟩
end Go.Proofs.YtcfococinllcmaaGreat

/- lychgateref10: Forget; the row put anew. -/
namespace Go.Proofs.YtcfococinllcmaaGreat
open Go.RowKit
theorem info_rs : (Tryz.prog.info? 58).map (fun i => (i.zero, i.size, i.bytes)) = some (some (.agg #[.int .i64 0, .slice none 0 0, .int .i64 0, .int .i64 0, .int .i64 0, .int .u32 0]), 6, 64) := by kernel_rfl
theorem row6s (W : World) (a b c d e f : Value) (t : TypeId) : RdAt (W.alloc (.cells #[a, b, c, d, e, f] t)) (.slice (some ⟨W.heap.size, 0, none⟩) 1 1) 1 6 [a, b, c, d, e, f] :=
  RdAt.mk rfl (Nat.le_refl _) (by rw [World.size_alloc]; omega) (fun j x hj => by
    have hc : (W.alloc (.cells #[a, b, c, d, e, f] t)).cell? ⟨W.heap.size, j, none⟩ = _ := World.cell?_alloc_at _ _ _ _ rfl
    rw [Nat.zero_add, hc, ← Array.getElem?_toList]
    exact hj)
structure RlOk (w w' : World) (q base : Nat) (R' : List Sil) (N' : Int) (v v' : Value) : Prop where
  at_ : RlAt w' q base R' N' v'
  kp : Kp q (v.ownBlock.getD q) w w'
  fresh : ∀ g, v'.ownBlock = some g → v.ownBlock = some g ∨ w.heap.size ≤ g
theorem RlAt.lt {w : World} {q base : Nat} {R : List Sil} {N : Int} {v : Value} (h : RlAt w q base R N v) : q < w.heap.size := cell_lt h.h0
theorem RlAt.blk {w : World} {q base : Nat} {R : List Sil} {N : Int} {v : Value} (h : RlAt w q base R N v) : base ≤ v.ownBlock.getD q := by
  cases e : v.ownBlock with
  | none => exact h.bq
  | some g => exact (h.own.lt g e).1
theorem RlOk.same {w w' : World} {q base : Nat} {R : List Sil} {N : Int} {v : Value} (h : RlAt w q base R N v) (hb : Below w.heap.size w w') : RlOk w w' q base R N v v :=
  ⟨h.later hb, Kp.of_below hb, fun _ e => .inl e⟩
theorem mts_kp {w W : World} {q g base : Nat} {v : Value} {l : List Mt} (h : MtsAt w v l) (hb : ∀ b, v.ownBlock = some b → b < base) (hk : Kp q g w W) (hq : base ≤ q) (hg : base ≤ g) : MtsAt W v l :=
  hk.rd h (fun b hb' => by have := hb b hb'; omega)
theorem rl_put {w W : World} {q base : Nat} {R R' : List Sil} {N N' : Int} {v v' : Value} (h : RlAt w q base R N v) (hk : Kp q (v.ownBlock.getD q) w W)
    (h0 : (W.cell? ⟨q, 0, none⟩).isSome = true) (h1 : W.cell? ⟨q, 1, none⟩ = some (.int .i64 N')) (hth : W.there q 0 2) (own : W.ownsRow base 58 6 v' R'.length (rsCells R'))
    (hne : ∀ g, v'.ownBlock = some g → g ≠ q) (hms : ∀ s ∈ R', MtsAt w (SV s.mv) s.ms ∧ MtsFit s.ms ∧ s.ms.length ≤ 14 ∧ ∀ b, (SV s.mv).ownBlock = some b → b < base) (few : R'.length ≤ 1000000)
    (hfr : ∀ g, v'.ownBlock = some g → v.ownBlock = some g ∨ w.heap.size ≤ g) : RlOk w (W.setCell ⟨q, 0, none⟩ v') q base R' N' v v' := by
  have g1 := grown_setS W q 0 v'
  have k1 : Kp q (v.ownBlock.getD q) W (W.setCell ⟨q, 0, none⟩ v') := ⟨g1.os, g1.tape, g1.output, g1.size, fun b hb e _ => g1.block b hb (fun x => e (Option.some.inj x))⟩
  have k2 := hk.trans k1
  refine ⟨⟨World.cell?_setCell_same' _ _ _ h0, by rw [set_far (by omega)]; exact h1, own.kept g1 (.inr fun e => hne q e rfl), there_set hth _ _ _, hne, fun s hs => ?_, h.bq, few⟩, k2, hfr⟩
  obtain ⟨a1, a2, a3, a4⟩ := hms s hs
  exact ⟨mts_kp a1 a4 k2 h.bq h.blk, a2, a3, a4⟩
theorem take_filter {R : List Sil} {p : Sil → Bool} {k : Nat} (h : k < R.length) : (R.take (k + 1)).filter p = (R.take k).filter p ++ (if p R[k] then [R[k]] else []) := by
  rw [List.take_add_one, List.getElem?_eq_getElem h, List.filter_append]
  simp only [Option.toList_some, List.filter_cons, List.filter_nil]
set_option maxHeartbeats 1600000 in
set_option maxRecDepth 100000 in
theorem rforget_any (q base : Nat) (R : List Sil) (N now : Int) (v : Value) (w : World) (h : RlAt w q base R N v) :
    Calls Tryz.prog 72 #[.pointer (some ⟨q, 0, none⟩), .int .i64 now] w fun e w' => e = .returned (.int .i64 ((R.countP (endS now) : Nat) : Int)) ∧ ∃ v', RlOk w w' q base (R.filter fun s => !endS now s) N v v' := by
  have l0 := h.h0
  have l1 := h.h1
  have hlt := h.lt
  obtain ⟨va, vc, rfl, hc, hr⟩ := h.row
  have HR := Lib.hid hr
  have H := Lib.hid h
  have hlen := h.few
  obtain ⟨i0, hi, hz0, hz1, hz2⟩ := info_parts info_rs
  have HBQ := Lib.hid h.bq
  clear hr h
  go_enter Tryz.func72, Tryz.ntmps72
  go_wp2
  go_loopw [5, 6] (fun v5 vi wr => ∃ (k : Nat) (L : List Sil), k ≤ R.length ∧ vi = .int .i64 (k : Nat) ∧ Hid (L = (R.take k).filter fun s => !endS now s) ∧ L.length ≤ k ∧ Hid (wr.ownsRow w.heap.size 58 6 v5 L.length (rsCells L)) ∧ Hid (Below w.heap.size w wr)) (fun _ vi _ => R.length + 1 - (intOf vi).toNat)
  case atStart => exact ⟨0, [], Nat.zero_le _, rfl, Lib.hid rfl, Nat.zero_le _, Lib.hid (World.ownsRow_nil _ _ _ _), Lib.hid (Below.refl _ _)⟩
  case round =>
    obtain ⟨k, L, hk, rfl, HL, hLk, HO, HB⟩ := hrel
    obtain ⟨oa, oc, rfl, _, _⟩ := RdAt.shape (RdAt.own HO.out)
    have d0 := keep_cell l0 HB.out hlt
    by_cases hkl : k < R.length
    · obtain ⟨g, o, rfl, hg, _, hcell⟩ := HR.out (by omega)
      obtain ⟨a0, a1, a2, a3, a4, a5⟩ := hcell k hkl
      have HT : Hid ((R.take (k + 1)).filter (fun s => !endS now s) = (R.take k).filter (fun s => !endS now s) ++ (if !(endS now R[k]) then [R[k]] else [])) := Lib.hid (take_filter hkl)
      have HE : Hid (endS now R[k] = decide (R[k].til ≤ now)) := Lib.hid rfl
      have hi0 : (0 : Int) ≤ (k : Int) := by omega
      have hi1 : (k : Int) < (R.length : Int) := by omega
      clear hcell
      generalize R[k] = s at *
      obtain ⟨id, ⟨ma, mn, mc⟩, ms, fr, til, lv, c⟩ := s
      dsimp only at *
      have b0 := keep_cell a0 HB.out hg
      have b1 := keep_cell a1 HB.out hg
      have b2 := keep_cell a2 HB.out hg
      have b3 := keep_cell a3 HB.out hg
      have b4 := keep_cell a4 HB.out hg
      have b5 := keep_cell a5 HB.out hg
      clear a0 a1 a2 a3 a4 a5
      by_cases hn : til ≤ now
      · have hn1 : ¬ now < til := by omega
        rw [HE.out, decide_eq_true hn] at HT
        go_wp2
        go_roundw
        case rel => exact ⟨k + 1, L, by omega, by go_num, Lib.hid (by rw [HT.out, HL.out]; simp), by omega, HO, HB⟩
        case measure => (simp [intOf]; try omega)
      · have hn1 : now < til := by omega
        rw [HE.out, decide_eq_false hn] at HT
        have hown9 := HO.out.alloc (.cells #[.int .i64 id, .slice ma mn mc, .int .i64 fr, .int .i64 til, .int .i64 lv, .int .u32 c] 58)
        have hrd := row6s wr (.int .i64 id) (.slice ma mn mc) (.int .i64 fr) (.int .i64 til) (.int .i64 lv) (.int .u32 c) 58
        go_wp2_with (at_builtin; (refine wpList_append_rd rfl (.tmp 27) (.tmp 35) 84 rfl w.heap.size 58 i0 (.agg #[.int .i64 0, .slice none 0 0, .int .i64 0, .int .i64 0, .int .i64 0, .int .u32 0]) 6 64 Tryz.underlying84 hi hz0 hz1 hz2 rfl (by decide) _ _ _ rfl hown9 _ 1 [.int .i64 id, .slice ma mn mc, .int .i64 fr, .int .i64 til, .int .i64 lv, .int .u32 c] rfl hrd (by simp [Value.oneCell']) (by unfold maxLen; omega) (by omega) (by have := HB.out.size; simp; omega) ?_); intro v' w8 hown' hg8)
        have HB8 := Lib.hid ((HB.out.alloc HB.out.size _).grown hg8 (by have := HB.out.size; simp; omega) (fun j e => (hown9.lt j e).1))
        have HO8 := Lib.hid hown'
        clear hown9 hown' hg8 hrd b0 b1 b2 b3 b4 b5
        go_wp2
        go_roundw
        case rel => exact ⟨k + 1, L ++ [⟨id, (ma, mn, mc), ms, fr, til, lv, c⟩], by omega, by go_num, Lib.hid (by rw [HT.out, HL.out]; simp), by simp; omega, Lib.hid (by rw [List.length_append, rsCells_append]; exact HO8.out), HB8⟩
        case measure => (simp [intOf]; try omega)
    · obtain rfl : k = R.length := by omega
      have hi1 : ¬ (R.length : Int) < (R.length : Int) := by omega
      have HL2 : Hid (L = R.filter fun s => !endS now s) := Lib.hid (by have := HL.out; rwa [List.take_length] at this)
      have d1 := keep_cell l1 HB.out hlt
      have dt := there_later H.out.th HB.out hlt
      have f0 := there_free dt 0 (by omega)
      have HDT := Lib.hid dt
      have HC : Hid ((R.length : Int) - (L.length : Int) = ((R.countP (endS now) : Nat) : Int)) := Lib.hid (by rw [HL2.out]; exact count_split R now)
      have hw1 : wrap64 ((R.length : Int) - (L.length : Int)) = (R.length : Int) - (L.length : Int) := IntWalk.wrap64_in _ ⟨by omega, by omega⟩
      have HDD := Lib.hid (And.intro d0 d1)
      clear l0 l1 dt d1
      go_wp2
      go_ret
      refine ⟨by rw [← HC.out]; (try rfl), .slice oa L.length oc, ?_⟩
      rw [← HL2.out]
      refine rl_put (v' := .slice oa L.length oc) H.out (Kp.of_below HB.out) (by rw [HDD.out.1]; rfl) HDD.out.2 HDT.out (own_base HO.out (by have := HBQ.out; omega)) (fun g hg => by have := (HO.out.lt g hg).1; omega) (fun s hs => ?_) (by omega) (fun g hg => .inr (HO.out.lt g hg).1)
      rw [HL2.out] at hs
      exact H.out.ms s (List.mem_filter.1 hs).1
end Go.Proofs.YtcfococinllcmaaGreat

/- lychgateref10: End. -/
namespace Go.Proofs.YtcfococinllcmaaGreat
open Go.RowKit
theorem rsCells_take (l : List Sil) (i : Nat) : rsCells (l.take i) = (rsCells l).take (i * 6) := by
  induction l generalizing i with
  | nil => simp [rsCells]
  | cons f l ih =>
    cases i with
    | zero => simp [rsCells]
    | succ i => rw [List.take_succ_cons, rsCells, ih, rsCells, show (i + 1) * 6 = i * 6 + 1 + 1 + 1 + 1 + 1 + 1 by omega]; rfl
theorem rsCells_drop (l : List Sil) (i : Nat) : rsCells (l.drop i) = (rsCells l).drop (i * 6) := by
  induction l generalizing i with
  | nil => simp [rsCells]
  | cons f l ih =>
    cases i with
    | zero => simp
    | succ i => rw [List.drop_succ_cons, ih, rsCells, show (i + 1) * 6 = i * 6 + 1 + 1 + 1 + 1 + 1 + 1 by omega]; rfl
theorem rsCells_set : ∀ (l : List Sil) (k : Nat) (h : k < l.length) (now : Int), rsCells (l.set k { l[k] with til := now }) = (rsCells l).set (k * 6 + 3) (.int .i64 now)
  | s :: l, 0, _, now => rfl
  | s :: l, k + 1, h, now => by
    rw [List.set_cons_succ, rsCells, rsCells]
    have := rsCells_set l k (by simpa using h) now
    simp only [List.getElem_cons_succ]
    rw [this, show (k + 1) * 6 + 3 = (k * 6 + 3) + 1 + 1 + 1 + 1 + 1 + 1 by omega]
    rfl
theorem at_lt {R : List Sil} (h : UpS R) {i j : Nat} (hi : i < R.length) (hj : j < R.length) (hij : i < j) : R[i].id < R[j].id := List.pairwise_iff_getElem.1 h i j hi hj hij
theorem filter_id {R : List Sil} (h : UpS R) {k : Nat} (hk : k < R.length) : (R.filter fun s => !(s.id == R[k].id)) = R.take k ++ R.drop (k + 1) := by
  have e : R = R.take k ++ R[k] :: R.drop (k + 1) := by rw [← List.drop_eq_getElem_cons hk, List.take_append_drop]
  have e1 : (R.take k).filter (fun s => !(s.id == R[k].id)) = R.take k := List.filter_eq_self.2 (fun s hs => by
    obtain ⟨i, hi, rfl⟩ := List.getElem_of_mem hs
    rw [List.length_take] at hi
    rw [List.getElem_take]
    have := at_lt h (i := i) (by omega) hk (by omega)
    simp; omega)
  have e2 : (R.drop (k + 1)).filter (fun s => !(s.id == R[k].id)) = R.drop (k + 1) := List.filter_eq_self.2 (fun s hs => by
    obtain ⟨i, hi, rfl⟩ := List.getElem_of_mem hs
    rw [List.length_drop] at hi
    rw [List.getElem_drop]
    have := at_lt h hk (j := k + 1 + i) (by omega) (by omega)
    simp; omega)
  obtain ⟨x, hx⟩ : ∃ x, R[k].id = x := ⟨_, rfl⟩
  rw [hx] at e1 e2 ⊢
  conv => lhs; rw [e]
  rw [List.filter_append, List.filter_cons, e1, e2]
  simp [hx]
theorem setS_set {R : List Sil} (h : UpS R) {k : Nat} (hk : k < R.length) (now : Int) : setS R { R[k] with til := now } = R.set k { R[k] with til := now } := by
  unfold setS
  apply List.ext_getElem
  · simp
  · intro i h1 h2
    simp only [List.getElem_map, List.getElem_set]
    rw [List.length_map] at h1
    by_cases e : k = i
    · subst e; simp
    · rw [if_neg e, if_neg]
      intro he
      rcases Nat.lt_or_gt_of_ne e with h3 | h3
      · have := at_lt h hk h1 h3; omega
      · have := at_lt h h1 hk h3; omega
theorem at_find {R : List Sil} (hu : UpS R) {id z : Int} (h : AtR R id z) : (z = -1 ∧ (R.find? fun s => s.id == id) = none) ∨ ∃ (k : Nat) (hk : k < R.length), z = (k : Int) ∧ R[k].id = id ∧ (R.find? fun s => s.id == id) = some R[k] := by
  rcases h with ⟨h1, h2⟩ | ⟨k, hk, h1, h2⟩
  · exact .inl ⟨h1, List.find?_eq_none.2 (fun s hs => by simpa using h2 s hs)⟩
  · exact .inr ⟨k, hk, h1, h2, by rw [← h2]; exact find_self hu (List.getElem_mem hk)⟩
theorem RlAt.row0 {w : World} {q base : Nat} {R : List Sil} {N : Int} {v : Value} (h : RlAt w q base R N v) (h0 : 0 < R.length) : ∃ g c, v = .slice (some ⟨g, 0, none⟩) R.length c ∧ R.length ≤ c ∧ g < w.heap.size ∧ g ≠ q ∧ base ≤ g ∧ ∀ (k : Nat) (hk : k < R.length),
    w.cell? ⟨g, k * 6, none⟩ = some (.int .i64 R[k].id) ∧ w.cell? ⟨g, k * 6 + 2, none⟩ = some (.int .i64 R[k].fr) ∧ w.cell? ⟨g, k * 6 + 3, none⟩ = some (.int .i64 R[k].til) := by
  obtain ⟨g, c, e, _, _⟩ := h.own.form h0
  obtain ⟨a, c', e2, hc, hr⟩ := h.row
  rw [e] at e2
  simp only [Value.slice.injEq, true_and] at e2
  obtain ⟨rfl, rfl⟩ := e2
  obtain ⟨g', o, e3, hg, hgq, hcell⟩ := hr h0
  simp only [Option.some.injEq, Addr.mk.injEq, and_true] at e3
  obtain ⟨rfl, rfl⟩ := e3
  refine ⟨g, c, e, hc, hg, hgq, (h.own.lt g (by rw [e]; rfl)).1, fun k hk => ?_⟩
  obtain ⟨a0, _, a2, a3, _⟩ := hcell k hk
  simp only [Nat.zero_add] at a0 a2 a3
  exact ⟨a0, a2, a3⟩
theorem rl_til {w : World} {q base g c : Nat} {R : List Sil} {N : Int} (h : RlAt w q base R N (.slice (some ⟨g, 0, none⟩) R.length c)) {k : Nat} (hk : k < R.length) (now : Int) :
    RlOk w (w.setCell ⟨g, k * 6 + 3, none⟩ (.int .i64 now)) q base (R.set k { R[k] with til := now }) N (.slice (some ⟨g, 0, none⟩) R.length c) (.slice (some ⟨g, 0, none⟩) R.length c) := by
  obtain ⟨ho, hg⟩ := h.own.stored (k * 6 + 3) (.int .i64 now)
  have hgq := h.ne g rfl
  have hbg := (h.own.lt g rfl).1
  have k1 : Kp q g w (w.setCell ⟨g, k * 6 + 3, none⟩ (.int .i64 now)) := ⟨hg.os, hg.tape, hg.output, hg.size, fun b hb _ e => hg.block b hb (fun x => e (Option.some.inj x))⟩
  refine ⟨⟨by rw [set_far (by omega)]; exact h.h0, by rw [set_far (by omega)]; exact h.h1, by rw [List.length_set, rsCells_set]; exact ho, there_set h.th _ _ _, h.ne, fun s hs => ?_, h.bq, by rw [List.length_set]; exact h.few⟩, k1, fun j e => .inl e⟩
  have hs' : ∃ t ∈ R, s.mv = t.mv ∧ s.ms = t.ms := by
    rcases List.mem_or_eq_of_mem_set hs with h1 | rfl
    · exact ⟨s, h1, rfl, rfl⟩
    · exact ⟨R[k], List.getElem_mem hk, rfl, rfl⟩
  obtain ⟨t, ht, e1, e2⟩ := hs'
  rw [e1, e2]
  obtain ⟨a1, a2, a3, a4⟩ := h.ms t ht
  exact ⟨mts_kp a1 a4 k1 h.bq hbg, a2, a3, a4⟩
set_option maxHeartbeats 3200000 in
set_option maxRecDepth 100000 in
theorem rend_any (q base : Nat) (R : List Sil) (N id now : Int) (v : Value) (w : World) (h : RlAt w q base R N v) (hu : UpS R) :
    Calls Tryz.prog 71 #[.pointer (some ⟨q, 0, none⟩), .int .i64 id, .int .i64 now] w fun e w' => e = .returned (.int .i64 (endE R id now)) ∧ ∃ v', RlOk w w' q base (endL R id now) N v v' := by
  have k := rat_any q base R N id v w h
  have l0 := h.h0
  have hlt := h.lt
  have H := Lib.hid h
  have HU := Lib.hid hu
  have TH := Lib.hid h.th
  have hlen := h.few
  obtain ⟨i0, hi, hz0, hz1, hz2⟩ := info_parts info_rs
  clear h hu
  go_enter Tryz.func71, Tryz.ntmps71
  go_wp2_with fail
  refine k.mono ?_
  rintro e w1 ⟨z, rfl, hz, hww⟩
  obtain rfl := hww.symm
  clear k
  rcases at_find HU.out hz.out with ⟨rfl, hf⟩ | ⟨k, hk, rfl, hid, hf⟩
  · have HE := Lib.hid (endE_none (now := now) hf)
    clear hz hf
    go_wp2
    go_ret
    exact ⟨by rw [HE.out.1]; rfl, v, by rw [HE.out.2]; exact RlOk.same H.out (Below.refl _ _)⟩
  · obtain ⟨g, c, rfl, hc, hg, hgq, hbg, hcell⟩ := H.out.row0 (by omega)
    obtain ⟨-, a2, a3⟩ := hcell k hk
    have HID := Lib.hid hid
    have HF := Lib.hid hf
    obtain ⟨til, ht⟩ : ∃ t, R[k].til = t := ⟨_, rfl⟩
    obtain ⟨fr, hfr⟩ : ∃ t, R[k].fr = t := ⟨_, rfl⟩
    rw [hfr] at a2
    rw [ht] at a3
    have HTL := Lib.hid ht
    have HFR := Lib.hid hfr
    have hi0 : (0 : Int) ≤ (k : Int) := by omega
    have hi1 : (k : Int) < (R.length : Int) := by omega
    have hin : ¬ (k : Int) < 0 := by omega
    have hin2 : ((k : Int) < 0) = False := by simp
    clear hz hid hf hcell ht hfr
    by_cases hn : til ≤ now
    · have HE := Lib.hid (endE_old (now := now) HF.out (by rw [HTL.out]; exact hn))
      go_wp2
      go_ret
      exact ⟨by rw [HE.out.1]; rfl, _, by rw [HE.out.2]; exact RlOk.same H.out (Below.refl _ _)⟩
    · have HN : Hid (¬ R[k].til ≤ now) := Lib.hid (by rw [HTL.out]; exact hn)
      by_cases hs : now ≤ fr
      · have HE := Lib.hid (endE_drop (now := now) HF.out HN.out (by rw [HFR.out]; exact hs))
        have hrd := RdAt.own H.out.own
        have HD1 : Hid (RdAt w.drew (.slice (some ⟨g, 0, none⟩) k c) k 6 (rsCells (R.take k))) := Lib.hid (by
          refine RdAt.mk (by rw [rsCells_len, List.length_take]; congr 1; omega) (by omega) hg (fun j x hx => ?_)
          rw [rsCells_take] at hx
          obtain ⟨b, o, c', e, _, _, hcell⟩ := hrd.some (by omega)
          cases e
          have hx' : (rsCells R)[j]? = some x := by rw [List.getElem?_take] at hx; split at hx; exact hx; cases hx
          exact hcell j x hx')
        have hkc : k ≤ c := by omega
        have hk1 : k + 1 ≤ R.length := by omega
        have hwr : IntKind.i64.wrap ((k : Int) + 1) = (k : Int) + 1 := IntWalk.i64_in _ ⟨by omega, by omega⟩
        have h02 : (0 : Int) ≤ (k : Int) + 1 := by omega
        have hk2 : (k : Int) + 1 ≤ (R.length : Int) := by omega
        have htn : ((k : Int) + 1).toNat = k + 1 := by omega
        have HD2 : Hid (∀ (a : Option Addr) (m cc : Nat), (a = some ⟨g, (k + 1) * 6, none⟩ ∨ (c = k + 1 ∧ a ≠ none)) → (m = R.length - (k + 1) ∧ cc = c - (k + 1)) → ∀ {W : World}, Below w.heap.size w W → RdAt W (.slice a m cc) m 6 (rsCells (R.drop (k + 1)))) := Lib.hid (fun a m cc ha hm W hW => by
          obtain ⟨rfl, rfl⟩ := hm
          refine ⟨by rw [rsCells_len, List.length_drop], .inr ?_⟩
          obtain ⟨ad, rfl⟩ : ∃ ad, a = some ad := by
            rcases ha with rfl | ⟨_, h⟩
            · exact ⟨_, rfl⟩
            · exact Option.ne_none_iff_exists'.1 h
          refine ⟨ad, _, rfl, by omega, fun h0 => ?_⟩
          rcases ha with h1 | ⟨h1, _⟩
          · cases h1
            obtain ⟨b, o, c', e, _, hlt', hcell⟩ := hrd.some (by omega)
            cases e
            refine ⟨g, _, rfl, Nat.lt_of_lt_of_le hlt' hW.size, fun j x hx => ?_⟩
            rw [rsCells_drop, List.getElem?_drop] at hx
            have := hcell _ x hx
            rw [Nat.zero_add] at this
            exact keep_cell this hW hlt'
          · omega)
        clear hrd
        go_upto_region 5 with fail
        refine wp_region_heldS 18 (S := (fun W => W.cell? ⟨q, 0, none⟩ = some (.slice (some ⟨g, 0, none⟩) R.length c))) (by kernel_rfl) l0 (fun hHeld => ?_)
        refine heldS_take (i := 0) (v := ?_) rfl rfl (by kernel_rfl) (by kernel_rfl) (by kernel_rfl) (by kernel_rfl) (by kernel_rfl) (fun _ _ _ h => h) (by rfl) hHeld ?_ ?_
        rotate_left
        · rintro wh hS
          go_simp
          (try with_reducible rfl)
        simp only [Act.put, List.setIfInBounds_toArray, List.set_cons_zero, List.set_cons_succ]
        refine heldS_take (i := 1) (v := ?_) rfl rfl (by kernel_rfl) (by kernel_rfl) (by kernel_rfl) (by kernel_rfl) (by kernel_rfl) (fun _ _ _ h => h) (by rfl) hHeld ?_ ?_
        rotate_left
        · rintro wh hS
          go_simp
          (try with_reducible rfl)
        simp only [Act.put, List.setIfInBounds_toArray, List.set_cons_zero, List.set_cons_succ]
        refine heldS_take (i := 2) (v := ?_) rfl rfl (by kernel_rfl) (by kernel_rfl) (by kernel_rfl) (by kernel_rfl) (by kernel_rfl) (fun _ _ _ h => h) (by rfl) hHeld ?_ ?_
        rotate_left
        · rintro wh hS
          go_simp
          (try with_reducible rfl)
        simp only [Act.put, List.setIfInBounds_toArray, List.set_cons_zero, List.set_cons_succ]
        refine heldS_take (i := 3) (v := ?_) rfl rfl (by kernel_rfl) (by kernel_rfl) (by kernel_rfl) (by kernel_rfl) (by kernel_rfl) (fun _ _ _ h => h) (by rfl) hHeld ?_ ?_
        rotate_left
        · rintro wh hS
          go_simp
          (try with_reducible rfl)
        simp only [Act.put, List.setIfInBounds_toArray, List.set_cons_zero, List.set_cons_succ]
        refine heldS_take (i := 4) (v := ?_) rfl rfl (by kernel_rfl) (by kernel_rfl) (by kernel_rfl) (by kernel_rfl) (by kernel_rfl) (fun _ _ _ h => h) (by rfl) hHeld ?_ ?_
        rotate_left
        · rintro wh hS
          go_simp
          (try with_reducible rfl)
        simp only [Act.put, List.setIfInBounds_toArray, List.set_cons_zero, List.set_cons_succ]
        refine heldS_take (i := 5) (v := ?_) rfl rfl (by kernel_rfl) (by kernel_rfl) (by kernel_rfl) (by kernel_rfl) (by kernel_rfl) (fun _ _ _ h => h) (by rfl) hHeld ?_ ?_
        rotate_left
        · rintro wh hS
          go_simp
          (try with_reducible rfl)
        simp only [Act.put, List.setIfInBounds_toArray, List.set_cons_zero, List.set_cons_succ]
        refine heldS_take (i := 6) (v := ?_) rfl rfl (by kernel_rfl) (by kernel_rfl) (by kernel_rfl) (by kernel_rfl) (by kernel_rfl) (fun _ _ _ h => h) (by rfl) hHeld ?_ ?_
        rotate_left
        · rintro wh hS
          go_simp
          (try with_reducible rfl)
        simp only [Act.put, List.setIfInBounds_toArray, List.set_cons_zero, List.set_cons_succ]
        refine heldS_take (i := 8) (v := ?_) rfl rfl (by kernel_rfl) (by kernel_rfl) (by kernel_rfl) (by kernel_rfl) (by kernel_rfl) (fun _ _ _ h => h) (by rfl) hHeld ?_ ?_
        rotate_left
        · rintro wh hS
          go_simp
          (try with_reducible rfl)
        simp only [Act.put, List.setIfInBounds_toArray, List.set_cons_zero, List.set_cons_succ]
        refine heldS_take (i := 9) (v := ?_) rfl rfl (by kernel_rfl) (by kernel_rfl) (by kernel_rfl) (by kernel_rfl) (by kernel_rfl) (fun _ _ _ h => h) (by rfl) hHeld ?_ ?_
        rotate_left
        · rintro wh hS
          go_simp
          (try with_reducible rfl)
        simp only [Act.put, List.setIfInBounds_toArray, List.set_cons_zero, List.set_cons_succ]
        refine heldS_take (i := 10) (v := ?_) rfl rfl (by kernel_rfl) (by kernel_rfl) (by kernel_rfl) (by kernel_rfl) (by kernel_rfl) (fun _ _ _ h => h) (by rfl) hHeld ?_ ?_
        rotate_left
        · rintro wh hS
          go_simp
          (try with_reducible rfl)
        simp only [Act.put, List.setIfInBounds_toArray, List.set_cons_zero, List.set_cons_succ]
        refine heldS_take (i := 11) (v := ?_) rfl rfl (by kernel_rfl) (by kernel_rfl) (by kernel_rfl) (by kernel_rfl) (by kernel_rfl) (fun _ _ _ h => h) (by rfl) hHeld ?_ ?_
        rotate_left
        · rintro wh hS
          go_simp
          (try with_reducible rfl)
        simp only [Act.put, List.setIfInBounds_toArray, List.set_cons_zero, List.set_cons_succ]
        refine heldS_take (i := 12) (v := ?_) rfl rfl (by kernel_rfl) (by kernel_rfl) (by kernel_rfl) (by kernel_rfl) (by kernel_rfl) (fun _ _ _ h => h) (by rfl) hHeld ?_ ?_
        rotate_left
        · rintro wh hS
          go_simp
          (try with_reducible rfl)
        simp only [Act.put, List.setIfInBounds_toArray, List.set_cons_zero, List.set_cons_succ]
        refine heldS_take (i := 13) (v := ?_) rfl rfl (by kernel_rfl) (by kernel_rfl) (by kernel_rfl) (by kernel_rfl) (by kernel_rfl) (fun _ _ _ h => h) (by rfl) hHeld ?_ ?_
        rotate_left
        · rintro wh hS
          go_simp
          (try with_reducible rfl)
        simp only [Act.put, List.setIfInBounds_toArray, List.set_cons_zero, List.set_cons_succ]
        refine heldS_take (i := 14) (v := ?_) rfl rfl (by kernel_rfl) (by kernel_rfl) (by kernel_rfl) (by kernel_rfl) (by kernel_rfl) (fun _ _ _ h => h) (by rfl) hHeld ?_ ?_
        rotate_left
        · rintro wh hS
          go_simp
          (try with_reducible rfl)
        simp only [Act.put, List.setIfInBounds_toArray, List.set_cons_zero, List.set_cons_succ]
        generalize hA : (if c = k + 1 then some (⟨g, 0, none⟩ : Addr) else some ⟨g, (k + 1) * 6, none⟩) = A at *
        have HA := Lib.hid hA
        clear hA
        refine heldS_step (i := 7) rfl (by kernel_rfl) (fun K hK => ?_)
        refine step_append_rd rfl (.const (.slice none 0 0)) (.tmp 41) 84 rfl w.heap.size 58 i0 (.agg #[.int .i64 0, .slice none 0 0, .int .i64 0, .int .i64 0, .int .i64 0, .int .u32 0]) 6 64 Tryz.underlying84 hi hz0 hz1 hz2 rfl (by decide) (.slice none 0 0) 0 [] rfl (World.ownsRow_nil _ _ _ _) _ k (rsCells (R.take k)) rfl HD1.out (rsCells_one _) (by unfold maxLen; omega) (by omega) (Nat.le_refl _) ?_; intro v1 w5 hown1 hgrow1 _; have HB5 := Lib.hid (((Below.refl w.heap.size w).drew).grown hgrow1 (Nat.le_refl _) (fun j e => by cases e)); simp only [Nat.zero_add, List.nil_append] at hown1; have d5 := keep_cell l0 HB5.out hlt; obtain ⟨oa, oc, rfl, _, _⟩ := RdAt.shape (RdAt.own hown1); have HO1 := Lib.hid hown1; clear hown1 hgrow1
        refine hK.out _ _ d5 (fun hHeld => ?_)
        clear hK K
        (try simp only [List.getElem_toArray, List.getElem_cons_succ, List.getElem_cons_zero, Act.put, List.setIfInBounds_toArray, List.set_cons_zero, List.set_cons_succ])
        refine heldS_step (i := 15) rfl (by kernel_rfl) (fun K hK => ?_)
        refine step_append_rd rfl (.tmp 42) (.tmp 49) 84 rfl w.heap.size 58 i0 (.agg #[.int .i64 0, .slice none 0 0, .int .i64 0, .int .i64 0, .int .i64 0, .int .u32 0]) 6 64 Tryz.underlying84 hi hz0 hz1 hz2 rfl (by decide) _ k (rsCells (R.take k)) rfl HO1.out _ (R.length - (k + 1)) (rsCells (R.drop (k + 1))) rfl (HD2.out _ _ _ (by rw [← HA.out]; by_cases e : c = k + 1; (rw [if_pos e]; exact .inr ⟨e, by simp⟩); (rw [if_neg e]; exact .inl rfl)) ⟨rfl, rfl⟩ HB5.out) (rsCells_one _) (by unfold maxLen; omega) (by omega) HB5.out.size ?_; intro v2 w6 hown2 hgrow2 _; have HB6 := Lib.hid (HB5.out.grown hgrow2 HB5.out.size (fun j e => (HO1.out.lt j e).1)); have d6 := keep_cell l0 HB6.out hlt; have f6 := there_free (there_later TH.out HB6.out hlt) 0 (by omega); obtain ⟨ob, od, rfl, _, _⟩ := RdAt.shape (RdAt.own hown2); have HO2 := Lib.hid hown2; clear hown2 hgrow2
        refine hK.out _ _ d6 (fun hHeld => ?_)
        clear hK K
        (try simp only [List.getElem_toArray, List.getElem_cons_succ, List.getElem_cons_zero, Act.put, List.setIfInBounds_toArray, List.set_cons_zero, List.set_cons_succ])
        refine heldS_step (i := 16) rfl (by kernel_rfl) (fun K hK => ?_)
        go_simp
        refine hK.out _ _ d6 (fun hHeld => ?_)
        clear hK K
        (try simp only [List.getElem_toArray, List.getElem_cons_succ, List.getElem_cons_zero, Act.put, List.setIfInBounds_toArray, List.set_cons_zero, List.set_cons_succ])
        refine heldS_step (i := 17) rfl (by kernel_rfl) (fun K hK => ?_)
        go_simp
        refine hK.out _ _ d6 (fun hHeld => ?_)
        clear hK K
        (try simp only [List.getElem_toArray, List.getElem_cons_succ, List.getElem_cons_zero, Act.put, List.setIfInBounds_toArray, List.set_cons_zero, List.set_cons_succ])
        refine heldS_last (i := 18) rfl (by kernel_rfl) (by kernel_rfl) (fun K hK => ?_)
        go_simp
        refine hK.out _ _ ?_
        clear hK K
        (try simp only [List.getElem_toArray, List.getElem_cons_succ, List.getElem_cons_zero, Act.put, List.setIfInBounds_toArray, List.set_cons_zero, List.set_cons_succ])
        refine wpAnyEnd_done (by kernel_rfl) ?_ _
        go_wp2
        go_ret
        refine ⟨by rw [HE.out.1]; rfl, .slice ob (k + (R.length - (k + 1))) od, ?_⟩
        rw [HE.out.2]
        have hfl := filter_id HU.out hk
        rw [HID.out] at hfl
        rw [hfl]
        have hll : (R.take k ++ R.drop (k + 1)).length = k + (R.length - (k + 1)) := by rw [List.length_append, List.length_take, List.length_drop]; congr 1; omega
        refine rl_put (v' := .slice ob (k + (R.length - (k + 1))) od) H.out (Kp.of_below HB6.out) (by rw [d6]; rfl) (keep_cell H.out.h1 HB6.out hlt) (there_later TH.out HB6.out hlt) (by rw [hll, rsCells_append]; exact own_base HO2.out (by have := H.out.bq; omega)) (fun j hj => by have := (HO2.out.lt j hj).1; omega) (fun s hs => ?_) (by rw [hll]; omega) (fun j hj => .inr (HO2.out.lt j hj).1)
        exact H.out.ms s (by
          rcases List.mem_append.1 hs with h | h
          · exact List.mem_of_mem_take h
          · exact List.mem_of_mem_drop h)
      · have HE := Lib.hid (endE_set (now := now) HF.out HN.out (by rw [HFR.out]; exact hs))
        have f3 := H.out.own.frozenAt (k * 6 + 3)
        go_wp2
        go_ret
        refine ⟨by rw [HE.out.1]; rfl, .slice (some ⟨g, 0, none⟩) R.length c, ?_⟩
        rw [HE.out.2, setS_set HU.out hk]
        exact rl_til H.out hk now
end Go.Proofs.YtcfococinllcmaaGreat

/- silences, plainly: of one label ten at most; what a step says. -/
namespace Go.Proofs.YtcfococinllcmaaGreat
open Go.RowKit
def TenS (S : List Sil) : Prop := ∀ s : Sil, quoS S s ≤ 10
theorem ten_nil : TenS [] := fun s => by simp [quoS]
theorem quo_snoc (S : List Sil) (x s : Sil) : quoS (S ++ [x]) s = quoS S s + (if sameL x s = true then 1 else 0) := by
  unfold quoS
  rw [List.countP_append, List.countP_cons, List.countP_nil]
  omega
theorem sameL_iff (t s : Sil) : sameL t s = true ↔ t.lv = s.lv ∧ t.c = s.c := by
  unfold sameL
  simp
theorem quo_same {S : List Sil} {s t : Sil} (h : s.lv = t.lv ∧ s.c = t.c) : quoS S s = quoS S t := by
  unfold quoS sameL
  rw [h.1, h.2]
theorem ten_lay {S S' : List Sil} {last last' : Int} {s : Sil} (h : TenS S) (hl : LayS S last s S' last') : TenS S' := by
  cases hl with
  | no _ => exact h
  | yes hy mv =>
    intro t
    rw [quo_snoc]
    split
    · rename_i he
      have he' := (sameL_iff _ _).1 he
      unfold laysS at hy
      simp only [Bool.and_eq_true, decide_eq_true_eq] at hy
      have h1 : quoS S s = quoS S t := quo_same he'
      have := h t
      have := hy.2
      omega
    · exact h t
theorem ten_sub {S T : List Sil} (h : TenS S) (hs : T.Sublist S) : TenS T := fun s => Nat.le_trans (hs.countP_le) (h s)
theorem ten_set {S : List Sil} {x : Sil} (h : TenS S) (hx : ∀ t ∈ S, t.id = x.id → t.lv = x.lv ∧ t.c = x.c) : TenS (setS S x) := by
  intro s
  have e : quoS (setS S x) s = quoS S s := by
    unfold quoS setS
    rw [List.countP_map]
    apply List.countP_congr
    intro t ht
    simp only [Function.comp]
    split
    · rename_i hi
      rw [sameL_iff, sameL_iff, (hx t ht hi).1, (hx t ht hi).2]
    · exact Iff.rfl
  rw [e]
  exact h s
theorem up_eq {S : List Sil} (h : UpS S) {s t : Sil} (hs : s ∈ S) (ht : t ∈ S) (e : s.id = t.id) : s = t := by
  induction S with
  | nil => cases hs
  | cons u S ih =>
    obtain ⟨h1, h2⟩ := List.pairwise_cons.1 h
    rcases List.mem_cons.1 hs with rfl | hs' <;> rcases List.mem_cons.1 ht with rfl | ht'
    · rfl
    · have := h1 t ht'; omega
    · have := h1 s hs'; omega
    · exact ih h2 hs' ht'
theorem ten_end {S : List Sil} (h : TenS S) (hu : UpS S) (id now : Int) : TenS (endL S id now) := by
  cases hf : S.find? fun s => s.id == id with
  | none => rw [(endE_none hf).2]; exact h
  | some s =>
    by_cases h1 : s.til ≤ now
    · rw [(endE_old hf h1).2]; exact h
    · by_cases h2 : now ≤ s.fr
      · rw [(endE_drop hf h1 h2).2]; exact ten_sub h List.filter_sublist
      · rw [(endE_set hf h1 h2).2]
        refine ten_set h fun t ht hi => ?_
        have := up_eq hu ht (List.mem_of_find?_eq_some hf) hi
        rw [this]
        exact ⟨rfl, rfl⟩
theorem ten_does {o : SOp} {S S' : List Sil} {last last' : Int} {r : Value} (h : TenS S) (hu : UpS S) (hd : DoesS o S last r S' last') : TenS S' := by
  cases hd with
  | lay _ mv hl => exact ten_lay h hl
  | fin _ => exact ten_end h hu _ _
  | forget _ => exact ten_sub h List.filter_sublist
theorem does_says {o : SOp} {S S' : List Sil} {last last' : Int} {r : Value} (hd : DoesS o S last r S' last') :
    ∃ n e : Int, r = .tuple #[.int .i64 n, .int .i64 e] ∧ ((kindO o.kd = 0 ∧ e = 0 ∧ n = last + 1 ∧ last' = last + 1) ∨ (¬(kindO o.kd = 0 ∧ e = 0) ∧ last' = last)) := by
  cases hd with
  | lay h mv hl =>
    refine ⟨if laysS S { cutS o.s with mv := mv } = true then last + 1 else 0, if rightS { cutS o.s with mv := mv } = true then (if quoS S { cutS o.s with mv := mv } = 10 then 7 else 0) else 1, rfl, ?_⟩
    cases hl with
    | no hn =>
      right
      refine ⟨fun hh => ?_, rfl⟩
      unfold laysS at hn
      have := hh.2
      by_cases hr : rightS { cutS o.s with mv := mv } = true
      · rw [if_pos hr] at this
        by_cases hq : quoS S { cutS o.s with mv := mv } = 10
        · rw [if_pos hq] at this; exact absurd this (by decide)
        · rw [hr] at hn
          simp [hq] at hn
      · rw [if_neg hr] at this; exact absurd this (by decide)
    | yes hy _ =>
      left
      have hy' := hy
      unfold laysS at hy
      simp only [Bool.and_eq_true, decide_eq_true_eq] at hy
      exact ⟨h, by rw [if_pos hy.1, if_neg hy.2], by rw [if_pos hy'], rfl⟩
  | fin h => exact ⟨0, endE S o.id o.now, rfl, .inr ⟨fun hh => (by rw [hh.1] at h; cases h), rfl⟩⟩
  | forget h => exact ⟨((S.countP (endS o.now) : Nat) : Int), 0, rfl, .inr ⟨fun hh => (by rw [hh.1] at h; cases h), rfl⟩⟩
theorem does_last {o : SOp} {S S' : List Sil} {last last' : Int} {r : Value} (hd : DoesS o S last r S' last') : last ≤ last' ∧ last' ≤ last + 1 := by
  obtain ⟨n, e, _, h⟩ := does_says hd
  rcases h with h | h <;> omega
end Go.Proofs.YtcfococinllcmaaGreat

/- lychgateref10: Lay. -/
namespace Go.Proofs.YtcfococinllcmaaGreat
open Go.RowKit
inductive LayR (R : List Sil) (N : Int) (s : Sil) : Value → List Sil → Int → Prop
  | odd (h : rightS s = false) : LayR R N s (.tuple #[.int .i64 0, .int .i64 1]) R N
  | full (h : rightS s = true) (hq : 10 ≤ quoS R s) : LayR R N s (.tuple #[.int .i64 0, .int .i64 7]) R N
  | ok (h : rightS s = true) (hq : quoS R s < 10) : LayR R N s (.tuple #[.int .i64 (N + 1), .int .i64 0]) (R ++ [{ s with id := N + 1 }]) (N + 1)
inductive LayPost (w : World) (q base : Nat) (R : List Sil) (N : Int) (s : Sil) (v : Value) (e : Ending) (w' : World) : Prop
  | mk (r : Value) (R' : List Sil) (N' : Int) (v' : Value) (he : e = .returned r) (hl : LayR R N s r R' N') (ho : RlOk w w' q base R' N' v v') : LayPost w q base R N s v e w'
theorem rlay_step {w w2 : World} {q base : Nat} {R : List Sil} {N : Int} {v : Value} (h : RlAt w q base R N v) (hb : Below w.heap.size w w2) {b1 b2 b3 b4 b5 : Value} {b0 : Value}
    (hx : C6 w.heap.size b0 b1 b2 b3 b4 b5 w2) :
    ∃ W4, (w2.setCell ⟨q, 1, none⟩ (.int .i64 (N + 1))).setCell ⟨w.heap.size, 0, none⟩ (.int .i64 (N + 1)) = W4 ∧ W4.cell? ⟨q, 0, none⟩ = some v ∧ W4.cell? ⟨q, 1, none⟩ = some (.int .i64 (N + 1)) ∧ C6 w.heap.size (.int .i64 (N + 1)) b1 b2 b3 b4 b5 W4 ∧
      W4.there q 0 2 ∧ W4.ownsRow base 58 6 v R.length (rsCells R) ∧ Kp q q w W4 ∧ w.heap.size < W4.heap.size := by
  have h' := h.later hb
  have hlt := h.lt
  have g1 := grown_setS w2 q 1 (.int .i64 (N + 1))
  have g2 := grown_setS (w2.setCell ⟨q, 1, none⟩ (.int .i64 (N + 1))) w.heap.size 0 (.int .i64 (N + 1))
  obtain ⟨x0, x1, x2, x3, x4, x5⟩ := hx
  have hx0 := cell_lt x0
  have e0 : ∀ i, 0 < i → ((w2.setCell ⟨q, 1, none⟩ (.int .i64 (N + 1))).setCell ⟨w.heap.size, 0, none⟩ (.int .i64 (N + 1))).cell? ⟨w.heap.size, i, none⟩ = w2.cell? ⟨w.heap.size, i, none⟩ := fun i hi => by
    rw [set_far (by omega), set_far (by omega)]
  refine ⟨_, rfl, ?_, ?_, ⟨?_, ?_, ?_, ?_, ?_, ?_⟩, there_set (there_set h'.th _ _ _) _ _ _, ?_, ?_, ?_⟩
  · rw [set_far (by omega), set_far (by omega)]; exact h'.h0
  · rw [set_far (by omega), World.cell?_setCell_same' _ _ _ (by rw [h'.h1]; rfl)]
  · rw [World.cell?_setCell_same' _ _ _ (by rw [set_far (by omega), x0]; rfl)]
  · rw [e0 1 (by omega)]; exact x1
  · rw [e0 2 (by omega)]; exact x2
  · rw [e0 3 (by omega)]; exact x3
  · rw [e0 4 (by omega)]; exact x4
  · rw [e0 5 (by omega)]; exact x5
  · exact (h'.own.kept g1 (.inr fun e => h.ne q e rfl)).kept g2 (.inr fun e => by have := (h.own.lt _ e).2; omega)
  · exact ⟨g2.os.trans (g1.os.trans hb.os), g2.tape.trans (g1.tape.trans hb.tape), g2.output.trans (g1.output.trans hb.output), Nat.le_trans hb.size (Nat.le_trans g1.size g2.size), fun i hi e1 _ => by
      rw [g2.block i (by have := hb.size; have := g1.size; omega) (fun e => by have := Option.some.inj e; omega), g1.block i (by have := hb.size; omega) (fun e => e1 (Option.some.inj e))]
      exact hb.block i hi⟩
  · have := g1.size; have := g2.size; omega
theorem rightS_pos {s : Sil} (h : rightS s = true) : 0 < s.ms.length := by
  unfold rightS at h
  simp only [Bool.and_eq_true, decide_eq_true_eq] at h
  exact h.1.1.1.1.1.1
theorem quo_takeR {R : List Sil} {s : Sil} {k : Nat} (h : k < R.length) : quoS (R.take (k + 1)) s = quoS (R.take k) s + (if sameL R[k] s = true then 1 else 0) := by
  rw [List.take_add_one, List.getElem?_eq_getElem h]
  exact quo_snoc _ _ _
set_option maxHeartbeats 6400000 in
set_option maxRecDepth 100000 in
theorem rlay_any (q base : Nat) (R : List Sil) (N i : Int) (v : Value) (s : Sil) (w : World) (h : RlAt w q base R N v) (hm : MtsAt w (SV s.mv) s.ms) (hf : MtsFit s.ms) (hl : s.ms.length ≤ 14) (hbm : 0 < s.ms.length → ∀ b, (SV s.mv).ownBlock = some b → b < base) (hN0 : 0 ≤ N) (hN1 : N < 1000000) (hR1 : R.length < 1000000) :
    Calls Tryz.prog 70 #[.pointer (some ⟨q, 0, none⟩), rsV i s] w (LayPost w q base R N s v) := by
  have hb0 := alloc_below w (.cells #[.int .i64 i, .slice s.mv.1 s.mv.2.1 s.mv.2.2, .int .i64 s.fr, .int .i64 s.til, .int .i64 s.lv, .int .u32 s.c] 58)
  have hz := World.size_alloc w (.cells #[.int .i64 i, .slice s.mv.1 s.mv.2.1 s.mv.2.2, .int .i64 s.fr, .int .i64 s.til, .int .i64 s.lv, .int .u32 s.c] 58)
  have x := alc6 w (.int .i64 i) (.slice s.mv.1 s.mv.2.1 s.mv.2.2) (.int .i64 s.fr) (.int .i64 s.til) (.int .i64 s.lv) (.int .u32 s.c) 58
  have ht := box_there (Below.refl _ (w.alloc (.cells #[.int .i64 i, .slice s.mv.1 s.mv.2.1 s.mv.2.2, .int .i64 s.fr, .int .i64 s.til, .int .i64 s.lv, .int .u32 s.c] 58)))
  have kr := r10right_any i s _ (hm.later hb0) hf (by omega)
  have hlt := h.lt
  obtain ⟨i0, hi, hz0, hz1, hz2⟩ := info_parts info_rs
  have HM := Lib.hid hm
  have HF := Lib.hid hf
  have HBM := Lib.hid hbm
  have HL := Lib.hid hl
  unfold rsV at kr ⊢
  obtain ⟨RS, hRS⟩ : ∃ RS, rightS s = RS := ⟨_, rfl⟩
  rw [hRS] at kr
  have HRS := Lib.hid hRS
  have HSM := Lib.hid (fun (k : Nat) (hk : k < R.length) => quo_takeR (s := s) hk)
  have HSL := Lib.hid (fun t => sameL_iff t s)
  clear hRS hm hf hbm hl
  obtain ⟨sid, ⟨ma, mn, mc⟩, ms, fr, til, lv, c⟩ := s
  dsimp only at *
  obtain ⟨W1, hW1⟩ : ∃ z, w.alloc (.cells #[.int .i64 i, .slice ma mn mc, .int .i64 fr, .int .i64 til, .int .i64 lv, .int .u32 c] 58) = z := ⟨_, rfl⟩
  rw [hW1] at hz kr hb0 x ht
  have X0 := Lib.hid x
  have HB0 := Lib.hid hb0
  have HT0 := Lib.hid ht
  change Hid (W1.there w.heap.size 0 6) at HT0
  have H := Lib.hid h
  clear h x hb0 ht
  obtain ⟨x0, x1, x2, x3, x4, x5⟩ := X0.out
  go_enter Tryz.func70, Tryz.ntmps70
  go_upto_region 1 with fail
  clear hW1
  go_wp2_with fail
  refine kr.mono ?_
  rintro e w2 ⟨rfl, hb2⟩
  have X2 := Lib.hid (X0.out.later hb2 (by omega))
  have HT2 := Lib.hid (there_later HT0.out hb2 (by omega))
  have HB2 := Lib.hid (HB0.out.trans (hb2.mono HB0.out.size))
  have HLT2 : Hid (w.heap.size < w2.heap.size) := Lib.hid (by have := hb2.size; omega)
  clear kr hb2 X0 HB0 HT0 x0 x1 x2 x3 x4 x5 hz
  obtain ⟨x0, x1, x2, x3, x4, x5⟩ := X2.out
  cases RS with
  | false =>
    go_wp2
    go_ret2
    exact .mk _ R N v rfl (.odd HRS.out) (RlOk.same H.out HB2.out)
  | true =>
  obtain ⟨va, vc, rfl, hc, hr⟩ := H.out.row
  have l0 := keep_cell H.out.h0 HB2.out hlt
  have l1 := keep_cell H.out.h1 HB2.out hlt
  have HR := Lib.hid hr
  clear hr
  go_upto_region 5 with fail
  go_loopw [6, 7] (fun v6 vi wr => ∃ (k : Nat) (n : Nat), k ≤ R.length ∧ vi = .int .i64 (k : Nat) ∧ v6 = .int .i64 (n : Nat) ∧ n ≤ k ∧ Hid (quoS (R.take k) ⟨sid, (ma, mn, mc), ms, fr, til, lv, c⟩ = n) ∧ Hid (Below w2.heap.size w2 wr)) (fun _ vi _ => R.length + 1 - (intOf vi).toNat)
  case atStart => exact ⟨0, 0, Nat.zero_le _, rfl, rfl, Nat.le_refl _, Lib.hid rfl, Lib.hid (Below.refl _ _)⟩
  case round =>
    obtain ⟨k, n, hk, rfl, rfl, hnk, HQ, HBW⟩ := hrel
    have HB3 := Lib.hid (HB2.out.trans (HBW.out.mono HB2.out.size))
    have X3 := Lib.hid (X2.out.later HBW.out HLT2.out)
    have HT3 := Lib.hid (there_later HT2.out HBW.out HLT2.out)
    clear x0 x1 x2 x3 x4 x5 l0 l1
    obtain ⟨x0, x1, x2, x3, x4, x5⟩ := X3.out
    have l0 := keep_cell H.out.h0 HB3.out hlt
    have l1 := keep_cell H.out.h1 HB3.out hlt
    by_cases hkl : k < R.length
    · obtain ⟨g, o, rfl, hg, _, hcell⟩ := HR.out (by omega)
      obtain ⟨_, _, _, _, a4, a5⟩ := hcell k hkl
      have hst := HSM.out k hkl
      rw [HQ.out] at hst
      have hsl := HSL.out R[k]
      have hi0 : (0 : Int) ≤ (k : Int) := by omega
      have hi1 : (k : Int) < (R.length : Int) := by omega
      generalize R[k] = t at *
      obtain ⟨tid, ⟨ta, tn, tc⟩, tms, tfr, ttil, tlv, tcc⟩ := t
      dsimp only at *
      have b4 := keep_cell a4 HB3.out hg
      have b5 := keep_cell a5 HB3.out hg
      have HST := Lib.hid hst
      have HSLL := Lib.hid hsl
      clear a4 a5 hcell hst hsl
      by_cases e1 : tlv = lv
      · by_cases e2 : tcc = c
        · have HS1 := Lib.hid (HSLL.out.2 ⟨e1, e2⟩)
          have hw1 : wrap64 ((n : Int) + 1) = ((n + 1 : Nat) : Int) := by rw [IntWalk.wrap64_in _ ⟨by omega, by omega⟩]; rfl
          have HW1 := Lib.hid hw1
          clear hw1
          subst e1
          subst e2
          go_upto_region 7 with fail
          go_quiet (fail)
          have HB7 := Lib.hid (bl_drewN HBW.out nq)
          generalize wr.drewN nq = wq at *
          go_wp2
          go_roundw
          case rel => exact ⟨k + 1, n + 1, by omega, by go_num, by go_num, by omega, Lib.hid (by rw [HST.out, HS1.out]; rfl), HB7⟩
          case measure => (simp [intOf]; try omega)
        · have HS1 : Hid (sameL ⟨tid, (ta, tn, tc), tms, tfr, ttil, tlv, tcc⟩ ⟨sid, (ma, mn, mc), ms, fr, til, lv, c⟩ = false) := Lib.hid (by
            rw [Bool.eq_false_iff]; exact fun h => e2 (HSLL.out.1 h).2)
          have be : ((tcc : Int) == (c : Int)) = false := by rw [beq_eq_false_iff_ne]; omega
          go_upto_region 7 with fail
          go_quiet (fail)
          have HB7 := Lib.hid (bl_drewN HBW.out nq)
          generalize wr.drewN nq = wq at *
          go_wp2
          go_roundw
          case rel => exact ⟨k + 1, n, by omega, by go_num, rfl, by omega, Lib.hid (by rw [HST.out, HS1.out]; rfl), HB7⟩
          case measure => (simp [intOf]; try omega)
      · have HS1 : Hid (sameL ⟨tid, (ta, tn, tc), tms, tfr, ttil, tlv, tcc⟩ ⟨sid, (ma, mn, mc), ms, fr, til, lv, c⟩ = false) := Lib.hid (by
          rw [Bool.eq_false_iff]; exact fun h => e1 (HSLL.out.1 h).1)
        have be : (tlv == lv) = false := by rw [beq_eq_false_iff_ne]; exact e1
        go_upto_region 7 with fail
        go_quiet (fail)
        have HB7 := Lib.hid (bl_drewN HBW.out nq)
        generalize wr.drewN nq = wq at *
        go_wp2
        go_roundw
        case rel => exact ⟨k + 1, n, by omega, by go_num, rfl, by omega, Lib.hid (by rw [HST.out, HS1.out]; rfl), HB7⟩
        case measure => (simp [intOf]; try omega)
    · obtain rfl : k = R.length := by omega
      have hi1 : ¬ (R.length : Int) < (R.length : Int) := by omega
      have HQ2 : Hid (quoS R ⟨sid, (ma, mn, mc), ms, fr, til, lv, c⟩ = n) := Lib.hid (by have := HQ.out; rwa [List.take_length] at this)
      clear HQ HSM HSL HR
      by_cases h10 : 10 ≤ n
      · have h10i : (10 : Int) ≤ (n : Int) := by omega
        go_wp2
        go_ret2
        exact .mk _ R N (.slice va R.length vc) rfl (.full HRS.out (by rw [HQ2.out]; exact h10)) (RlOk.same H.out HB3.out)
      · have h10i : ¬ (10 : Int) ≤ (n : Int) := by omega
        obtain ⟨W4, hW4, d0, d1, hx4, ht4, ho4, hk4, hz4⟩ := rlay_step H.out HB3.out X3.out
        have HX4 := Lib.hid hx4
        have HD := Lib.hid (And.intro d0 d1)
        have HT4 := Lib.hid ht4
        have HO4 := Lib.hid ho4
        have HK4 := Lib.hid hk4
        have HZ4 := Lib.hid hz4
        have f1 := there_free (there_later H.out.th HB3.out hlt) 1 (by omega)
        have fx := there_free HT3.out 0 (by omega)
        have hc1 : (wr.setCell ⟨q, 1, none⟩ (.int .i64 (N + 1))).cell? ⟨q, 1, none⟩ = some (.int .i64 (N + 1)) := World.cell?_setCell_same' _ _ _ (by rw [l1]; rfl)
        have hw1 : wrap64 (N + 1) = N + 1 := IntWalk.wrap64_in _ ⟨by omega, by omega⟩
        have hxq : w.heap.size ≠ q := by omega
        clear hx4 ht4 ho4 hk4 hz4 d0 d1
        go_upto_region 13 with fail
        clear hW4 hc1 f1 fx l0 l1 x0 x1 x2 x3 x4 x5 hw1
        have bx0 : w.heap.size ≠ q := by omega
        obtain ⟨bx, hbx⟩ : ∃ bx, w.heap.size = bx := ⟨_, rfl⟩
        have HBX := Lib.hid hbx
        have HS4 : Hid ((fun W => W.cell? ⟨q, 0, none⟩ = some (.slice va R.length vc) ∧ W.cell? ⟨bx, 0, none⟩ = some (.int .i64 (N + 1)) ∧ W.cell? ⟨bx, 1, none⟩ = some (.slice ma mn mc) ∧ W.cell? ⟨bx, 2, none⟩ = some (.int .i64 fr) ∧ W.cell? ⟨bx, 3, none⟩ = some (.int .i64 til) ∧ W.cell? ⟨bx, 4, none⟩ = some (.int .i64 lv) ∧ W.cell? ⟨bx, 5, none⟩ = some (.int .u32 c)) W4) := Lib.hid (by
          obtain ⟨x0, x1, x2, x3, x4, x5⟩ := HX4.out
          rw [← hbx]
          exact ⟨HD.out.1, x0, x1, x2, x3, x4, x5⟩)
        have hgg := Lib.hid (fun g e => (H.out.own.lt g e).2)
        rw [hbx]
        have hal : W4.drew.grownBy (W4.drew.alloc (.cells #[.int .i64 (N + 1), .slice ma mn mc, .int .i64 fr, .int .i64 til, .int .i64 lv, .int .u32 c] 58)) none := World.grownBy_alloc _ _ _
        have hzl : (W4.drew.alloc (.cells #[.int .i64 (N + 1), .slice ma mn mc, .int .i64 fr, .int .i64 til, .int .i64 lv, .int .u32 c] 58)).heap.size = W4.heap.size + 1 := World.size_alloc _ _
        have HRD := Lib.hid (row6s W4.drew (.int .i64 (N + 1)) (.slice ma mn mc) (.int .i64 fr) (.int .i64 til) (.int .i64 lv) (.int .u32 c) 58)
        have HO6 := Lib.hid (HO4.out.drew.alloc (.cells #[.int .i64 (N + 1), .slice ma mn mc, .int .i64 fr, .int .i64 til, .int .i64 lv, .int .u32 c] 58))
        have HS6 : Hid ((fun W => W.cell? ⟨q, 0, none⟩ = some (.slice va R.length vc) ∧ W.cell? ⟨bx, 0, none⟩ = some (.int .i64 (N + 1)) ∧ W.cell? ⟨bx, 1, none⟩ = some (.slice ma mn mc) ∧ W.cell? ⟨bx, 2, none⟩ = some (.int .i64 fr) ∧ W.cell? ⟨bx, 3, none⟩ = some (.int .i64 til) ∧ W.cell? ⟨bx, 4, none⟩ = some (.int .i64 lv) ∧ W.cell? ⟨bx, 5, none⟩ = some (.int .u32 c)) (W4.drew.alloc (.cells #[.int .i64 (N + 1), .slice ma mn mc, .int .i64 fr, .int .i64 til, .int .i64 lv, .int .u32 c] 58))) := Lib.hid (by
          obtain ⟨y0, y1, y2, y3, y4, y5, y6⟩ := HS4.out
          exact ⟨cell_keepS (w := W4.drew) y0 hal (by simp), cell_keepS (w := W4.drew) y1 hal (by simp), cell_keepS (w := W4.drew) y2 hal (by simp), cell_keepS (w := W4.drew) y3 hal (by simp), cell_keepS (w := W4.drew) y4 hal (by simp), cell_keepS (w := W4.drew) y5 hal (by simp), cell_keepS (w := W4.drew) y6 hal (by simp)⟩)
        have HK6 : Hid (Kp q q w (W4.drew.alloc (.cells #[.int .i64 (N + 1), .slice ma mn mc, .int .i64 fr, .int .i64 til, .int .i64 lv, .int .u32 c] 58))) := Lib.hid (HK4.out.trans (Kp.of_below (((Below.refl W4.heap.size W4).drew).alloc (Nat.le_refl _) _)))
        have HT6 : Hid ((W4.drew.alloc (.cells #[.int .i64 (N + 1), .slice ma mn mc, .int .i64 fr, .int .i64 til, .int .i64 lv, .int .u32 c] 58)).there q 0 2) := Lib.hid (there_later (w := W4) HT4.out (((Below.refl W4.heap.size W4).drew).alloc (Nat.le_refl _) _) (by have := HZ4.out; omega))
        have HQ6 : Hid ((W4.drew.alloc (.cells #[.int .i64 (N + 1), .slice ma mn mc, .int .i64 fr, .int .i64 til, .int .i64 lv, .int .u32 c] 58)).cell? ⟨q, 1, none⟩ = some (.int .i64 (N + 1))) := Lib.hid (cell_keepS (w := W4.drew) HD.out.2 hal (by simp))
        have HB6 : Hid (base ≤ (W4.drew.alloc (.cells #[.int .i64 (N + 1), .slice ma mn mc, .int .i64 fr, .int .i64 til, .int .i64 lv, .int .u32 c] 58)).heap.size) := Lib.hid (by rw [hzl]; have := H.out.bq; have := HZ4.out; omega)
        have HZ6 := Lib.hid hzl
        have HNQ := Lib.hid H.out.ne
        have HNB : Hid (∀ g, (Value.slice va R.length vc).ownBlock = some g → g ≠ bx) := Lib.hid (fun g e => by have := (H.out.own.lt g e).2; omega)
        have HS7 : Hid (∀ W', (W4.drew.alloc (.cells #[.int .i64 (N + 1), .slice ma mn mc, .int .i64 fr, .int .i64 til, .int .i64 lv, .int .u32 c] 58)).grownBy W' (Value.slice va R.length vc).ownBlock → (fun W => W.cell? ⟨q, 0, none⟩ = some (.slice va R.length vc) ∧ W.cell? ⟨bx, 0, none⟩ = some (.int .i64 (N + 1)) ∧ W.cell? ⟨bx, 1, none⟩ = some (.slice ma mn mc) ∧ W.cell? ⟨bx, 2, none⟩ = some (.int .i64 fr) ∧ W.cell? ⟨bx, 3, none⟩ = some (.int .i64 til) ∧ W.cell? ⟨bx, 4, none⟩ = some (.int .i64 lv) ∧ W.cell? ⟨bx, 5, none⟩ = some (.int .u32 c)) W') := Lib.hid (fun W' hg => by
          obtain ⟨y0, y1, y2, y3, y4, y5, y6⟩ := HS6.out
          exact ⟨cell_keepS y0 hg (fun e => HNQ.out q e rfl), cell_keepS y1 hg (fun e => HNB.out bx e rfl), cell_keepS y2 hg (fun e => HNB.out bx e rfl), cell_keepS y3 hg (fun e => HNB.out bx e rfl), cell_keepS y4 hg (fun e => HNB.out bx e rfl), cell_keepS y5 hg (fun e => HNB.out bx e rfl), cell_keepS y6 hg (fun e => HNB.out bx e rfl)⟩)
        have HT7 : Hid (∀ W', (W4.drew.alloc (.cells #[.int .i64 (N + 1), .slice ma mn mc, .int .i64 fr, .int .i64 til, .int .i64 lv, .int .u32 c] 58)).grownBy W' (Value.slice va R.length vc).ownBlock → W'.there q 0 2) := Lib.hid (fun W' hg => there_same HT6.out (hg.block q (cell_lt HQ6.out) (fun e => HNQ.out q e.symm rfl)))
        have HF7 : Hid (∀ W', (W4.drew.alloc (.cells #[.int .i64 (N + 1), .slice ma mn mc, .int .i64 fr, .int .i64 til, .int .i64 lv, .int .u32 c] 58)).grownBy W' (Value.slice va R.length vc).ownBlock → W'.frozen? ⟨q, 0, none⟩ = false) := Lib.hid (fun W' hg => there_free (HT7.out W' hg) 0 (by omega))
        clear hal hzl hbx
        refine wp_region_heldS 10 (S := (fun W => W.cell? ⟨q, 0, none⟩ = some (.slice va R.length vc) ∧ W.cell? ⟨bx, 0, none⟩ = some (.int .i64 (N + 1)) ∧ W.cell? ⟨bx, 1, none⟩ = some (.slice ma mn mc) ∧ W.cell? ⟨bx, 2, none⟩ = some (.int .i64 fr) ∧ W.cell? ⟨bx, 3, none⟩ = some (.int .i64 til) ∧ W.cell? ⟨bx, 4, none⟩ = some (.int .i64 lv) ∧ W.cell? ⟨bx, 5, none⟩ = some (.int .u32 c))) (by kernel_rfl) HS4.out (fun hHeld => ?_)
        refine heldS_take (i := 0) (v := ?_) rfl rfl (by kernel_rfl) (by kernel_rfl) (by kernel_rfl) (by kernel_rfl) (by kernel_rfl) (fun _ _ _ h => h) (by rfl) hHeld ?_ ?_
        rotate_left
        · rintro wh ⟨z0, z1, z2, z3, z4, z5, z6⟩
          go_simp
          (try with_reducible rfl)
        simp only [Act.put, List.setIfInBounds_toArray, List.set_cons_zero, List.set_cons_succ]
        refine heldS_take (i := 1) (v := ?_) rfl rfl (by kernel_rfl) (by kernel_rfl) (by kernel_rfl) (by kernel_rfl) (by kernel_rfl) (fun _ _ _ h => h) (by rfl) hHeld ?_ ?_
        rotate_left
        · rintro wh ⟨z0, z1, z2, z3, z4, z5, z6⟩
          go_simp
          (try with_reducible rfl)
        simp only [Act.put, List.setIfInBounds_toArray, List.set_cons_zero, List.set_cons_succ]
        refine heldS_take (i := 2) (v := ?_) rfl rfl (by kernel_rfl) (by kernel_rfl) (by kernel_rfl) (by kernel_rfl) (by kernel_rfl) (fun _ _ _ h => h) (by rfl) hHeld ?_ ?_
        rotate_left
        · rintro wh ⟨z0, z1, z2, z3, z4, z5, z6⟩
          go_simp
          (try with_reducible rfl)
        simp only [Act.put, List.setIfInBounds_toArray, List.set_cons_zero, List.set_cons_succ]
        refine heldS_take (i := 3) (v := ?_) rfl rfl (by kernel_rfl) (by kernel_rfl) (by kernel_rfl) (by kernel_rfl) (by kernel_rfl) (fun _ _ _ h => h) (by rfl) hHeld ?_ ?_
        rotate_left
        · rintro wh ⟨z0, z1, z2, z3, z4, z5, z6⟩
          go_simp
          (try with_reducible rfl)
        simp only [Act.put, List.setIfInBounds_toArray, List.set_cons_zero, List.set_cons_succ]
        refine heldS_take (i := 4) (v := ?_) rfl rfl (by kernel_rfl) (by kernel_rfl) (by kernel_rfl) (by kernel_rfl) (by kernel_rfl) (fun _ _ _ h => h) (by rfl) hHeld ?_ ?_
        rotate_left
        · rintro wh ⟨z0, z1, z2, z3, z4, z5, z6⟩
          go_simp
          (try with_reducible rfl)
        simp only [Act.put, List.setIfInBounds_toArray, List.set_cons_zero, List.set_cons_succ]
        refine heldS_take (i := 5) (v := ?_) rfl rfl (by kernel_rfl) (by kernel_rfl) (by kernel_rfl) (by kernel_rfl) (by kernel_rfl) (fun _ _ _ h => h) (by rfl) hHeld ?_ ?_
        rotate_left
        · rintro wh ⟨z0, z1, z2, z3, z4, z5, z6⟩
          go_simp
          (try with_reducible rfl)
        simp only [Act.put, List.setIfInBounds_toArray, List.set_cons_zero, List.set_cons_succ]
        refine heldS_step (i := 6) rfl (by kernel_rfl) (fun K hK => ?_)
        go_simp
        refine hK.out _ _ (HS6.out) (fun hHeld => ?_)
        clear hK K
        (try simp only [List.getElem_toArray, List.getElem_cons_succ, List.getElem_cons_zero, Act.put, List.setIfInBounds_toArray, List.set_cons_zero, List.set_cons_succ])
        refine heldS_step (i := 7) rfl (by kernel_rfl) (fun K hK => ?_)
        refine step_append_rd rfl (.tmp 51) (.tmp 53) 84 rfl base 58 i0 (.agg #[.int .i64 0, .slice none 0 0, .int .i64 0, .int .i64 0, .int .i64 0, .int .u32 0]) 6 64 Tryz.underlying84 hi hz0 hz1 hz2 rfl (by decide) _ R.length (rsCells R) rfl HO6.out _ 1 [.int .i64 (N + 1), .slice ma mn mc, .int .i64 fr, .int .i64 til, .int .i64 lv, .int .u32 c] rfl HRD.out (by simp [Value.oneCell']) (by unfold maxLen; omega) (by omega) HB6.out ?_; intro v7 w7 hown7 hgrow7 hor7; obtain ⟨oa, oc, rfl, _, _⟩ := RdAt.shape (RdAt.own hown7); have s7 := HS7.out _ hgrow7; have f7 := HF7.out _ hgrow7; have HO7 := Lib.hid hown7; have HG7 : Hid ((W4.drew.alloc (.cells #[.int .i64 (N + 1), .slice ma mn mc, .int .i64 fr, .int .i64 til, .int .i64 lv, .int .u32 c] 58)).grownBy w7 (Value.slice va R.length vc).ownBlock) := Lib.hid hgrow7; have HR7 : Hid ((Value.slice oa (R.length + 1) oc).ownBlock = (Value.slice va R.length vc).ownBlock ∨ (Value.slice oa (R.length + 1) oc).ownBlock = some (W4.heap.size + 1)) := Lib.hid (hor7.imp id (fun h => h.trans (congrArg some HZ6.out))); have HSS := Lib.hid s7; clear hown7 hgrow7 hor7 s7
        refine hK.out _ _ HSS.out (fun hHeld => ?_)
        clear hK K
        (try simp only [List.getElem_toArray, List.getElem_cons_succ, List.getElem_cons_zero, Act.put, List.setIfInBounds_toArray, List.set_cons_zero, List.set_cons_succ])
        refine heldS_step (i := 8) rfl (by kernel_rfl) (fun K hK => ?_)
        go_simp
        refine hK.out _ _ HSS.out (fun hHeld => ?_)
        clear hK K
        (try simp only [List.getElem_toArray, List.getElem_cons_succ, List.getElem_cons_zero, Act.put, List.setIfInBounds_toArray, List.set_cons_zero, List.set_cons_succ])
        refine heldS_step (i := 9) rfl (by kernel_rfl) (fun K hK => ?_)
        go_simp
        refine hK.out _ _ HSS.out (fun hHeld => ?_)
        clear hK K
        (try simp only [List.getElem_toArray, List.getElem_cons_succ, List.getElem_cons_zero, Act.put, List.setIfInBounds_toArray, List.set_cons_zero, List.set_cons_succ])
        refine heldS_last (i := 10) rfl (by kernel_rfl) (by kernel_rfl) (fun K hK => ?_)
        go_simp
        refine hK.out _ _ ?_
        clear hK K
        (try simp only [List.getElem_toArray, List.getElem_cons_succ, List.getElem_cons_zero, Act.put, List.setIfInBounds_toArray, List.set_cons_zero, List.set_cons_succ])
        refine wpAnyEnd_done (by kernel_rfl) ?_ _
        have hbq : bx ≠ q := by have := HBX.out; omega
        have y1 := HSS.out.2.1
        have y1' : (w7.setCell ⟨q, 0, none⟩ (.slice oa (R.length + 1) oc)).cell? ⟨bx, 0, none⟩ = some (.int .i64 (N + 1)) := (set_far (by omega)).trans HSS.out.2.1
        go_wp2
        go_ret2
        refine .mk _ (R ++ [⟨N + 1, (ma, mn, mc), ms, fr, til, lv, c⟩]) (N + 1) (.slice oa (R.length + 1) oc) rfl (.ok HRS.out (by rw [HQ2.out]; omega)) ?_
        have hk7 : Kp q ((Value.slice va R.length vc).ownBlock.getD q) w w7 := by
          refine ⟨HG7.out.os.trans HK6.out.os, HG7.out.tape.trans HK6.out.tape, HG7.out.output.trans HK6.out.output, Nat.le_trans HK6.out.size HG7.out.size, fun b hb e1 e2 => ?_⟩
          rw [HG7.out.block b (Nat.lt_of_lt_of_le hb HK6.out.size) (fun e => e2 (by rw [← e]; rfl))]
          exact HK6.out.block b hb e1 e1
        refine rl_put (v' := .slice oa (R.length + 1) oc) H.out hk7 (by rw [HSS.out.1]; rfl) (cell_keepS HQ6.out HG7.out (fun e => HNQ.out q e rfl)) (HT7.out _ HG7.out) (by rw [List.length_append, rsCells_append]; exact HO7.out) (fun g hg => ?_) (fun s hs => ?_) (by rw [List.length_append]; exact hR1) (fun g hg => ?_)
        · rcases HR7.out with h | h
          · exact HNQ.out g (h ▸ hg)
          · rw [h] at hg
            have := Option.some.inj hg
            have := HZ4.out
            omega
        · rcases List.mem_append.1 hs with h | h
          · exact H.out.ms s h
          · rw [List.mem_singleton] at h
            subst h
            exact ⟨HM.out, HF.out, HL.out, HBM.out (rightS_pos HRS.out)⟩
        · rcases HR7.out with h | h
          · exact .inl (h ▸ hg)
          · rw [h] at hg
            have := Option.some.inj hg
            have := HZ4.out
            right
            omega
end Go.Proofs.YtcfococinllcmaaGreat

/- the law's short of chapter 10, and where its matchers lie: a contract. -/
namespace Go.Proofs.YtcfococinllcmaaGreat
open Go.RowKit
set_option maxHeartbeats 3200000 in
set_option maxRecDepth 100000 in
theorem short_own (o : SOp) (w : World) (hm : MtsAt w (SV o.s.mv) o.s.ms) (hl : o.s.ms.length ≤ maxLen) :
    Calls Tryz.prog 27 #[o.v] w fun e w' => ∃ mv : Option Addr × Nat × Nat, e = .returned (rsV o.sid { cutS o.s with mv := mv }) ∧ mv.1 = o.s.mv.1 ∧ MtsAt w (SV mv) (cutS o.s).ms ∧ Below w.heap.size w w' := by
  obtain ⟨kd, id, now, sid, ⟨xid, ⟨xa, xn, xc⟩, ms, fr, til, lv, c⟩⟩ := o
  dsimp only [SV] at hm hl
  obtain ⟨ma, mc, e, hmc, _⟩ := RdAt.shape hm
  rw [e] at hm
  simp only [Value.slice.injEq] at e
  obtain ⟨rfl, rfl, rfl⟩ := e
  obtain ⟨k, hk, hkl, hmin, _⟩ := min_cutS ms 14
  change min (ms.length : Int) 14 = _ at hmin
  have HMT := Lib.hid (mts_takeS hm k hk (none_ofS hm))
  have HKL := Lib.hid hkl
  have hkc : k ≤ xc := Nat.le_trans hk hmc
  have hkm : k < 9223372036854775807 := by unfold maxLen at hl; omega
  have hmn63 : ms.length ≤ 9223372036854775807 := by unfold maxLen at hl; omega
  unfold SOp.v rsV cutS
  dsimp only
  obtain ⟨W1, h1⟩ : ∃ z, w.alloc (.cells #[.int .i64 kd, .int .i64 id, .int .i64 now, .int .i64 sid, .slice xa ms.length xc, .int .i64 fr, .int .i64 til, .int .i64 lv, .int .u32 c] 60) = z := ⟨_, rfl⟩
  obtain ⟨W2, h2⟩ : ∃ z, W1.alloc (.cells #[.int .i64 0, .slice none 0 0, .int .i64 0, .int .i64 0, .int .i64 0, .int .u32 0] 58) = z := ⟨_, rfl⟩
  obtain ⟨W3, h3⟩ : ∃ z, W2.alloc (.cells #[.int .i64 sid, .slice xa ms.length xc, .int .i64 fr, .int .i64 til, .int .i64 lv, .int .u32 c] 58) = z := ⟨_, rfl⟩
  have s1 : W1.heap.size = w.heap.size + 1 := by rw [← h1, World.size_alloc]
  have s2 : W2.heap.size = w.heap.size + 1 + 1 := by rw [← h2, World.size_alloc, s1]
  have b1 : Below w.heap.size w W1 := by rw [← h1]; exact alloc_below _ _
  have b2 : Below W1.heap.size W1 W2 := by rw [← h2]; exact alloc_below _ _
  have b3 : Below W2.heap.size W2 W3 := by rw [← h3]; exact alloc_below _ _
  have g1 : Below (w.alloc (.cells #[.int .i64 kd, .int .i64 id, .int .i64 now, .int .i64 sid, .slice xa ms.length xc, .int .i64 fr, .int .i64 til, .int .i64 lv, .int .u32 c] 60)).heap.size (w.alloc (.cells #[.int .i64 kd, .int .i64 id, .int .i64 now, .int .i64 sid, .slice xa ms.length xc, .int .i64 fr, .int .i64 til, .int .i64 lv, .int .u32 c] 60)) W2 := by rw [h1]; exact b2
  have y3 := box_later g1 (i := 3) rfl
  have y4 := box_later g1 (i := 4) rfl
  have y5 := box_later g1 (i := 5) rfl
  have y6 := box_later g1 (i := 6) rfl
  have y7 := box_later g1 (i := 7) rfl
  have y8 := box_later g1 (i := 8) rfl
  have g2 : Below (W1.alloc (.cells #[.int .i64 0, .slice none 0 0, .int .i64 0, .int .i64 0, .int .i64 0, .int .u32 0] 58)).heap.size (W1.alloc (.cells #[.int .i64 0, .slice none 0 0, .int .i64 0, .int .i64 0, .int .i64 0, .int .u32 0] 58)) W3 := by rw [h2]; exact b3
  have z0 := box_later g2 (i := 0) rfl
  have z1 := box_later g2 (i := 1) rfl
  have z2 := box_later g2 (i := 2) rfl
  have z3 := box_later g2 (i := 3) rfl
  have z4 := box_later g2 (i := 4) rfl
  have z5 := box_later g2 (i := 5) rfl
  have t1 := box_there g2
  have hr3 := Below.refl (W2.alloc (.cells #[.int .i64 sid, .slice xa ms.length xc, .int .i64 fr, .int .i64 til, .int .i64 lv, .int .u32 c] 58)).heap.size (W2.alloc (.cells #[.int .i64 sid, .slice xa ms.length xc, .int .i64 fr, .int .i64 til, .int .i64 lv, .int .u32 c] 58))
  have u0 := box_later hr3 (i := 0) rfl
  have u1 := box_later hr3 (i := 1) rfl
  have u2 := box_later hr3 (i := 2) rfl
  have u3 := box_later hr3 (i := 3) rfl
  have u4 := box_later hr3 (i := 4) rfl
  have u5 := box_later hr3 (i := 5) rfl
  have t3 := box_there hr3
  rw [h3] at u0 u1 u2 u3 u4 u5 t3
  change W3.there W1.heap.size 0 6 at t1
  change W3.there W2.heap.size 0 6 at t3
  rw [s1] at t1 z0 z1 z2 z3 z4 z5
  rw [s2] at t3 u0 u1 u2 u3 u4 u5
  have f0 := there_free t1 0 (by omega)
  have f1 := there_free t1 1 (by omega)
  have f2 := there_free t1 2 (by omega)
  have f3 := there_free t1 3 (by omega)
  have f4 := there_free t1 4 (by omega)
  have f5 := there_free t1 5 (by omega)
  have e1 := there_free t3 1 (by omega)
  have HB := Lib.hid ((b1.trans (b2.mono (by omega))).trans (b3.mono (by omega)))
  have HT := Lib.hid t1
  clear hr3 g1 g2 b1 b2 b3 t1 t3 hm hkl hk hmc hl
  go_enter Tryz.func27, Tryz.ntmps27
  go_upto_region 1 with fail
  try rw [h1]
  try rw [h2]
  clear h1 h2
  go_upto_region 2 with fail
  try rw [h3]
  try rw [s1]
  try rw [s2]
  clear h3 y3 y4 y5 y6 y7 y8
  go_wp2
  have hT := World.there_setCells HT.out (w.heap.size + 1 + 1) 1 [.slice xa k xc]
  refine bodyPost_ret (results_agg1 rfl _ _ (w.heap.size + 1) [.int .i64 sid, .slice xa k xc, .int .i64 fr, .int .i64 til, .int .i64 lv, .int .u32 c] (.struct _) rfl (World.rangeAt_setCells_same _ (w.heap.size + 1) 0 [.int .i64 sid, .slice xa k xc, .int .i64 fr, .int .i64 til, .int .i64 lv, .int .u32 c] hT) Tryz.underlying58 rfl (by kernel_rfl)) rfl ?_
  have hba := below_puts (g := w.heap.size + 1 + 1) (o := 1) HB.out (by omega) [.slice xa k xc]
  have hbb := below_puts (g := w.heap.size + 1) (o := 0) hba (by omega) [.int .i64 sid, .slice xa k xc, .int .i64 fr, .int .i64 til, .int .i64 lv, .int .u32 c]
  exact ⟨(xa, k, xc), rfl, rfl, by rw [HKL.out]; exact HMT.out, hbb⟩
end Go.Proofs.YtcfococinllcmaaGreat

/- the law's steps on the reference's list: doesRef. -/
namespace Go.Proofs.YtcfococinllcmaaGreat
open Go.RowKit
inductive DoesRef (o : SOp) (R : List Sil) (N : Int) : Value → List Sil → Int → Prop
  | lay (h : kindO o.kd = 0) (mv : Option Addr × Nat × Nat) {r : Value} {R' : List Sil} {N' : Int} (hl : LayR R N { cutS o.s with mv := mv } r R' N') : DoesRef o R N r R' N'
  | fin (h : kindO o.kd = 1) : DoesRef o R N (.tuple #[.int .i64 0, .int .i64 (endE R o.id o.now)]) (endL R o.id o.now) N
  | forget (h : kindO o.kd = 2) : DoesRef o R N (.tuple #[.int .i64 ((R.countP (endS o.now) : Nat) : Int), .int .i64 0]) (R.filter fun s => !endS o.now s) N
inductive DoesRefPost (w : World) (q base : Nat) (o : SOp) (R : List Sil) (N : Int) (v : Value) (e : Ending) (w' : World) : Prop
  | mk (r : Value) (R' : List Sil) (N' : Int) (v' : Value) (he : e = .returned r) (hl : DoesRef o R N r R' N') (ho : RlOk w w' q base R' N' v v') : DoesRefPost w q base o R N v e w'
theorem own_same {m n : Option Addr × Nat × Nat} (h : m.1 = n.1) : (SV m).ownBlock = (SV n).ownBlock := by
  obtain ⟨a, b, c⟩ := m
  obtain ⟨d, e, f⟩ := n
  dsimp only at h
  subst h
  cases a <;> rfl
theorem layR_says {R R' : List Sil} {N N' : Int} {s : Sil} {r : Value} (h : LayR R N s r R' N') : ∃ a b : Int, r = .tuple #[.int .i64 a, .int .i64 b] := by
  cases h <;> exact ⟨_, _, rfl⟩
theorem RlOk.after {w w1 w' : World} {q base : Nat} {R' : List Sil} {N' : Int} {v v' : Value} (hb : Below w.heap.size w w1) (h : RlOk w1 w' q base R' N' v v') : RlOk w w' q base R' N' v v' :=
  ⟨h.at_, (Kp.of_below hb).trans h.kp, fun g hg => (h.fresh g hg).imp id (fun h => Nat.le_trans hb.size h)⟩
set_option maxHeartbeats 3200000 in
set_option maxRecDepth 100000 in
theorem doesref_any (o : SOp) (q base : Nat) (R : List Sil) (N : Int) (v : Value) (w : World) (h : RlAt w q base R N v) (hu : UpS R) (ho : OpAt w o) (hbm : 0 < o.s.ms.length → ∀ b, (SV o.s.mv).ownBlock = some b → b < base) (hN0 : 0 ≤ N) (hN1 : N < 1000000) (hR1 : R.length < 1000000) :
    Calls Tryz.prog 35 #[.pointer (some ⟨q, 0, none⟩), o.v] w (DoesRefPost w q base o R N v) := by
  have hb := alloc_below w (.cells #[.int .i64 o.kd, .int .i64 o.id, .int .i64 o.now, .int .i64 o.sid, .slice o.s.mv.1 o.s.mv.2.1 o.s.mv.2.2, .int .i64 o.s.fr, .int .i64 o.s.til, .int .i64 o.s.lv, .int .u32 o.s.c] 60)
  have x := alc9 w (.int .i64 o.kd) (.int .i64 o.id) (.int .i64 o.now) (.int .i64 o.sid) (.slice o.s.mv.1 o.s.mv.2.1 o.s.mv.2.2) (.int .i64 o.s.fr) (.int .i64 o.s.til) (.int .i64 o.s.lv) (.int .u32 o.s.c) 60
  obtain ⟨W1, hW1⟩ : ∃ z, w.alloc (.cells #[.int .i64 o.kd, .int .i64 o.id, .int .i64 o.now, .int .i64 o.sid, .slice o.s.mv.1 o.s.mv.2.1 o.s.mv.2.2, .int .i64 o.s.fr, .int .i64 o.s.til, .int .i64 o.s.lv, .int .u32 o.s.c] 60) = z := ⟨_, rfl⟩
  rw [hW1] at hb x
  have kk := kind_any o W1
  have HB1 := Lib.hid hb
  have HX1 := Lib.hid x
  have H := Lib.hid h
  have HU := Lib.hid hu
  have HO := Lib.hid ho
  have HBM := Lib.hid hbm
  obtain ⟨x0, x1, x2, x3, x4, x5, x6, x7, x8⟩ := x
  obtain ⟨K, hK⟩ : ∃ K, kindO o.kd = K := ⟨_, rfl⟩
  have hK3 : K < 3 := hK ▸ kindO_lt o.kd
  rw [hK] at kk
  have HK := Lib.hid hK
  unfold SOp.v at kk ⊢
  clear h ho hb hK hu hbm
  go_enter Tryz.func35, Tryz.ntmps35
  go_upto_region 1 with fail
  clear hW1
  go_wp2_with fail
  refine kk.mono ?_
  rintro e w2 ⟨rfl, hb2⟩
  have HB2 := Lib.hid (HB1.out.trans (hb2.mono HB1.out.size))
  have HX2 := Lib.hid (HX1.out.later hb2)
  clear kk hb2 HB1 HX1 x0 x1 x2 x3 x4 x5 x6 x7 x8
  obtain ⟨x0, x1, x2, x3, x4, x5, x6, x7, x8⟩ := HX2.out
  have H2 := Lib.hid (H.out.later HB2.out)
  have HO2 := Lib.hid (HO.out.later HB2.out)
  have hc : K = 0 ∨ K = 1 ∨ K = 2 := by omega
  rcases hc with rfl | rfl | rfl
  · have ks := short_own o w2 HO2.out.ms HO2.out.len
    unfold SOp.v at ks
    go_wp2_with fail
    refine ks.mono ?_
    rintro e w3 ⟨mv, rfl, hm1, hmv, hb3⟩
    have H3 := Lib.hid (H2.out.later hb3)
    have HM3 := Lib.hid (RdAt.later hmv hb3)
    have HB3 := Lib.hid (HB2.out.trans (hb3.mono HB2.out.size))
    have hbb : 0 < (cutS o.s).ms.length → ∀ b, (SV mv).ownBlock = some b → b < base := fun h0 b hb => HBM.out (by
      have : (cutS o.s).ms.length ≤ o.s.ms.length := by unfold cutS; rw [List.length_take]; omega
      omega) b (by
      rw [← own_same hm1]; exact hb)
    have kl := rlay_any q base R N o.sid v { cutS o.s with mv := mv } w3 H3.out HM3.out (cutS_fit HO.out.fit) (cutS_len o.s) hbb hN0 hN1 hR1
    clear ks hmv hb3 hbb hm1
    go_wp2_with fail
    refine kl.mono ?_
    rintro e w4 ⟨r, R', N', v', rfl, hl, hok⟩
    have HL := Lib.hid hl
    have HOK := Lib.hid (RlOk.after HB3.out hok)
    obtain ⟨a, b, rfl⟩ := layR_says hl
    clear kl hl hok x0 x1 x2 x3 x4 x5 x6 x7 x8
    go_wp2
    go_ret2
    exact .mk _ R' N' v' rfl (.lay HK.out mv HL.out) HOK.out
  · have ke := rend_any q base R N o.id o.now v w2 H2.out HU.out
    go_wp2_with fail
    refine ke.mono ?_
    rintro e w3 ⟨rfl, v', hok⟩
    have HOK := Lib.hid (RlOk.after HB2.out hok)
    clear ke hok
    go_wp2
    go_ret2
    exact .mk _ _ _ v' rfl (.fin HK.out) HOK.out
  · have kf := rforget_any q base R N o.now v w2 H2.out
    go_wp2_with fail
    refine kf.mono ?_
    rintro e w3 ⟨rfl, v', hok⟩
    have HOK := Lib.hid (RlOk.after HB2.out hok)
    clear kf hok
    go_wp2
    go_ret2
    exact .mk _ _ _ v' rfl (.forget HK.out) HOK.out
end Go.Proofs.YtcfococinllcmaaGreat

/- SilencePlays, plainly: the program's list and the reference's say the same. -/
namespace Go.Proofs.YtcfococinllcmaaGreat
open Go.RowKit
def nov (s : Sil) : Sil := { s with mv := (none, 0, 0) }
def SameL (S R : List Sil) : Prop := S.map nov = R.map nov
theorem SameL.len {S R : List Sil} (h : SameL S R) : S.length = R.length := by
  have := congrArg List.length h
  simpa using this
theorem SameL.at_ {S R : List Sil} (h : SameL S R) {k : Nat} (h1 : k < S.length) (h2 : k < R.length) : S[k].id = R[k].id ∧ S[k].ms = R[k].ms ∧ S[k].fr = R[k].fr ∧ S[k].til = R[k].til ∧ S[k].lv = R[k].lv ∧ S[k].c = R[k].c := by
  have e : nov S[k] = nov R[k] := by
    have h3 : (S.map nov)[k]? = (R.map nov)[k]? := by rw [h]
    rw [List.getElem?_map, List.getElem?_map, List.getElem?_eq_getElem h1, List.getElem?_eq_getElem h2] at h3
    exact Option.some.inj h3
  generalize S[k] = s at e
  generalize R[k] = t at e
  obtain ⟨a1, a2, a3, a4, a5, a6, a7⟩ := s
  obtain ⟨b1, b2, b3, b4, b5, b6, b7⟩ := t
  simp only [nov, Sil.mk.injEq] at e
  obtain ⟨e1, _, e2, e3, e4, e5, e6⟩ := e
  exact ⟨e1, e2, e3, e4, e5, e6⟩
theorem ids_nov (S : List Sil) : (S.map nov).map (·.id) = S.map (·.id) := by rw [List.map_map]; rfl
theorem SameL.ids {S R : List Sil} (h : SameL S R) : S.map (·.id) = R.map (·.id) := by rw [← ids_nov, h, ids_nov]
theorem SameL.up {S R : List Sil} (h : SameL S R) (hu : UpS S) : UpS R := upS_ids h.ids.symm hu
theorem filter_nov (S : List Sil) (p : Sil → Bool) (hp : ∀ s, p (nov s) = p s) : (S.filter p).map nov = (S.map nov).filter p := by
  rw [List.filter_map]
  congr 1
  apply List.filter_congr
  intro s _
  exact (hp s).symm
theorem SameL.filter {S R : List Sil} (h : SameL S R) (p : Sil → Bool) (hp : ∀ s, p (nov s) = p s) : SameL (S.filter p) (R.filter p) := by
  unfold SameL
  rw [filter_nov S p hp, filter_nov R p hp, h]
theorem countP_nov (S : List Sil) (p : Sil → Bool) (hp : ∀ s, p (nov s) = p s) : (S.map nov).countP p = S.countP p := by
  rw [List.countP_map]
  congr 1
  funext s
  exact hp s
theorem SameL.count {S R : List Sil} (h : SameL S R) (p : Sil → Bool) (hp : ∀ s, p (nov s) = p s) : S.countP p = R.countP p := by rw [← countP_nov S p hp, ← countP_nov R p hp, h]
theorem find_nov (S : List Sil) (id : Int) : ((S.map nov).find? fun s => s.id == id) = (S.find? fun s => s.id == id).map nov := by
  rw [List.find?_map]; rfl
theorem setS_nov (S : List Sil) (s : Sil) : (setS S s).map nov = setS (S.map nov) (nov s) := by
  unfold setS
  rw [List.map_map, List.map_map]
  apply List.map_congr_left
  intro t _
  show nov (if t.id = s.id then s else t) = if t.id = s.id then nov s else nov t
  split <;> rfl
theorem endE_nov (S : List Sil) (id now : Int) : endE (S.map nov) id now = endE S id now := by
  unfold endE
  rw [find_nov]
  cases (S.find? fun s => s.id == id) <;> rfl
theorem endL_nov (S : List Sil) (id now : Int) : (endL S id now).map nov = endL (S.map nov) id now := by
  unfold endL
  rw [find_nov]
  cases (S.find? fun s => s.id == id) with
  | none => rfl
  | some s =>
    show (if s.til ≤ now then S else if now ≤ s.fr then S.filter (fun s => !(s.id == id)) else setS S { s with til := now }).map nov = if s.til ≤ now then S.map nov else if now ≤ s.fr then (S.map nov).filter (fun s => !(s.id == id)) else setS (S.map nov) { (nov s) with til := now }
    split
    · rfl
    · split
      · exact filter_nov S _ (fun _ => rfl)
      · exact setS_nov S _
theorem SameL.fin {S R : List Sil} (h : SameL S R) (id now : Int) : endE S id now = endE R id now ∧ SameL (endL S id now) (endL R id now) := by
  unfold SameL
  rw [← endE_nov S, ← endE_nov R, endL_nov, endL_nov, h]
  exact ⟨rfl, rfl⟩
theorem SameL.quo {S R : List Sil} (h : SameL S R) (s t : Sil) (h1 : s.lv = t.lv) (h2 : s.c = t.c) : quoS S s = quoS R t := by
  unfold quoS
  rw [h.count (fun u => sameL u s) (fun _ => rfl)]
  congr 1
  funext u
  unfold sameL
  rw [h1, h2]
theorem does_same {o : SOp} {S S' R R' : List Sil} {last last' N' : Int} {r r2 : Value} (h : SameL S R) (hT : TenS S) (hd : DoesS o S last r S' last') (hr : DoesRef o R last r2 R' N') : r = r2 ∧ SameL S' R' ∧ last' = N' := by
  cases hd with
  | lay hk mv hl =>
    cases hr with
    | lay _ mv2 hl2 =>
      have hq : quoS S { cutS o.s with mv := mv } = quoS R { cutS o.s with mv := mv2 } := h.quo _ _ rfl rfl
      have hrs : rightS { cutS o.s with mv := mv } = rightS { cutS o.s with mv := mv2 } := rfl
      cases hl2 with
      | odd h1 =>
        rw [← hrs] at h1
        obtain ⟨e1, e2⟩ := layE_odd (S := S) (last := last) h1
        cases hl with
        | no _ => exact ⟨e1, h, rfl⟩
        | yes hy _ => rw [e2] at hy; cases hy
      | full h1 h2 =>
        rw [← hrs] at h1
        rw [← hq] at h2
        have h3 : quoS S { cutS o.s with mv := mv } = 10 := Nat.le_antisymm (hT _) h2
        obtain ⟨e1, e2⟩ := layE_full (S := S) (last := last) h1 h3
        cases hl with
        | no _ => exact ⟨e1, h, rfl⟩
        | yes hy _ => rw [e2] at hy; cases hy
      | ok h1 h2 =>
        rw [← hrs] at h1
        rw [← hq] at h2
        obtain ⟨e1, e2⟩ := layE_ok (S := S) (last := last) h1 (by omega)
        cases hl with
        | no hn => rw [e2] at hn; cases hn
        | yes hy mv3 =>
          refine ⟨e1, ?_, rfl⟩
          unfold SameL
          rw [List.map_append, List.map_append, h]
          rfl
    | fin hk2 => rw [hk] at hk2; cases hk2
    | forget hk2 => rw [hk] at hk2; cases hk2
  | fin hk =>
    cases hr with
    | lay hk2 _ _ => rw [hk] at hk2; cases hk2
    | fin _ =>
      obtain ⟨e1, e2⟩ := h.fin o.id o.now
      exact ⟨by rw [e1], e2, rfl⟩
    | forget hk2 => rw [hk] at hk2; cases hk2
  | forget hk =>
    cases hr with
    | lay hk2 _ _ => rw [hk] at hk2; cases hk2
    | fin hk2 => rw [hk] at hk2; cases hk2
    | forget _ => exact ⟨by rw [h.count (endS o.now) (fun _ => rfl)], h.filter _ (fun _ => rfl), rfl⟩
theorem quietL_same {S R : List Sil} (h : SameL S R) (rs : List Nmd) (fl : List Fld) (f t : Int × Nat) (now : Int) : quietL rs S fl f t now = quietL rs R fl f t now := by
  have e : ∀ (V : List Fld), (S.filter fun s => quietS V t now s).map (·.id) = (R.filter fun s => quietS V t now s).map (·.id) := fun V => (h.filter (fun s => quietS V t now s) (fun _ => rfl)).ids
  unfold quietL
  rw [e]
end Go.Proofs.YtcfococinllcmaaGreat

/- lychgateref01: of, Join; lychgateref08: Find, Raised, Visible, Cut; lychgateref09.Cut: contracts (upon XRefFl). -/
namespace Go.Proofs.YtcfococinllcmaaGreat
open Go.RowKit
theorem rightL_iff {l : Int} : rightL l = true ↔ 0 ≤ l ∧ l ≤ 7 := by simp [rightL]
theorem orN_lt (c d : Nat) : orN c d < 4294967296 := (BitVec.ofNat 32 c ||| BitVec.ofNat 32 d).isLt
theorem joinL_right (a b : Int × Nat) : rightL (joinL a b).1 = true ∧ (joinL a b).2 < 4294967296 := by
  unfold joinL
  split
  · rename_i h
    simp only [Bool.and_eq_true] at h
    obtain ⟨h1, h2⟩ := h
    rw [rightL_iff] at h1 h2
    refine ⟨rightL_iff.2 (by dsimp only; omega), orN_lt _ _⟩
  · exact ⟨by decide, by decide⟩
theorem sum_take_le : ∀ (ts : List Nat) (k : Nat), sumN (ts.take k) ≤ sumN ts := by
  have h : ∀ (ts : List Nat) (a b : Nat), a ≤ b → ts.foldl (fun a k => a + 2 ^ k) a ≤ ts.foldl (fun a k => a + 2 ^ k) b := by
    intro ts
    induction ts with
    | nil => intro a b h; exact h
    | cons t ts ih => intro a b h; exact ih _ _ (Nat.add_le_add_right h _)
  have h2 : ∀ (ts : List Nat) (a k : Nat), (ts.take k).foldl (fun a k => a + 2 ^ k) a ≤ ts.foldl (fun a k => a + 2 ^ k) a := by
    intro ts
    induction ts with
    | nil => intro a k; simp
    | cons t ts ih =>
      intro a k
      cases k with
      | zero =>
        rw [List.take_zero, List.foldl_nil, List.foldl_cons]
        have h3 := ih (a + 2 ^ t) 0
        rw [List.take_zero, List.foldl_nil] at h3
        exact Nat.le_trans (Nat.le_add_right a (2 ^ t)) h3
      | succ k => rw [List.take_succ_cons, List.foldl_cons, List.foldl_cons]; exact ih _ _
  exact fun ts k => h2 ts 0 k
set_option maxHeartbeats 1600000 in
set_option maxRecDepth 100000 in
theorem rof_any (lv : Int) (ts : List Nat) (v : Value) (w : World) (hv : IntsAt w v (ts.map fun (k : Nat) => (k : Int))) (ht : ∀ t ∈ ts, t < 32) (hl : ts.length ≤ 1000) (hs : sumN ts < 4294967296) :
    Calls Tryz.prog 167 #[.int .i64 lv, v] w fun e w' => e = .returned (Lab lv (sumN ts)) ∧ Below w.heap.size w w' := by
  obtain ⟨a, c, rfl, hc, hr⟩ := RdAt.shape hv
  rw [List.length_map] at hc hr ⊢
  have HR := Lib.hid hr
  obtain ⟨W0, hW0⟩ : ∃ z, (w.alloc (.cells #[.int .i64 0, .int .u32 0] 26)).alloc (.cells #[.int .i64 lv, .int .u32 0] 26) = z := ⟨_, rfl⟩
  have hb0 : Below w.heap.size w W0 := by rw [← hW0]; exact (alloc_below _ _).trans ((alloc_below _ _).mono (by simp))
  have hd := Below.refl W0.heap.size W0
  rw [← hW0] at hd
  have hT1 := box_there hd
  obtain ⟨y0, y1, z0, z1, hlt, _⟩ := box22 hd
  obtain ⟨h1, h2, h3⟩ := box_cells hd
  have hT0 := box_there h3
  rw [World.size_alloc] at hT1
  rw [hW0] at hT1 hT0 y0 y1 z0 z1 hlt
  have HT0 := Lib.hid hT0
  have HT1 := Lib.hid hT1
  have HB0 := Lib.hid hb0
  have HY := Lib.hid (And.intro y0 y1)
  have HW0 := Lib.hid hW0
  clear hd h1 h2 h3 hr hv hT0 hT1 hb0 y0 y1 hlt hW0
  go_enter Tryz.func167, Tryz.ntmps167
  go_upto_region 2 with fail
  rw [HW0.out]
  clear HW0
  go_wp2
  go_loopw [6] (fun i wr => ∃ (k s : Nat), i = .int .i64 k ∧ k ≤ ts.length ∧ Hid (s = sumN (ts.take k)) ∧ wr.cell? ⟨w.heap.size + 1, 0, none⟩ = some (.int .i64 lv) ∧ wr.cell? ⟨w.heap.size + 1, 1, none⟩ = some (.int .u32 s) ∧ Hid (wr.cell? ⟨w.heap.size, 0, none⟩ = some (.int .i64 0) ∧ wr.cell? ⟨w.heap.size, 1, none⟩ = some (.int .u32 0)) ∧ Hid (wr.there w.heap.size 0 2) ∧ Hid (wr.there (w.heap.size + 1) 0 2) ∧ Hid (Below w.heap.size w wr)) (fun i _ => ts.length - (intOf i).toNat)
  case atStart => exact ⟨0, 0, rfl, Nat.zero_le _, Lib.hid (by simp [sumN]), z0, z1, HY, HT0, HT1, HB0⟩
  case round =>
    clear HT0 HT1 HB0 HY
    obtain ⟨k, s, rfl, hk, HS, z0, z1, HY, HT0, HT1, HB⟩ := hrel
    by_cases hkl : k < ts.length
    · obtain ⟨b, o, rfl, hb, hcell⟩ := HR.out (by omega)
      obtain ⟨t, htk⟩ : ∃ t, ts[k] = t := ⟨_, rfl⟩
      have hcr : wr.cell? ⟨b, o + k, none⟩ = some (.int .i64 t) := keep_cell (hcell k _ (by rw [List.map_map, List.getElem?_map, List.getElem?_eq_getElem hkl, htk]; rfl)) HB.out hb
      have ht32 : t < 32 := by rw [← htk]; exact ht _ (List.getElem_mem hkl)
      have hnext : sumN (ts.take (k + 1)) = s + 2 ^ t := by rw [List.take_succ_eq_append_getElem hkl, sumN_snoc, htk, HS.out]
      have hle := sum_take_le ts (k + 1)
      rw [hnext] at hle
      obtain ⟨p, hp⟩ : ∃ p, 2 ^ t = p := ⟨_, rfl⟩
      have HN : Hid (sumN (ts.take (k + 1)) = s + p) := by rw [hp] at hnext; exact hnext
      have HP := Lib.hid hp
      have hsp : s + p < 4294967296 := by rw [hp] at hle; omega
      clear hcell htk hnext hle hp HS
      go_wp2
      go_loopw [7, 8] (fun q j wx => ∃ (m r : Nat), j = .int .i64 m ∧ m ≤ t ∧ q = .int .u32 r ∧ Hid (r = 2 ^ m) ∧ wx = wr) (fun _ j _ => t - (intOf j).toNat)
      case atStart => exact ⟨0, 1, rfl, Nat.zero_le _, rfl, Lib.hid rfl, rfl⟩
      case round =>
        obtain ⟨m, r, rfl, hm, rfl, HRm, hwx⟩ := hrel
        subst hwx
        by_cases hmt : m < t
        · have hI : (m : Int) < (t : Int) := by omega
          have hr2 : r * 2 < 4294967296 := by
            have e : r * 2 = 2 ^ (m + 1) := by rw [HRm.out, Nat.pow_succ]
            have := Nat.pow_le_pow_right (n := 2) (by decide) (show m + 1 ≤ 31 by omega)
            omega
          have q1 : IntKind.u32.wrap ((r : Int) * 2) = ((r * 2 : Nat) : Int) := by rw [IntKind.wrap_u32']; omega
          have HR2 : Hid (r * 2 = 2 ^ (m + 1)) := by show _ = _; rw [HRm.out, Nat.pow_succ]
          generalize r * 2 = r2 at *
          go_wp2
          go_roundw
          case rel => exact ⟨m + 1, r2, by go_num, by omega, rfl, HR2, trivial⟩
          case measure => (simp [intOf]; try omega)
        · obtain rfl : m = t := by omega
          have q1 : IntKind.u32.wrap ((s : Int) + (r : Int)) = ((s + p : Nat) : Int) := by
            rw [HRm.out, HP.out, IntKind.wrap_u32']; omega
          have f1 := there_free HT1.out 1 (by decide)
          generalize s + p = s2 at *
          go_wp2
          go_roundw
          case rel =>
            refine ⟨k + 1, s2, by go_num, by omega, Lib.hid HN.out.symm, ?_, ?_, ?_, ?_, ?_, ?_⟩
            · rw [World.cell?_setCell_other _ _ _ _ (by simp)]; exact z0
            · exact World.cell?_setCell_same' _ _ _ (by rw [z1]; rfl)
            · exact Lib.hid ⟨by rw [World.cell?_setCell_other _ _ _ _ (by simp)]; exact HY.out.1, by rw [World.cell?_setCell_other _ _ _ _ (by simp)]; exact HY.out.2⟩
            · exact Lib.hid (World.there_setCells HT0.out (w.heap.size + 1) 1 [.int .u32 s2])
            · exact Lib.hid (World.there_setCells HT1.out (w.heap.size + 1) 1 [.int .u32 s2])
            · exact Lib.hid (below_put HB.out (by omega))
          case measure => (simp [intOf]; try omega)
    · obtain rfl : k = ts.length := by omega
      obtain ⟨y0, y1⟩ := HY.out
      have f0 := there_free HT0.out 0 (by decide)
      have f1 := there_free HT0.out 1 (by decide)
      have hss : s = sumN ts := by have := HS.out; rwa [List.take_length] at this
      have HSS := Lib.hid hss
      clear hss
      go_wp2
      refine bodyPost_ret (results_agg1 rfl _ _ w.heap.size [.int .i64 lv, .int .u32 s] (.struct _) rfl (World.rangeAt_setCells_same wr w.heap.size 0 [.int .i64 lv, .int .u32 s] HT0.out) Tryz.underlying26 rfl (by kernel_rfl)) rfl ?_
      exact ⟨by rw [← HSS.out], below_put (below_put HB.out (by omega)) (by omega)⟩
end Go.Proofs.YtcfococinllcmaaGreat
namespace Go.Proofs.YtcfococinllcmaaGreat
open Go.RowKit
def orL (c d n : Nat) : List Nat := (List.range n).filter fun k => c.testBit k || d.testBit k
theorem orL_step (c d k : Nat) : orL c d (k + 1) = orL c d k ++ (if c.testBit k || d.testBit k then [k] else []) := by
  unfold orL
  rw [List.range_succ, List.filter_append]
  congr 1
  cases h : (c.testBit k || d.testBit k) <;> simp [h]
theorem orL_len (c d n : Nat) : (orL c d n).length ≤ n := by
  have := List.length_filter_le (fun k => c.testBit k || d.testBit k) (List.range n)
  rw [List.length_range] at this
  exact this
theorem orL_lt {c d n k : Nat} (h : k ∈ orL c d n) : k < n := List.mem_range.1 (List.mem_filter.1 h).1
theorem orL_sum {c d : Nat} (hc : c < 4294967296) (hd : d < 4294967296) : sumN (orL c d 32) = orN c d := by
  have h1 : sumN (orL c d 32) = c ||| d := teams_or (by omega) (by omega)
  rw [h1]
  unfold orN
  rw [BitVec.toNat_or, BitVec.toNat_ofNat, BitVec.toNat_ofNat, Nat.mod_eq_of_lt (by omega), Nat.mod_eq_of_lt (by omega)]
theorem team_is {c k : Nat} (hk : k < 32) : decide ((k : Int) ∈ teamsI c 32) = c.testBit k := by
  rw [Bool.eq_iff_iff, decide_eq_true_eq, mem_teamsI, mem_teams]
  exact ⟨fun h => h.2, fun h => ⟨hk, h⟩⟩
set_option maxHeartbeats 1600000 in
set_option maxRecDepth 100000 in
theorem rjoin_any (l : Int) (c : Nat) (m : Int) (d : Nat) (w : World) (hc : c < 4294967296) (hd : d < 4294967296) :
    Calls Tryz.prog 150 #[Lab l c, Lab m d] w fun e w' => e = .returned (LabP (joinL (l, c) (m, d))) ∧ Below w.heap.size w w' := by
  have k1 := rright_any l c
  have k2 := rright_any m d
  cases h1 : rightL l
  · rw [h1] at k1
    have HF : Hid (joinL (l, c) (m, d) = (7, 4294967295)) := by show _ = _; unfold joinL; simp [h1]
    clear h1
    go_enter Tryz.func150, Tryz.ntmps150
    go_wp2_with fail
    refine (k1 _).mono ?_
    rintro e w1 ⟨rfl, hb1⟩
    obtain ⟨⟨x0, x1, y0, y1⟩, ⟨z0, z1, hT⟩, hlt, hB1⟩ := box222 hb1
    have f0 := there_free hT 0 (by decide)
    have f1 := there_free hT 1 (by decide)
    have HT := Lib.hid hT
    clear hb1 hT k1 k2
    go_wp2
    refine bodyPost_ret (results_agg1 rfl _ _ (w.heap.size + 1 + 1) [.int .i64 7, .int .u32 4294967295] (.struct _) rfl (World.rangeAt_setCells_same w1 (w.heap.size + 1 + 1) 0 [.int .i64 7, .int .u32 4294967295] HT.out) Tryz.underlying26 rfl (by kernel_rfl)) rfl ?_
    exact ⟨by rw [HF.out]; rfl, below_put (below_put hB1 (by omega)) (by omega)⟩
  · rw [h1] at k1
    cases h2 : rightL m
    · rw [h2] at k2
      have HF : Hid (joinL (l, c) (m, d) = (7, 4294967295)) := by show _ = _; unfold joinL; simp [h2]
      clear h1 h2
      go_enter Tryz.func150, Tryz.ntmps150
      go_wp2_with fail
      refine (k1 _).mono ?_
      rintro e w1 ⟨rfl, hb1⟩
      obtain ⟨⟨x0, x1, y0, y1⟩, ⟨z0, z1, hT⟩, hlt, hB1⟩ := box222 hb1
      clear hb1 k1
      go_wp2_with fail
      refine (k2 _).mono ?_
      rintro e w2 ⟨rfl, hb2⟩
      have z0' := keep_cell z0 hb2 (by omega)
      have z1' := keep_cell z1 hb2 (by omega)
      have hT2 := there_later hT hb2 (by omega)
      have f0 := there_free hT2 0 (by decide)
      have f1 := there_free hT2 1 (by decide)
      have HT := Lib.hid hT2
      have hB2 := hB1.trans (hb2.mono hB1.size)
      clear hT hT2 x0 x1 y0 y1 z0 z1 hb2 hB1 k2
      go_wp2
      refine bodyPost_ret (results_agg1 rfl _ _ (w.heap.size + 1 + 1) [.int .i64 7, .int .u32 4294967295] (.struct _) rfl (World.rangeAt_setCells_same w2 (w.heap.size + 1 + 1) 0 [.int .i64 7, .int .u32 4294967295] HT.out) Tryz.underlying26 rfl (by kernel_rfl)) rfl ?_
      exact ⟨by rw [HF.out]; rfl, below_put (below_put hB2 (by omega)) (by omega)⟩
    · rw [h2] at k2
      have HF : Hid (joinL (l, c) (m, d) = (max l m, orN c d)) := by show _ = _; unfold joinL; simp [h1, h2]
      clear h1 h2
      have k3 := fun W => teams_any l c W hc
      have k4 := fun W => teams_any m d W hd
      obtain ⟨i0, hi, hz0, hz1, hz2⟩ := info_parts info_int
      have HC := Lib.hid hc
      have HD := Lib.hid hd
      clear hc hd
      go_enter Tryz.func150, Tryz.ntmps150
      go_wp2_with fail
      refine (k1 _).mono ?_
      rintro e w1 ⟨rfl, hb1⟩
      obtain ⟨⟨x0, x1, y0, y1⟩, ⟨z0, z1, hT⟩, hlt, hB1⟩ := box222 hb1
      clear hb1 k1
      go_wp2_with fail
      refine (k2 _).mono ?_
      rintro e w2 ⟨rfl, hb2⟩
      have x0' := keep_cell x0 hb2 (by omega)
      have x1' := keep_cell x1 hb2 (by omega)
      have y0' := keep_cell y0 hb2 (by omega)
      have y1' := keep_cell y1 hb2 (by omega)
      have HZ := Lib.hid (And.intro (keep_cell z0 hb2 (by omega)) (keep_cell z1 hb2 (by omega)))
      have HT := Lib.hid (there_later hT hb2 (by omega))
      have HB2 := Lib.hid (hB1.trans (hb2.mono hB1.size))
      have hlt2 := Nat.lt_of_lt_of_le hlt hb2.size
      have HLT := Lib.hid hlt2
      clear hT x0 x1 y0 y1 z0 z1 hb2 hB1 k2 hlt hlt2
      go_wp2
      go_loopw [5, 6] (fun v i wr => ∃ k : Nat, i = .int .i64 k ∧ k ≤ 32 ∧ wr.ownsRow w2.heap.size 3 1 v (orL c d k).length (((orL c d k).map fun (k : Nat) => (k : Int)).map I) ∧ Below w2.heap.size w2 wr) (fun _ i _ => 32 - (intOf i).toNat)
      case atStart => exact ⟨0, rfl, Nat.zero_le _, World.ownsRow_nil _ _ _ _, Below.refl _ _⟩
      case round =>
        obtain ⟨k, rfl, hk, hown, hbr⟩ := hrel
        have hls := HLT.out
        have X0 := keep_cell x0' hbr (by omega)
        have X1 := keep_cell x1' hbr (by omega)
        have Y0 := keep_cell y0' hbr (by omega)
        have Y1 := keep_cell y1' hbr (by omega)
        by_cases hkl : k < 32
        · have hI : (k : Int) < 32 := by omega
          have hstep := orL_step c d k
          have hlen := orL_len c d k
          have tc := team_is (c := c) hkl
          have td := team_is (c := d) hkl
          have ka : ∀ W v, IntsAt W v (teamsI c 32) → Calls Tryz.prog 62 #[v, .int .i64 k] W fun e w' => e = .returned (.bool (c.testBit k)) ∧ Below W.heap.size W w' := fun W v h => by
            have := has_any (teamsI c 32) k v W h (by have := teamsI_len c 32; omega)
            rw [tc] at this; exact this
          have kb : ∀ W v, IntsAt W v (teamsI d 32) → Calls Tryz.prog 62 #[v, .int .i64 k] W fun e w' => e = .returned (.bool (d.testBit k)) ∧ Below W.heap.size W w' := fun W v h => by
            have := has_any (teamsI d 32) k v W h (by have := teamsI_len d 32; omega)
            rw [td] at this; exact this
          have HS := Lib.hid hstep
          have HBR := Lib.hid hbr
          have HO := Lib.hid hown
          obtain ⟨va, vc, rfl, _, _⟩ := RdAt.shape (RdAt.own hown)
          clear tc td hstep hbr hown
          have hxl : w.heap.size + 1 < wr.heap.size := by have := HBR.out.size; omega
          go_wp2_with fail
          refine (k3 _).mono ?_
          rintro e w3 ⟨v3, rfl, hi3, hb3⟩
          obtain ⟨a3, c3, rfl, _, _⟩ := RdAt.shape hi3
          have ka1 := ka w3 _ hi3
          have y0 := keep_cell Y0 hb3 hxl
          have y1 := keep_cell Y1 hb3 hxl
          cases hcb : c.testBit k
          · rw [hcb] at ka1
            clear X0 X1 Y0 Y1
            go_wp2_with fail
            refine ka1.mono ?_
            rintro e w4 ⟨rfl, hb4⟩
            have hb34 := hb3.trans (hb4.mono hb3.size)
            have y0' := keep_cell y0 hb4 (by have := hb3.size; omega)
            have y1' := keep_cell y1 hb4 (by have := hb3.size; omega)
            clear y0 y1 hi3 ka1
            go_wp2_with fail
            refine (k4 _).mono ?_
            rintro e w5 ⟨v5, rfl, hi5, hb5⟩
            obtain ⟨a5, c5, rfl, _, _⟩ := RdAt.shape hi5
            have kb1 := kb w5 _ hi5
            have hb35 := hb34.trans (hb5.mono hb34.size)
            cases hdb : d.testBit k
            · rw [hdb] at kb1
              have HBIT : Hid ((c.testBit k || d.testBit k) = false) := by show _ = _; rw [hcb, hdb]; rfl
              clear y0' y1' hcb hdb
              go_wp2_with fail
              refine kb1.mono ?_
              rintro e w6 ⟨rfl, hb6⟩
              have HBN := Lib.hid (hb35.trans (hb6.mono hb35.size))
              clear hb3 hb4 hb5 hb6 hb34 hb35 hi5 kb1
              go_wp2
              go_roundw
              case rel => exact ⟨k + 1, by go_num, by omega, by rw [HS.out, if_neg (by rw [HBIT.out]; decide), List.append_nil]; exact own_later HO.out HBN.out, HBR.out.trans (HBN.out.mono HBR.out.size)⟩
              case measure => (simp [intOf]; try omega)
            · rw [hdb] at kb1
              have HBIT : Hid ((c.testBit k || d.testBit k) = true) := by show _ = _; rw [hcb, hdb]; rfl
              clear y0' y1' hcb hdb
              go_wp2_with fail
              refine kb1.mono ?_
              rintro e w6 ⟨rfl, hb6⟩
              have HBN := Lib.hid (hb35.trans (hb6.mono hb35.size))
              clear hb3 hb4 hb5 hb6 hb34 hb35 hi5 kb1
              have hb9 := alloc_below w6 (.cells #[I k] 3)
              have hown9 := (own_later HO.out HBN.out).alloc (.cells #[I k] 3)
              go_wp2_with (at_builtin; (refine wpList_append_own _ rfl _ _ 32 rfl w2.heap.size 3 i0 (.int .i64 0) 1 8 Tryz.underlying32 hi hz0 hz1 hz2 rfl (by decide) _ _ _ rfl hown9 ⟨w6.heap.size, 0, none⟩ 1 1 [I k] rfl rfl (cell_one_new _ _ _) (by simp [Value.oneCell']) (by unfold maxLen; omega) (by omega) (by have := HBR.out.size; have := HBN.out.size; simp; omega) ?_); intro v' w8 hown' hg8 hnil8)
              have hB8 : Below w2.heap.size w2 w8 := ((HBR.out.trans (HBN.out.mono HBR.out.size)).trans (hb9.mono (by have := HBR.out.size; have := HBN.out.size; omega))).grown hg8 (by have := HBR.out.size; have := HBN.out.size; simp; omega) (fun j e => (hown9.lt j e).1)
              go_wp2
              go_roundw
              case rel => exact ⟨k + 1, by go_num, by omega, by rw [HS.out, if_pos HBIT.out]; simpa using hown', hB8⟩
              case measure => (simp [intOf]; try omega)
          · rw [hcb] at ka1
            have HBIT : Hid ((c.testBit k || d.testBit k) = true) := by show _ = _; rw [hcb]; rfl
            clear X0 X1 Y0 Y1 y0 y1 hcb
            go_wp2_with fail
            refine ka1.mono ?_
            rintro e w4 ⟨rfl, hb4⟩
            have HBN := Lib.hid (hb3.trans (hb4.mono hb3.size))
            clear hb3 hb4 hi3 ka1
            have hb9 := alloc_below w4 (.cells #[I k] 3)
            have hown9 := (own_later HO.out HBN.out).alloc (.cells #[I k] 3)
            go_wp2_with (at_builtin; (refine wpList_append_own _ rfl _ _ 32 rfl w2.heap.size 3 i0 (.int .i64 0) 1 8 Tryz.underlying32 hi hz0 hz1 hz2 rfl (by decide) _ _ _ rfl hown9 ⟨w4.heap.size, 0, none⟩ 1 1 [I k] rfl rfl (cell_one_new _ _ _) (by simp [Value.oneCell']) (by unfold maxLen; omega) (by omega) (by have := HBR.out.size; have := HBN.out.size; simp; omega) ?_); intro v' w8 hown' hg8 hnil8)
            have hB8 : Below w2.heap.size w2 w8 := ((HBR.out.trans (HBN.out.mono HBR.out.size)).trans (hb9.mono (by have := HBR.out.size; have := HBN.out.size; omega))).grown hg8 (by have := HBR.out.size; have := HBN.out.size; simp; omega) (fun j e => (hown9.lt j e).1)
            go_wp2
            go_roundw
            case rel => exact ⟨k + 1, by go_num, by omega, by rw [HS.out, if_pos HBIT.out]; simpa using hown', hB8⟩
            case measure => (simp [intOf]; try omega)
        · obtain rfl : k = 32 := by omega
          obtain ⟨va, vc, rfl, _, _⟩ := RdAt.shape (RdAt.own hown)
          have hii : IntsAt wr (.slice va (orL c d 32).length vc) ((orL c d 32).map fun (k : Nat) => (k : Int)) := by
            have := RdAt.own hown
            unfold IntsAt
            rw [List.length_map]
            exact this
          have hof := rof_any (max l m) (orL c d 32) _ wr hii (fun t ht => orL_lt ht) (by have := orL_len c d 32; omega) (by rw [orL_sum HC.out HD.out]; exact orN_lt c d)
          rw [orL_sum HC.out HD.out] at hof
          have HBR := Lib.hid (HB2.out.trans (hbr.mono HB2.out.size))
          have HT3 := Lib.hid (there_later HT.out hbr HLT.out)
          have HZ3 := Lib.hid (And.intro (keep_cell HZ.out.1 hbr HLT.out) (keep_cell HZ.out.2 hbr HLT.out))
          have HLT3 := Lib.hid (Nat.lt_of_lt_of_le HLT.out hbr.size)
          clear hown hii hbr k3 k4 x0' x1' y0' y1' HT HZ HLT
          rw [show ((32 : Nat) : Int) = 32 from rfl]
          generalize (orL c d 32).length = on at *
          go_wp2_with fail
          refine hof.mono ?_
          rintro e w9 ⟨rfl, hb9⟩
          have z0 := keep_cell HZ3.out.1 hb9 HLT3.out
          have z1 := keep_cell HZ3.out.2 hb9 HLT3.out
          have hT9 := there_later HT3.out hb9 HLT3.out
          have f0 := there_free hT9 0 (by decide)
          have f1 := there_free hT9 1 (by decide)
          have HT9 := Lib.hid hT9
          have HB9 := Lib.hid (HBR.out.trans (hb9.mono HBR.out.size))
          clear hT9 hb9 X0 X1 Y0 Y1 hof
          go_wp2
          refine bodyPost_ret (results_agg1 rfl _ _ (w.heap.size + 1 + 1) [.int .i64 (max l m), .int .u32 (orN c d)] (.struct _) rfl (World.rangeAt_setCells_same w9 (w.heap.size + 1 + 1) 0 [.int .i64 (max l m), .int .u32 (orN c d)] HT9.out) Tryz.underlying26 rfl (by kernel_rfl)) rfl ?_
          exact ⟨by rw [HF.out], below_put (below_put HB9.out (by omega)) (by omega)⟩
end Go.Proofs.YtcfococinllcmaaGreat
namespace Go.Proofs.YtcfococinllcmaaGreat
open Go.RowKit
def NmdFit (l : List Nmd) : Prop := ∀ x ∈ l, x.2.2 < 4294967296
set_option maxHeartbeats 800000 in
set_option maxRecDepth 100000 in
theorem rfind_any (l : List Nmd) (nm : ByteArray) (v : Value) (w : World) (hv : NmdsAt w v l) (hl : l.length ≤ maxLen) :
    Calls Tryz.prog 149 #[v, .string nm] w fun e w' => e = .returned (.tuple #[findV (findL l nm), .bool (findL l nm).isSome]) ∧ Below w.heap.size w w' := by
  obtain ⟨a, c, rfl, hc, hr⟩ := RdAt.shape hv
  have HR := Lib.hid hr
  have hl63 : l.length ≤ 9223372036854775807 := by unfold maxLen at hl; omega
  have hb0 := alloc_below w (.cells #[.int .i64 0, .int .u32 0] 26)
  have hd := Below.refl (w.alloc (.cells #[.int .i64 0, .int .u32 0] 26)).heap.size (w.alloc (.cells #[.int .i64 0, .int .u32 0] 26))
  have hT := box_there hd
  obtain ⟨z0, z1, hlt, _⟩ := box2 hd
  have HT := Lib.hid hT
  have HB := Lib.hid hb0
  have HLT := Lib.hid hlt
  clear hr hv hT hd hlt hb0
  go_enter Tryz.func149, Tryz.ntmps149
  go_upto_region 2 with fail
  change Code.wp _ _ _ _ (w.alloc (.cells #[.int .i64 0, .int .u32 0] 26))
  generalize w.alloc (.cells #[.int .i64 0, .int .u32 0] 26) = w0 at *
  go_loopw [6] (fun i wr => ∃ k : Nat, i = .int .i64 k ∧ k ≤ l.length ∧ Hid (∀ j (h : j < l.length), j < k → decide (l[j].1 = nm) = false) ∧ wr = w0) (fun i _ => l.length - (intOf i).toNat)
  case atStart => exact ⟨0, rfl, Nat.zero_le _, Lib.hid (fun j h hj => absurd hj (Nat.not_lt_zero _)), rfl⟩
  case round =>
    obtain ⟨k, rfl, hk, HN, hwr⟩ := hrel
    subst hwr
    by_cases hkl : k < l.length
    · obtain ⟨b, o, rfl, hb, hcell⟩ := HR.out (by omega)
      have HC := nmdCells_at l k hkl
      obtain ⟨x, hx⟩ : ∃ x, l[k] = x := ⟨_, rfl⟩
      rw [hx] at HC
      have q : ∀ i v, (nmdC x)[i]? = some v → wr.cell? ⟨b, o + k * 3 + i, none⟩ = some v := fun i v hi => keep_cell (by have := hcell _ _ (HC i v hi); rwa [← Nat.add_assoc] at this) HB.out hb
      have c0 : wr.cell? ⟨b, o + k * 3, none⟩ = some (.string x.1) := q 0 _ rfl
      have c1 : wr.cell? ⟨b, o + k * 3 + 1, none⟩ = some (.int .i64 x.2.1) := q 1 _ rfl
      have c2 : wr.cell? ⟨b, o + k * 3 + 2, none⟩ = some (.int .u32 x.2.2) := q 2 _ rfl
      have HX := Lib.hid hx
      have f0 := there_free HT.out 0 (by decide)
      have f1 := there_free HT.out 1 (by decide)
      clear q HC hcell hx
      by_cases hxn : x.1 = nm
      · have hbq : (x.1.toList == nm.toList) = true := bytes_eq_iff.2 hxn
        have HF : Hid (findL l nm = some x) := by
          show _ = _
          rcases idx_find (fun y : Nmd => decide (y.1 = nm)) default l 0 with ⟨k', hk', _, h2, h3, h4⟩ | ⟨_, _, h3⟩
          · have : k' = k := by
              rcases Nat.lt_trichotomy k' k with h | h | h
              · have := HN.out k' hk' h; rw [this] at h3; cases h3
              · exact h
              · have := h4 k hkl h; rw [HX.out, decide_eq_true hxn] at this; cases this
            subst this
            rw [← HX.out]; exact h2
          · have := h3 k hkl; rw [HX.out, decide_eq_true hxn] at this; cases this
        go_wp2
        refine bodyPost_ret (results_agg2 rfl _ _ w.heap.size [.int .i64 x.2.1, .int .u32 x.2.2] (.struct _) rfl (World.rangeAt_setCells_same wr w.heap.size 0 [.int .i64 x.2.1, .int .u32 x.2.2] HT.out) Tryz.underlying26 rfl (by kernel_rfl)) rfl ?_
        exact ⟨by rw [HF.out]; rfl, below_put (below_put HB.out (Nat.le_refl _)) (Nat.le_refl _)⟩
      · have hbq : (x.1.toList == nm.toList) = false := by rw [bytes_beq]; exact decide_eq_false hxn
        go_wp2
        go_roundw
        case rel => exact ⟨k + 1, by go_num, by omega, Lib.hid (fun j h hj => by
          rcases Nat.lt_or_ge j k with h' | h'
          · exact HN.out j h h'
          · have : j = k := by omega
            subst this
            rw [HX.out]; exact decide_eq_false hxn), trivial⟩
        case measure => (simp [intOf]; try omega)
    · obtain rfl : k = l.length := by omega
      have HF : Hid (findL l nm = none) := by
        show _ = _
        rcases idx_find (fun y : Nmd => decide (y.1 = nm)) default l 0 with ⟨k', hk', _, h2, h3, h4⟩ | ⟨_, h2, h3⟩
        · have := HN.out k' hk' hk'; rw [this] at h3; cases h3
        · exact h2
      have f0 := there_free HT.out 0 (by decide)
      have f1 := there_free HT.out 1 (by decide)
      go_wp2
      refine bodyPost_ret (results_agg2 rfl _ _ w.heap.size [.int .i64 0, .int .u32 0] (.struct _) rfl (World.rangeAt_setCells_same wr w.heap.size 0 [.int .i64 0, .int .u32 0] HT.out) Tryz.underlying26 rfl (by kernel_rfl)) rfl ?_
      exact ⟨by rw [HF.out]; rfl, below_put (below_put HB.out (Nat.le_refl _)) (Nat.le_refl _)⟩
set_option maxHeartbeats 1600000 in
set_option maxRecDepth 100000 in
theorem rraised_any (s0 s1 s2 s4 s5 : Option Addr × Nat × Nat) (l : List Nmd) (rv : Value) (nm : ByteArray) (lv : Int) (c : Nat) (w : World) (hv : NmdsAt w rv l) (hl : l.length ≤ maxLen) (hfit : NmdFit l) (hc : c < 4294967296) :
    Calls Tryz.prog 124 #[.agg #[SV s0, SV s1, SV s2, rv, SV s4, SV s5], .string nm, Lab lv c] w fun e w' => e = .returned (LabP (raisedL l nm (lv, c))) ∧ Below w.heap.size w w' := by
  have k1 := fun W (h : Below w.heap.size w W) => rfind_any l nm rv W (hv.later h) hl
  obtain ⟨ra, rc, rfl, _, _⟩ := RdAt.shape hv
  clear hv
  obtain ⟨a0, n0, c0⟩ := s0
  obtain ⟨a1, n1, c1⟩ := s1
  obtain ⟨a2, n2, c2⟩ := s2
  obtain ⟨a4, n4, c4⟩ := s4
  obtain ⟨a5, n5, c5⟩ := s5
  have hB0 : Below w.heap.size w (((w.alloc (.cells #[.slice a0 n0 c0, .slice a1 n1 c1, .slice a2 n2 c2, .slice ra l.length rc, .slice a4 n4 c4, .slice a5 n5 c5] 76)).alloc (.cells #[.int .i64 lv, .int .u32 c] 26)).alloc (.cells #[.int .i64 0, .int .u32 0] 26)) :=
    ((alloc_below _ _).trans ((alloc_below _ _).mono (by simp))).trans ((alloc_below _ _).mono (by simp; omega))
  have k1 := k1 _ hB0
  cases hf : findL l nm with
  | none =>
    have HF : Hid (raisedL l nm (lv, c) = (lv, c)) := by show _ = _; unfold raisedL; rw [hf]
    rw [hf] at k1
    clear hf hB0
    go_enter Tryz.func124, Tryz.ntmps124
    go_wp2_with fail
    refine k1.mono ?_
    rintro e w1 ⟨rfl, hb1⟩
    obtain ⟨⟨x0, x1⟩, ⟨z0, z1, hT⟩, hlt, hB1⟩ := box622 hb1
    have ha := alloc_below w1 (.cells #[.int .i64 0, .int .u32 0] 26)
    have x0' := keep_cell x0 ha (by omega)
    have x1' := keep_cell x1 ha (by omega)
    have z0' := keep_cell z0 ha (by omega)
    have z1' := keep_cell z1 ha (by omega)
    have hT2 := there_later hT ha (by omega)
    have f0 := there_free hT2 0 (by decide)
    have f1 := there_free hT2 1 (by decide)
    have HT := Lib.hid hT2
    have hB2 := Lib.hid (hB1.trans (ha.mono hB1.size))
    clear hb1 hT k1 ha x0 x1 z0 z1 hT2 hB1
    simp only [findV, Option.isSome]
    go_upto_region 2 with fail
    change Code.wp _ _ _ _ (w1.alloc (.cells #[.int .i64 0, .int .u32 0] 26))
    generalize w1.alloc (.cells #[.int .i64 0, .int .u32 0] 26) = w2 at *
    go_wp2
    refine bodyPost_ret (results_agg1 rfl _ _ (w.heap.size + 1 + 1) [.int .i64 lv, .int .u32 c] (.struct _) rfl (World.rangeAt_setCells_same _ (w.heap.size + 1 + 1) 0 [.int .i64 lv, .int .u32 c] HT.out) Tryz.underlying26 rfl (by kernel_rfl)) rfl ?_
    exact ⟨by rw [HF.out], below_put (below_put hB2.out (by omega)) (by omega)⟩
  | some r =>
    have HF : Hid (raisedL l nm (lv, c) = joinL (lv, c) r.2) := by show _ = _; unfold raisedL; rw [hf]
    rw [hf] at k1
    obtain ⟨rn, rl, rcat⟩ := r
    have hrc : rcat < 4294967296 := hfit _ (List.mem_of_find?_eq_some hf)
    have k2 := fun W => rjoin_any lv c rl rcat W hc hrc
    obtain ⟨jl, hjl⟩ : ∃ z, joinL (lv, c) (rl, rcat) = z := ⟨_, rfl⟩
    obtain ⟨j1, j2⟩ := jl
    simp only [hjl] at k2
    rw [show (rn, rl, rcat).2 = (rl, rcat) from rfl, hjl] at HF
    clear hf hB0 hjl hrc
    go_enter Tryz.func124, Tryz.ntmps124
    go_wp2_with fail
    refine k1.mono ?_
    rintro e w1 ⟨rfl, hb1⟩
    obtain ⟨⟨x0, x1⟩, ⟨z0, z1, hT⟩, hlt, hB1⟩ := box622 hb1
    have ha := alloc_below w1 (.cells #[.int .i64 rl, .int .u32 rcat] 26)
    have x0' := keep_cell x0 ha (by omega)
    have x1' := keep_cell x1 ha (by omega)
    have z0' := keep_cell z0 ha (by omega)
    have z1' := keep_cell z1 ha (by omega)
    have hT2 := there_later hT ha (by omega)
    have HT := Lib.hid hT2
    have hB2 := Lib.hid (hB1.trans (ha.mono hB1.size))
    have hlt2 : w.heap.size + 1 + 1 < (w1.alloc (.cells #[.int .i64 rl, .int .u32 rcat] 26)).heap.size := by rw [World.size_alloc]; omega
    have HL2 := Lib.hid hlt2
    clear hb1 hT k1 ha x0 x1 z0 z1 hT2 hB1 hlt2
    simp only [findV, Option.isSome]
    go_upto_region 2 with fail
    change Code.wp _ _ _ _ (w1.alloc (.cells #[.int .i64 rl, .int .u32 rcat] 26))
    have y0 : (w1.alloc (.cells #[.int .i64 rl, .int .u32 rcat] 26)).cell? ⟨w1.heap.size, 0, none⟩ = some (.int .i64 rl) := World.cell?_alloc_at _ _ _ _ rfl
    have y1 : (w1.alloc (.cells #[.int .i64 rl, .int .u32 rcat] 26)).cell? ⟨w1.heap.size, 1, none⟩ = some (.int .u32 rcat) := World.cell?_alloc_at _ _ _ _ rfl
    generalize w1.alloc (.cells #[.int .i64 rl, .int .u32 rcat] 26) = w1' at *
    go_wp2_with fail
    refine (k2 _).mono ?_
    rintro e w2 ⟨rfl, hb2⟩
    have z0 := keep_cell z0' hb2 HL2.out
    have z1 := keep_cell z1' hb2 HL2.out
    have hT3 := there_later HT.out hb2 HL2.out
    have f0 := there_free hT3 0 (by decide)
    have f1 := there_free hT3 1 (by decide)
    have HT3 := Lib.hid hT3
    have hB3 := Lib.hid (hB2.out.trans (hb2.mono hB2.out.size))
    clear x0' x1' y0 y1 z0' z1' HT HL2 hb2 hB2 hT3 k2
    go_wp2
    refine bodyPost_ret (results_agg1 rfl _ _ (w.heap.size + 1 + 1) [.int .i64 j1, .int .u32 j2] (.struct _) rfl (World.rangeAt_setCells_same _ (w.heap.size + 1 + 1) 0 [.int .i64 j1, .int .u32 j2] HT3.out) Tryz.underlying26 rfl (by kernel_rfl)) rfl ?_
    exact ⟨by rw [HF.out], below_put (below_put hB3.out (by omega)) (by omega)⟩
end Go.Proofs.YtcfococinllcmaaGreat
namespace Go.Proofs.YtcfococinllcmaaGreat
open Go.RowKit
theorem visL_step {rs : List Nmd} {fl : List Fld} {f t : Int × Nat} {k : Nat} (h : k < fl.length) : visL rs (fl.take (k + 1)) f t = visL rs (fl.take k) f t ++ (if seesL rs f t fl[k] then [fl[k]] else []) := by
  unfold visL
  rw [List.take_succ_eq_append_getElem h, List.filter_append]
  congr 1
  cases hp : seesL rs f t fl[k] <;> simp [hp]
theorem visL_len (rs : List Nmd) (fl : List Fld) (f t : Int × Nat) : (visL rs fl f t).length ≤ fl.length := List.length_filter_le _ _
set_option maxHeartbeats 1600000 in
set_option maxRecDepth 100000 in
theorem rvis_any (s0 s1 s2 s4 s5 : Option Addr × Nat × Nat) (rs : List Nmd) (rv : Value) (fl : List Fld) (fv : Value) (lv : Int) (c : Nat) (tl : Int) (tc : Nat) (w : World) (hv : NmdsAt w rv rs) (hl : rs.length ≤ maxLen) (hfit : NmdFit rs) (hc : c < 4294967296) (htc : tc < 4294967296) (hf : FldsAt w fv fl) (hfl : fl.length ≤ 1000000) :
    Calls Tryz.prog 101 #[.agg #[SV s0, SV s1, SV s2, rv, SV s4, SV s5], fv, Lab lv c, Lab tl tc] w fun e w' => ∃ v', e = .returned v' ∧ FldsAt w' v' (visL rs fl (lv, c) (tl, tc)) ∧ (∀ q, v'.ownBlock = some q → w.heap.size ≤ q) ∧ Below w.heap.size w w' := by
  obtain ⟨i0, hi, hz0, hz1, hz2⟩ := info_parts info_fld
  obtain ⟨ra, rc, rfl, _, _⟩ := RdAt.shape hv
  obtain ⟨fa, fc, rfl, hfc, hfr⟩ := RdAt.shape hf
  obtain ⟨a0, n0, c0⟩ := s0
  obtain ⟨a1, n1, c1⟩ := s1
  obtain ⟨a2, n2, c2⟩ := s2
  obtain ⟨a4, n4, c4⟩ := s4
  obtain ⟨a5, n5, c5⟩ := s5
  obtain ⟨W0, hW0⟩ : ∃ z, ((w.alloc (.cells #[.slice a0 n0 c0, .slice a1 n1 c1, .slice a2 n2 c2, .slice ra rs.length rc, .slice a4 n4 c4, .slice a5 n5 c5] 76)).alloc (.cells #[.int .i64 lv, .int .u32 c] 26)).alloc (.cells #[.int .i64 tl, .int .u32 tc] 26) = z := ⟨_, rfl⟩
  have hb0 : Below w.heap.size w W0 := by rw [← hW0]; exact ((alloc_below _ _).trans ((alloc_below _ _).mono (by simp))).trans ((alloc_below _ _).mono (by simp; omega))
  have hz : W0.heap.size = w.heap.size + 1 + 1 + 1 := by rw [← hW0]; simp
  have hbb := (Below.refl W0.heap.size W0)
  rw [← hW0] at hbb
  obtain ⟨h1, h2, h3⟩ := box_cells hbb
  obtain ⟨h4, h5, h6, h7⟩ := box_two h3
  rw [hW0] at h1 h4 h5
  simp only [World.size_alloc] at h1
  have hC6 : C6 w.heap.size (.slice a0 n0 c0) (.slice a1 n1 c1) (.slice a2 n2 c2) (.slice ra rs.length rc) (.slice a4 n4 c4) (.slice a5 n5 c5) W0 := ⟨h4 0 _ rfl, h4 1 _ rfl, h4 2 _ rfl, h4 3 _ rfl, h4 4 _ rfl, h4 5 _ rfl⟩
  have HC6 := Lib.hid hC6
  have hf0 := h5 0 _ rfl
  have hf1 := h5 1 _ rfl
  have ht0 := h1 0 _ rfl
  have ht1 := h1 1 _ rfl
  have HL0 := Lib.hid (And.intro hf0 (And.intro hf1 (And.intro ht0 ht1)))
  have HB0 := Lib.hid hb0
  have HZ := Lib.hid hz
  have HFR := Lib.hid hfr
  have HV := Lib.hid hv
  have HW0 := Lib.hid hW0
  have HFIT := Lib.hid hfit
  have HCC := Lib.hid hc
  have HTC := Lib.hid htc
  clear h1 h2 h3 h4 h5 h6 h7 hbb hf hv hfr hC6 hf0 hf1 ht0 ht1 hb0 hz hW0 hfit hc htc
  go_enter Tryz.func101, Tryz.ntmps101
  go_upto_region 1 with fail
  rw [HW0.out]
  clear HW0
  go_wp2
  go_loopw [9, 10] (fun v i wr => ∃ k : Nat, i = .int .i64 k ∧ k ≤ fl.length ∧ wr.ownsRow W0.heap.size 103 2 v (visL rs (fl.take k) (lv, c) (tl, tc)).length (fldCells (visL rs (fl.take k) (lv, c) (tl, tc))) ∧ Below W0.heap.size W0 wr) (fun _ i _ => fl.length - (intOf i).toNat)
  case atStart => exact ⟨0, rfl, Nat.zero_le _, World.ownsRow_nil _ _ _ _, Below.refl _ _⟩
  case round =>
    obtain ⟨k, rfl, hk, hown, hbr⟩ := hrel
    have hzs := HZ.out
    by_cases hkl : k < fl.length
    · obtain ⟨b, o, rfl, hb, hcell⟩ := HFR.out (by omega)
      obtain ⟨q0, q1⟩ := fldCells_at fl k hkl
      obtain ⟨⟨fx, fy⟩, hfx⟩ : ∃ z, fl[k] = z := ⟨_, rfl⟩
      have HBw := Lib.hid (HB0.out.trans (hbr.mono HB0.out.size))
      have e0 : wr.cell? ⟨b, o + k * 2, none⟩ = some (.string fx) := keep_cell (by have := hcell _ _ q0; rw [hfx] at this; exact this) HBw.out hb
      have e1 : wr.cell? ⟨b, o + k * 2 + 1, none⟩ = some (.string fy) := keep_cell (by have := hcell _ _ q1; rw [hfx, ← Nat.add_assoc] at this; exact this) HBw.out hb
      have hvs := visL_step (rs := rs) (f := (lv, c)) (t := (tl, tc)) hkl
      rw [hfx] at hvs
      obtain ⟨jl, hjl⟩ : ∃ z, raisedL rs fx (lv, c) = z := ⟨_, rfl⟩
      have hsee : seesL rs (lv, c) (tl, tc) (fx, fy) = flowsL jl.1 jl.2 tl tc := by unfold seesL; rw [hjl]
      obtain ⟨j1, j2⟩ := jl
      have hj2 : j2 < 4294967296 := by
        have : (raisedL rs fx (lv, c)).2 < 4294967296 := by
          unfold raisedL
          split
          · exact (joinL_right _ _).2
          · exact HCC.out
        rw [hjl] at this
        exact this
      obtain ⟨q, hq⟩ : ∃ q, flowsL j1 j2 tl tc = q := ⟨_, rfl⟩
      rw [hsee, hq] at hvs
      have k1 : ∀ W, Below W0.heap.size W0 W → Calls Tryz.prog 124 #[.agg #[.slice a0 n0 c0, .slice a1 n1 c1, .slice a2 n2 c2, .slice ra rs.length rc, .slice a4 n4 c4, .slice a5 n5 c5], .string fx, Lab lv c] W fun e w' => e = .returned (Lab j1 j2) ∧ Below W.heap.size W w' := fun W h => by
        have := rraised_any (a0, n0, c0) (a1, n1, c1) (a2, n2, c2) (a4, n4, c4) (a5, n5, c5) rs (.slice ra rs.length rc) fx lv c W (HV.out.later (HB0.out.trans (h.mono HB0.out.size))) hl HFIT.out HCC.out
        rw [hjl] at this
        exact this
      have k2 : ∀ W, Calls Tryz.prog 28 #[Lab j1 j2, Lab tl tc] W fun e w' => e = .returned (.bool q) ∧ Below W.heap.size W w' := fun W => by
        have := rflows_any j1 j2 tl tc W hj2 HTC.out
        rw [hq] at this
        exact this
      have HVS := Lib.hid hvs
      have hlen := visL_len rs (fl.take k) (lv, c) (tl, tc)
      rw [List.length_take] at hlen
      have HO := Lib.hid hown
      have HBR := Lib.hid hbr
      obtain ⟨va, vc, rfl, _, _⟩ := RdAt.shape (RdAt.own hown)
      have hP := HC6.out.later hbr (by omega)
      obtain ⟨p0, p1, p2, p3, p4, p5⟩ := hP
      obtain ⟨l0, l1, t0, t1⟩ := HL0.out
      have L0 := keep_cell l0 hbr (by omega)
      have L1 := keep_cell l1 hbr (by omega)
      have T0 := keep_cell t0 hbr (by omega)
      have T1 := keep_cell t1 hbr (by omega)
      have hbl : b < wr.heap.size := Nat.lt_of_lt_of_le hb HBw.out.size
      have hzr : w.heap.size + 1 + 1 < wr.heap.size := by have := hbr.size; omega
      clear q0 q1 hcell hfx hvs hsee hjl hj2 hq hown hbr l0 l1 t0 t1
      go_upto_region 5 with fail
      refine wp_region_held_drew (S := (fun W => W.cell? ⟨w.heap.size, 0, none⟩ = some (.slice a0 n0 c0) ∧ W.cell? ⟨w.heap.size, 1, none⟩ = some (.slice a1 n1 c1) ∧ W.cell? ⟨w.heap.size, 2, none⟩ = some (.slice a2 n2 c2) ∧ W.cell? ⟨w.heap.size, 3, none⟩ = some (.slice ra rs.length rc) ∧ W.cell? ⟨w.heap.size, 4, none⟩ = some (.slice a4 n4 c4) ∧ W.cell? ⟨w.heap.size, 5, none⟩ = some (.slice a5 n5 c5) ∧ W.cell? ⟨w.heap.size + 1, 0, none⟩ = some (.int .i64 lv) ∧ W.cell? ⟨w.heap.size + 1, 1, none⟩ = some (.int .u32 c) ∧ W.cell? ⟨w.heap.size + 1 + 1, 0, none⟩ = some (.int .i64 tl) ∧ W.cell? ⟨w.heap.size + 1 + 1, 1, none⟩ = some (.int .u32 tc) ∧ W.cell? ⟨b, o + k * 2, none⟩ = some (.string fx))) (by kernel_rfl) ⟨p0, p1, p2, p3, p4, p5, L0, L1, T0, T1, e0⟩ (fun hHeld => ?_)
      refine held_take (i := 0) (v := ?_) rfl rfl (by kernel_rfl) (by kernel_rfl) (by kernel_rfl) (fun _ _ _ h => h) (by rfl) hHeld ?_ ?_
      rotate_left
      · rintro wh ⟨z0, z1, z2, z3, z4, z5, z6, z7, z8, z9, z10⟩
        go_simp
        (try with_reducible rfl)
      simp only [Act.put, List.setIfInBounds_toArray, List.set_cons_zero, List.set_cons_succ]
      refine held_take (i := 1) (v := ?_) rfl rfl (by kernel_rfl) (by kernel_rfl) (by kernel_rfl) (fun _ _ _ h => h) (by rfl) hHeld ?_ ?_
      rotate_left
      · rintro wh ⟨z0, z1, z2, z3, z4, z5, z6, z7, z8, z9, z10⟩
        go_simp
        (try with_reducible rfl)
      simp only [Act.put, List.setIfInBounds_toArray, List.set_cons_zero, List.set_cons_succ]
      refine held_take (i := 2) (v := ?_) rfl rfl (by kernel_rfl) (by kernel_rfl) (by kernel_rfl) (fun _ _ _ h => h) (by rfl) hHeld ?_ ?_
      rotate_left
      · rintro wh ⟨z0, z1, z2, z3, z4, z5, z6, z7, z8, z9, z10⟩
        go_simp
        (try with_reducible rfl)
      simp only [Act.put, List.setIfInBounds_toArray, List.set_cons_zero, List.set_cons_succ]
      refine held_take (i := 3) (v := ?_) rfl rfl (by kernel_rfl) (by kernel_rfl) (by kernel_rfl) (fun _ _ _ h => h) (by rfl) hHeld ?_ ?_
      rotate_left
      · rintro wh ⟨z0, z1, z2, z3, z4, z5, z6, z7, z8, z9, z10⟩
        go_simp
        (try with_reducible rfl)
      simp only [Act.put, List.setIfInBounds_toArray, List.set_cons_zero, List.set_cons_succ]
      refine held_take (i := 4) (v := ?_) rfl rfl (by kernel_rfl) (by kernel_rfl) (by kernel_rfl) (fun _ _ _ h => h) (by rfl) hHeld ?_ ?_
      rotate_left
      · rintro wh ⟨z0, z1, z2, z3, z4, z5, z6, z7, z8, z9, z10⟩
        go_simp
        (try with_reducible rfl)
      simp only [Act.put, List.setIfInBounds_toArray, List.set_cons_zero, List.set_cons_succ]
      refine held_take (i := 5) (v := ?_) rfl rfl (by kernel_rfl) (by kernel_rfl) (by kernel_rfl) (fun _ _ _ h => h) (by rfl) hHeld ?_ ?_
      rotate_left
      · rintro wh ⟨z0, z1, z2, z3, z4, z5, z6, z7, z8, z9, z10⟩
        go_simp
        (try with_reducible rfl)
      simp only [Act.put, List.setIfInBounds_toArray, List.set_cons_zero, List.set_cons_succ]
      refine held_take (i := 6) (v := ?_) rfl rfl (by kernel_rfl) (by kernel_rfl) (by kernel_rfl) (fun _ _ _ h => h) (by rfl) hHeld ?_ ?_
      rotate_left
      · rintro wh ⟨z0, z1, z2, z3, z4, z5, z6, z7, z8, z9, z10⟩
        go_simp
        (try with_reducible rfl)
      simp only [Act.put, List.setIfInBounds_toArray, List.set_cons_zero, List.set_cons_succ]
      refine held_take (i := 8) (v := ?_) rfl rfl (by kernel_rfl) (by kernel_rfl) (by kernel_rfl) (fun _ _ _ h => h) (by rfl) hHeld ?_ ?_
      rotate_left
      · rintro wh ⟨z0, z1, z2, z3, z4, z5, z6, z7, z8, z9, z10⟩
        go_simp
        (try with_reducible rfl)
      simp only [Act.put, List.setIfInBounds_toArray, List.set_cons_zero, List.set_cons_succ]
      refine held_call (i := 7) rfl (by kernel_rfl) (by rfl) (fun K hK => ?_)
      (go_simp; go_at_call 124; refine (k1 _ (HBR.out.trans (((Below.refl _ wr).drew).mono HBR.out.size))).mono ?_; rintro e w3 ⟨rfl, hb3⟩; have hb3' : Below wr.heap.size wr w3 := ((Below.refl _ wr).drew).trans hb3)
      refine hK.out _ _ ⟨keep_cell p0 hb3' (by omega), keep_cell p1 hb3' (by omega), keep_cell p2 hb3' (by omega), keep_cell p3 hb3' (by omega), keep_cell p4 hb3' (by omega), keep_cell p5 hb3' (by omega), keep_cell L0 hb3' (by omega), keep_cell L1 hb3' (by omega), keep_cell T0 hb3' (by omega), keep_cell T1 hb3' (by omega), keep_cell e0 hb3' hbl⟩ (fun hHeld => ?_)
      clear hK K
      (try simp only [Act.put, List.setIfInBounds_toArray, List.set_cons_zero, List.set_cons_succ])
      refine held_call (i := 9) rfl (by kernel_rfl) (by rfl) (fun K hK => ?_)
      (go_simp; go_at_call 28; refine (k2 _).mono ?_; rintro e w4 ⟨rfl, hb4⟩; have hb34 := hb3'.trans (hb4.mono hb3'.size))
      refine hK.out _ _ ⟨keep_cell p0 hb34 (by omega), keep_cell p1 hb34 (by omega), keep_cell p2 hb34 (by omega), keep_cell p3 hb34 (by omega), keep_cell p4 hb34 (by omega), keep_cell p5 hb34 (by omega), keep_cell L0 hb34 (by omega), keep_cell L1 hb34 (by omega), keep_cell T0 hb34 (by omega), keep_cell T1 hb34 (by omega), keep_cell e0 hb34 hbl⟩ (fun hHeld => ?_)
      clear hK K
      (try simp only [Act.put, List.setIfInBounds_toArray, List.set_cons_zero, List.set_cons_succ])
      refine wpAnyH_done (by kernel_rfl) ?_ _
      have HB4 := Lib.hid hb34
      clear hb34 hb3' hb4 hb3 p0 p1 p2 p3 p4 p5 L0 L1 T0 T1 k1 k2
      have E0 := keep_cell e0 HB4.out hbl
      have E1 := keep_cell e1 HB4.out hbl
      clear e0 e1
      cases q
      · go_wp2
        go_roundw
        case rel => exact ⟨k + 1, by go_num, by omega, by rw [HVS.out]; simpa using own_later HO.out HB4.out, HBR.out.trans (HB4.out.mono HBR.out.size)⟩
        case measure => (simp [intOf]; try omega)
      · have hb9 := alloc_below w4 (.cells #[.string fx, .string fy] 103)
        have hown9 := (own_later HO.out HB4.out).alloc (.cells #[.string fx, .string fy] 103)
        have hrd : RdAt (w4.alloc (.cells #[.string fx, .string fy] 103)) (.slice (some ⟨w4.heap.size, 0, none⟩) 1 1) 1 2 [.string fx, .string fy] := by
          refine RdAt.mk rfl (Nat.le_refl _) (by simp) (fun j x hj => ?_)
          rw [Nat.zero_add]
          exact (World.cell?_alloc_at _ _ _ _ rfl).trans (by
            match j, hj with
            | 0, hj => exact hj
            | 1, hj => exact hj
            | j + 2, hj => simp at hj)
        go_wp2_with (at_builtin; (refine wpList_append_rd rfl (.tmp 27) (.tmp 32) 48 rfl W0.heap.size 103 i0 (.agg #[.string ⟨#[]⟩, .string ⟨#[]⟩]) 2 32 Tryz.underlying48 hi hz0 hz1 hz2 rfl (by decide) _ _ _ rfl hown9 _ 1 [.string fx, .string fy] rfl hrd (by simp [Value.oneCell']) (by unfold maxLen; omega) (by omega) (by have := HBR.out.size; have := HB4.out.size; simp; omega) ?_); intro v' w8 hown' hg8)
        have hB8 : Below W0.heap.size W0 w8 := ((HBR.out.trans (HB4.out.mono HBR.out.size)).trans (hb9.mono (by have := HBR.out.size; have := HB4.out.size; omega))).grown hg8 (by have := HBR.out.size; have := HB4.out.size; simp; omega) (fun j e => (hown9.lt j e).1)
        go_wp2
        go_roundw
        case rel => exact ⟨k + 1, by go_num, by omega, by
          rw [HVS.out, if_pos rfl, List.length_append, fldCells_append]
          exact hown', hB8⟩
        case measure => (simp [intOf]; try omega)
    · obtain rfl : k = fl.length := by omega
      rw [List.take_length] at hown
      go_wp2
      go_ret
      exact ⟨_, rfl, RdAt.own hown, fun q hq => by have := (hown.lt q hq).1; omega, HB0.out.trans (hbr.mono HB0.out.size)⟩
end Go.Proofs.YtcfococinllcmaaGreat
namespace Go.Proofs.YtcfococinllcmaaGreat
open Go.RowKit
theorem min14 (n : Nat) : ∃ k : Nat, k = min n 14 ∧ k ≤ n ∧ k ≤ 14 ∧ min (n : Int) 14 = (k : Int) := ⟨min n 14, rfl, by omega, by omega, by omega⟩
set_option maxHeartbeats 1600000 in
set_option maxRecDepth 100000 in
theorem rcut_any (a0 a1 a2 a3 a4 a5 : Option Addr) (n0 n1 n2 n3 n4 n5 c0 c1 c2 c3 c4 c5 : Nat) (w : World) (h0 : n0 ≤ c0 ∧ c0 ≤ maxLen) (h1 : n1 ≤ c1 ∧ c1 ≤ maxLen) (h2 : n2 ≤ c2 ∧ c2 ≤ maxLen) (h3 : n3 ≤ c3 ∧ c3 ≤ maxLen) (h4 : n4 ≤ c4 ∧ c4 ≤ maxLen) (h5 : n5 ≤ c5 ∧ c5 ≤ maxLen) :
    Calls Tryz.prog 33 #[.agg #[.slice a0 n0 c0, .slice a1 n1 c1, .slice a2 n2 c2, .slice a3 n3 c3, .slice a4 n4 c4, .slice a5 n5 c5], .int .i64 14] w fun e w' =>
      e = .returned (.agg #[.slice a0 (min n0 14) c0, .slice a1 (min n1 14) c1, .slice a2 (min n2 14) c2, .slice a3 (min n3 14) c3, .slice a4 (min n4 14) c4, .slice a5 (min n5 14) c5]) ∧ Below w.heap.size w w' := by
  obtain ⟨k0, e0, l0, m0, q0⟩ := min14 n0
  obtain ⟨k1, e1, l1, m1, q1⟩ := min14 n1
  obtain ⟨k2, e2, l2, m2, q2⟩ := min14 n2
  obtain ⟨k3, e3, l3, m3, q3⟩ := min14 n3
  obtain ⟨k4, e4, l4, m4, q4⟩ := min14 n4
  obtain ⟨k5, e5, l5, m5, q5⟩ := min14 n5
  rw [← e0, ← e1, ← e2, ← e3, ← e4, ← e5]
  clear e0 e1 e2 e3 e4 e5
  have z0 : k0 ≤ c0 := by omega
  have z1 : k1 ≤ c1 := by omega
  have z2 : k2 ≤ c2 := by omega
  have z3 : k3 ≤ c3 := by omega
  have z4 : k4 ≤ c4 := by omega
  have z5 : k5 ≤ c5 := by omega
  unfold maxLen at h0 h1 h2 h3 h4 h5
  obtain ⟨W0, hW0⟩ : ∃ z, (w.alloc (.cells #[.slice a0 n0 c0, .slice a1 n1 c1, .slice a2 n2 c2, .slice a3 n3 c3, .slice a4 n4 c4, .slice a5 n5 c5] 76)).alloc (.cells #[.slice none 0 0, .slice none 0 0, .slice none 0 0, .slice none 0 0, .slice none 0 0, .slice none 0 0] 76) = z := ⟨_, rfl⟩
  have hb0 : Below w.heap.size w W0 := by rw [← hW0]; exact (alloc_below _ _).trans ((alloc_below _ _).mono (by simp))
  have hd := (Below.refl W0.heap.size W0)
  rw [← hW0] at hd
  obtain ⟨g1, g2, g3⟩ := box_cells hd
  have hT := box_there hd
  have hT1 : W0.there w.heap.size 0 6 := hW0 ▸ box_there g3
  obtain ⟨g4, _, _⟩ := box_cells g3
  rw [World.size_alloc] at g1 hT
  rw [hW0] at g1 g4 hT
  have p0 := g4 0 _ rfl
  have p1 := g4 1 _ rfl
  have p2 := g4 2 _ rfl
  have p3 := g4 3 _ rfl
  have p4 := g4 4 _ rfl
  have p5 := g4 5 _ rfl
  have r0 := g1 0 _ rfl
  have r1 := g1 1 _ rfl
  have r2 := g1 2 _ rfl
  have r3 := g1 3 _ rfl
  have r4 := g1 4 _ rfl
  have r5 := g1 5 _ rfl
  have f0 := there_free hT 0 (by decide)
  have f1 := there_free hT 1 (by decide)
  have f2 := there_free hT 2 (by decide)
  have f3 := there_free hT 3 (by decide)
  have f4 := there_free hT 4 (by decide)
  have f5 := there_free hT 5 (by decide)
  have u0 := there_free hT1 0 (by decide)
  have u1 := there_free hT1 1 (by decide)
  have u2 := there_free hT1 2 (by decide)
  have u3 := there_free hT1 3 (by decide)
  have u4 := there_free hT1 4 (by decide)
  have u5 := there_free hT1 5 (by decide)
  have HB0 := Lib.hid hb0
  have HT := Lib.hid hT
  have HW0 := Lib.hid hW0
  clear hd g1 g2 g3 g4 hT hT1 hb0 hW0
  go_enter Tryz.func33, Tryz.ntmps33
  go_upto_region 1 with fail
  rw [HW0.out]
  clear HW0
  go_wp2
  refine bodyPost_ret (results_agg1 rfl _ _ (w.heap.size + 1) [.slice a0 k0 c0, .slice a1 k1 c1, .slice a2 k2 c2, .slice a3 k3 c3, .slice a4 k4 c4, .slice a5 k5 c5] (.struct _) rfl (World.rangeAt_setCells_same _ (w.heap.size + 1) 0 [.slice a0 k0 c0, .slice a1 k1 c1, .slice a2 k2 c2, .slice a3 k3 c3, .slice a4 k4 c4, .slice a5 k5 c5] ?_) Tryz.underlying76 rfl (by kernel_rfl)) rfl ?_
  · exact World.there_setCells HT.out w.heap.size 0 [.slice a0 k0 c0, .slice a1 k1 c1, .slice a2 k2 c2, .slice a3 k3 c3, .slice a4 k4 c4, .slice a5 k5 c5]
  · exact ⟨rfl, below_puts (g := w.heap.size + 1) (o := 0) (below_puts (g := w.heap.size) (o := 0) HB0.out (Nat.le_refl _) [.slice a0 k0 c0, .slice a1 k1 c1, .slice a2 k2 c2, .slice a3 k3 c3, .slice a4 k4 c4, .slice a5 k5 c5]) (by omega) [.slice a0 k0 c0, .slice a1 k1 c1, .slice a2 k2 c2, .slice a3 k3 c3, .slice a4 k4 c4, .slice a5 k5 c5]⟩
set_option maxHeartbeats 1600000 in
set_option maxRecDepth 100000 in
theorem rcutA_any (s0 s1 s2 s4 s5 : Option Addr × Nat × Nat) (rs : List Nmd) (rv : Value) (src : ByteArray) (fl : List Fld) (fv : Value) (lv : Int) (c : Nat) (fr til : Int) (tl : Int) (tc : Nat) (w : World) (hv : NmdsAt w rv rs) (hl : rs.length ≤ maxLen) (hf : FldsAt w fv fl) (hfl : fl.length ≤ 1000000) (hfit : NmdFit rs) (hc : c < 4294967296) (htc : tc < 4294967296) :
    Calls Tryz.prog 74 #[.agg #[SV s0, SV s1, SV s2, rv, SV s4, SV s5], .agg #[.string src, fv, .int .i64 lv, .int .u32 c, .int .i64 fr, .int .i64 til], Lab tl tc] w fun e w' =>
      ∃ v', FldsAt w' v' (visL rs fl (lv, c) (tl, tc)) ∧ (∀ q, v'.ownBlock = some q → w.heap.size ≤ q) ∧ Below w.heap.size w w' ∧ e = .returned (.tuple #[cutR (cutOk rs fl (lv, c) (tl, tc)) src v' lv c fr til, .bool (cutOk rs fl (lv, c) (tl, tc))]) := by
  have k1 := fun W (hb : Below w.heap.size w W) => rvis_any s0 s1 s2 s4 s5 rs rv fl fv lv c tl tc W (hv.later hb) hl hfit hc htc (hf.later hb) hfl
  have k2 := fun W => rflows_any lv c tl tc W hc htc
  obtain ⟨ra, rc, rfl, _, _⟩ := RdAt.shape hv
  obtain ⟨fa, fc, rfl, _, _⟩ := RdAt.shape hf
  obtain ⟨a0, n0, c0⟩ := s0
  obtain ⟨a1, n1, c1⟩ := s1
  obtain ⟨a2, n2, c2⟩ := s2
  obtain ⟨a4, n4, c4⟩ := s4
  obtain ⟨a5, n5, c5⟩ := s5
  have hX := cutBox w (.slice a0 n0 c0) (.slice a1 n1 c1) (.slice a2 n2 c2) (.slice ra rs.length rc) (.slice a4 n4 c4) (.slice a5 n5 c5) (.string src) (.slice fa fl.length fc) (.int .i64 lv) (.int .u32 c) (.int .i64 fr) (.int .i64 til) (.int .i64 tl) (.int .u32 tc) 76 50 26 50
  have k1 := k1 _ hX.below
  have HX := Lib.hid hX
  clear hX hv hf hfit hc htc
  go_enter Tryz.func74, Tryz.ntmps74
  go_wp2_with fail
  refine k1.mono ?_
  rintro e w1 ⟨v1, rfl, hF, hO, hb1⟩
  have HX1 := Lib.hid (HX.out.later hb1)
  clear k1 HX hb1
  obtain ⟨va, vc, rfl, _, _⟩ := RdAt.shape hF
  obtain ⟨V, hV⟩ : ∃ V, visL rs fl (lv, c) (tl, tc) = V := ⟨_, rfl⟩
  have HC : Hid (cutOk rs fl (lv, c) (tl, tc) = (decide (0 < V.length) && flowsL lv c tl tc)) := by show _ = _; unfold cutOk; rw [hV]
  rw [hV] at hF hO ⊢
  have HF := Lib.hid hF
  have HV := Lib.hid hV
  have hO' : ∀ q, (Value.slice va V.length vc).ownBlock = some q → w.heap.size + 1 + 1 + 1 + 1 ≤ q := fun q hq => by
    have := hO q hq
    simpa using this
  have HO := Lib.hid hO'
  clear hF hV hO hO'
  have HX1' := Lib.hid (Nat.lt_of_le_of_lt (Nat.le_refl _) HX1.out.lt)
  obtain ⟨⟨p0, p1, p2, p3, p4, p5⟩, ⟨x0, x1, x2, x3, x4, x5⟩, l0, l1, ⟨r0, r1, r2, r3, r4, r5⟩, ta, tr, _, _⟩ := HX1.out
  obtain ⟨n, hn⟩ : ∃ n, V.length = n := ⟨_, rfl⟩
  rw [hn] at HF HO HC ⊢
  clear hn
  clear ta tr p0 p1 p2 p3 p4 p5 r0 r1 r2 r3 r4 r5
  obtain ⟨q, hq⟩ : ∃ q, flowsL lv c tl tc = q := ⟨_, rfl⟩
  rw [hq] at HC
  simp only [hq] at k2
  clear hq
  go_wp2_with fail
  refine (k2 _).mono ?_
  rintro e w2 ⟨rfl, hb2⟩
  have HX2 := Lib.hid (HX1.out.later hb2)
  have HF2 := Lib.hid (HF.out.later hb2)
  clear x0 x1 x2 x3 x4 x5 l0 l1 hb2 HF HX1 HX1' k2
  obtain ⟨_, ⟨x0, x1, x2, x3, x4, x5⟩, _, _, ⟨r0, r1, r2, r3, r4, r5⟩, ta, tr, _, _⟩ := HX2.out
  have f0 := there_free tr 0 (by decide)
  have f1 := there_free tr 1 (by decide)
  have f2 := there_free tr 2 (by decide)
  have f3 := there_free tr 3 (by decide)
  have f4 := there_free tr 4 (by decide)
  have f5 := there_free tr 5 (by decide)
  have g1 := there_free ta 1 (by decide)
  clear ta tr
  cases q
  · rw [Bool.and_false] at HC
    go_wp2
    refine bodyPost_ret (results_agg2 rfl _ _ (w.heap.size + 1 + 1 + 1) [.string ⟨#[]⟩, .slice none 0 0, .int .i64 0, .int .u32 0, .int .i64 0, .int .i64 0] (.struct _) rfl (World.rangeAt_setCells_same w2 (w.heap.size + 1 + 1 + 1) 0 [.string ⟨#[]⟩, .slice none 0 0, .int .i64 0, .int .u32 0, .int .i64 0, .int .i64 0] HX2.out.tr) Tryz.underlying50 rfl (by kernel_rfl)) rfl ?_
    have hbb := below_puts (g := w.heap.size + 1 + 1 + 1) (o := 0) HX2.out.below (by omega) [.string ⟨#[]⟩, .slice none 0 0, .int .i64 0, .int .u32 0, .int .i64 0, .int .i64 0]
    have hF3 := rd_puts (g := w.heap.size + 1 + 1 + 1) (o := 0) HF2.out (fun q hq => by have := HO.out q hq; omega) [.string ⟨#[]⟩, .slice none 0 0, .int .i64 0, .int .u32 0, .int .i64 0, .int .i64 0]
    refine ⟨_, by first | exact hF3 | (rw [HV.out]; exact hF3), fun q hq => by have := HO.out q hq; omega, hbb, ?_⟩
    first
      | rfl
      | (rw [HC.out]; rfl)
      | (rw [HC.out, hn]; rfl)
  · rcases Nat.eq_zero_or_pos n with h0 | h0
    · subst h0
      go_wp2
      refine bodyPost_ret (results_agg2 rfl _ _ (w.heap.size + 1 + 1 + 1) [.string ⟨#[]⟩, .slice none 0 0, .int .i64 0, .int .u32 0, .int .i64 0, .int .i64 0] (.struct _) rfl (World.rangeAt_setCells_same w2 (w.heap.size + 1 + 1 + 1) 0 [.string ⟨#[]⟩, .slice none 0 0, .int .i64 0, .int .u32 0, .int .i64 0, .int .i64 0] HX2.out.tr) Tryz.underlying50 rfl (by kernel_rfl)) rfl ?_
      have hbb := below_puts (g := w.heap.size + 1 + 1 + 1) (o := 0) HX2.out.below (by omega) [.string ⟨#[]⟩, .slice none 0 0, .int .i64 0, .int .u32 0, .int .i64 0, .int .i64 0]
      have hF3 := rd_puts (g := w.heap.size + 1 + 1 + 1) (o := 0) HF2.out (fun q hq => by have := HO.out q hq; omega) [.string ⟨#[]⟩, .slice none 0 0, .int .i64 0, .int .u32 0, .int .i64 0, .int .i64 0]
      refine ⟨_, by first | exact hF3 | (rw [HV.out]; exact hF3), fun q hq => by have := HO.out q hq; omega, hbb, ?_⟩
      first
        | rfl
        | (rw [HC.out]; rfl)
        | (rw [HC.out, hn]; rfl)
    · rw [decide_eq_true h0, Bool.true_and] at HC
      have hz : ((n : Int) == 0) = false := by rw [beq_eq_false_iff_ne]; omega
      go_wp2
      have hT := World.there_setCells HX2.out.tr (w.heap.size + 1) 1 [.slice va n vc]
      refine bodyPost_ret (results_agg2 rfl _ _ (w.heap.size + 1 + 1 + 1) [.string src, .slice va n vc, .int .i64 lv, .int .u32 c, .int .i64 fr, .int .i64 til] (.struct _) rfl (World.rangeAt_setCells_same _ (w.heap.size + 1 + 1 + 1) 0 [.string src, .slice va n vc, .int .i64 lv, .int .u32 c, .int .i64 fr, .int .i64 til] hT) Tryz.underlying50 rfl (by kernel_rfl)) rfl ?_
      have hba := below_puts (g := w.heap.size + 1) (o := 1) HX2.out.below (by omega) [.slice va n vc]
      have hbb := below_puts (g := w.heap.size + 1 + 1 + 1) (o := 0) hba (by omega) [.string src, .slice va n vc, .int .i64 lv, .int .u32 c, .int .i64 fr, .int .i64 til]
      have hF3 := rd_puts (g := w.heap.size + 1) (o := 1) HF2.out (fun q hq => by have := HO.out q hq; omega) [.slice va n vc]
      have hF4 := rd_puts (g := w.heap.size + 1 + 1 + 1) (o := 0) hF3 (fun q hq => by have := HO.out q hq; omega) [.string src, .slice va n vc, .int .i64 lv, .int .u32 c, .int .i64 fr, .int .i64 til]
      refine ⟨_, by first | exact hF4 | (rw [HV.out]; exact hF4), fun q hq => by have := HO.out q hq; omega, hbb, ?_⟩
      first
        | rfl
        | (rw [HC.out]; rfl)
end Go.Proofs.YtcfococinllcmaaGreat

/- lychgateref10: Quiet; lychgateref06.SameAll of the same. -/
namespace Go.Proofs.YtcfococinllcmaaGreat
open Go.RowKit
theorem box_three (w : World) (xs ys zs : Array Value) (t u s : TypeId) : ∃ W, ((w.alloc (.cells xs t)).alloc (.cells ys u)).alloc (.cells zs s) = W ∧
    (∀ (i : Nat) x, xs[i]? = some x → W.cell? ⟨w.heap.size, i, none⟩ = some x) ∧ (∀ (i : Nat) x, ys[i]? = some x → W.cell? ⟨w.heap.size + 1, i, none⟩ = some x) ∧ (∀ (i : Nat) x, zs[i]? = some x → W.cell? ⟨w.heap.size + 1 + 1, i, none⟩ = some x) ∧ W.heap.size = w.heap.size + 1 + 1 + 1 ∧ Below w.heap.size w W := by
  refine ⟨_, rfl, ?_⟩
  have hr := Below.refl (((w.alloc (.cells xs t)).alloc (.cells ys u)).alloc (.cells zs s)).heap.size (((w.alloc (.cells xs t)).alloc (.cells ys u)).alloc (.cells zs s))
  obtain ⟨h1, _, h3⟩ := box_cells hr
  obtain ⟨h4, h5, _, h7⟩ := box_two h3
  rw [World.size_alloc, World.size_alloc] at h1
  exact ⟨h4, h5, h1, by rw [World.size_alloc, World.size_alloc, World.size_alloc], h7⟩
theorem filt_step {R : List Sil} {p : Sil → Bool} {k : Nat} (h : k < R.length) : ((R.take (k + 1)).filter p).map (·.id) = ((R.take k).filter p).map (·.id) ++ (if p R[k] then [R[k].id] else []) := by
  rw [take_filter h, List.map_append]
  cases p R[k] <;> rfl
theorem quietS_is (fl : List Fld) (t : Int × Nat) (now : Int) (s : Sil) : quietS fl t now s = (flowsL s.lv s.c t.1 t.2 && decide (s.fr ≤ now) && decide (now < s.til) && allM fl s.ms) := rfl
theorem rd_int (W : World) (x : Int) (t : TypeId) : RdAt (W.alloc (.cells #[.int .i64 x] t)) (.slice (some ⟨W.heap.size, 0, none⟩) 1 1) 1 1 [.int .i64 x] :=
  RdAt.mk rfl (Nat.le_refl _) (by rw [World.size_alloc]; omega) (fun j y hj => by
    have hc : (W.alloc (.cells #[.int .i64 x] t)).cell? ⟨W.heap.size, j, none⟩ = _ := World.cell?_alloc_at _ _ _ _ rfl
    rw [Nat.zero_add, hc, ← Array.getElem?_toList]
    exact hj)
set_option maxHeartbeats 6400000 in
set_option maxRecDepth 100000 in
theorem r10quiet_any (s0 s1 s2 s4 s5 : Option Addr × Nat × Nat) (rs : List Nmd) (rv : Value) (src : ByteArray) (fl : List Fld) (fv : Value) (lv : Int) (c : Nat) (fr til : Int) (tl : Int) (tc : Nat) (now : Int) (q base : Nat) (R : List Sil) (N : Int) (v : Value) (w : World)
    (h : RlAt w q base R N v) (hv : NmdsAt w rv rs) (hl : rs.length ≤ maxLen) (hf : FldsAt w fv fl) (hfl : fl.length ≤ 1000000) (hfit : NmdFit rs) (hc : c < 4294967296) (htc : tc < 4294967296) (hRc : ∀ s ∈ R, s.c < 4294967296) (hval : ∀ n, (valueF (visL rs fl (lv, c) (tl, tc)) n).size ≤ 900) :
    Calls Tryz.prog 40 #[.pointer (some ⟨q, 0, none⟩), .agg #[SV s0, SV s1, SV s2, rv, SV s4, SV s5], .agg #[.string src, fv, .int .i64 lv, .int .u32 c, .int .i64 fr, .int .i64 til], Lab tl tc, .int .i64 now] w fun e w' =>
      ∃ v', e = .returned v' ∧ Hid (IntsAt w' v' (quietL rs R fl (lv, c) (tl, tc) now)) ∧ Below w.heap.size w w' := by
  have kc := fun W (hb : Below w.heap.size w W) => rcutA_any s0 s1 s2 s4 s5 rs rv src fl fv lv c fr til tl tc W (hv.later hb) hl (hf.later hb) hfl hfit hc htc
  have KFL := Lib.hid (fun W (s : Sil) (hs : s ∈ R) => rflows_any s.lv s.c tl tc W (hRc s hs) htc)
  have hVL : (visL rs fl (lv, c) (tl, tc)).length ≤ 1000000 := Nat.le_trans (visL_len rs fl (lv, c) (tl, tc)) hfl
  have KALL := Lib.hid (fun W vv (s : Sil) (hs : s ∈ R) (hF : FldsAt W vv (visL rs fl (lv, c) (tl, tc))) (hm : MtsAt W (SV s.mv) s.ms) => all6_any (visL rs fl (lv, c) (tl, tc)) s.ms vv (SV s.mv) W hF hVL (fun m _ => hval m.nm) hm (Nat.le_trans (h.ms s hs).2.2.1 (by decide)) (h.ms s hs).2.1)
  have HQL : Hid (quietL rs R fl (lv, c) (tl, tc) now = if cutOk rs fl (lv, c) (tl, tc) = true then (R.filter fun s => quietS (visL rs fl (lv, c) (tl, tc)) (tl, tc) now s).map (·.id) else []) := Lib.hid rfl
  have HFS := Lib.hid (fun (k : Nat) (hk : k < R.length) => filt_step (p := fun s => quietS (visL rs fl (lv, c) (tl, tc)) (tl, tc) now s) hk)
  have hlt := h.lt
  have hlen := h.few
  obtain ⟨va, vc, rfl, hvc, hr⟩ := h.row
  have HR := Lib.hid hr
  have H := Lib.hid h
  obtain ⟨ra, rc, rfl, _, _⟩ := RdAt.shape hv
  obtain ⟨fa, fc, rfl, _, _⟩ := RdAt.shape hf
  obtain ⟨a0, n0, c0⟩ := s0
  obtain ⟨a1, n1, c1⟩ := s1
  obtain ⟨a2, n2, c2⟩ := s2
  obtain ⟨a4, n4, c4⟩ := s4
  obtain ⟨a5, n5, c5⟩ := s5
  obtain ⟨i0, hi, hz0, hz1, hz2⟩ := info_parts info_int
  obtain ⟨W1, h1, p, x, l, hs1, hb1⟩ := box_three w #[.slice a0 n0 c0, .slice a1 n1 c1, .slice a2 n2 c2, .slice ra rs.length rc, .slice a4 n4 c4, .slice a5 n5 c5] #[.string src, .slice fa fl.length fc, .int .i64 lv, .int .u32 c, .int .i64 fr, .int .i64 til] #[.int .i64 tl, .int .u32 tc] 76 50 26
  have p0 := p 0 _ rfl
  have p1 := p 1 _ rfl
  have p2 := p 2 _ rfl
  have p3 := p 3 _ rfl
  have p4 := p 4 _ rfl
  have p5 := p 5 _ rfl
  have x0 := x 0 _ rfl
  have x1 := x 1 _ rfl
  have x2 := x 2 _ rfl
  have x3 := x 3 _ rfl
  have x4 := x 4 _ rfl
  have x5 := x 5 _ rfl
  have l0 := l 0 _ rfl
  have l1 := l 1 _ rfl
  have k1 := kc W1 hb1
  have HB1 := Lib.hid hb1
  clear p x l hv hf kc hr h hfit hval hRc hb1
  go_enter Tryz.func40, Tryz.ntmps40
  go_upto_region 1 with fail
  try rw [h1]
  clear h1
  go_wp2_with fail
  refine k1.mono ?_
  rintro e w2 ⟨v1, hF, -, hb2, rfl⟩
  have HF2 := Lib.hid hF
  have HB2 := Lib.hid (HB1.out.trans (hb2.mono HB1.out.size))
  have hlt2 : w.heap.size + 1 + 1 < w2.heap.size := by have := hb2.size; omega
  have q0 := keep_cell l0 hb2 (by omega)
  have q1 := keep_cell l1 hb2 (by omega)
  clear k1 hF hb2 HB1 p0 p1 p2 p3 p4 p5 x0 x1 x2 x3 x4 x5 l0 l1
  obtain ⟨va1, vc1, rfl, _, _⟩ := RdAt.shape HF2.out
  generalize visL rs fl (lv, c) (tl, tc) = V at *
  obtain ⟨OK, hok⟩ : ∃ OK, cutOk rs fl (lv, c) (tl, tc) = OK := ⟨_, rfl⟩
  rw [hok] at HQL ⊢
  obtain ⟨k0, ka, kn, kc', k2, k3, k4, k5, hk, hk1⟩ : ∃ (k0 : ByteArray) (ka : Option Addr) (kn kc' : Nat) (k2 : Int) (k3 : Nat) (k4 k5 : Int), cutR OK src (.slice va1 V.length vc1) lv c fr til = .agg #[.string k0, .slice ka kn kc', .int .i64 k2, .int .u32 k3, .int .i64 k4, .int .i64 k5] ∧ (OK = true → ka = va1 ∧ kn = V.length ∧ kc' = vc1) := by
    cases OK
    · exact ⟨⟨#[]⟩, none, 0, 0, 0, 0, 0, 0, rfl, fun h => by cases h⟩
    · exact ⟨src, _, _, _, lv, c, fr, til, rfl, fun _ => ⟨rfl, rfl, rfl⟩⟩
  rw [hk]
  have HK1 := Lib.hid hk1
  obtain ⟨W3, h3⟩ : ∃ z, w2.alloc (.cells #[.string k0, .slice ka kn kc', .int .i64 k2, .int .u32 k3, .int .i64 k4, .int .i64 k5] 50) = z := ⟨_, rfl⟩
  have hb3 : Below w2.heap.size w2 W3 := by rw [← h3]; exact alloc_below _ _
  have hs3 : W3.heap.size = w2.heap.size + 1 := by rw [← h3, World.size_alloc]
  have y := alc6 w2 (.string k0) (.slice ka kn kc') (.int .i64 k2) (.int .u32 k3) (.int .i64 k4) (.int .i64 k5) 50
  rw [h3] at y
  obtain ⟨_, y1, _⟩ := y
  have HF3 := Lib.hid (HF2.out.later hb3)
  have HB3 := Lib.hid (HB2.out.trans (hb3.mono HB2.out.size))
  have z0 := keep_cell q0 hb3 (by omega)
  have z1 := keep_cell q1 hb3 (by omega)
  have b0 := keep_cell H.out.h0 HB3.out hlt
  clear hk hk1 hok
  go_upto_region 4 with fail
  try rw [h3]
  clear h3
  cases OK with
  | false =>
    rw [if_neg (by decide)] at HQL
    clear hb3 HFS KALL KFL HF2 HF3 q0 q1 z0 z1 y1
    go_loopw [13, 14] (fun v13 vi wr => v13 = .slice none 0 0 ∧ vi = .int .i64 0 ∧ wr = W3) (fun _ _ _ => 0)
    case atStart => exact ⟨rfl, rfl, rfl⟩
    case round =>
      obtain ⟨rfl, rfl, hww⟩ := hrel
      obtain rfl := hww.symm
      rcases Nat.eq_zero_or_pos R.length with h0 | h0
      · have hi1 : ¬ (0 : Int) < (R.length : Int) := by omega
        go_wp2
        go_ret
        exact ⟨_, rfl, Lib.hid (by rw [HQL.out]; exact IntsAt.nil _), HB3.out⟩
      · have hi1 : (0 : Int) < (R.length : Int) := by omega
        go_wp2
        go_ret
        exact ⟨_, rfl, Lib.hid (by rw [HQL.out]; exact IntsAt.nil _), HB3.out⟩
  | true =>
    rw [if_pos rfl] at HQL
    obtain ⟨rfl, rfl, rfl⟩ := HK1.out rfl
    clear b0
    have hlt3 : w.heap.size + 1 + 1 < W3.heap.size := by omega
    have hy3 : w2.heap.size < W3.heap.size := by omega
    clear hb3 q0 q1 HF2 HB2
    generalize w2.heap.size = cb at *
    go_loopw [13, 14] (fun v13 vi wr => ∃ (k : Nat) (L : List Int), k ≤ R.length ∧ vi = .int .i64 (k : Nat) ∧ Hid (L = ((R.take k).filter (fun s => quietS V (tl, tc) now s)).map (·.id)) ∧ L.length ≤ k ∧ Hid (wr.ownsRow W3.heap.size 3 1 v13 L.length (L.map I)) ∧ Hid (Below W3.heap.size W3 wr)) (fun _ vi _ => R.length + 1 - (intOf vi).toNat)
    case atStart => exact ⟨0, [], Nat.zero_le _, rfl, Lib.hid rfl, Nat.zero_le _, Lib.hid (World.ownsRow_nil _ _ _ _), Lib.hid (Below.refl _ _)⟩
    case round =>
      obtain ⟨k, L, hk, rfl, HL, hLk, HO, HW⟩ := hrel
      obtain ⟨oa, oc, rfl, _, _⟩ := RdAt.shape (RdAt.own HO.out)
      have HBW := Lib.hid (HB3.out.trans (HW.out.mono HB3.out.size))
      have b0 := keep_cell H.out.h0 HBW.out hlt
      have z0' := keep_cell z0 HW.out hlt3
      have z1' := keep_cell z1 HW.out hlt3
      have y1' := keep_cell y1 HW.out hy3
      by_cases hkl : k < R.length
      · obtain ⟨g, o, rfl, hg, _, hcell⟩ := HR.out (by omega)
        obtain ⟨a0, a1, a2, a3, a4, a5⟩ := hcell k hkl
        have hst := HFS.out k hkl
        obtain ⟨qb, hqb⟩ : ∃ qb, quietS V (tl, tc) now R[k] = qb := ⟨_, rfl⟩
        have hqs := hqb.symm.trans (quietS_is V (tl, tc) now R[k])
        simp only [hqb] at hst
        clear hqb
        have kf := fun W => KFL.out W R[k] (List.getElem_mem hkl)
        have ka := fun W (hW : Below W3.heap.size W3 W) => KALL.out W _ R[k] (List.getElem_mem hkl) (HF3.out.later hW) ((H.out.ms _ (List.getElem_mem hkl)).1.later (HB3.out.trans (hW.mono HB3.out.size)))
        have hi0 : (0 : Int) ≤ (k : Int) := by omega
        have hi1 : (k : Int) < (R.length : Int) := by omega
        dsimp only [SV] at ka
        generalize R[k] = s at *
        obtain ⟨id, ⟨ma, mn, mc⟩, ms, sfr, stil, slv, sc⟩ := s
        dsimp only at *
        have b1 := keep_cell a0 HBW.out hg
        have b2 := keep_cell a1 HBW.out hg
        have b3 := keep_cell a2 HBW.out hg
        have b4 := keep_cell a3 HBW.out hg
        have b5 := keep_cell a4 HBW.out hg
        have b6 := keep_cell a5 HBW.out hg
        have HST := Lib.hid hst
        have HQ1 := Lib.hid hqs
        have KF := Lib.hid kf
        have KA := Lib.hid ka
        clear a0 a1 a2 a3 a4 a5 hcell hst hqs kf ka
        obtain ⟨W5, h5⟩ : ∃ z, wr.alloc (.cells #[.int .i64 id, .slice ma mn mc, .int .i64 sfr, .int .i64 stil, .int .i64 slv, .int .u32 sc] 58) = z := ⟨_, rfl⟩
        have hb5 : Below wr.heap.size wr W5 := by rw [← h5]; exact alloc_below _ _
        have hs5 : W5.heap.size = wr.heap.size + 1 := by rw [← h5, World.size_alloc]
        have u := alc6 wr (.int .i64 id) (.slice ma mn mc) (.int .i64 sfr) (.int .i64 stil) (.int .i64 slv) (.int .u32 sc) 58
        rw [h5] at u
        have HU5 := Lib.hid u
        obtain ⟨u0, u1, u2, u3, u4, u5⟩ := u
        have hwz := HW.out.size
        have e0 := keep_cell z0' hb5 (by omega)
        have e1 := keep_cell z1' hb5 (by omega)
        have HW5 := Lib.hid (HW.out.trans (hb5.mono HW.out.size))
        have HO5 := Lib.hid (own_later HO.out hb5)
        go_upto_region 7 with fail
        try rw [h5]
        clear h5 b1 b2 b3 b4 b5 b6
        have kf := KF.out W5
        go_wp2_with fail
        refine kf.mono ?_
        rintro e w6 ⟨rfl, hb6⟩
        have HW6 := Lib.hid (HW5.out.trans (hb6.mono HW5.out.size))
        have HO6 := Lib.hid (own_later HO5.out hb6)
        have HU6 := Lib.hid (HU5.out.later hb6 (by omega))
        have y6 := keep_cell y1 HW6.out hy3
        have hlt6 : wr.heap.size < w6.heap.size := by have := hb6.size; omega
        clear kf u0 u1 u2 u3 u4 u5 hb6 hb5 hs5 HU5 HO5 HW5 e0 e1
        obtain ⟨u0, u1, u2, u3, u4, u5⟩ := HU6.out
        have hnext : Hid (qb = false → Hid (L = ((R.take (k + 1)).filter (fun s => quietS V (tl, tc) now s)).map (·.id))) := Lib.hid (fun h => Lib.hid (by rw [HST.out, HL.out, h]; simp))
        cases hfw : flowsL slv sc tl tc with
        | false =>
          rw [hfw] at HQ1
          go_wp2
          go_roundw
          case rel => exact ⟨k + 1, L, by omega, by go_num, hnext.out (by rw [HQ1.out]; rfl), by omega, HO6, HW6⟩
          case measure => (simp [intOf]; try omega)
        | true =>
          rw [hfw] at HQ1
          by_cases hfrn : sfr ≤ now
          case neg =>
            rw [decide_eq_false hfrn] at HQ1
            go_wp2
            go_roundw
            case rel => exact ⟨k + 1, L, by omega, by go_num, hnext.out (by rw [HQ1.out]; rfl), by omega, HO6, HW6⟩
            case measure => (simp [intOf]; try omega)
          rw [decide_eq_true hfrn] at HQ1
          by_cases htn : now < stil
          case neg =>
            rw [decide_eq_false htn] at HQ1
            go_wp2
            go_roundw
            case rel => exact ⟨k + 1, L, by omega, by go_num, hnext.out (by rw [HQ1.out]; rfl), by omega, HO6, HW6⟩
            case measure => (simp [intOf]; try omega)
          rw [decide_eq_true htn] at HQ1
          have ka := KA.out w6 HW6.out
          go_wp2_with fail
          refine ka.mono ?_
          rintro e w7 ⟨rfl, hb7⟩
          have HW7 := Lib.hid (HW6.out.trans (hb7.mono HW6.out.size))
          have HO7 := Lib.hid (own_later HO6.out hb7)
          have t0 := keep_cell u0 hb7 hlt6
          clear ka u0 u1 u2 u3 u4 u5 hb7 y6 HU6 HO6 HW6
          cases hal : allM V ms with
          | false =>
            rw [hal] at HQ1
            go_wp2
            go_roundw
            case rel => exact ⟨k + 1, L, by omega, by go_num, hnext.out (by rw [HQ1.out]; rfl), by omega, HO7, HW7⟩
            case measure => (simp [intOf]; try omega)
          | true =>
            rw [hal] at HQ1
            have hown9 := HO7.out.alloc (.cells #[.int .i64 id] 3)
            have hrd := rd_int w7 id 3
            go_wp2_with (at_builtin; (refine wpList_append_rd rfl (.tmp 65) (.tmp 68) 32 rfl W3.heap.size 3 i0 (.int .i64 0) 1 8 Tryz.underlying32 hi hz0 hz1 hz2 rfl (by decide) _ _ _ rfl hown9 _ 1 [.int .i64 id] rfl hrd (by simp [Value.oneCell']) (by unfold maxLen; omega) (by omega) (by have := HW7.out.size; simp; omega) ?_); intro v' w8 hown' hg8)
            have HW8 := Lib.hid ((HW7.out.alloc HW7.out.size _).grown hg8 (by have := HW7.out.size; simp; omega) (fun j e => (hown9.lt j e).1))
            have HO8 := Lib.hid hown'
            clear hown9 hown' hg8 hrd t0
            go_wp2
            go_roundw
            case rel => exact ⟨k + 1, L ++ [id], by omega, by go_num, Lib.hid (by rw [HST.out, HL.out, HQ1.out]; simp), by simp; omega, Lib.hid (by rw [List.length_append, List.map_append]; exact HO8.out), HW8⟩
            case measure => (simp [intOf]; try omega)
      · obtain rfl : k = R.length := by omega
        have hi1 : ¬ (R.length : Int) < (R.length : Int) := by omega
        have HL2 : Hid (L = (R.filter (fun s => quietS V (tl, tc) now s)).map (·.id)) := Lib.hid (by have := HL.out; rwa [List.take_length] at this)
        go_wp2
        go_ret
        exact ⟨_, rfl, Lib.hid (by rw [HQL.out, ← HL2.out]; exact IntsAt.own HO.out), HBW.out⟩
set_option maxHeartbeats 1600000 in
set_option maxRecDepth 100000 in
theorem rsame_mts (a : List Mt) (u v : Value) (w : World) (hu : MtsAt w u a) (hv : MtsAt w v a) (hl : a.length ≤ 1000000) :
    Calls Tryz.prog 39 #[u, v] w fun e w' => e = .returned (.bool true) ∧ Below w.heap.size w w' := by
  obtain ⟨ua, uc, rfl, _, hur⟩ := RdAt.shape hu
  obtain ⟨va, vc, rfl, _, hvr⟩ := RdAt.shape hv
  have HU := Lib.hid hur
  have HV := Lib.hid hvr
  clear hur hvr hu hv
  go_enter Tryz.func39, Tryz.ntmps39
  go_wp2
  go_loopw [5] (fun vi wr => ∃ k : Nat, k ≤ a.length ∧ vi = .int .i64 (k : Nat) ∧ Hid (Below w.heap.size w wr)) (fun vi _ => a.length + 1 - (intOf vi).toNat)
  case atStart => exact ⟨0, Nat.zero_le _, rfl, Lib.hid (Below.refl _ _)⟩
  case round =>
    obtain ⟨k, hk, rfl, HB⟩ := hrel
    by_cases hkl : k < a.length
    · obtain ⟨b, o, rfl, hb, hcell⟩ := HU.out (by omega)
      obtain ⟨b', o', rfl, hb', hcell'⟩ := HV.out (by omega)
      obtain ⟨h0, h1, h2⟩ := mtCells_at a k hkl
      have a0 := keep_cell (hcell _ _ h0) HB.out hb
      have a1 : wr.cell? ⟨b, o + k * 3 + 1, none⟩ = _ := keep_cell (by have := hcell _ _ h1; rwa [← Nat.add_assoc] at this) HB.out hb
      have a2 : wr.cell? ⟨b, o + k * 3 + 2, none⟩ = _ := keep_cell (by have := hcell _ _ h2; rwa [← Nat.add_assoc] at this) HB.out hb
      have c0 := keep_cell (hcell' _ _ h0) HB.out hb'
      have c1 : wr.cell? ⟨b', o' + k * 3 + 1, none⟩ = _ := keep_cell (by have := hcell' _ _ h1; rwa [← Nat.add_assoc] at this) HB.out hb'
      have c2 : wr.cell? ⟨b', o' + k * 3 + 2, none⟩ = _ := keep_cell (by have := hcell' _ _ h2; rwa [← Nat.add_assoc] at this) HB.out hb'
      have hi0 : (0 : Int) ≤ (k : Int) := by omega
      have hi1 : (k : Int) < (a.length : Int) := by omega
      clear hcell hcell' h0 h1 h2
      generalize a[k] = m at *
      obtain ⟨nm, op, val⟩ := m
      dsimp only at *
      go_upto_region 6 with fail
      go_quiet (fail)
      have HB7 := Lib.hid (bl_drewN HB.out nq)
      generalize wr.drewN nq = wq at *
      go_wp2
      go_roundw
      case rel => exact ⟨k + 1, by omega, by go_num, HB7⟩
      case measure => (simp [intOf]; try omega)
    · obtain rfl : k = a.length := by omega
      have hi1 : ¬ (a.length : Int) < (a.length : Int) := by omega
      go_wp2
      go_ret
      exact ⟨rfl, HB.out⟩
end Go.Proofs.YtcfococinllcmaaGreat

