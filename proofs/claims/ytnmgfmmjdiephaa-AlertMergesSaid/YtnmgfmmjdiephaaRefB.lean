/- Several parts in one: lychgateref08.Cut: a contract. lychgatelaw09.as: a contract. lychgateref09.Cut: a contract. lychgateref06.Same: a contract. lychgateref09.Same: a contract. -/
import Derived.Test.YtnmgfmmjdiephaaRefA
import Derived.Test.YtnmgfmmjdiephaaAlBack
import Derived.Test.YtnmgfmmjdiephaaAlCut
import Derived.Deep.LoopGhost
namespace Go.Proofs.Ytnmgfmmjdiephaa
open Go.RowKit

theorem min14 (n : Nat) : ∃ k : Nat, k = min n 14 ∧ k ≤ n ∧ k ≤ 14 ∧ min (n : Int) 14 = (k : Int) := ⟨min n 14, rfl, by omega, by omega, by omega⟩
set_option maxHeartbeats 1600000 in
set_option maxRecDepth 100000 in
theorem rcut_any (a0 a1 a2 a3 a4 a5 : Option Addr) (n0 n1 n2 n3 n4 n5 c0 c1 c2 c3 c4 c5 : Nat) (w : World) (h0 : n0 ≤ c0 ∧ c0 ≤ maxLen) (h1 : n1 ≤ c1 ∧ c1 ≤ maxLen) (h2 : n2 ≤ c2 ∧ c2 ≤ maxLen) (h3 : n3 ≤ c3 ∧ c3 ≤ maxLen) (h4 : n4 ≤ c4 ∧ c4 ≤ maxLen) (h5 : n5 ≤ c5 ∧ c5 ≤ maxLen) :
    Calls Try.prog 12 #[.agg #[.slice a0 n0 c0, .slice a1 n1 c1, .slice a2 n2 c2, .slice a3 n3 c3, .slice a4 n4 c4, .slice a5 n5 c5], .int .i64 14] w fun e w' =>
      e = .returned (.agg #[.slice a0 (min n0 14) c0, .slice a1 (min n1 14) c1, .slice a2 (min n2 14) c2, .slice a3 (min n3 14) c3, .slice a4 (min n4 14) c4, .slice a5 (min n5 14) c5]) ∧ Below w.heap.size w w' := by
  obtain ⟨k0, e0, l0, m0, q0⟩ := min14 n0
  obtain ⟨k1, e1, l1, m1, q1⟩ := min14 n1
  obtain ⟨k2, e2, l2, m2, q2⟩ := min14 n2
  obtain ⟨k3, e3, l3, m3, q3⟩ := min14 n3
  obtain ⟨k4, e4, l4, m4, q4⟩ := min14 n4
  obtain ⟨k5, e5, l5, m5, q5⟩ := min14 n5
  rw [← e0, ← e1, ← e2, ← e3, ← e4, ← e5]
  clear e0 e1 e2 e3 e4 e5
  have z0 : k0 ≤ c0 := by omega
  have z1 : k1 ≤ c1 := by omega
  have z2 : k2 ≤ c2 := by omega
  have z3 : k3 ≤ c3 := by omega
  have z4 : k4 ≤ c4 := by omega
  have z5 : k5 ≤ c5 := by omega
  unfold maxLen at h0 h1 h2 h3 h4 h5
  obtain ⟨W0, hW0⟩ : ∃ z, (w.alloc (.cells #[.slice a0 n0 c0, .slice a1 n1 c1, .slice a2 n2 c2, .slice a3 n3 c3, .slice a4 n4 c4, .slice a5 n5 c5] 26)).alloc (.cells #[.slice none 0 0, .slice none 0 0, .slice none 0 0, .slice none 0 0, .slice none 0 0, .slice none 0 0] 26) = z := ⟨_, rfl⟩
  have hb0 : Below w.heap.size w W0 := by rw [← hW0]; exact (alloc_below _ _).trans ((alloc_below _ _).mono (by simp))
  have hd := (Below.refl W0.heap.size W0)
  rw [← hW0] at hd
  obtain ⟨g1, g2, g3⟩ := box_cells hd
  have hT := box_there hd
  have hT1 : W0.there w.heap.size 0 6 := hW0 ▸ box_there g3
  obtain ⟨g4, _, _⟩ := box_cells g3
  rw [World.size_alloc] at g1 hT
  rw [hW0] at g1 g4 hT
  have p0 := g4 0 _ rfl
  have p1 := g4 1 _ rfl
  have p2 := g4 2 _ rfl
  have p3 := g4 3 _ rfl
  have p4 := g4 4 _ rfl
  have p5 := g4 5 _ rfl
  have r0 := g1 0 _ rfl
  have r1 := g1 1 _ rfl
  have r2 := g1 2 _ rfl
  have r3 := g1 3 _ rfl
  have r4 := g1 4 _ rfl
  have r5 := g1 5 _ rfl
  have f0 := there_free hT 0 (by decide)
  have f1 := there_free hT 1 (by decide)
  have f2 := there_free hT 2 (by decide)
  have f3 := there_free hT 3 (by decide)
  have f4 := there_free hT 4 (by decide)
  have f5 := there_free hT 5 (by decide)
  have u0 := there_free hT1 0 (by decide)
  have u1 := there_free hT1 1 (by decide)
  have u2 := there_free hT1 2 (by decide)
  have u3 := there_free hT1 3 (by decide)
  have u4 := there_free hT1 4 (by decide)
  have u5 := there_free hT1 5 (by decide)
  have HB0 := Lib.hid hb0
  have HT := Lib.hid hT
  have HW0 := Lib.hid hW0
  clear hd g1 g2 g3 g4 hT hT1 hb0 hW0
  go_enter Try.func12, Try.ntmps12
  go_upto_region 1 with fail
  rw [HW0.out]
  clear HW0
  go_wp2
  refine bodyPost_ret (results_agg1 rfl _ _ (w.heap.size + 1) [.slice a0 k0 c0, .slice a1 k1 c1, .slice a2 k2 c2, .slice a3 k3 c3, .slice a4 k4 c4, .slice a5 k5 c5] (.struct _) rfl (World.rangeAt_setCells_same _ (w.heap.size + 1) 0 [.slice a0 k0 c0, .slice a1 k1 c1, .slice a2 k2 c2, .slice a3 k3 c3, .slice a4 k4 c4, .slice a5 k5 c5] ?_) Try.underlying26 rfl (by kernel_rfl)) rfl ?_
  · exact World.there_setCells HT.out w.heap.size 0 [.slice a0 k0 c0, .slice a1 k1 c1, .slice a2 k2 c2, .slice a3 k3 c3, .slice a4 k4 c4, .slice a5 k5 c5]
  · exact ⟨rfl, below_puts (g := w.heap.size + 1) (o := 0) (below_puts (g := w.heap.size) (o := 0) HB0.out (Nat.le_refl _) [.slice a0 k0 c0, .slice a1 k1 c1, .slice a2 k2 c2, .slice a3 k3 c3, .slice a4 k4 c4, .slice a5 k5 c5]) (by omega) [.slice a0 k0 c0, .slice a1 k1 c1, .slice a2 k2 c2, .slice a3 k3 c3, .slice a4 k4 c4, .slice a5 k5 c5]⟩
end Go.Proofs.Ytnmgfmmjdiephaa
namespace Go.Proofs.Ytnmgfmmjdiephaa
open Go.RowKit

set_option maxHeartbeats 1600000 in
set_option maxRecDepth 100000 in
theorem as_any (src : ByteArray) (fa : Option Addr) (fn fc : Nat) (lv : Int) (c : Nat) (fr til : Int) (w : World) :
    Calls Try.prog 16 #[.agg #[.string src, .slice fa fn fc, .int .i64 lv, .int .u32 c, .int .i64 fr, .int .i64 til]] w fun e w' =>
      e = .returned (.agg #[.string src, .slice fa fn fc, .int .i64 lv, .int .u32 c, .int .i64 fr, .int .i64 til]) ∧ Below w.heap.size w w' := by
  obtain ⟨W0, hW0⟩ : ∃ z, (w.alloc (.cells #[.string src, .slice fa fn fc, .int .i64 lv, .int .u32 c, .int .i64 fr, .int .i64 til] 35)).alloc (.cells #[.string ⟨#[]⟩, .slice none 0 0, .int .i64 0, .int .u32 0, .int .i64 0, .int .i64 0] 32) = z := ⟨_, rfl⟩
  have hb0 : Below w.heap.size w W0 := by rw [← hW0]; exact (alloc_below _ _).trans ((alloc_below _ _).mono (by simp))
  have hd := (Below.refl W0.heap.size W0)
  rw [← hW0] at hd
  obtain ⟨h1, h2, h3⟩ := box_cells hd
  have hT := box_there hd
  obtain ⟨h4, _, _⟩ := box_cells h3
  rw [World.size_alloc] at h1 hT
  rw [hW0] at h1 h4 hT
  have q0 := h4 0 _ rfl
  have q1 := h4 1 _ rfl
  have q2 := h4 2 _ rfl
  have q3 := h4 3 _ rfl
  have q4 := h4 4 _ rfl
  have q5 := h4 5 _ rfl
  have f0 := there_free hT 0 (by decide)
  have f1 := there_free hT 1 (by decide)
  have f2 := there_free hT 2 (by decide)
  have f3 := there_free hT 3 (by decide)
  have f4 := there_free hT 4 (by decide)
  have f5 := there_free hT 5 (by decide)
  have r0 := h1 0 _ rfl
  have r1 := h1 1 _ rfl
  have r2 := h1 2 _ rfl
  have r3 := h1 3 _ rfl
  have r4 := h1 4 _ rfl
  have r5 := h1 5 _ rfl
  have HB0 := Lib.hid hb0
  have HT := Lib.hid hT
  have HW0 := Lib.hid hW0
  clear hd h1 h2 h3 h4 hT hb0 hW0
  go_enter Try.func16, Try.ntmps16
  go_upto_region 1 with fail
  rw [HW0.out]
  clear HW0
  go_wp2
  refine bodyPost_ret (results_agg1 rfl _ _ (w.heap.size + 1) [.string src, .slice fa fn fc, .int .i64 lv, .int .u32 c, .int .i64 fr, .int .i64 til] (.struct _) rfl (World.rangeAt_setCells_same W0 (w.heap.size + 1) 0 [.string src, .slice fa fn fc, .int .i64 lv, .int .u32 c, .int .i64 fr, .int .i64 til] HT.out) Try.underlying32 rfl (by kernel_rfl)) rfl ?_
  exact ⟨rfl, below_puts (g := w.heap.size + 1) (o := 0) HB0.out (by omega) [.string src, .slice fa fn fc, .int .i64 lv, .int .u32 c, .int .i64 fr, .int .i64 til]⟩
end Go.Proofs.Ytnmgfmmjdiephaa
namespace Go.Proofs.Ytnmgfmmjdiephaa
open Go.RowKit

set_option maxHeartbeats 1600000 in
set_option maxRecDepth 100000 in
theorem rcutA_any (s0 s1 s2 s4 s5 : Option Addr × Nat × Nat) (rs : List Nmd) (rv : Value) (src : ByteArray) (fl : List Fld) (fv : Value) (lv : Int) (c : Nat) (fr til : Int) (tl : Int) (tc : Nat) (w : World) (hv : NmdsAt w rv rs) (hl : rs.length ≤ maxLen) (hf : FldsAt w fv fl) (hfl : fl.length ≤ 1000000) (hfit : NmdFit rs) (hc : c < 4294967296) (htc : tc < 4294967296) :
    Calls Try.prog 15 #[.agg #[SV s0, SV s1, SV s2, rv, SV s4, SV s5], .agg #[.string src, fv, .int .i64 lv, .int .u32 c, .int .i64 fr, .int .i64 til], Lab tl tc] w fun e w' =>
      ∃ v', FldsAt w' v' (visL rs fl (lv, c) (tl, tc)) ∧ (∀ q, v'.ownBlock = some q → w.heap.size ≤ q) ∧ Below w.heap.size w w' ∧ e = .returned (.tuple #[cutR (cutOk rs fl (lv, c) (tl, tc)) src v' lv c fr til, .bool (cutOk rs fl (lv, c) (tl, tc))]) := by
  have k1 := fun W (hb : Below w.heap.size w W) => rvis_any s0 s1 s2 s4 s5 rs rv fl fv lv c tl tc W (hv.later hb) hl hfit hc htc (hf.later hb) hfl
  have k2 := fun W => rflows_any lv c tl tc W hc htc
  obtain ⟨ra, rc, rfl, _, _⟩ := RdAt.shape hv
  obtain ⟨fa, fc, rfl, _, _⟩ := RdAt.shape hf
  obtain ⟨a0, n0, c0⟩ := s0
  obtain ⟨a1, n1, c1⟩ := s1
  obtain ⟨a2, n2, c2⟩ := s2
  obtain ⟨a4, n4, c4⟩ := s4
  obtain ⟨a5, n5, c5⟩ := s5
  have hX := cutBox w (.slice a0 n0 c0) (.slice a1 n1 c1) (.slice a2 n2 c2) (.slice ra rs.length rc) (.slice a4 n4 c4) (.slice a5 n5 c5) (.string src) (.slice fa fl.length fc) (.int .i64 lv) (.int .u32 c) (.int .i64 fr) (.int .i64 til) (.int .i64 tl) (.int .u32 tc) 26 32 30 32
  have k1 := k1 _ hX.below
  have HX := Lib.hid hX
  clear hX hv hf hfit hc htc
  go_enter Try.func15, Try.ntmps15
  go_wp2_with fail
  refine k1.mono ?_
  rintro e w1 ⟨v1, rfl, hF, hO, hb1⟩
  have HX1 := Lib.hid (HX.out.later hb1)
  clear k1 HX hb1
  obtain ⟨va, vc, rfl, _, _⟩ := RdAt.shape hF
  obtain ⟨V, hV⟩ : ∃ V, visL rs fl (lv, c) (tl, tc) = V := ⟨_, rfl⟩
  have HC : Hid (cutOk rs fl (lv, c) (tl, tc) = (decide (0 < V.length) && flowsL lv c tl tc)) := by show _ = _; unfold cutOk; rw [hV]
  rw [hV] at hF hO ⊢
  have HF := Lib.hid hF
  have HV := Lib.hid hV
  have hO' : ∀ q, (Value.slice va V.length vc).ownBlock = some q → w.heap.size + 1 + 1 + 1 + 1 ≤ q := fun q hq => by
    have := hO q hq
    simpa using this
  have HO := Lib.hid hO'
  clear hF hV hO hO'
  have HX1' := Lib.hid (Nat.lt_of_le_of_lt (Nat.le_refl _) HX1.out.lt)
  obtain ⟨⟨p0, p1, p2, p3, p4, p5⟩, ⟨x0, x1, x2, x3, x4, x5⟩, l0, l1, ⟨r0, r1, r2, r3, r4, r5⟩, ta, tr, _, _⟩ := HX1.out
  obtain ⟨n, hn⟩ : ∃ n, V.length = n := ⟨_, rfl⟩
  rw [hn] at HF HO HC ⊢
  clear hn
  clear ta tr p0 p1 p2 p3 p4 p5 r0 r1 r2 r3 r4 r5
  obtain ⟨q, hq⟩ : ∃ q, flowsL lv c tl tc = q := ⟨_, rfl⟩
  rw [hq] at HC
  simp only [hq] at k2
  clear hq
  go_wp2_with fail
  refine (k2 _).mono ?_
  rintro e w2 ⟨rfl, hb2⟩
  have HX2 := Lib.hid (HX1.out.later hb2)
  have HF2 := Lib.hid (HF.out.later hb2)
  clear x0 x1 x2 x3 x4 x5 l0 l1 hb2 HF HX1 HX1' k2
  obtain ⟨_, ⟨x0, x1, x2, x3, x4, x5⟩, _, _, ⟨r0, r1, r2, r3, r4, r5⟩, ta, tr, _, _⟩ := HX2.out
  have f0 := there_free tr 0 (by decide)
  have f1 := there_free tr 1 (by decide)
  have f2 := there_free tr 2 (by decide)
  have f3 := there_free tr 3 (by decide)
  have f4 := there_free tr 4 (by decide)
  have f5 := there_free tr 5 (by decide)
  have g1 := there_free ta 1 (by decide)
  clear ta tr
  cases q
  · rw [Bool.and_false] at HC
    go_wp2
    refine bodyPost_ret (results_agg2 rfl _ _ (w.heap.size + 1 + 1 + 1) [.string ⟨#[]⟩, .slice none 0 0, .int .i64 0, .int .u32 0, .int .i64 0, .int .i64 0] (.struct _) rfl (World.rangeAt_setCells_same w2 (w.heap.size + 1 + 1 + 1) 0 [.string ⟨#[]⟩, .slice none 0 0, .int .i64 0, .int .u32 0, .int .i64 0, .int .i64 0] HX2.out.tr) Try.underlying32 rfl (by kernel_rfl)) rfl ?_
    have hbb := below_puts (g := w.heap.size + 1 + 1 + 1) (o := 0) HX2.out.below (by omega) [.string ⟨#[]⟩, .slice none 0 0, .int .i64 0, .int .u32 0, .int .i64 0, .int .i64 0]
    have hF3 := rd_puts (g := w.heap.size + 1 + 1 + 1) (o := 0) HF2.out (fun q hq => by have := HO.out q hq; omega) [.string ⟨#[]⟩, .slice none 0 0, .int .i64 0, .int .u32 0, .int .i64 0, .int .i64 0]
    refine ⟨_, by first | exact hF3 | (rw [HV.out]; exact hF3), fun q hq => by have := HO.out q hq; omega, hbb, ?_⟩
    first
      | rfl
      | (rw [HC.out]; rfl)
      | (rw [HC.out, hn]; rfl)
  · rcases Nat.eq_zero_or_pos n with h0 | h0
    · subst h0
      go_wp2
      refine bodyPost_ret (results_agg2 rfl _ _ (w.heap.size + 1 + 1 + 1) [.string ⟨#[]⟩, .slice none 0 0, .int .i64 0, .int .u32 0, .int .i64 0, .int .i64 0] (.struct _) rfl (World.rangeAt_setCells_same w2 (w.heap.size + 1 + 1 + 1) 0 [.string ⟨#[]⟩, .slice none 0 0, .int .i64 0, .int .u32 0, .int .i64 0, .int .i64 0] HX2.out.tr) Try.underlying32 rfl (by kernel_rfl)) rfl ?_
      have hbb := below_puts (g := w.heap.size + 1 + 1 + 1) (o := 0) HX2.out.below (by omega) [.string ⟨#[]⟩, .slice none 0 0, .int .i64 0, .int .u32 0, .int .i64 0, .int .i64 0]
      have hF3 := rd_puts (g := w.heap.size + 1 + 1 + 1) (o := 0) HF2.out (fun q hq => by have := HO.out q hq; omega) [.string ⟨#[]⟩, .slice none 0 0, .int .i64 0, .int .u32 0, .int .i64 0, .int .i64 0]
      refine ⟨_, by first | exact hF3 | (rw [HV.out]; exact hF3), fun q hq => by have := HO.out q hq; omega, hbb, ?_⟩
      first
        | rfl
        | (rw [HC.out]; rfl)
        | (rw [HC.out, hn]; rfl)
    · rw [decide_eq_true h0, Bool.true_and] at HC
      have hz : ((n : Int) == 0) = false := by rw [beq_eq_false_iff_ne]; omega
      go_wp2
      have hT := World.there_setCells HX2.out.tr (w.heap.size + 1) 1 [.slice va n vc]
      refine bodyPost_ret (results_agg2 rfl _ _ (w.heap.size + 1 + 1 + 1) [.string src, .slice va n vc, .int .i64 lv, .int .u32 c, .int .i64 fr, .int .i64 til] (.struct _) rfl (World.rangeAt_setCells_same _ (w.heap.size + 1 + 1 + 1) 0 [.string src, .slice va n vc, .int .i64 lv, .int .u32 c, .int .i64 fr, .int .i64 til] hT) Try.underlying32 rfl (by kernel_rfl)) rfl ?_
      have hba := below_puts (g := w.heap.size + 1) (o := 1) HX2.out.below (by omega) [.slice va n vc]
      have hbb := below_puts (g := w.heap.size + 1 + 1 + 1) (o := 0) hba (by omega) [.string src, .slice va n vc, .int .i64 lv, .int .u32 c, .int .i64 fr, .int .i64 til]
      have hF3 := rd_puts (g := w.heap.size + 1) (o := 1) HF2.out (fun q hq => by have := HO.out q hq; omega) [.slice va n vc]
      have hF4 := rd_puts (g := w.heap.size + 1 + 1 + 1) (o := 0) hF3 (fun q hq => by have := HO.out q hq; omega) [.string src, .slice va n vc, .int .i64 lv, .int .u32 c, .int .i64 fr, .int .i64 til]
      refine ⟨_, by first | exact hF4 | (rw [HV.out]; exact hF4), fun q hq => by have := HO.out q hq; omega, hbb, ?_⟩
      first
        | rfl
        | (rw [HC.out]; rfl)
end Go.Proofs.Ytnmgfmmjdiephaa
namespace Go.Proofs.Ytnmgfmmjdiephaa
open Go.RowKit

set_option maxHeartbeats 1600000 in
set_option maxRecDepth 100000 in
theorem rsame6_any (xs ys : List Fld) (w : World) (u v : Value) (hx : FldsAt w u xs) (hy : FldsAt w v ys) (hl : xs.length ≤ maxLen) (hl2 : ys.length ≤ maxLen) :
    Calls Try.prog 36 #[u, v] w fun e w' => e = .returned (.bool (decide (xs = ys))) ∧ Below w.heap.size w w' := by
  obtain ⟨a, c, rfl, hc, hr⟩ := RdAt.shape hx
  obtain ⟨a', c', rfl, hc', hr'⟩ := RdAt.shape hy
  have HR := Lib.hid hr
  have HR' := Lib.hid hr'
  have hm1 : xs.length < 9223372036854775808 := by unfold maxLen at hl; omega
  have hm2 : ys.length < 9223372036854775808 := by unfold maxLen at hl2; omega
  clear hr hr' hx hy hl hl2
  by_cases hlen : xs.length = ys.length
  · have hlen' : (xs.length : Int) = (ys.length : Int) := by omega
    have hb0 : ((xs.length : Int) != (ys.length : Int)) = false := by simp [hlen]
    have HLEN := Lib.hid hlen
    clear hlen hlen'
    go_enter Try.func36, Try.ntmps36
    go_wp2
    go_loopw [5] (fun i wr => ∃ k : Nat, k ≤ xs.length ∧ i = .int .i64 k ∧ Hid (xs.take k = ys.take k) ∧ Below w.heap.size w wr) (fun i _ => xs.length - (intOf i).toNat)
    case atStart => exact ⟨0, Nat.zero_le _, rfl, Lib.hid rfl, Below.refl _ _⟩
    case round =>
      obtain ⟨k, hk, rfl, HT, hbr⟩ := hrel
      by_cases hkl : k < xs.length
      · have hkl2 : k < ys.length := by have := HLEN.out; omega
        obtain ⟨⟨x1, x2⟩, hxe⟩ : ∃ x, xs[k] = x := ⟨_, rfl⟩
        obtain ⟨⟨y1, y2⟩, hye⟩ : ∃ y, ys[k] = y := ⟨_, rfl⟩
        obtain ⟨b0, o0, rfl, hb0', hcell⟩ := HR.out (by omega)
        obtain ⟨b1, o1, rfl, hb1', hcell'⟩ := HR'.out (by omega)
        obtain ⟨q0, q1⟩ := fldCells_at xs k hkl
        obtain ⟨q2, q3⟩ := fldCells_at ys k hkl2
        rw [hxe] at q0 q1
        rw [hye] at q2 q3
        have c0 : wr.cell? ⟨b0, o0 + k * 2, none⟩ = some (.string x1) := keep_cell (hcell _ _ q0) hbr hb0'
        have c1 : wr.cell? ⟨b0, o0 + k * 2 + 1, none⟩ = some (.string x2) := keep_cell (by have := hcell _ _ q1; rwa [← Nat.add_assoc] at this) hbr hb0'
        have c2 : wr.cell? ⟨b1, o1 + k * 2, none⟩ = some (.string y1) := keep_cell (hcell' _ _ q2) hbr hb1'
        have c3 : wr.cell? ⟨b1, o1 + k * 2 + 1, none⟩ = some (.string y2) := keep_cell (by have := hcell' _ _ q3; rwa [← Nat.add_assoc] at this) hbr hb1'
        clear hcell hcell' q0 q1 q2 q3
        by_cases h1 : x1 = y1
        · have hb1 : (x1.toList == y1.toList) = true := bytes_eq_iff.2 h1
          by_cases h2 : x2 = y2
          · have hb2 : (x2.toList == y2.toList) = true := bytes_eq_iff.2 h2
            have HN : Hid (xs.take (k + 1) = ys.take (k + 1)) := take_step HT.out hkl hkl2 (by rw [hxe, hye, h1, h2])
            clear h1 h2 hxe hye
            go_wp2
            go_quiet (fail)
            have hb2 : Below w.heap.size w (wr.drewN nq) := bl_drewN hbr nq
            generalize wr.drewN nq = wq at *
            go_wp2
            go_roundw
            case rel => exact ⟨k + 1, by omega, by go_num, HN, hb2⟩
            case measure => simp [intOf]; omega
          · have hb2 : (x2.toList == y2.toList) = false := by rw [bytes_beq]; exact decide_eq_false h2
            have HN : Hid (xs ≠ ys) := ne_at hkl hkl2 (by rw [hxe, hye]; intro h; exact h2 (congrArg Prod.snd h))
            clear h1 h2 hxe hye
            go_wp2
            go_quiet (fail)
            have hb2 : Below w.heap.size w (wr.drewN nq) := bl_drewN hbr nq
            generalize wr.drewN nq = wq at *
            go_wp2
            go_ret
            exact ⟨by rw [decide_eq_false HN.out]; rfl, hb2⟩
        · have hb1 : (x1.toList == y1.toList) = false := by rw [bytes_beq]; exact decide_eq_false h1
          have HN : Hid (xs ≠ ys) := ne_at hkl hkl2 (by rw [hxe, hye]; intro h; exact h1 (congrArg Prod.fst h))
          clear h1 hxe hye
          go_wp2
          go_quiet (fail)
          have hb2 : Below w.heap.size w (wr.drewN nq) := bl_drewN hbr nq
          generalize wr.drewN nq = wq at *
          go_wp2
          go_ret
          exact ⟨by rw [decide_eq_false HN.out]; rfl, hb2⟩
      · obtain rfl : k = xs.length := by omega
        have HN : Hid (xs = ys) := take_done HLEN.out HT.out
        clear HT
        go_wp2
        go_ret
        exact ⟨by rw [decide_eq_true HN.out]; rfl, hbr⟩
  · have hlen' : ¬ (xs.length : Int) = (ys.length : Int) := by omega
    go_enter Try.func36, Try.ntmps36
    go_wp2
    go_ret
    exact ⟨by rw [decide_eq_false (fun h => hlen (by rw [h]))]; rfl, Below.refl _ _⟩
end Go.Proofs.Ytnmgfmmjdiephaa
namespace Go.Proofs.Ytnmgfmmjdiephaa
open Go.RowKit

/-- the same alert -/
def sameA (s s' : ByteArray) (xs ys : List Fld) (lv : Int) (c : Nat) (fr til lv' : Int) (c' : Nat) (fr' til' : Int) : Bool :=
  decide (s = s') && decide (xs = ys) && (decide (lv = lv') && decide (c = c')) && decide (fr = fr') && decide (til = til')
set_option maxHeartbeats 1600000 in
set_option maxRecDepth 100000 in
theorem rsame9_any (s s' : ByteArray) (xs ys : List Fld) (u v : Value) (lv : Int) (c : Nat) (fr til lv' : Int) (c' : Nat) (fr' til' : Int) (w : World) (hx : FldsAt w u xs) (hy : FldsAt w v ys) (hl : xs.length ≤ maxLen) (hl2 : ys.length ≤ maxLen) :
    Calls Try.prog 17 #[.agg #[.string s, u, .int .i64 lv, .int .u32 c, .int .i64 fr, .int .i64 til], .agg #[.string s', v, .int .i64 lv', .int .u32 c', .int .i64 fr', .int .i64 til']] w fun e w' => e = .returned (.bool (sameA s s' xs ys lv c fr til lv' c' fr' til')) ∧ Below w.heap.size w w' := by
  have k1 := fun W (hb : Below w.heap.size w W) => rsame6_any xs ys W u v (hx.later hb) (hy.later hb) hl hl2
  obtain ⟨xa, xc, rfl, _, _⟩ := RdAt.shape hx
  obtain ⟨ya, yc, rfl, _, _⟩ := RdAt.shape hy
  clear hx hy hl hl2
  obtain ⟨W0, hW0⟩ : ∃ z, (w.alloc (.cells #[.string s, .slice xa xs.length xc, .int .i64 lv, .int .u32 c, .int .i64 fr, .int .i64 til] 32)).alloc (.cells #[.string s', .slice ya ys.length yc, .int .i64 lv', .int .u32 c', .int .i64 fr', .int .i64 til'] 32) = z := ⟨_, rfl⟩
  have hb0 : Below w.heap.size w W0 := by rw [← hW0]; exact (alloc_below _ _).trans ((alloc_below _ _).mono (by simp))
  have hz : W0.heap.size = w.heap.size + 1 + 1 := by rw [← hW0]; simp
  have hd := (Below.refl W0.heap.size W0)
  rw [← hW0] at hd
  obtain ⟨h1, h2, h3⟩ := box_cells hd
  obtain ⟨h4, _, _⟩ := box_cells h3
  rw [World.size_alloc] at h1
  rw [hW0] at h1 h4
  have hP : C6 w.heap.size (.string s) (.slice xa xs.length xc) (.int .i64 lv) (.int .u32 c) (.int .i64 fr) (.int .i64 til) W0 := ⟨h4 0 _ rfl, h4 1 _ rfl, h4 2 _ rfl, h4 3 _ rfl, h4 4 _ rfl, h4 5 _ rfl⟩
  have hQ : C6 (w.heap.size + 1) (.string s') (.slice ya ys.length yc) (.int .i64 lv') (.int .u32 c') (.int .i64 fr') (.int .i64 til') W0 := ⟨h1 0 _ rfl, h1 1 _ rfl, h1 2 _ rfl, h1 3 _ rfl, h1 4 _ rfl, h1 5 _ rfl⟩
  have k1 := k1 W0 hb0
  have HZ := Lib.hid hz
  have HB0 := Lib.hid hb0
  have HW0 := Lib.hid hW0
  have HP := Lib.hid hP
  have HQ := Lib.hid hQ
  clear hd h1 h2 h3 h4 hb0 hW0 hz hP hQ
  obtain ⟨p0, p1, p2, p3, p4, p5⟩ := HP.out
  obtain ⟨q0, q1, q2, q3, q4, q5⟩ := HQ.out
  by_cases e0 : s = s'
  · have b0 : (s.toList == s'.toList) = true := bytes_eq_iff.2 e0
    obtain ⟨q, hq⟩ : ∃ q, decide (xs = ys) = q := ⟨_, rfl⟩
    have HS : Hid (sameA s s' xs ys lv c fr til lv' c' fr' til' = (q && (decide (lv = lv') && decide (c = c')) && decide (fr = fr') && decide (til = til'))) := by
      show _ = _
      unfold sameA
      rw [hq, decide_eq_true e0, Bool.true_and]
    rw [hq] at k1
    clear e0 hq
    go_enter Try.func17, Try.ntmps17
    go_upto_region 1 with fail
    rw [HW0.out]
    clear HW0
    go_wp2_with fail
    refine k1.mono ?_
    rintro e w1 ⟨rfl, hb1⟩
    have HB1 := Lib.hid (HB0.out.trans (hb1.mono HB0.out.size))
    have hP1 := HP.out.later hb1 (by have := HZ.out; omega)
    have hQ1 := HQ.out.later hb1 (by have := HZ.out; omega)
    clear k1 hb1 p0 p1 p2 p3 p4 p5 q0 q1 q2 q3 q4 q5 HP HQ
    obtain ⟨p0, p1, p2, p3, p4, p5⟩ := hP1
    obtain ⟨q0, q1, q2, q3, q4, q5⟩ := hQ1
    cases q
    · go_wp2
      go_ret
      exact ⟨by rw [HS.out]; rfl, HB1.out⟩
    · by_cases e1 : lv = lv'
      · by_cases e2 : c = c'
        · by_cases e3 : fr = fr'
          · by_cases e4 : til = til'
            · have HE : Hid ((true && (decide (lv = lv') && decide (c = c')) && decide (fr = fr') && decide (til = til')) = true) := by show _ = _; simp [e1, e2, e3, e4]
              subst e1 e2 e3 e4
              go_wp2
              go_ret
              exact ⟨by rw [HS.out, HE.out]; simp, HB1.out⟩
            · have HE : Hid ((true && (decide (lv = lv') && decide (c = c')) && decide (fr = fr') && decide (til = til')) = false) := by show _ = _; simp [e4]
              have n4 : (til == til') = false := by rw [beq_eq_false_iff_ne]; exact e4
              subst e1 e2 e3
              go_wp2
              go_ret
              exact ⟨by rw [HS.out, HE.out]; simp [*], HB1.out⟩
          · have HE : Hid ((true && (decide (lv = lv') && decide (c = c')) && decide (fr = fr') && decide (til = til')) = false) := by show _ = _; simp [e3]
            have n3 : (fr == fr') = false := by rw [beq_eq_false_iff_ne]; exact e3
            subst e1 e2
            go_wp2
            go_ret
            exact ⟨by rw [HS.out, HE.out]; simp [*], HB1.out⟩
        · have HE : Hid ((true && (decide (lv = lv') && decide (c = c')) && decide (fr = fr') && decide (til = til')) = false) := by show _ = _; simp [e2]
          have n2 : ((c : Int) == (c' : Int)) = false := by rw [beq_eq_false_iff_ne]; omega
          subst e1
          go_wp2
          go_ret
          exact ⟨by rw [HS.out, HE.out]; simp [*], HB1.out⟩
      · have HE : Hid ((true && (decide (lv = lv') && decide (c = c')) && decide (fr = fr') && decide (til = til')) = false) := by show _ = _; simp [e1]
        have n1 : (lv == lv') = false := by rw [beq_eq_false_iff_ne]; exact e1
        go_wp2
        go_ret
        exact ⟨by rw [HS.out, HE.out]; simp [*], HB1.out⟩
  · have b0 : (s.toList == s'.toList) = false := by rw [bytes_beq]; exact decide_eq_false e0
    have HS : Hid (sameA s s' xs ys lv c fr til lv' c' fr' til' = false) := by
      show _ = _
      unfold sameA
      rw [decide_eq_false e0]; rfl
    clear e0 k1
    go_enter Try.func17, Try.ntmps17
    go_upto_region 1 with fail
    rw [HW0.out]
    clear HW0
    go_wp2
    go_ret
    exact ⟨by rw [HS.out]; simp [*], HB0.out⟩
end Go.Proofs.Ytnmgfmmjdiephaa
