/- alert.Cut: a contract. -/
import Derived.Test.YtipnhpfpppblhaaAlDel2
import Derived.Test.YtipnhpfpppblhaaAlRight
namespace Go.Proofs.Ytipnhpfpppblhaa
open Go.RowKit

/-- what may be told -/
def cutOk (rs : List Nmd) (fl : List Fld) (f t : Int × Nat) : Bool := decide (0 < (visL rs fl f t).length) && flowsL f.1 f.2 t.1 t.2
abbrev zeroA : Value := .agg #[.string ⟨#[]⟩, .slice none 0 0, .int .i64 0, .int .u32 0, .int .i64 0, .int .i64 0]
def cutR (ok : Bool) (src : ByteArray) (v : Value) (lv : Int) (c : Nat) (fr til : Int) : Value := match ok with
  | true => .agg #[.string src, v, .int .i64 lv, .int .u32 c, .int .i64 fr, .int .i64 til]
  | false => zeroA
theorem box_later {w W : World} {xs : Array Value} {t : TypeId} (hb : Below (w.alloc (.cells xs t)).heap.size (w.alloc (.cells xs t)) W) {i : Nat} {x : Value} (h : xs[i]? = some x) : W.cell? ⟨w.heap.size, i, none⟩ = some x := (box_cells hb).1 i x h
/-- the four boxes of Cut -/
structure CutBox (w W : World) (p0 p1 p2 p3 p4 p5 a0 a1 a2 a3 a4 a5 l0 l1 : Value) : Prop where
  p : C6 w.heap.size p0 p1 p2 p3 p4 p5 W
  a : C6 (w.heap.size + 1) a0 a1 a2 a3 a4 a5 W
  l0 : W.cell? ⟨w.heap.size + 1 + 1, 0, none⟩ = some l0
  l1 : W.cell? ⟨w.heap.size + 1 + 1, 1, none⟩ = some l1
  r : C6 (w.heap.size + 1 + 1 + 1) (.string ⟨#[]⟩) (.slice none 0 0) (.int .i64 0) (.int .u32 0) (.int .i64 0) (.int .i64 0) W
  ta : W.there (w.heap.size + 1) 0 6
  tr : W.there (w.heap.size + 1 + 1 + 1) 0 6
  lt : w.heap.size + 1 + 1 + 1 < W.heap.size
  below : Below w.heap.size w W
theorem CutBox.later {w W W' : World} {p0 p1 p2 p3 p4 p5 a0 a1 a2 a3 a4 a5 l0 l1 : Value} (h : CutBox w W p0 p1 p2 p3 p4 p5 a0 a1 a2 a3 a4 a5 l0 l1) (hb : Below W.heap.size W W') : CutBox w W' p0 p1 p2 p3 p4 p5 a0 a1 a2 a3 a4 a5 l0 l1 := by
  have hl := h.lt
  exact ⟨h.p.later hb (by omega), h.a.later hb (by omega), keep_cell h.l0 hb (by omega), keep_cell h.l1 hb (by omega), h.r.later hb (by omega), there_later h.ta hb (by omega), there_later h.tr hb (by omega), Nat.lt_of_lt_of_le hl hb.size, h.below.trans (hb.mono h.below.size)⟩
theorem cutBox (w : World) (p0 p1 p2 p3 p4 p5 a0 a1 a2 a3 a4 a5 l0 l1 : Value) (t u s q : TypeId) :
    CutBox w ((((w.alloc (.cells #[p0, p1, p2, p3, p4, p5] t)).alloc (.cells #[a0, a1, a2, a3, a4, a5] u)).alloc (.cells #[l0, l1] s)).alloc (.cells #[.string ⟨#[]⟩, .slice none 0 0, .int .i64 0, .int .u32 0, .int .i64 0, .int .i64 0] q)) p0 p1 p2 p3 p4 p5 a0 a1 a2 a3 a4 a5 l0 l1 := by
  obtain ⟨W1, h1⟩ : ∃ z, w.alloc (.cells #[p0, p1, p2, p3, p4, p5] t) = z := ⟨_, rfl⟩
  obtain ⟨W2, h2⟩ : ∃ z, W1.alloc (.cells #[a0, a1, a2, a3, a4, a5] u) = z := ⟨_, rfl⟩
  obtain ⟨W3, h3⟩ : ∃ z, W2.alloc (.cells #[l0, l1] s) = z := ⟨_, rfl⟩
  obtain ⟨W4, h4⟩ : ∃ z, W3.alloc (.cells #[.string ⟨#[]⟩, .slice none 0 0, .int .i64 0, .int .u32 0, .int .i64 0, .int .i64 0] q) = z := ⟨_, rfl⟩
  rw [h1, h2, h3, h4]
  have s1 : W1.heap.size = w.heap.size + 1 := by rw [← h1, World.size_alloc]
  have s2 : W2.heap.size = w.heap.size + 1 + 1 := by rw [← h2, World.size_alloc, s1]
  have s3 : W3.heap.size = w.heap.size + 1 + 1 + 1 := by rw [← h3, World.size_alloc, s2]
  have s4 : W4.heap.size = w.heap.size + 1 + 1 + 1 + 1 := by rw [← h4, World.size_alloc, s3]
  have b1 : Below w.heap.size w W1 := by rw [← h1]; exact alloc_below _ _
  have b2 : Below W1.heap.size W1 W2 := by rw [← h2]; exact alloc_below _ _
  have b3 : Below W2.heap.size W2 W3 := by rw [← h3]; exact alloc_below _ _
  have b4 : Below W3.heap.size W3 W4 := by rw [← h4]; exact alloc_below _ _
  have c34 : Below W3.heap.size W3 W4 := b4
  have c24 : Below W2.heap.size W2 W4 := b3.trans (b4.mono (by omega))
  have c14 : Below W1.heap.size W1 W4 := b2.trans (c24.mono (by omega))
  have g1 : Below (w.alloc (.cells #[p0, p1, p2, p3, p4, p5] t)).heap.size (w.alloc (.cells #[p0, p1, p2, p3, p4, p5] t)) W4 := by rw [h1]; exact c14
  have g2 : Below (W1.alloc (.cells #[a0, a1, a2, a3, a4, a5] u)).heap.size (W1.alloc (.cells #[a0, a1, a2, a3, a4, a5] u)) W4 := by rw [h2]; exact c24
  have g3 : Below (W2.alloc (.cells #[l0, l1] s)).heap.size (W2.alloc (.cells #[l0, l1] s)) W4 := by rw [h3]; exact c34
  have g4 : Below (W3.alloc (.cells #[.string ⟨#[]⟩, .slice none 0 0, .int .i64 0, .int .u32 0, .int .i64 0, .int .i64 0] q)).heap.size (W3.alloc (.cells #[.string ⟨#[]⟩, .slice none 0 0, .int .i64 0, .int .u32 0, .int .i64 0, .int .i64 0] q)) W4 := by rw [h4]; exact Below.refl _ _
  have t2 := box_there g2
  have t4 := box_there g4
  rw [s1] at t2
  rw [s3] at t4
  exact ⟨⟨box_later g1 rfl, box_later g1 rfl, box_later g1 rfl, box_later g1 rfl, box_later g1 rfl, box_later g1 rfl⟩,
    by rw [← s1]; exact ⟨box_later g2 rfl, box_later g2 rfl, box_later g2 rfl, box_later g2 rfl, box_later g2 rfl, box_later g2 rfl⟩,
    by rw [← s2]; exact box_later g3 rfl, by rw [← s2]; exact box_later g3 rfl,
    by rw [← s3]; exact ⟨box_later g4 rfl, box_later g4 rfl, box_later g4 rfl, box_later g4 rfl, box_later g4 rfl, box_later g4 rfl⟩,
    t2, t4, by omega, b1.trans (c14.mono (by omega))⟩
/-- what is read stays, where another block is written -/
theorem rd_puts {w : World} {v : Value} {n k : Nat} {xs : List Value} (h : RdAt w v n k xs) {g o : Nat} (hg : ∀ q, v.ownBlock = some q → q ≠ g) (vs : List Value) : RdAt (w.setCells g o vs) v n k xs := by
  refine ⟨h.1, ?_⟩
  rcases h.2 with h | ⟨a, c, rfl, hc, hr⟩
  · exact .inl h
  · refine .inr ⟨a, c, rfl, hc, fun hn => ?_⟩
    obtain ⟨b, o', rfl, hlt, hcell⟩ := hr hn
    have hne := hg b rfl
    refine ⟨b, o', rfl, Nat.lt_of_lt_of_le hlt (below_puts_base (g := g) (o := o) (Below.refl 0 w) (Nat.zero_le _) vs).size, fun j x hx => ?_⟩
    rw [World.cell?_setCells_out _ _ _ _ _ (fun hb _ => absurd hb hne)]
    exact hcell j x hx
set_option maxHeartbeats 1600000 in
set_option maxRecDepth 100000 in
theorem cut_any (s0 s1 s2 s4 s5 : Option Addr × Nat × Nat) (rs : List Nmd) (rv : Value) (src : ByteArray) (fl : List Fld) (fv : Value) (lv : Int) (c : Nat) (fr til : Int) (tl : Int) (tc : Nat) (w : World) (hv : NmdsAt w rv rs) (hl : rs.length ≤ maxLen) (hf : FldsAt w fv fl) (hfl : fl.length ≤ 1000000000000) :
    Calls Try.prog 18 #[.agg #[SV s0, SV s1, SV s2, rv, SV s4, SV s5], .agg #[.string src, fv, .int .i64 lv, .int .u32 c, .int .i64 fr, .int .i64 til], Lab tl tc] w fun e w' =>
      ∃ v', FldsAt w' v' (visL rs fl (lv, c) (tl, tc)) ∧ (∀ q, v'.ownBlock = some q → w.heap.size ≤ q) ∧ Below w.heap.size w w' ∧ e = .returned (.tuple #[cutR (cutOk rs fl (lv, c) (tl, tc)) src v' lv c fr til, .bool (cutOk rs fl (lv, c) (tl, tc))]) := by
  have k1 := fun W (hb : Below w.heap.size w W) => vis_any s0 s1 s2 s4 s5 rs rv fl fv lv c tl tc W (hv.later hb) hl (hf.later hb) hfl
  have k2 := flows_any lv c tl tc
  obtain ⟨ra, rc, rfl, _, _⟩ := RdAt.shape hv
  obtain ⟨fa, fc, rfl, _, _⟩ := RdAt.shape hf
  obtain ⟨a0, n0, c0⟩ := s0
  obtain ⟨a1, n1, c1⟩ := s1
  obtain ⟨a2, n2, c2⟩ := s2
  obtain ⟨a4, n4, c4⟩ := s4
  obtain ⟨a5, n5, c5⟩ := s5
  have hX := cutBox w (.slice a0 n0 c0) (.slice a1 n1 c1) (.slice a2 n2 c2) (.slice ra rs.length rc) (.slice a4 n4 c4) (.slice a5 n5 c5) (.string src) (.slice fa fl.length fc) (.int .i64 lv) (.int .u32 c) (.int .i64 fr) (.int .i64 til) (.int .i64 tl) (.int .u32 tc) 26 36 34 36
  have k1 := k1 _ hX.below
  have HX := Lib.hid hX
  clear hX hv hf
  go_enter Try.func18, Try.ntmps18
  go_wp2_with fail
  refine k1.mono ?_
  rintro e w1 ⟨v1, rfl, hF, hO, hb1⟩
  have HX1 := Lib.hid (HX.out.later hb1)
  clear k1 HX hb1
  obtain ⟨va, vc, rfl, _, _⟩ := RdAt.shape hF
  obtain ⟨V, hV⟩ : ∃ V, visL rs fl (lv, c) (tl, tc) = V := ⟨_, rfl⟩
  have HC : Hid (cutOk rs fl (lv, c) (tl, tc) = (decide (0 < V.length) && flowsL lv c tl tc)) := by show _ = _; unfold cutOk; rw [hV]
  rw [hV] at hF hO ⊢
  have HF := Lib.hid hF
  have HV := Lib.hid hV
  have hO' : ∀ q, (Value.slice va V.length vc).ownBlock = some q → w.heap.size + 1 + 1 + 1 + 1 ≤ q := fun q hq => by
    have := hO q hq
    simpa using this
  have HO := Lib.hid hO'
  clear hF hV hO hO'
  have HX1' := Lib.hid (Nat.lt_of_le_of_lt (Nat.le_refl _) HX1.out.lt)
  obtain ⟨⟨p0, p1, p2, p3, p4, p5⟩, ⟨x0, x1, x2, x3, x4, x5⟩, l0, l1, ⟨r0, r1, r2, r3, r4, r5⟩, ta, tr, _, _⟩ := HX1.out
  rcases Nat.eq_zero_or_pos V.length with h0 | h0
  · have hnil : V = [] := List.length_eq_zero_iff.1 h0
    subst hnil
    have f0 := there_free tr 0 (by decide)
    have f1 := there_free tr 1 (by decide)
    have f2 := there_free tr 2 (by decide)
    have f3 := there_free tr 3 (by decide)
    have f4 := there_free tr 4 (by decide)
    have f5 := there_free tr 5 (by decide)
    clear ta tr p0 p1 p2 p3 p4 p5 x0 x1 x2 x3 x4 x5 l0 l1 h0
    go_wp2
    refine bodyPost_ret (results_agg2 rfl _ _ (w.heap.size + 1 + 1 + 1) [.string ⟨#[]⟩, .slice none 0 0, .int .i64 0, .int .u32 0, .int .i64 0, .int .i64 0] (.struct _) rfl (World.rangeAt_setCells_same w1 (w.heap.size + 1 + 1 + 1) 0 [.string ⟨#[]⟩, .slice none 0 0, .int .i64 0, .int .u32 0, .int .i64 0, .int .i64 0] HX1.out.tr) Try.underlying36 rfl (by kernel_rfl)) rfl ?_
    have hbb := below_puts (g := w.heap.size + 1 + 1 + 1) (o := 0) HX1.out.below (by omega) [.string ⟨#[]⟩, .slice none 0 0, .int .i64 0, .int .u32 0, .int .i64 0, .int .i64 0]
    refine ⟨.slice none 0 0, by first | exact RdAt.nil _ _ | (rw [HV.out]; exact RdAt.nil _ _), fun q hq => by simp [Value.ownBlock] at hq, hbb, ?_⟩
    first
      | rfl
      | (rw [HC.out]; rfl)
  · rw [decide_eq_true h0, Bool.true_and] at HC
    obtain ⟨n, hn⟩ : ∃ n, V.length = n + 1 := ⟨V.length - 1, by omega⟩
    rw [hn] at HF HO ⊢
    have hz : (((n + 1 : Nat) : Int) == 0) = false := by rw [beq_eq_false_iff_ne]; omega
    clear hn h0
    clear ta tr p0 p1 p2 p3 p4 p5 r0 r1 r2 r3 r4 r5
    obtain ⟨q, hq⟩ : ∃ q, flowsL lv c tl tc = q := ⟨_, rfl⟩
    rw [hq] at HC k2
    clear hq
    go_wp2_with fail
    refine (k2 _).mono ?_
    rintro e w2 ⟨rfl, hb2⟩
    have HX2 := Lib.hid (HX1.out.later hb2)
    have HF2 := Lib.hid (HF.out.later hb2)
    clear x0 x1 x2 x3 x4 x5 l0 l1 hb2 HF HX1 HX1' k2
    obtain ⟨_, ⟨x0, x1, x2, x3, x4, x5⟩, _, _, ⟨r0, r1, r2, r3, r4, r5⟩, ta, tr, _, _⟩ := HX2.out
    have f0 := there_free tr 0 (by decide)
    have f1 := there_free tr 1 (by decide)
    have f2 := there_free tr 2 (by decide)
    have f3 := there_free tr 3 (by decide)
    have f4 := there_free tr 4 (by decide)
    have f5 := there_free tr 5 (by decide)
    have g1 := there_free ta 1 (by decide)
    clear ta tr
    cases q
    · go_wp2
      refine bodyPost_ret (results_agg2 rfl _ _ (w.heap.size + 1 + 1 + 1) [.string ⟨#[]⟩, .slice none 0 0, .int .i64 0, .int .u32 0, .int .i64 0, .int .i64 0] (.struct _) rfl (World.rangeAt_setCells_same w2 (w.heap.size + 1 + 1 + 1) 0 [.string ⟨#[]⟩, .slice none 0 0, .int .i64 0, .int .u32 0, .int .i64 0, .int .i64 0] HX2.out.tr) Try.underlying36 rfl (by kernel_rfl)) rfl ?_
      have hbb := below_puts (g := w.heap.size + 1 + 1 + 1) (o := 0) HX2.out.below (by omega) [.string ⟨#[]⟩, .slice none 0 0, .int .i64 0, .int .u32 0, .int .i64 0, .int .i64 0]
      have hF3 := rd_puts (g := w.heap.size + 1 + 1 + 1) (o := 0) HF2.out (fun q hq => by have := HO.out q hq; omega) [.string ⟨#[]⟩, .slice none 0 0, .int .i64 0, .int .u32 0, .int .i64 0, .int .i64 0]
      refine ⟨_, by first | exact hF3 | (rw [HV.out]; exact hF3), fun q hq => by have := HO.out q hq; omega, hbb, ?_⟩
      first
        | rfl
        | (rw [HC.out]; rfl)
    · go_wp2
      have hT := World.there_setCells HX2.out.tr (w.heap.size + 1) 1 [.slice va (n + 1) vc]
      refine bodyPost_ret (results_agg2 rfl _ _ (w.heap.size + 1 + 1 + 1) [.string src, .slice va (n + 1) vc, .int .i64 lv, .int .u32 c, .int .i64 fr, .int .i64 til] (.struct _) rfl (World.rangeAt_setCells_same _ (w.heap.size + 1 + 1 + 1) 0 [.string src, .slice va (n + 1) vc, .int .i64 lv, .int .u32 c, .int .i64 fr, .int .i64 til] hT) Try.underlying36 rfl (by kernel_rfl)) rfl ?_
      have hba := below_puts (g := w.heap.size + 1) (o := 1) HX2.out.below (by omega) [.slice va (n + 1) vc]
      have hbb := below_puts (g := w.heap.size + 1 + 1 + 1) (o := 0) hba (by omega) [.string src, .slice va (n + 1) vc, .int .i64 lv, .int .u32 c, .int .i64 fr, .int .i64 til]
      have hF3 := rd_puts (g := w.heap.size + 1) (o := 1) HF2.out (fun q hq => by have := HO.out q hq; omega) [.slice va (n + 1) vc]
      have hF4 := rd_puts (g := w.heap.size + 1 + 1 + 1) (o := 0) hF3 (fun q hq => by have := HO.out q hq; omega) [.string src, .slice va (n + 1) vc, .int .i64 lv, .int .u32 c, .int .i64 fr, .int .i64 til]
      refine ⟨_, by first | exact hF4 | (rw [HV.out]; exact hF4), fun q hq => by have := HO.out q hq; omega, hbb, ?_⟩
      first
        | rfl
        | (rw [HC.out]; rfl)
end Go.Proofs.Ytipnhpfpppblhaa
