/- AlertApart: the card: whatever the arguments, the law returns true and its arguments read as they did. No condition. -/
import Derived.Test.YtipnhpfpppblhaaAlDel2
import Derived.Test.YtipnhpfpppblhaaAlRight
import Derived.Test.YtipnhpfpppblhaaRefFl
import Derived.Test.YtipnhpfpppblhaaAlPol
import Derived.Test.YtipnhpfpppblhaaAlRaise
import Derived.Deep.LoopGhost
import Derived.Test.YtipnhpfpppblhaaApPlain
import Derived.Test.YtipnhpfpppblhaaHeld
import Derived.Test.YtipnhpfpppblhaaBox3
import Derived.Test.YtipnhpfpppblhaaIns
import Derived.Test.YtipnhpfpppblhaaName
import Derived.Test.YtipnhpfpppblhaaAls
import Derived.Test.YtipnhpfpppblhaaAppRd
import Derived.Test.YtipnhpfpppblhaaConv
import Derived.Test.YtipnhpfpppblhaaShaRound
import Derived.Deep.AppendSrc
import Derived.Deep.MidRow
import Derived.Laws.IdiomCopy
import Derived.Test.YtipnhpfpppblhaaShaOf
import Derived.Laws.Bits64b
import Derived.Test.YtipnhpfpppblhaaHeldS
import Derived.Test.YtipnhpfpppblhaaBase
import Derived.Test.YtipnhpfpppblhaaBox2
import Derived.Deep.AppendLies
import Derived.Test.YtipnhpfpppblhaaRows
import Derived.WalkKit
import Derived.WalkSpells
import Derived.WalkLawsBesides
import Derived.BigQuiet
import Derived.Deep.QuietTactic
import Derived.Lib.Hide
import Derived.Deep.RegionHeldLaw
import Derived.StillTailTactics
import Derived.Deep.DeepCutAuto
import Derived.Defers

/- alert.Cut: a contract. -/
namespace Go.Proofs.Ytipnhpfpppblhaa
open Go.RowKit
def cutOk (rs : List Nmd) (fl : List Fld) (f t : Int × Nat) : Bool := decide (0 < (visL rs fl f t).length) && flowsL f.1 f.2 t.1 t.2
abbrev zeroA : Value := .agg #[.string ⟨#[]⟩, .slice none 0 0, .int .i64 0, .int .u32 0, .int .i64 0, .int .i64 0]
def cutR (ok : Bool) (src : ByteArray) (v : Value) (lv : Int) (c : Nat) (fr til : Int) : Value := match ok with
  | true => .agg #[.string src, v, .int .i64 lv, .int .u32 c, .int .i64 fr, .int .i64 til]
  | false => zeroA
theorem box_later {w W : World} {xs : Array Value} {t : TypeId} (hb : Below (w.alloc (.cells xs t)).heap.size (w.alloc (.cells xs t)) W) {i : Nat} {x : Value} (h : xs[i]? = some x) : W.cell? ⟨w.heap.size, i, none⟩ = some x := (box_cells hb).1 i x h
structure CutBox (w W : World) (p0 p1 p2 p3 p4 p5 a0 a1 a2 a3 a4 a5 l0 l1 : Value) : Prop where
  p : C6 w.heap.size p0 p1 p2 p3 p4 p5 W
  a : C6 (w.heap.size + 1) a0 a1 a2 a3 a4 a5 W
  l0 : W.cell? ⟨w.heap.size + 1 + 1, 0, none⟩ = some l0
  l1 : W.cell? ⟨w.heap.size + 1 + 1, 1, none⟩ = some l1
  r : C6 (w.heap.size + 1 + 1 + 1) (.string ⟨#[]⟩) (.slice none 0 0) (.int .i64 0) (.int .u32 0) (.int .i64 0) (.int .i64 0) W
  ta : W.there (w.heap.size + 1) 0 6
  tr : W.there (w.heap.size + 1 + 1 + 1) 0 6
  lt : w.heap.size + 1 + 1 + 1 < W.heap.size
  below : Below w.heap.size w W
theorem CutBox.later {w W W' : World} {p0 p1 p2 p3 p4 p5 a0 a1 a2 a3 a4 a5 l0 l1 : Value} (h : CutBox w W p0 p1 p2 p3 p4 p5 a0 a1 a2 a3 a4 a5 l0 l1) (hb : Below W.heap.size W W') : CutBox w W' p0 p1 p2 p3 p4 p5 a0 a1 a2 a3 a4 a5 l0 l1 := by
  have hl := h.lt
  exact ⟨h.p.later hb (by omega), h.a.later hb (by omega), keep_cell h.l0 hb (by omega), keep_cell h.l1 hb (by omega), h.r.later hb (by omega), there_later h.ta hb (by omega), there_later h.tr hb (by omega), Nat.lt_of_lt_of_le hl hb.size, h.below.trans (hb.mono h.below.size)⟩
theorem cutBox (w : World) (p0 p1 p2 p3 p4 p5 a0 a1 a2 a3 a4 a5 l0 l1 : Value) (t u s q : TypeId) :
    CutBox w ((((w.alloc (.cells #[p0, p1, p2, p3, p4, p5] t)).alloc (.cells #[a0, a1, a2, a3, a4, a5] u)).alloc (.cells #[l0, l1] s)).alloc (.cells #[.string ⟨#[]⟩, .slice none 0 0, .int .i64 0, .int .u32 0, .int .i64 0, .int .i64 0] q)) p0 p1 p2 p3 p4 p5 a0 a1 a2 a3 a4 a5 l0 l1 := by
  obtain ⟨W1, h1⟩ : ∃ z, w.alloc (.cells #[p0, p1, p2, p3, p4, p5] t) = z := ⟨_, rfl⟩
  obtain ⟨W2, h2⟩ : ∃ z, W1.alloc (.cells #[a0, a1, a2, a3, a4, a5] u) = z := ⟨_, rfl⟩
  obtain ⟨W3, h3⟩ : ∃ z, W2.alloc (.cells #[l0, l1] s) = z := ⟨_, rfl⟩
  obtain ⟨W4, h4⟩ : ∃ z, W3.alloc (.cells #[.string ⟨#[]⟩, .slice none 0 0, .int .i64 0, .int .u32 0, .int .i64 0, .int .i64 0] q) = z := ⟨_, rfl⟩
  rw [h1, h2, h3, h4]
  have s1 : W1.heap.size = w.heap.size + 1 := by rw [← h1, World.size_alloc]
  have s2 : W2.heap.size = w.heap.size + 1 + 1 := by rw [← h2, World.size_alloc, s1]
  have s3 : W3.heap.size = w.heap.size + 1 + 1 + 1 := by rw [← h3, World.size_alloc, s2]
  have s4 : W4.heap.size = w.heap.size + 1 + 1 + 1 + 1 := by rw [← h4, World.size_alloc, s3]
  have b1 : Below w.heap.size w W1 := by rw [← h1]; exact alloc_below _ _
  have b2 : Below W1.heap.size W1 W2 := by rw [← h2]; exact alloc_below _ _
  have b3 : Below W2.heap.size W2 W3 := by rw [← h3]; exact alloc_below _ _
  have b4 : Below W3.heap.size W3 W4 := by rw [← h4]; exact alloc_below _ _
  have c34 : Below W3.heap.size W3 W4 := b4
  have c24 : Below W2.heap.size W2 W4 := b3.trans (b4.mono (by omega))
  have c14 : Below W1.heap.size W1 W4 := b2.trans (c24.mono (by omega))
  have g1 : Below (w.alloc (.cells #[p0, p1, p2, p3, p4, p5] t)).heap.size (w.alloc (.cells #[p0, p1, p2, p3, p4, p5] t)) W4 := by rw [h1]; exact c14
  have g2 : Below (W1.alloc (.cells #[a0, a1, a2, a3, a4, a5] u)).heap.size (W1.alloc (.cells #[a0, a1, a2, a3, a4, a5] u)) W4 := by rw [h2]; exact c24
  have g3 : Below (W2.alloc (.cells #[l0, l1] s)).heap.size (W2.alloc (.cells #[l0, l1] s)) W4 := by rw [h3]; exact c34
  have g4 : Below (W3.alloc (.cells #[.string ⟨#[]⟩, .slice none 0 0, .int .i64 0, .int .u32 0, .int .i64 0, .int .i64 0] q)).heap.size (W3.alloc (.cells #[.string ⟨#[]⟩, .slice none 0 0, .int .i64 0, .int .u32 0, .int .i64 0, .int .i64 0] q)) W4 := by rw [h4]; exact Below.refl _ _
  have t2 := box_there g2
  have t4 := box_there g4
  rw [s1] at t2
  rw [s3] at t4
  exact ⟨⟨box_later g1 rfl, box_later g1 rfl, box_later g1 rfl, box_later g1 rfl, box_later g1 rfl, box_later g1 rfl⟩,
    by rw [← s1]; exact ⟨box_later g2 rfl, box_later g2 rfl, box_later g2 rfl, box_later g2 rfl, box_later g2 rfl, box_later g2 rfl⟩,
    by rw [← s2]; exact box_later g3 rfl, by rw [← s2]; exact box_later g3 rfl,
    by rw [← s3]; exact ⟨box_later g4 rfl, box_later g4 rfl, box_later g4 rfl, box_later g4 rfl, box_later g4 rfl, box_later g4 rfl⟩,
    t2, t4, by omega, b1.trans (c14.mono (by omega))⟩
theorem rd_puts {w : World} {v : Value} {n k : Nat} {xs : List Value} (h : RdAt w v n k xs) {g o : Nat} (hg : ∀ q, v.ownBlock = some q → q ≠ g) (vs : List Value) : RdAt (w.setCells g o vs) v n k xs := by
  refine ⟨h.1, ?_⟩
  rcases h.2 with h | ⟨a, c, rfl, hc, hr⟩
  · exact .inl h
  · refine .inr ⟨a, c, rfl, hc, fun hn => ?_⟩
    obtain ⟨b, o', rfl, hlt, hcell⟩ := hr hn
    have hne := hg b rfl
    refine ⟨b, o', rfl, Nat.lt_of_lt_of_le hlt (below_puts_base (g := g) (o := o) (Below.refl 0 w) (Nat.zero_le _) vs).size, fun j x hx => ?_⟩
    rw [World.cell?_setCells_out _ _ _ _ _ (fun hb _ => absurd hb hne)]
    exact hcell j x hx
set_option maxHeartbeats 1600000 in
set_option maxRecDepth 100000 in
theorem cut_any (s0 s1 s2 s4 s5 : Option Addr × Nat × Nat) (rs : List Nmd) (rv : Value) (src : ByteArray) (fl : List Fld) (fv : Value) (lv : Int) (c : Nat) (fr til : Int) (tl : Int) (tc : Nat) (w : World) (hv : NmdsAt w rv rs) (hl : rs.length ≤ maxLen) (hf : FldsAt w fv fl) (hfl : fl.length ≤ 1000000000000) :
    Calls Try.prog 18 #[.agg #[SV s0, SV s1, SV s2, rv, SV s4, SV s5], .agg #[.string src, fv, .int .i64 lv, .int .u32 c, .int .i64 fr, .int .i64 til], Lab tl tc] w fun e w' =>
      ∃ v', FldsAt w' v' (visL rs fl (lv, c) (tl, tc)) ∧ (∀ q, v'.ownBlock = some q → w.heap.size ≤ q) ∧ Below w.heap.size w w' ∧ e = .returned (.tuple #[cutR (cutOk rs fl (lv, c) (tl, tc)) src v' lv c fr til, .bool (cutOk rs fl (lv, c) (tl, tc))]) := by
  have k1 := fun W (hb : Below w.heap.size w W) => vis_any s0 s1 s2 s4 s5 rs rv fl fv lv c tl tc W (hv.later hb) hl (hf.later hb) hfl
  have k2 := flows_any lv c tl tc
  obtain ⟨ra, rc, rfl, _, _⟩ := RdAt.shape hv
  obtain ⟨fa, fc, rfl, _, _⟩ := RdAt.shape hf
  obtain ⟨a0, n0, c0⟩ := s0
  obtain ⟨a1, n1, c1⟩ := s1
  obtain ⟨a2, n2, c2⟩ := s2
  obtain ⟨a4, n4, c4⟩ := s4
  obtain ⟨a5, n5, c5⟩ := s5
  have hX := cutBox w (.slice a0 n0 c0) (.slice a1 n1 c1) (.slice a2 n2 c2) (.slice ra rs.length rc) (.slice a4 n4 c4) (.slice a5 n5 c5) (.string src) (.slice fa fl.length fc) (.int .i64 lv) (.int .u32 c) (.int .i64 fr) (.int .i64 til) (.int .i64 tl) (.int .u32 tc) 26 36 34 36
  have k1 := k1 _ hX.below
  have HX := Lib.hid hX
  clear hX hv hf
  go_enter Try.func18, Try.ntmps18
  go_wp2_with fail
  refine k1.mono ?_
  rintro e w1 ⟨v1, rfl, hF, hO, hb1⟩
  have HX1 := Lib.hid (HX.out.later hb1)
  clear k1 HX hb1
  obtain ⟨va, vc, rfl, _, _⟩ := RdAt.shape hF
  obtain ⟨V, hV⟩ : ∃ V, visL rs fl (lv, c) (tl, tc) = V := ⟨_, rfl⟩
  have HC : Hid (cutOk rs fl (lv, c) (tl, tc) = (decide (0 < V.length) && flowsL lv c tl tc)) := by show _ = _; unfold cutOk; rw [hV]
  rw [hV] at hF hO ⊢
  have HF := Lib.hid hF
  have HV := Lib.hid hV
  have hO' : ∀ q, (Value.slice va V.length vc).ownBlock = some q → w.heap.size + 1 + 1 + 1 + 1 ≤ q := fun q hq => by
    have := hO q hq
    simpa using this
  have HO := Lib.hid hO'
  clear hF hV hO hO'
  have HX1' := Lib.hid (Nat.lt_of_le_of_lt (Nat.le_refl _) HX1.out.lt)
  obtain ⟨⟨p0, p1, p2, p3, p4, p5⟩, ⟨x0, x1, x2, x3, x4, x5⟩, l0, l1, ⟨r0, r1, r2, r3, r4, r5⟩, ta, tr, _, _⟩ := HX1.out
  rcases Nat.eq_zero_or_pos V.length with h0 | h0
  · have hnil : V = [] := List.length_eq_zero_iff.1 h0
    subst hnil
    have f0 := there_free tr 0 (by decide)
    have f1 := there_free tr 1 (by decide)
    have f2 := there_free tr 2 (by decide)
    have f3 := there_free tr 3 (by decide)
    have f4 := there_free tr 4 (by decide)
    have f5 := there_free tr 5 (by decide)
    clear ta tr p0 p1 p2 p3 p4 p5 x0 x1 x2 x3 x4 x5 l0 l1 h0
    go_wp2
    refine bodyPost_ret (results_agg2 rfl _ _ (w.heap.size + 1 + 1 + 1) [.string ⟨#[]⟩, .slice none 0 0, .int .i64 0, .int .u32 0, .int .i64 0, .int .i64 0] (.struct _) rfl (World.rangeAt_setCells_same w1 (w.heap.size + 1 + 1 + 1) 0 [.string ⟨#[]⟩, .slice none 0 0, .int .i64 0, .int .u32 0, .int .i64 0, .int .i64 0] HX1.out.tr) Try.underlying36 rfl (by kernel_rfl)) rfl ?_
    have hbb := below_puts (g := w.heap.size + 1 + 1 + 1) (o := 0) HX1.out.below (by omega) [.string ⟨#[]⟩, .slice none 0 0, .int .i64 0, .int .u32 0, .int .i64 0, .int .i64 0]
    refine ⟨.slice none 0 0, by first | exact RdAt.nil _ _ | (rw [HV.out]; exact RdAt.nil _ _), fun q hq => by simp [Value.ownBlock] at hq, hbb, ?_⟩
    first
      | rfl
      | (rw [HC.out]; rfl)
  · rw [decide_eq_true h0, Bool.true_and] at HC
    obtain ⟨n, hn⟩ : ∃ n, V.length = n + 1 := ⟨V.length - 1, by omega⟩
    rw [hn] at HF HO ⊢
    have hz : (((n + 1 : Nat) : Int) == 0) = false := by rw [beq_eq_false_iff_ne]; omega
    clear hn h0
    clear ta tr p0 p1 p2 p3 p4 p5 r0 r1 r2 r3 r4 r5
    obtain ⟨q, hq⟩ : ∃ q, flowsL lv c tl tc = q := ⟨_, rfl⟩
    rw [hq] at HC k2
    clear hq
    go_wp2_with fail
    refine (k2 _).mono ?_
    rintro e w2 ⟨rfl, hb2⟩
    have HX2 := Lib.hid (HX1.out.later hb2)
    have HF2 := Lib.hid (HF.out.later hb2)
    clear x0 x1 x2 x3 x4 x5 l0 l1 hb2 HF HX1 HX1' k2
    obtain ⟨_, ⟨x0, x1, x2, x3, x4, x5⟩, _, _, ⟨r0, r1, r2, r3, r4, r5⟩, ta, tr, _, _⟩ := HX2.out
    have f0 := there_free tr 0 (by decide)
    have f1 := there_free tr 1 (by decide)
    have f2 := there_free tr 2 (by decide)
    have f3 := there_free tr 3 (by decide)
    have f4 := there_free tr 4 (by decide)
    have f5 := there_free tr 5 (by decide)
    have g1 := there_free ta 1 (by decide)
    clear ta tr
    cases q
    · go_wp2
      refine bodyPost_ret (results_agg2 rfl _ _ (w.heap.size + 1 + 1 + 1) [.string ⟨#[]⟩, .slice none 0 0, .int .i64 0, .int .u32 0, .int .i64 0, .int .i64 0] (.struct _) rfl (World.rangeAt_setCells_same w2 (w.heap.size + 1 + 1 + 1) 0 [.string ⟨#[]⟩, .slice none 0 0, .int .i64 0, .int .u32 0, .int .i64 0, .int .i64 0] HX2.out.tr) Try.underlying36 rfl (by kernel_rfl)) rfl ?_
      have hbb := below_puts (g := w.heap.size + 1 + 1 + 1) (o := 0) HX2.out.below (by omega) [.string ⟨#[]⟩, .slice none 0 0, .int .i64 0, .int .u32 0, .int .i64 0, .int .i64 0]
      have hF3 := rd_puts (g := w.heap.size + 1 + 1 + 1) (o := 0) HF2.out (fun q hq => by have := HO.out q hq; omega) [.string ⟨#[]⟩, .slice none 0 0, .int .i64 0, .int .u32 0, .int .i64 0, .int .i64 0]
      refine ⟨_, by first | exact hF3 | (rw [HV.out]; exact hF3), fun q hq => by have := HO.out q hq; omega, hbb, ?_⟩
      first
        | rfl
        | (rw [HC.out]; rfl)
    · go_wp2
      have hT := World.there_setCells HX2.out.tr (w.heap.size + 1) 1 [.slice va (n + 1) vc]
      refine bodyPost_ret (results_agg2 rfl _ _ (w.heap.size + 1 + 1 + 1) [.string src, .slice va (n + 1) vc, .int .i64 lv, .int .u32 c, .int .i64 fr, .int .i64 til] (.struct _) rfl (World.rangeAt_setCells_same _ (w.heap.size + 1 + 1 + 1) 0 [.string src, .slice va (n + 1) vc, .int .i64 lv, .int .u32 c, .int .i64 fr, .int .i64 til] hT) Try.underlying36 rfl (by kernel_rfl)) rfl ?_
      have hba := below_puts (g := w.heap.size + 1) (o := 1) HX2.out.below (by omega) [.slice va (n + 1) vc]
      have hbb := below_puts (g := w.heap.size + 1 + 1 + 1) (o := 0) hba (by omega) [.string src, .slice va (n + 1) vc, .int .i64 lv, .int .u32 c, .int .i64 fr, .int .i64 til]
      have hF3 := rd_puts (g := w.heap.size + 1) (o := 1) HF2.out (fun q hq => by have := HO.out q hq; omega) [.slice va (n + 1) vc]
      have hF4 := rd_puts (g := w.heap.size + 1 + 1 + 1) (o := 0) hF3 (fun q hq => by have := HO.out q hq; omega) [.string src, .slice va (n + 1) vc, .int .i64 lv, .int .u32 c, .int .i64 fr, .int .i64 til]
      refine ⟨_, by first | exact hF4 | (rw [HV.out]; exact hF4), fun q hq => by have := HO.out q hq; omega, hbb, ?_⟩
      first
        | rfl
        | (rw [HC.out]; rfl)
end Go.Proofs.Ytipnhpfpppblhaa

/- lychgateref01: of, Join; lychgateref08: Find, Raised, Visible, Cut; lychgateref09.Cut: contracts (upon XRefFl). -/
namespace Go.Proofs.Ytipnhpfpppblhaa
open Go.RowKit
theorem sum_take_le : ∀ (ts : List Nat) (k : Nat), sumN (ts.take k) ≤ sumN ts := by
  have h : ∀ (ts : List Nat) (a b : Nat), a ≤ b → ts.foldl (fun a k => a + 2 ^ k) a ≤ ts.foldl (fun a k => a + 2 ^ k) b := by
    intro ts
    induction ts with
    | nil => intro a b h; exact h
    | cons t ts ih => intro a b h; exact ih _ _ (Nat.add_le_add_right h _)
  have h2 : ∀ (ts : List Nat) (a k : Nat), (ts.take k).foldl (fun a k => a + 2 ^ k) a ≤ ts.foldl (fun a k => a + 2 ^ k) a := by
    intro ts
    induction ts with
    | nil => intro a k; simp
    | cons t ts ih =>
      intro a k
      cases k with
      | zero =>
        rw [List.take_zero, List.foldl_nil, List.foldl_cons]
        have h3 := ih (a + 2 ^ t) 0
        rw [List.take_zero, List.foldl_nil] at h3
        exact Nat.le_trans (Nat.le_add_right a (2 ^ t)) h3
      | succ k => rw [List.take_succ_cons, List.foldl_cons, List.foldl_cons]; exact ih _ _
  exact fun ts k => h2 ts 0 k
set_option maxHeartbeats 1600000 in
set_option maxRecDepth 100000 in
theorem rof_any (lv : Int) (ts : List Nat) (v : Value) (w : World) (hv : IntsAt w v (ts.map fun (k : Nat) => (k : Int))) (ht : ∀ t ∈ ts, t < 32) (hl : ts.length ≤ 1000) (hs : sumN ts < 4294967296) :
    Calls Try.prog 47 #[.int .i64 lv, v] w fun e w' => e = .returned (Lab lv (sumN ts)) ∧ Below w.heap.size w w' := by
  obtain ⟨a, c, rfl, hc, hr⟩ := RdAt.shape hv
  rw [List.length_map] at hc hr ⊢
  have HR := Lib.hid hr
  obtain ⟨W0, hW0⟩ : ∃ z, (w.alloc (.cells #[.int .i64 0, .int .u32 0] 34)).alloc (.cells #[.int .i64 lv, .int .u32 0] 34) = z := ⟨_, rfl⟩
  have hb0 : Below w.heap.size w W0 := by rw [← hW0]; exact (alloc_below _ _).trans ((alloc_below _ _).mono (by simp))
  have hd := Below.refl W0.heap.size W0
  rw [← hW0] at hd
  have hT1 := box_there hd
  obtain ⟨y0, y1, z0, z1, hlt, _⟩ := box22 hd
  obtain ⟨h1, h2, h3⟩ := box_cells hd
  have hT0 := box_there h3
  rw [World.size_alloc] at hT1
  rw [hW0] at hT1 hT0 y0 y1 z0 z1 hlt
  have HT0 := Lib.hid hT0
  have HT1 := Lib.hid hT1
  have HB0 := Lib.hid hb0
  have HY := Lib.hid (And.intro y0 y1)
  have HW0 := Lib.hid hW0
  clear hd h1 h2 h3 hr hv hT0 hT1 hb0 y0 y1 hlt hW0
  go_enter Try.func47, Try.ntmps47
  go_upto_region 2 with fail
  rw [HW0.out]
  clear HW0
  go_wp2
  go_loopw [6] (fun i wr => ∃ (k s : Nat), i = .int .i64 k ∧ k ≤ ts.length ∧ Hid (s = sumN (ts.take k)) ∧ wr.cell? ⟨w.heap.size + 1, 0, none⟩ = some (.int .i64 lv) ∧ wr.cell? ⟨w.heap.size + 1, 1, none⟩ = some (.int .u32 s) ∧ Hid (wr.cell? ⟨w.heap.size, 0, none⟩ = some (.int .i64 0) ∧ wr.cell? ⟨w.heap.size, 1, none⟩ = some (.int .u32 0)) ∧ Hid (wr.there w.heap.size 0 2) ∧ Hid (wr.there (w.heap.size + 1) 0 2) ∧ Hid (Below w.heap.size w wr)) (fun i _ => ts.length - (intOf i).toNat)
  case atStart => exact ⟨0, 0, rfl, Nat.zero_le _, Lib.hid (by simp [sumN]), z0, z1, HY, HT0, HT1, HB0⟩
  case round =>
    clear HT0 HT1 HB0 HY
    obtain ⟨k, s, rfl, hk, HS, z0, z1, HY, HT0, HT1, HB⟩ := hrel
    by_cases hkl : k < ts.length
    · obtain ⟨b, o, rfl, hb, hcell⟩ := HR.out (by omega)
      obtain ⟨t, htk⟩ : ∃ t, ts[k] = t := ⟨_, rfl⟩
      have hcr : wr.cell? ⟨b, o + k, none⟩ = some (.int .i64 t) := keep_cell (hcell k _ (by rw [List.map_map, List.getElem?_map, List.getElem?_eq_getElem hkl, htk]; rfl)) HB.out hb
      have ht32 : t < 32 := by rw [← htk]; exact ht _ (List.getElem_mem hkl)
      have hnext : sumN (ts.take (k + 1)) = s + 2 ^ t := by rw [List.take_succ_eq_append_getElem hkl, sumN_snoc, htk, HS.out]
      have hle := sum_take_le ts (k + 1)
      rw [hnext] at hle
      obtain ⟨p, hp⟩ : ∃ p, 2 ^ t = p := ⟨_, rfl⟩
      have HN : Hid (sumN (ts.take (k + 1)) = s + p) := by rw [hp] at hnext; exact hnext
      have HP := Lib.hid hp
      have hsp : s + p < 4294967296 := by rw [hp] at hle; omega
      clear hcell htk hnext hle hp HS
      go_wp2
      go_loopw [7, 8] (fun q j wx => ∃ (m r : Nat), j = .int .i64 m ∧ m ≤ t ∧ q = .int .u32 r ∧ Hid (r = 2 ^ m) ∧ wx = wr) (fun _ j _ => t - (intOf j).toNat)
      case atStart => exact ⟨0, 1, rfl, Nat.zero_le _, rfl, Lib.hid rfl, rfl⟩
      case round =>
        obtain ⟨m, r, rfl, hm, rfl, HRm, hwx⟩ := hrel
        subst hwx
        by_cases hmt : m < t
        · have hI : (m : Int) < (t : Int) := by omega
          have hr2 : r * 2 < 4294967296 := by
            have e : r * 2 = 2 ^ (m + 1) := by rw [HRm.out, Nat.pow_succ]
            have := Nat.pow_le_pow_right (n := 2) (by decide) (show m + 1 ≤ 31 by omega)
            omega
          have q1 : IntKind.u32.wrap ((r : Int) * 2) = ((r * 2 : Nat) : Int) := by rw [IntKind.wrap_u32']; omega
          have HR2 : Hid (r * 2 = 2 ^ (m + 1)) := by show _ = _; rw [HRm.out, Nat.pow_succ]
          generalize r * 2 = r2 at *
          go_wp2
          go_roundw
          case rel => exact ⟨m + 1, r2, by go_num, by omega, rfl, HR2, trivial⟩
          case measure => (simp [intOf]; try omega)
        · obtain rfl : m = t := by omega
          have q1 : IntKind.u32.wrap ((s : Int) + (r : Int)) = ((s + p : Nat) : Int) := by
            rw [HRm.out, HP.out, IntKind.wrap_u32']; omega
          have f1 := there_free HT1.out 1 (by decide)
          generalize s + p = s2 at *
          go_wp2
          go_roundw
          case rel =>
            refine ⟨k + 1, s2, by go_num, by omega, Lib.hid HN.out.symm, ?_, ?_, ?_, ?_, ?_, ?_⟩
            · rw [World.cell?_setCell_other _ _ _ _ (by simp)]; exact z0
            · exact World.cell?_setCell_same' _ _ _ (by rw [z1]; rfl)
            · exact Lib.hid ⟨by rw [World.cell?_setCell_other _ _ _ _ (by simp)]; exact HY.out.1, by rw [World.cell?_setCell_other _ _ _ _ (by simp)]; exact HY.out.2⟩
            · exact Lib.hid (World.there_setCells HT0.out (w.heap.size + 1) 1 [.int .u32 s2])
            · exact Lib.hid (World.there_setCells HT1.out (w.heap.size + 1) 1 [.int .u32 s2])
            · exact Lib.hid (below_put HB.out (by omega))
          case measure => (simp [intOf]; try omega)
    · obtain rfl : k = ts.length := by omega
      obtain ⟨y0, y1⟩ := HY.out
      have f0 := there_free HT0.out 0 (by decide)
      have f1 := there_free HT0.out 1 (by decide)
      have hss : s = sumN ts := by have := HS.out; rwa [List.take_length] at this
      have HSS := Lib.hid hss
      clear hss
      go_wp2
      refine bodyPost_ret (results_agg1 rfl _ _ w.heap.size [.int .i64 lv, .int .u32 s] (.struct _) rfl (World.rangeAt_setCells_same wr w.heap.size 0 [.int .i64 lv, .int .u32 s] HT0.out) Try.underlying34 rfl (by kernel_rfl)) rfl ?_
      exact ⟨by rw [← HSS.out], below_put (below_put HB.out (by omega)) (by omega)⟩
end Go.Proofs.Ytipnhpfpppblhaa
namespace Go.Proofs.Ytipnhpfpppblhaa
open Go.RowKit
def orL (c d n : Nat) : List Nat := (List.range n).filter fun k => c.testBit k || d.testBit k
theorem orL_step (c d k : Nat) : orL c d (k + 1) = orL c d k ++ (if c.testBit k || d.testBit k then [k] else []) := by
  unfold orL
  rw [List.range_succ, List.filter_append]
  congr 1
  cases h : (c.testBit k || d.testBit k) <;> simp [h]
theorem orL_len (c d n : Nat) : (orL c d n).length ≤ n := by
  have := List.length_filter_le (fun k => c.testBit k || d.testBit k) (List.range n)
  rw [List.length_range] at this
  exact this
theorem orL_lt {c d n k : Nat} (h : k ∈ orL c d n) : k < n := List.mem_range.1 (List.mem_filter.1 h).1
theorem orL_sum {c d : Nat} (hc : c < 4294967296) (hd : d < 4294967296) : sumN (orL c d 32) = orN c d := by
  have h1 : sumN (orL c d 32) = c ||| d := teams_or (by omega) (by omega)
  rw [h1]
  unfold orN
  rw [BitVec.toNat_or, BitVec.toNat_ofNat, BitVec.toNat_ofNat, Nat.mod_eq_of_lt (by omega), Nat.mod_eq_of_lt (by omega)]
theorem team_is {c k : Nat} (hk : k < 32) : decide ((k : Int) ∈ teamsI c 32) = c.testBit k := by
  rw [Bool.eq_iff_iff, decide_eq_true_eq, mem_teamsI, mem_teams]
  exact ⟨fun h => h.2, fun h => ⟨hk, h⟩⟩
set_option maxHeartbeats 1600000 in
set_option maxRecDepth 100000 in
theorem rjoin_any (l : Int) (c : Nat) (m : Int) (d : Nat) (w : World) (hc : c < 4294967296) (hd : d < 4294967296) :
    Calls Try.prog 38 #[Lab l c, Lab m d] w fun e w' => e = .returned (LabP (joinL (l, c) (m, d))) ∧ Below w.heap.size w w' := by
  have k1 := rright_any l c
  have k2 := rright_any m d
  cases h1 : rightL l
  · rw [h1] at k1
    have HF : Hid (joinL (l, c) (m, d) = (7, 4294967295)) := by show _ = _; unfold joinL; simp [h1]
    clear h1
    go_enter Try.func38, Try.ntmps38
    go_wp2_with fail
    refine (k1 _).mono ?_
    rintro e w1 ⟨rfl, hb1⟩
    obtain ⟨⟨x0, x1, y0, y1⟩, ⟨z0, z1, hT⟩, hlt, hB1⟩ := box222 hb1
    have f0 := there_free hT 0 (by decide)
    have f1 := there_free hT 1 (by decide)
    have HT := Lib.hid hT
    clear hb1 hT k1 k2
    go_wp2
    refine bodyPost_ret (results_agg1 rfl _ _ (w.heap.size + 1 + 1) [.int .i64 7, .int .u32 4294967295] (.struct _) rfl (World.rangeAt_setCells_same w1 (w.heap.size + 1 + 1) 0 [.int .i64 7, .int .u32 4294967295] HT.out) Try.underlying34 rfl (by kernel_rfl)) rfl ?_
    exact ⟨by rw [HF.out]; rfl, below_put (below_put hB1 (by omega)) (by omega)⟩
  · rw [h1] at k1
    cases h2 : rightL m
    · rw [h2] at k2
      have HF : Hid (joinL (l, c) (m, d) = (7, 4294967295)) := by show _ = _; unfold joinL; simp [h2]
      clear h1 h2
      go_enter Try.func38, Try.ntmps38
      go_wp2_with fail
      refine (k1 _).mono ?_
      rintro e w1 ⟨rfl, hb1⟩
      obtain ⟨⟨x0, x1, y0, y1⟩, ⟨z0, z1, hT⟩, hlt, hB1⟩ := box222 hb1
      clear hb1 k1
      go_wp2_with fail
      refine (k2 _).mono ?_
      rintro e w2 ⟨rfl, hb2⟩
      have z0' := keep_cell z0 hb2 (by omega)
      have z1' := keep_cell z1 hb2 (by omega)
      have hT2 := there_later hT hb2 (by omega)
      have f0 := there_free hT2 0 (by decide)
      have f1 := there_free hT2 1 (by decide)
      have HT := Lib.hid hT2
      have hB2 := hB1.trans (hb2.mono hB1.size)
      clear hT hT2 x0 x1 y0 y1 z0 z1 hb2 hB1 k2
      go_wp2
      refine bodyPost_ret (results_agg1 rfl _ _ (w.heap.size + 1 + 1) [.int .i64 7, .int .u32 4294967295] (.struct _) rfl (World.rangeAt_setCells_same w2 (w.heap.size + 1 + 1) 0 [.int .i64 7, .int .u32 4294967295] HT.out) Try.underlying34 rfl (by kernel_rfl)) rfl ?_
      exact ⟨by rw [HF.out]; rfl, below_put (below_put hB2 (by omega)) (by omega)⟩
    · rw [h2] at k2
      have HF : Hid (joinL (l, c) (m, d) = (max l m, orN c d)) := by show _ = _; unfold joinL; simp [h1, h2]
      clear h1 h2
      have k3 := fun W => teams_any l c W hc
      have k4 := fun W => teams_any m d W hd
      obtain ⟨i0, hi, hz0, hz1, hz2⟩ := info_parts info_int
      have HC := Lib.hid hc
      have HD := Lib.hid hd
      clear hc hd
      go_enter Try.func38, Try.ntmps38
      go_wp2_with fail
      refine (k1 _).mono ?_
      rintro e w1 ⟨rfl, hb1⟩
      obtain ⟨⟨x0, x1, y0, y1⟩, ⟨z0, z1, hT⟩, hlt, hB1⟩ := box222 hb1
      clear hb1 k1
      go_wp2_with fail
      refine (k2 _).mono ?_
      rintro e w2 ⟨rfl, hb2⟩
      have x0' := keep_cell x0 hb2 (by omega)
      have x1' := keep_cell x1 hb2 (by omega)
      have y0' := keep_cell y0 hb2 (by omega)
      have y1' := keep_cell y1 hb2 (by omega)
      have HZ := Lib.hid (And.intro (keep_cell z0 hb2 (by omega)) (keep_cell z1 hb2 (by omega)))
      have HT := Lib.hid (there_later hT hb2 (by omega))
      have HB2 := Lib.hid (hB1.trans (hb2.mono hB1.size))
      have hlt2 := Nat.lt_of_lt_of_le hlt hb2.size
      have HLT := Lib.hid hlt2
      clear hT x0 x1 y0 y1 z0 z1 hb2 hB1 k2 hlt hlt2
      go_wp2
      go_loopw [5, 6] (fun v i wr => ∃ k : Nat, i = .int .i64 k ∧ k ≤ 32 ∧ wr.ownsRow w2.heap.size 3 1 v (orL c d k).length (((orL c d k).map fun (k : Nat) => (k : Int)).map I) ∧ Below w2.heap.size w2 wr) (fun _ i _ => 32 - (intOf i).toNat)
      case atStart => exact ⟨0, rfl, Nat.zero_le _, World.ownsRow_nil _ _ _ _, Below.refl _ _⟩
      case round =>
        obtain ⟨k, rfl, hk, hown, hbr⟩ := hrel
        have hls := HLT.out
        have X0 := keep_cell x0' hbr (by omega)
        have X1 := keep_cell x1' hbr (by omega)
        have Y0 := keep_cell y0' hbr (by omega)
        have Y1 := keep_cell y1' hbr (by omega)
        by_cases hkl : k < 32
        · have hI : (k : Int) < 32 := by omega
          have hstep := orL_step c d k
          have hlen := orL_len c d k
          have tc := team_is (c := c) hkl
          have td := team_is (c := d) hkl
          have ka : ∀ W v, IntsAt W v (teamsI c 32) → Calls Try.prog 46 #[v, .int .i64 k] W fun e w' => e = .returned (.bool (c.testBit k)) ∧ Below W.heap.size W w' := fun W v h => by
            have := has_any (teamsI c 32) k v W h (by have := teamsI_len c 32; omega)
            rw [tc] at this; exact this
          have kb : ∀ W v, IntsAt W v (teamsI d 32) → Calls Try.prog 46 #[v, .int .i64 k] W fun e w' => e = .returned (.bool (d.testBit k)) ∧ Below W.heap.size W w' := fun W v h => by
            have := has_any (teamsI d 32) k v W h (by have := teamsI_len d 32; omega)
            rw [td] at this; exact this
          have HS := Lib.hid hstep
          have HBR := Lib.hid hbr
          have HO := Lib.hid hown
          obtain ⟨va, vc, rfl, _, _⟩ := RdAt.shape (RdAt.own hown)
          clear tc td hstep hbr hown
          have hxl : w.heap.size + 1 < wr.heap.size := by have := HBR.out.size; omega
          go_wp2_with fail
          refine (k3 _).mono ?_
          rintro e w3 ⟨v3, rfl, hi3, hb3⟩
          obtain ⟨a3, c3, rfl, _, _⟩ := RdAt.shape hi3
          have ka1 := ka w3 _ hi3
          have y0 := keep_cell Y0 hb3 hxl
          have y1 := keep_cell Y1 hb3 hxl
          cases hcb : c.testBit k
          · rw [hcb] at ka1
            clear X0 X1 Y0 Y1
            go_wp2_with fail
            refine ka1.mono ?_
            rintro e w4 ⟨rfl, hb4⟩
            have hb34 := hb3.trans (hb4.mono hb3.size)
            have y0' := keep_cell y0 hb4 (by have := hb3.size; omega)
            have y1' := keep_cell y1 hb4 (by have := hb3.size; omega)
            clear y0 y1 hi3 ka1
            go_wp2_with fail
            refine (k4 _).mono ?_
            rintro e w5 ⟨v5, rfl, hi5, hb5⟩
            obtain ⟨a5, c5, rfl, _, _⟩ := RdAt.shape hi5
            have kb1 := kb w5 _ hi5
            have hb35 := hb34.trans (hb5.mono hb34.size)
            cases hdb : d.testBit k
            · rw [hdb] at kb1
              have HBIT : Hid ((c.testBit k || d.testBit k) = false) := by show _ = _; rw [hcb, hdb]; rfl
              clear y0' y1' hcb hdb
              go_wp2_with fail
              refine kb1.mono ?_
              rintro e w6 ⟨rfl, hb6⟩
              have HBN := Lib.hid (hb35.trans (hb6.mono hb35.size))
              clear hb3 hb4 hb5 hb6 hb34 hb35 hi5 kb1
              go_wp2
              go_roundw
              case rel => exact ⟨k + 1, by go_num, by omega, by rw [HS.out, if_neg (by rw [HBIT.out]; decide), List.append_nil]; exact own_later HO.out HBN.out, HBR.out.trans (HBN.out.mono HBR.out.size)⟩
              case measure => (simp [intOf]; try omega)
            · rw [hdb] at kb1
              have HBIT : Hid ((c.testBit k || d.testBit k) = true) := by show _ = _; rw [hcb, hdb]; rfl
              clear y0' y1' hcb hdb
              go_wp2_with fail
              refine kb1.mono ?_
              rintro e w6 ⟨rfl, hb6⟩
              have HBN := Lib.hid (hb35.trans (hb6.mono hb35.size))
              clear hb3 hb4 hb5 hb6 hb34 hb35 hi5 kb1
              have hb9 := alloc_below w6 (.cells #[I k] 3)
              have hown9 := (own_later HO.out HBN.out).alloc (.cells #[I k] 3)
              go_wp2_with (at_builtin; (refine wpList_append_own _ rfl _ _ 98 rfl w2.heap.size 3 i0 (.int .i64 0) 1 8 Try.underlying98 hi hz0 hz1 hz2 rfl (by decide) _ _ _ rfl hown9 ⟨w6.heap.size, 0, none⟩ 1 1 [I k] rfl rfl (cell_one_new _ _ _) (by simp [Value.oneCell']) (by unfold maxLen; omega) (by omega) (by have := HBR.out.size; have := HBN.out.size; simp; omega) ?_); intro v' w8 hown' hg8 hnil8)
              have hB8 : Below w2.heap.size w2 w8 := ((HBR.out.trans (HBN.out.mono HBR.out.size)).trans (hb9.mono (by have := HBR.out.size; have := HBN.out.size; omega))).grown hg8 (by have := HBR.out.size; have := HBN.out.size; simp; omega) (fun j e => (hown9.lt j e).1)
              go_wp2
              go_roundw
              case rel => exact ⟨k + 1, by go_num, by omega, by rw [HS.out, if_pos HBIT.out]; simpa using hown', hB8⟩
              case measure => (simp [intOf]; try omega)
          · rw [hcb] at ka1
            have HBIT : Hid ((c.testBit k || d.testBit k) = true) := by show _ = _; rw [hcb]; rfl
            clear X0 X1 Y0 Y1 y0 y1 hcb
            go_wp2_with fail
            refine ka1.mono ?_
            rintro e w4 ⟨rfl, hb4⟩
            have HBN := Lib.hid (hb3.trans (hb4.mono hb3.size))
            clear hb3 hb4 hi3 ka1
            have hb9 := alloc_below w4 (.cells #[I k] 3)
            have hown9 := (own_later HO.out HBN.out).alloc (.cells #[I k] 3)
            go_wp2_with (at_builtin; (refine wpList_append_own _ rfl _ _ 98 rfl w2.heap.size 3 i0 (.int .i64 0) 1 8 Try.underlying98 hi hz0 hz1 hz2 rfl (by decide) _ _ _ rfl hown9 ⟨w4.heap.size, 0, none⟩ 1 1 [I k] rfl rfl (cell_one_new _ _ _) (by simp [Value.oneCell']) (by unfold maxLen; omega) (by omega) (by have := HBR.out.size; have := HBN.out.size; simp; omega) ?_); intro v' w8 hown' hg8 hnil8)
            have hB8 : Below w2.heap.size w2 w8 := ((HBR.out.trans (HBN.out.mono HBR.out.size)).trans (hb9.mono (by have := HBR.out.size; have := HBN.out.size; omega))).grown hg8 (by have := HBR.out.size; have := HBN.out.size; simp; omega) (fun j e => (hown9.lt j e).1)
            go_wp2
            go_roundw
            case rel => exact ⟨k + 1, by go_num, by omega, by rw [HS.out, if_pos HBIT.out]; simpa using hown', hB8⟩
            case measure => (simp [intOf]; try omega)
        · obtain rfl : k = 32 := by omega
          obtain ⟨va, vc, rfl, _, _⟩ := RdAt.shape (RdAt.own hown)
          have hii : IntsAt wr (.slice va (orL c d 32).length vc) ((orL c d 32).map fun (k : Nat) => (k : Int)) := by
            have := RdAt.own hown
            unfold IntsAt
            rw [List.length_map]
            exact this
          have hof := rof_any (max l m) (orL c d 32) _ wr hii (fun t ht => orL_lt ht) (by have := orL_len c d 32; omega) (by rw [orL_sum HC.out HD.out]; exact orN_lt c d)
          rw [orL_sum HC.out HD.out] at hof
          have HBR := Lib.hid (HB2.out.trans (hbr.mono HB2.out.size))
          have HT3 := Lib.hid (there_later HT.out hbr HLT.out)
          have HZ3 := Lib.hid (And.intro (keep_cell HZ.out.1 hbr HLT.out) (keep_cell HZ.out.2 hbr HLT.out))
          have HLT3 := Lib.hid (Nat.lt_of_lt_of_le HLT.out hbr.size)
          clear hown hii hbr k3 k4 x0' x1' y0' y1' HT HZ HLT
          rw [show ((32 : Nat) : Int) = 32 from rfl]
          generalize (orL c d 32).length = on at *
          go_wp2_with fail
          refine hof.mono ?_
          rintro e w9 ⟨rfl, hb9⟩
          have z0 := keep_cell HZ3.out.1 hb9 HLT3.out
          have z1 := keep_cell HZ3.out.2 hb9 HLT3.out
          have hT9 := there_later HT3.out hb9 HLT3.out
          have f0 := there_free hT9 0 (by decide)
          have f1 := there_free hT9 1 (by decide)
          have HT9 := Lib.hid hT9
          have HB9 := Lib.hid (HBR.out.trans (hb9.mono HBR.out.size))
          clear hT9 hb9 X0 X1 Y0 Y1 hof
          go_wp2
          refine bodyPost_ret (results_agg1 rfl _ _ (w.heap.size + 1 + 1) [.int .i64 (max l m), .int .u32 (orN c d)] (.struct _) rfl (World.rangeAt_setCells_same w9 (w.heap.size + 1 + 1) 0 [.int .i64 (max l m), .int .u32 (orN c d)] HT9.out) Try.underlying34 rfl (by kernel_rfl)) rfl ?_
          exact ⟨by rw [HF.out], below_put (below_put HB9.out (by omega)) (by omega)⟩
end Go.Proofs.Ytipnhpfpppblhaa
namespace Go.Proofs.Ytipnhpfpppblhaa
open Go.RowKit
def NmdFit (l : List Nmd) : Prop := ∀ x ∈ l, x.2.2 < 4294967296
set_option maxHeartbeats 800000 in
set_option maxRecDepth 100000 in
theorem rfind_any (l : List Nmd) (nm : ByteArray) (v : Value) (w : World) (hv : NmdsAt w v l) (hl : l.length ≤ maxLen) :
    Calls Try.prog 37 #[v, .string nm] w fun e w' => e = .returned (.tuple #[findV (findL l nm), .bool (findL l nm).isSome]) ∧ Below w.heap.size w w' := by
  obtain ⟨a, c, rfl, hc, hr⟩ := RdAt.shape hv
  have HR := Lib.hid hr
  have hl63 : l.length ≤ 9223372036854775807 := by unfold maxLen at hl; omega
  have hb0 := alloc_below w (.cells #[.int .i64 0, .int .u32 0] 34)
  have hd := Below.refl (w.alloc (.cells #[.int .i64 0, .int .u32 0] 34)).heap.size (w.alloc (.cells #[.int .i64 0, .int .u32 0] 34))
  have hT := box_there hd
  obtain ⟨z0, z1, hlt, _⟩ := box2 hd
  have HT := Lib.hid hT
  have HB := Lib.hid hb0
  have HLT := Lib.hid hlt
  clear hr hv hT hd hlt hb0
  go_enter Try.func37, Try.ntmps37
  go_upto_region 2 with fail
  change Code.wp _ _ _ _ (w.alloc (.cells #[.int .i64 0, .int .u32 0] 34))
  generalize w.alloc (.cells #[.int .i64 0, .int .u32 0] 34) = w0 at *
  go_loopw [6] (fun i wr => ∃ k : Nat, i = .int .i64 k ∧ k ≤ l.length ∧ Hid (∀ j (h : j < l.length), j < k → decide (l[j].1 = nm) = false) ∧ wr = w0) (fun i _ => l.length - (intOf i).toNat)
  case atStart => exact ⟨0, rfl, Nat.zero_le _, Lib.hid (fun j h hj => absurd hj (Nat.not_lt_zero _)), rfl⟩
  case round =>
    obtain ⟨k, rfl, hk, HN, hwr⟩ := hrel
    subst hwr
    by_cases hkl : k < l.length
    · obtain ⟨b, o, rfl, hb, hcell⟩ := HR.out (by omega)
      have HC := nmdCells_at l k hkl
      obtain ⟨x, hx⟩ : ∃ x, l[k] = x := ⟨_, rfl⟩
      rw [hx] at HC
      have q : ∀ i v, (nmdC x)[i]? = some v → wr.cell? ⟨b, o + k * 3 + i, none⟩ = some v := fun i v hi => keep_cell (by have := hcell _ _ (HC i v hi); rwa [← Nat.add_assoc] at this) HB.out hb
      have c0 : wr.cell? ⟨b, o + k * 3, none⟩ = some (.string x.1) := q 0 _ rfl
      have c1 : wr.cell? ⟨b, o + k * 3 + 1, none⟩ = some (.int .i64 x.2.1) := q 1 _ rfl
      have c2 : wr.cell? ⟨b, o + k * 3 + 2, none⟩ = some (.int .u32 x.2.2) := q 2 _ rfl
      have HX := Lib.hid hx
      have f0 := there_free HT.out 0 (by decide)
      have f1 := there_free HT.out 1 (by decide)
      clear q HC hcell hx
      by_cases hxn : x.1 = nm
      · have hbq : (x.1.toList == nm.toList) = true := bytes_eq_iff.2 hxn
        have HF : Hid (findL l nm = some x) := by
          show _ = _
          rcases idx_find (fun y : Nmd => decide (y.1 = nm)) default l 0 with ⟨k', hk', _, h2, h3, h4⟩ | ⟨_, _, h3⟩
          · have : k' = k := by
              rcases Nat.lt_trichotomy k' k with h | h | h
              · have := HN.out k' hk' h; rw [this] at h3; cases h3
              · exact h
              · have := h4 k hkl h; rw [HX.out, decide_eq_true hxn] at this; cases this
            subst this
            rw [← HX.out]; exact h2
          · have := h3 k hkl; rw [HX.out, decide_eq_true hxn] at this; cases this
        go_wp2
        refine bodyPost_ret (results_agg2 rfl _ _ w.heap.size [.int .i64 x.2.1, .int .u32 x.2.2] (.struct _) rfl (World.rangeAt_setCells_same wr w.heap.size 0 [.int .i64 x.2.1, .int .u32 x.2.2] HT.out) Try.underlying34 rfl (by kernel_rfl)) rfl ?_
        exact ⟨by rw [HF.out]; rfl, below_put (below_put HB.out (Nat.le_refl _)) (Nat.le_refl _)⟩
      · have hbq : (x.1.toList == nm.toList) = false := by rw [bytes_beq]; exact decide_eq_false hxn
        go_wp2
        go_roundw
        case rel => exact ⟨k + 1, by go_num, by omega, Lib.hid (fun j h hj => by
          rcases Nat.lt_or_ge j k with h' | h'
          · exact HN.out j h h'
          · have : j = k := by omega
            subst this
            rw [HX.out]; exact decide_eq_false hxn), trivial⟩
        case measure => (simp [intOf]; try omega)
    · obtain rfl : k = l.length := by omega
      have HF : Hid (findL l nm = none) := by
        show _ = _
        rcases idx_find (fun y : Nmd => decide (y.1 = nm)) default l 0 with ⟨k', hk', _, h2, h3, h4⟩ | ⟨_, h2, h3⟩
        · have := HN.out k' hk' hk'; rw [this] at h3; cases h3
        · exact h2
      have f0 := there_free HT.out 0 (by decide)
      have f1 := there_free HT.out 1 (by decide)
      go_wp2
      refine bodyPost_ret (results_agg2 rfl _ _ w.heap.size [.int .i64 0, .int .u32 0] (.struct _) rfl (World.rangeAt_setCells_same wr w.heap.size 0 [.int .i64 0, .int .u32 0] HT.out) Try.underlying34 rfl (by kernel_rfl)) rfl ?_
      exact ⟨by rw [HF.out]; rfl, below_put (below_put HB.out (Nat.le_refl _)) (Nat.le_refl _)⟩
set_option maxHeartbeats 1600000 in
set_option maxRecDepth 100000 in
theorem rraised_any (s0 s1 s2 s4 s5 : Option Addr × Nat × Nat) (l : List Nmd) (rv : Value) (nm : ByteArray) (lv : Int) (c : Nat) (w : World) (hv : NmdsAt w rv l) (hl : l.length ≤ maxLen) (hfit : NmdFit l) (hc : c < 4294967296) :
    Calls Try.prog 14 #[.agg #[SV s0, SV s1, SV s2, rv, SV s4, SV s5], .string nm, Lab lv c] w fun e w' => e = .returned (LabP (raisedL l nm (lv, c))) ∧ Below w.heap.size w w' := by
  have k1 := fun W (h : Below w.heap.size w W) => rfind_any l nm rv W (hv.later h) hl
  obtain ⟨ra, rc, rfl, _, _⟩ := RdAt.shape hv
  clear hv
  obtain ⟨a0, n0, c0⟩ := s0
  obtain ⟨a1, n1, c1⟩ := s1
  obtain ⟨a2, n2, c2⟩ := s2
  obtain ⟨a4, n4, c4⟩ := s4
  obtain ⟨a5, n5, c5⟩ := s5
  have hB0 : Below w.heap.size w (((w.alloc (.cells #[.slice a0 n0 c0, .slice a1 n1 c1, .slice a2 n2 c2, .slice ra l.length rc, .slice a4 n4 c4, .slice a5 n5 c5] 26)).alloc (.cells #[.int .i64 lv, .int .u32 c] 34)).alloc (.cells #[.int .i64 0, .int .u32 0] 34)) :=
    ((alloc_below _ _).trans ((alloc_below _ _).mono (by simp))).trans ((alloc_below _ _).mono (by simp; omega))
  have k1 := k1 _ hB0
  cases hf : findL l nm with
  | none =>
    have HF : Hid (raisedL l nm (lv, c) = (lv, c)) := by show _ = _; unfold raisedL; rw [hf]
    rw [hf] at k1
    clear hf hB0
    go_enter Try.func14, Try.ntmps14
    go_wp2_with fail
    refine k1.mono ?_
    rintro e w1 ⟨rfl, hb1⟩
    obtain ⟨⟨x0, x1⟩, ⟨z0, z1, hT⟩, hlt, hB1⟩ := box622 hb1
    have ha := alloc_below w1 (.cells #[.int .i64 0, .int .u32 0] 34)
    have x0' := keep_cell x0 ha (by omega)
    have x1' := keep_cell x1 ha (by omega)
    have z0' := keep_cell z0 ha (by omega)
    have z1' := keep_cell z1 ha (by omega)
    have hT2 := there_later hT ha (by omega)
    have f0 := there_free hT2 0 (by decide)
    have f1 := there_free hT2 1 (by decide)
    have HT := Lib.hid hT2
    have hB2 := Lib.hid (hB1.trans (ha.mono hB1.size))
    clear hb1 hT k1 ha x0 x1 z0 z1 hT2 hB1
    simp only [findV, Option.isSome]
    go_upto_region 2 with fail
    change Code.wp _ _ _ _ (w1.alloc (.cells #[.int .i64 0, .int .u32 0] 34))
    generalize w1.alloc (.cells #[.int .i64 0, .int .u32 0] 34) = w2 at *
    go_wp2
    refine bodyPost_ret (results_agg1 rfl _ _ (w.heap.size + 1 + 1) [.int .i64 lv, .int .u32 c] (.struct _) rfl (World.rangeAt_setCells_same _ (w.heap.size + 1 + 1) 0 [.int .i64 lv, .int .u32 c] HT.out) Try.underlying34 rfl (by kernel_rfl)) rfl ?_
    exact ⟨by rw [HF.out], below_put (below_put hB2.out (by omega)) (by omega)⟩
  | some r =>
    have HF : Hid (raisedL l nm (lv, c) = joinL (lv, c) r.2) := by show _ = _; unfold raisedL; rw [hf]
    rw [hf] at k1
    obtain ⟨rn, rl, rcat⟩ := r
    have hrc : rcat < 4294967296 := hfit _ (List.mem_of_find?_eq_some hf)
    have k2 := fun W => rjoin_any lv c rl rcat W hc hrc
    obtain ⟨jl, hjl⟩ : ∃ z, joinL (lv, c) (rl, rcat) = z := ⟨_, rfl⟩
    obtain ⟨j1, j2⟩ := jl
    simp only [hjl] at k2
    rw [show (rn, rl, rcat).2 = (rl, rcat) from rfl, hjl] at HF
    clear hf hB0 hjl hrc
    go_enter Try.func14, Try.ntmps14
    go_wp2_with fail
    refine k1.mono ?_
    rintro e w1 ⟨rfl, hb1⟩
    obtain ⟨⟨x0, x1⟩, ⟨z0, z1, hT⟩, hlt, hB1⟩ := box622 hb1
    have ha := alloc_below w1 (.cells #[.int .i64 rl, .int .u32 rcat] 34)
    have x0' := keep_cell x0 ha (by omega)
    have x1' := keep_cell x1 ha (by omega)
    have z0' := keep_cell z0 ha (by omega)
    have z1' := keep_cell z1 ha (by omega)
    have hT2 := there_later hT ha (by omega)
    have HT := Lib.hid hT2
    have hB2 := Lib.hid (hB1.trans (ha.mono hB1.size))
    have hlt2 : w.heap.size + 1 + 1 < (w1.alloc (.cells #[.int .i64 rl, .int .u32 rcat] 34)).heap.size := by rw [World.size_alloc]; omega
    have HL2 := Lib.hid hlt2
    clear hb1 hT k1 ha x0 x1 z0 z1 hT2 hB1 hlt2
    simp only [findV, Option.isSome]
    go_upto_region 2 with fail
    change Code.wp _ _ _ _ (w1.alloc (.cells #[.int .i64 rl, .int .u32 rcat] 34))
    have y0 : (w1.alloc (.cells #[.int .i64 rl, .int .u32 rcat] 34)).cell? ⟨w1.heap.size, 0, none⟩ = some (.int .i64 rl) := World.cell?_alloc_at _ _ _ _ rfl
    have y1 : (w1.alloc (.cells #[.int .i64 rl, .int .u32 rcat] 34)).cell? ⟨w1.heap.size, 1, none⟩ = some (.int .u32 rcat) := World.cell?_alloc_at _ _ _ _ rfl
    generalize w1.alloc (.cells #[.int .i64 rl, .int .u32 rcat] 34) = w1' at *
    go_wp2_with fail
    refine (k2 _).mono ?_
    rintro e w2 ⟨rfl, hb2⟩
    have z0 := keep_cell z0' hb2 HL2.out
    have z1 := keep_cell z1' hb2 HL2.out
    have hT3 := there_later HT.out hb2 HL2.out
    have f0 := there_free hT3 0 (by decide)
    have f1 := there_free hT3 1 (by decide)
    have HT3 := Lib.hid hT3
    have hB3 := Lib.hid (hB2.out.trans (hb2.mono hB2.out.size))
    clear x0' x1' y0 y1 z0' z1' HT HL2 hb2 hB2 hT3 k2
    go_wp2
    refine bodyPost_ret (results_agg1 rfl _ _ (w.heap.size + 1 + 1) [.int .i64 j1, .int .u32 j2] (.struct _) rfl (World.rangeAt_setCells_same _ (w.heap.size + 1 + 1) 0 [.int .i64 j1, .int .u32 j2] HT3.out) Try.underlying34 rfl (by kernel_rfl)) rfl ?_
    exact ⟨by rw [HF.out], below_put (below_put hB3.out (by omega)) (by omega)⟩
end Go.Proofs.Ytipnhpfpppblhaa
namespace Go.Proofs.Ytipnhpfpppblhaa
open Go.RowKit
theorem min14 (n : Nat) : ∃ k : Nat, k = min n 14 ∧ k ≤ n ∧ k ≤ 14 ∧ min (n : Int) 14 = (k : Int) := ⟨min n 14, rfl, by omega, by omega, by omega⟩
set_option maxHeartbeats 1600000 in
set_option maxRecDepth 100000 in
theorem rcut_any (a0 a1 a2 a3 a4 a5 : Option Addr) (n0 n1 n2 n3 n4 n5 c0 c1 c2 c3 c4 c5 : Nat) (w : World) (h0 : n0 ≤ c0 ∧ c0 ≤ maxLen) (h1 : n1 ≤ c1 ∧ c1 ≤ maxLen) (h2 : n2 ≤ c2 ∧ c2 ≤ maxLen) (h3 : n3 ≤ c3 ∧ c3 ≤ maxLen) (h4 : n4 ≤ c4 ∧ c4 ≤ maxLen) (h5 : n5 ≤ c5 ∧ c5 ≤ maxLen) :
    Calls Try.prog 7 #[.agg #[.slice a0 n0 c0, .slice a1 n1 c1, .slice a2 n2 c2, .slice a3 n3 c3, .slice a4 n4 c4, .slice a5 n5 c5], .int .i64 14] w fun e w' =>
      e = .returned (.agg #[.slice a0 (min n0 14) c0, .slice a1 (min n1 14) c1, .slice a2 (min n2 14) c2, .slice a3 (min n3 14) c3, .slice a4 (min n4 14) c4, .slice a5 (min n5 14) c5]) ∧ Below w.heap.size w w' := by
  obtain ⟨k0, e0, l0, m0, q0⟩ := min14 n0
  obtain ⟨k1, e1, l1, m1, q1⟩ := min14 n1
  obtain ⟨k2, e2, l2, m2, q2⟩ := min14 n2
  obtain ⟨k3, e3, l3, m3, q3⟩ := min14 n3
  obtain ⟨k4, e4, l4, m4, q4⟩ := min14 n4
  obtain ⟨k5, e5, l5, m5, q5⟩ := min14 n5
  rw [← e0, ← e1, ← e2, ← e3, ← e4, ← e5]
  clear e0 e1 e2 e3 e4 e5
  have z0 : k0 ≤ c0 := by omega
  have z1 : k1 ≤ c1 := by omega
  have z2 : k2 ≤ c2 := by omega
  have z3 : k3 ≤ c3 := by omega
  have z4 : k4 ≤ c4 := by omega
  have z5 : k5 ≤ c5 := by omega
  unfold maxLen at h0 h1 h2 h3 h4 h5
  obtain ⟨W0, hW0⟩ : ∃ z, (w.alloc (.cells #[.slice a0 n0 c0, .slice a1 n1 c1, .slice a2 n2 c2, .slice a3 n3 c3, .slice a4 n4 c4, .slice a5 n5 c5] 26)).alloc (.cells #[.slice none 0 0, .slice none 0 0, .slice none 0 0, .slice none 0 0, .slice none 0 0, .slice none 0 0] 26) = z := ⟨_, rfl⟩
  have hb0 : Below w.heap.size w W0 := by rw [← hW0]; exact (alloc_below _ _).trans ((alloc_below _ _).mono (by simp))
  have hd := (Below.refl W0.heap.size W0)
  rw [← hW0] at hd
  obtain ⟨g1, g2, g3⟩ := box_cells hd
  have hT := box_there hd
  have hT1 : W0.there w.heap.size 0 6 := hW0 ▸ box_there g3
  obtain ⟨g4, _, _⟩ := box_cells g3
  rw [World.size_alloc] at g1 hT
  rw [hW0] at g1 g4 hT
  have p0 := g4 0 _ rfl
  have p1 := g4 1 _ rfl
  have p2 := g4 2 _ rfl
  have p3 := g4 3 _ rfl
  have p4 := g4 4 _ rfl
  have p5 := g4 5 _ rfl
  have r0 := g1 0 _ rfl
  have r1 := g1 1 _ rfl
  have r2 := g1 2 _ rfl
  have r3 := g1 3 _ rfl
  have r4 := g1 4 _ rfl
  have r5 := g1 5 _ rfl
  have f0 := there_free hT 0 (by decide)
  have f1 := there_free hT 1 (by decide)
  have f2 := there_free hT 2 (by decide)
  have f3 := there_free hT 3 (by decide)
  have f4 := there_free hT 4 (by decide)
  have f5 := there_free hT 5 (by decide)
  have u0 := there_free hT1 0 (by decide)
  have u1 := there_free hT1 1 (by decide)
  have u2 := there_free hT1 2 (by decide)
  have u3 := there_free hT1 3 (by decide)
  have u4 := there_free hT1 4 (by decide)
  have u5 := there_free hT1 5 (by decide)
  have HB0 := Lib.hid hb0
  have HT := Lib.hid hT
  have HW0 := Lib.hid hW0
  clear hd g1 g2 g3 g4 hT hT1 hb0 hW0
  go_enter Try.func7, Try.ntmps7
  go_upto_region 1 with fail
  rw [HW0.out]
  clear HW0
  go_wp2
  refine bodyPost_ret (results_agg1 rfl _ _ (w.heap.size + 1) [.slice a0 k0 c0, .slice a1 k1 c1, .slice a2 k2 c2, .slice a3 k3 c3, .slice a4 k4 c4, .slice a5 k5 c5] (.struct _) rfl (World.rangeAt_setCells_same _ (w.heap.size + 1) 0 [.slice a0 k0 c0, .slice a1 k1 c1, .slice a2 k2 c2, .slice a3 k3 c3, .slice a4 k4 c4, .slice a5 k5 c5] ?_) Try.underlying26 rfl (by kernel_rfl)) rfl ?_
  · exact World.there_setCells HT.out w.heap.size 0 [.slice a0 k0 c0, .slice a1 k1 c1, .slice a2 k2 c2, .slice a3 k3 c3, .slice a4 k4 c4, .slice a5 k5 c5]
  · exact ⟨rfl, below_puts (g := w.heap.size + 1) (o := 0) (below_puts (g := w.heap.size) (o := 0) HB0.out (Nat.le_refl _) [.slice a0 k0 c0, .slice a1 k1 c1, .slice a2 k2 c2, .slice a3 k3 c3, .slice a4 k4 c4, .slice a5 k5 c5]) (by omega) [.slice a0 k0 c0, .slice a1 k1 c1, .slice a2 k2 c2, .slice a3 k3 c3, .slice a4 k4 c4, .slice a5 k5 c5]⟩
end Go.Proofs.Ytipnhpfpppblhaa

/- Regions that draw their order, taken by hand: two operations are ready. No program in sight. -/
namespace Go
variable {P : Program} {ops : Array Oper} {Q : Exit → Act → World → Prop} {md : Region.Mode} {S : World → Prop}
end Go
namespace Go.Proofs.Ytipnhpfpppblhaa
open Go.RowKit
theorem c6_puts (w : World) (g : Nat) (a b c d e f : Value) (ht : w.there g 0 6) : C6 g a b c d e f (w.setCells g 0 [a, b, c, d, e, f]) := by
  have h := World.rangeAt_setCells_same w g 0 [a, b, c, d, e, f] ht
  refine ⟨?_, ?_, ?_, ?_, ?_, ?_⟩
  · simpa using h 0 a rfl
  · simpa using h 1 b rfl
  · simpa using h 2 c rfl
  · simpa using h 3 d rfl
  · simpa using h 4 e rfl
  · simpa using h 5 f rfl
end Go.Proofs.Ytipnhpfpppblhaa

/- lychgateref09.Lies, SameIds: contracts. -/
namespace Go.Proofs.Ytipnhpfpppblhaa
open Go.RowKit
def liesL (rs : List Nmd) (fl : List Fld) (f t : Int × Nat) : Bool := decide (f = t) || fl.any (fun x => decide (raisedL rs x.1 f = t))
theorem lies_self {rs : List Nmd} {fl : List Fld} {f t : Int × Nat} (h : f = t) : liesL rs fl f t = true := by unfold liesL; rw [decide_eq_true h]; rfl
theorem lies_at {rs : List Nmd} {fl : List Fld} {f t : Int × Nat} {k : Nat} (hk : k < fl.length) (h : raisedL rs fl[k].1 f = t) : liesL rs fl f t = true := by
  unfold liesL
  rw [List.any_eq_true.2 ⟨_, List.getElem_mem hk, decide_eq_true h⟩, Bool.or_true]
theorem lies_no {rs : List Nmd} {fl : List Fld} {f t : Int × Nat} (h0 : f ≠ t) (h : ∀ k (hk : k < fl.length), raisedL rs fl[k].1 f ≠ t) : liesL rs fl f t = false := by
  unfold liesL
  rw [decide_eq_false h0, Bool.false_or, List.any_eq_false]
  intro x hx
  obtain ⟨i, hi, rfl⟩ := List.mem_iff_getElem.1 hx
  rw [decide_eq_false (h i hi)]
  decide
set_option maxHeartbeats 3200000 in
set_option maxRecDepth 100000 in
theorem rlies_any (s0 s1 s2 s4 s5 : Option Addr × Nat × Nat) (rs : List Nmd) (rv : Value) (src : ByteArray) (fl : List Fld) (fv : Value) (lv : Int) (c : Nat) (fr til tl : Int) (tc : Nat) (w : World) (hv : NmdsAt w rv rs) (hl : rs.length ≤ maxLen) (hfit : NmdFit rs) (hc : c < 4294967296) (hf : FldsAt w fv fl) (hfl : fl.length ≤ 1000000) :
    Calls Try.prog 34 #[.agg #[SV s0, SV s1, SV s2, rv, SV s4, SV s5], .agg #[.string src, fv, .int .i64 lv, .int .u32 c, .int .i64 fr, .int .i64 til], Lab tl tc] w fun e w' => e = .returned (.bool (liesL rs fl (lv, c) (tl, tc))) ∧ Below w.heap.size w w' := by
  have kr := fun nm W (h : Below w.heap.size w W) => rraised_any s0 s1 s2 s4 s5 rs rv nm lv c W (hv.later h) hl hfit hc
  obtain ⟨ra, rc, rfl, _, _⟩ := RdAt.shape hv
  obtain ⟨fa, fc, rfl, _, hr⟩ := RdAt.shape hf
  obtain ⟨a0, n0, c0⟩ := s0
  obtain ⟨a1, n1, c1⟩ := s1
  obtain ⟨a2, n2, c2⟩ := s2
  obtain ⟨a4, n4, c4⟩ := s4
  obtain ⟨a5, n5, c5⟩ := s5
  generalize rs.length = n3 at *
  have HR := Lib.hid hr
  have KR := Lib.hid kr
  clear hr kr hv hf hl hfit hc
  obtain ⟨W0, hW0⟩ : ∃ z, ((w.alloc (.cells #[.slice a0 n0 c0, .slice a1 n1 c1, .slice a2 n2 c2, .slice ra n3 rc, .slice a4 n4 c4, .slice a5 n5 c5] 26)).alloc (.cells #[.string src, .slice fa fl.length fc, .int .i64 lv, .int .u32 c, .int .i64 fr, .int .i64 til] 38)).alloc (.cells #[.int .i64 tl, .int .u32 tc] 34) = z := ⟨_, rfl⟩
  have hb0 : Below w.heap.size w W0 := by rw [← hW0]; exact ((alloc_below _ _).trans ((alloc_below _ _).mono (by simp))).trans ((alloc_below _ _).mono (by simp; omega))
  have hz : w.heap.size + 1 + 1 < W0.heap.size := by rw [← hW0]; simp
  have hbb := (Below.refl W0.heap.size W0)
  rw [← hW0] at hbb
  obtain ⟨g1, g2, g3⟩ := box_cells hbb
  obtain ⟨g4, g5, g6, g7⟩ := box_two g3
  rw [hW0] at g1 g4 g5
  simp only [World.size_alloc] at g1
  have HC : Hid (∀ W, Below W0.heap.size W0 W → C6 w.heap.size (.slice a0 n0 c0) (.slice a1 n1 c1) (.slice a2 n2 c2) (.slice ra n3 rc) (.slice a4 n4 c4) (.slice a5 n5 c5) W ∧ (W.cell? ⟨w.heap.size + 1, 1, none⟩ = some (.slice fa fl.length fc) ∧ W.cell? ⟨w.heap.size + 1, 2, none⟩ = some (.int .i64 lv) ∧ W.cell? ⟨w.heap.size + 1, 3, none⟩ = some (.int .u32 c)) ∧ W.cell? ⟨w.heap.size + 1 + 1, 0, none⟩ = some (.int .i64 tl) ∧ W.cell? ⟨w.heap.size + 1 + 1, 1, none⟩ = some (.int .u32 tc)) :=
    Lib.hid (fun W h => ⟨C6.later ⟨g4 0 _ rfl, g4 1 _ rfl, g4 2 _ rfl, g4 3 _ rfl, g4 4 _ rfl, g4 5 _ rfl⟩ h (by omega), ⟨keep_cell (g5 1 _ rfl) h (by omega), keep_cell (g5 2 _ rfl) h (by omega), keep_cell (g5 3 _ rfl) h (by omega)⟩, keep_cell (g1 0 _ rfl) h hz, keep_cell (g1 1 _ rfl) h hz⟩)
  have HB0 := Lib.hid hb0
  have HZ := Lib.hid hz
  have HW0 := Lib.hid hW0
  clear g1 g2 g3 g4 g5 g6 g7 hbb hb0 hz hW0
  go_enter Try.func34, Try.ntmps34
  go_upto_region 1 with fail
  rw [HW0.out]
  clear HW0
  obtain ⟨⟨q0, q1, q2, q3, q4, q5⟩, ⟨x1, x2, x3⟩, t0, t1⟩ := HC.out W0 (Below.refl _ _)
  rcases (show (lv = tl ∧ c = tc) ∨ (lv = tl ∧ c ≠ tc) ∨ lv ≠ tl by omega) with ⟨e1, e2⟩ | hne
  · have HX := Lib.hid (lies_self (rs := rs) (fl := fl) (f := (lv, c)) (t := (tl, tc)) (by rw [e1, e2]))
    subst e1 e2
    go_wp2
    go_ret
    exact ⟨by rw [HX.out]; rfl, HB0.out⟩
  · have HNE : Hid ((lv, c) ≠ (tl, tc)) := Lib.hid (by simp only [ne_eq, Prod.mk.injEq]; omega)
    have hbq : (lv == tl && (c : Int) == (tc : Int)) = false := by
      rw [Bool.and_eq_false_iff, beq_eq_false_iff_ne, beq_eq_false_iff_ne]
      omega
    have hb2 : (lv == tl) = false ∨ ((lv == tl) = true ∧ ((c : Int) == (tc : Int)) = false) := by
      rw [beq_eq_false_iff_ne, beq_eq_false_iff_ne, beq_iff_eq]
      omega
    clear hne hbq
    go_cut [11] from 8 to 11 (fun s11 wx => s11 = .bool false ∧ wx = W0)
    case first =>
      rcases hb2 with h1 | ⟨h1, h2⟩
      · go_wp2
        go_meet
        exact ⟨rfl, rfl⟩
      · go_wp2
        go_meet
        exact ⟨rfl, rfl⟩
    case rest =>
      obtain ⟨rfl, rfl⟩ := hcut
      clear hb2 q0 q1 q2 q3 q4 q5 x1 x2 x3 t0 t1
      go_upto_region 4 with fail
      go_loopw [7] (fun i wr => ∃ k : Nat, i = .int .i64 k ∧ k ≤ fl.length ∧ Hid (∀ j (hj : j < fl.length), j < k → raisedL rs fl[j].1 (lv, c) ≠ (tl, tc)) ∧ Below wc.heap.size wc wr) (fun i _ => fl.length - (intOf i).toNat)
      case atStart => exact ⟨0, rfl, Nat.zero_le _, Lib.hid (fun _ _ h => absurd h (Nat.not_lt_zero _)), Below.refl _ _⟩
      case round =>
        obtain ⟨k, rfl, hk, HT, hbr⟩ := hrel
        have HBR := Lib.hid hbr
        obtain ⟨⟨q0, q1, q2, q3, q4, q5⟩, ⟨x1, x2, x3⟩, t0, t1⟩ := HC.out wr hbr
        have hltw : w.heap.size + 1 + 1 < wr.heap.size := by have := HZ.out; have := hbr.size; omega
        have HBW : Hid (Below w.heap.size w wr) := Lib.hid (HB0.out.trans (hbr.mono HB0.out.size))
        clear hbr
        by_cases hkl : k < fl.length
        · obtain ⟨b, o, rfl, hb, hcell⟩ := HR.out (by omega)
          obtain ⟨h0, _⟩ := fldCells_at fl k hkl
          obtain ⟨nm, hnm⟩ : ∃ z, fl[k].1 = z := ⟨_, rfl⟩
          rw [hnm] at h0
          have f0 : wr.cell? ⟨b, o + k * 2, none⟩ = some (.string nm) := keep_cell (hcell _ _ h0) HBW.out hb
          have hbl : b < wr.heap.size := Nat.lt_of_lt_of_le hb HBW.out.size
          have HYES : Hid (raisedL rs nm (lv, c) = (tl, tc) → liesL rs fl (lv, c) (tl, tc) = true) := Lib.hid (fun h => lies_at hkl (by rw [hnm]; exact h))
          have HNO : Hid (raisedL rs nm (lv, c) ≠ (tl, tc) → ∀ j (hj : j < fl.length), j < k + 1 → raisedL rs fl[j].1 (lv, c) ≠ (tl, tc)) := Lib.hid (fun h j hj hjk => by
            rcases Nat.lt_or_ge j k with h' | h'
            · exact HT.out j hj h'
            · obtain rfl : j = k := by omega
              rw [hnm]; exact h)
          have KN := Lib.hid (fun W (h : Below wr.heap.size wr W) => KR.out nm W (HBW.out.trans (h.mono HBW.out.size)))
          obtain ⟨r1, r2, hrr⟩ : ∃ r1 r2, raisedL rs nm (lv, c) = (r1, r2) := ⟨_, _, rfl⟩
          rw [hrr] at KN HYES HNO
          have hi0 : (0 : Int) ≤ (k : Int) := by omega
          have hi1 : (k : Int) < (fl.length : Int) := by omega
          clear hcell h0 hnm hrr
          rcases (show (r1 = tl ∧ r2 = tc) ∨ (r1 = tl ∧ r2 ≠ tc) ∨ r1 ≠ tl by omega) with ⟨e1, e2⟩ | ⟨e1, e2⟩ | e1
          · have HX := Lib.hid (HYES.out (by rw [e1, e2]))
            obtain rfl := e1.symm
            obtain rfl := e2.symm
            clear HYES HNO
            go_upto_region 6 with fail
            refine wp_region_held_drew (S := (fun W => W.cell? ⟨w.heap.size, 0, none⟩ = some (.slice a0 n0 c0) ∧ W.cell? ⟨w.heap.size, 1, none⟩ = some (.slice a1 n1 c1) ∧ W.cell? ⟨w.heap.size, 2, none⟩ = some (.slice a2 n2 c2) ∧ W.cell? ⟨w.heap.size, 3, none⟩ = some (.slice ra n3 rc) ∧ W.cell? ⟨w.heap.size, 4, none⟩ = some (.slice a4 n4 c4) ∧ W.cell? ⟨w.heap.size, 5, none⟩ = some (.slice a5 n5 c5) ∧ W.cell? ⟨w.heap.size + 1, 1, none⟩ = some (.slice (some ⟨b, o, none⟩) fl.length fc) ∧ W.cell? ⟨w.heap.size + 1, 2, none⟩ = some (.int .i64 lv) ∧ W.cell? ⟨w.heap.size + 1, 3, none⟩ = some (.int .u32 c) ∧ W.cell? ⟨w.heap.size + 1 + 1, 0, none⟩ = some (.int .i64 tl) ∧ W.cell? ⟨w.heap.size + 1 + 1, 1, none⟩ = some (.int .u32 tc) ∧ W.cell? ⟨b, o + k * 2, none⟩ = some (.string nm))) (by kernel_rfl) ⟨q0, q1, q2, q3, q4, q5, x1, x2, x3, t0, t1, f0⟩ (fun hHeld => ?_)
            have hd : Below wr.heap.size wr wr.drew := (Below.refl _ _).drew
            refine held_take (i := 0) (v := ?_) rfl rfl (by kernel_rfl) (by kernel_rfl) (by kernel_rfl) (fun _ _ _ h => h) (by rfl) hHeld ?_ ?_
            rotate_left
            · rintro wh ⟨z0, z1, z2, z3, z4, z5, z6, z7, z8, z9, z10, z11⟩
              go_simp
              (try with_reducible rfl)
            simp only [Act.put, List.setIfInBounds_toArray, List.set_cons_zero, List.set_cons_succ]
            refine held_take (i := 1) (v := ?_) rfl rfl (by kernel_rfl) (by kernel_rfl) (by kernel_rfl) (fun _ _ _ h => h) (by rfl) hHeld ?_ ?_
            rotate_left
            · rintro wh ⟨z0, z1, z2, z3, z4, z5, z6, z7, z8, z9, z10, z11⟩
              go_simp
              (try with_reducible rfl)
            simp only [Act.put, List.setIfInBounds_toArray, List.set_cons_zero, List.set_cons_succ]
            refine held_take (i := 2) (v := ?_) rfl rfl (by kernel_rfl) (by kernel_rfl) (by kernel_rfl) (fun _ _ _ h => h) (by rfl) hHeld ?_ ?_
            rotate_left
            · rintro wh ⟨z0, z1, z2, z3, z4, z5, z6, z7, z8, z9, z10, z11⟩
              go_simp
              (try with_reducible rfl)
            simp only [Act.put, List.setIfInBounds_toArray, List.set_cons_zero, List.set_cons_succ]
            refine held_take (i := 3) (v := ?_) rfl rfl (by kernel_rfl) (by kernel_rfl) (by kernel_rfl) (fun _ _ _ h => h) (by rfl) hHeld ?_ ?_
            rotate_left
            · rintro wh ⟨z0, z1, z2, z3, z4, z5, z6, z7, z8, z9, z10, z11⟩
              go_simp
              (try with_reducible rfl)
            simp only [Act.put, List.setIfInBounds_toArray, List.set_cons_zero, List.set_cons_succ]
            refine held_take (i := 4) (v := ?_) rfl rfl (by kernel_rfl) (by kernel_rfl) (by kernel_rfl) (fun _ _ _ h => h) (by rfl) hHeld ?_ ?_
            rotate_left
            · rintro wh ⟨z0, z1, z2, z3, z4, z5, z6, z7, z8, z9, z10, z11⟩
              go_simp
              (try with_reducible rfl)
            simp only [Act.put, List.setIfInBounds_toArray, List.set_cons_zero, List.set_cons_succ]
            refine held_take (i := 5) (v := ?_) rfl rfl (by kernel_rfl) (by kernel_rfl) (by kernel_rfl) (fun _ _ _ h => h) (by rfl) hHeld ?_ ?_
            rotate_left
            · rintro wh ⟨z0, z1, z2, z3, z4, z5, z6, z7, z8, z9, z10, z11⟩
              go_simp
              (try with_reducible rfl)
            simp only [Act.put, List.setIfInBounds_toArray, List.set_cons_zero, List.set_cons_succ]
            refine held_take (i := 6) (v := ?_) rfl rfl (by kernel_rfl) (by kernel_rfl) (by kernel_rfl) (fun _ _ _ h => h) (by rfl) hHeld ?_ ?_
            rotate_left
            · rintro wh ⟨z0, z1, z2, z3, z4, z5, z6, z7, z8, z9, z10, z11⟩
              go_simp
              (try with_reducible rfl)
            simp only [Act.put, List.setIfInBounds_toArray, List.set_cons_zero, List.set_cons_succ]
            refine held_take (i := 7) (v := ?_) rfl rfl (by kernel_rfl) (by kernel_rfl) (by kernel_rfl) (fun _ _ _ h => h) (by rfl) hHeld ?_ ?_
            rotate_left
            · rintro wh ⟨z0, z1, z2, z3, z4, z5, z6, z7, z8, z9, z10, z11⟩
              go_simp
              (try with_reducible rfl)
            simp only [Act.put, List.setIfInBounds_toArray, List.set_cons_zero, List.set_cons_succ]
            refine held_take (i := 8) (v := ?_) rfl rfl (by kernel_rfl) (by kernel_rfl) (by kernel_rfl) (fun _ _ _ h => h) (by rfl) hHeld ?_ ?_
            rotate_left
            · rintro wh ⟨z0, z1, z2, z3, z4, z5, z6, z7, z8, z9, z10, z11⟩
              go_simp
              (try with_reducible rfl)
            simp only [Act.put, List.setIfInBounds_toArray, List.set_cons_zero, List.set_cons_succ]
            refine held_take (i := 10) (v := ?_) rfl rfl (by kernel_rfl) (by kernel_rfl) (by kernel_rfl) (fun _ _ _ h => h) (by rfl) hHeld ?_ ?_
            rotate_left
            · rintro wh ⟨z0, z1, z2, z3, z4, z5, z6, z7, z8, z9, z10, z11⟩
              go_simp
              (try with_reducible rfl)
            simp only [Act.put, List.setIfInBounds_toArray, List.set_cons_zero, List.set_cons_succ]
            refine held_call (i := 9) rfl (by kernel_rfl) (by rfl) (fun K hK => ?_)
            (go_simp; go_at_call 14; refine (KN.out _ hd).mono ?_; rintro e v9 ⟨rfl, hb9⟩; have hB9 := hd.trans (hb9.mono hd.size))
            refine hK.out _ _ ⟨keep_cell q0 hB9 (by omega), keep_cell q1 hB9 (by omega), keep_cell q2 hB9 (by omega), keep_cell q3 hB9 (by omega), keep_cell q4 hB9 (by omega), keep_cell q5 hB9 (by omega), keep_cell x1 hB9 (by omega), keep_cell x2 hB9 (by omega), keep_cell x3 hB9 (by omega), keep_cell t0 hB9 (by omega), keep_cell t1 hB9 (by omega), keep_cell f0 hB9 hbl⟩ (fun hHeld => ?_)
            clear hK K
            (try simp only [Act.put, List.setIfInBounds_toArray, List.set_cons_zero, List.set_cons_succ])
            refine held_take (i := 11) (v := ?_) rfl rfl (by kernel_rfl) (by kernel_rfl) (by kernel_rfl) (fun _ _ _ h => h) (by rfl) hHeld ?_ ?_
            rotate_left
            · rintro wh ⟨z0, z1, z2, z3, z4, z5, z6, z7, z8, z9, z10, z11⟩
              go_simp
              (try with_reducible rfl)
            simp only [Act.put, List.setIfInBounds_toArray, List.set_cons_zero, List.set_cons_succ]
            refine wpAnyH_done (by kernel_rfl) ?_ _
            go_wp2
            go_ret
            exact ⟨by rw [HX.out]; rfl, HBW.out.trans (hB9.mono HBW.out.size)⟩
          · have HX := Lib.hid (HNO.out (by simp only [ne_eq, Prod.mk.injEq]; omega))
            have g2 : ((r2 : Int) == (tc : Int)) = false := by rw [beq_eq_false_iff_ne]; omega
            obtain rfl := e1.symm
            clear HYES HNO e2
            go_upto_region 6 with fail
            refine wp_region_held_drew (S := (fun W => W.cell? ⟨w.heap.size, 0, none⟩ = some (.slice a0 n0 c0) ∧ W.cell? ⟨w.heap.size, 1, none⟩ = some (.slice a1 n1 c1) ∧ W.cell? ⟨w.heap.size, 2, none⟩ = some (.slice a2 n2 c2) ∧ W.cell? ⟨w.heap.size, 3, none⟩ = some (.slice ra n3 rc) ∧ W.cell? ⟨w.heap.size, 4, none⟩ = some (.slice a4 n4 c4) ∧ W.cell? ⟨w.heap.size, 5, none⟩ = some (.slice a5 n5 c5) ∧ W.cell? ⟨w.heap.size + 1, 1, none⟩ = some (.slice (some ⟨b, o, none⟩) fl.length fc) ∧ W.cell? ⟨w.heap.size + 1, 2, none⟩ = some (.int .i64 lv) ∧ W.cell? ⟨w.heap.size + 1, 3, none⟩ = some (.int .u32 c) ∧ W.cell? ⟨w.heap.size + 1 + 1, 0, none⟩ = some (.int .i64 tl) ∧ W.cell? ⟨w.heap.size + 1 + 1, 1, none⟩ = some (.int .u32 tc) ∧ W.cell? ⟨b, o + k * 2, none⟩ = some (.string nm))) (by kernel_rfl) ⟨q0, q1, q2, q3, q4, q5, x1, x2, x3, t0, t1, f0⟩ (fun hHeld => ?_)
            have hd : Below wr.heap.size wr wr.drew := (Below.refl _ _).drew
            refine held_take (i := 0) (v := ?_) rfl rfl (by kernel_rfl) (by kernel_rfl) (by kernel_rfl) (fun _ _ _ h => h) (by rfl) hHeld ?_ ?_
            rotate_left
            · rintro wh ⟨z0, z1, z2, z3, z4, z5, z6, z7, z8, z9, z10, z11⟩
              go_simp
              (try with_reducible rfl)
            simp only [Act.put, List.setIfInBounds_toArray, List.set_cons_zero, List.set_cons_succ]
            refine held_take (i := 1) (v := ?_) rfl rfl (by kernel_rfl) (by kernel_rfl) (by kernel_rfl) (fun _ _ _ h => h) (by rfl) hHeld ?_ ?_
            rotate_left
            · rintro wh ⟨z0, z1, z2, z3, z4, z5, z6, z7, z8, z9, z10, z11⟩
              go_simp
              (try with_reducible rfl)
            simp only [Act.put, List.setIfInBounds_toArray, List.set_cons_zero, List.set_cons_succ]
            refine held_take (i := 2) (v := ?_) rfl rfl (by kernel_rfl) (by kernel_rfl) (by kernel_rfl) (fun _ _ _ h => h) (by rfl) hHeld ?_ ?_
            rotate_left
            · rintro wh ⟨z0, z1, z2, z3, z4, z5, z6, z7, z8, z9, z10, z11⟩
              go_simp
              (try with_reducible rfl)
            simp only [Act.put, List.setIfInBounds_toArray, List.set_cons_zero, List.set_cons_succ]
            refine held_take (i := 3) (v := ?_) rfl rfl (by kernel_rfl) (by kernel_rfl) (by kernel_rfl) (fun _ _ _ h => h) (by rfl) hHeld ?_ ?_
            rotate_left
            · rintro wh ⟨z0, z1, z2, z3, z4, z5, z6, z7, z8, z9, z10, z11⟩
              go_simp
              (try with_reducible rfl)
            simp only [Act.put, List.setIfInBounds_toArray, List.set_cons_zero, List.set_cons_succ]
            refine held_take (i := 4) (v := ?_) rfl rfl (by kernel_rfl) (by kernel_rfl) (by kernel_rfl) (fun _ _ _ h => h) (by rfl) hHeld ?_ ?_
            rotate_left
            · rintro wh ⟨z0, z1, z2, z3, z4, z5, z6, z7, z8, z9, z10, z11⟩
              go_simp
              (try with_reducible rfl)
            simp only [Act.put, List.setIfInBounds_toArray, List.set_cons_zero, List.set_cons_succ]
            refine held_take (i := 5) (v := ?_) rfl rfl (by kernel_rfl) (by kernel_rfl) (by kernel_rfl) (fun _ _ _ h => h) (by rfl) hHeld ?_ ?_
            rotate_left
            · rintro wh ⟨z0, z1, z2, z3, z4, z5, z6, z7, z8, z9, z10, z11⟩
              go_simp
              (try with_reducible rfl)
            simp only [Act.put, List.setIfInBounds_toArray, List.set_cons_zero, List.set_cons_succ]
            refine held_take (i := 6) (v := ?_) rfl rfl (by kernel_rfl) (by kernel_rfl) (by kernel_rfl) (fun _ _ _ h => h) (by rfl) hHeld ?_ ?_
            rotate_left
            · rintro wh ⟨z0, z1, z2, z3, z4, z5, z6, z7, z8, z9, z10, z11⟩
              go_simp
              (try with_reducible rfl)
            simp only [Act.put, List.setIfInBounds_toArray, List.set_cons_zero, List.set_cons_succ]
            refine held_take (i := 7) (v := ?_) rfl rfl (by kernel_rfl) (by kernel_rfl) (by kernel_rfl) (fun _ _ _ h => h) (by rfl) hHeld ?_ ?_
            rotate_left
            · rintro wh ⟨z0, z1, z2, z3, z4, z5, z6, z7, z8, z9, z10, z11⟩
              go_simp
              (try with_reducible rfl)
            simp only [Act.put, List.setIfInBounds_toArray, List.set_cons_zero, List.set_cons_succ]
            refine held_take (i := 8) (v := ?_) rfl rfl (by kernel_rfl) (by kernel_rfl) (by kernel_rfl) (fun _ _ _ h => h) (by rfl) hHeld ?_ ?_
            rotate_left
            · rintro wh ⟨z0, z1, z2, z3, z4, z5, z6, z7, z8, z9, z10, z11⟩
              go_simp
              (try with_reducible rfl)
            simp only [Act.put, List.setIfInBounds_toArray, List.set_cons_zero, List.set_cons_succ]
            refine held_take (i := 10) (v := ?_) rfl rfl (by kernel_rfl) (by kernel_rfl) (by kernel_rfl) (fun _ _ _ h => h) (by rfl) hHeld ?_ ?_
            rotate_left
            · rintro wh ⟨z0, z1, z2, z3, z4, z5, z6, z7, z8, z9, z10, z11⟩
              go_simp
              (try with_reducible rfl)
            simp only [Act.put, List.setIfInBounds_toArray, List.set_cons_zero, List.set_cons_succ]
            refine held_call (i := 9) rfl (by kernel_rfl) (by rfl) (fun K hK => ?_)
            (go_simp; go_at_call 14; refine (KN.out _ hd).mono ?_; rintro e v9 ⟨rfl, hb9⟩; have hB9 := hd.trans (hb9.mono hd.size))
            refine hK.out _ _ ⟨keep_cell q0 hB9 (by omega), keep_cell q1 hB9 (by omega), keep_cell q2 hB9 (by omega), keep_cell q3 hB9 (by omega), keep_cell q4 hB9 (by omega), keep_cell q5 hB9 (by omega), keep_cell x1 hB9 (by omega), keep_cell x2 hB9 (by omega), keep_cell x3 hB9 (by omega), keep_cell t0 hB9 (by omega), keep_cell t1 hB9 (by omega), keep_cell f0 hB9 hbl⟩ (fun hHeld => ?_)
            clear hK K
            (try simp only [Act.put, List.setIfInBounds_toArray, List.set_cons_zero, List.set_cons_succ])
            refine held_take (i := 11) (v := ?_) rfl rfl (by kernel_rfl) (by kernel_rfl) (by kernel_rfl) (fun _ _ _ h => h) (by rfl) hHeld ?_ ?_
            rotate_left
            · rintro wh ⟨z0, z1, z2, z3, z4, z5, z6, z7, z8, z9, z10, z11⟩
              go_simp
              (try with_reducible rfl)
            simp only [Act.put, List.setIfInBounds_toArray, List.set_cons_zero, List.set_cons_succ]
            refine wpAnyH_done (by kernel_rfl) ?_ _
            go_wp2
            go_roundw
            case rel => exact ⟨k + 1, by go_num, by omega, HX, HBR.out.trans (hB9.mono HBR.out.size)⟩
            case measure => (simp [intOf]; try omega)
          · have HX := Lib.hid (HNO.out (by simp only [ne_eq, Prod.mk.injEq]; omega))
            have g1 : (r1 == tl) = false := by rw [beq_eq_false_iff_ne]; exact e1
            clear HYES HNO e1
            go_upto_region 6 with fail
            refine wp_region_held_drew (S := (fun W => W.cell? ⟨w.heap.size, 0, none⟩ = some (.slice a0 n0 c0) ∧ W.cell? ⟨w.heap.size, 1, none⟩ = some (.slice a1 n1 c1) ∧ W.cell? ⟨w.heap.size, 2, none⟩ = some (.slice a2 n2 c2) ∧ W.cell? ⟨w.heap.size, 3, none⟩ = some (.slice ra n3 rc) ∧ W.cell? ⟨w.heap.size, 4, none⟩ = some (.slice a4 n4 c4) ∧ W.cell? ⟨w.heap.size, 5, none⟩ = some (.slice a5 n5 c5) ∧ W.cell? ⟨w.heap.size + 1, 1, none⟩ = some (.slice (some ⟨b, o, none⟩) fl.length fc) ∧ W.cell? ⟨w.heap.size + 1, 2, none⟩ = some (.int .i64 lv) ∧ W.cell? ⟨w.heap.size + 1, 3, none⟩ = some (.int .u32 c) ∧ W.cell? ⟨w.heap.size + 1 + 1, 0, none⟩ = some (.int .i64 tl) ∧ W.cell? ⟨w.heap.size + 1 + 1, 1, none⟩ = some (.int .u32 tc) ∧ W.cell? ⟨b, o + k * 2, none⟩ = some (.string nm))) (by kernel_rfl) ⟨q0, q1, q2, q3, q4, q5, x1, x2, x3, t0, t1, f0⟩ (fun hHeld => ?_)
            have hd : Below wr.heap.size wr wr.drew := (Below.refl _ _).drew
            refine held_take (i := 0) (v := ?_) rfl rfl (by kernel_rfl) (by kernel_rfl) (by kernel_rfl) (fun _ _ _ h => h) (by rfl) hHeld ?_ ?_
            rotate_left
            · rintro wh ⟨z0, z1, z2, z3, z4, z5, z6, z7, z8, z9, z10, z11⟩
              go_simp
              (try with_reducible rfl)
            simp only [Act.put, List.setIfInBounds_toArray, List.set_cons_zero, List.set_cons_succ]
            refine held_take (i := 1) (v := ?_) rfl rfl (by kernel_rfl) (by kernel_rfl) (by kernel_rfl) (fun _ _ _ h => h) (by rfl) hHeld ?_ ?_
            rotate_left
            · rintro wh ⟨z0, z1, z2, z3, z4, z5, z6, z7, z8, z9, z10, z11⟩
              go_simp
              (try with_reducible rfl)
            simp only [Act.put, List.setIfInBounds_toArray, List.set_cons_zero, List.set_cons_succ]
            refine held_take (i := 2) (v := ?_) rfl rfl (by kernel_rfl) (by kernel_rfl) (by kernel_rfl) (fun _ _ _ h => h) (by rfl) hHeld ?_ ?_
            rotate_left
            · rintro wh ⟨z0, z1, z2, z3, z4, z5, z6, z7, z8, z9, z10, z11⟩
              go_simp
              (try with_reducible rfl)
            simp only [Act.put, List.setIfInBounds_toArray, List.set_cons_zero, List.set_cons_succ]
            refine held_take (i := 3) (v := ?_) rfl rfl (by kernel_rfl) (by kernel_rfl) (by kernel_rfl) (fun _ _ _ h => h) (by rfl) hHeld ?_ ?_
            rotate_left
            · rintro wh ⟨z0, z1, z2, z3, z4, z5, z6, z7, z8, z9, z10, z11⟩
              go_simp
              (try with_reducible rfl)
            simp only [Act.put, List.setIfInBounds_toArray, List.set_cons_zero, List.set_cons_succ]
            refine held_take (i := 4) (v := ?_) rfl rfl (by kernel_rfl) (by kernel_rfl) (by kernel_rfl) (fun _ _ _ h => h) (by rfl) hHeld ?_ ?_
            rotate_left
            · rintro wh ⟨z0, z1, z2, z3, z4, z5, z6, z7, z8, z9, z10, z11⟩
              go_simp
              (try with_reducible rfl)
            simp only [Act.put, List.setIfInBounds_toArray, List.set_cons_zero, List.set_cons_succ]
            refine held_take (i := 5) (v := ?_) rfl rfl (by kernel_rfl) (by kernel_rfl) (by kernel_rfl) (fun _ _ _ h => h) (by rfl) hHeld ?_ ?_
            rotate_left
            · rintro wh ⟨z0, z1, z2, z3, z4, z5, z6, z7, z8, z9, z10, z11⟩
              go_simp
              (try with_reducible rfl)
            simp only [Act.put, List.setIfInBounds_toArray, List.set_cons_zero, List.set_cons_succ]
            refine held_take (i := 6) (v := ?_) rfl rfl (by kernel_rfl) (by kernel_rfl) (by kernel_rfl) (fun _ _ _ h => h) (by rfl) hHeld ?_ ?_
            rotate_left
            · rintro wh ⟨z0, z1, z2, z3, z4, z5, z6, z7, z8, z9, z10, z11⟩
              go_simp
              (try with_reducible rfl)
            simp only [Act.put, List.setIfInBounds_toArray, List.set_cons_zero, List.set_cons_succ]
            refine held_take (i := 7) (v := ?_) rfl rfl (by kernel_rfl) (by kernel_rfl) (by kernel_rfl) (fun _ _ _ h => h) (by rfl) hHeld ?_ ?_
            rotate_left
            · rintro wh ⟨z0, z1, z2, z3, z4, z5, z6, z7, z8, z9, z10, z11⟩
              go_simp
              (try with_reducible rfl)
            simp only [Act.put, List.setIfInBounds_toArray, List.set_cons_zero, List.set_cons_succ]
            refine held_take (i := 8) (v := ?_) rfl rfl (by kernel_rfl) (by kernel_rfl) (by kernel_rfl) (fun _ _ _ h => h) (by rfl) hHeld ?_ ?_
            rotate_left
            · rintro wh ⟨z0, z1, z2, z3, z4, z5, z6, z7, z8, z9, z10, z11⟩
              go_simp
              (try with_reducible rfl)
            simp only [Act.put, List.setIfInBounds_toArray, List.set_cons_zero, List.set_cons_succ]
            refine held_take (i := 10) (v := ?_) rfl rfl (by kernel_rfl) (by kernel_rfl) (by kernel_rfl) (fun _ _ _ h => h) (by rfl) hHeld ?_ ?_
            rotate_left
            · rintro wh ⟨z0, z1, z2, z3, z4, z5, z6, z7, z8, z9, z10, z11⟩
              go_simp
              (try with_reducible rfl)
            simp only [Act.put, List.setIfInBounds_toArray, List.set_cons_zero, List.set_cons_succ]
            refine held_call (i := 9) rfl (by kernel_rfl) (by rfl) (fun K hK => ?_)
            (go_simp; go_at_call 14; refine (KN.out _ hd).mono ?_; rintro e v9 ⟨rfl, hb9⟩; have hB9 := hd.trans (hb9.mono hd.size))
            refine hK.out _ _ ⟨keep_cell q0 hB9 (by omega), keep_cell q1 hB9 (by omega), keep_cell q2 hB9 (by omega), keep_cell q3 hB9 (by omega), keep_cell q4 hB9 (by omega), keep_cell q5 hB9 (by omega), keep_cell x1 hB9 (by omega), keep_cell x2 hB9 (by omega), keep_cell x3 hB9 (by omega), keep_cell t0 hB9 (by omega), keep_cell t1 hB9 (by omega), keep_cell f0 hB9 hbl⟩ (fun hHeld => ?_)
            clear hK K
            (try simp only [Act.put, List.setIfInBounds_toArray, List.set_cons_zero, List.set_cons_succ])
            refine held_take (i := 11) (v := ?_) rfl rfl (by kernel_rfl) (by kernel_rfl) (by kernel_rfl) (fun _ _ _ h => h) (by rfl) hHeld ?_ ?_
            rotate_left
            · rintro wh ⟨z0, z1, z2, z3, z4, z5, z6, z7, z8, z9, z10, z11⟩
              go_simp
              (try with_reducible rfl)
            simp only [Act.put, List.setIfInBounds_toArray, List.set_cons_zero, List.set_cons_succ]
            refine wpAnyH_done (by kernel_rfl) ?_ _
            go_wp2
            go_roundw
            case rel => exact ⟨k + 1, by go_num, by omega, HX, HBR.out.trans (hB9.mono HBR.out.size)⟩
            case measure => (simp [intOf]; try omega)
        · obtain rfl : k = fl.length := by omega
          have HX := Lib.hid (lies_no HNE.out (fun j hj => HT.out j hj hj))
          clear HT hk hkl
          go_wp2
          go_ret
          exact ⟨by rw [HX.out]; rfl, HBW.out⟩
/-! ### SameIds -/
def UsAt (w : World) (v : Value) (ids : List Int) : Prop := RdAt w v ids.length 1 (ids.map U)
set_option maxHeartbeats 1600000 in
set_option maxRecDepth 100000 in
theorem sameids_any (xs ys : List Int) (w : World) (u v : Value) (hx : UsAt w u xs) (hy : UsAt w v ys) (hl : xs.length ≤ maxLen) (hl2 : ys.length ≤ maxLen) :
    Calls Try.prog 11 #[u, v] w fun e w' => e = .returned (.bool (decide (xs = ys))) ∧ Below w.heap.size w w' := by
  obtain ⟨a, c, rfl, hc, hr⟩ := RdAt.shape hx
  obtain ⟨a', c', rfl, hc', hr'⟩ := RdAt.shape hy
  have HR := Lib.hid hr
  have HR' := Lib.hid hr'
  have hm1 : xs.length < 9223372036854775808 := by unfold maxLen at hl; omega
  have hm2 : ys.length < 9223372036854775808 := by unfold maxLen at hl2; omega
  clear hr hr' hx hy hl hl2
  by_cases hlen : xs.length = ys.length
  · have hlen' : (xs.length : Int) = (ys.length : Int) := by omega
    have hb0 : ((xs.length : Int) != (ys.length : Int)) = false := by simp [hlen]
    have HLEN := Lib.hid hlen
    clear hlen hlen'
    go_enter Try.func11, Try.ntmps11
    go_wp2
    go_loopw [5] (fun i wr => ∃ k : Nat, k ≤ xs.length ∧ i = .int .i64 k ∧ Hid (xs.take k = ys.take k) ∧ Below w.heap.size w wr) (fun i _ => xs.length - (intOf i).toNat)
    case atStart => exact ⟨0, Nat.zero_le _, rfl, Lib.hid rfl, Below.refl _ _⟩
    case round =>
      obtain ⟨k, hk, rfl, HT, hbr⟩ := hrel
      by_cases hkl : k < xs.length
      · have hkl2 : k < ys.length := by have := HLEN.out; omega
        obtain ⟨x, hxe⟩ : ∃ x, xs[k] = x := ⟨_, rfl⟩
        obtain ⟨y, hye⟩ : ∃ y, ys[k] = y := ⟨_, rfl⟩
        obtain ⟨b0, o0, rfl, hb0', hcell⟩ := HR.out (by omega)
        obtain ⟨b1, o1, rfl, hb1', hcell'⟩ := HR'.out (by omega)
        have d0 : wr.cell? ⟨b0, o0 + k, none⟩ = some (U x) := keep_cell (hcell k _ (by rw [List.getElem?_map, List.getElem?_eq_getElem hkl, hxe]; rfl)) hbr hb0'
        have d1 : wr.cell? ⟨b1, o1 + k, none⟩ = some (U y) := keep_cell (hcell' k _ (by rw [List.getElem?_map, List.getElem?_eq_getElem hkl2, hye]; rfl)) hbr hb1'
        clear hcell hcell'
        by_cases h1 : x = y
        · have HN : Hid (xs.take (k + 1) = ys.take (k + 1)) := take_step HT.out hkl hkl2 (by rw [hxe, hye, h1])
          have hbe : (x != y) = false := by simp [h1]
          clear hxe hye h1
          go_wp2
          go_quiet (fail)
          have hb2 : Below w.heap.size w (wr.drewN nq) := bl_drewN hbr nq
          generalize wr.drewN nq = wq at *
          go_wp2
          go_roundw
          case rel => exact ⟨k + 1, by omega, by go_num, HN, hb2⟩
          case measure => (simp [intOf]; try omega)
        · have HN : Hid (xs ≠ ys) := ne_at hkl hkl2 (by rw [hxe, hye]; exact h1)
          have hbe : (x != y) = true := by simp [h1]
          clear h1 hxe hye
          go_wp2
          go_quiet (fail)
          have hb2 : Below w.heap.size w (wr.drewN nq) := bl_drewN hbr nq
          generalize wr.drewN nq = wq at *
          go_wp2
          go_ret
          exact ⟨by rw [decide_eq_false HN.out]; rfl, hb2⟩
      · obtain rfl : k = xs.length := by omega
        have HN : Hid (xs = ys) := take_done HLEN.out HT.out
        clear HT
        go_wp2
        go_ret
        exact ⟨by rw [decide_eq_true HN.out]; rfl, hbr⟩
  · have hlen' : ¬ (xs.length : Int) = (ys.length : Int) := by omega
    go_enter Try.func11, Try.ntmps11
    go_wp2
    go_ret
    exact ⟨by rw [decide_eq_false (fun h => hlen (by rw [h]))]; rfl, Below.refl _ _⟩
end Go.Proofs.Ytipnhpfpppblhaa

/- Several parts in one: lychgateref06.Name: a contract, the same as match.Name's. lychgateref06.Ahead, Right: contracts, the same as match's. lychgateref06.Right: a contract, the same as match.Right's. -/
namespace Go.Proofs.Ytipnhpfpppblhaa.refName
open Go.RowKit
def clB (l : List UInt8) : Bool := !(l.head?.any fun c => digN c.toNat) && !(l.any fun c => oddN c.toNat)
theorem nameL_clB (l : List UInt8) : nameL l = (decide (1 ≤ l.length) && decide (l.length ≤ 12) && clB l) := by
  cases l with
  | nil => rfl
  | cons c l => simp [nameL, clB, Bool.and_assoc]
theorem clB_one (c : UInt8) : clB [c] = (!digN c.toNat && !oddN c.toNat) := by simp [clB]
theorem clB_snoc {l : List UInt8} (h : l ≠ []) (c : UInt8) : clB (l ++ [c]) = (clB l && !oddN c.toNat) := by
  obtain ⟨d, r, rfl⟩ := List.exists_cons_of_ne_nil h
  simp [clB, Bool.and_assoc]
theorem clB_bad {l : List UInt8} (k : Nat) (h : clB (l.take k) = false) : clB l = false := by
  cases l with
  | nil => simpa using h
  | cons c l =>
    cases k with
    | zero => cases h
    | succ k =>
      rw [List.take_succ_cons] at h
      simp only [clB, List.head?_cons, Bool.and_eq_false_iff, Bool.not_eq_false'] at *
      rcases h with h | h
      · exact .inl h
      · right
        rw [List.any_eq_true] at *
        obtain ⟨x, hx, hp⟩ := h
        refine ⟨x, ?_, hp⟩
        rcases List.mem_cons.1 hx with rfl | hx
        · exact List.mem_cons_self ..
        · exact List.mem_cons_of_mem _ (List.mem_of_mem_take hx)
set_option maxHeartbeats 1600000 in
theorem name_any (s : ByteArray) (w : World) (hs : s.size ≤ maxLen) :
    Calls Try.prog 35 #[.string s] w fun e w' => e = .returned (.bool (nameL (B s))) ∧ w = w' := by
  unfold maxLen at hs
  have HNL : Hid (nameL (B s) = (decide (1 ≤ s.size) && decide (s.size ≤ 12) && clB (B s))) := by show _ = _; rw [nameL_clB, len_B]
  go_enter Try.func35, Try.ntmps35
  go_wp2
  go_loop [3] (fun x => ∃ k : Nat, k ≤ s.size ∧ x = .int .i64 k ∧ Hid (clB ((B s).take k) = true)) (fun x => s.size - (intOf x).toNat)
  case atStart => exact ⟨0, Nat.zero_le _, rfl, rfl⟩
  case round =>
    obtain ⟨k, hk, rfl, HC⟩ := hrel
    by_cases hlt : k < s.size
    · have HT1 : Hid ((B s).take (k + 1) = (B s).take k ++ [s[k]]) := take_succ_B s k hlt
      have hstep : clB ((B s).take (k + 1)) = (!(oddN s[k].toNat) && !(decide (k = 0) && digN s[k].toNat)) := by
        rw [HT1.out]
        by_cases h0 : k = 0
        · subst h0
          rw [List.take_zero, List.nil_append, clB_one]
          simp [Bool.and_comm]
        · rw [clB_snoc (by
            intro e
            have := congrArg List.length e
            rw [List.length_take, len_B, List.length_nil] at this
            omega), HC.out]
          simp [h0]
      have HST := Lib.hid hstep
      clear hstep
      rcases (show (s[k].toNat : Int) < 48 ∨ ((48 : Int) ≤ (s[k].toNat : Int) ∧ (s[k].toNat : Int) ≤ 57) ∨ (57 < (s[k].toNat : Int) ∧ (s[k].toNat : Int) < 95) ∨ (s[k].toNat : Int) = 95 ∨ (s[k].toNat : Int) = 96 ∨ ((97 : Int) ≤ (s[k].toNat : Int) ∧ (s[k].toNat : Int) ≤ 122) ∨ 122 < (s[k].toNat : Int) by omega) with h | ⟨h, h'⟩ | ⟨h, h'⟩ | h | h | ⟨h, h'⟩ | h
      · have ho : oddN s[k].toNat = true := by simp [oddN]; omega
        have hd : digN s[k].toNat = false := by simp [digN]; omega
        have HO := Lib.hid ho
        have HD := Lib.hid hd
        clear ho hd
        have HR : Hid (nameL (B s) = false) := by
          show _ = _
          rw [HNL.out, clB_bad (k + 1) (by rw [HST.out, HO.out]; simp), Bool.and_false]
        clear HNL
        have e1 : ((s[k].toNat : Int) != 95) = true := by rw [bne_iff_ne]; omega
        go_wp2
        go_ret
        exact ⟨by rw [HR.out]; rfl, rfl⟩
      · have ho : oddN s[k].toNat = false := by simp [oddN]; omega
        have hd : digN s[k].toNat = true := by simp [digN]; omega
        have HO := Lib.hid ho
        have HD := Lib.hid hd
        clear ho hd
        by_cases h0 : k = 0
        · subst h0
          have HR : Hid (nameL (B s) = false) := by
            show _ = _
            rw [HNL.out, clB_bad (0 + 1) (by rw [HST.out, HO.out, HD.out]; simp), Bool.and_false]
          clear HNL
          have e1 : ((s[0].toNat : Int) != 95) = true := by rw [bne_iff_ne]; omega
          go_wp2
          go_ret
          exact ⟨by rw [HR.out]; rfl, rfl⟩
        · have hk0 : 0 < k := by omega
          have HN : Hid (clB ((B s).take (k + 1)) = true) := by show _ = _; rw [HST.out, HO.out]; simp [h0]
          have e1 : ((s[k].toNat : Int) != 95) = true := by rw [bne_iff_ne]; omega
          clear h0
          go_wp2
          go_round
          case rel => exact ⟨k + 1, by omega, by go_num, HN⟩
          case measure => simp [intOf]; omega
      · have ho : oddN s[k].toNat = true := by simp [oddN]; omega
        have hd : digN s[k].toNat = false := by simp [digN]; omega
        have HO := Lib.hid ho
        have HD := Lib.hid hd
        clear ho hd
        have HR : Hid (nameL (B s) = false) := by
          show _ = _
          rw [HNL.out, clB_bad (k + 1) (by rw [HST.out, HO.out]; simp), Bool.and_false]
        clear HNL
        have e1 : ((s[k].toNat : Int) != 95) = true := by rw [bne_iff_ne]; omega
        go_wp2
        go_ret
        exact ⟨by rw [HR.out]; rfl, rfl⟩
      · have ho : oddN s[k].toNat = false := by simp [oddN]; omega
        have hd : digN s[k].toNat = false := by simp [digN]; omega
        have HO := Lib.hid ho
        have HD := Lib.hid hd
        clear ho hd
        have HN : Hid (clB ((B s).take (k + 1)) = true) := by show _ = _; rw [HST.out, HO.out, HD.out]; simp
        have e1 : ((s[k].toNat : Int) != 95) = false := by rw [bne_eq_false_iff_eq]; omega
        have e2 : (s[k].toNat : Int) < 97 := by omega
        clear h
        go_wp2
        go_round
        case rel => exact ⟨k + 1, by omega, by go_num, HN⟩
        case measure => simp [intOf]; omega
      · have ho : oddN s[k].toNat = true := by simp [oddN]; omega
        have hd : digN s[k].toNat = false := by simp [digN]; omega
        have HO := Lib.hid ho
        have HD := Lib.hid hd
        clear ho hd
        have HR : Hid (nameL (B s) = false) := by
          show _ = _
          rw [HNL.out, clB_bad (k + 1) (by rw [HST.out, HO.out]; simp), Bool.and_false]
        clear HNL
        have e1 : ((s[k].toNat : Int) != 95) = true := by rw [bne_iff_ne]; omega
        have e2 : (s[k].toNat : Int) < 97 := by omega
        have e3 : 57 < (s[k].toNat : Int) := by omega
        clear h
        go_wp2
        go_ret
        exact ⟨by rw [HR.out]; rfl, rfl⟩
      · have ho : oddN s[k].toNat = false := by simp [oddN]; omega
        have hd : digN s[k].toNat = false := by simp [digN]; omega
        have HO := Lib.hid ho
        have HD := Lib.hid hd
        clear ho hd
        have HN : Hid (clB ((B s).take (k + 1)) = true) := by show _ = _; rw [HST.out, HO.out, HD.out]; simp
        go_wp2
        go_round
        case rel => exact ⟨k + 1, by omega, by go_num, HN⟩
        case measure => simp [intOf]; omega
      · have ho : oddN s[k].toNat = true := by simp [oddN]; omega
        have hd : digN s[k].toNat = false := by simp [digN]; omega
        have HO := Lib.hid ho
        have HD := Lib.hid hd
        clear ho hd
        have HR : Hid (nameL (B s) = false) := by
          show _ = _
          rw [HNL.out, clB_bad (k + 1) (by rw [HST.out, HO.out]; simp), Bool.and_false]
        clear HNL
        have e1 : ((s[k].toNat : Int) != 95) = true := by rw [bne_iff_ne]; omega
        have e4 : decide ((s[k].toNat : Int) ≤ 122) = false := by rw [decide_eq_false_iff_not]; omega
        go_wp2
        go_ret
        exact ⟨by rw [HR.out]; rfl, rfl⟩
    · obtain rfl : k = s.size := by omega
      have HC' : Hid (clB (B s) = true) := by
        have := HC.out
        rw [take_all_B] at this
        exact this
      clear HC
      by_cases h1 : 1 ≤ (s.size : Int)
      · by_cases h2 : (s.size : Int) ≤ 12
        · have HR : Hid (nameL (B s) = true) := by
            show _ = _
            rw [HNL.out, HC'.out, decide_eq_true (by omega), decide_eq_true (by omega)]; rfl
          clear HNL
          go_wp2
          go_ret
          exact ⟨by rw [HR.out]; rfl, rfl⟩
        · have HR : Hid (nameL (B s) = false) := by
            show _ = _
            rw [HNL.out, decide_eq_false (p := s.size ≤ 12) (by omega)]; simp
          clear HNL
          go_wp2
          go_ret
          exact ⟨by rw [HR.out]; rfl, rfl⟩
      · have HR : Hid (nameL (B s) = false) := by
          show _ = _
          rw [HNL.out, decide_eq_false (p := 1 ≤ s.size) (by omega)]; simp
        clear HNL
        go_wp2
        go_ret
        exact ⟨by rw [HR.out]; rfl, rfl⟩
end Go.Proofs.Ytipnhpfpppblhaa.refName
namespace Go.Proofs.Ytipnhpfpppblhaa
open Go.RowKit
theorem less_at {a b : List UInt8} : ∀ (k : Nat) (ha : k < a.length) (hb : k < b.length), a.take k = b.take k → a[k] ≠ b[k] → Op.bytesLess a b = decide (a[k] < b[k]) := by
  intro k
  induction k generalizing a b with
  | zero =>
    intro ha hb _ hne
    obtain ⟨x, a, rfl⟩ := List.exists_cons_of_length_pos ha
    obtain ⟨y, b, rfl⟩ := List.exists_cons_of_length_pos hb
    simp only [List.getElem_cons_zero] at hne ⊢
    have h1 : (x == y) = false := by rw [beq_eq_false_iff_ne]; exact hne
    simp [Op.bytesLess, h1]
  | succ k ih =>
    intro ha hb ht hne
    obtain ⟨x, a, rfl⟩ := List.exists_cons_of_length_pos (Nat.lt_of_le_of_lt (Nat.zero_le _) ha)
    obtain ⟨y, b, rfl⟩ := List.exists_cons_of_length_pos (Nat.lt_of_le_of_lt (Nat.zero_le _) hb)
    simp only [List.take_succ_cons, List.cons.injEq] at ht
    obtain ⟨rfl, ht⟩ := ht
    simp only [List.getElem_cons_succ] at hne ⊢
    have := ih (by simpa using ha) (by simpa using hb) ht hne
    simp [Op.bytesLess, this]
theorem less_end {a b : List UInt8} : ∀ (k : Nat), a.take k = b.take k → (k = a.length ∧ k ≤ b.length ∨ k = b.length ∧ k ≤ a.length) → Op.bytesLess a b = decide (a.length < b.length) := by
  intro k
  induction k generalizing a b with
  | zero =>
    intro _ h
    rcases h with ⟨h, _⟩ | ⟨h, _⟩
    · have : a = [] := List.length_eq_zero_iff.1 h.symm
      subst this
      cases b <;> simp [Op.bytesLess]
    · have : b = [] := List.length_eq_zero_iff.1 h.symm
      subst this
      cases a <;> simp [Op.bytesLess]
  | succ k ih =>
    intro ht h
    have ha : 0 < a.length := by omega
    have hb : 0 < b.length := by omega
    obtain ⟨x, a, rfl⟩ := List.exists_cons_of_length_pos ha
    obtain ⟨y, b, rfl⟩ := List.exists_cons_of_length_pos hb
    simp only [List.take_succ_cons, List.cons.injEq] at ht
    obtain ⟨rfl, ht⟩ := ht
    simp only [List.length_cons] at h ⊢
    have := ih ht (by omega)
    simp [Op.bytesLess, this]
theorem B_at (s : ByteArray) (k : Nat) (h : k < s.size) (h' : k < (B s).length) : (B s)[k] = s[k] := by
  have h1 := take_succ_B s k h
  rw [List.take_succ_eq_append_getElem h'] at h1
  have := List.append_cancel_left h1
  simpa using this
set_option maxHeartbeats 1600000 in
set_option maxRecDepth 100000 in
theorem rahead_any (a b : ByteArray) (w : World) (ha : a.size ≤ maxLen) :
    Calls Try.prog 62 #[.string a, .string b] w fun e w' => e = .returned (.bool (ltS a b)) ∧ Below w.heap.size w w' := by
  unfold maxLen at ha
  have HL : Hid (ltS a b = Op.bytesLess (B a) (B b)) := by show _ = _; unfold ltS; rw [toList_B, toList_B]
  go_enter Try.func62, Try.ntmps62
  go_wp2
  go_loopw [5] (fun i wr => ∃ k : Nat, k ≤ a.size ∧ k ≤ b.size ∧ i = .int .i64 k ∧ Hid ((B a).take k = (B b).take k) ∧ Below w.heap.size w wr) (fun i _ => a.size - (intOf i).toNat)
  case atStart => exact ⟨0, Nat.zero_le _, Nat.zero_le _, rfl, Lib.hid rfl, Below.refl _ _⟩
  case round =>
    obtain ⟨k, hk1, hk2, rfl, HT, hbr⟩ := hrel
    by_cases h1 : k < a.size
    · by_cases h2 : k < b.size
      · obtain ⟨x, hx⟩ : ∃ x, a[k] = x := ⟨_, rfl⟩
        obtain ⟨y, hy⟩ : ∃ y, b[k] = y := ⟨_, rfl⟩
        have l1 : k < (B a).length := by rw [len_B]; exact h1
        have l2 : k < (B b).length := by rw [len_B]; exact h2
        by_cases hxy : x = y
        · have HN : Hid ((B a).take (k + 1) = (B b).take (k + 1)) := take_step HT.out l1 l2 (by rw [B_at a k h1 l1, B_at b k h2 l2, hx, hy, hxy])
          have hne : ((x.toNat : Int) != (y.toNat : Int)) = false := by rw [hxy]; simp
          clear l1 l2 hxy
          go_wp2
          go_quiet (fail)
          have hb2 : Below w.heap.size w (wr.drewN nq) := bl_drewN hbr nq
          generalize wr.drewN nq = wq at *
          go_wp2
          go_roundw
          case rel => exact ⟨k + 1, by omega, by omega, by go_num, HN, hb2⟩
          case measure => simp [intOf]; omega
        · have hr : ltS a b = decide (x < y) := by
            rw [HL.out, less_at k l1 l2 HT.out (by rw [B_at a k h1 l1, B_at b k h2 l2, hx, hy]; exact hxy), B_at a k h1 l1, B_at b k h2 l2, hx, hy]
          have HR := Lib.hid hr
          have hne : ((x.toNat : Int) != (y.toNat : Int)) = true := by
            rw [bne_iff_ne]; intro h; exact hxy (UInt8.toNat_inj.1 (by omega))
          clear l1 l2 hxy hr
          go_wp2
          go_quiet (fail)
          have hb2 : Below w.heap.size w (wr.drewN nq) := bl_drewN hbr nq
          generalize wr.drewN nq = wq at *
          clear nq
          go_wp2
          go_quiet (fail)
          have hb3 : Below w.heap.size w (wq.drewN nq) := bl_drewN hb2 nq
          generalize wq.drewN nq = wz at *
          go_wp2
          go_ret
          exact ⟨by rw [HR.out]; simp [UInt8.lt_iff_toNat_lt], hb3⟩
      · obtain rfl : k = b.size := by omega
        have hr : ltS a b = decide ((B a).length < (B b).length) := by rw [HL.out]; exact less_end b.size HT.out (.inr ⟨(len_B b).symm, by rw [len_B]; exact hk1⟩)
        rw [len_B, len_B] at hr
        have HR := Lib.hid hr
        clear hr
        go_wp2
        go_ret
        exact ⟨by rw [HR.out]; simp, hbr⟩
    · obtain rfl : k = a.size := by omega
      have hr : ltS a b = decide ((B a).length < (B b).length) := by rw [HL.out]; exact less_end a.size HT.out (.inl ⟨(len_B a).symm, by rw [len_B]; exact hk2⟩)
      rw [len_B, len_B] at hr
      have HR := Lib.hid hr
      clear hr
      go_wp2
      go_ret
      exact ⟨by rw [HR.out]; simp, hbr⟩
end Go.Proofs.Ytipnhpfpppblhaa
namespace Go.Proofs.Ytipnhpfpppblhaa
open Go.RowKit
set_option maxHeartbeats 3200000 in
set_option maxRecDepth 100000 in
theorem rright6_any (l : List Fld) (w : World) (v : Value) (hv : FldsAt w v l) (hf : FldsFit l) (hl : l.length ≤ maxLen) :
    Calls Try.prog 36 #[v] w fun e w' => e = .returned (.bool (rightF l)) ∧ Below w.heap.size w w' := by
  unfold maxLen at hl
  obtain ⟨a, c, rfl, hc, hr⟩ := RdAt.shape hv
  have HR := Lib.hid hr
  have HF := Lib.hid hf
  clear hr hv hf
  go_enter Try.func36, Try.ntmps36
  go_wp2
  go_loopw [3] (fun i wr => ∃ k : Nat, k ≤ l.length ∧ i = .int .i64 k ∧ Hid (∀ j, j < k → fldOk l j = true) ∧ Below w.heap.size w wr) (fun i _ => l.length - (intOf i).toNat)
  case atStart => exact ⟨0, Nat.zero_le _, rfl, Lib.hid (fun j hj => absurd hj (Nat.not_lt_zero j)), Below.refl _ _⟩
  case round =>
    obtain ⟨k, hk, rfl, HT, hbr⟩ := hrel
    by_cases hkl : k < l.length
    · obtain ⟨b, o, rfl, hb, hcell⟩ := HR.out (by omega)
      obtain ⟨x, hxe⟩ : ∃ x, l[k].1 = x := ⟨_, rfl⟩
      obtain ⟨y, hye⟩ : ∃ y, l[k].2 = y := ⟨_, rfl⟩
      have hfs := HF.out _ (List.getElem_mem hkl)
      rw [hxe, hye] at hfs
      obtain ⟨hx0, hy0⟩ := fldCells_at l k hkl
      rw [hxe] at hx0
      rw [hye] at hy0
      have a0 : wr.cell? ⟨b, o + k * 2, none⟩ = some (.string x) := keep_cell (hcell _ _ hx0) hbr hb
      have a1 : wr.cell? ⟨b, o + k * 2 + 1, none⟩ = some (.string y) := keep_cell (by have := hcell _ _ hy0; rwa [← Nat.add_assoc] at this) hbr hb
      have hwb : b < wr.heap.size := Nat.lt_of_lt_of_le hb hbr.size
      have hall : ∀ j v, (fldCells l)[j]? = some v → wr.cell? ⟨b, o + j, none⟩ = some v := fun j v hj => keep_cell (hcell _ _ hj) hbr hb
      have hn : ∀ W, Calls Try.prog 35 #[.string x] W fun e w' => e = .returned (.bool (nameL (B x))) ∧ w' = W := fun W => (refName.name_any x W hfs.1).mono (by rintro e w' ⟨h1, h2⟩; exact ⟨h1, h2.symm⟩)
      have hys : y.size ≤ 9223372036854775807 := by have := hfs.2; unfold maxLen at this; omega
      have hstep : fldOk l k = true → Hid (∀ j, j < k + 1 → fldOk l j = true) := fun h => Lib.hid (fun j hj => by
        rcases Nat.lt_or_ge j k with h' | h'
        · exact HT.out j h'
        · obtain rfl : j = k := by omega
          exact h)
      have hbad : fldOk l k = false → Hid (rightF l = false) := fun h => rightF_bad hkl h
      have hgx : l.getD k default = (x, y) := by rw [List.getD_eq_getElem?_getD, List.getElem?_eq_getElem hkl]; show l[k] = _; rw [← hxe, ← hye]
      unfold fldOk at hstep hbad
      rw [hgx] at hstep hbad
      clear hcell hx0 hy0 hxe hye hgx HT
      cases hnm : nameL (B x)
      · have HZ := hbad (by rw [hnm]; rfl)
        rw [hnm] at hn
        clear hstep hbad hall hnm hfs
        go_upto_region 4 with fail
        refine wp_region_held_drew (S := (fun W => W.cell? ⟨b, o + k * 2, none⟩ = some (.string x) ∧ W.cell? ⟨b, o + k * 2 + 1, none⟩ = some (.string y))) (by kernel_rfl) ⟨a0, a1⟩ (fun hHeld => ?_)
        refine held_take (i := 0) (v := ?_) rfl rfl (by kernel_rfl) (by kernel_rfl) (by kernel_rfl) (fun _ _ _ h => h) (by rfl) hHeld ?_ ?_
        rotate_left
        · rintro wh ⟨z0, z1⟩
          go_simp
          (try with_reducible rfl)
        simp only [Act.put, List.setIfInBounds_toArray, List.set_cons_zero, List.set_cons_succ]
        refine held_take (i := 1) (v := ?_) rfl rfl (by kernel_rfl) (by kernel_rfl) (by kernel_rfl) (fun _ _ _ h => h) (by rfl) hHeld ?_ ?_
        rotate_left
        · rintro wh ⟨z0, z1⟩
          go_simp
          (try with_reducible rfl)
        simp only [Act.put, List.setIfInBounds_toArray, List.set_cons_zero, List.set_cons_succ]
        refine held_take (i := 2) (v := ?_) rfl rfl (by kernel_rfl) (by kernel_rfl) (by kernel_rfl) (fun _ _ _ h => h) (by rfl) hHeld ?_ ?_
        rotate_left
        · rintro wh ⟨z0, z1⟩
          go_simp
          (try with_reducible rfl)
        simp only [Act.put, List.setIfInBounds_toArray, List.set_cons_zero, List.set_cons_succ]
        refine held_take (i := 3) (v := ?_) rfl rfl (by kernel_rfl) (by kernel_rfl) (by kernel_rfl) (fun _ _ _ h => h) (by rfl) hHeld ?_ ?_
        rotate_left
        · rintro wh ⟨z0, z1⟩
          go_simp
          (try with_reducible rfl)
        simp only [Act.put, List.setIfInBounds_toArray, List.set_cons_zero, List.set_cons_succ]
        refine held_take (i := 4) (v := ?_) rfl rfl (by kernel_rfl) (by kernel_rfl) (by kernel_rfl) (fun _ _ _ h => h) (by rfl) hHeld ?_ ?_
        rotate_left
        · rintro wh ⟨z0, z1⟩
          go_simp
          (try with_reducible rfl)
        simp only [Act.put, List.setIfInBounds_toArray, List.set_cons_zero, List.set_cons_succ]
        refine held_call (i := 5) rfl (by kernel_rfl) (by rfl) (fun K hK => ?_)
        (go_simp; go_at_call 35; refine (hn _).mono ?_; rintro e w1 ⟨rfl, rfl⟩; have hB1 : Below wr.heap.size wr wr.drew := (Below.refl _ _).drew)
        refine hK.out _ _ ⟨keep_cell a0 hB1 hwb, keep_cell a1 hB1 hwb⟩ (fun hHeld => ?_)
        clear hK K
        (try simp only [Act.put, List.setIfInBounds_toArray, List.set_cons_zero, List.set_cons_succ])
        refine held_take (i := 6) (v := ?_) rfl rfl (by kernel_rfl) (by kernel_rfl) (by kernel_rfl) (fun _ _ _ h => h) (by rfl) hHeld ?_ ?_
        rotate_left
        · rintro wh ⟨z0, z1⟩
          go_simp
          (try with_reducible rfl)
        simp only [Act.put, List.setIfInBounds_toArray, List.set_cons_zero, List.set_cons_succ]
        refine held_take (i := 7) (v := ?_) rfl rfl (by kernel_rfl) (by kernel_rfl) (by kernel_rfl) (fun _ _ _ h => h) (by rfl) hHeld ?_ ?_
        rotate_left
        · rintro wh ⟨z0, z1⟩
          go_simp
          (try with_reducible rfl)
        simp only [Act.put, List.setIfInBounds_toArray, List.set_cons_zero, List.set_cons_succ]
        refine held_skip (i := 8) rfl rfl (by kernel_rfl) (by kernel_rfl) (by kernel_rfl) (fun _ _ _ h => h) (by rfl) hHeld ?_
        simp only [Act.put, List.setIfInBounds_toArray, List.set_cons_zero, List.set_cons_succ]
        refine held_skip (i := 9) rfl rfl (by kernel_rfl) (by kernel_rfl) (by kernel_rfl) (fun _ _ _ h => h) (by rfl) hHeld ?_
        simp only [Act.put, List.setIfInBounds_toArray, List.set_cons_zero, List.set_cons_succ]
        refine held_skip (i := 10) rfl rfl (by kernel_rfl) (by kernel_rfl) (by kernel_rfl) (fun _ _ _ h => h) (by rfl) hHeld ?_
        simp only [Act.put, List.setIfInBounds_toArray, List.set_cons_zero, List.set_cons_succ]
        refine held_skip (i := 11) rfl rfl (by kernel_rfl) (by kernel_rfl) (by kernel_rfl) (fun _ _ _ h => h) (by rfl) hHeld ?_
        simp only [Act.put, List.setIfInBounds_toArray, List.set_cons_zero, List.set_cons_succ]
        refine held_skip (i := 12) rfl rfl (by kernel_rfl) (by kernel_rfl) (by kernel_rfl) (fun _ _ _ h => h) (by rfl) hHeld ?_
        simp only [Act.put, List.setIfInBounds_toArray, List.set_cons_zero, List.set_cons_succ]
        refine held_skip (i := 13) rfl rfl (by kernel_rfl) (by kernel_rfl) (by kernel_rfl) (fun _ _ _ h => h) (by rfl) hHeld ?_
        simp only [Act.put, List.setIfInBounds_toArray, List.set_cons_zero, List.set_cons_succ]
        refine held_skip (i := 14) rfl rfl (by kernel_rfl) (by kernel_rfl) (by kernel_rfl) (fun _ _ _ h => h) (by rfl) hHeld ?_
        simp only [Act.put, List.setIfInBounds_toArray, List.set_cons_zero, List.set_cons_succ]
        refine held_take (i := 15) (v := ?_) rfl rfl (by kernel_rfl) (by kernel_rfl) (by kernel_rfl) (fun _ _ _ h => h) (by rfl) hHeld ?_ ?_
        rotate_left
        · rintro wh ⟨z0, z1⟩
          go_simp
          (try with_reducible rfl)
        simp only [Act.put, List.setIfInBounds_toArray, List.set_cons_zero, List.set_cons_succ]
        refine held_take (i := 16) (v := ?_) rfl rfl (by kernel_rfl) (by kernel_rfl) (by kernel_rfl) (fun _ _ _ h => h) (by rfl) hHeld ?_ ?_
        rotate_left
        · rintro wh ⟨z0, z1⟩
          go_simp
          (try with_reducible rfl)
        simp only [Act.put, List.setIfInBounds_toArray, List.set_cons_zero, List.set_cons_succ]
        refine held_skip (i := 17) rfl rfl (by kernel_rfl) (by kernel_rfl) (by kernel_rfl) (fun _ _ _ h => h) (by rfl) hHeld ?_
        simp only [Act.put, List.setIfInBounds_toArray, List.set_cons_zero, List.set_cons_succ]
        refine held_skip (i := 18) rfl rfl (by kernel_rfl) (by kernel_rfl) (by kernel_rfl) (fun _ _ _ h => h) (by rfl) hHeld ?_
        simp only [Act.put, List.setIfInBounds_toArray, List.set_cons_zero, List.set_cons_succ]
        refine held_skip (i := 19) rfl rfl (by kernel_rfl) (by kernel_rfl) (by kernel_rfl) (fun _ _ _ h => h) (by rfl) hHeld ?_
        simp only [Act.put, List.setIfInBounds_toArray, List.set_cons_zero, List.set_cons_succ]
        refine held_skip (i := 20) rfl rfl (by kernel_rfl) (by kernel_rfl) (by kernel_rfl) (fun _ _ _ h => h) (by rfl) hHeld ?_
        simp only [Act.put, List.setIfInBounds_toArray, List.set_cons_zero, List.set_cons_succ]
        refine held_skip (i := 21) rfl rfl (by kernel_rfl) (by kernel_rfl) (by kernel_rfl) (fun _ _ _ h => h) (by rfl) hHeld ?_
        simp only [Act.put, List.setIfInBounds_toArray, List.set_cons_zero, List.set_cons_succ]
        refine held_skip (i := 22) rfl rfl (by kernel_rfl) (by kernel_rfl) (by kernel_rfl) (fun _ _ _ h => h) (by rfl) hHeld ?_
        simp only [Act.put, List.setIfInBounds_toArray, List.set_cons_zero, List.set_cons_succ]
        refine held_skip (i := 23) rfl rfl (by kernel_rfl) (by kernel_rfl) (by kernel_rfl) (fun _ _ _ h => h) (by rfl) hHeld ?_
        simp only [Act.put, List.setIfInBounds_toArray, List.set_cons_zero, List.set_cons_succ]
        refine held_skip (i := 24) rfl rfl (by kernel_rfl) (by kernel_rfl) (by kernel_rfl) (fun _ _ _ h => h) (by rfl) hHeld ?_
        simp only [Act.put, List.setIfInBounds_toArray, List.set_cons_zero, List.set_cons_succ]
        refine held_skip (i := 25) rfl rfl (by kernel_rfl) (by kernel_rfl) (by kernel_rfl) (fun _ _ _ h => h) (by rfl) hHeld ?_
        simp only [Act.put, List.setIfInBounds_toArray, List.set_cons_zero, List.set_cons_succ]
        refine held_skip (i := 26) rfl rfl (by kernel_rfl) (by kernel_rfl) (by kernel_rfl) (fun _ _ _ h => h) (by rfl) hHeld ?_
        simp only [Act.put, List.setIfInBounds_toArray, List.set_cons_zero, List.set_cons_succ]
        refine held_skip (i := 27) rfl rfl (by kernel_rfl) (by kernel_rfl) (by kernel_rfl) (fun _ _ _ h => h) (by rfl) hHeld ?_
        simp only [Act.put, List.setIfInBounds_toArray, List.set_cons_zero, List.set_cons_succ]
        refine held_skip (i := 28) rfl rfl (by kernel_rfl) (by kernel_rfl) (by kernel_rfl) (fun _ _ _ h => h) (by rfl) hHeld ?_
        simp only [Act.put, List.setIfInBounds_toArray, List.set_cons_zero, List.set_cons_succ]
        refine held_skip (i := 29) rfl rfl (by kernel_rfl) (by kernel_rfl) (by kernel_rfl) (fun _ _ _ h => h) (by rfl) hHeld ?_
        simp only [Act.put, List.setIfInBounds_toArray, List.set_cons_zero, List.set_cons_succ]
        refine held_skip (i := 30) rfl rfl (by kernel_rfl) (by kernel_rfl) (by kernel_rfl) (fun _ _ _ h => h) (by rfl) hHeld ?_
        simp only [Act.put, List.setIfInBounds_toArray, List.set_cons_zero, List.set_cons_succ]
        refine held_skip (i := 31) rfl rfl (by kernel_rfl) (by kernel_rfl) (by kernel_rfl) (fun _ _ _ h => h) (by rfl) hHeld ?_
        simp only [Act.put, List.setIfInBounds_toArray, List.set_cons_zero, List.set_cons_succ]
        refine held_skip (i := 32) rfl rfl (by kernel_rfl) (by kernel_rfl) (by kernel_rfl) (fun _ _ _ h => h) (by rfl) hHeld ?_
        simp only [Act.put, List.setIfInBounds_toArray, List.set_cons_zero, List.set_cons_succ]
        refine held_skip (i := 33) rfl rfl (by kernel_rfl) (by kernel_rfl) (by kernel_rfl) (fun _ _ _ h => h) (by rfl) hHeld ?_
        simp only [Act.put, List.setIfInBounds_toArray, List.set_cons_zero, List.set_cons_succ]
        refine held_take (i := 34) (v := ?_) rfl rfl (by kernel_rfl) (by kernel_rfl) (by kernel_rfl) (fun _ _ _ h => h) (by rfl) hHeld ?_ ?_
        rotate_left
        · rintro wh ⟨z0, z1⟩
          go_simp
          (try with_reducible rfl)
        simp only [Act.put, List.setIfInBounds_toArray, List.set_cons_zero, List.set_cons_succ]
        refine wpAnyH_done (by kernel_rfl) ?_ _
        have hbn : Below w.heap.size w wr.drew := hbr.trans (hB1.mono hbr.size)
        clear hB1 hn
        generalize wr.drew = wq at *
        go_wp2
        go_ret
        exact ⟨by rw [HZ.out]; rfl, hbn⟩
      · rw [hnm] at hn
        by_cases hy2 : y.size ≤ 200
        · have g1 : decide ((200 : Int) < (y.size : Int)) = false := decide_eq_false (by omega)
          rcases Nat.eq_zero_or_pos k with hk0 | hk0
          · have HN := hstep (by rw [hnm, decide_eq_true hy2, decide_eq_true hk0]; rfl)
            subst hk0
            rw [Nat.zero_mul, Nat.add_zero] at a0 a1
            clear hstep hbad hall hnm hy2 hfs
            go_upto_region 4 with fail
            refine wp_region_held_drew (S := (fun W => W.cell? ⟨b, o, none⟩ = some (.string x) ∧ W.cell? ⟨b, o + 1, none⟩ = some (.string y))) (by kernel_rfl) ⟨a0, a1⟩ (fun hHeld => ?_)
            refine held_take (i := 0) (v := ?_) rfl rfl (by kernel_rfl) (by kernel_rfl) (by kernel_rfl) (fun _ _ _ h => h) (by rfl) hHeld ?_ ?_
            rotate_left
            · rintro wh ⟨z0, z1⟩
              go_simp
              (try with_reducible rfl)
            simp only [Act.put, List.setIfInBounds_toArray, List.set_cons_zero, List.set_cons_succ]
            refine held_take (i := 1) (v := ?_) rfl rfl (by kernel_rfl) (by kernel_rfl) (by kernel_rfl) (fun _ _ _ h => h) (by rfl) hHeld ?_ ?_
            rotate_left
            · rintro wh ⟨z0, z1⟩
              go_simp
              (try with_reducible rfl)
            simp only [Act.put, List.setIfInBounds_toArray, List.set_cons_zero, List.set_cons_succ]
            refine held_take (i := 2) (v := ?_) rfl rfl (by kernel_rfl) (by kernel_rfl) (by kernel_rfl) (fun _ _ _ h => h) (by rfl) hHeld ?_ ?_
            rotate_left
            · rintro wh ⟨z0, z1⟩
              go_simp
              (try with_reducible rfl)
            simp only [Act.put, List.setIfInBounds_toArray, List.set_cons_zero, List.set_cons_succ]
            refine held_take (i := 3) (v := ?_) rfl rfl (by kernel_rfl) (by kernel_rfl) (by kernel_rfl) (fun _ _ _ h => h) (by rfl) hHeld ?_ ?_
            rotate_left
            · rintro wh ⟨z0, z1⟩
              go_simp
              (try with_reducible rfl)
            simp only [Act.put, List.setIfInBounds_toArray, List.set_cons_zero, List.set_cons_succ]
            refine held_take (i := 4) (v := ?_) rfl rfl (by kernel_rfl) (by kernel_rfl) (by kernel_rfl) (fun _ _ _ h => h) (by rfl) hHeld ?_ ?_
            rotate_left
            · rintro wh ⟨z0, z1⟩
              go_simp
              (try with_reducible rfl)
            simp only [Act.put, List.setIfInBounds_toArray, List.set_cons_zero, List.set_cons_succ]
            refine held_call (i := 5) rfl (by kernel_rfl) (by rfl) (fun K hK => ?_)
            (go_simp; go_at_call 35; refine (hn _).mono ?_; rintro e w1 ⟨rfl, rfl⟩; have hB1 : Below wr.heap.size wr wr.drew := (Below.refl _ _).drew)
            refine hK.out _ _ ⟨keep_cell a0 hB1 hwb, keep_cell a1 hB1 hwb⟩ (fun hHeld => ?_)
            clear hK K
            (try simp only [Act.put, List.setIfInBounds_toArray, List.set_cons_zero, List.set_cons_succ])
            refine held_take (i := 6) (v := ?_) rfl rfl (by kernel_rfl) (by kernel_rfl) (by kernel_rfl) (fun _ _ _ h => h) (by rfl) hHeld ?_ ?_
            rotate_left
            · rintro wh ⟨z0, z1⟩
              go_simp
              (try with_reducible rfl)
            simp only [Act.put, List.setIfInBounds_toArray, List.set_cons_zero, List.set_cons_succ]
            refine held_take (i := 7) (v := ?_) rfl rfl (by kernel_rfl) (by kernel_rfl) (by kernel_rfl) (fun _ _ _ h => h) (by rfl) hHeld ?_ ?_
            rotate_left
            · rintro wh ⟨z0, z1⟩
              go_simp
              (try with_reducible rfl)
            simp only [Act.put, List.setIfInBounds_toArray, List.set_cons_zero, List.set_cons_succ]
            refine held_take (i := 8) (v := ?_) rfl rfl (by kernel_rfl) (by kernel_rfl) (by kernel_rfl) (fun _ _ _ h => h) (by rfl) hHeld ?_ ?_
            rotate_left
            · rintro wh ⟨z0, z1⟩
              go_simp
              (try with_reducible rfl)
            simp only [Act.put, List.setIfInBounds_toArray, List.set_cons_zero, List.set_cons_succ]
            refine held_take (i := 9) (v := ?_) rfl rfl (by kernel_rfl) (by kernel_rfl) (by kernel_rfl) (fun _ _ _ h => h) (by rfl) hHeld ?_ ?_
            rotate_left
            · rintro wh ⟨z0, z1⟩
              go_simp
              (try with_reducible rfl)
            simp only [Act.put, List.setIfInBounds_toArray, List.set_cons_zero, List.set_cons_succ]
            refine held_take (i := 10) (v := ?_) rfl rfl (by kernel_rfl) (by kernel_rfl) (by kernel_rfl) (fun _ _ _ h => h) (by rfl) hHeld ?_ ?_
            rotate_left
            · rintro wh ⟨z0, z1⟩
              go_simp
              (try with_reducible rfl)
            simp only [Act.put, List.setIfInBounds_toArray, List.set_cons_zero, List.set_cons_succ]
            refine held_take (i := 11) (v := ?_) rfl rfl (by kernel_rfl) (by kernel_rfl) (by kernel_rfl) (fun _ _ _ h => h) (by rfl) hHeld ?_ ?_
            rotate_left
            · rintro wh ⟨z0, z1⟩
              go_simp
              (try with_reducible rfl)
            simp only [Act.put, List.setIfInBounds_toArray, List.set_cons_zero, List.set_cons_succ]
            refine held_take (i := 12) (v := ?_) rfl rfl (by kernel_rfl) (by kernel_rfl) (by kernel_rfl) (fun _ _ _ h => h) (by rfl) hHeld ?_ ?_
            rotate_left
            · rintro wh ⟨z0, z1⟩
              go_simp
              (try with_reducible rfl)
            simp only [Act.put, List.setIfInBounds_toArray, List.set_cons_zero, List.set_cons_succ]
            refine held_take (i := 13) (v := ?_) rfl rfl (by kernel_rfl) (by kernel_rfl) (by kernel_rfl) (fun _ _ _ h => h) (by rfl) hHeld ?_ ?_
            rotate_left
            · rintro wh ⟨z0, z1⟩
              go_simp
              (try with_reducible rfl)
            simp only [Act.put, List.setIfInBounds_toArray, List.set_cons_zero, List.set_cons_succ]
            refine held_take (i := 14) (v := ?_) rfl rfl (by kernel_rfl) (by kernel_rfl) (by kernel_rfl) (fun _ _ _ h => h) (by rfl) hHeld ?_ ?_
            rotate_left
            · rintro wh ⟨z0, z1⟩
              go_simp
              (try with_reducible rfl)
            simp only [Act.put, List.setIfInBounds_toArray, List.set_cons_zero, List.set_cons_succ]
            refine held_take (i := 15) (v := ?_) rfl rfl (by kernel_rfl) (by kernel_rfl) (by kernel_rfl) (fun _ _ _ h => h) (by rfl) hHeld ?_ ?_
            rotate_left
            · rintro wh ⟨z0, z1⟩
              go_simp
              (try with_reducible rfl)
            simp only [Act.put, List.setIfInBounds_toArray, List.set_cons_zero, List.set_cons_succ]
            refine held_take (i := 16) (v := ?_) rfl rfl (by kernel_rfl) (by kernel_rfl) (by kernel_rfl) (fun _ _ _ h => h) (by rfl) hHeld ?_ ?_
            rotate_left
            · rintro wh ⟨z0, z1⟩
              go_simp
              (try with_reducible rfl)
            simp only [Act.put, List.setIfInBounds_toArray, List.set_cons_zero, List.set_cons_succ]
            refine held_take (i := 17) (v := ?_) rfl rfl (by kernel_rfl) (by kernel_rfl) (by kernel_rfl) (fun _ _ _ h => h) (by rfl) hHeld ?_ ?_
            rotate_left
            · rintro wh ⟨z0, z1⟩
              go_simp
              (try with_reducible rfl)
            simp only [Act.put, List.setIfInBounds_toArray, List.set_cons_zero, List.set_cons_succ]
            refine held_take (i := 18) (v := ?_) rfl rfl (by kernel_rfl) (by kernel_rfl) (by kernel_rfl) (fun _ _ _ h => h) (by rfl) hHeld ?_ ?_
            rotate_left
            · rintro wh ⟨z0, z1⟩
              go_simp
              (try with_reducible rfl)
            simp only [Act.put, List.setIfInBounds_toArray, List.set_cons_zero, List.set_cons_succ]
            refine held_take (i := 19) (v := ?_) rfl rfl (by kernel_rfl) (by kernel_rfl) (by kernel_rfl) (fun _ _ _ h => h) (by rfl) hHeld ?_ ?_
            rotate_left
            · rintro wh ⟨z0, z1⟩
              go_simp
              (try with_reducible rfl)
            simp only [Act.put, List.setIfInBounds_toArray, List.set_cons_zero, List.set_cons_succ]
            refine held_skip (i := 20) rfl rfl (by kernel_rfl) (by kernel_rfl) (by kernel_rfl) (fun _ _ _ h => h) (by rfl) hHeld ?_
            simp only [Act.put, List.setIfInBounds_toArray, List.set_cons_zero, List.set_cons_succ]
            refine held_skip (i := 21) rfl rfl (by kernel_rfl) (by kernel_rfl) (by kernel_rfl) (fun _ _ _ h => h) (by rfl) hHeld ?_
            simp only [Act.put, List.setIfInBounds_toArray, List.set_cons_zero, List.set_cons_succ]
            refine held_skip (i := 22) rfl rfl (by kernel_rfl) (by kernel_rfl) (by kernel_rfl) (fun _ _ _ h => h) (by rfl) hHeld ?_
            simp only [Act.put, List.setIfInBounds_toArray, List.set_cons_zero, List.set_cons_succ]
            refine held_skip (i := 23) rfl rfl (by kernel_rfl) (by kernel_rfl) (by kernel_rfl) (fun _ _ _ h => h) (by rfl) hHeld ?_
            simp only [Act.put, List.setIfInBounds_toArray, List.set_cons_zero, List.set_cons_succ]
            refine held_skip (i := 24) rfl rfl (by kernel_rfl) (by kernel_rfl) (by kernel_rfl) (fun _ _ _ h => h) (by rfl) hHeld ?_
            simp only [Act.put, List.setIfInBounds_toArray, List.set_cons_zero, List.set_cons_succ]
            refine held_skip (i := 25) rfl rfl (by kernel_rfl) (by kernel_rfl) (by kernel_rfl) (fun _ _ _ h => h) (by rfl) hHeld ?_
            simp only [Act.put, List.setIfInBounds_toArray, List.set_cons_zero, List.set_cons_succ]
            refine held_skip (i := 26) rfl rfl (by kernel_rfl) (by kernel_rfl) (by kernel_rfl) (fun _ _ _ h => h) (by rfl) hHeld ?_
            simp only [Act.put, List.setIfInBounds_toArray, List.set_cons_zero, List.set_cons_succ]
            refine held_skip (i := 27) rfl rfl (by kernel_rfl) (by kernel_rfl) (by kernel_rfl) (fun _ _ _ h => h) (by rfl) hHeld ?_
            simp only [Act.put, List.setIfInBounds_toArray, List.set_cons_zero, List.set_cons_succ]
            refine held_skip (i := 28) rfl rfl (by kernel_rfl) (by kernel_rfl) (by kernel_rfl) (fun _ _ _ h => h) (by rfl) hHeld ?_
            simp only [Act.put, List.setIfInBounds_toArray, List.set_cons_zero, List.set_cons_succ]
            refine held_skip (i := 29) rfl rfl (by kernel_rfl) (by kernel_rfl) (by kernel_rfl) (fun _ _ _ h => h) (by rfl) hHeld ?_
            simp only [Act.put, List.setIfInBounds_toArray, List.set_cons_zero, List.set_cons_succ]
            refine held_skip (i := 30) rfl rfl (by kernel_rfl) (by kernel_rfl) (by kernel_rfl) (fun _ _ _ h => h) (by rfl) hHeld ?_
            simp only [Act.put, List.setIfInBounds_toArray, List.set_cons_zero, List.set_cons_succ]
            refine held_skip (i := 31) rfl rfl (by kernel_rfl) (by kernel_rfl) (by kernel_rfl) (fun _ _ _ h => h) (by rfl) hHeld ?_
            simp only [Act.put, List.setIfInBounds_toArray, List.set_cons_zero, List.set_cons_succ]
            refine held_skip (i := 32) rfl rfl (by kernel_rfl) (by kernel_rfl) (by kernel_rfl) (fun _ _ _ h => h) (by rfl) hHeld ?_
            simp only [Act.put, List.setIfInBounds_toArray, List.set_cons_zero, List.set_cons_succ]
            refine held_take (i := 33) (v := ?_) rfl rfl (by kernel_rfl) (by kernel_rfl) (by kernel_rfl) (fun _ _ _ h => h) (by rfl) hHeld ?_ ?_
            rotate_left
            · rintro wh ⟨z0, z1⟩
              go_simp
              (try with_reducible rfl)
            simp only [Act.put, List.setIfInBounds_toArray, List.set_cons_zero, List.set_cons_succ]
            refine held_take (i := 34) (v := ?_) rfl rfl (by kernel_rfl) (by kernel_rfl) (by kernel_rfl) (fun _ _ _ h => h) (by rfl) hHeld ?_ ?_
            rotate_left
            · rintro wh ⟨z0, z1⟩
              go_simp
              (try with_reducible rfl)
            simp only [Act.put, List.setIfInBounds_toArray, List.set_cons_zero, List.set_cons_succ]
            refine wpAnyH_done (by kernel_rfl) ?_ _
            have hbn : Below w.heap.size w wr.drew := hbr.trans (hB1.mono hbr.size)
            clear hB1 hn
            generalize wr.drew = wq at *
            go_wp2
            go_roundw
            case rel => exact ⟨0 + 1, by omega, by go_num, HN, hbn⟩
            case measure => (simp [intOf]; try omega)
          · obtain ⟨m, hm⟩ : ∃ m, k = m + 1 := ⟨k - 1, by omega⟩
            have hml : m < l.length := by omega
            obtain ⟨z, hze⟩ : ∃ z, l[m].1 = z := ⟨_, rfl⟩
            have hfz := (HF.out _ (List.getElem_mem hml)).1
            rw [hze] at hfz
            obtain ⟨hz0, _⟩ := fldCells_at l m hml
            rw [hze] at hz0
            have az : wr.cell? ⟨b, o + m * 2, none⟩ = some (.string z) := hall _ _ hz0
            have hgz : (l.getD (k - 1) default).1 = z := by
              rw [hm, Nat.add_sub_cancel, List.getD_eq_getElem?_getD, List.getElem?_eq_getElem hml]; exact hze
            have hkz : decide (k = 0) = false := decide_eq_false (by omega)
            rw [hgz, hnm, decide_eq_true hy2, hkz] at hstep hbad
            have k0 : (0 : Int) < (k : Int) := by omega
            have hw1 : IntKind.i64.wrap ((k : Int) - 1) = (m : Int) := by rw [IntKind.wrap_i64]; omega
            have hI1 : (m : Int) < (l.length : Int) := by omega
            have hah := fun W => rahead_any z x W hfz
            obtain ⟨lt, hlt⟩ : ∃ lt, ltS z x = lt := ⟨_, rfl⟩
            rw [hlt] at hstep hbad
            simp only [hlt] at hah
            have HM := Lib.hid hm
            clear hnm hy2 hze hkz hall hz0 hgz hfz hfs hlt hm
            cases lt
            · have HZ := hbad rfl
              clear hstep hbad
              go_upto_region 4 with fail
              refine wp_region_held_drew (S := (fun W => W.cell? ⟨b, o + k * 2, none⟩ = some (.string x) ∧ W.cell? ⟨b, o + k * 2 + 1, none⟩ = some (.string y) ∧ W.cell? ⟨b, o + m * 2, none⟩ = some (.string z))) (by kernel_rfl) ⟨a0, a1, az⟩ (fun hHeld => ?_)
              refine held_take (i := 0) (v := ?_) rfl rfl (by kernel_rfl) (by kernel_rfl) (by kernel_rfl) (fun _ _ _ h => h) (by rfl) hHeld ?_ ?_
              rotate_left
              · rintro wh ⟨z0, z1, z2⟩
                go_simp
                (try with_reducible rfl)
              simp only [Act.put, List.setIfInBounds_toArray, List.set_cons_zero, List.set_cons_succ]
              refine held_take (i := 1) (v := ?_) rfl rfl (by kernel_rfl) (by kernel_rfl) (by kernel_rfl) (fun _ _ _ h => h) (by rfl) hHeld ?_ ?_
              rotate_left
              · rintro wh ⟨z0, z1, z2⟩
                go_simp
                (try with_reducible rfl)
              simp only [Act.put, List.setIfInBounds_toArray, List.set_cons_zero, List.set_cons_succ]
              refine held_take (i := 2) (v := ?_) rfl rfl (by kernel_rfl) (by kernel_rfl) (by kernel_rfl) (fun _ _ _ h => h) (by rfl) hHeld ?_ ?_
              rotate_left
              · rintro wh ⟨z0, z1, z2⟩
                go_simp
                (try with_reducible rfl)
              simp only [Act.put, List.setIfInBounds_toArray, List.set_cons_zero, List.set_cons_succ]
              refine held_take (i := 3) (v := ?_) rfl rfl (by kernel_rfl) (by kernel_rfl) (by kernel_rfl) (fun _ _ _ h => h) (by rfl) hHeld ?_ ?_
              rotate_left
              · rintro wh ⟨z0, z1, z2⟩
                go_simp
                (try with_reducible rfl)
              simp only [Act.put, List.setIfInBounds_toArray, List.set_cons_zero, List.set_cons_succ]
              refine held_take (i := 4) (v := ?_) rfl rfl (by kernel_rfl) (by kernel_rfl) (by kernel_rfl) (fun _ _ _ h => h) (by rfl) hHeld ?_ ?_
              rotate_left
              · rintro wh ⟨z0, z1, z2⟩
                go_simp
                (try with_reducible rfl)
              simp only [Act.put, List.setIfInBounds_toArray, List.set_cons_zero, List.set_cons_succ]
              refine held_call (i := 5) rfl (by kernel_rfl) (by rfl) (fun K hK => ?_)
              (go_simp; go_at_call 35; refine (hn _).mono ?_; rintro e w1 ⟨rfl, rfl⟩; have hB1 : Below wr.heap.size wr wr.drew := (Below.refl _ _).drew)
              refine hK.out _ _ ⟨keep_cell a0 hB1 hwb, keep_cell a1 hB1 hwb, keep_cell az hB1 hwb⟩ (fun hHeld => ?_)
              clear hK K
              (try simp only [Act.put, List.setIfInBounds_toArray, List.set_cons_zero, List.set_cons_succ])
              refine held_take (i := 6) (v := ?_) rfl rfl (by kernel_rfl) (by kernel_rfl) (by kernel_rfl) (fun _ _ _ h => h) (by rfl) hHeld ?_ ?_
              rotate_left
              · rintro wh ⟨z0, z1, z2⟩
                go_simp
                (try with_reducible rfl)
              simp only [Act.put, List.setIfInBounds_toArray, List.set_cons_zero, List.set_cons_succ]
              refine held_take (i := 7) (v := ?_) rfl rfl (by kernel_rfl) (by kernel_rfl) (by kernel_rfl) (fun _ _ _ h => h) (by rfl) hHeld ?_ ?_
              rotate_left
              · rintro wh ⟨z0, z1, z2⟩
                go_simp
                (try with_reducible rfl)
              simp only [Act.put, List.setIfInBounds_toArray, List.set_cons_zero, List.set_cons_succ]
              refine held_take (i := 8) (v := ?_) rfl rfl (by kernel_rfl) (by kernel_rfl) (by kernel_rfl) (fun _ _ _ h => h) (by rfl) hHeld ?_ ?_
              rotate_left
              · rintro wh ⟨z0, z1, z2⟩
                go_simp
                (try with_reducible rfl)
              simp only [Act.put, List.setIfInBounds_toArray, List.set_cons_zero, List.set_cons_succ]
              refine held_take (i := 9) (v := ?_) rfl rfl (by kernel_rfl) (by kernel_rfl) (by kernel_rfl) (fun _ _ _ h => h) (by rfl) hHeld ?_ ?_
              rotate_left
              · rintro wh ⟨z0, z1, z2⟩
                go_simp
                (try with_reducible rfl)
              simp only [Act.put, List.setIfInBounds_toArray, List.set_cons_zero, List.set_cons_succ]
              refine held_take (i := 10) (v := ?_) rfl rfl (by kernel_rfl) (by kernel_rfl) (by kernel_rfl) (fun _ _ _ h => h) (by rfl) hHeld ?_ ?_
              rotate_left
              · rintro wh ⟨z0, z1, z2⟩
                go_simp
                (try with_reducible rfl)
              simp only [Act.put, List.setIfInBounds_toArray, List.set_cons_zero, List.set_cons_succ]
              refine held_take (i := 11) (v := ?_) rfl rfl (by kernel_rfl) (by kernel_rfl) (by kernel_rfl) (fun _ _ _ h => h) (by rfl) hHeld ?_ ?_
              rotate_left
              · rintro wh ⟨z0, z1, z2⟩
                go_simp
                (try with_reducible rfl)
              simp only [Act.put, List.setIfInBounds_toArray, List.set_cons_zero, List.set_cons_succ]
              refine held_take (i := 12) (v := ?_) rfl rfl (by kernel_rfl) (by kernel_rfl) (by kernel_rfl) (fun _ _ _ h => h) (by rfl) hHeld ?_ ?_
              rotate_left
              · rintro wh ⟨z0, z1, z2⟩
                go_simp
                (try with_reducible rfl)
              simp only [Act.put, List.setIfInBounds_toArray, List.set_cons_zero, List.set_cons_succ]
              refine held_take (i := 13) (v := ?_) rfl rfl (by kernel_rfl) (by kernel_rfl) (by kernel_rfl) (fun _ _ _ h => h) (by rfl) hHeld ?_ ?_
              rotate_left
              · rintro wh ⟨z0, z1, z2⟩
                go_simp
                (try with_reducible rfl)
              simp only [Act.put, List.setIfInBounds_toArray, List.set_cons_zero, List.set_cons_succ]
              refine held_take (i := 14) (v := ?_) rfl rfl (by kernel_rfl) (by kernel_rfl) (by kernel_rfl) (fun _ _ _ h => h) (by rfl) hHeld ?_ ?_
              rotate_left
              · rintro wh ⟨z0, z1, z2⟩
                go_simp
                (try with_reducible rfl)
              simp only [Act.put, List.setIfInBounds_toArray, List.set_cons_zero, List.set_cons_succ]
              refine held_take (i := 15) (v := ?_) rfl rfl (by kernel_rfl) (by kernel_rfl) (by kernel_rfl) (fun _ _ _ h => h) (by rfl) hHeld ?_ ?_
              rotate_left
              · rintro wh ⟨z0, z1, z2⟩
                go_simp
                (try with_reducible rfl)
              simp only [Act.put, List.setIfInBounds_toArray, List.set_cons_zero, List.set_cons_succ]
              refine held_take (i := 16) (v := ?_) rfl rfl (by kernel_rfl) (by kernel_rfl) (by kernel_rfl) (fun _ _ _ h => h) (by rfl) hHeld ?_ ?_
              rotate_left
              · rintro wh ⟨z0, z1, z2⟩
                go_simp
                (try with_reducible rfl)
              simp only [Act.put, List.setIfInBounds_toArray, List.set_cons_zero, List.set_cons_succ]
              refine held_take (i := 17) (v := ?_) rfl rfl (by kernel_rfl) (by kernel_rfl) (by kernel_rfl) (fun _ _ _ h => h) (by rfl) hHeld ?_ ?_
              rotate_left
              · rintro wh ⟨z0, z1, z2⟩
                go_simp
                (try with_reducible rfl)
              simp only [Act.put, List.setIfInBounds_toArray, List.set_cons_zero, List.set_cons_succ]
              refine held_take (i := 18) (v := ?_) rfl rfl (by kernel_rfl) (by kernel_rfl) (by kernel_rfl) (fun _ _ _ h => h) (by rfl) hHeld ?_ ?_
              rotate_left
              · rintro wh ⟨z0, z1, z2⟩
                go_simp
                (try with_reducible rfl)
              simp only [Act.put, List.setIfInBounds_toArray, List.set_cons_zero, List.set_cons_succ]
              refine held_take (i := 19) (v := ?_) rfl rfl (by kernel_rfl) (by kernel_rfl) (by kernel_rfl) (fun _ _ _ h => h) (by rfl) hHeld ?_ ?_
              rotate_left
              · rintro wh ⟨z0, z1, z2⟩
                go_simp
                (try with_reducible rfl)
              simp only [Act.put, List.setIfInBounds_toArray, List.set_cons_zero, List.set_cons_succ]
              refine held_take (i := 20) (v := ?_) rfl rfl (by kernel_rfl) (by kernel_rfl) (by kernel_rfl) (fun _ _ _ h => h) (by rfl) hHeld ?_ ?_
              rotate_left
              · rintro wh ⟨z0, z1, z2⟩
                go_simp
                (try with_reducible rfl)
              simp only [Act.put, List.setIfInBounds_toArray, List.set_cons_zero, List.set_cons_succ]
              refine held_take (i := 21) (v := ?_) rfl rfl (by kernel_rfl) (by kernel_rfl) (by kernel_rfl) (fun _ _ _ h => h) (by rfl) hHeld ?_ ?_
              rotate_left
              · rintro wh ⟨z0, z1, z2⟩
                go_simp
                (try with_reducible rfl)
              simp only [Act.put, List.setIfInBounds_toArray, List.set_cons_zero, List.set_cons_succ]
              refine held_take (i := 22) (v := ?_) rfl rfl (by kernel_rfl) (by kernel_rfl) (by kernel_rfl) (fun _ _ _ h => h) (by rfl) hHeld ?_ ?_
              rotate_left
              · rintro wh ⟨z0, z1, z2⟩
                go_simp
                (try with_reducible rfl)
              simp only [Act.put, List.setIfInBounds_toArray, List.set_cons_zero, List.set_cons_succ]
              refine held_take (i := 23) (v := ?_) rfl rfl (by kernel_rfl) (by kernel_rfl) (by kernel_rfl) (fun _ _ _ h => h) (by rfl) hHeld ?_ ?_
              rotate_left
              · rintro wh ⟨z0, z1, z2⟩
                go_simp
                (try with_reducible rfl)
              simp only [Act.put, List.setIfInBounds_toArray, List.set_cons_zero, List.set_cons_succ]
              refine held_take (i := 24) (v := ?_) rfl rfl (by kernel_rfl) (by kernel_rfl) (by kernel_rfl) (fun _ _ _ h => h) (by rfl) hHeld ?_ ?_
              rotate_left
              · rintro wh ⟨z0, z1, z2⟩
                go_simp
                (try with_reducible rfl)
              simp only [Act.put, List.setIfInBounds_toArray, List.set_cons_zero, List.set_cons_succ]
              refine held_take (i := 25) (v := ?_) rfl rfl (by kernel_rfl) (by kernel_rfl) (by kernel_rfl) (fun _ _ _ h => h) (by rfl) hHeld ?_ ?_
              rotate_left
              · rintro wh ⟨z0, z1, z2⟩
                go_simp
                (try with_reducible rfl)
              simp only [Act.put, List.setIfInBounds_toArray, List.set_cons_zero, List.set_cons_succ]
              refine held_take (i := 26) (v := ?_) rfl rfl (by kernel_rfl) (by kernel_rfl) (by kernel_rfl) (fun _ _ _ h => h) (by rfl) hHeld ?_ ?_
              rotate_left
              · rintro wh ⟨z0, z1, z2⟩
                go_simp
                (try with_reducible rfl)
              simp only [Act.put, List.setIfInBounds_toArray, List.set_cons_zero, List.set_cons_succ]
              refine held_take (i := 27) (v := ?_) rfl rfl (by kernel_rfl) (by kernel_rfl) (by kernel_rfl) (fun _ _ _ h => h) (by rfl) hHeld ?_ ?_
              rotate_left
              · rintro wh ⟨z0, z1, z2⟩
                go_simp
                (try with_reducible rfl)
              simp only [Act.put, List.setIfInBounds_toArray, List.set_cons_zero, List.set_cons_succ]
              refine held_take (i := 28) (v := ?_) rfl rfl (by kernel_rfl) (by kernel_rfl) (by kernel_rfl) (fun _ _ _ h => h) (by rfl) hHeld ?_ ?_
              rotate_left
              · rintro wh ⟨z0, z1, z2⟩
                go_simp
                (try with_reducible rfl)
              simp only [Act.put, List.setIfInBounds_toArray, List.set_cons_zero, List.set_cons_succ]
              refine held_take (i := 29) (v := ?_) rfl rfl (by kernel_rfl) (by kernel_rfl) (by kernel_rfl) (fun _ _ _ h => h) (by rfl) hHeld ?_ ?_
              rotate_left
              · rintro wh ⟨z0, z1, z2⟩
                go_simp
                (try with_reducible rfl)
              simp only [Act.put, List.setIfInBounds_toArray, List.set_cons_zero, List.set_cons_succ]
              refine held_take (i := 30) (v := ?_) rfl rfl (by kernel_rfl) (by kernel_rfl) (by kernel_rfl) (fun _ _ _ h => h) (by rfl) hHeld ?_ ?_
              rotate_left
              · rintro wh ⟨z0, z1, z2⟩
                go_simp
                (try with_reducible rfl)
              simp only [Act.put, List.setIfInBounds_toArray, List.set_cons_zero, List.set_cons_succ]
              refine held_call (i := 31) rfl (by kernel_rfl) (by rfl) (fun K hK => ?_)
              (go_simp; go_at_call 62; refine (hah _).mono ?_; rintro e w2 ⟨rfl, hb2⟩; have hB2 : Below wr.heap.size wr w2 := hB1.trans hb2)
              refine hK.out _ _ ⟨keep_cell a0 hB2 hwb, keep_cell a1 hB2 hwb, keep_cell az hB2 hwb⟩ (fun hHeld => ?_)
              clear hK K
              (try simp only [Act.put, List.setIfInBounds_toArray, List.set_cons_zero, List.set_cons_succ])
              refine held_take (i := 32) (v := ?_) rfl rfl (by kernel_rfl) (by kernel_rfl) (by kernel_rfl) (fun _ _ _ h => h) (by rfl) hHeld ?_ ?_
              rotate_left
              · rintro wh ⟨z0, z1, z2⟩
                go_simp
                (try with_reducible rfl)
              simp only [Act.put, List.setIfInBounds_toArray, List.set_cons_zero, List.set_cons_succ]
              refine held_take (i := 33) (v := ?_) rfl rfl (by kernel_rfl) (by kernel_rfl) (by kernel_rfl) (fun _ _ _ h => h) (by rfl) hHeld ?_ ?_
              rotate_left
              · rintro wh ⟨z0, z1, z2⟩
                go_simp
                (try with_reducible rfl)
              simp only [Act.put, List.setIfInBounds_toArray, List.set_cons_zero, List.set_cons_succ]
              refine held_take (i := 34) (v := ?_) rfl rfl (by kernel_rfl) (by kernel_rfl) (by kernel_rfl) (fun _ _ _ h => h) (by rfl) hHeld ?_ ?_
              rotate_left
              · rintro wh ⟨z0, z1, z2⟩
                go_simp
                (try with_reducible rfl)
              simp only [Act.put, List.setIfInBounds_toArray, List.set_cons_zero, List.set_cons_succ]
              refine wpAnyH_done (by kernel_rfl) ?_ _
              have hbn : Below w.heap.size w w2 := hbr.trans (hB2.mono hbr.size)
              clear hB1 hB2 hb2 hn hah
              go_wp2
              go_ret
              exact ⟨by rw [HZ.out]; rfl, hbn⟩
            · have HN := hstep rfl
              clear hstep hbad
              go_upto_region 4 with fail
              refine wp_region_held_drew (S := (fun W => W.cell? ⟨b, o + k * 2, none⟩ = some (.string x) ∧ W.cell? ⟨b, o + k * 2 + 1, none⟩ = some (.string y) ∧ W.cell? ⟨b, o + m * 2, none⟩ = some (.string z))) (by kernel_rfl) ⟨a0, a1, az⟩ (fun hHeld => ?_)
              refine held_take (i := 0) (v := ?_) rfl rfl (by kernel_rfl) (by kernel_rfl) (by kernel_rfl) (fun _ _ _ h => h) (by rfl) hHeld ?_ ?_
              rotate_left
              · rintro wh ⟨z0, z1, z2⟩
                go_simp
                (try with_reducible rfl)
              simp only [Act.put, List.setIfInBounds_toArray, List.set_cons_zero, List.set_cons_succ]
              refine held_take (i := 1) (v := ?_) rfl rfl (by kernel_rfl) (by kernel_rfl) (by kernel_rfl) (fun _ _ _ h => h) (by rfl) hHeld ?_ ?_
              rotate_left
              · rintro wh ⟨z0, z1, z2⟩
                go_simp
                (try with_reducible rfl)
              simp only [Act.put, List.setIfInBounds_toArray, List.set_cons_zero, List.set_cons_succ]
              refine held_take (i := 2) (v := ?_) rfl rfl (by kernel_rfl) (by kernel_rfl) (by kernel_rfl) (fun _ _ _ h => h) (by rfl) hHeld ?_ ?_
              rotate_left
              · rintro wh ⟨z0, z1, z2⟩
                go_simp
                (try with_reducible rfl)
              simp only [Act.put, List.setIfInBounds_toArray, List.set_cons_zero, List.set_cons_succ]
              refine held_take (i := 3) (v := ?_) rfl rfl (by kernel_rfl) (by kernel_rfl) (by kernel_rfl) (fun _ _ _ h => h) (by rfl) hHeld ?_ ?_
              rotate_left
              · rintro wh ⟨z0, z1, z2⟩
                go_simp
                (try with_reducible rfl)
              simp only [Act.put, List.setIfInBounds_toArray, List.set_cons_zero, List.set_cons_succ]
              refine held_take (i := 4) (v := ?_) rfl rfl (by kernel_rfl) (by kernel_rfl) (by kernel_rfl) (fun _ _ _ h => h) (by rfl) hHeld ?_ ?_
              rotate_left
              · rintro wh ⟨z0, z1, z2⟩
                go_simp
                (try with_reducible rfl)
              simp only [Act.put, List.setIfInBounds_toArray, List.set_cons_zero, List.set_cons_succ]
              refine held_call (i := 5) rfl (by kernel_rfl) (by rfl) (fun K hK => ?_)
              (go_simp; go_at_call 35; refine (hn _).mono ?_; rintro e w1 ⟨rfl, rfl⟩; have hB1 : Below wr.heap.size wr wr.drew := (Below.refl _ _).drew)
              refine hK.out _ _ ⟨keep_cell a0 hB1 hwb, keep_cell a1 hB1 hwb, keep_cell az hB1 hwb⟩ (fun hHeld => ?_)
              clear hK K
              (try simp only [Act.put, List.setIfInBounds_toArray, List.set_cons_zero, List.set_cons_succ])
              refine held_take (i := 6) (v := ?_) rfl rfl (by kernel_rfl) (by kernel_rfl) (by kernel_rfl) (fun _ _ _ h => h) (by rfl) hHeld ?_ ?_
              rotate_left
              · rintro wh ⟨z0, z1, z2⟩
                go_simp
                (try with_reducible rfl)
              simp only [Act.put, List.setIfInBounds_toArray, List.set_cons_zero, List.set_cons_succ]
              refine held_take (i := 7) (v := ?_) rfl rfl (by kernel_rfl) (by kernel_rfl) (by kernel_rfl) (fun _ _ _ h => h) (by rfl) hHeld ?_ ?_
              rotate_left
              · rintro wh ⟨z0, z1, z2⟩
                go_simp
                (try with_reducible rfl)
              simp only [Act.put, List.setIfInBounds_toArray, List.set_cons_zero, List.set_cons_succ]
              refine held_take (i := 8) (v := ?_) rfl rfl (by kernel_rfl) (by kernel_rfl) (by kernel_rfl) (fun _ _ _ h => h) (by rfl) hHeld ?_ ?_
              rotate_left
              · rintro wh ⟨z0, z1, z2⟩
                go_simp
                (try with_reducible rfl)
              simp only [Act.put, List.setIfInBounds_toArray, List.set_cons_zero, List.set_cons_succ]
              refine held_take (i := 9) (v := ?_) rfl rfl (by kernel_rfl) (by kernel_rfl) (by kernel_rfl) (fun _ _ _ h => h) (by rfl) hHeld ?_ ?_
              rotate_left
              · rintro wh ⟨z0, z1, z2⟩
                go_simp
                (try with_reducible rfl)
              simp only [Act.put, List.setIfInBounds_toArray, List.set_cons_zero, List.set_cons_succ]
              refine held_take (i := 10) (v := ?_) rfl rfl (by kernel_rfl) (by kernel_rfl) (by kernel_rfl) (fun _ _ _ h => h) (by rfl) hHeld ?_ ?_
              rotate_left
              · rintro wh ⟨z0, z1, z2⟩
                go_simp
                (try with_reducible rfl)
              simp only [Act.put, List.setIfInBounds_toArray, List.set_cons_zero, List.set_cons_succ]
              refine held_take (i := 11) (v := ?_) rfl rfl (by kernel_rfl) (by kernel_rfl) (by kernel_rfl) (fun _ _ _ h => h) (by rfl) hHeld ?_ ?_
              rotate_left
              · rintro wh ⟨z0, z1, z2⟩
                go_simp
                (try with_reducible rfl)
              simp only [Act.put, List.setIfInBounds_toArray, List.set_cons_zero, List.set_cons_succ]
              refine held_take (i := 12) (v := ?_) rfl rfl (by kernel_rfl) (by kernel_rfl) (by kernel_rfl) (fun _ _ _ h => h) (by rfl) hHeld ?_ ?_
              rotate_left
              · rintro wh ⟨z0, z1, z2⟩
                go_simp
                (try with_reducible rfl)
              simp only [Act.put, List.setIfInBounds_toArray, List.set_cons_zero, List.set_cons_succ]
              refine held_take (i := 13) (v := ?_) rfl rfl (by kernel_rfl) (by kernel_rfl) (by kernel_rfl) (fun _ _ _ h => h) (by rfl) hHeld ?_ ?_
              rotate_left
              · rintro wh ⟨z0, z1, z2⟩
                go_simp
                (try with_reducible rfl)
              simp only [Act.put, List.setIfInBounds_toArray, List.set_cons_zero, List.set_cons_succ]
              refine held_take (i := 14) (v := ?_) rfl rfl (by kernel_rfl) (by kernel_rfl) (by kernel_rfl) (fun _ _ _ h => h) (by rfl) hHeld ?_ ?_
              rotate_left
              · rintro wh ⟨z0, z1, z2⟩
                go_simp
                (try with_reducible rfl)
              simp only [Act.put, List.setIfInBounds_toArray, List.set_cons_zero, List.set_cons_succ]
              refine held_take (i := 15) (v := ?_) rfl rfl (by kernel_rfl) (by kernel_rfl) (by kernel_rfl) (fun _ _ _ h => h) (by rfl) hHeld ?_ ?_
              rotate_left
              · rintro wh ⟨z0, z1, z2⟩
                go_simp
                (try with_reducible rfl)
              simp only [Act.put, List.setIfInBounds_toArray, List.set_cons_zero, List.set_cons_succ]
              refine held_take (i := 16) (v := ?_) rfl rfl (by kernel_rfl) (by kernel_rfl) (by kernel_rfl) (fun _ _ _ h => h) (by rfl) hHeld ?_ ?_
              rotate_left
              · rintro wh ⟨z0, z1, z2⟩
                go_simp
                (try with_reducible rfl)
              simp only [Act.put, List.setIfInBounds_toArray, List.set_cons_zero, List.set_cons_succ]
              refine held_take (i := 17) (v := ?_) rfl rfl (by kernel_rfl) (by kernel_rfl) (by kernel_rfl) (fun _ _ _ h => h) (by rfl) hHeld ?_ ?_
              rotate_left
              · rintro wh ⟨z0, z1, z2⟩
                go_simp
                (try with_reducible rfl)
              simp only [Act.put, List.setIfInBounds_toArray, List.set_cons_zero, List.set_cons_succ]
              refine held_take (i := 18) (v := ?_) rfl rfl (by kernel_rfl) (by kernel_rfl) (by kernel_rfl) (fun _ _ _ h => h) (by rfl) hHeld ?_ ?_
              rotate_left
              · rintro wh ⟨z0, z1, z2⟩
                go_simp
                (try with_reducible rfl)
              simp only [Act.put, List.setIfInBounds_toArray, List.set_cons_zero, List.set_cons_succ]
              refine held_take (i := 19) (v := ?_) rfl rfl (by kernel_rfl) (by kernel_rfl) (by kernel_rfl) (fun _ _ _ h => h) (by rfl) hHeld ?_ ?_
              rotate_left
              · rintro wh ⟨z0, z1, z2⟩
                go_simp
                (try with_reducible rfl)
              simp only [Act.put, List.setIfInBounds_toArray, List.set_cons_zero, List.set_cons_succ]
              refine held_take (i := 20) (v := ?_) rfl rfl (by kernel_rfl) (by kernel_rfl) (by kernel_rfl) (fun _ _ _ h => h) (by rfl) hHeld ?_ ?_
              rotate_left
              · rintro wh ⟨z0, z1, z2⟩
                go_simp
                (try with_reducible rfl)
              simp only [Act.put, List.setIfInBounds_toArray, List.set_cons_zero, List.set_cons_succ]
              refine held_take (i := 21) (v := ?_) rfl rfl (by kernel_rfl) (by kernel_rfl) (by kernel_rfl) (fun _ _ _ h => h) (by rfl) hHeld ?_ ?_
              rotate_left
              · rintro wh ⟨z0, z1, z2⟩
                go_simp
                (try with_reducible rfl)
              simp only [Act.put, List.setIfInBounds_toArray, List.set_cons_zero, List.set_cons_succ]
              refine held_take (i := 22) (v := ?_) rfl rfl (by kernel_rfl) (by kernel_rfl) (by kernel_rfl) (fun _ _ _ h => h) (by rfl) hHeld ?_ ?_
              rotate_left
              · rintro wh ⟨z0, z1, z2⟩
                go_simp
                (try with_reducible rfl)
              simp only [Act.put, List.setIfInBounds_toArray, List.set_cons_zero, List.set_cons_succ]
              refine held_take (i := 23) (v := ?_) rfl rfl (by kernel_rfl) (by kernel_rfl) (by kernel_rfl) (fun _ _ _ h => h) (by rfl) hHeld ?_ ?_
              rotate_left
              · rintro wh ⟨z0, z1, z2⟩
                go_simp
                (try with_reducible rfl)
              simp only [Act.put, List.setIfInBounds_toArray, List.set_cons_zero, List.set_cons_succ]
              refine held_take (i := 24) (v := ?_) rfl rfl (by kernel_rfl) (by kernel_rfl) (by kernel_rfl) (fun _ _ _ h => h) (by rfl) hHeld ?_ ?_
              rotate_left
              · rintro wh ⟨z0, z1, z2⟩
                go_simp
                (try with_reducible rfl)
              simp only [Act.put, List.setIfInBounds_toArray, List.set_cons_zero, List.set_cons_succ]
              refine held_take (i := 25) (v := ?_) rfl rfl (by kernel_rfl) (by kernel_rfl) (by kernel_rfl) (fun _ _ _ h => h) (by rfl) hHeld ?_ ?_
              rotate_left
              · rintro wh ⟨z0, z1, z2⟩
                go_simp
                (try with_reducible rfl)
              simp only [Act.put, List.setIfInBounds_toArray, List.set_cons_zero, List.set_cons_succ]
              refine held_take (i := 26) (v := ?_) rfl rfl (by kernel_rfl) (by kernel_rfl) (by kernel_rfl) (fun _ _ _ h => h) (by rfl) hHeld ?_ ?_
              rotate_left
              · rintro wh ⟨z0, z1, z2⟩
                go_simp
                (try with_reducible rfl)
              simp only [Act.put, List.setIfInBounds_toArray, List.set_cons_zero, List.set_cons_succ]
              refine held_take (i := 27) (v := ?_) rfl rfl (by kernel_rfl) (by kernel_rfl) (by kernel_rfl) (fun _ _ _ h => h) (by rfl) hHeld ?_ ?_
              rotate_left
              · rintro wh ⟨z0, z1, z2⟩
                go_simp
                (try with_reducible rfl)
              simp only [Act.put, List.setIfInBounds_toArray, List.set_cons_zero, List.set_cons_succ]
              refine held_take (i := 28) (v := ?_) rfl rfl (by kernel_rfl) (by kernel_rfl) (by kernel_rfl) (fun _ _ _ h => h) (by rfl) hHeld ?_ ?_
              rotate_left
              · rintro wh ⟨z0, z1, z2⟩
                go_simp
                (try with_reducible rfl)
              simp only [Act.put, List.setIfInBounds_toArray, List.set_cons_zero, List.set_cons_succ]
              refine held_take (i := 29) (v := ?_) rfl rfl (by kernel_rfl) (by kernel_rfl) (by kernel_rfl) (fun _ _ _ h => h) (by rfl) hHeld ?_ ?_
              rotate_left
              · rintro wh ⟨z0, z1, z2⟩
                go_simp
                (try with_reducible rfl)
              simp only [Act.put, List.setIfInBounds_toArray, List.set_cons_zero, List.set_cons_succ]
              refine held_take (i := 30) (v := ?_) rfl rfl (by kernel_rfl) (by kernel_rfl) (by kernel_rfl) (fun _ _ _ h => h) (by rfl) hHeld ?_ ?_
              rotate_left
              · rintro wh ⟨z0, z1, z2⟩
                go_simp
                (try with_reducible rfl)
              simp only [Act.put, List.setIfInBounds_toArray, List.set_cons_zero, List.set_cons_succ]
              refine held_call (i := 31) rfl (by kernel_rfl) (by rfl) (fun K hK => ?_)
              (go_simp; go_at_call 62; refine (hah _).mono ?_; rintro e w2 ⟨rfl, hb2⟩; have hB2 : Below wr.heap.size wr w2 := hB1.trans hb2)
              refine hK.out _ _ ⟨keep_cell a0 hB2 hwb, keep_cell a1 hB2 hwb, keep_cell az hB2 hwb⟩ (fun hHeld => ?_)
              clear hK K
              (try simp only [Act.put, List.setIfInBounds_toArray, List.set_cons_zero, List.set_cons_succ])
              refine held_take (i := 32) (v := ?_) rfl rfl (by kernel_rfl) (by kernel_rfl) (by kernel_rfl) (fun _ _ _ h => h) (by rfl) hHeld ?_ ?_
              rotate_left
              · rintro wh ⟨z0, z1, z2⟩
                go_simp
                (try with_reducible rfl)
              simp only [Act.put, List.setIfInBounds_toArray, List.set_cons_zero, List.set_cons_succ]
              refine held_take (i := 33) (v := ?_) rfl rfl (by kernel_rfl) (by kernel_rfl) (by kernel_rfl) (fun _ _ _ h => h) (by rfl) hHeld ?_ ?_
              rotate_left
              · rintro wh ⟨z0, z1, z2⟩
                go_simp
                (try with_reducible rfl)
              simp only [Act.put, List.setIfInBounds_toArray, List.set_cons_zero, List.set_cons_succ]
              refine held_take (i := 34) (v := ?_) rfl rfl (by kernel_rfl) (by kernel_rfl) (by kernel_rfl) (fun _ _ _ h => h) (by rfl) hHeld ?_ ?_
              rotate_left
              · rintro wh ⟨z0, z1, z2⟩
                go_simp
                (try with_reducible rfl)
              simp only [Act.put, List.setIfInBounds_toArray, List.set_cons_zero, List.set_cons_succ]
              refine wpAnyH_done (by kernel_rfl) ?_ _
              have hbn : Below w.heap.size w w2 := hbr.trans (hB2.mono hbr.size)
              clear hB1 hB2 hb2 hn hah
              go_wp2
              go_roundw
              case rel => exact ⟨k + 1, by omega, by go_num, HN, hbn⟩
              case measure => (simp [intOf]; try omega)
        · have g1 : (200 : Int) < (y.size : Int) := by omega
          have HZ := hbad (by rw [hnm, decide_eq_false hy2]; rfl)
          clear hstep hbad hall hnm hy2 hfs
          go_upto_region 4 with fail
          refine wp_region_held_drew (S := (fun W => W.cell? ⟨b, o + k * 2, none⟩ = some (.string x) ∧ W.cell? ⟨b, o + k * 2 + 1, none⟩ = some (.string y))) (by kernel_rfl) ⟨a0, a1⟩ (fun hHeld => ?_)
          refine held_take (i := 0) (v := ?_) rfl rfl (by kernel_rfl) (by kernel_rfl) (by kernel_rfl) (fun _ _ _ h => h) (by rfl) hHeld ?_ ?_
          rotate_left
          · rintro wh ⟨z0, z1⟩
            go_simp
            (try with_reducible rfl)
          simp only [Act.put, List.setIfInBounds_toArray, List.set_cons_zero, List.set_cons_succ]
          refine held_take (i := 1) (v := ?_) rfl rfl (by kernel_rfl) (by kernel_rfl) (by kernel_rfl) (fun _ _ _ h => h) (by rfl) hHeld ?_ ?_
          rotate_left
          · rintro wh ⟨z0, z1⟩
            go_simp
            (try with_reducible rfl)
          simp only [Act.put, List.setIfInBounds_toArray, List.set_cons_zero, List.set_cons_succ]
          refine held_take (i := 2) (v := ?_) rfl rfl (by kernel_rfl) (by kernel_rfl) (by kernel_rfl) (fun _ _ _ h => h) (by rfl) hHeld ?_ ?_
          rotate_left
          · rintro wh ⟨z0, z1⟩
            go_simp
            (try with_reducible rfl)
          simp only [Act.put, List.setIfInBounds_toArray, List.set_cons_zero, List.set_cons_succ]
          refine held_take (i := 3) (v := ?_) rfl rfl (by kernel_rfl) (by kernel_rfl) (by kernel_rfl) (fun _ _ _ h => h) (by rfl) hHeld ?_ ?_
          rotate_left
          · rintro wh ⟨z0, z1⟩
            go_simp
            (try with_reducible rfl)
          simp only [Act.put, List.setIfInBounds_toArray, List.set_cons_zero, List.set_cons_succ]
          refine held_take (i := 4) (v := ?_) rfl rfl (by kernel_rfl) (by kernel_rfl) (by kernel_rfl) (fun _ _ _ h => h) (by rfl) hHeld ?_ ?_
          rotate_left
          · rintro wh ⟨z0, z1⟩
            go_simp
            (try with_reducible rfl)
          simp only [Act.put, List.setIfInBounds_toArray, List.set_cons_zero, List.set_cons_succ]
          refine held_call (i := 5) rfl (by kernel_rfl) (by rfl) (fun K hK => ?_)
          (go_simp; go_at_call 35; refine (hn _).mono ?_; rintro e w1 ⟨rfl, rfl⟩; have hB1 : Below wr.heap.size wr wr.drew := (Below.refl _ _).drew)
          refine hK.out _ _ ⟨keep_cell a0 hB1 hwb, keep_cell a1 hB1 hwb⟩ (fun hHeld => ?_)
          clear hK K
          (try simp only [Act.put, List.setIfInBounds_toArray, List.set_cons_zero, List.set_cons_succ])
          refine held_take (i := 6) (v := ?_) rfl rfl (by kernel_rfl) (by kernel_rfl) (by kernel_rfl) (fun _ _ _ h => h) (by rfl) hHeld ?_ ?_
          rotate_left
          · rintro wh ⟨z0, z1⟩
            go_simp
            (try with_reducible rfl)
          simp only [Act.put, List.setIfInBounds_toArray, List.set_cons_zero, List.set_cons_succ]
          refine held_take (i := 7) (v := ?_) rfl rfl (by kernel_rfl) (by kernel_rfl) (by kernel_rfl) (fun _ _ _ h => h) (by rfl) hHeld ?_ ?_
          rotate_left
          · rintro wh ⟨z0, z1⟩
            go_simp
            (try with_reducible rfl)
          simp only [Act.put, List.setIfInBounds_toArray, List.set_cons_zero, List.set_cons_succ]
          refine held_take (i := 8) (v := ?_) rfl rfl (by kernel_rfl) (by kernel_rfl) (by kernel_rfl) (fun _ _ _ h => h) (by rfl) hHeld ?_ ?_
          rotate_left
          · rintro wh ⟨z0, z1⟩
            go_simp
            (try with_reducible rfl)
          simp only [Act.put, List.setIfInBounds_toArray, List.set_cons_zero, List.set_cons_succ]
          refine held_take (i := 9) (v := ?_) rfl rfl (by kernel_rfl) (by kernel_rfl) (by kernel_rfl) (fun _ _ _ h => h) (by rfl) hHeld ?_ ?_
          rotate_left
          · rintro wh ⟨z0, z1⟩
            go_simp
            (try with_reducible rfl)
          simp only [Act.put, List.setIfInBounds_toArray, List.set_cons_zero, List.set_cons_succ]
          refine held_take (i := 10) (v := ?_) rfl rfl (by kernel_rfl) (by kernel_rfl) (by kernel_rfl) (fun _ _ _ h => h) (by rfl) hHeld ?_ ?_
          rotate_left
          · rintro wh ⟨z0, z1⟩
            go_simp
            (try with_reducible rfl)
          simp only [Act.put, List.setIfInBounds_toArray, List.set_cons_zero, List.set_cons_succ]
          refine held_take (i := 11) (v := ?_) rfl rfl (by kernel_rfl) (by kernel_rfl) (by kernel_rfl) (fun _ _ _ h => h) (by rfl) hHeld ?_ ?_
          rotate_left
          · rintro wh ⟨z0, z1⟩
            go_simp
            (try with_reducible rfl)
          simp only [Act.put, List.setIfInBounds_toArray, List.set_cons_zero, List.set_cons_succ]
          refine held_take (i := 12) (v := ?_) rfl rfl (by kernel_rfl) (by kernel_rfl) (by kernel_rfl) (fun _ _ _ h => h) (by rfl) hHeld ?_ ?_
          rotate_left
          · rintro wh ⟨z0, z1⟩
            go_simp
            (try with_reducible rfl)
          simp only [Act.put, List.setIfInBounds_toArray, List.set_cons_zero, List.set_cons_succ]
          refine held_take (i := 13) (v := ?_) rfl rfl (by kernel_rfl) (by kernel_rfl) (by kernel_rfl) (fun _ _ _ h => h) (by rfl) hHeld ?_ ?_
          rotate_left
          · rintro wh ⟨z0, z1⟩
            go_simp
            (try with_reducible rfl)
          simp only [Act.put, List.setIfInBounds_toArray, List.set_cons_zero, List.set_cons_succ]
          refine held_take (i := 14) (v := ?_) rfl rfl (by kernel_rfl) (by kernel_rfl) (by kernel_rfl) (fun _ _ _ h => h) (by rfl) hHeld ?_ ?_
          rotate_left
          · rintro wh ⟨z0, z1⟩
            go_simp
            (try with_reducible rfl)
          simp only [Act.put, List.setIfInBounds_toArray, List.set_cons_zero, List.set_cons_succ]
          refine held_take (i := 15) (v := ?_) rfl rfl (by kernel_rfl) (by kernel_rfl) (by kernel_rfl) (fun _ _ _ h => h) (by rfl) hHeld ?_ ?_
          rotate_left
          · rintro wh ⟨z0, z1⟩
            go_simp
            (try with_reducible rfl)
          simp only [Act.put, List.setIfInBounds_toArray, List.set_cons_zero, List.set_cons_succ]
          refine held_take (i := 16) (v := ?_) rfl rfl (by kernel_rfl) (by kernel_rfl) (by kernel_rfl) (fun _ _ _ h => h) (by rfl) hHeld ?_ ?_
          rotate_left
          · rintro wh ⟨z0, z1⟩
            go_simp
            (try with_reducible rfl)
          simp only [Act.put, List.setIfInBounds_toArray, List.set_cons_zero, List.set_cons_succ]
          refine held_skip (i := 17) rfl rfl (by kernel_rfl) (by kernel_rfl) (by kernel_rfl) (fun _ _ _ h => h) (by rfl) hHeld ?_
          simp only [Act.put, List.setIfInBounds_toArray, List.set_cons_zero, List.set_cons_succ]
          refine held_skip (i := 18) rfl rfl (by kernel_rfl) (by kernel_rfl) (by kernel_rfl) (fun _ _ _ h => h) (by rfl) hHeld ?_
          simp only [Act.put, List.setIfInBounds_toArray, List.set_cons_zero, List.set_cons_succ]
          refine held_skip (i := 19) rfl rfl (by kernel_rfl) (by kernel_rfl) (by kernel_rfl) (fun _ _ _ h => h) (by rfl) hHeld ?_
          simp only [Act.put, List.setIfInBounds_toArray, List.set_cons_zero, List.set_cons_succ]
          refine held_skip (i := 20) rfl rfl (by kernel_rfl) (by kernel_rfl) (by kernel_rfl) (fun _ _ _ h => h) (by rfl) hHeld ?_
          simp only [Act.put, List.setIfInBounds_toArray, List.set_cons_zero, List.set_cons_succ]
          refine held_skip (i := 21) rfl rfl (by kernel_rfl) (by kernel_rfl) (by kernel_rfl) (fun _ _ _ h => h) (by rfl) hHeld ?_
          simp only [Act.put, List.setIfInBounds_toArray, List.set_cons_zero, List.set_cons_succ]
          refine held_skip (i := 22) rfl rfl (by kernel_rfl) (by kernel_rfl) (by kernel_rfl) (fun _ _ _ h => h) (by rfl) hHeld ?_
          simp only [Act.put, List.setIfInBounds_toArray, List.set_cons_zero, List.set_cons_succ]
          refine held_skip (i := 23) rfl rfl (by kernel_rfl) (by kernel_rfl) (by kernel_rfl) (fun _ _ _ h => h) (by rfl) hHeld ?_
          simp only [Act.put, List.setIfInBounds_toArray, List.set_cons_zero, List.set_cons_succ]
          refine held_skip (i := 24) rfl rfl (by kernel_rfl) (by kernel_rfl) (by kernel_rfl) (fun _ _ _ h => h) (by rfl) hHeld ?_
          simp only [Act.put, List.setIfInBounds_toArray, List.set_cons_zero, List.set_cons_succ]
          refine held_skip (i := 25) rfl rfl (by kernel_rfl) (by kernel_rfl) (by kernel_rfl) (fun _ _ _ h => h) (by rfl) hHeld ?_
          simp only [Act.put, List.setIfInBounds_toArray, List.set_cons_zero, List.set_cons_succ]
          refine held_skip (i := 26) rfl rfl (by kernel_rfl) (by kernel_rfl) (by kernel_rfl) (fun _ _ _ h => h) (by rfl) hHeld ?_
          simp only [Act.put, List.setIfInBounds_toArray, List.set_cons_zero, List.set_cons_succ]
          refine held_skip (i := 27) rfl rfl (by kernel_rfl) (by kernel_rfl) (by kernel_rfl) (fun _ _ _ h => h) (by rfl) hHeld ?_
          simp only [Act.put, List.setIfInBounds_toArray, List.set_cons_zero, List.set_cons_succ]
          refine held_skip (i := 28) rfl rfl (by kernel_rfl) (by kernel_rfl) (by kernel_rfl) (fun _ _ _ h => h) (by rfl) hHeld ?_
          simp only [Act.put, List.setIfInBounds_toArray, List.set_cons_zero, List.set_cons_succ]
          refine held_skip (i := 29) rfl rfl (by kernel_rfl) (by kernel_rfl) (by kernel_rfl) (fun _ _ _ h => h) (by rfl) hHeld ?_
          simp only [Act.put, List.setIfInBounds_toArray, List.set_cons_zero, List.set_cons_succ]
          refine held_skip (i := 30) rfl rfl (by kernel_rfl) (by kernel_rfl) (by kernel_rfl) (fun _ _ _ h => h) (by rfl) hHeld ?_
          simp only [Act.put, List.setIfInBounds_toArray, List.set_cons_zero, List.set_cons_succ]
          refine held_skip (i := 31) rfl rfl (by kernel_rfl) (by kernel_rfl) (by kernel_rfl) (fun _ _ _ h => h) (by rfl) hHeld ?_
          simp only [Act.put, List.setIfInBounds_toArray, List.set_cons_zero, List.set_cons_succ]
          refine held_skip (i := 32) rfl rfl (by kernel_rfl) (by kernel_rfl) (by kernel_rfl) (fun _ _ _ h => h) (by rfl) hHeld ?_
          simp only [Act.put, List.setIfInBounds_toArray, List.set_cons_zero, List.set_cons_succ]
          refine held_skip (i := 33) rfl rfl (by kernel_rfl) (by kernel_rfl) (by kernel_rfl) (fun _ _ _ h => h) (by rfl) hHeld ?_
          simp only [Act.put, List.setIfInBounds_toArray, List.set_cons_zero, List.set_cons_succ]
          refine held_take (i := 34) (v := ?_) rfl rfl (by kernel_rfl) (by kernel_rfl) (by kernel_rfl) (fun _ _ _ h => h) (by rfl) hHeld ?_ ?_
          rotate_left
          · rintro wh ⟨z0, z1⟩
            go_simp
            (try with_reducible rfl)
          simp only [Act.put, List.setIfInBounds_toArray, List.set_cons_zero, List.set_cons_succ]
          refine wpAnyH_done (by kernel_rfl) ?_ _
          have hbn : Below w.heap.size w wr.drew := hbr.trans (hB1.mono hbr.size)
          clear hB1 hn
          generalize wr.drew = wq at *
          go_wp2
          go_ret
          exact ⟨by rw [HZ.out]; rfl, hbn⟩
    · obtain rfl : k = l.length := by omega
      have HG : Hid (rightF l = decide (l.length ≤ 8)) := rightF_good HT.out
      clear HT
      by_cases h8 : l.length ≤ 8
      · have h8' : ((l.length : Int) ≤ 8) := by omega
        go_wp2
        go_ret
        exact ⟨by rw [HG.out]; simp; omega, hbr⟩
      · have h8' : (8 : Int) < (l.length : Int) := by omega
        go_wp2
        go_ret
        exact ⟨by rw [HG.out]; simp; omega, hbr⟩
end Go.Proofs.Ytipnhpfpppblhaa

/- lychgateref09.Right, Fires: contracts, the same as alert's. -/
namespace Go.Proofs.Ytipnhpfpppblhaa
open Go.RowKit
theorem al6r (W : World) (a b c d e f : Value) (t : TypeId) : C6 W.heap.size a b c d e f (W.alloc (.cells #[a, b, c, d, e, f] t)) := by
  have hc : ∀ (i : Nat), (W.alloc (.cells #[a, b, c, d, e, f] t)).cell? ⟨W.heap.size, i, none⟩ = _ := fun i => World.cell?_alloc_at _ _ _ _ rfl
  exact ⟨hc 0, hc 1, hc 2, hc 3, hc 4, hc 5⟩
set_option maxHeartbeats 3200000 in
set_option maxRecDepth 100000 in
theorem r9right_any (src : ByteArray) (fl : List Fld) (lv : Int) (c : Nat) (fr til : Int) (v : Value) (w : World) (hs : src.size ≤ maxLen) (hv : FldsAt w v fl) (hfit : FldsFit fl) (hl : fl.length ≤ maxLen) :
    Calls Try.prog 13 #[.agg #[.string src, v, .int .i64 lv, .int .u32 c, .int .i64 fr, .int .i64 til]] w fun e w' => e = .returned (.bool (whoA src fl lv && beginsA fr && endsA fr til)) ∧ Below w.heap.size w w' := by
  have k1 := refName.name_any src (w.alloc (.cells #[.string src, v, .int .i64 lv, .int .u32 c, .int .i64 fr, .int .i64 til] 38)) hs
  have hB0 := alloc_below w (.cells #[.string src, v, .int .i64 lv, .int .u32 c, .int .i64 fr, .int .i64 til] 38)
  have hz0 := World.size_alloc w (.cells #[.string src, v, .int .i64 lv, .int .u32 c, .int .i64 fr, .int .i64 til] 38)
  have x := al6r w (.string src) v (.int .i64 lv) (.int .u32 c) (.int .i64 fr) (.int .i64 til) 38
  have k2 := fun W (hb : Below w.heap.size w W) => rright6_any fl W v (hv.later hb) hfit hl
  have k3 := rright_any lv c
  obtain ⟨fa, fc, rfl, hfc, _⟩ := RdAt.shape hv
  obtain ⟨W0, hW0⟩ : ∃ z, w.alloc (.cells #[.string src, .slice fa fl.length fc, .int .i64 lv, .int .u32 c, .int .i64 fr, .int .i64 til] 38) = z := ⟨_, rfl⟩
  rw [hW0] at k1 hB0 hz0 x
  have K2 := Lib.hid k2
  have hl63 : fl.length ≤ 9223372036854775807 := by unfold maxLen at hl; omega
  have HX := Lib.hid x
  have HB := Lib.hid hB0
  obtain ⟨x0, x1, x2, x3, x4, x5⟩ := x
  clear hv hfit k2 hB0 hl
  go_enter Try.func13, Try.ntmps13
  go_upto_region 1 with fail
  try rw [hW0]
  clear hW0
  have hlt : w.heap.size < W0.heap.size := by omega
  clear hz0
  cases hn : nameL (B src)
  · have HW : Hid (whoA src fl lv = false) := by show _ = _; unfold whoA; rw [hn]; rfl
    rw [hn] at k1
    clear hn
    go_wp2_with fail
    refine k1.mono ?_
    rintro e w1 ⟨rfl, rfl⟩
    go_wp2
    go_ret
    exact ⟨by rw [HW.out]; rfl, HB.out⟩
  rw [hn] at k1
  by_cases h0 : 0 < fl.length
  case neg =>
    have HW : Hid (whoA src fl lv = false) := by show _ = _; unfold whoA; rw [decide_eq_false h0, Bool.and_false]; rfl
    obtain rfl : fl = [] := List.length_eq_zero_iff.1 (by omega)
    clear hn h0
    go_wp2_with fail
    refine k1.mono ?_
    rintro e w1 ⟨rfl, rfl⟩
    go_wp2
    go_ret
    exact ⟨by rw [HW.out]; rfl, HB.out⟩
  have h0' : (1 : Int) ≤ (fl.length : Int) := by omega
  have k2 := K2.out W0 HB.out
  cases hr : rightF fl
  · have HW : Hid (whoA src fl lv = false) := by show _ = _; unfold whoA; rw [hr, Bool.and_false]; rfl
    rw [hr] at k2
    clear hn hr
    go_wp2_with fail
    refine k1.mono ?_
    rintro e w1 ⟨rfl, rfl⟩
    go_wp2_with fail
    refine k2.mono ?_
    rintro e w2 ⟨rfl, hb2⟩
    have HB2 := Lib.hid (HB.out.trans (hb2.mono HB.out.size))
    clear hb2 k1 k2 x0 x1 x2 x3 x4 x5
    go_wp2
    go_ret
    exact ⟨by rw [HW.out]; rfl, HB2.out⟩
  have HW : Hid (whoA src fl lv = rightL lv) := by show _ = _; unfold whoA; rw [hn, hr, decide_eq_true h0]; rfl
  rw [hr] at k2
  clear hn hr
  go_wp2_with fail
  refine k1.mono ?_
  rintro e w1 ⟨rfl, rfl⟩
  go_wp2_with fail
  refine k2.mono ?_
  rintro e w2 ⟨rfl, hb2⟩
  have HB2 := Lib.hid (HB.out.trans (hb2.mono HB.out.size))
  have HX2 := Lib.hid (HX.out.later hb2 hlt)
  have hlt2 : w.heap.size < w2.heap.size := Nat.lt_of_lt_of_le hlt hb2.size
  clear hb2 k1 k2 K2 x0 x1 x2 x3 x4 x5 HB HX
  obtain ⟨x0, x1, x2, x3, x4, x5⟩ := HX2.out
  have k3 := k3 w2
  go_wp2_with fail
  refine k3.mono ?_
  rintro e w3 ⟨rfl, hb3⟩
  have HB3 := Lib.hid (HB2.out.trans (hb3.mono HB2.out.size))
  have HX3 := Lib.hid (HX2.out.later hb3 hlt2)
  clear k3 hb3 x0 x1 x2 x3 x4 x5 HB2 HX2 hlt hlt2
  cases hrl : rightL lv
  · rw [hrl] at HW
    clear hrl
    go_wp2
    go_ret
    exact ⟨by rw [HW.out]; rfl, HB3.out⟩
  rw [hrl] at HW
  clear hrl
  go_upto_region 3 with fail
  obtain ⟨x0, x1, x2, x3, x4, x5⟩ := HX3.out
  have HWH := HW
  clear HX3 HW h0 h0'
  by_cases h1 : 0 ≤ fr
  case neg =>
    have HW : Hid (beginsA fr = false) := by show _ = _; unfold beginsA; rw [decide_eq_false h1, Bool.false_and]
    have h1' : fr < 0 := by omega
    clear h1
    go_wp2
    go_ret
    exact ⟨by rw [HWH.out, HW.out]; rfl, HB3.out⟩
  by_cases h2 : fr ≤ 1099511627776
  case neg =>
    have HW : Hid (beginsA fr = false) := by show _ = _; unfold beginsA; rw [decide_eq_false h2, Bool.and_false]
    have h2' : (1099511627776 : Int) < fr := by omega
    clear h2
    go_wp2
    go_ret
    exact ⟨by rw [HWH.out, HW.out]; rfl, HB3.out⟩
  have HBG : Hid (beginsA fr = true) := by show _ = _; unfold beginsA; rw [decide_eq_true h1, decide_eq_true h2]; rfl
  by_cases h3 : til = 0
  · subst h3
    go_wp2
    go_ret
    exact ⟨by rw [HWH.out, HBG.out]; rfl, HB3.out⟩
  have hz : (til == 0) = false := by rw [beq_eq_false_iff_ne]; exact h3
  by_cases h4 : fr < til
  · by_cases h5 : til ≤ 1099511627776
    · have HW : Hid (endsA fr til = true) := by show _ = _; unfold endsA; rw [decide_eq_true h4, decide_eq_true h5]; simp
      clear h3
      go_wp2
      go_ret
      exact ⟨by rw [HWH.out, HBG.out, HW.out]; first | rfl | (simp; omega), HB3.out⟩
    · have HW : Hid (endsA fr til = false) := by show _ = _; unfold endsA; rw [decide_eq_false h3, decide_eq_false h5]; simp
      have h5' : (1099511627776 : Int) < til := by omega
      clear h3 h5
      go_wp2
      go_ret
      exact ⟨by rw [HWH.out, HBG.out, HW.out]; first | rfl | (simp; omega), HB3.out⟩
  · have HW : Hid (endsA fr til = false) := by show _ = _; unfold endsA; rw [decide_eq_false h3, decide_eq_false h4]; simp
    have h4' : til ≤ fr := by omega
    clear h3 h4
    go_wp2
    go_ret
    exact ⟨by rw [HWH.out, HBG.out, HW.out]; first | rfl | (simp; omega), HB3.out⟩
end Go.Proofs.Ytipnhpfpppblhaa

/- A row of bytes in a block of its own, nothing within its capacity frozen (what []byte(text) leaves too), and 'append' onto it. -/
namespace Go.Proofs.Ytipnhpfpppblhaa
open Go.RowKit
def OwnM (w : World) (base : Nat) (v : Value) (bs : List Int) : Prop :=
  ∃ g cap, v = .slice (some ⟨g, 0, none⟩) bs.length cap ∧ base ≤ g ∧ g < w.heap.size ∧ bs.length ≤ cap ∧ cap ≤ maxLen ∧
    (∀ j y, (bs.map V8)[j]? = some y → w.cell? ⟨g, j, none⟩ = some y) ∧ (∀ j, j < cap → (w.cell? ⟨g, j, none⟩).isSome = true ∧ w.frozen? ⟨g, j, none⟩ = false)
theorem OwnM.later {w w' : World} {base : Nat} {v : Value} {bs : List Int} (h : OwnM w base v bs) (hb : Below w.heap.size w w') : OwnM w' base v bs := by
  obtain ⟨g, cap, rfl, h1, h2, h3, h4, h5, h6⟩ := h
  refine ⟨g, cap, rfl, h1, Nat.lt_of_lt_of_le h2 hb.size, h3, h4, fun j y hj => ?_, fun j hj => ?_⟩
  · rw [hb.cell (p := ⟨g, j, none⟩) h2]; exact h5 j y hj
  · rw [hb.cell (p := ⟨g, j, none⟩) h2, World.frozen?_of_block (a := ⟨g, j, none⟩) (hb.block _ h2)]; exact h6 j hj
theorem OwnM.at {w : World} {base : Nat} {v : Value} {bs : List Int} (h : OwnM w base v bs) : ByAt w v bs := by
  obtain ⟨g, cap, rfl, h1, h2, h3, h4, h5, h6⟩ := h
  have h := RdAt.mk (w := w) (b := g) (o := 0) (n := bs.length) (c := cap) (k := 1) (xs := bs.map V8) (by simp) h3 h2 (fun j y hj => by rw [Nat.zero_add]; exact h5 j y hj)
  exact h
theorem OwnM.own {w : World} {base : Nat} {v : Value} {bs : List Int} (h : OwnM w base v bs) : ∀ p, v.ownBlock = some p → p < w.heap.size := by
  obtain ⟨g, cap, rfl, h1, h2, _⟩ := h
  intro p hp
  have : g = p := by simpa [Value.ownBlock] using hp
  rw [← this]; exact h2
theorem cv_ownM (w : World) (s : ByteArray) (hs : s.size ≤ 4000000) : OwnM (cvW w s) w.heap.size (.slice (some ⟨w.heap.size, 0, none⟩) s.size (cvC w s)) (byL s) := by
  refine ⟨w.heap.size, cvC w s, by rw [byL_len], Nat.le_refl _, by rw [cv_size]; omega, by rw [byL_len]; exact cv_cap w s, grownCap_le_maxLen w s.size 0 _ (by unfold maxLen; omega), fun j y hj => ?_, fun j hj => cv_free w s j hj⟩
  obtain ⟨h1, rfl⟩ := byL_at s j y hj
  exact Lib.bytesWorld_cell w 5 s j h1
theorem below_setCells {B g : Nat} {w0 : World} (hB : B ≤ g) : ∀ (vs : List Value) (o : Nat) (w : World), Below B w0 w → Below B w0 (w.setCells g o vs)
  | [], _, _, h => h
  | v :: vs, o, w, h => below_setCells hB vs (o + 1) _ (h.trans (below_setCell w g o v hB))
theorem byteCells_byL (s : ByteArray) : byteCells s = (byL s).map V8 := by
  unfold byteCells byL
  rw [List.map_map]
  rfl
theorem run_append_M {w : World} {base : Nat} {v : Value} {bs new : List Int} (hown : OwnM w base v bs) (tx : TypeId) (x : Value) (ty : TypeId) (i0 : TypeInfo)
    (hi : Try.prog.info? 5 = some i0) (hz0 : i0.zero = some (.int .u8 0)) (hz1 : i0.size = 1) (hz2 : i0.bytes = 1)
    (hs : Src Try.prog 1 tx x new.length (new.map V8) w) (hl : bs.length + new.length ≤ 8000000) (hbase : base ≤ w.heap.size) :
    ∃ v' w', (Builtin.append_ #[103, tx] ty #[v, x]).run Try.prog w = .ok v' w' ∧ OwnM w' base v' (bs ++ new) ∧ Below base w w' := by
  obtain ⟨g, cap, rfl, hbg, hg, hc, hcm, hcell, hfree⟩ := hown
  by_cases hroom : bs.length + new.length ≤ cap
  · have hr := run_append_room_src (P := Try.prog) (w := w) 103 tx ty 5 i0 Try.underlying103 hi g 0 bs.length cap x new.length (new.map V8) (by rw [hz1]; exact hs) hroom
      (fun j hj => by rw [List.length_map] at hj; rw [hz1, Nat.mul_one, Nat.zero_add]; exact (hfree _ (by omega)).1)
      (fun j hj => by rw [List.length_map] at hj; rw [hz1, Nat.mul_one, Nat.zero_add]; exact (hfree _ (by omega)).2)
    rw [hz1, Nat.mul_one, Nat.zero_add] at hr
    have hbw : Below base w (w.setCells g bs.length (new.map V8)) := below_setCells hbg _ _ _ (Below.refl _ _)
    refine ⟨_, _, hr, ⟨g, cap, by rw [List.length_append], hbg, Nat.lt_of_lt_of_le hg hbw.size, by rw [List.length_append]; exact hroom, hcm, fun j y hj => ?_, fun j hj => ?_⟩, hbw⟩
    · rw [List.map_append] at hj
      by_cases hjs : j < bs.length
      · rw [World.cell?_setCells_out _ _ _ _ _ (fun _ _ => .inl hjs)]
        rw [List.getElem?_append_left (by simpa using hjs)] at hj
        exact hcell j y hj
      · obtain ⟨k, rfl⟩ : ∃ k, j = bs.length + k := ⟨j - bs.length, by omega⟩
        rw [List.getElem?_append_right (by simp)] at hj
        simp only [List.length_map, Nat.add_sub_cancel_left] at hj
        obtain ⟨hk, rfl⟩ := List.getElem?_eq_some_iff.1 hj
        have hkn : k < new.length := by simpa using hk
        exact World.cell?_setCells_in g (new.map V8) bs.length w (fun i hi => (hfree _ (by rw [List.length_map] at hi; omega)).1) k hk
    · exact ⟨World.isSome_setCells _ _ _ _ _ (hfree j hj).1, by rw [World.frozen?_setCells]; exact (hfree j hj).2⟩
  · have hr := run_append_grow_src (P := Try.prog) w 103 tx ty 5 i0 (.int .u8 0) Try.underlying103 hi hz0 (some ⟨g, 0, none⟩) bs.length cap (bs.map V8)
      (by rw [hz1]; exact run_firstCells_some w.drew 1 bs.length ⟨g, 0, none⟩ bs.length cap (bs.map V8) (by simp) (by intro j y hj; have := hcell j y hj; rw [Addr.add_mid, Nat.zero_add]; simpa using this))
      x new.length (new.map V8) (by rw [hz1]; exact hs) (by omega) (by omega) (by rw [hz2]; exact growslice_fits (by omega) (by omega))
    have hge := grownCap_ge w (bs.length + new.length) cap 5
    have hcm2 : grownCap w (bs.length + new.length) cap 5 ≤ maxLen := grownCap_le_maxLen w _ cap _ (by unfold maxLen; omega)
    generalize grownCap w (bs.length + new.length) cap 5 = c2 at *
    obtain ⟨cur, hcur⟩ : ∃ z, ((bs.map V8 ++ new.map V8).toArray ++ Builtin.zeroCells (Value.int .u8 0).cells (c2 - (bs.length + new.length)) : Array Value) = z := ⟨_, rfl⟩
    have hcs : cur.size = c2 := by
      have hz1 : (Value.int IntKind.u8 0).cells.size = 1 := rfl
      rw [← hcur]
      simp only [Array.size_append, List.size_toArray, List.length_append, List.length_map, size_zeroCells, hz1]
      omega
    have hcj : ∀ j y, ((bs ++ new).map V8)[j]? = some y → cur[j]? = some y := fun j y hj => by
      rw [List.map_append] at hj
      have hjl := (List.getElem?_eq_some_iff.1 hj).1
      rw [← hcur, Array.getElem?_append_left (by simpa using hjl)]
      simpa using hj
    rw [hcur] at hr
    have hgn := heap_alloc_new w.drew (.cells cur 5)
    have hbw : Below base w (w.drew.alloc (.cells cur 5)) := ((Below.refl base w).drew).alloc (by simpa using hbase) _
    refine ⟨_, _, hr, ⟨w.heap.size, c2, by rw [List.length_append], hbase, by rw [World.size_alloc]; simp, by rw [List.length_append]; exact hge, hcm2, fun j y hj => ?_, fun j hj => ⟨?_, ?_⟩⟩, hbw⟩
    · rw [cell_of_row _ w.heap.size j cur _ _ hgn]; exact hcj j y hj
    · rw [cell_of_row _ w.heap.size j cur _ _ hgn, Array.getElem?_eq_getElem (by omega)]; rfl
    · have hgn' : (w.drew.alloc (.cells cur 5)).heap[w.heap.size]? = some (.cells cur 5 (0, 0)) := hgn
      unfold World.frozen?
      rw [hgn']
      simp
theorem wpList_append_M {w : World} {ops : Array Oper} {rest : List Oper} {o : Oper} {a : Act} {Q : Exit → Act → World → Prop} (hgd : o.guard = none) (s x : Operand) (tx : TypeId)
    (ho : o.op = .call { callee := .builtin .append, args := #[s, x], argTypes := #[103, tx] }) (i0 : TypeInfo)
    (hi : Try.prog.info? 5 = some i0) (hz0 : i0.zero = some (.int .u8 0)) (hz1 : i0.size = 1) (hz2 : i0.bytes = 1)
    (base : Nat) (v : Value) (bs : List Int) (hs : a.eval s = v) (hown : OwnM w base v bs) (u : Value) (new : List Int) (hx : a.eval x = u) (hu : Src Try.prog 1 tx u new.length (new.map V8) w)
    (hl : bs.length + new.length ≤ 8000000) (hbase : base ≤ w.heap.size)
    (h : ∀ v' w', OwnM w' base v' (bs ++ new) → Below base w w' → wpList Try.prog ops Q rest (a.put o.dst v') w') : wpList Try.prog ops Q (o :: rest) a w := by
  refine wpList_plain hgd fun K hK => ?_
  obtain ⟨v', w', hr, h2, h3⟩ := run_append_M hown tx u o.type i0 hi hz0 hz1 hz2 hu hl hbase
  unfold Oper.wp execOp
  simp only [ho, resolve, invoke, builtin, Sem.run_bind, Sem.run_pure, Result.andThen_ok, List.map_toArray, List.map_cons, List.map_nil, hs, hx, hr]
  exact hK _ _ (h v' w' h2 h3)
theorem src_str (w : World) (s : ByteArray) : Src Try.prog 1 9 (.string s) (byL s).length ((byL s).map V8) w := by
  rw [byL_len, ← byteCells_byL]
  exact Src.ofString w Try.underlying9 s
theorem src_one (w : World) (x : Int) : Src Try.prog 1 103 (.slice (some ⟨w.heap.size, 0, none⟩) 1 1) [x].length ([x].map V8) (w.alloc (.cells #[V8 x] 5)) :=
  Src.ofSlice _ Try.underlying103 ⟨w.heap.size, 0, none⟩ 1 1 [V8 x] rfl (fun j y hj => by
    have hj0 : j = 0 := by have := (List.getElem?_eq_some_iff.1 hj).1; simpa using this
    subst hj0
    have : V8 x = y := by simpa using hj
    subst this
    rw [Addr.add_mid, Nat.zero_add]
    exact World.cell?_alloc_at _ _ _ _ rfl) (by simp [Value.oneCell'])
end Go.Proofs.Ytipnhpfpppblhaa

/- The reference's SHA-256, plainly: what it reckons is what digest reckons. No program in sight. -/
namespace Go.Proofs.Ytipnhpfpppblhaa
open Go.RowKit
theorem bits_or_u32_nat (a b : Nat) (ha : a < 4294967296) (hb : b < 4294967296) : bits .or .u32 (a : Int) (b : Int) = ((a ||| b : Nat) : Int) := by
  have hx : a ||| b < 2 ^ 32 := Nat.or_lt_two_pow (by omega) (by omega)
  have h1 : (BitVec.ofInt 32 (a : Int)).toNat = a := by
    rw [BitVec.ofInt_natCast, BitVec.toNat_ofNat]; exact Nat.mod_eq_of_lt (by omega)
  have h2 : (BitVec.ofInt 32 (b : Int)).toNat = b := by
    rw [BitVec.ofInt_natCast, BitVec.toNat_ofNat]; exact Nat.mod_eq_of_lt (by omega)
  show IntKind.u32.wrap ((BitVec.ofInt 32 (a : Int) ||| BitVec.ofInt 32 (b : Int)).toNat : Int) = _
  rw [BitVec.toNat_or, h1, h2, IntKind.wrap_u32]
  omega
theorem bits_xor_u32_nat (a b : Nat) (ha : a < 4294967296) (hb : b < 4294967296) : bits .xor .u32 (a : Int) (b : Int) = ((a ^^^ b : Nat) : Int) := by
  have hx : a ^^^ b < 2 ^ 32 := Nat.xor_lt_two_pow (by omega) (by omega)
  have h1 : (BitVec.ofInt 32 (a : Int)).toNat = a := by
    rw [BitVec.ofInt_natCast, BitVec.toNat_ofNat]; exact Nat.mod_eq_of_lt (by omega)
  have h2 : (BitVec.ofInt 32 (b : Int)).toNat = b := by
    rw [BitVec.ofInt_natCast, BitVec.toNat_ofNat]; exact Nat.mod_eq_of_lt (by omega)
  show IntKind.u32.wrap ((BitVec.ofInt 32 (a : Int) ^^^ BitVec.ofInt 32 (b : Int)).toNat : Int) = _
  rw [BitVec.toNat_xor, h1, h2, IntKind.wrap_u32]
  omega
theorem or_sum (k a b : Nat) (hb : b < 2 ^ k) (h : 2 ^ k * a + b < 4294967296) : bits .or .u32 ((2 ^ k * a : Nat) : Int) (b : Int) = ((2 ^ k * a + b : Nat) : Int) := by
  rw [bits_or_u32_nat _ _ (by omega) (by omega), Nat.two_pow_add_eq_or_of_lt hb]
def turnN : Nat → Nat → Nat
  | 0, x => x
  | n + 1, x => turnN n x / 2 + turnN n x % 2 * 2147483648
theorem turnN_eq (x : Nat) : ∀ k, k ≤ 32 → turnN k x = x / 2 ^ k + x % 2 ^ k * 2 ^ (32 - k) := by
  intro k
  induction k with
  | zero => intro _; simp [turnN, Nat.mod_one]
  | succ k ih =>
    intro hk
    have hq : 2 ^ (k + 1) = 2 ^ k * 2 := Nat.pow_succ 2 k
    have e : 2 ^ (32 - k) = 2 * 2 ^ (32 - (k + 1)) := by rw [show 32 - k = (32 - (k + 1)) + 1 by omega, Nat.pow_succ, Nat.mul_comm]
    have e2 : 2 ^ k * 2 ^ (32 - (k + 1)) = 2147483648 := by rw [← Nat.pow_add, show k + (32 - (k + 1)) = 31 by omega]
    rw [turnN, ih (by omega), hq, ← Nat.div_div_eq_div_mul, Nat.mod_mul, e]
    generalize 2 ^ (32 - (k + 1)) = p at *
    generalize 2 ^ k = q at *
    have h1 : x % q * (2 * p) = 2 * (x % q * p) := by ac_rfl
    have h2 : (x % q + q * (x / q % 2)) * p = x % q * p + (x / q % 2) * 2147483648 := by rw [Nat.add_mul, ← e2]; ac_rfl
    rw [h1, h2]
    generalize x % q * p = y
    generalize x / q = z
    omega
theorem turnN_lt {x k : Nat} (hx : x < 4294967296) : turnN k x < 4294967296 := by
  induction k with
  | zero => exact hx
  | succ k ih => rw [turnN]; omega
theorem turnN_rot (x k : Nat) (h0 : 0 < k) (hk : k < 32) (hx : x < 4294967296) : ((turnN k x : Nat) : Int) = rotW (x : Int) (32 - k) := by
  unfold rotW
  rw [show 32 - (32 - k) = k by omega]
  have hp : 0 < 2 ^ k := Nat.two_pow_pos k
  have e : 2 ^ k * 2 ^ (32 - k) = 4294967296 := by rw [← Nat.pow_add, show k + (32 - k) = 32 by omega]
  have hq : 0 < 2 ^ (32 - k) := Nat.two_pow_pos _
  have h1 : x * 2 ^ (32 - k) % 4294967296 = 2 ^ (32 - k) * (x % 2 ^ k) := by
    rw [← e, Nat.mul_mod_mul_right, Nat.mul_comm]
  have h2 : x / 2 ^ k < 2 ^ (32 - k) := by rw [Nat.div_lt_iff_lt_mul hp, Nat.mul_comm, e]; exact hx
  have h3 : x % 2 ^ k < 2 ^ k := Nat.mod_lt _ hp
  have h4 : 2 ^ (32 - k) * (x % 2 ^ k) + x / 2 ^ k < 4294967296 := by
    have : 2 ^ (32 - k) * (x % 2 ^ k + 1) ≤ 2 ^ (32 - k) * 2 ^ k := Nat.mul_le_mul_left _ h3
    rw [Nat.mul_comm (2 ^ (32 - k)) (2 ^ k), e, Nat.mul_add] at this
    omega
  have h5 := or_sum (32 - k) (x % 2 ^ k) (x / 2 ^ k) h2 h4
  have c1 : (x : Int) * 2 ^ (32 - k) % 4294967296 = ((2 ^ (32 - k) * (x % 2 ^ k) : Nat) : Int) := by rw [← h1, Int.natCast_emod, Int.natCast_mul, Int.natCast_pow]; rfl
  have c2 : (x : Int) / 2 ^ k = ((x / 2 ^ k : Nat) : Int) := by rw [Int.natCast_ediv, Int.natCast_pow]; rfl
  rw [c1, c2, h5, turnN_eq x k (by omega)]
  rw [Nat.mul_comm (x % 2 ^ k), Nat.add_comm]
def W32 (x : Int) : Prop := 0 ≤ x ∧ x < 4294967296
theorem W32.nat {x : Int} (h : W32 x) : ∃ n : Nat, x = n ∧ n < 4294967296 := ⟨x.toNat, by have := h.1; omega, by have := h.2; have := h.1; omega⟩
theorem w32_mod (x : Int) : W32 (x % 4294967296) := ⟨by omega, by omega⟩
theorem not_word {x : Int} (h : W32 x) : bits BinOp.xor .u32 4294967295 x = 4294967295 - x := by
  obtain ⟨n, rfl, hn⟩ := h.nat
  have := bits_xor_u32_nat 4294967295 n (by omega) hn
  have e : 4294967295 ^^^ n = 4294967295 - n := by
    have h : (BitVec.allOnes 32 ^^^ BitVec.ofNat 32 n).toNat = (~~~ (BitVec.ofNat 32 n)).toNat := by rw [BitVec.allOnes_xor]
    rw [BitVec.toNat_xor, BitVec.toNat_not, BitVec.toNat_allOnes, BitVec.toNat_ofNat, Nat.mod_eq_of_lt (by omega)] at h
    exact h
  rw [e] at this
  rw [show ((4294967295 : Int)) = ((4294967295 : Nat) : Int) by rfl, this]
  omega
theorem word4_eq {a b c d : Int} (ha : 0 ≤ a ∧ a < 256) (hb : 0 ≤ b ∧ b < 256) (hc : 0 ≤ c ∧ c < 256) (hd : 0 ≤ d ∧ d < 256) : word4 a b c d = ((a * 256 + b) * 256 + c) * 256 + d := by
  obtain ⟨a, rfl⟩ := Int.eq_ofNat_of_zero_le ha.1
  obtain ⟨b, rfl⟩ := Int.eq_ofNat_of_zero_le hb.1
  obtain ⟨c, rfl⟩ := Int.eq_ofNat_of_zero_le hc.1
  obtain ⟨d, rfl⟩ := Int.eq_ofNat_of_zero_le hd.1
  unfold word4
  have h1 : (a : Int) * 16777216 % 4294967296 = ((2 ^ 24 * a : Nat) : Int) := by omega
  have h2 : (b : Int) * 65536 % 4294967296 = ((2 ^ 16 * b : Nat) : Int) := by omega
  have h3 : (c : Int) * 256 % 4294967296 = ((2 ^ 8 * c : Nat) : Int) := by omega
  have g1 := or_sum 24 a (2 ^ 16 * b) (by omega) (by omega)
  have g2 := or_sum 16 (2 ^ 8 * a + b) (2 ^ 8 * c) (by omega) (by omega)
  have g3 := or_sum 8 (2 ^ 16 * a + 2 ^ 8 * b + c) d (by omega) (by omega)
  rw [h1, h2, h3, g1, show 2 ^ 24 * a + 2 ^ 16 * b = 2 ^ 16 * (2 ^ 8 * a + b) by omega, g2, show 2 ^ 16 * (2 ^ 8 * a + b) + 2 ^ 8 * c = 2 ^ 8 * (2 ^ 16 * a + 2 ^ 8 * b + c) by omega, g3]
  omega
theorem blocks_app (V A B : List Int) (k : Nat) (hA : A.length = 64 * k) : ∀ m, blocksL (blocksL V A k) B m = blocksL V (A ++ B) (k + m) := by
  have h0 : ∀ j, j ≤ k → blocksL V (A ++ B) j = blocksL V A j := by
    intro j
    induction j with
    | zero => intro _; rfl
    | succ j ih =>
      intro hj
      rw [blocksL, blocksL, ih (by omega)]
      congr 1
      rw [List.drop_append_of_le_length (by omega), List.take_append_of_le_length (by rw [List.length_drop]; omega)]
  intro m
  induction m with
  | zero => exact (h0 k (Nat.le_refl _)).symm
  | succ m ih =>
    rw [blocksL, ih, show k + (m + 1) = (k + m) + 1 by omega, blocksL]
    congr 1
    rw [show 64 * (k + m) = A.length + 64 * m by omega, List.drop_append, (show A.drop (A.length + 64 * m) = [] from List.drop_eq_nil_of_le (by omega)), List.nil_append, show A.length + 64 * m - A.length = 64 * m by omega]
def wholeL (bs : List Int) : List Int := bs ++ [128] ++ List.replicate (padN (bs.length % 64)) 0 ++ lenL (IntKind.u64.wrap (IntKind.u64.wrap bs.length * 8)) 8
theorem lenL_len (N : Int) (k : Nat) : (lenL N k).length = k := by simp [lenL]
theorem padN_sum (n : Nat) (h : n < 64) : n + 1 + padN n + 8 = 64 ∨ n + 1 + padN n + 8 = 128 := by unfold padN; split <;> omega
theorem wholeL_len (bs : List Int) : 64 ∣ (wholeL bs).length := by
  have h := padN_sum (bs.length % 64) (Nat.mod_lt _ (by omega))
  unfold wholeL
  simp only [List.length_append, List.length_replicate, lenL_len, List.length_singleton]
  omega
theorem of_whole (bs : List Int) : ofL bs = outL (blocksL startL (wholeL bs) ((wholeL bs).length / 64)) 32 := by
  have hd : (bs.drop (64 * (bs.length / 64))).length = bs.length % 64 := by rw [List.length_drop]; omega
  have ht : (bs.take (64 * (bs.length / 64))).length = 64 * (bs.length / 64) := by rw [List.length_take]; omega
  unfold ofL sumOut
  congr 1
  rw [hd]
  have hb : blocksL startL bs (bs.length / 64) = blocksL startL (bs.take (64 * (bs.length / 64))) (bs.length / 64) := by
    have := blocks_app startL (bs.take (64 * (bs.length / 64))) (bs.drop (64 * (bs.length / 64))) (bs.length / 64) ht 0
    rw [List.take_append_drop] at this
    exact this.symm
  rw [hb, blocks_app _ _ _ _ ht]
  have e : bs.take (64 * (bs.length / 64)) ++ padL (bs.drop (64 * (bs.length / 64))) (padN (bs.length % 64)) bs.length = wholeL bs := by
    unfold padL wholeL
    simp only [← List.append_assoc, List.take_append_drop]
  have hl : (wholeL bs).length = 64 * (bs.length / 64) + (padL (bs.drop (64 * (bs.length / 64))) (padN (bs.length % 64)) bs.length).length := by
    rw [← e, List.length_append, ht]
  rw [e, hl]
  congr 1
  omega
end Go.Proofs.Ytipnhpfpppblhaa

/- lychgateref02.turn, start, keys: contracts. -/
namespace Go.Proofs.Ytipnhpfpppblhaa
open Go.RowKit
set_option maxHeartbeats 800000 in
theorem rturn_any (x n : Nat) (w : World) (hx : x < 4294967296) (hn : n ≤ 32) :
    Calls Try.prog 85 #[.int .u32 (x : Int), .int .i64 (n : Int)] w fun e w' => e = .returned (.int .u32 ((turnN n x : Nat) : Int)) ∧ w = w' := by
  go_enter Try.func85, Try.ntmps85
  go_wp2
  go_loop [0, 5] (fun vx vi => ∃ k : Nat, k ≤ n ∧ vi = .int .i64 k ∧ vx = .int .u32 ((turnN k x : Nat) : Int)) (fun _ vi => n - (intOf vi).toNat)
  case atStart => exact ⟨0, Nat.zero_le _, rfl, rfl⟩
  case round =>
    obtain ⟨k, hk, rfl, rfl⟩ := hrel
    have hlt := turnN_lt (k := k) hx
    have HS : Hid (turnN (k + 1) x = turnN k x / 2 + turnN k x % 2 * 2147483648) := Lib.hid rfl
    by_cases hkn : k < n
    · generalize turnN k x = y at *
      have h0 : (0 : Int) ≤ (y : Int) := by omega
      have h1 : (y : Int) < 4294967296 := by omega
      have hy : IntKind.u32.wrap ((y : Int) / 2 + (y : Int) % 2 * 2147483648) = (y : Int) / 2 + (y : Int) % 2 * 2147483648 := by rw [IntKind.wrap_u32']; omega
      have hz : IntKind.u32.wrap ((y : Int) % 2 * 2147483648) = (y : Int) % 2 * 2147483648 := by rw [IntKind.wrap_u32']; omega
      go_wp2
      go_round
      case rel => exact ⟨k + 1, by omega, by go_num, by rw [HS.out]; first | rfl | (congr 1; omega)⟩
      case measure => (simp [intOf]; try omega)
    · obtain rfl : k = n := by omega
      go_wp2
      go_ret
      exact ⟨rfl, rfl⟩
set_option maxHeartbeats 1600000 in
set_option maxRecDepth 100000 in
theorem rstart_any (w : World) : Calls Try.prog 71 #[] w fun e w' => e = .returned (.agg startV) ∧ Below w.heap.size w w' := by
  go_enter Try.func71, Try.ntmps71
  go_wp2
  refine bodyPost_ret (results_cell_row rfl _ _ w.heap.size 121 startV (0, 0) (.array 8 32) rfl (heap_alloc_new _ _) Try.underlying121 rfl (by kernel_rfl)) rfl ?_
  exact ⟨rfl, (Below.refl _ _).alloc (Nat.le_refl _) _⟩
set_option maxHeartbeats 1600000 in
set_option maxRecDepth 100000 in
theorem rkeys_any (w : World) : Calls Try.prog 72 #[] w fun e w' => e = .returned (.agg keysV) ∧ Below w.heap.size w w' := by
  go_enter Try.func72, Try.ntmps72
  go_upto_region 1 with fail
  have h1 : ∃ z : Array Value, z.size = 64 ∧ (w.alloc (.cells (Array.replicate 64 (V32 0)) 123)).heap[w.heap.size]? = some (.cells z 123 (0, 0)) := ⟨_, by simp, heap_alloc_new _ _⟩
  have hb := (Below.refl w.heap.size w).alloc (Nat.le_refl _) (.cells (Array.replicate 64 (V32 0)) 123)
  change Code.wp _ _ _ _ (w.alloc (.cells (Array.replicate 64 (V32 0)) 123))
  generalize w.alloc (.cells (Array.replicate 64 (V32 0)) 123) = w0 at *
  obtain ⟨z, hz, hg⟩ := h1
  apply wp_region_lit
  refine wpList_build rfl 123 _ rfl (by kernel_rfl) ?_
  refine wpList_store_row rfl 123 (.tmp 0) (.tmp 1) rfl w.heap.size keysV rfl (by kernel_rfl) 123 z hg (by kernel_rfl) hz (by kernel_rfl) ?_
  have hg2 := setRow_heap w0 w.heap.size z keysV _ _ hg
  have hb2 : Below w.heap.size w (w0.setRow w.heap.size keysV) := below_setRow hb (Nat.le_refl _) _
  generalize w0.setRow w.heap.size keysV = w1 at *
  generalize (Try.prog.built 123 _).getD #[] = X
  simp only [Act.put, List.setIfInBounds_toArray, List.set_cons_zero, List.set_cons_succ]
  show Exit.then _ _ Exit.normal _ _
  simp only [Exit.then]
  refine (by assumption : ∀ (a : Act) (w : World), Code.wp _ Code.ret _ a w → _) _ _ ?_
  go_wp2
  refine bodyPost_ret (results_cell_row rfl _ _ w.heap.size 123 keysV (0, 0) (.array 64 32) rfl hg2 Try.underlying123 rfl (by kernel_rfl)) rfl ?_
  exact ⟨rfl, hb2⟩
end Go.Proofs.Ytipnhpfpppblhaa

/- lychgateref02.round: a contract: what it hands back is what digest's own round leaves. -/
namespace Go.Proofs.Ytipnhpfpppblhaa
open Go.RowKit
def VR (w : World) (g : Nat) (L : List Int) (t : TypeId) : Prop := w.heap[g]? = some (.cells (L.map V32).toArray t (0, 0))
theorem VR.lt {w : World} {g : Nat} {L : List Int} {t : TypeId} (h : VR w g L t) : g < w.heap.size := (Array.getElem?_eq_some_iff.1 h).1
theorem VR.later {w w' : World} {g : Nat} {L : List Int} {t : TypeId} (h : VR w g L t) (hb : Below w.heap.size w w') : VR w' g L t := by
  unfold VR; rw [hb.block g h.lt]; exact h
theorem VR.cell {w : World} {g : Nat} {L : List Int} {t : TypeId} (h : VR w g L t) {j : Nat} {x : Int} (hj : L[j]? = some x) : w.cell? ⟨g, j, none⟩ = some (V32 x) := by
  rw [cell_row h, List.getElem?_toArray, List.getElem?_map, hj]; rfl
theorem VR.free {w : World} {g : Nat} {L : List Int} {t : TypeId} (h : VR w g L t) (j : Nat) : w.frozen? ⟨g, j, none⟩ = false := by simp [World.frozen?, show w.heap[g]? = _ from h]
theorem VR.put {w : World} {g : Nat} {L : List Int} {t : TypeId} (h : VR w g L t) (j : Nat) (x : Int) : VR (w.setCell ⟨g, j, none⟩ (V32 x)) g (L.set j x) t := by
  unfold VR; rw [heap_setCell_same w g j _ _ _ h, List.setIfInBounds_toArray, List.map_set]
theorem VR.else_ {w : World} {g g' : Nat} {L : List Int} {t : TypeId} (h : VR w g L t) (hne : g ≠ g') (j : Nat) (v : Value) : VR (w.setCell ⟨g', j, none⟩ v) g L t := by
  unfold VR; rw [heap_else _ _ _ _ _ hne]; exact h
def pW (bs : List Int) (i : Nat) : Nat → Int
  | 0 => 0
  | j + 1 => pW bs i j * 256 + bs.getD (4 * i + j) 0
theorem pW_bd {bs : List Int} (hB : ∀ x ∈ bs, 0 ≤ x ∧ x < 256) (i : Nat) : ∀ j, 0 ≤ pW bs i j ∧ pW bs i j < 256 ^ j := by
  have hd : ∀ k, 0 ≤ bs.getD k 0 ∧ bs.getD k 0 < 256 := fun k => by
    rw [List.getD_eq_getElem?_getD]
    cases h : bs[k]? with
    | none => simp
    | some x => exact hB x (List.mem_of_getElem? h)
  intro j
  induction j with
  | zero => simp [pW]
  | succ j ih =>
    have := hd (4 * i + j)
    rw [pW, Int.pow_succ]
    omega
theorem pW_four {bs : List Int} (hB : ∀ x ∈ bs, 0 ≤ x ∧ x < 256) (i : Nat) : pW bs i 4 = wordAt bs i := by
  have hd : ∀ k, 0 ≤ bs.getD k 0 ∧ bs.getD k 0 < 256 := fun k => by
    rw [List.getD_eq_getElem?_getD]
    cases h : bs[k]? with
    | none => simp
    | some x => exact hB x (List.mem_of_getElem? h)
  unfold wordAt
  rw [word4_eq (hd _) (hd _) (hd _) (hd _)]
  simp only [pW, Nat.add_zero]
  omega
def rowW (S : List Int) (x : Int) : List Int := S ++ x :: List.replicate (63 - S.length) 0
theorem rowW_at {S : List Int} {x : Int} : (rowW S x)[S.length]? = some x := by
  unfold rowW
  rw [List.getElem?_append_right (Nat.le_refl _), Nat.sub_self]; rfl
theorem rowW_set {S : List Int} {x y : Int} : (rowW S x).set S.length y = rowW S y := by
  unfold rowW
  rw [List.set_append_right _ _ (Nat.le_refl _), Nat.sub_self]; rfl
def rowS (S : List Int) : List Int := S ++ List.replicate (64 - S.length) 0
theorem rowS_W {S : List Int} (h : S.length < 64) : rowS S = rowW S 0 := by
  unfold rowS rowW
  rw [show 64 - S.length = (63 - S.length) + 1 by omega, List.replicate_succ]
theorem rowS_next {S : List Int} {x : Int} (h : S.length < 64) : (rowS S).set S.length x = rowS (S ++ [x]) := by
  rw [rowS_W h, rowW_set]
  unfold rowW rowS
  rw [List.append_assoc, List.length_append, List.length_singleton, show 64 - (S.length + 1) = 63 - S.length by omega]
  rfl
theorem rowS_at {S : List Int} {j : Nat} (h : j < S.length) : (rowS S)[j]? = some (S.getD j 0) := by
  unfold rowS
  rw [List.getElem?_append_left h, List.getD_eq_getElem?_getD, List.getElem?_eq_getElem h]; rfl
theorem xor_word {a b : Int} (ha : W32 a) (hb : W32 b) : W32 (bits .xor .u32 a b) := by
  obtain ⟨n, rfl, hn⟩ := ha.nat
  obtain ⟨m, rfl, hm⟩ := hb.nat
  rw [bits_xor_u32_nat _ _ hn hm]
  have : n ^^^ m < 2 ^ 32 := Nat.xor_lt_two_pow (by omega) (by omega)
  exact ⟨by omega, by omega⟩
theorem rot_word {x : Int} (h : W32 x) {k : Nat} (h0 : 0 < k) (hk : k < 32) : W32 (rotW x (32 - k)) := by
  obtain ⟨n, rfl, hn⟩ := h.nat
  rw [← turnN_rot n k h0 hk hn]
  have := turnN_lt (k := k) hn
  exact ⟨by omega, by omega⟩
theorem mix_word (a b c sh : Nat) {x : Int} (h : W32 x) (ha : 0 < a ∧ a < 32) (hb : 0 < b ∧ b < 32) (hc : sh = 0 → 0 < c ∧ c < 32) : W32 (mixW a b c sh x) := by
  unfold mixW
  refine xor_word (xor_word (rot_word h ha.1 ha.2) (rot_word h hb.1 hb.2)) ?_
  split
  · rename_i hs
    obtain ⟨n, rfl, hn⟩ := h.nat
    rw [show ((n : Int) / 2 ^ sh) = ((n / 2 ^ sh : Nat) : Int) by rw [Int.natCast_ediv, Int.natCast_pow]; rfl]
    have : n / 2 ^ sh ≤ n := Nat.div_le_self _ _
    generalize n / 2 ^ sh = z at *
    exact ⟨by omega, by omega⟩
  · rename_i hs
    have := hc (by omega)
    exact rot_word h this.1 this.2
theorem turn_any (x : Int) (n : Nat) (w : World) (hx : W32 x) (h0 : 0 < n) (hn : n < 32) :
    Calls Try.prog 85 #[.int .u32 x, .int .i64 (n : Int)] w fun e w' => e = .returned (.int .u32 (rotW x (32 - n))) ∧ w' = w := by
  obtain ⟨m, rfl, hm⟩ := hx.nat
  rw [← turnN_rot m n h0 hn hm]
  exact (rturn_any m n w hm (by omega)).mono fun e w' ⟨h1, h2⟩ => ⟨h1, h2.symm⟩
theorem there_cell8 {w : World} {g n : Nat} (h : w.there g 0 n) (j : Nat) (hj : j < n) : ∃ v, w.cell? ⟨g, j, none⟩ = some v := by
  have := (h j hj).1
  rw [Nat.zero_add] at this
  exact Option.isSome_iff_exists.1 this
structure RSt (w W : World) (V L : List Int) : Prop where
  h : VR W w.heap.size V 121
  k : W.heap[w.heap.size + 1]? = some (.cells keysV 123 (0, 0))
  r : W.there (w.heap.size + 1 + 1) 0 8
  m : VR W (w.heap.size + 1 + 1 + 1) L 123
  b : Below w.heap.size w W
theorem RSt.later {w W W' : World} {V L : List Int} (h : RSt w W V L) (hb : Below W.heap.size W W') : RSt w W' V L :=
  ⟨h.h.later hb, by rw [hb.block _ (Array.getElem?_eq_some_iff.1 h.k).1]; exact h.k, there_later h.r hb (by have := h.m.lt; omega), h.m.later hb, h.b.trans (hb.mono h.b.size)⟩
theorem there_put {w : World} {g g' : Nat} {n : Nat} (h : w.there g 0 n) (hne : g ≠ g') (j : Nat) (v : Value) : (w.setCell ⟨g', j, none⟩ v).there g 0 n := fun i hi => by
  obtain ⟨h1, h2⟩ := h i hi
  have hk := heap_else w g' j g v hne
  exact ⟨by rw [World.cell?_of_block (a := ⟨g, 0 + i, none⟩) hk]; exact h1, by rw [World.frozen?_of_block (a := ⟨g, 0 + i, none⟩) hk]; exact h2⟩
theorem RSt.put {w W : World} {V L : List Int} (h : RSt w W V L) (j : Nat) (x : Int) : RSt w (W.setCell ⟨w.heap.size + 1 + 1 + 1, j, none⟩ (V32 x)) V (L.set j x) :=
  ⟨h.h.else_ (by omega) _ _, by rw [heap_else _ _ _ _ _ (by omega)]; exact h.k, there_put h.r (by omega) _ _, h.m.put j x, h.b.trans (below_setCell W _ _ _ (by omega))⟩
theorem RSt.else_ {w W : World} {V L : List Int} (h : RSt w W V L) {g : Nat} (hg : w.heap.size + 1 + 1 + 1 < g) (j : Nat) (v : Value) : RSt w (W.setCell ⟨g, j, none⟩ v) V L :=
  ⟨h.h.else_ (by omega) _ _, by rw [heap_else _ _ _ _ _ (by omega)]; exact h.k, there_put h.r (by omega) _ _, h.m.else_ (by omega) _ _, h.b.trans (below_setCell W _ _ _ (by omega))⟩
theorem word4_word {a b c d : Int} (ha : 0 ≤ a ∧ a < 256) (hb : 0 ≤ b ∧ b < 256) (hc : 0 ≤ c ∧ c < 256) (hd : 0 ≤ d ∧ d < 256) : W32 (word4 a b c d) := by
  rw [word4_eq ha hb hc hd]; exact ⟨by omega, by omega⟩
theorem sched0_word {bs : List Int} (hB : ∀ x ∈ bs, 0 ≤ x ∧ x < 256) : ∀ x ∈ schedL bs 0, W32 x := by
  have hd : ∀ k, 0 ≤ bs.getD k 0 ∧ bs.getD k 0 < 256 := fun k => by
    rw [List.getD_eq_getElem?_getD]
    cases h : bs[k]? with
    | none => simp
    | some x => exact hB x (List.mem_of_getElem? h)
  intro x hx
  obtain ⟨i, _, rfl⟩ := List.mem_map.1 (show x ∈ (List.range 16).map (wordAt bs) from hx)
  exact word4_word (hd _) (hd _) (hd _) (hd _)
set_option maxHeartbeats 6400000 in
set_option maxRecDepth 100000 in
theorem rround_any (bs : List Int) (v0 v1 v2 v3 v4 v5 v6 v7 : Int) (a : Addr) (c : Nat) (w : World) (hb : bs.length = 64) (hB : Bytes8 w a bs) (hV : ∀ x ∈ [v0, v1, v2, v3, v4, v5, v6, v7], W32 x) :
    Calls Try.prog 73 #[.agg #[V32 v0, V32 v1, V32 v2, V32 v3, V32 v4, V32 v5, V32 v6, V32 v7], .agg keysV, .slice (some a) 64 c] w fun e w' => e = .returned (.agg ((blockL bs [v0, v1, v2, v3, v4, v5, v6, v7]).map V32).toArray) ∧ Below w.heap.size w w' := by
  obtain ⟨b, o, rfl, hlt, hcell⟩ := hB
  have HC := Lib.hid hcell
  have hBy : ∀ x ∈ bs, 0 ≤ x ∧ x < 256 := fun x hx => by
    obtain ⟨j, hj, rfl⟩ := List.getElem_of_mem hx
    exact (hcell j hj).2
  have HBY := Lib.hid hBy
  have HV := Lib.hid hV
  clear hcell hBy hV
  go_enter Try.func73, Try.ntmps73
  go_upto_region 2 with fail
  obtain ⟨V, hVd⟩ : ∃ V, [v0, v1, v2, v3, v4, v5, v6, v7] = V := ⟨_, rfl⟩
  have hst : RSt w ((((w.alloc (.cells #[V32 v0, V32 v1, V32 v2, V32 v3, V32 v4, V32 v5, V32 v6, V32 v7] 121)).alloc (.cells keysV 123)).alloc (.cells ((List.replicate 8 (0 : Int)).map V32).toArray 121)).alloc (.cells ((rowS []).map V32).toArray 123)) V (rowS []) := by
    generalize hm : ((rowS []).map V32).toArray = zm
    obtain ⟨Wa, ha⟩ : ∃ z, w.alloc (.cells #[V32 v0, V32 v1, V32 v2, V32 v3, V32 v4, V32 v5, V32 v6, V32 v7] 121) = z := ⟨_, rfl⟩
    obtain ⟨Wb, hb'⟩ : ∃ z, Wa.alloc (.cells keysV 123) = z := ⟨_, rfl⟩
    obtain ⟨Wc, hc'⟩ : ∃ z, Wb.alloc (.cells ((List.replicate 8 (0 : Int)).map V32).toArray 121) = z := ⟨_, rfl⟩
    obtain ⟨Wd, hd'⟩ : ∃ z, Wc.alloc (.cells zm 123) = z := ⟨_, rfl⟩
    rw [ha, hb', hc', hd']
    have sa : Wa.heap.size = w.heap.size + 1 := by rw [← ha, World.size_alloc]
    have sb : Wb.heap.size = w.heap.size + 1 + 1 := by rw [← hb', World.size_alloc, sa]
    have sc : Wc.heap.size = w.heap.size + 1 + 1 + 1 := by rw [← hc', World.size_alloc, sb]
    have ba : Below w.heap.size w Wa := by rw [← ha]; exact (Below.refl _ _).alloc (Nat.le_refl _) _
    have bb : Below Wa.heap.size Wa Wb := by rw [← hb']; exact (Below.refl _ _).alloc (Nat.le_refl _) _
    have bc : Below Wb.heap.size Wb Wc := by rw [← hc']; exact (Below.refl _ _).alloc (Nat.le_refl _) _
    have bd : Below Wc.heap.size Wc Wd := by rw [← hd']; exact (Below.refl _ _).alloc (Nat.le_refl _) _
    have na : VR Wa w.heap.size V 121 := by unfold VR; rw [← ha, heap_alloc_new, ← hVd]; rfl
    have nb : Wb.heap[w.heap.size + 1]? = some (.cells keysV 123 (0, 0)) := by rw [← hb', ← sa, heap_alloc_new]
    have nc := box_there (Below.refl _ (Wb.alloc (.cells ((List.replicate 8 (0 : Int)).map V32).toArray 121)))
    rw [hc', sb] at nc
    have nd : VR Wd (w.heap.size + 1 + 1 + 1) (rowS []) 123 := by unfold VR; rw [← hd', ← sc, heap_alloc_new, hm]
    have bcd := bc.trans (bd.mono bc.size)
    have bbd := bb.trans (bcd.mono bb.size)
    exact ⟨na.later bbd, by rw [bcd.block _ (by omega)]; exact nb, there_later nc bd (by omega), nd, ba.trans (bbd.mono ba.size)⟩
  change Code.wp _ _ _ _ ((((w.alloc (.cells #[V32 v0, V32 v1, V32 v2, V32 v3, V32 v4, V32 v5, V32 v6, V32 v7] 121)).alloc (.cells keysV 123)).alloc (.cells ((List.replicate 8 (0 : Int)).map V32).toArray 121)).alloc (.cells ((rowS []).map V32).toArray 123))
  generalize (((w.alloc (.cells #[V32 v0, V32 v1, V32 v2, V32 v3, V32 v4, V32 v5, V32 v6, V32 v7] 121)).alloc (.cells keysV 123)).alloc (.cells ((List.replicate 8 (0 : Int)).map V32).toArray 121)).alloc (.cells ((rowS []).map V32).toArray 123) = W4 at *
  have HST := Lib.hid hst
  have HVD := Lib.hid hVd
  clear hst hVd
  go_upto_region 3 with fail
  go_loopw [8] (fun vi wr => ∃ i : Nat, i ≤ 16 ∧ vi = .int .i64 i ∧ Hid (RSt w wr V (rowS (wordsL bs i)))) (fun vi _ => 16 - (intOf vi).toNat)
  case atStart => exact ⟨0, Nat.zero_le _, rfl, HST⟩
  case round =>
    clear HST
    obtain ⟨i, hi, rfl, HR⟩ := hrel
    by_cases hil : i < 16
    · have hwl := wordsL_len bs i
      have HR0 : Hid (RSt w wr V (rowW (wordsL bs i) (pW bs i 0))) := Lib.hid (by rw [show pW bs i 0 = 0 from rfl, ← rowS_W (by omega)]; exact HR.out)
      have HN : Hid (rowW (wordsL bs i) (pW bs i 4) = rowS (wordsL bs (i + 1))) := Lib.hid (by
        rw [pW_four HBY.out, wordsL_succ]
        unfold rowW rowS
        rw [List.append_assoc, List.length_append, List.length_singleton, show 64 - ((wordsL bs i).length + 1) = 63 - (wordsL bs i).length by omega]
        rfl)
      have hi16 : (i : Int) < 16 := by omega
      have hi64 : (i : Int) < 64 := by omega
      clear HR
      go_upto_region 6 with fail
      go_loopw [9] (fun vj wr => ∃ j : Nat, j ≤ 4 ∧ vj = .int .i64 j ∧ Hid (RSt w wr V (rowW (wordsL bs i) (pW bs i j)))) (fun vj _ => 4 - (intOf vj).toNat)
      case atStart => exact ⟨0, Nat.zero_le _, rfl, HR0⟩
      case round =>
        clear HR0
        obtain ⟨j, hj, rfl, HJ⟩ := hrel
        by_cases hjl : j < 4
        · obtain ⟨p, hp⟩ : ∃ p, pW bs i j = p := ⟨_, rfl⟩
          obtain ⟨h1, h2, h3⟩ := HC.out (4 * i + j) (by omega)
          have hx : bs.getD (4 * i + j) 0 = bs[4 * i + j] := by rw [List.getD_eq_getElem?_getD, List.getElem?_eq_getElem (by omega)]; rfl
          have HP1 : Hid (pW bs i (j + 1) = p * 256 + bs[4 * i + j]) := Lib.hid (by rw [pW, hp, hx])
          have hpb := pW_bd HBY.out i j
          rw [hp] at hpb HJ
          have hpp : p < 16777216 := by
            have h256 : (256 : Int) ^ j ≤ 16777216 := by
              rcases (show j = 0 ∨ j = 1 ∨ j = 2 ∨ j = 3 by omega) with h | h | h | h <;> subst h <;> decide
            omega
          have hp0 := hpb.1
          have hwb := keep_cell h1 HJ.out.b hlt
          generalize bs[4 * i + j] = x at *
          obtain ⟨q, hq⟩ : ∃ q, 4 * i = q := ⟨_, rfl⟩
          obtain ⟨q1, hq1⟩ : ∃ q1, 4 * i + j = q1 := ⟨_, rfl⟩
          rw [hq1] at hwb
          have hw0 : IntKind.i64.wrap (4 * (i : Int)) = (q : Int) := by rw [IntKind.wrap_i64]; omega
          have hw1 : IntKind.i64.wrap ((q : Int) + (j : Int)) = (q1 : Int) := by rw [IntKind.wrap_i64]; omega
          have hI1 : (q1 : Int) < 64 := by omega
          have vv : IntKind.u32.wrap x = x := by rw [IntKind.wrap_u32']; omega
          have y0 : IntKind.u32.wrap (p * 256) = p * 256 := by rw [IntKind.wrap_u32']; omega
          have y1 : IntKind.u32.wrap (p * 256 + x) = p * 256 + x := by rw [IntKind.wrap_u32']; omega
          have hjl4 : (j : Int) < 4 := by omega
          have hcl := HJ.out.m.cell (j := i) (x := p) (by have := @rowW_at (wordsL bs i) p; rwa [hwl] at this)
          have hfr := HJ.out.m.free i
          have hput := (HJ.out.put i (p * 256 + x)).later (Below.refl _ _).drew
          have hset : (rowW (wordsL bs i) p).set i (p * 256 + x) = rowW (wordsL bs i) (p * 256 + x) := by
            have := @rowW_set (wordsL bs i) p (p * 256 + x)
            rwa [hwl] at this
          rw [show (rowW (wordsL bs i) p).set i (p * 256 + x) = rowW (wordsL bs i) (pW bs i (j + 1)) by rw [hset, HP1.out]] at hput
          have HPUT := Lib.hid hput
          have HFR := Lib.hid hfr
          have HCL := Lib.hid hcl
          clear h1 h2 h3 hx hp hpb hput hset hq hq1 HP1 hfr
          go_wp2
          go_still_tail 15, (by kernel_rfl)
          have hcl : wr.drew.cell? ⟨w.heap.size + 1 + 1 + 1, i, none⟩ = some (V32 p) := HCL.out
          have hfr : wr.drew.frozen? ⟨w.heap.size + 1 + 1 + 1, i, none⟩ = false := HFR.out
          go_wp2
          go_roundw
          case rel => exact ⟨j + 1, by omega, by go_num, HPUT⟩
          case measure => (simp [intOf]; try omega)
        · obtain rfl : j = 4 := by omega
          rw [HN.out] at HJ
          go_wp2
          go_roundw
          case rel => exact ⟨i + 1, by omega, by go_num, HJ⟩
          case measure => (simp [intOf]; try omega)
    · obtain rfl : i = 16 := by omega
      rw [show ((16 : Nat) : Int) = 16 from rfl]
      have HR3 : Hid (RSt w wr V (rowS (schedL bs 0))) := HR
      clear HR
      go_upto_region 10 with fail
      go_loopw [10] (fun vi wr => ∃ k : Nat, k ≤ 48 ∧ vi = .int .i64 ((16 + k : Nat) : Int) ∧ Hid (RSt w wr V (rowS (schedL bs k))) ∧ Hid (∀ x ∈ schedL bs k, W32 x)) (fun vi _ => 64 - (intOf vi).toNat)
      case atStart => exact ⟨0, Nat.zero_le _, rfl, HR3, Lib.hid (sched0_word HBY.out)⟩
      case round =>
        clear HR3
        obtain ⟨k, hk, rfl, HR, HWD⟩ := hrel
        by_cases hkl : k < 48
        · obtain ⟨L, hL⟩ : ∃ L, schedL bs k = L := ⟨_, rfl⟩
          have hLl : L.length = 16 + k := by rw [← hL]; exact schedL_len bs k
          have HN : Hid (schedL bs (k + 1) = L ++ [nextW L]) := by show _ = _; rw [schedL, hL]
          rw [hL] at HR HWD
          have hx : ∀ d, 0 < d → d ≤ 16 → ∃ (q : Nat) (x : Int), q + d = 16 + k ∧ L.getD (16 + k - d) 0 = x ∧ W32 x ∧ (rowS L)[q]? = some x := fun d h1 h2 => by
            have hlt : 16 + k - d < L.length := by omega
            refine ⟨16 + k - d, _, by omega, rfl, ?_, rowS_at hlt⟩
            rw [List.getD_eq_getElem?_getD, List.getElem?_eq_getElem hlt]
            exact HWD.out _ (List.getElem_mem hlt)
          obtain ⟨q16, x16, i16, e16, u16, c16⟩ := hx 16 (by decide) (by decide)
          obtain ⟨q15, x15, i15, e15, u15, c15⟩ := hx 15 (by decide) (by decide)
          obtain ⟨q7, x7, i7, e7, u7, c7⟩ := hx 7 (by decide) (by decide)
          obtain ⟨q2, x2, i2, e2, u2, c2⟩ := hx 2 (by decide) (by decide)
          have HX : Hid (nextW L = (((x16 + mixW 7 18 0 3 x15) % 4294967296 + x7) % 4294967296 + mixW 17 19 0 10 x2) % 4294967296) := by
            show _ = _; unfold nextW; rw [hLl, e16, e15, e7, e2]
          have kA := fun W => turn_any x15 7 W u15 (by decide) (by decide)
          have kB := fun W => turn_any x15 18 W u15 (by decide) (by decide)
          have kC := fun W => turn_any x2 17 W u2 (by decide) (by decide)
          have kD := fun W => turn_any x2 19 W u2 (by decide) (by decide)
          obtain ⟨rA, hrA⟩ : ∃ z, rotW x15 (32 - 7) = z := ⟨_, rfl⟩
          obtain ⟨rB, hrB⟩ : ∃ z, rotW x15 (32 - 18) = z := ⟨_, rfl⟩
          obtain ⟨rC, hrC⟩ : ∃ z, rotW x2 (32 - 17) = z := ⟨_, rfl⟩
          obtain ⟨rD, hrD⟩ : ∃ z, rotW x2 (32 - 19) = z := ⟨_, rfl⟩
          have hmA : mixW 7 18 0 3 x15 = bits BinOp.xor .u32 (bits BinOp.xor .u32 rA rB) (x15 / 8) := by rw [← hrA, ← hrB]; rfl
          have hmB : mixW 17 19 0 10 x2 = bits BinOp.xor .u32 (bits BinOp.xor .u32 rC rD) (x2 / 1024) := by rw [← hrC, ← hrD]; rfl
          have hmwA := mix_word 7 18 0 3 u15 (by decide) (by decide) (by decide)
          have hmwB := mix_word 17 19 0 10 u2 (by decide) (by decide) (by decide)
          rw [hrA] at kA
          rw [hrB] at kB
          rw [hrC] at kC
          rw [hrD] at kD
          have KA : Hid (∀ W, Calls Try.prog 85 #[.int .u32 x15, .int .i64 7] W fun e w' => e = .returned (.int .u32 rA) ∧ w' = W) := Lib.hid kA
          have KB : Hid (∀ W, Calls Try.prog 85 #[.int .u32 x15, .int .i64 18] W fun e w' => e = .returned (.int .u32 rB) ∧ w' = W) := Lib.hid kB
          have KC : Hid (∀ W, Calls Try.prog 85 #[.int .u32 x2, .int .i64 17] W fun e w' => e = .returned (.int .u32 rC) ∧ w' = W) := Lib.hid kC
          have KD : Hid (∀ W, Calls Try.prog 85 #[.int .u32 x2, .int .i64 19] W fun e w' => e = .returned (.int .u32 rD) ∧ w' = W) := Lib.hid kD
          obtain ⟨mA, hmA'⟩ : ∃ z, mixW 7 18 0 3 x15 = z := ⟨_, rfl⟩
          obtain ⟨mB, hmB'⟩ : ∃ z, mixW 17 19 0 10 x2 = z := ⟨_, rfl⟩
          rw [hmA'] at hmA HX hmwA
          rw [hmB'] at hmB HX hmwB
          obtain ⟨s1, hs1⟩ : ∃ z, (x16 + mA) % 4294967296 = z := ⟨_, rfl⟩
          obtain ⟨s2, hs2⟩ : ∃ z, (s1 + x7) % 4294967296 = z := ⟨_, rfl⟩
          obtain ⟨s3, hs3⟩ : ∃ z, (s2 + mB) % 4294967296 = z := ⟨_, rfl⟩
          rw [hs1, hs2, hs3] at HX
          have hd8 : IntKind.u32.wrap (x15.tdiv 8) = x15 / 8 := by rw [Int.tdiv_eq_ediv_of_nonneg u15.1, IntKind.wrap_u32']; have := u15.1; have := u15.2; omega
          have hd10 : IntKind.u32.wrap (x2.tdiv 1024) = x2 / 1024 := by rw [Int.tdiv_eq_ediv_of_nonneg u2.1, IntKind.wrap_u32']; have := u2.1; have := u2.2; omega
          have HMA : Hid (mA = bits BinOp.xor .u32 (bits BinOp.xor .u32 rA rB) (IntKind.u32.wrap (x15.tdiv 8))) := Lib.hid (by rw [hmA, hd8])
          have HMB : Hid (mB = bits BinOp.xor .u32 (bits BinOp.xor .u32 rC rD) (IntKind.u32.wrap (x2.tdiv 1024))) := Lib.hid (by rw [hmB, hd10])
          have Y1 := Lib.hid hs1
          have Y2 := Lib.hid hs2
          have Y3 := Lib.hid hs3
          clear hd8 hd10
          obtain ⟨n, hn⟩ : ∃ n, 16 + k = n := ⟨_, rfl⟩
          rw [hn] at hLl i16 i15 i7 i2 ⊢
          have hw16 : IntKind.i64.wrap ((n : Int) - 16) = (q16 : Int) := by rw [IntKind.wrap_i64]; omega
          have hI16 : (q16 : Int) < 64 := by omega
          have hw15 : IntKind.i64.wrap ((n : Int) - 15) = (q15 : Int) := by rw [IntKind.wrap_i64]; omega
          have hI15 : (q15 : Int) < 64 := by omega
          have hw7 : IntKind.i64.wrap ((n : Int) - 7) = (q7 : Int) := by rw [IntKind.wrap_i64]; omega
          have hI7 : (q7 : Int) < 64 := by omega
          have hw2 : IntKind.i64.wrap ((n : Int) - 2) = (q2 : Int) := by rw [IntKind.wrap_i64]; omega
          have hI2 : (q2 : Int) < 64 := by omega
          have hIn : (n : Int) < 64 := by omega
          have hIn0 : (16 : Int) ≤ (n : Int) := by omega
          have d15 := HR.out.m.cell c15
          have d2 := HR.out.m.cell c2
          have d16 := HR.out.m.cell c16
          have d7 := HR.out.m.cell c7
          have D16 := Lib.hid d16
          have D7 := Lib.hid d7
          have D2 := Lib.hid d2
          obtain ⟨u150, u151⟩ := u15
          obtain ⟨u20, u21⟩ := u2
          clear hx hL e16 e15 e7 e2 hrA hrB hrC hrD kA kB kC kD hmA hmB hmA' hmB' c16 c15 c7 c2
          clear d16 d7 d2 hs1 hs2 hs3
          have SK : Hid (∀ W', Below wr.heap.size wr W' → W'.cell? ⟨w.heap.size + 1 + 1 + 1, q15, none⟩ = some (V32 x15) ∧ W'.cell? ⟨w.heap.size + 1 + 1 + 1, q2, none⟩ = some (V32 x2) ∧ W'.cell? ⟨w.heap.size + 1 + 1 + 1, q16, none⟩ = some (V32 x16) ∧ W'.cell? ⟨w.heap.size + 1 + 1 + 1, q7, none⟩ = some (V32 x7)) := Lib.hid (fun W' h => ⟨keep_cell d15 h HR.out.m.lt, keep_cell D2.out h HR.out.m.lt, keep_cell D16.out h HR.out.m.lt, keep_cell D7.out h HR.out.m.lt⟩)
          clear d15 D2 D16 D7
          go_upto_region 12 with fail
          refine wp_region_held_drew (S := (fun W' => W'.cell? ⟨w.heap.size + 1 + 1 + 1, q15, none⟩ = some (V32 x15) ∧ W'.cell? ⟨w.heap.size + 1 + 1 + 1, q2, none⟩ = some (V32 x2) ∧ W'.cell? ⟨w.heap.size + 1 + 1 + 1, q16, none⟩ = some (V32 x16) ∧ W'.cell? ⟨w.heap.size + 1 + 1 + 1, q7, none⟩ = some (V32 x7))) (by kernel_rfl) (SK.out _ ((Below.refl wr.heap.size wr).drew)) (fun hHeld => ?_)
          refine held_take (i := 0) (v := ?_) rfl rfl (by kernel_rfl) (by kernel_rfl) (by kernel_rfl) (fun _ _ _ h => h) (by rfl) hHeld ?_ ?_
          rotate_left
          · rintro wh ⟨d15, d2, d16, d7⟩
            go_simp
            (try with_reducible rfl)
          simp only [Act.put, List.setIfInBounds_toArray, List.set_cons_zero, List.set_cons_succ]
          refine held_take (i := 1) (v := ?_) rfl rfl (by kernel_rfl) (by kernel_rfl) (by kernel_rfl) (fun _ _ _ h => h) (by rfl) hHeld ?_ ?_
          rotate_left
          · rintro wh ⟨d15, d2, d16, d7⟩
            go_simp
            (try with_reducible rfl)
          simp only [Act.put, List.setIfInBounds_toArray, List.set_cons_zero, List.set_cons_succ]
          refine held_take (i := 2) (v := ?_) rfl rfl (by kernel_rfl) (by kernel_rfl) (by kernel_rfl) (fun _ _ _ h => h) (by rfl) hHeld ?_ ?_
          rotate_left
          · rintro wh ⟨d15, d2, d16, d7⟩
            go_simp
            (try with_reducible rfl)
          simp only [Act.put, List.setIfInBounds_toArray, List.set_cons_zero, List.set_cons_succ]
          refine held_take (i := 3) (v := ?_) rfl rfl (by kernel_rfl) (by kernel_rfl) (by kernel_rfl) (fun _ _ _ h => h) (by rfl) hHeld ?_ ?_
          rotate_left
          · rintro wh ⟨d15, d2, d16, d7⟩
            go_simp
            (try with_reducible rfl)
          simp only [Act.put, List.setIfInBounds_toArray, List.set_cons_zero, List.set_cons_succ]
          refine held_take (i := 5) (v := ?_) rfl rfl (by kernel_rfl) (by kernel_rfl) (by kernel_rfl) (fun _ _ _ h => h) (by rfl) hHeld ?_ ?_
          rotate_left
          · rintro wh ⟨d15, d2, d16, d7⟩
            go_simp
            (try with_reducible rfl)
          simp only [Act.put, List.setIfInBounds_toArray, List.set_cons_zero, List.set_cons_succ]
          refine held_take (i := 6) (v := ?_) rfl rfl (by kernel_rfl) (by kernel_rfl) (by kernel_rfl) (fun _ _ _ h => h) (by rfl) hHeld ?_ ?_
          rotate_left
          · rintro wh ⟨d15, d2, d16, d7⟩
            go_simp
            (try with_reducible rfl)
          simp only [Act.put, List.setIfInBounds_toArray, List.set_cons_zero, List.set_cons_succ]
          refine held_take (i := 7) (v := ?_) rfl rfl (by kernel_rfl) (by kernel_rfl) (by kernel_rfl) (fun _ _ _ h => h) (by rfl) hHeld ?_ ?_
          rotate_left
          · rintro wh ⟨d15, d2, d16, d7⟩
            go_simp
            (try with_reducible rfl)
          simp only [Act.put, List.setIfInBounds_toArray, List.set_cons_zero, List.set_cons_succ]
          refine held_take (i := 8) (v := ?_) rfl rfl (by kernel_rfl) (by kernel_rfl) (by kernel_rfl) (fun _ _ _ h => h) (by rfl) hHeld ?_ ?_
          rotate_left
          · rintro wh ⟨d15, d2, d16, d7⟩
            go_simp
            (try with_reducible rfl)
          simp only [Act.put, List.setIfInBounds_toArray, List.set_cons_zero, List.set_cons_succ]
          refine held_take (i := 11) (v := ?_) rfl rfl (by kernel_rfl) (by kernel_rfl) (by kernel_rfl) (fun _ _ _ h => h) (by rfl) hHeld ?_ ?_
          rotate_left
          · rintro wh ⟨d15, d2, d16, d7⟩
            go_simp
            (try with_reducible rfl)
          simp only [Act.put, List.setIfInBounds_toArray, List.set_cons_zero, List.set_cons_succ]
          refine held_take (i := 12) (v := ?_) rfl rfl (by kernel_rfl) (by kernel_rfl) (by kernel_rfl) (fun _ _ _ h => h) (by rfl) hHeld ?_ ?_
          rotate_left
          · rintro wh ⟨d15, d2, d16, d7⟩
            go_simp
            (try with_reducible rfl)
          simp only [Act.put, List.setIfInBounds_toArray, List.set_cons_zero, List.set_cons_succ]
          refine held_take (i := 13) (v := ?_) rfl rfl (by kernel_rfl) (by kernel_rfl) (by kernel_rfl) (fun _ _ _ h => h) (by rfl) hHeld ?_ ?_
          rotate_left
          · rintro wh ⟨d15, d2, d16, d7⟩
            go_simp
            (try with_reducible rfl)
          simp only [Act.put, List.setIfInBounds_toArray, List.set_cons_zero, List.set_cons_succ]
          refine held_take (i := 14) (v := ?_) rfl rfl (by kernel_rfl) (by kernel_rfl) (by kernel_rfl) (fun _ _ _ h => h) (by rfl) hHeld ?_ ?_
          rotate_left
          · rintro wh ⟨d15, d2, d16, d7⟩
            go_simp
            (try with_reducible rfl)
          simp only [Act.put, List.setIfInBounds_toArray, List.set_cons_zero, List.set_cons_succ]
          refine held_take (i := 15) (v := ?_) rfl rfl (by kernel_rfl) (by kernel_rfl) (by kernel_rfl) (fun _ _ _ h => h) (by rfl) hHeld ?_ ?_
          rotate_left
          · rintro wh ⟨d15, d2, d16, d7⟩
            go_simp
            (try with_reducible rfl)
          simp only [Act.put, List.setIfInBounds_toArray, List.set_cons_zero, List.set_cons_succ]
          refine held_step (i := 4) rfl (by kernel_rfl) (fun K hK => ?_)
          go_simp; refine (KA.out _).mono ?_; rintro e wq ⟨rfl, hq⟩; obtain rfl := hq.symm; clear hq
          refine hK.out _ _ (SK.out _ ((Below.refl wr.heap.size wr).drew)) (fun hHeld => ?_)
          clear hK K
          (try simp only [Act.put, List.setIfInBounds_toArray])
          refine held_step (i := 9) rfl (by kernel_rfl) (fun K hK => ?_)
          go_simp; refine (KB.out _).mono ?_; rintro e wq ⟨rfl, hq⟩; obtain rfl := hq.symm; clear hq
          refine hK.out _ _ (SK.out _ ((Below.refl wr.heap.size wr).drew)) (fun hHeld => ?_)
          clear hK K
          (try simp only [Act.put, List.setIfInBounds_toArray])
          refine held_take (i := 10) (v := ?_) rfl rfl (by kernel_rfl) (by kernel_rfl) (by kernel_rfl) (fun _ _ _ h => h) (by rfl) hHeld ?_ ?_
          rotate_left
          · rintro wh ⟨d15, d2, d16, d7⟩
            go_simp
            (try with_reducible rfl)
          simp only [Act.put, List.setIfInBounds_toArray, List.set_cons_zero, List.set_cons_succ]
          refine held_take (i := 16) (v := ?_) rfl rfl (by kernel_rfl) (by kernel_rfl) (by kernel_rfl) (fun _ _ _ h => h) (by rfl) hHeld ?_ ?_
          rotate_left
          · rintro wh ⟨d15, d2, d16, d7⟩
            go_simp
            (try with_reducible rfl)
          simp only [Act.put, List.setIfInBounds_toArray, List.set_cons_zero, List.set_cons_succ]
          refine held_take (i := 17) (v := ?_) rfl rfl (by kernel_rfl) (by kernel_rfl) (by kernel_rfl) (fun _ _ _ h => h) (by rfl) hHeld ?_ ?_
          rotate_left
          · rintro wh ⟨d15, d2, d16, d7⟩
            go_simp
            (try with_reducible rfl)
          simp only [Act.put, List.setIfInBounds_toArray, List.set_cons_zero, List.set_cons_succ]
          refine wpAnyH_done (by kernel_rfl) ?_ _
          have hb1 : Below wr.heap.size wr wr.drew := (Below.refl _ _).drew
          have SK1 : Hid (∀ W', Below wr.drew.heap.size wr.drew W' → W'.cell? ⟨w.heap.size + 1 + 1 + 1, q15, none⟩ = some (V32 x15) ∧ W'.cell? ⟨w.heap.size + 1 + 1 + 1, q2, none⟩ = some (V32 x2) ∧ W'.cell? ⟨w.heap.size + 1 + 1 + 1, q16, none⟩ = some (V32 x16) ∧ W'.cell? ⟨w.heap.size + 1 + 1 + 1, q7, none⟩ = some (V32 x7)) := Lib.hid (fun W' h => SK.out W' (hb1.trans (h.mono hb1.size)))
          have HR1 := Lib.hid (HR.out.later hb1)
          clear HR SK hb1 hHeld KA KB
          rw [← HMA.out]
          generalize wr.drew = w1 at *
          go_upto_region 13 with fail
          refine wp_region_held_drew (S := (fun W' => W'.cell? ⟨w.heap.size + 1 + 1 + 1, q15, none⟩ = some (V32 x15) ∧ W'.cell? ⟨w.heap.size + 1 + 1 + 1, q2, none⟩ = some (V32 x2) ∧ W'.cell? ⟨w.heap.size + 1 + 1 + 1, q16, none⟩ = some (V32 x16) ∧ W'.cell? ⟨w.heap.size + 1 + 1 + 1, q7, none⟩ = some (V32 x7))) (by kernel_rfl) (SK1.out _ ((Below.refl w1.heap.size w1).drew)) (fun hHeld => ?_)
          refine held_take (i := 0) (v := ?_) rfl rfl (by kernel_rfl) (by kernel_rfl) (by kernel_rfl) (fun _ _ _ h => h) (by rfl) hHeld ?_ ?_
          rotate_left
          · rintro wh ⟨d15, d2, d16, d7⟩
            go_simp
            (try with_reducible rfl)
          simp only [Act.put, List.setIfInBounds_toArray, List.set_cons_zero, List.set_cons_succ]
          refine held_take (i := 1) (v := ?_) rfl rfl (by kernel_rfl) (by kernel_rfl) (by kernel_rfl) (fun _ _ _ h => h) (by rfl) hHeld ?_ ?_
          rotate_left
          · rintro wh ⟨d15, d2, d16, d7⟩
            go_simp
            (try with_reducible rfl)
          simp only [Act.put, List.setIfInBounds_toArray, List.set_cons_zero, List.set_cons_succ]
          refine held_take (i := 2) (v := ?_) rfl rfl (by kernel_rfl) (by kernel_rfl) (by kernel_rfl) (fun _ _ _ h => h) (by rfl) hHeld ?_ ?_
          rotate_left
          · rintro wh ⟨d15, d2, d16, d7⟩
            go_simp
            (try with_reducible rfl)
          simp only [Act.put, List.setIfInBounds_toArray, List.set_cons_zero, List.set_cons_succ]
          refine held_take (i := 3) (v := ?_) rfl rfl (by kernel_rfl) (by kernel_rfl) (by kernel_rfl) (fun _ _ _ h => h) (by rfl) hHeld ?_ ?_
          rotate_left
          · rintro wh ⟨d15, d2, d16, d7⟩
            go_simp
            (try with_reducible rfl)
          simp only [Act.put, List.setIfInBounds_toArray, List.set_cons_zero, List.set_cons_succ]
          refine held_take (i := 5) (v := ?_) rfl rfl (by kernel_rfl) (by kernel_rfl) (by kernel_rfl) (fun _ _ _ h => h) (by rfl) hHeld ?_ ?_
          rotate_left
          · rintro wh ⟨d15, d2, d16, d7⟩
            go_simp
            (try with_reducible rfl)
          simp only [Act.put, List.setIfInBounds_toArray, List.set_cons_zero, List.set_cons_succ]
          refine held_take (i := 6) (v := ?_) rfl rfl (by kernel_rfl) (by kernel_rfl) (by kernel_rfl) (fun _ _ _ h => h) (by rfl) hHeld ?_ ?_
          rotate_left
          · rintro wh ⟨d15, d2, d16, d7⟩
            go_simp
            (try with_reducible rfl)
          simp only [Act.put, List.setIfInBounds_toArray, List.set_cons_zero, List.set_cons_succ]
          refine held_take (i := 7) (v := ?_) rfl rfl (by kernel_rfl) (by kernel_rfl) (by kernel_rfl) (fun _ _ _ h => h) (by rfl) hHeld ?_ ?_
          rotate_left
          · rintro wh ⟨d15, d2, d16, d7⟩
            go_simp
            (try with_reducible rfl)
          simp only [Act.put, List.setIfInBounds_toArray, List.set_cons_zero, List.set_cons_succ]
          refine held_take (i := 8) (v := ?_) rfl rfl (by kernel_rfl) (by kernel_rfl) (by kernel_rfl) (fun _ _ _ h => h) (by rfl) hHeld ?_ ?_
          rotate_left
          · rintro wh ⟨d15, d2, d16, d7⟩
            go_simp
            (try with_reducible rfl)
          simp only [Act.put, List.setIfInBounds_toArray, List.set_cons_zero, List.set_cons_succ]
          refine held_take (i := 11) (v := ?_) rfl rfl (by kernel_rfl) (by kernel_rfl) (by kernel_rfl) (fun _ _ _ h => h) (by rfl) hHeld ?_ ?_
          rotate_left
          · rintro wh ⟨d15, d2, d16, d7⟩
            go_simp
            (try with_reducible rfl)
          simp only [Act.put, List.setIfInBounds_toArray, List.set_cons_zero, List.set_cons_succ]
          refine held_take (i := 12) (v := ?_) rfl rfl (by kernel_rfl) (by kernel_rfl) (by kernel_rfl) (fun _ _ _ h => h) (by rfl) hHeld ?_ ?_
          rotate_left
          · rintro wh ⟨d15, d2, d16, d7⟩
            go_simp
            (try with_reducible rfl)
          simp only [Act.put, List.setIfInBounds_toArray, List.set_cons_zero, List.set_cons_succ]
          refine held_take (i := 13) (v := ?_) rfl rfl (by kernel_rfl) (by kernel_rfl) (by kernel_rfl) (fun _ _ _ h => h) (by rfl) hHeld ?_ ?_
          rotate_left
          · rintro wh ⟨d15, d2, d16, d7⟩
            go_simp
            (try with_reducible rfl)
          simp only [Act.put, List.setIfInBounds_toArray, List.set_cons_zero, List.set_cons_succ]
          refine held_take (i := 14) (v := ?_) rfl rfl (by kernel_rfl) (by kernel_rfl) (by kernel_rfl) (fun _ _ _ h => h) (by rfl) hHeld ?_ ?_
          rotate_left
          · rintro wh ⟨d15, d2, d16, d7⟩
            go_simp
            (try with_reducible rfl)
          simp only [Act.put, List.setIfInBounds_toArray, List.set_cons_zero, List.set_cons_succ]
          refine held_take (i := 15) (v := ?_) rfl rfl (by kernel_rfl) (by kernel_rfl) (by kernel_rfl) (fun _ _ _ h => h) (by rfl) hHeld ?_ ?_
          rotate_left
          · rintro wh ⟨d15, d2, d16, d7⟩
            go_simp
            (try with_reducible rfl)
          simp only [Act.put, List.setIfInBounds_toArray, List.set_cons_zero, List.set_cons_succ]
          refine held_step (i := 4) rfl (by kernel_rfl) (fun K hK => ?_)
          go_simp; refine (KC.out _).mono ?_; rintro e wq ⟨rfl, hq⟩; obtain rfl := hq.symm; clear hq
          refine hK.out _ _ (SK1.out _ ((Below.refl w1.heap.size w1).drew)) (fun hHeld => ?_)
          clear hK K
          (try simp only [Act.put, List.setIfInBounds_toArray])
          refine held_step (i := 9) rfl (by kernel_rfl) (fun K hK => ?_)
          go_simp; refine (KD.out _).mono ?_; rintro e wq ⟨rfl, hq⟩; obtain rfl := hq.symm; clear hq
          refine hK.out _ _ (SK1.out _ ((Below.refl w1.heap.size w1).drew)) (fun hHeld => ?_)
          clear hK K
          (try simp only [Act.put, List.setIfInBounds_toArray])
          refine held_take (i := 10) (v := ?_) rfl rfl (by kernel_rfl) (by kernel_rfl) (by kernel_rfl) (fun _ _ _ h => h) (by rfl) hHeld ?_ ?_
          rotate_left
          · rintro wh ⟨d15, d2, d16, d7⟩
            go_simp
            (try with_reducible rfl)
          simp only [Act.put, List.setIfInBounds_toArray, List.set_cons_zero, List.set_cons_succ]
          refine held_take (i := 16) (v := ?_) rfl rfl (by kernel_rfl) (by kernel_rfl) (by kernel_rfl) (fun _ _ _ h => h) (by rfl) hHeld ?_ ?_
          rotate_left
          · rintro wh ⟨d15, d2, d16, d7⟩
            go_simp
            (try with_reducible rfl)
          simp only [Act.put, List.setIfInBounds_toArray, List.set_cons_zero, List.set_cons_succ]
          refine held_take (i := 17) (v := ?_) rfl rfl (by kernel_rfl) (by kernel_rfl) (by kernel_rfl) (fun _ _ _ h => h) (by rfl) hHeld ?_ ?_
          rotate_left
          · rintro wh ⟨d15, d2, d16, d7⟩
            go_simp
            (try with_reducible rfl)
          simp only [Act.put, List.setIfInBounds_toArray, List.set_cons_zero, List.set_cons_succ]
          refine wpAnyH_done (by kernel_rfl) ?_ _
          have hb1 : Below w1.heap.size w1 w1.drew := (Below.refl _ _).drew
          have HR2 := Lib.hid (HR1.out.later hb1)
          have SK2 := SK1.out _ hb1
          clear HR1 SK1 hb1 hHeld KC KD
          rw [← HMB.out]
          generalize w1.drew = w2 at *
          have y1 : IntKind.u32.wrap (x16 + mA) = s1 := by rw [IntKind.wrap_u32']; exact Y1.out
          have y2 : IntKind.u32.wrap (s1 + x7) = s2 := by rw [IntKind.wrap_u32']; exact Y2.out
          have y3 : IntKind.u32.wrap (s2 + mB) = s3 := by rw [IntKind.wrap_u32']; exact Y3.out
          obtain ⟨d15, d2, d16, d7⟩ := SK2
          have hw3 : W32 s3 := by rw [← Y3.out]; exact w32_mod _
          have hput := (HR2.out.put n s3).later (Below.refl _ _).drew
          have hset : (rowS L).set n s3 = rowS (L ++ [s3]) := by have := @rowS_next L s3 (by omega); rwa [hLl] at this
          rw [hset] at hput
          have HPUT : Hid (RSt w (w2.setCell ⟨w.heap.size + 1 + 1 + 1, n, none⟩ (V32 s3)).drew V (rowS (schedL bs (k + 1)))) := Lib.hid (by rw [HN.out, HX.out]; exact hput)
          have HWZ : Hid (∀ x ∈ schedL bs (k + 1), W32 x) := Lib.hid (by
            rw [HN.out, HX.out]
            intro x hx
            rcases List.mem_append.1 hx with h | h
            · exact HWD.out x h
            · rw [List.mem_singleton.1 h]; exact hw3)
          have hfr := HR2.out.m.free n
          obtain ⟨old, hold⟩ : ∃ u, w2.cell? ⟨w.heap.size + 1 + 1 + 1, n, none⟩ = some u := by
            have hl : (rowS L).length = 64 := by unfold rowS; rw [List.length_append, List.length_replicate]; omega
            exact ⟨_, HR2.out.m.cell (List.getElem?_eq_getElem (by omega))⟩
          have HO := Lib.hid hold
          have HF := Lib.hid hfr
          clear HR2 hput hset hw3 hfr hold Y1 Y2 Y3 HN HX HWD HMA HMB
          go_wp2
          go_still_tail 15, (by kernel_rfl)
          have hold : w2.drew.cell? ⟨w.heap.size + 1 + 1 + 1, n, none⟩ = some old := HO.out
          have hfr : w2.drew.frozen? ⟨w.heap.size + 1 + 1 + 1, n, none⟩ = false := HF.out
          go_wp2
          go_roundw
          case rel => exact ⟨k + 1, by omega, by rw [← hn]; go_num, HPUT, HWZ⟩
          case measure => (simp [intOf]; try omega)
        · obtain rfl : k = 48 := by omega
          rw [show ((16 + 48 : Nat) : Int) = 64 from rfl]
          obtain rfl := HVD.out
          have hl48 : (schedL bs 48).length = 64 := schedL_len bs 48
          have hrs : rowS (schedL bs 48) = schedL bs 48 := by unfold rowS; rw [hl48]; exact List.append_nil _
          rw [hrs] at HR
          obtain ⟨S, hS⟩ : ∃ S, schedL bs 48 = S := ⟨_, rfl⟩
          have HSE := Lib.hid hS
          rw [hS] at HR HWD hl48
          clear hrs hS HC HBY
          have h0 := HR.out.h.cell (j := 0) rfl
          have h1 := HR.out.h.cell (j := 1) rfl
          have h2 := HR.out.h.cell (j := 2) rfl
          have h3 := HR.out.h.cell (j := 3) rfl
          have h4 := HR.out.h.cell (j := 4) rfl
          have h5 := HR.out.h.cell (j := 5) rfl
          have h6 := HR.out.h.cell (j := 6) rfl
          have h7 := HR.out.h.cell (j := 7) rfl
          have hba : Below wr.heap.size wr (wr.alloc (.cells #[V32 v0, V32 v1, V32 v2, V32 v3, V32 v4, V32 v5, V32 v6, V32 v7] 121)) := (Below.refl _ _).alloc (Nat.le_refl _) _
          have hva : VAt (wr.alloc (.cells #[V32 v0, V32 v1, V32 v2, V32 v3, V32 v4, V32 v5, V32 v6, V32 v7] 121)) wr.heap.size [v0, v1, v2, v3, v4, v5, v6, v7] := ⟨rfl, by rw [heap_alloc_new]; rfl⟩
          have hG : w.heap.size + 1 + 1 + 1 < wr.heap.size := HR.out.m.lt
          go_upto_region 16 with fail
          change Code.wp _ _ _ _ (wr.alloc (.cells #[V32 v0, V32 v1, V32 v2, V32 v3, V32 v4, V32 v5, V32 v6, V32 v7] 121))
          have HR4 := Lib.hid (HR.out.later hba)
          generalize wr.alloc (.cells #[V32 v0, V32 v1, V32 v2, V32 v3, V32 v4, V32 v5, V32 v6, V32 v7] 121) = W5 at *
          have HVA := Lib.hid hva
          clear hva hba HR h0 h1 h2 h3 h4 h5 h6 h7
          generalize wr.heap.size = G at *
          go_upto_region 17 with fail
          go_loopw [14] (fun vi wr => ∃ k : Nat, k ≤ 64 ∧ vi = .int .i64 k ∧ Hid (RSt w wr [v0, v1, v2, v3, v4, v5, v6, v7] S) ∧ Hid (VAt wr G (roundsL S [v0, v1, v2, v3, v4, v5, v6, v7] k)) ∧ Hid (∀ x ∈ roundsL S [v0, v1, v2, v3, v4, v5, v6, v7] k, W32 x)) (fun vi _ => 64 - (intOf vi).toNat)
          case atStart => exact ⟨0, Nat.zero_le _, rfl, HR4, HVA, HV⟩
          case round =>
            clear HR4 HVA
            obtain ⟨k, hk, rfl, HR, HA, HU⟩ := hrel
            by_cases hkl : k < 64
            · obtain ⟨U, hU⟩ : ∃ U, roundsL S [v0, v1, v2, v3, v4, v5, v6, v7] k = U := ⟨_, rfl⟩
              have HN : Hid (roundsL S [v0, v1, v2, v3, v4, v5, v6, v7] (k + 1) = roundL U (keyL k) (S.getD k 0)) := Lib.hid (by rw [roundsL, hU])
              rw [hU] at HA HU
              have hUl := HA.out.1
              obtain ⟨x0, x1, x2, x3, x4, x5, x6, x7, rfl⟩ : ∃ x0 x1 x2 x3 x4 x5 x6 x7, U = [x0, x1, x2, x3, x4, x5, x6, x7] := by
                match U, hUl with
                | [x0, x1, x2, x3, x4, x5, x6, x7], _ => exact ⟨x0, x1, x2, x3, x4, x5, x6, x7, rfl⟩
              have c0 := HA.out.cell 0 x0 rfl
              have c1 := HA.out.cell 1 x1 rfl
              have c2 := HA.out.cell 2 x2 rfl
              have c3 := HA.out.cell 3 x3 rfl
              have c4 := HA.out.cell 4 x4 rfl
              have c5 := HA.out.cell 5 x5 rfl
              have c6 := HA.out.cell 6 x6 rfl
              have c7 := HA.out.cell 7 x7 rfl
              have u0 : W32 x0 := HU.out _ (by simp)
              have u4 : W32 x4 := HU.out _ (by simp)
              have hck : wr.cell? ⟨w.heap.size + 1, k, none⟩ = some (V32 (keyL k)) := by rw [cell_row HR.out.k]; exact keysV_at k hkl
              have hcw : wr.cell? ⟨w.heap.size + 1 + 1 + 1, k, none⟩ = some (V32 (S.getD k 0)) := HR.out.m.cell (by rw [List.getD_eq_getElem?_getD, List.getElem?_eq_getElem (by omega)]; rfl)
              have hGl : G < wr.heap.size := (Array.getElem?_eq_some_iff.1 HA.out.2).1
              have hml := HR.out.m.lt
              have SK : Hid (∀ W', Below wr.heap.size wr W' → W'.cell? ⟨G, 0, none⟩ = some (V32 x0) ∧ W'.cell? ⟨G, 4, none⟩ = some (V32 x4) ∧ W'.cell? ⟨G, 7, none⟩ = some (V32 x7) ∧ W'.cell? ⟨w.heap.size + 1, k, none⟩ = some (V32 (keyL k)) ∧ W'.cell? ⟨w.heap.size + 1 + 1 + 1, k, none⟩ = some (V32 (S.getD k 0))) :=
                Lib.hid (fun W' h => ⟨keep_cell c0 h hGl, keep_cell c4 h hGl, keep_cell c7 h hGl, keep_cell hck h (by omega), keep_cell hcw h hml⟩)
              have hk64 : (k : Int) < 64 := by omega
              have kA := fun W => turn_any x4 6 W u4 (by decide) (by decide)
              have kB := fun W => turn_any x4 11 W u4 (by decide) (by decide)
              have kC := fun W => turn_any x4 25 W u4 (by decide) (by decide)
              have kD := fun W => turn_any x0 2 W u0 (by decide) (by decide)
              have kE := fun W => turn_any x0 13 W u0 (by decide) (by decide)
              have kF := fun W => turn_any x0 22 W u0 (by decide) (by decide)
              have hM4 : mixW 6 11 25 0 x4 = bits BinOp.xor .u32 (bits BinOp.xor .u32 (rotW x4 (32 - 6)) (rotW x4 (32 - 11))) (rotW x4 (32 - 25)) := rfl
              have hM0 : mixW 2 13 22 0 x0 = bits BinOp.xor .u32 (bits BinOp.xor .u32 (rotW x0 (32 - 2)) (rotW x0 (32 - 13))) (rotW x0 (32 - 22)) := rfl
              have hnot : bits BinOp.xor .u32 (if IntKind.u32.signed = true then -1 else IntKind.u32.max) x4 = 4294967295 - x4 := not_word u4
              have hnw : IntKind.u32.wrap (4294967295 - x4) = 4294967295 - x4 := by rw [IntKind.wrap_u32']; have := u4.1; have := u4.2; omega
              have HNT := Lib.hid hnot
              have HNW := Lib.hid hnw
              generalize rotW x4 (32 - 6) = rA at *
              generalize rotW x4 (32 - 11) = rB at *
              generalize rotW x4 (32 - 25) = rC at *
              generalize rotW x0 (32 - 2) = rD at *
              generalize rotW x0 (32 - 13) = rE at *
              generalize rotW x0 (32 - 22) = rF at *
              have KA : Hid (∀ W, Calls Try.prog 85 #[.int .u32 x4, .int .i64 6] W fun e w' => e = .returned (.int .u32 rA) ∧ w' = W) := Lib.hid kA
              have KB : Hid (∀ W, Calls Try.prog 85 #[.int .u32 x4, .int .i64 11] W fun e w' => e = .returned (.int .u32 rB) ∧ w' = W) := Lib.hid kB
              have KC : Hid (∀ W, Calls Try.prog 85 #[.int .u32 x4, .int .i64 25] W fun e w' => e = .returned (.int .u32 rC) ∧ w' = W) := Lib.hid kC
              have KD : Hid (∀ W, Calls Try.prog 85 #[.int .u32 x0, .int .i64 2] W fun e w' => e = .returned (.int .u32 rD) ∧ w' = W) := Lib.hid kD
              have KE : Hid (∀ W, Calls Try.prog 85 #[.int .u32 x0, .int .i64 13] W fun e w' => e = .returned (.int .u32 rE) ∧ w' = W) := Lib.hid kE
              have KF : Hid (∀ W, Calls Try.prog 85 #[.int .u32 x0, .int .i64 22] W fun e w' => e = .returned (.int .u32 rF) ∧ w' = W) := Lib.hid kF
              have HM4 := Lib.hid hM4
              have HM0 := Lib.hid hM0
              obtain ⟨M4, hm4⟩ : ∃ z, mixW 6 11 25 0 x4 = z := ⟨_, rfl⟩
              obtain ⟨M0, hm0⟩ : ∃ z, mixW 2 13 22 0 x0 = z := ⟨_, rfl⟩
              rw [hm4] at HM4
              rw [hm0] at HM0
              have HMM : Hid (mixW 6 11 25 0 x4 = M4 ∧ mixW 2 13 22 0 x0 = M0) := Lib.hid ⟨hm4, hm0⟩
              clear kA kB kC kD kE kF hM4 hM0 hm4 hm0 hnot hnw c0 c1 c2 c3 c4 c5 c6 c7 hck hcw u0 u4
              generalize keyL k = kk at *
              generalize S.getD k 0 = ww at *
              go_upto_region 19 with fail
              refine wp_region_held_drew (S := (fun W' => W'.cell? ⟨G, 0, none⟩ = some (V32 x0) ∧ W'.cell? ⟨G, 4, none⟩ = some (V32 x4) ∧ W'.cell? ⟨G, 7, none⟩ = some (V32 x7) ∧ W'.cell? ⟨w.heap.size + 1, k, none⟩ = some (V32 kk) ∧ W'.cell? ⟨w.heap.size + 1 + 1 + 1, k, none⟩ = some (V32 ww))) (by kernel_rfl) (SK.out _ ((Below.refl wr.heap.size wr).drew)) (fun hHeld => ?_)
              refine held_take (i := 0) (v := ?_) rfl rfl (by kernel_rfl) (by kernel_rfl) (by kernel_rfl) (fun _ _ _ h => h) (by rfl) hHeld ?_ ?_
              rotate_left
              · rintro wh ⟨d0, d4, d7, dk, dw⟩
                go_simp
                (try with_reducible rfl)
              simp only [Act.put, List.setIfInBounds_toArray, List.set_cons_zero, List.set_cons_succ]
              refine held_take (i := 1) (v := ?_) rfl rfl (by kernel_rfl) (by kernel_rfl) (by kernel_rfl) (fun _ _ _ h => h) (by rfl) hHeld ?_ ?_
              rotate_left
              · rintro wh ⟨d0, d4, d7, dk, dw⟩
                go_simp
                (try with_reducible rfl)
              simp only [Act.put, List.setIfInBounds_toArray, List.set_cons_zero, List.set_cons_succ]
              refine held_take (i := 3) (v := ?_) rfl rfl (by kernel_rfl) (by kernel_rfl) (by kernel_rfl) (fun _ _ _ h => h) (by rfl) hHeld ?_ ?_
              rotate_left
              · rintro wh ⟨d0, d4, d7, dk, dw⟩
                go_simp
                (try with_reducible rfl)
              simp only [Act.put, List.setIfInBounds_toArray, List.set_cons_zero, List.set_cons_succ]
              refine held_take (i := 4) (v := ?_) rfl rfl (by kernel_rfl) (by kernel_rfl) (by kernel_rfl) (fun _ _ _ h => h) (by rfl) hHeld ?_ ?_
              rotate_left
              · rintro wh ⟨d0, d4, d7, dk, dw⟩
                go_simp
                (try with_reducible rfl)
              simp only [Act.put, List.setIfInBounds_toArray, List.set_cons_zero, List.set_cons_succ]
              refine held_take (i := 7) (v := ?_) rfl rfl (by kernel_rfl) (by kernel_rfl) (by kernel_rfl) (fun _ _ _ h => h) (by rfl) hHeld ?_ ?_
              rotate_left
              · rintro wh ⟨d0, d4, d7, dk, dw⟩
                go_simp
                (try with_reducible rfl)
              simp only [Act.put, List.setIfInBounds_toArray, List.set_cons_zero, List.set_cons_succ]
              refine held_take (i := 8) (v := ?_) rfl rfl (by kernel_rfl) (by kernel_rfl) (by kernel_rfl) (fun _ _ _ h => h) (by rfl) hHeld ?_ ?_
              rotate_left
              · rintro wh ⟨d0, d4, d7, dk, dw⟩
                go_simp
                (try with_reducible rfl)
              simp only [Act.put, List.setIfInBounds_toArray, List.set_cons_zero, List.set_cons_succ]
              refine held_step (i := 2) rfl (by kernel_rfl) (fun K hK => ?_)
              go_simp; refine (KA.out _).mono ?_; rintro e wq ⟨rfl, hq⟩; obtain rfl := hq.symm; clear hq
              refine hK.out _ _ (SK.out _ ((Below.refl wr.heap.size wr).drew)) (fun hHeld => ?_)
              clear hK K
              (try simp only [Act.put, List.setIfInBounds_toArray])
              refine held_step (i := 5) rfl (by kernel_rfl) (fun K hK => ?_)
              go_simp; refine (KB.out _).mono ?_; rintro e wq ⟨rfl, hq⟩; obtain rfl := hq.symm; clear hq
              refine hK.out _ _ (SK.out _ ((Below.refl wr.heap.size wr).drew)) (fun hHeld => ?_)
              clear hK K
              (try simp only [Act.put, List.setIfInBounds_toArray])
              refine held_take (i := 6) (v := ?_) rfl rfl (by kernel_rfl) (by kernel_rfl) (by kernel_rfl) (fun _ _ _ h => h) (by rfl) hHeld ?_ ?_
              rotate_left
              · rintro wh ⟨d0, d4, d7, dk, dw⟩
                go_simp
                (try with_reducible rfl)
              simp only [Act.put, List.setIfInBounds_toArray, List.set_cons_zero, List.set_cons_succ]
              refine held_step (i := 9) rfl (by kernel_rfl) (fun K hK => ?_)
              go_simp; refine (KC.out _).mono ?_; rintro e wq ⟨rfl, hq⟩; obtain rfl := hq.symm; clear hq
              refine hK.out _ _ (SK.out _ ((Below.refl wr.heap.size wr).drew)) (fun hHeld => ?_)
              clear hK K
              (try simp only [Act.put, List.setIfInBounds_toArray])
              refine held_take (i := 10) (v := ?_) rfl rfl (by kernel_rfl) (by kernel_rfl) (by kernel_rfl) (fun _ _ _ h => h) (by rfl) hHeld ?_ ?_
              rotate_left
              · rintro wh ⟨d0, d4, d7, dk, dw⟩
                go_simp
                (try with_reducible rfl)
              simp only [Act.put, List.setIfInBounds_toArray, List.set_cons_zero, List.set_cons_succ]
              refine held_take (i := 11) (v := ?_) rfl rfl (by kernel_rfl) (by kernel_rfl) (by kernel_rfl) (fun _ _ _ h => h) (by rfl) hHeld ?_ ?_
              rotate_left
              · rintro wh ⟨d0, d4, d7, dk, dw⟩
                go_simp
                (try with_reducible rfl)
              simp only [Act.put, List.setIfInBounds_toArray, List.set_cons_zero, List.set_cons_succ]
              refine wpAnyH_done (by kernel_rfl) ?_ _
              have hb1 : Below wr.heap.size wr wr.drew := (Below.refl _ _).drew
              have SK1 := Lib.hid (fun W' (h : Below wr.drew.heap.size wr.drew W') => SK.out W' (hb1.trans (h.mono hb1.size)))
              have HR1 := Lib.hid (HR.out.later hb1)
              have HA1 := Lib.hid (HA.out.later hb1)
              clear HR HA SK hb1 hHeld KA KB KC
              rw [← HM4.out]
              generalize wr.drew = w1 at *
              have c4 := HA1.out.cell 4 x4 rfl
              have c5 := HA1.out.cell 5 x5 rfl
              have c6 := HA1.out.cell 6 x6 rfl
              go_upto_region 20 with fail
              go_upto_region 21 with fail
              obtain ⟨cc, hcc⟩ : ∃ z, bits BinOp.xor .u32 (bits BinOp.and .u32 x4 x5) (bits BinOp.and .u32 ((4294967295 - x4) % 4294967296) x6) = z := ⟨_, rfl⟩
              have hn4 : (4294967295 - x4) % 4294967296 = 4294967295 - x4 := by have := HNW.out; rwa [IntKind.wrap_u32'] at this
              have HCC : Hid (bits BinOp.xor .u32 (bits BinOp.and .u32 x4 x5) (bits BinOp.and .u32 (bits BinOp.xor .u32 (if IntKind.u32.signed = true then -1 else IntKind.u32.max) x4) x6) = cc) := Lib.hid (by rw [HNT.out, ← hcc, hn4])
              rw [hcc]
              clear hcc hn4 HNT HNW c4 c5 c6
              refine wp_region_held_drew (S := (fun W' => W'.cell? ⟨G, 0, none⟩ = some (V32 x0) ∧ W'.cell? ⟨G, 4, none⟩ = some (V32 x4) ∧ W'.cell? ⟨G, 7, none⟩ = some (V32 x7) ∧ W'.cell? ⟨w.heap.size + 1, k, none⟩ = some (V32 kk) ∧ W'.cell? ⟨w.heap.size + 1 + 1 + 1, k, none⟩ = some (V32 ww))) (by kernel_rfl) (SK1.out _ ((Below.refl w1.heap.size w1).drew)) (fun hHeld => ?_)
              refine held_take (i := 0) (v := ?_) rfl rfl (by kernel_rfl) (by kernel_rfl) (by kernel_rfl) (fun _ _ _ h => h) (by rfl) hHeld ?_ ?_
              rotate_left
              · rintro wh ⟨d0, d4, d7, dk, dw⟩
                go_simp
                (try with_reducible rfl)
              simp only [Act.put, List.setIfInBounds_toArray, List.set_cons_zero, List.set_cons_succ]
              refine held_take (i := 1) (v := ?_) rfl rfl (by kernel_rfl) (by kernel_rfl) (by kernel_rfl) (fun _ _ _ h => h) (by rfl) hHeld ?_ ?_
              rotate_left
              · rintro wh ⟨d0, d4, d7, dk, dw⟩
                go_simp
                (try with_reducible rfl)
              simp only [Act.put, List.setIfInBounds_toArray, List.set_cons_zero, List.set_cons_succ]
              refine held_take (i := 2) (v := ?_) rfl rfl (by kernel_rfl) (by kernel_rfl) (by kernel_rfl) (fun _ _ _ h => h) (by rfl) hHeld ?_ ?_
              rotate_left
              · rintro wh ⟨d0, d4, d7, dk, dw⟩
                go_simp
                (try with_reducible rfl)
              simp only [Act.put, List.setIfInBounds_toArray, List.set_cons_zero, List.set_cons_succ]
              refine held_take (i := 3) (v := ?_) rfl rfl (by kernel_rfl) (by kernel_rfl) (by kernel_rfl) (fun _ _ _ h => h) (by rfl) hHeld ?_ ?_
              rotate_left
              · rintro wh ⟨d0, d4, d7, dk, dw⟩
                go_simp
                (try with_reducible rfl)
              simp only [Act.put, List.setIfInBounds_toArray, List.set_cons_zero, List.set_cons_succ]
              refine held_take (i := 4) (v := ?_) rfl rfl (by kernel_rfl) (by kernel_rfl) (by kernel_rfl) (fun _ _ _ h => h) (by rfl) hHeld ?_ ?_
              rotate_left
              · rintro wh ⟨d0, d4, d7, dk, dw⟩
                go_simp
                (try with_reducible rfl)
              simp only [Act.put, List.setIfInBounds_toArray, List.set_cons_zero, List.set_cons_succ]
              refine held_take (i := 5) (v := ?_) rfl rfl (by kernel_rfl) (by kernel_rfl) (by kernel_rfl) (fun _ _ _ h => h) (by rfl) hHeld ?_ ?_
              rotate_left
              · rintro wh ⟨d0, d4, d7, dk, dw⟩
                go_simp
                (try with_reducible rfl)
              simp only [Act.put, List.setIfInBounds_toArray, List.set_cons_zero, List.set_cons_succ]
              refine held_take (i := 6) (v := ?_) rfl rfl (by kernel_rfl) (by kernel_rfl) (by kernel_rfl) (fun _ _ _ h => h) (by rfl) hHeld ?_ ?_
              rotate_left
              · rintro wh ⟨d0, d4, d7, dk, dw⟩
                go_simp
                (try with_reducible rfl)
              simp only [Act.put, List.setIfInBounds_toArray, List.set_cons_zero, List.set_cons_succ]
              refine held_take (i := 7) (v := ?_) rfl rfl (by kernel_rfl) (by kernel_rfl) (by kernel_rfl) (fun _ _ _ h => h) (by rfl) hHeld ?_ ?_
              rotate_left
              · rintro wh ⟨d0, d4, d7, dk, dw⟩
                go_simp
                (try with_reducible rfl)
              simp only [Act.put, List.setIfInBounds_toArray, List.set_cons_zero, List.set_cons_succ]
              refine held_take (i := 8) (v := ?_) rfl rfl (by kernel_rfl) (by kernel_rfl) (by kernel_rfl) (fun _ _ _ h => h) (by rfl) hHeld ?_ ?_
              rotate_left
              · rintro wh ⟨d0, d4, d7, dk, dw⟩
                go_simp
                (try with_reducible rfl)
              simp only [Act.put, List.setIfInBounds_toArray, List.set_cons_zero, List.set_cons_succ]
              refine held_take (i := 9) (v := ?_) rfl rfl (by kernel_rfl) (by kernel_rfl) (by kernel_rfl) (fun _ _ _ h => h) (by rfl) hHeld ?_ ?_
              rotate_left
              · rintro wh ⟨d0, d4, d7, dk, dw⟩
                go_simp
                (try with_reducible rfl)
              simp only [Act.put, List.setIfInBounds_toArray, List.set_cons_zero, List.set_cons_succ]
              refine held_take (i := 10) (v := ?_) rfl rfl (by kernel_rfl) (by kernel_rfl) (by kernel_rfl) (fun _ _ _ h => h) (by rfl) hHeld ?_ ?_
              rotate_left
              · rintro wh ⟨d0, d4, d7, dk, dw⟩
                go_simp
                (try with_reducible rfl)
              simp only [Act.put, List.setIfInBounds_toArray, List.set_cons_zero, List.set_cons_succ]
              refine held_take (i := 11) (v := ?_) rfl rfl (by kernel_rfl) (by kernel_rfl) (by kernel_rfl) (fun _ _ _ h => h) (by rfl) hHeld ?_ ?_
              rotate_left
              · rintro wh ⟨d0, d4, d7, dk, dw⟩
                go_simp
                (try with_reducible rfl)
              simp only [Act.put, List.setIfInBounds_toArray, List.set_cons_zero, List.set_cons_succ]
              refine held_take (i := 12) (v := ?_) rfl rfl (by kernel_rfl) (by kernel_rfl) (by kernel_rfl) (fun _ _ _ h => h) (by rfl) hHeld ?_ ?_
              rotate_left
              · rintro wh ⟨d0, d4, d7, dk, dw⟩
                go_simp
                (try with_reducible rfl)
              simp only [Act.put, List.setIfInBounds_toArray, List.set_cons_zero, List.set_cons_succ]
              refine held_take (i := 13) (v := ?_) rfl rfl (by kernel_rfl) (by kernel_rfl) (by kernel_rfl) (fun _ _ _ h => h) (by rfl) hHeld ?_ ?_
              rotate_left
              · rintro wh ⟨d0, d4, d7, dk, dw⟩
                go_simp
                (try with_reducible rfl)
              simp only [Act.put, List.setIfInBounds_toArray, List.set_cons_zero, List.set_cons_succ]
              refine held_take (i := 14) (v := ?_) rfl rfl (by kernel_rfl) (by kernel_rfl) (by kernel_rfl) (fun _ _ _ h => h) (by rfl) hHeld ?_ ?_
              rotate_left
              · rintro wh ⟨d0, d4, d7, dk, dw⟩
                go_simp
                (try with_reducible rfl)
              simp only [Act.put, List.setIfInBounds_toArray, List.set_cons_zero, List.set_cons_succ]
              refine wpAnyH_done (by kernel_rfl) ?_ _
              have hb1 : Below w1.heap.size w1 w1.drew := (Below.refl _ _).drew
              have SK2 := Lib.hid (fun W' (h : Below w1.drew.heap.size w1.drew W') => SK1.out W' (hb1.trans (h.mono hb1.size)))
              have HR2 := Lib.hid (HR1.out.later hb1)
              have HA2 := Lib.hid (HA1.out.later hb1)
              clear HR1 HA1 SK1 hb1 hHeld
              obtain ⟨tt, htt⟩ : ∃ z, IntKind.u32.wrap (IntKind.u32.wrap (IntKind.u32.wrap (IntKind.u32.wrap (x7 + M4) + cc) + kk) + ww) = z := ⟨_, rfl⟩
              have HTT : Hid (tL M4 x4 x5 x6 x7 kk ww = tt) := Lib.hid (by unfold tL; rw [HCC.out]; exact htt)
              rw [htt]
              clear htt HCC
              generalize w1.drew = w2 at *
              go_upto_region 22 with fail
              refine wp_region_held_drew (S := (fun W' => W'.cell? ⟨G, 0, none⟩ = some (V32 x0) ∧ W'.cell? ⟨G, 4, none⟩ = some (V32 x4) ∧ W'.cell? ⟨G, 7, none⟩ = some (V32 x7) ∧ W'.cell? ⟨w.heap.size + 1, k, none⟩ = some (V32 kk) ∧ W'.cell? ⟨w.heap.size + 1 + 1 + 1, k, none⟩ = some (V32 ww))) (by kernel_rfl) (SK2.out _ ((Below.refl w2.heap.size w2).drew)) (fun hHeld => ?_)
              refine held_take (i := 0) (v := ?_) rfl rfl (by kernel_rfl) (by kernel_rfl) (by kernel_rfl) (fun _ _ _ h => h) (by rfl) hHeld ?_ ?_
              rotate_left
              · rintro wh ⟨d0, d4, d7, dk, dw⟩
                go_simp
                (try with_reducible rfl)
              simp only [Act.put, List.setIfInBounds_toArray, List.set_cons_zero, List.set_cons_succ]
              refine held_take (i := 1) (v := ?_) rfl rfl (by kernel_rfl) (by kernel_rfl) (by kernel_rfl) (fun _ _ _ h => h) (by rfl) hHeld ?_ ?_
              rotate_left
              · rintro wh ⟨d0, d4, d7, dk, dw⟩
                go_simp
                (try with_reducible rfl)
              simp only [Act.put, List.setIfInBounds_toArray, List.set_cons_zero, List.set_cons_succ]
              refine held_take (i := 3) (v := ?_) rfl rfl (by kernel_rfl) (by kernel_rfl) (by kernel_rfl) (fun _ _ _ h => h) (by rfl) hHeld ?_ ?_
              rotate_left
              · rintro wh ⟨d0, d4, d7, dk, dw⟩
                go_simp
                (try with_reducible rfl)
              simp only [Act.put, List.setIfInBounds_toArray, List.set_cons_zero, List.set_cons_succ]
              refine held_take (i := 4) (v := ?_) rfl rfl (by kernel_rfl) (by kernel_rfl) (by kernel_rfl) (fun _ _ _ h => h) (by rfl) hHeld ?_ ?_
              rotate_left
              · rintro wh ⟨d0, d4, d7, dk, dw⟩
                go_simp
                (try with_reducible rfl)
              simp only [Act.put, List.setIfInBounds_toArray, List.set_cons_zero, List.set_cons_succ]
              refine held_take (i := 7) (v := ?_) rfl rfl (by kernel_rfl) (by kernel_rfl) (by kernel_rfl) (fun _ _ _ h => h) (by rfl) hHeld ?_ ?_
              rotate_left
              · rintro wh ⟨d0, d4, d7, dk, dw⟩
                go_simp
                (try with_reducible rfl)
              simp only [Act.put, List.setIfInBounds_toArray, List.set_cons_zero, List.set_cons_succ]
              refine held_take (i := 8) (v := ?_) rfl rfl (by kernel_rfl) (by kernel_rfl) (by kernel_rfl) (fun _ _ _ h => h) (by rfl) hHeld ?_ ?_
              rotate_left
              · rintro wh ⟨d0, d4, d7, dk, dw⟩
                go_simp
                (try with_reducible rfl)
              simp only [Act.put, List.setIfInBounds_toArray, List.set_cons_zero, List.set_cons_succ]
              refine held_step (i := 2) rfl (by kernel_rfl) (fun K hK => ?_)
              go_simp; refine (KD.out _).mono ?_; rintro e wq ⟨rfl, hq⟩; obtain rfl := hq.symm; clear hq
              refine hK.out _ _ (SK2.out _ ((Below.refl w2.heap.size w2).drew)) (fun hHeld => ?_)
              clear hK K
              (try simp only [Act.put, List.setIfInBounds_toArray])
              refine held_step (i := 5) rfl (by kernel_rfl) (fun K hK => ?_)
              go_simp; refine (KE.out _).mono ?_; rintro e wq ⟨rfl, hq⟩; obtain rfl := hq.symm; clear hq
              refine hK.out _ _ (SK2.out _ ((Below.refl w2.heap.size w2).drew)) (fun hHeld => ?_)
              clear hK K
              (try simp only [Act.put, List.setIfInBounds_toArray])
              refine held_take (i := 6) (v := ?_) rfl rfl (by kernel_rfl) (by kernel_rfl) (by kernel_rfl) (fun _ _ _ h => h) (by rfl) hHeld ?_ ?_
              rotate_left
              · rintro wh ⟨d0, d4, d7, dk, dw⟩
                go_simp
                (try with_reducible rfl)
              simp only [Act.put, List.setIfInBounds_toArray, List.set_cons_zero, List.set_cons_succ]
              refine held_step (i := 9) rfl (by kernel_rfl) (fun K hK => ?_)
              go_simp; refine (KF.out _).mono ?_; rintro e wq ⟨rfl, hq⟩; obtain rfl := hq.symm; clear hq
              refine hK.out _ _ (SK2.out _ ((Below.refl w2.heap.size w2).drew)) (fun hHeld => ?_)
              clear hK K
              (try simp only [Act.put, List.setIfInBounds_toArray])
              refine held_take (i := 10) (v := ?_) rfl rfl (by kernel_rfl) (by kernel_rfl) (by kernel_rfl) (fun _ _ _ h => h) (by rfl) hHeld ?_ ?_
              rotate_left
              · rintro wh ⟨d0, d4, d7, dk, dw⟩
                go_simp
                (try with_reducible rfl)
              simp only [Act.put, List.setIfInBounds_toArray, List.set_cons_zero, List.set_cons_succ]
              refine held_take (i := 11) (v := ?_) rfl rfl (by kernel_rfl) (by kernel_rfl) (by kernel_rfl) (fun _ _ _ h => h) (by rfl) hHeld ?_ ?_
              rotate_left
              · rintro wh ⟨d0, d4, d7, dk, dw⟩
                go_simp
                (try with_reducible rfl)
              simp only [Act.put, List.setIfInBounds_toArray, List.set_cons_zero, List.set_cons_succ]
              refine wpAnyH_done (by kernel_rfl) ?_ _
              have hb1 : Below w2.heap.size w2 w2.drew := (Below.refl _ _).drew
              have HR3 := Lib.hid (HR2.out.later hb1)
              have HA3 := Lib.hid (HA2.out.later hb1)
              clear HR2 HA2 SK2 hb1 hHeld KD KE KF
              rw [← HM0.out]
              generalize w2.drew = w3 at *
              have c0 := HA3.out.cell 0 x0 rfl
              have c1 := HA3.out.cell 1 x1 rfl
              have c2 := HA3.out.cell 2 x2 rfl
              go_upto_region 24 with fail
              obtain ⟨mm, hmm⟩ : ∃ z, bits BinOp.xor .u32 (bits BinOp.xor .u32 (bits BinOp.and .u32 x0 x1) (bits BinOp.and .u32 x0 x2)) (bits BinOp.and .u32 x1 x2) = z := ⟨_, rfl⟩
              have HUU : Hid (uL M0 x0 x1 x2 = (M0 + mm) % 4294967296) := Lib.hid (by unfold uL; rw [hmm, IntKind.wrap_u32'])
              rw [hmm]
              clear hmm HM4 HM0
              have c3 := HA3.out.cell 3 x3 rfl
              have c4 := HA3.out.cell 4 x4 rfl
              have c5 := HA3.out.cell 5 x5 rfl
              have c6 := HA3.out.cell 6 x6 rfl
              have c7 := HA3.out.cell 7 x7 rfl
              have f0 := HA3.out.free 0
              have f1 := HA3.out.free 1
              have f2 := HA3.out.free 2
              have f3 := HA3.out.free 3
              have f4 := HA3.out.free 4
              have f5 := HA3.out.free 5
              have f6 := HA3.out.free 6
              have f7 := HA3.out.free 7
              go_upto_region 18 with fail
              obtain ⟨W6, hW6⟩ : ∃ z, ((((((((w3.setCell ⟨G, 0, none⟩ (.int .u32 ((tt + M0 + mm) % 4294967296))).setCell ⟨G, 1, none⟩ (.int .u32 x0)).setCell ⟨G, 2, none⟩ (.int .u32 x1)).setCell ⟨G, 3, none⟩ (.int .u32 x2)).setCell ⟨G, 4, none⟩ (.int .u32 ((x3 + tt) % 4294967296))).setCell ⟨G, 5, none⟩ (.int .u32 x4)).setCell ⟨G, 6, none⟩ (.int .u32 x5)).setCell ⟨G, 7, none⟩ (.int .u32 x6)) = z := ⟨_, rfl⟩
              rw [hW6]
              have hq : (tt + (M0 + mm) % 4294967296) % 4294967296 = (tt + M0 + mm) % 4294967296 := by omega
              have he : roundL [x0, x1, x2, x3, x4, x5, x6, x7] kk ww = [(tt + M0 + mm) % 4294967296, x0, x1, x2, (x3 + tt) % 4294967296, x4, x5, x6] := by
                rw [show roundL [x0, x1, x2, x3, x4, x5, x6, x7] kk ww = [(tL (mixW 6 11 25 0 x4) x4 x5 x6 x7 kk ww + uL (mixW 2 13 22 0 x0) x0 x1 x2) % 4294967296, x0, x1, x2, (x3 + tL (mixW 6 11 25 0 x4) x4 x5 x6 x7 kk ww) % 4294967296, x4, x5, x6] from rfl, HMM.out.1, HMM.out.2, HTT.out, HUU.out, hq]
              have HAZ : Hid (VAt W6 G (roundsL S [v0, v1, v2, v3, v4, v5, v6, v7] (k + 1))) := Lib.hid (by
                rw [HN.out, he, ← hW6]
                exact ((((((((HA3.out.put 0 ((tt + M0 + mm) % 4294967296)).put 1 x0).put 2 x1).put 3 x2).put 4 ((x3 + tt) % 4294967296)).put 5 x4).put 6 x5).put 7 x6))
              have HRZ : Hid (RSt w W6 [v0, v1, v2, v3, v4, v5, v6, v7] S) := Lib.hid (by
                rw [← hW6]
                exact ((((((((HR3.out.else_ hG 0 (.int .u32 ((tt + M0 + mm) % 4294967296))).else_ hG 1 (.int .u32 x0)).else_ hG 2 (.int .u32 x1)).else_ hG 3 (.int .u32 x2)).else_ hG 4 (.int .u32 ((x3 + tt) % 4294967296))).else_ hG 5 (.int .u32 x4)).else_ hG 6 (.int .u32 x5)).else_ hG 7 (.int .u32 x6)))
              have HUZ : Hid (∀ x ∈ roundsL S [v0, v1, v2, v3, v4, v5, v6, v7] (k + 1), W32 x) := Lib.hid (by
                rw [HN.out, he]
                intro x hx
                simp only [List.mem_cons, List.mem_nil_iff, or_false] at hx
                rcases hx with rfl | rfl | rfl | rfl | rfl | rfl | rfl | rfl
                · exact w32_mod _
                · exact HU.out _ (by simp)
                · exact HU.out _ (by simp)
                · exact HU.out _ (by simp)
                · exact w32_mod _
                · exact HU.out _ (by simp)
                · exact HU.out _ (by simp)
                · exact HU.out _ (by simp))
              clear hW6 hq he HR3 HA3 HN HU HTT HUU HMM c0 c1 c2 c3 c4 c5 c6 c7 f0 f1 f2 f3 f4 f5 f6 f7
              go_wp2
              go_roundw
              case rel => exact ⟨k + 1, by omega, by go_num, HRZ, HAZ, HUZ⟩
              case measure => (simp [intOf]; try omega)
            · obtain rfl : k = 64 := by omega
              rw [show ((64 : Nat) : Int) = 64 from rfl]
              obtain ⟨U, hU⟩ : ∃ U, roundsL S [v0, v1, v2, v3, v4, v5, v6, v7] 64 = U := ⟨_, rfl⟩
              have HUE := Lib.hid hU
              rw [hU] at HA HU
              clear hU
              have hUl := HA.out.1
              have hGl : G < wr.heap.size := (Array.getElem?_eq_some_iff.1 HA.out.2).1
              have HA5 : Hid (VAt wr G (partL U [v0, v1, v2, v3, v4, v5, v6, v7] 0)) := Lib.hid (by rw [partL_zero hUl]; exact HA.out)
              clear HA
              go_upto_region 26 with fail
              go_loopw [20] (fun vi wr => ∃ j : Nat, j ≤ 8 ∧ vi = .int .i64 j ∧ Hid (RSt w wr [v0, v1, v2, v3, v4, v5, v6, v7] S) ∧ Hid (VAt wr G (partL U [v0, v1, v2, v3, v4, v5, v6, v7] j))) (fun vi _ => 8 - (intOf vi).toNat)
              case atStart => exact ⟨0, Nat.zero_le _, rfl, HR, HA5⟩
              case round =>
                clear HR HA5
                obtain ⟨j, hj, rfl, HR, HA⟩ := hrel
                by_cases hjl : j < 8
                · obtain ⟨x, hx⟩ : ∃ x, U.getD j 0 = x := ⟨_, rfl⟩
                  obtain ⟨y, hy⟩ : ∃ y, [v0, v1, v2, v3, v4, v5, v6, v7].getD j 0 = y := ⟨_, rfl⟩
                  have hsc := partL_succ U [v0, v1, v2, v3, v4, v5, v6, v7] j hjl
                  have hpa := partL_at U [v0, v1, v2, v3, v4, v5, v6, v7] j hjl
                  rw [hx, hy] at hsc
                  rw [hx] at hpa
                  have hpl := HA.out.1
                  have cx := HA.out.cell j x (by rw [← hpa, List.getD_eq_getElem?_getD, List.getElem?_eq_getElem (by omega)]; rfl)
                  have cy := HR.out.h.cell (j := j) (x := y) (by rw [← hy, List.getD_eq_getElem?_getD, List.getElem?_eq_getElem (by exact hjl)]; rfl)
                  have fx := HA.out.free j
                  have hput := HA.out.put j ((x + y) % 4294967296)
                  rw [hsc] at hput
                  have HPA : Hid (VAt (wr.setCell ⟨G, j, none⟩ (.int .u32 ((x + y) % 4294967296))).drew G (partL U [v0, v1, v2, v3, v4, v5, v6, v7] (j + 1))) := Lib.hid hput
                  have HPR : Hid (RSt w (wr.setCell ⟨G, j, none⟩ (.int .u32 ((x + y) % 4294967296))).drew [v0, v1, v2, v3, v4, v5, v6, v7] S) := Lib.hid ((HR.out.else_ hG j (.int .u32 ((x + y) % 4294967296))).later (Below.refl _ _).drew)
                  have hj8 : (j : Int) < 8 := by omega
                  have CX := Lib.hid cx
                  have CY := Lib.hid cy
                  have FX := Lib.hid fx
                  clear hx hy hsc hpa hput fx HR HA
                  go_wp2
                  go_still_tail 8, (by kernel_rfl)
                  have cx : wr.drew.cell? ⟨G, j, none⟩ = some (V32 x) := CX.out
                  have fx : wr.drew.frozen? ⟨G, j, none⟩ = false := FX.out
                  go_wp2
                  go_roundw
                  case rel => exact ⟨j + 1, by omega, by go_num, HPR, HPA⟩
                  case measure => (simp [intOf]; try omega)
                · obtain rfl : j = 8 := by omega
                  rw [partL_all] at HA
                  have hadd : addL U [v0, v1, v2, v3, v4, v5, v6, v7] = blockL bs [v0, v1, v2, v3, v4, v5, v6, v7] := by
                    unfold blockL addL
                    rw [HSE.out, HUE.out]
                    exact List.map_congr_left (fun i _ => by rw [Int.add_comm])
                  have HAD := Lib.hid hadd
                  rw [hadd] at HA
                  have hUl := HA.out.1
                  obtain ⟨Z, hZ⟩ : ∃ Z, blockL bs [v0, v1, v2, v3, v4, v5, v6, v7] = Z := ⟨_, rfl⟩
                  rw [hZ] at HA hUl
                  obtain ⟨x0, x1, x2, x3, x4, x5, x6, x7, rfl⟩ : ∃ x0 x1 x2 x3 x4 x5 x6 x7, Z = [x0, x1, x2, x3, x4, x5, x6, x7] := by
                    match Z, hUl with
                    | [x0, x1, x2, x3, x4, x5, x6, x7], _ => exact ⟨x0, x1, x2, x3, x4, x5, x6, x7, rfl⟩
                  have c0 := HA.out.cell 0 x0 rfl
                  have c1 := HA.out.cell 1 x1 rfl
                  have c2 := HA.out.cell 2 x2 rfl
                  have c3 := HA.out.cell 3 x3 rfl
                  have c4 := HA.out.cell 4 x4 rfl
                  have c5 := HA.out.cell 5 x5 rfl
                  have c6 := HA.out.cell 6 x6 rfl
                  have c7 := HA.out.cell 7 x7 rfl
                  have g0 := there_free HR.out.r 0 (by decide)
                  have g1 := there_free HR.out.r 1 (by decide)
                  have g2 := there_free HR.out.r 2 (by decide)
                  have g3 := there_free HR.out.r 3 (by decide)
                  have g4 := there_free HR.out.r 4 (by decide)
                  have g5 := there_free HR.out.r 5 (by decide)
                  have g6 := there_free HR.out.r 6 (by decide)
                  have g7 := there_free HR.out.r 7 (by decide)
                  obtain ⟨z0, e0⟩ := there_cell8 HR.out.r 0 (by decide)
                  obtain ⟨z1, e1⟩ := there_cell8 HR.out.r 1 (by decide)
                  obtain ⟨z2, e2⟩ := there_cell8 HR.out.r 2 (by decide)
                  obtain ⟨z3, e3⟩ := there_cell8 HR.out.r 3 (by decide)
                  obtain ⟨z4, e4⟩ := there_cell8 HR.out.r 4 (by decide)
                  obtain ⟨z5, e5⟩ := there_cell8 HR.out.r 5 (by decide)
                  obtain ⟨z6, e6⟩ := there_cell8 HR.out.r 6 (by decide)
                  obtain ⟨z7, e7⟩ := there_cell8 HR.out.r 7 (by decide)
                  have HZ := Lib.hid hZ
                  clear hZ hadd HAD
                  go_wp2
                  refine bodyPost_ret (results_agg1 rfl _ _ (w.heap.size + 1 + 1) [V32 x0, V32 x1, V32 x2, V32 x3, V32 x4, V32 x5, V32 x6, V32 x7] (.array 8 32) rfl (World.rangeAt_setCells_same _ (w.heap.size + 1 + 1) 0 [V32 x0, V32 x1, V32 x2, V32 x3, V32 x4, V32 x5, V32 x6, V32 x7] HR.out.r) Try.underlying121 rfl (by kernel_rfl)) rfl ?_
                  exact ⟨by rw [HZ.out]; rfl, below_puts (g := w.heap.size + 1 + 1) (o := 0) HR.out.b (by omega) [V32 x0, V32 x1, V32 x2, V32 x3, V32 x4, V32 x5, V32 x6, V32 x7]⟩
end Go.Proofs.Ytipnhpfpppblhaa

/- The pattern's builder, said plainly: states, the reading of a class, of an atom, of a row. No program in sight. -/
namespace Go.Proofs.Ytipnhpfpppblhaa
open Go.RowKit
structure St where
  set : Option (Nat → Bool)
  next : Nat
  free : List Nat
structure Bs where
  pos : Nat
  err : Int
  sts : List St
inductive Md where
  | either
  | alts (p : Nat × Nat)
  | row
  | parts (p : Nat × Nat)
  | atom
/-! lengths, places -/
def tot (l : List St) : Nat := (l.map fun x => 1 + x.free.length).sum
theorem free_tot (l : List St) (x : St) (h : x ∈ l) : x.free.length ≤ tot l := by
  induction l with
  | nil => cases h
  | cons y l ih =>
    rcases List.mem_cons.1 h with rfl | h
    · simp [tot]; omega
    · have := ih h; simp [tot] at this ⊢; omega
structure Gd (b b' : Bs) (c : Nat) : Prop where
  pos : b.pos ≤ b'.pos
  len : b.sts.length ≤ b'.sts.length
  tot : tot b'.sts ≤ tot b.sts + c + 6 * (b'.pos - b.pos)
theorem Gd.trans {a b c : Bs} {m n : Nat} (h : Gd a b m) (h' : Gd b c n) : Gd a c (m + n) := by
  obtain ⟨h1, h2, h3⟩ := h
  obtain ⟨h4, h5, h6⟩ := h'
  exact ⟨by omega, by omega, by omega⟩
def costM : Md → Nat
  | .either => 5
  | .alts _ => 3
  | .row => 1
  | .parts _ => 0
  | .atom => 0
structure RunOk (s : ByteArray) (md : Md) (d : Nat) (b : Bs) (r : Bs × (Nat × Nat)) : Prop where
  gd : Gd b r.1 (costM md)
  p1 : r.2.1 < r.1.sts.length
  p2 : r.2.2 < r.1.sts.length
  top : r.1.pos ≤ s.size + 12 - d
  more : md = .atom → b.pos < r.1.pos ∧ tot r.1.sts + 1 ≤ tot b.sts + 6 * (r.1.pos - b.pos)
end Go.Proofs.Ytipnhpfpppblhaa

/- The pattern's builder in memory: which blocks it owns, what lies there, what a step turns. -/
namespace Go.Proofs.Ytipnhpfpppblhaa
open Go.RowKit
/-! what may change: blocks of own, and new ones -/
structure Keep (own : Nat → Prop) (w w' : World) : Prop where
  os : w'.os = w.os
  tape : w'.tape = w.tape
  output : w'.output = w.output
  size : w.heap.size ≤ w'.heap.size
  block : ∀ k, k < w.heap.size → ¬ own k → w'.heap[k]? = w.heap[k]?
theorem Keep.refl (own : Nat → Prop) (w : World) : Keep own w w := ⟨rfl, rfl, rfl, Nat.le_refl _, fun _ _ _ => rfl⟩
theorem Keep.trans {own own' : Nat → Prop} {a b c : World} (h : Keep own a b) (h' : Keep own' b c) (hs : ∀ k, own' k → own k ∨ a.heap.size ≤ k) : Keep own a c :=
  ⟨h'.os.trans h.os, h'.tape.trans h.tape, h'.output.trans h.output, Nat.le_trans h.size h'.size, fun k hk hn =>
    (h'.block k (Nat.lt_of_lt_of_le hk h.size) (fun h0 => by rcases hs k h0 with h1 | h1; (· exact hn h1); (· omega))).trans (h.block k hk hn)⟩
theorem Keep.mono {own own' : Nat → Prop} {a b : World} (h : Keep own a b) (hs : ∀ k, own k → own' k) : Keep own' a b := ⟨h.os, h.tape, h.output, h.size, fun k hk hn => h.block k hk (fun h0 => hn (hs k h0))⟩
theorem Keep.below {own : Nat → Prop} {a b : World} {B : Nat} (h : Keep own a b) (hB : B ≤ a.heap.size) (hs : ∀ k, own k → B ≤ k) : Below B a b := ⟨h.os, h.tape, h.output, h.size, fun k hk => h.block k (by omega) (fun h0 => by have := hs k h0; omega)⟩
theorem Keep.setCell {own : Nat → Prop} {a b : World} (h : Keep own a b) {p : Addr} (hp : own p.block) (v : Value) : Keep own a (b.setCell p v) :=
  ⟨h.os, h.tape, h.output, by simpa using h.size, fun k hk hn => (heap_setCell_other b p k v (fun e => hn (e ▸ hp))).trans (h.block k hk hn)⟩
theorem Keep.grown {own : Nat → Prop} {a b c : World} (h : Keep own a b) {row : Option Nat} (hg : b.grownBy c row) (hr : ∀ k, row = some k → own k ∨ a.heap.size ≤ k) : Keep own a c :=
  ⟨hg.os.trans h.os, hg.tape.trans h.tape, hg.output.trans h.output, Nat.le_trans h.size hg.size, fun k hk hn =>
    (hg.block k (Nat.lt_of_lt_of_le hk h.size) (fun e => by rcases hr k e.symm with h1 | h1; (· exact hn h1); (· omega))).trans (h.block k hk hn)⟩
theorem Keep.drew {own : Nat → Prop} {a b : World} (h : Keep own a b) : Keep own a b.drew := ⟨h.os, h.tape, h.output, h.size, h.block⟩
theorem Keep.alloc {own : Nat → Prop} {a b : World} (h : Keep own a b) (o : Obj) : Keep own a (b.alloc o) :=
  ⟨h.os, h.tape, h.output, by rw [World.size_alloc]; have := h.size; omega, fun k hk hn => (Below.heap_alloc b o k (Nat.lt_of_lt_of_le hk h.size)).trans (h.block k hk hn)⟩
def Stp (own : Nat → Prop) (w : World) (own' : Nat → Prop) (w' : World) : Prop := Keep own w w' ∧ ∀ k, own' k → own k ∨ w.heap.size ≤ k
theorem Stp.refl (own : Nat → Prop) (w : World) : Stp own w own w := ⟨Keep.refl own w, fun _ h => .inl h⟩
theorem Stp.trans {o1 o2 o3 : Nat → Prop} {a b c : World} (h : Stp o1 a o2 b) (h' : Stp o2 b o3 c) : Stp o1 a o3 c :=
  ⟨h.1.trans h'.1 h.2, fun k hk => by
    rcases h'.2 k hk with h0 | h0
    · exact h.2 k h0
    · exact .inr (Nat.le_trans h.1.size h0)⟩
theorem Stp.setCell {own : Nat → Prop} {w : World} {p : Addr} (hp : own p.block) (v : Value) : Stp own w own (w.setCell p v) := ⟨(Keep.refl own w).setCell hp v, fun _ h => .inl h⟩
theorem Stp.not {own own' : Nat → Prop} {w w' : World} (h : Stp own w own' w') {k : Nat} (hk : k < w.heap.size) (hn : ¬ own k) : ¬ own' k := fun h0 => by
  rcases h.2 k h0 with h1 | h1
  · exact hn h1
  · omega
/-! a set of bytes in memory: four words -/
/-! rows owned, kept -/
/-! the states -/
def freeC (l : List Nat) : List Value := l.map fun (n : Nat) => Value.int .i64 (n : Int)
end Go.Proofs.Ytipnhpfpppblhaa

/- pattern's builder: peek, fail: contracts. -/
namespace Go.Proofs.Ytipnhpfpppblhaa
open Go.RowKit
end Go.Proofs.Ytipnhpfpppblhaa

/- pattern's builder: node, free, one: contracts. -/
namespace Go.Proofs.Ytipnhpfpppblhaa
open Go.RowKit
end Go.Proofs.Ytipnhpfpppblhaa

/- pattern's builder: a state's bytes: the plain part, and one's walk. -/
namespace Go.Proofs.Ytipnhpfpppblhaa
open Go.RowKit
end Go.Proofs.Ytipnhpfpppblhaa

/- pattern's sets of bytes: add, turn, has: contracts. -/
namespace Go.Proofs.Ytipnhpfpppblhaa
open Go.RowKit
end Go.Proofs.Ytipnhpfpppblhaa

/- pattern's builder: sign: a contract. -/
namespace Go.Proofs.Ytipnhpfpppblhaa
open Go.RowKit
end Go.Proofs.Ytipnhpfpppblhaa

/- pattern's builder: class: a contract. -/
namespace Go.Proofs.Ytipnhpfpppblhaa
open Go.RowKit
end Go.Proofs.Ytipnhpfpppblhaa

