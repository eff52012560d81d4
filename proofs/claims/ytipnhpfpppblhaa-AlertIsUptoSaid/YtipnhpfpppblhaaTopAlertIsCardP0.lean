/- AlertIs: the card: whatever the arguments, the law returns true and its arguments read as they did. No condition. -/
import Derived.Test.YtipnhpfpppblhaaRefGD
import Derived.Test.YtipnhpfpppblhaaRefS
import Derived.Test.YtipnhpfpppblhaaApPlain
import Derived.Test.YtipnhpfpppblhaaAlDel
import Derived.Test.YtipnhpfpppblhaaAlCut
import Derived.Test.YtipnhpfpppblhaaHeldS
import Derived.Test.YtipnhpfpppblhaaRefGC
import Derived.Test.YtipnhpfpppblhaaConv
import Derived.Test.YtipnhpfpppblhaaShaRound
import Derived.Deep.AppendSrc
import Derived.Deep.MidRow
import Derived.Laws.IdiomCopy
import Derived.Test.YtipnhpfpppblhaaShaOf
import Derived.Laws.Bits64b
import Derived.Test.YtipnhpfpppblhaaBox3
import Derived.Test.YtipnhpfpppblhaaBase
import Derived.Test.YtipnhpfpppblhaaBox2
import Derived.Deep.AppendLies
import Derived.Test.YtipnhpfpppblhaaRows
import Derived.WalkKit
import Derived.WalkSpells
import Derived.WalkLawsBesides
import Derived.BigQuiet
import Derived.Deep.QuietTactic
import Derived.Lib.Hide
import Derived.Deep.RegionHeldLaw
import Derived.StillTailTactics
import Derived.Test.YtipnhpfpppblhaaHeldT
import Derived.Deep.DeepCutAuto
import Derived.Defers
import Derived.Test.YtipnhpfpppblhaaShelf
import Derived.Test.YtipnhpfpppblhaaAppRd
import Derived.Maps.OwnOps
import Derived.Maps.Ext
import Derived.Sort.OwnSorted
import Derived.Test.YtipnhpfpppblhaaAlId

/- Two as one: the plain law. No walk. -/
namespace Go.Proofs.Ytipnhpfpppblhaa
open Go.RowKit
/-! ### texts in their order -/
/-! ### With at the end, Good twice -/
/-! ### two as one -/
def mTil (a b : Int) : Int := if a = 0 ∨ b = 0 then 0 else max a b
def mergeA (x y : Al) : Al := ⟨x.src, x.fl, (joinL (x.lv, x.c) (y.lv, y.c)).1, (joinL (x.lv, x.c) (y.lv, y.c)).2, min x.fr y.fr, mTil x.til y.til⟩
def mergeOk (x y : Al) : Bool := rightA x && rightA y && decide (idA x = idA y)
theorem rightA_parts {x : Al} (h : rightA x = true) : nameL (B x.src) = true ∧ 0 < x.fl.length ∧ rightF x.fl = true ∧ rightL x.lv = true ∧ 0 ≤ x.fr ∧ x.fr ≤ 1099511627776 ∧ (x.til = 0 ∨ (x.fr < x.til ∧ x.til ≤ 1099511627776)) := by
  unfold rightA whoA beginsA endsA at h
  simp only [Bool.and_eq_true, Bool.or_eq_true, decide_eq_true_eq] at h
  exact ⟨h.1.1.1.1.1, h.1.1.1.1.2, h.1.1.1.2, h.1.1.2, h.1.2.1, h.1.2.2, h.2⟩
end Go.Proofs.Ytipnhpfpppblhaa

/- slices.Equal at Field, alert.Same: contracts. -/
namespace Go.Proofs.Ytipnhpfpppblhaa
open Go.RowKit
set_option maxHeartbeats 1600000 in
set_option maxRecDepth 100000 in
theorem eqF_any (xs ys : List Fld) (w : World) (u v : Value) (hx : FldsAt w u xs) (hy : FldsAt w v ys) (hl : xs.length ≤ maxLen) (hl2 : ys.length ≤ maxLen) :
    Calls Try.prog 48 #[u, v] w fun e w' => e = .returned (.bool (decide (xs = ys))) ∧ Below w.heap.size w w' := by
  obtain ⟨a, c, rfl, hc, hr⟩ := RdAt.shape hx
  obtain ⟨a', c', rfl, hc', hr'⟩ := RdAt.shape hy
  have HR := Lib.hid hr
  have HR' := Lib.hid hr'
  have hm1 : xs.length < 9223372036854775808 := by unfold maxLen at hl; omega
  have hm2 : ys.length < 9223372036854775808 := by unfold maxLen at hl2; omega
  clear hr hr' hx hy hl hl2
  by_cases hlen : xs.length = ys.length
  · have hlen' : (xs.length : Int) = (ys.length : Int) := by omega
    have hb0 : ((xs.length : Int) != (ys.length : Int)) = false := by simp [hlen]
    have HLEN := Lib.hid hlen
    clear hlen hlen'
    go_enter Try.func48, Try.ntmps48
    go_wp2
    go_loopw [13] (fun i wr => ∃ k : Nat, k ≤ xs.length ∧ i = .int .i64 k ∧ Hid (xs.take k = ys.take k) ∧ Below w.heap.size w wr) (fun i _ => xs.length - (intOf i).toNat)
    case atStart => exact ⟨0, Nat.zero_le _, rfl, Lib.hid rfl, Below.refl _ _⟩
    case round =>
      obtain ⟨k, hk, rfl, HT, hbr⟩ := hrel
      by_cases hkl : k < xs.length
      · have hkl2 : k < ys.length := by have := HLEN.out; omega
        obtain ⟨⟨x1, x2⟩, hxe⟩ : ∃ x, xs[k] = x := ⟨_, rfl⟩
        obtain ⟨⟨y1, y2⟩, hye⟩ : ∃ y, ys[k] = y := ⟨_, rfl⟩
        obtain ⟨b0, o0, rfl, hb0', hcell⟩ := HR.out (by omega)
        obtain ⟨b1, o1, rfl, hb1', hcell'⟩ := HR'.out (by omega)
        obtain ⟨q0, q1⟩ := fldCells_at xs k hkl
        obtain ⟨q2, q3⟩ := fldCells_at ys k hkl2
        rw [hxe] at q0 q1
        rw [hye] at q2 q3
        have c0 : wr.cell? ⟨b0, o0 + k * 2, none⟩ = some (.string x1) := keep_cell (hcell _ _ q0) hbr hb0'
        have c1 : wr.cell? ⟨b0, o0 + k * 2 + 1, none⟩ = some (.string x2) := keep_cell (by have := hcell _ _ q1; rwa [← Nat.add_assoc] at this) hbr hb0'
        have c2 : wr.cell? ⟨b1, o1 + k * 2, none⟩ = some (.string y1) := keep_cell (hcell' _ _ q2) hbr hb1'
        have c3 : wr.cell? ⟨b1, o1 + k * 2 + 1, none⟩ = some (.string y2) := keep_cell (by have := hcell' _ _ q3; rwa [← Nat.add_assoc] at this) hbr hb1'
        clear hcell hcell' q0 q1 q2 q3
        by_cases h1 : x1 = y1
        · have hb1 : (x1.toList == y1.toList) = true := bytes_eq_iff.2 h1
          by_cases h2 : x2 = y2
          · have hb2 : (x2.toList == y2.toList) = true := bytes_eq_iff.2 h2
            have HN : Hid (xs.take (k + 1) = ys.take (k + 1)) := take_step HT.out hkl hkl2 (by rw [hxe, hye, h1, h2])
            clear h1 h2 hxe hye
            go_wp2
            go_quiet (fail)
            have hb2 : Below w.heap.size w (wr.drewN nq) := bl_drewN hbr nq
            generalize wr.drewN nq = wq at *
            go_wp2
            go_roundw
            case rel => exact ⟨k + 1, by omega, by go_num, HN, hb2⟩
            case measure => simp [intOf]; omega
          · have hb2 : (x2.toList == y2.toList) = false := by rw [bytes_beq]; exact decide_eq_false h2
            have HN : Hid (xs ≠ ys) := ne_at hkl hkl2 (by rw [hxe, hye]; intro h; exact h2 (congrArg Prod.snd h))
            clear h1 h2 hxe hye
            go_wp2
            go_quiet (fail)
            have hb2 : Below w.heap.size w (wr.drewN nq) := bl_drewN hbr nq
            generalize wr.drewN nq = wq at *
            go_wp2
            go_ret
            exact ⟨by rw [decide_eq_false HN.out]; rfl, hb2⟩
        · have hb1 : (x1.toList == y1.toList) = false := by rw [bytes_beq]; exact decide_eq_false h1
          have HN : Hid (xs ≠ ys) := ne_at hkl hkl2 (by rw [hxe, hye]; intro h; exact h1 (congrArg Prod.fst h))
          clear h1 hxe hye
          go_wp2
          go_quiet (fail)
          have hb2 : Below w.heap.size w (wr.drewN nq) := bl_drewN hbr nq
          generalize wr.drewN nq = wq at *
          go_wp2
          go_ret
          exact ⟨by rw [decide_eq_false HN.out]; rfl, hb2⟩
      · obtain rfl : k = xs.length := by omega
        have HN : Hid (xs = ys) := take_done HLEN.out HT.out
        clear HT
        go_wp2
        go_ret
        exact ⟨by rw [decide_eq_true HN.out]; rfl, hbr⟩
  · have hlen' : ¬ (xs.length : Int) = (ys.length : Int) := by omega
    go_enter Try.func48, Try.ntmps48
    go_wp2
    go_ret
    exact ⟨by rw [decide_eq_false (fun h => hlen (by rw [h]))]; rfl, Below.refl _ _⟩
set_option maxHeartbeats 1600000 in
set_option maxRecDepth 100000 in
theorem asame_any (s s' : ByteArray) (xs ys : List Fld) (u v : Value) (lv : Int) (c : Nat) (fr til lv' : Int) (c' : Nat) (fr' til' : Int) (w : World) (hx : FldsAt w u xs) (hy : FldsAt w v ys) (hl : xs.length ≤ maxLen) (hl2 : ys.length ≤ maxLen) :
    Calls Try.prog 21 #[.agg #[.string s, u, .int .i64 lv, .int .u32 c, .int .i64 fr, .int .i64 til], .agg #[.string s', v, .int .i64 lv', .int .u32 c', .int .i64 fr', .int .i64 til']] w fun e w' => e = .returned (.bool (sameA s s' xs ys lv c fr til lv' c' fr' til')) ∧ Below w.heap.size w w' := by
  have k1 := fun W (hb : Below w.heap.size w W) => eqF_any xs ys W u v (hx.later hb) (hy.later hb) hl hl2
  obtain ⟨xa, xc, rfl, _, _⟩ := RdAt.shape hx
  obtain ⟨ya, yc, rfl, _, _⟩ := RdAt.shape hy
  clear hx hy hl hl2
  obtain ⟨W0, hW0⟩ : ∃ z, (w.alloc (.cells #[.string s, .slice xa xs.length xc, .int .i64 lv, .int .u32 c, .int .i64 fr, .int .i64 til] 36)).alloc (.cells #[.string s', .slice ya ys.length yc, .int .i64 lv', .int .u32 c', .int .i64 fr', .int .i64 til'] 36) = z := ⟨_, rfl⟩
  have hb0 : Below w.heap.size w W0 := by rw [← hW0]; exact (alloc_below _ _).trans ((alloc_below _ _).mono (by simp))
  have hz : W0.heap.size = w.heap.size + 1 + 1 := by rw [← hW0]; simp
  have hd := (Below.refl W0.heap.size W0)
  rw [← hW0] at hd
  obtain ⟨h1, h2, h3⟩ := box_cells hd
  obtain ⟨h4, _, _⟩ := box_cells h3
  rw [World.size_alloc] at h1
  rw [hW0] at h1 h4
  have hP : C6 w.heap.size (.string s) (.slice xa xs.length xc) (.int .i64 lv) (.int .u32 c) (.int .i64 fr) (.int .i64 til) W0 := ⟨h4 0 _ rfl, h4 1 _ rfl, h4 2 _ rfl, h4 3 _ rfl, h4 4 _ rfl, h4 5 _ rfl⟩
  have hQ : C6 (w.heap.size + 1) (.string s') (.slice ya ys.length yc) (.int .i64 lv') (.int .u32 c') (.int .i64 fr') (.int .i64 til') W0 := ⟨h1 0 _ rfl, h1 1 _ rfl, h1 2 _ rfl, h1 3 _ rfl, h1 4 _ rfl, h1 5 _ rfl⟩
  have k1 := k1 W0 hb0
  have HZ := Lib.hid hz
  have HB0 := Lib.hid hb0
  have HW0 := Lib.hid hW0
  have HP := Lib.hid hP
  have HQ := Lib.hid hQ
  clear hd h1 h2 h3 h4 hb0 hW0 hz hP hQ
  obtain ⟨p0, p1, p2, p3, p4, p5⟩ := HP.out
  obtain ⟨q0, q1, q2, q3, q4, q5⟩ := HQ.out
  by_cases e0 : s = s'
  · have b0 : (s.toList == s'.toList) = true := bytes_eq_iff.2 e0
    obtain ⟨q, hq⟩ : ∃ q, decide (xs = ys) = q := ⟨_, rfl⟩
    have HS : Hid (sameA s s' xs ys lv c fr til lv' c' fr' til' = (q && (decide (lv = lv') && decide (c = c')) && decide (fr = fr') && decide (til = til'))) := by
      show _ = _
      unfold sameA
      rw [hq, decide_eq_true e0, Bool.true_and]
    rw [hq] at k1
    clear e0 hq
    go_enter Try.func21, Try.ntmps21
    go_upto_region 1 with fail
    rw [HW0.out]
    clear HW0
    go_wp2_with fail
    refine k1.mono ?_
    rintro e w1 ⟨rfl, hb1⟩
    have HB1 := Lib.hid (HB0.out.trans (hb1.mono HB0.out.size))
    have hP1 := HP.out.later hb1 (by have := HZ.out; omega)
    have hQ1 := HQ.out.later hb1 (by have := HZ.out; omega)
    clear k1 hb1 p0 p1 p2 p3 p4 p5 q0 q1 q2 q3 q4 q5 HP HQ
    obtain ⟨p0, p1, p2, p3, p4, p5⟩ := hP1
    obtain ⟨q0, q1, q2, q3, q4, q5⟩ := hQ1
    cases q
    · go_wp2
      go_ret
      exact ⟨by rw [HS.out]; rfl, HB1.out⟩
    · by_cases e1 : lv = lv'
      · by_cases e2 : c = c'
        · by_cases e3 : fr = fr'
          · by_cases e4 : til = til'
            · have HE : Hid ((true && (decide (lv = lv') && decide (c = c')) && decide (fr = fr') && decide (til = til')) = true) := by show _ = _; simp [e1, e2, e3, e4]
              subst e1 e2 e3 e4
              go_wp2
              go_ret
              exact ⟨by rw [HS.out, HE.out]; simp, HB1.out⟩
            · have HE : Hid ((true && (decide (lv = lv') && decide (c = c')) && decide (fr = fr') && decide (til = til')) = false) := by show _ = _; simp [e4]
              have n4 : (til == til') = false := by rw [beq_eq_false_iff_ne]; exact e4
              subst e1 e2 e3
              go_wp2
              go_ret
              exact ⟨by rw [HS.out, HE.out]; simp [*], HB1.out⟩
          · have HE : Hid ((true && (decide (lv = lv') && decide (c = c')) && decide (fr = fr') && decide (til = til')) = false) := by show _ = _; simp [e3]
            have n3 : (fr == fr') = false := by rw [beq_eq_false_iff_ne]; exact e3
            subst e1 e2
            go_wp2
            go_ret
            exact ⟨by rw [HS.out, HE.out]; simp [*], HB1.out⟩
        · have HE : Hid ((true && (decide (lv = lv') && decide (c = c')) && decide (fr = fr') && decide (til = til')) = false) := by show _ = _; simp [e2]
          have n2 : ((c : Int) == (c' : Int)) = false := by rw [beq_eq_false_iff_ne]; omega
          subst e1
          go_wp2
          go_ret
          exact ⟨by rw [HS.out, HE.out]; simp [*], HB1.out⟩
      · have HE : Hid ((true && (decide (lv = lv') && decide (c = c')) && decide (fr = fr') && decide (til = til')) = false) := by show _ = _; simp [e1]
        have n1 : (lv == lv') = false := by rw [beq_eq_false_iff_ne]; exact e1
        go_wp2
        go_ret
        exact ⟨by rw [HS.out, HE.out]; simp [*], HB1.out⟩
  · have b0 : (s.toList == s'.toList) = false := by rw [bytes_beq]; exact decide_eq_false e0
    have HS : Hid (sameA s s' xs ys lv c fr til lv' c' fr' til' = false) := by
      show _ = _
      unfold sameA
      rw [decide_eq_false e0]; rfl
    clear e0 k1
    go_enter Try.func21, Try.ntmps21
    go_upto_region 1 with fail
    rw [HW0.out]
    clear HW0
    go_wp2
    go_ret
    exact ⟨by rw [HS.out]; simp [*], HB0.out⟩
end Go.Proofs.Ytipnhpfpppblhaa

/- alert.Merge: a contract. -/
namespace Go.Proofs.Ytipnhpfpppblhaa
open Go.RowKit
theorem c6_set' {w : World} {g : Nat} {v0 v1 v2 v3 v4 v5 : Value} (h : C6 g v0 v1 v2 v3 v4 v5 w) (x : Value) :
    C6 g v0 x v2 v3 v4 v5 (w.setCells g 1 [x]) ∧ C6 g v0 v1 v2 x v4 v5 (w.setCells g 3 [x]) := by
  obtain ⟨h0, h1, h2, h3, h4, h5⟩ := h
  have hs : ∀ j v, w.cell? ⟨g, j, none⟩ = some v → (w.setCells g j [x]).cell? ⟨g, j, none⟩ = some x := fun j v h => World.cell?_setCell_same' w ⟨g, j, none⟩ x (by rw [h]; rfl)
  have ho : ∀ i j v, j ≠ i → w.cell? ⟨g, j, none⟩ = some v → (w.setCells g i [x]).cell? ⟨g, j, none⟩ = some v := fun i j v hne h => by
    rw [World.cell?_setCells_out _ _ _ _ _ (fun _ _ => by simp; omega)]
    exact h
  exact ⟨⟨ho _ _ _ (by decide) h0, hs _ _ h1, ho _ _ _ (by decide) h2, ho _ _ _ (by decide) h3, ho _ _ _ (by decide) h4, ho _ _ _ (by decide) h5⟩,
    ⟨ho _ _ _ (by decide) h0, ho _ _ _ (by decide) h1, ho _ _ _ (by decide) h2, hs _ _ h3, ho _ _ _ (by decide) h4, ho _ _ _ (by decide) h5⟩⟩
structure MSt (w : World) (x y : Al) (v u : Value) (l' : Int) (c' : Nat) (f' t' : Int) (W : World) : Prop where
  a : C6 w.heap.size (.string x.src) v (.int .i64 l') (.int .u32 c') (.int .i64 f') (.int .i64 t') W
  b : C6 (w.heap.size + 1) (.string y.src) u (.int .i64 y.lv) (.int .u32 y.c) (.int .i64 y.fr) (.int .i64 y.til) W
  ath : W.there w.heap.size 0 6
  rth : W.there (w.heap.size + 1 + 1) 0 6
  lt : w.heap.size + 1 + 1 < W.heap.size
  below : Below w.heap.size w W
section
variable {w W W' : World} {x y : Al} {v u : Value} {l' : Int} {c' : Nat} {f' t' : Int}
theorem MSt.later (h : MSt w x y v u l' c' f' t' W) (hb : Below W.heap.size W W') : MSt w x y v u l' c' f' t' W' := by
  have h1 := h.lt
  exact ⟨h.a.later hb (by omega), h.b.later hb (by omega), there_later h.ath hb (by omega), there_later h.rth hb h1, Nat.lt_of_lt_of_le h1 hb.size, h.below.trans (hb.mono h.below.size)⟩
theorem MSt.put (h : MSt w x y v u l' c' f' t' W) (j : Nat) (z : Value) {v2 : Value} {l2 : Int} {c2 : Nat} {f2 t2 : Int} (ho : C6 w.heap.size (.string x.src) v2 (.int .i64 l2) (.int .u32 c2) (.int .i64 f2) (.int .i64 t2) (W.setCells w.heap.size j [z])) : MSt w x y v2 u l2 c2 f2 t2 (W.setCells w.heap.size j [z]) := by
  exact ⟨ho, c6_out h.b (by omega) j [z], World.there_setCells h.ath w.heap.size j [z], World.there_setCells h.rth w.heap.size j [z],
    Nat.lt_of_lt_of_le h.lt (below_puts_base (g := w.heap.size) (o := j) (Below.refl 0 W) (Nat.zero_le _) [z]).size, below_puts h.below (Nat.le_refl _) [z]⟩
theorem MSt.put1 (h : MSt w x y v u l' c' f' t' W) (z : Value) : MSt w x y z u l' c' f' t' (W.setCells w.heap.size 1 [z]) := h.put 1 _ (c6_set' h.a _).1
theorem MSt.put2 (h : MSt w x y v u l' c' f' t' W) (z : Int) : MSt w x y v u z c' f' t' (W.setCells w.heap.size 2 [.int .i64 z]) := h.put 2 _ (c6_set h.a _).2.1
theorem MSt.put3 (h : MSt w x y v u l' c' f' t' W) (z : Nat) : MSt w x y v u l' z f' t' (W.setCells w.heap.size 3 [.int .u32 z]) := h.put 3 _ (c6_set' h.a _).2
theorem MSt.put4 (h : MSt w x y v u l' c' f' t' W) (z : Int) : MSt w x y v u l' c' z t' (W.setCells w.heap.size 4 [.int .i64 z]) := h.put 4 _ (c6_set h.a _).2.2.1
theorem MSt.put5 (h : MSt w x y v u l' c' f' t' W) (z : Int) : MSt w x y v u l' c' f' z (W.setCells w.heap.size 5 [.int .i64 z]) := h.put 5 _ (c6_set h.a _).2.2.2
end
def MTil (a b p : Int) : Prop := (p = 0 ∧ mTil a b = 0) ∨ (0 < p ∧ max p b = p ∧ mTil a b = p)
theorem mtil_arith {a b k : Int} (ha : 0 ≤ a ∧ a ≤ 1099511627776) (hb : 0 ≤ b ∧ b ≤ 1099511627776) (hk : (k = b ∧ b < a ∧ b ≤ 1) ∨ (k = a ∧ a ≤ b ∧ a ≤ 1) ∨ (k = 1 ∧ 1 < a ∧ 1 < b)) : MTil a b (wrap64 (max a b * k)) := by
  have h01 : k = 0 ∨ k = 1 := by omega
  unfold MTil mTil
  rcases h01 with h | h
  · left
    rw [h, Int.mul_zero]
    refine ⟨by unfold wrap64; decide, if_pos (by omega)⟩
  · right
    rw [h, Int.mul_one]
    have hw : wrap64 (max a b) = max a b := by unfold wrap64; omega
    rw [hw]
    refine ⟨by omega, by omega, ?_⟩
    rw [if_neg (by omega)]
def mergeR (ok : Bool) (x y : Al) (v : Value) : Value := match ok with
  | true => AlV (mergeA x y) v
  | false => zeroA
set_option maxHeartbeats 3200000 in
set_option maxRecDepth 100000 in
theorem amerge_any (x y : Al) (v u : Value) (w : World) (hx : AlFit x) (hy : AlFit y) (hv : FldsAt w v x.fl) (hu : FldsAt w u y.fl) :
    Calls Try.prog 23 #[AlV x v, AlV y u] w fun e w' => ∃ v', e = .returned (.tuple #[mergeR (mergeOk x y) x y v', .bool (mergeOk x y)]) ∧ FldsAt w' v' x.fl ∧ Below w.heap.size w w' := by
  have r1 := fun W (h : Below w.heap.size w W) => aright_any x.src x.fl x.lv x.c x.fr x.til v W hx.src (hv.later h) hx.fl hx.len
  have r2 := fun W (h : Below w.heap.size w W) => aright_any y.src y.fl y.lv y.c y.fr y.til u W hy.src (hu.later h) hy.fl hy.len
  have i1 := fun (hr : rightA x = true) W (h : Below w.heap.size w W) => id_any x.src x.fl x.lv x.c x.fr x.til v W (hv.later h) (idB_bound (rightA_who hr))
  have i2 := fun (hr : rightA y = true) W (h : Below w.heap.size w W) => id_any y.src y.fl y.lv y.c y.fr y.til u W (hu.later h) (idB_bound (rightA_who hr))
  have kc := fun (hr : rightA x = true) W (h : Below w.heap.size w W) => cloneF_any x.fl W v (hv.later h) (by have := (rightF_at (rightA_parts hr).2.2.1).1; omega)
  obtain ⟨va, vc, rfl, _, _⟩ := RdAt.shape hv
  obtain ⟨ua, uc, rfl, _, _⟩ := RdAt.shape hu
  have HV := Lib.hid hv
  have R1 := Lib.hid r1
  have R2 := Lib.hid r2
  have I1 := Lib.hid i1
  have I2 := Lib.hid i2
  have KC := Lib.hid kc
  clear hv hu r1 r2 i1 i2 kc hx hy
  obtain ⟨W0, hW0⟩ : ∃ z, ((w.alloc (.cells #[.string x.src, .slice va x.fl.length vc, .int .i64 x.lv, .int .u32 x.c, .int .i64 x.fr, .int .i64 x.til] 36)).alloc (.cells #[.string y.src, .slice ua y.fl.length uc, .int .i64 y.lv, .int .u32 y.c, .int .i64 y.fr, .int .i64 y.til] 36)).alloc (.cells #[.string ⟨#[]⟩, .slice none 0 0, .int .i64 0, .int .u32 0, .int .i64 0, .int .i64 0] 36) = z := ⟨_, rfl⟩
  have hb0 : Below w.heap.size w W0 := by rw [← hW0]; exact ((alloc_below _ _).trans ((alloc_below _ _).mono (by simp))).trans ((alloc_below _ _).mono (by simp; omega))
  have hz : w.heap.size + 1 + 1 < W0.heap.size := by rw [← hW0]; simp
  have hbb := (Below.refl W0.heap.size W0)
  rw [← hW0] at hbb
  obtain ⟨g1, g2, g3⟩ := box_cells hbb
  have hT2 := box_there hbb
  obtain ⟨g4, g5, g6, g7⟩ := box_two g3
  have g8 := (box_cells g3).2.2
  have hT : W0.there w.heap.size 0 6 := hW0 ▸ box_there g8
  rw [hW0] at g1 g4 g5 hT2
  simp only [World.size_alloc] at g1 hT2
  have H0 : Hid (MSt w x y (.slice va x.fl.length vc) (.slice ua y.fl.length uc) x.lv x.c x.fr x.til W0) := Lib.hid ⟨⟨g4 0 _ rfl, g4 1 _ rfl, g4 2 _ rfl, g4 3 _ rfl, g4 4 _ rfl, g4 5 _ rfl⟩, ⟨g5 0 _ rfl, g5 1 _ rfl, g5 2 _ rfl, g5 3 _ rfl, g5 4 _ rfl, g5 5 _ rfl⟩, hT, hT2, hz, hb0⟩
  have HW0 := Lib.hid hW0
  clear g1 g2 g3 g4 g5 g6 g7 g8 hbb hT hT2 hb0 hz hW0
  obtain ⟨a0, a1, a2, a3, a4, a5⟩ := H0.out.a
  obtain ⟨b0, b1, b2, b3, b4, b5⟩ := H0.out.b
  have hlt := H0.out.lt
  have hlt0 : w.heap.size < W0.heap.size := by omega
  have hlt1 : w.heap.size + 1 < W0.heap.size := by omega
  go_enter Try.func23, Try.ntmps23
  go_upto_region 1 with fail
  rw [HW0.out]
  clear HW0
  go_cut [20] (fun s20 wx => s20 = .bool (!mergeOk x y) ∧ MSt w x y (.slice va x.fl.length vc) (.slice ua y.fl.length uc) x.lv x.c x.fr x.til wx)
  case first =>
    cases hrx : rightA x
    · have HE : Hid (mergeOk x y = false) := by show _ = _; unfold mergeOk; rw [hrx]; rfl
      have k1 := R1.out
      simp only [show (whoA x.src x.fl x.lv && beginsA x.fr && endsA x.fr x.til) = rightA x from rfl, hrx] at k1
      clear hrx
      refine wp_region_held_drew (S := (fun W => W.cell? ⟨w.heap.size, 0, none⟩ = some (.string x.src) ∧ W.cell? ⟨w.heap.size, 1, none⟩ = some (.slice va x.fl.length vc) ∧ W.cell? ⟨w.heap.size, 2, none⟩ = some (.int .i64 x.lv) ∧ W.cell? ⟨w.heap.size, 3, none⟩ = some (.int .u32 x.c) ∧ W.cell? ⟨w.heap.size, 4, none⟩ = some (.int .i64 x.fr) ∧ W.cell? ⟨w.heap.size, 5, none⟩ = some (.int .i64 x.til) ∧ W.cell? ⟨w.heap.size + 1, 0, none⟩ = some (.string y.src) ∧ W.cell? ⟨w.heap.size + 1, 1, none⟩ = some (.slice ua y.fl.length uc) ∧ W.cell? ⟨w.heap.size + 1, 2, none⟩ = some (.int .i64 y.lv) ∧ W.cell? ⟨w.heap.size + 1, 3, none⟩ = some (.int .u32 y.c) ∧ W.cell? ⟨w.heap.size + 1, 4, none⟩ = some (.int .i64 y.fr) ∧ W.cell? ⟨w.heap.size + 1, 5, none⟩ = some (.int .i64 y.til))) (by kernel_rfl) ⟨a0, a1, a2, a3, a4, a5, b0, b1, b2, b3, b4, b5⟩ (fun hHeld => ?_)
      refine held_take (i := 0) (v := ?_) rfl rfl (by kernel_rfl) (by kernel_rfl) (by kernel_rfl) (fun _ _ _ h => h) (by rfl) hHeld ?_ ?_
      rotate_left
      · rintro wh ⟨z0, z1, z2, z3, z4, z5, z6, z7, z8, z9, z10, z11⟩
        go_simp
        (try with_reducible rfl)
      simp only [Act.put, List.setIfInBounds_toArray, List.set_cons_zero, List.set_cons_succ]
      refine held_call (i := 1) rfl (by kernel_rfl) (by rfl) (fun K hK => ?_)
      (go_simp; go_at_call 25; refine (k1 _ (H0.out.below.trans (((Below.refl _ W0).drew : Below W0.heap.size W0 W0.drew).mono H0.out.below.size))).mono ?_; rintro e w1 ⟨rfl, hb1⟩; have hB1 := ((Below.refl _ W0).drew : Below W0.heap.size W0 W0.drew).trans (hb1.mono ((Below.refl _ W0).drew : Below W0.heap.size W0 W0.drew).size))
      refine hK.out _ _ ⟨keep_cell a0 hB1 hlt0, keep_cell a1 hB1 hlt0, keep_cell a2 hB1 hlt0, keep_cell a3 hB1 hlt0, keep_cell a4 hB1 hlt0, keep_cell a5 hB1 hlt0, keep_cell b0 hB1 hlt1, keep_cell b1 hB1 hlt1, keep_cell b2 hB1 hlt1, keep_cell b3 hB1 hlt1, keep_cell b4 hB1 hlt1, keep_cell b5 hB1 hlt1⟩ (fun hHeld => ?_)
      clear hK K
      (try simp only [Act.put, List.setIfInBounds_toArray, List.set_cons_zero, List.set_cons_succ])
      refine held_take (i := 2) (v := ?_) rfl rfl (by kernel_rfl) (by kernel_rfl) (by kernel_rfl) (fun _ _ _ h => h) (by rfl) hHeld ?_ ?_
      rotate_left
      · rintro wh ⟨z0, z1, z2, z3, z4, z5, z6, z7, z8, z9, z10, z11⟩
        go_simp
        (try with_reducible rfl)
      simp only [Act.put, List.setIfInBounds_toArray, List.set_cons_zero, List.set_cons_succ]
      refine held_take (i := 3) (v := ?_) rfl rfl (by kernel_rfl) (by kernel_rfl) (by kernel_rfl) (fun _ _ _ h => h) (by rfl) hHeld ?_ ?_
      rotate_left
      · rintro wh ⟨z0, z1, z2, z3, z4, z5, z6, z7, z8, z9, z10, z11⟩
        go_simp
        (try with_reducible rfl)
      simp only [Act.put, List.setIfInBounds_toArray, List.set_cons_zero, List.set_cons_succ]
      refine held_skip (i := 4) rfl rfl (by kernel_rfl) (by kernel_rfl) (by kernel_rfl) (fun _ _ _ h => h) (by rfl) hHeld ?_
      simp only [Act.put, List.setIfInBounds_toArray, List.set_cons_zero, List.set_cons_succ]
      refine held_skip (i := 5) rfl rfl (by kernel_rfl) (by kernel_rfl) (by kernel_rfl) (fun _ _ _ h => h) (by rfl) hHeld ?_
      simp only [Act.put, List.setIfInBounds_toArray, List.set_cons_zero, List.set_cons_succ]
      refine held_skip (i := 6) rfl rfl (by kernel_rfl) (by kernel_rfl) (by kernel_rfl) (fun _ _ _ h => h) (by rfl) hHeld ?_
      simp only [Act.put, List.setIfInBounds_toArray, List.set_cons_zero, List.set_cons_succ]
      refine held_take (i := 7) (v := ?_) rfl rfl (by kernel_rfl) (by kernel_rfl) (by kernel_rfl) (fun _ _ _ h => h) (by rfl) hHeld ?_ ?_
      rotate_left
      · rintro wh ⟨z0, z1, z2, z3, z4, z5, z6, z7, z8, z9, z10, z11⟩
        go_simp
        (try with_reducible rfl)
      simp only [Act.put, List.setIfInBounds_toArray, List.set_cons_zero, List.set_cons_succ]
      refine held_take (i := 8) (v := ?_) rfl rfl (by kernel_rfl) (by kernel_rfl) (by kernel_rfl) (fun _ _ _ h => h) (by rfl) hHeld ?_ ?_
      rotate_left
      · rintro wh ⟨z0, z1, z2, z3, z4, z5, z6, z7, z8, z9, z10, z11⟩
        go_simp
        (try with_reducible rfl)
      simp only [Act.put, List.setIfInBounds_toArray, List.set_cons_zero, List.set_cons_succ]
      refine held_skip (i := 9) rfl rfl (by kernel_rfl) (by kernel_rfl) (by kernel_rfl) (fun _ _ _ h => h) (by rfl) hHeld ?_
      simp only [Act.put, List.setIfInBounds_toArray, List.set_cons_zero, List.set_cons_succ]
      refine held_skip (i := 10) rfl rfl (by kernel_rfl) (by kernel_rfl) (by kernel_rfl) (fun _ _ _ h => h) (by rfl) hHeld ?_
      simp only [Act.put, List.setIfInBounds_toArray, List.set_cons_zero, List.set_cons_succ]
      refine held_skip (i := 11) rfl rfl (by kernel_rfl) (by kernel_rfl) (by kernel_rfl) (fun _ _ _ h => h) (by rfl) hHeld ?_
      simp only [Act.put, List.setIfInBounds_toArray, List.set_cons_zero, List.set_cons_succ]
      refine held_skip (i := 12) rfl rfl (by kernel_rfl) (by kernel_rfl) (by kernel_rfl) (fun _ _ _ h => h) (by rfl) hHeld ?_
      simp only [Act.put, List.setIfInBounds_toArray, List.set_cons_zero, List.set_cons_succ]
      refine held_skip (i := 13) rfl rfl (by kernel_rfl) (by kernel_rfl) (by kernel_rfl) (fun _ _ _ h => h) (by rfl) hHeld ?_
      simp only [Act.put, List.setIfInBounds_toArray, List.set_cons_zero, List.set_cons_succ]
      refine held_take (i := 14) (v := ?_) rfl rfl (by kernel_rfl) (by kernel_rfl) (by kernel_rfl) (fun _ _ _ h => h) (by rfl) hHeld ?_ ?_
      rotate_left
      · rintro wh ⟨z0, z1, z2, z3, z4, z5, z6, z7, z8, z9, z10, z11⟩
        go_simp
        (try with_reducible rfl)
      simp only [Act.put, List.setIfInBounds_toArray, List.set_cons_zero, List.set_cons_succ]
      refine wpAnyH_done (by kernel_rfl) ?_ _
      go_wp2
      go_meet
      exact ⟨by rw [HE.out]; rfl, H0.out.later hB1⟩
    · have k1 := R1.out
      simp only [show (whoA x.src x.fl x.lv && beginsA x.fr && endsA x.fr x.til) = rightA x from rfl, hrx] at k1
      have k3 := I1.out hrx
      cases hry : rightA y
      · have HE : Hid (mergeOk x y = false) := by show _ = _; unfold mergeOk; rw [hrx, hry]; rfl
        have k2 := R2.out
        simp only [show (whoA y.src y.fl y.lv && beginsA y.fr && endsA y.fr y.til) = rightA y from rfl, hry] at k2
        clear hrx hry
        refine wp_region_held_drew (S := (fun W => W.cell? ⟨w.heap.size, 0, none⟩ = some (.string x.src) ∧ W.cell? ⟨w.heap.size, 1, none⟩ = some (.slice va x.fl.length vc) ∧ W.cell? ⟨w.heap.size, 2, none⟩ = some (.int .i64 x.lv) ∧ W.cell? ⟨w.heap.size, 3, none⟩ = some (.int .u32 x.c) ∧ W.cell? ⟨w.heap.size, 4, none⟩ = some (.int .i64 x.fr) ∧ W.cell? ⟨w.heap.size, 5, none⟩ = some (.int .i64 x.til) ∧ W.cell? ⟨w.heap.size + 1, 0, none⟩ = some (.string y.src) ∧ W.cell? ⟨w.heap.size + 1, 1, none⟩ = some (.slice ua y.fl.length uc) ∧ W.cell? ⟨w.heap.size + 1, 2, none⟩ = some (.int .i64 y.lv) ∧ W.cell? ⟨w.heap.size + 1, 3, none⟩ = some (.int .u32 y.c) ∧ W.cell? ⟨w.heap.size + 1, 4, none⟩ = some (.int .i64 y.fr) ∧ W.cell? ⟨w.heap.size + 1, 5, none⟩ = some (.int .i64 y.til))) (by kernel_rfl) ⟨a0, a1, a2, a3, a4, a5, b0, b1, b2, b3, b4, b5⟩ (fun hHeld => ?_)
        refine held_take (i := 0) (v := ?_) rfl rfl (by kernel_rfl) (by kernel_rfl) (by kernel_rfl) (fun _ _ _ h => h) (by rfl) hHeld ?_ ?_
        rotate_left
        · rintro wh ⟨z0, z1, z2, z3, z4, z5, z6, z7, z8, z9, z10, z11⟩
          go_simp
          (try with_reducible rfl)
        simp only [Act.put, List.setIfInBounds_toArray, List.set_cons_zero, List.set_cons_succ]
        refine held_call (i := 1) rfl (by kernel_rfl) (by rfl) (fun K hK => ?_)
        (go_simp; go_at_call 25; refine (k1 _ (H0.out.below.trans (((Below.refl _ W0).drew : Below W0.heap.size W0 W0.drew).mono H0.out.below.size))).mono ?_; rintro e w1 ⟨rfl, hb1⟩; have hB1 := ((Below.refl _ W0).drew : Below W0.heap.size W0 W0.drew).trans (hb1.mono ((Below.refl _ W0).drew : Below W0.heap.size W0 W0.drew).size))
        refine hK.out _ _ ⟨keep_cell a0 hB1 hlt0, keep_cell a1 hB1 hlt0, keep_cell a2 hB1 hlt0, keep_cell a3 hB1 hlt0, keep_cell a4 hB1 hlt0, keep_cell a5 hB1 hlt0, keep_cell b0 hB1 hlt1, keep_cell b1 hB1 hlt1, keep_cell b2 hB1 hlt1, keep_cell b3 hB1 hlt1, keep_cell b4 hB1 hlt1, keep_cell b5 hB1 hlt1⟩ (fun hHeld => ?_)
        clear hK K
        (try simp only [Act.put, List.setIfInBounds_toArray, List.set_cons_zero, List.set_cons_succ])
        refine held_take (i := 2) (v := ?_) rfl rfl (by kernel_rfl) (by kernel_rfl) (by kernel_rfl) (fun _ _ _ h => h) (by rfl) hHeld ?_ ?_
        rotate_left
        · rintro wh ⟨z0, z1, z2, z3, z4, z5, z6, z7, z8, z9, z10, z11⟩
          go_simp
          (try with_reducible rfl)
        simp only [Act.put, List.setIfInBounds_toArray, List.set_cons_zero, List.set_cons_succ]
        refine held_take (i := 3) (v := ?_) rfl rfl (by kernel_rfl) (by kernel_rfl) (by kernel_rfl) (fun _ _ _ h => h) (by rfl) hHeld ?_ ?_
        rotate_left
        · rintro wh ⟨z0, z1, z2, z3, z4, z5, z6, z7, z8, z9, z10, z11⟩
          go_simp
          (try with_reducible rfl)
        simp only [Act.put, List.setIfInBounds_toArray, List.set_cons_zero, List.set_cons_succ]
        refine held_take (i := 4) (v := ?_) rfl rfl (by kernel_rfl) (by kernel_rfl) (by kernel_rfl) (fun _ _ _ h => h) (by rfl) hHeld ?_ ?_
        rotate_left
        · rintro wh ⟨z0, z1, z2, z3, z4, z5, z6, z7, z8, z9, z10, z11⟩
          go_simp
          (try with_reducible rfl)
        simp only [Act.put, List.setIfInBounds_toArray, List.set_cons_zero, List.set_cons_succ]
        refine held_call (i := 5) rfl (by kernel_rfl) (by rfl) (fun K hK => ?_)
        (go_simp; go_at_call 25; refine (k2 _ (H0.out.below.trans (hB1.mono H0.out.below.size))).mono ?_; rintro e w2 ⟨rfl, hb2⟩; have hB2 := hB1.trans (hb2.mono hB1.size))
        refine hK.out _ _ ⟨keep_cell a0 hB2 hlt0, keep_cell a1 hB2 hlt0, keep_cell a2 hB2 hlt0, keep_cell a3 hB2 hlt0, keep_cell a4 hB2 hlt0, keep_cell a5 hB2 hlt0, keep_cell b0 hB2 hlt1, keep_cell b1 hB2 hlt1, keep_cell b2 hB2 hlt1, keep_cell b3 hB2 hlt1, keep_cell b4 hB2 hlt1, keep_cell b5 hB2 hlt1⟩ (fun hHeld => ?_)
        clear hK K
        (try simp only [Act.put, List.setIfInBounds_toArray, List.set_cons_zero, List.set_cons_succ])
        refine held_take (i := 6) (v := ?_) rfl rfl (by kernel_rfl) (by kernel_rfl) (by kernel_rfl) (fun _ _ _ h => h) (by rfl) hHeld ?_ ?_
        rotate_left
        · rintro wh ⟨z0, z1, z2, z3, z4, z5, z6, z7, z8, z9, z10, z11⟩
          go_simp
          (try with_reducible rfl)
        simp only [Act.put, List.setIfInBounds_toArray, List.set_cons_zero, List.set_cons_succ]
        refine held_take (i := 7) (v := ?_) rfl rfl (by kernel_rfl) (by kernel_rfl) (by kernel_rfl) (fun _ _ _ h => h) (by rfl) hHeld ?_ ?_
        rotate_left
        · rintro wh ⟨z0, z1, z2, z3, z4, z5, z6, z7, z8, z9, z10, z11⟩
          go_simp
          (try with_reducible rfl)
        simp only [Act.put, List.setIfInBounds_toArray, List.set_cons_zero, List.set_cons_succ]
        refine held_take (i := 8) (v := ?_) rfl rfl (by kernel_rfl) (by kernel_rfl) (by kernel_rfl) (fun _ _ _ h => h) (by rfl) hHeld ?_ ?_
        rotate_left
        · rintro wh ⟨z0, z1, z2, z3, z4, z5, z6, z7, z8, z9, z10, z11⟩
          go_simp
          (try with_reducible rfl)
        simp only [Act.put, List.setIfInBounds_toArray, List.set_cons_zero, List.set_cons_succ]
        refine held_skip (i := 9) rfl rfl (by kernel_rfl) (by kernel_rfl) (by kernel_rfl) (fun _ _ _ h => h) (by rfl) hHeld ?_
        simp only [Act.put, List.setIfInBounds_toArray, List.set_cons_zero, List.set_cons_succ]
        refine held_skip (i := 10) rfl rfl (by kernel_rfl) (by kernel_rfl) (by kernel_rfl) (fun _ _ _ h => h) (by rfl) hHeld ?_
        simp only [Act.put, List.setIfInBounds_toArray, List.set_cons_zero, List.set_cons_succ]
        refine held_skip (i := 11) rfl rfl (by kernel_rfl) (by kernel_rfl) (by kernel_rfl) (fun _ _ _ h => h) (by rfl) hHeld ?_
        simp only [Act.put, List.setIfInBounds_toArray, List.set_cons_zero, List.set_cons_succ]
        refine held_skip (i := 12) rfl rfl (by kernel_rfl) (by kernel_rfl) (by kernel_rfl) (fun _ _ _ h => h) (by rfl) hHeld ?_
        simp only [Act.put, List.setIfInBounds_toArray, List.set_cons_zero, List.set_cons_succ]
        refine held_skip (i := 13) rfl rfl (by kernel_rfl) (by kernel_rfl) (by kernel_rfl) (fun _ _ _ h => h) (by rfl) hHeld ?_
        simp only [Act.put, List.setIfInBounds_toArray, List.set_cons_zero, List.set_cons_succ]
        refine held_take (i := 14) (v := ?_) rfl rfl (by kernel_rfl) (by kernel_rfl) (by kernel_rfl) (fun _ _ _ h => h) (by rfl) hHeld ?_ ?_
        rotate_left
        · rintro wh ⟨z0, z1, z2, z3, z4, z5, z6, z7, z8, z9, z10, z11⟩
          go_simp
          (try with_reducible rfl)
        simp only [Act.put, List.setIfInBounds_toArray, List.set_cons_zero, List.set_cons_succ]
        refine wpAnyH_done (by kernel_rfl) ?_ _
        go_wp2
        go_meet
        exact ⟨by rw [HE.out]; rfl, H0.out.later hB2⟩
      · have k2 := R2.out
        simp only [show (whoA y.src y.fl y.lv && beginsA y.fr && endsA y.fr y.til) = rightA y from rfl, hry] at k2
        have k4 := I2.out hry
        simp only [show shortL (idB x.src x.fl) = idA x from rfl] at k3
        simp only [show shortL (idB y.src y.fl) = idA y from rfl] at k4
        have HE : Hid (mergeOk x y = decide (idA x = idA y)) := by show _ = _; unfold mergeOk; rw [hrx, hry]; rfl
        generalize idA x = n1 at *
        generalize idA y = n2 at *
        clear hrx hry
        refine wp_region_held_drew (S := (fun W => W.cell? ⟨w.heap.size, 0, none⟩ = some (.string x.src) ∧ W.cell? ⟨w.heap.size, 1, none⟩ = some (.slice va x.fl.length vc) ∧ W.cell? ⟨w.heap.size, 2, none⟩ = some (.int .i64 x.lv) ∧ W.cell? ⟨w.heap.size, 3, none⟩ = some (.int .u32 x.c) ∧ W.cell? ⟨w.heap.size, 4, none⟩ = some (.int .i64 x.fr) ∧ W.cell? ⟨w.heap.size, 5, none⟩ = some (.int .i64 x.til) ∧ W.cell? ⟨w.heap.size + 1, 0, none⟩ = some (.string y.src) ∧ W.cell? ⟨w.heap.size + 1, 1, none⟩ = some (.slice ua y.fl.length uc) ∧ W.cell? ⟨w.heap.size + 1, 2, none⟩ = some (.int .i64 y.lv) ∧ W.cell? ⟨w.heap.size + 1, 3, none⟩ = some (.int .u32 y.c) ∧ W.cell? ⟨w.heap.size + 1, 4, none⟩ = some (.int .i64 y.fr) ∧ W.cell? ⟨w.heap.size + 1, 5, none⟩ = some (.int .i64 y.til))) (by kernel_rfl) ⟨a0, a1, a2, a3, a4, a5, b0, b1, b2, b3, b4, b5⟩ (fun hHeld => ?_)
        refine held_take (i := 0) (v := ?_) rfl rfl (by kernel_rfl) (by kernel_rfl) (by kernel_rfl) (fun _ _ _ h => h) (by rfl) hHeld ?_ ?_
        rotate_left
        · rintro wh ⟨z0, z1, z2, z3, z4, z5, z6, z7, z8, z9, z10, z11⟩
          go_simp
          (try with_reducible rfl)
        simp only [Act.put, List.setIfInBounds_toArray, List.set_cons_zero, List.set_cons_succ]
        refine held_call (i := 1) rfl (by kernel_rfl) (by rfl) (fun K hK => ?_)
        (go_simp; go_at_call 25; refine (k1 _ (H0.out.below.trans (((Below.refl _ W0).drew : Below W0.heap.size W0 W0.drew).mono H0.out.below.size))).mono ?_; rintro e w1 ⟨rfl, hb1⟩; have hB1 := ((Below.refl _ W0).drew : Below W0.heap.size W0 W0.drew).trans (hb1.mono ((Below.refl _ W0).drew : Below W0.heap.size W0 W0.drew).size))
        refine hK.out _ _ ⟨keep_cell a0 hB1 hlt0, keep_cell a1 hB1 hlt0, keep_cell a2 hB1 hlt0, keep_cell a3 hB1 hlt0, keep_cell a4 hB1 hlt0, keep_cell a5 hB1 hlt0, keep_cell b0 hB1 hlt1, keep_cell b1 hB1 hlt1, keep_cell b2 hB1 hlt1, keep_cell b3 hB1 hlt1, keep_cell b4 hB1 hlt1, keep_cell b5 hB1 hlt1⟩ (fun hHeld => ?_)
        clear hK K
        (try simp only [Act.put, List.setIfInBounds_toArray, List.set_cons_zero, List.set_cons_succ])
        refine held_take (i := 2) (v := ?_) rfl rfl (by kernel_rfl) (by kernel_rfl) (by kernel_rfl) (fun _ _ _ h => h) (by rfl) hHeld ?_ ?_
        rotate_left
        · rintro wh ⟨z0, z1, z2, z3, z4, z5, z6, z7, z8, z9, z10, z11⟩
          go_simp
          (try with_reducible rfl)
        simp only [Act.put, List.setIfInBounds_toArray, List.set_cons_zero, List.set_cons_succ]
        refine held_take (i := 3) (v := ?_) rfl rfl (by kernel_rfl) (by kernel_rfl) (by kernel_rfl) (fun _ _ _ h => h) (by rfl) hHeld ?_ ?_
        rotate_left
        · rintro wh ⟨z0, z1, z2, z3, z4, z5, z6, z7, z8, z9, z10, z11⟩
          go_simp
          (try with_reducible rfl)
        simp only [Act.put, List.setIfInBounds_toArray, List.set_cons_zero, List.set_cons_succ]
        refine held_take (i := 4) (v := ?_) rfl rfl (by kernel_rfl) (by kernel_rfl) (by kernel_rfl) (fun _ _ _ h => h) (by rfl) hHeld ?_ ?_
        rotate_left
        · rintro wh ⟨z0, z1, z2, z3, z4, z5, z6, z7, z8, z9, z10, z11⟩
          go_simp
          (try with_reducible rfl)
        simp only [Act.put, List.setIfInBounds_toArray, List.set_cons_zero, List.set_cons_succ]
        refine held_call (i := 5) rfl (by kernel_rfl) (by rfl) (fun K hK => ?_)
        (go_simp; go_at_call 25; refine (k2 _ (H0.out.below.trans (hB1.mono H0.out.below.size))).mono ?_; rintro e w2 ⟨rfl, hb2⟩; have hB2 := hB1.trans (hb2.mono hB1.size))
        refine hK.out _ _ ⟨keep_cell a0 hB2 hlt0, keep_cell a1 hB2 hlt0, keep_cell a2 hB2 hlt0, keep_cell a3 hB2 hlt0, keep_cell a4 hB2 hlt0, keep_cell a5 hB2 hlt0, keep_cell b0 hB2 hlt1, keep_cell b1 hB2 hlt1, keep_cell b2 hB2 hlt1, keep_cell b3 hB2 hlt1, keep_cell b4 hB2 hlt1, keep_cell b5 hB2 hlt1⟩ (fun hHeld => ?_)
        clear hK K
        (try simp only [Act.put, List.setIfInBounds_toArray, List.set_cons_zero, List.set_cons_succ])
        refine held_take (i := 6) (v := ?_) rfl rfl (by kernel_rfl) (by kernel_rfl) (by kernel_rfl) (fun _ _ _ h => h) (by rfl) hHeld ?_ ?_
        rotate_left
        · rintro wh ⟨z0, z1, z2, z3, z4, z5, z6, z7, z8, z9, z10, z11⟩
          go_simp
          (try with_reducible rfl)
        simp only [Act.put, List.setIfInBounds_toArray, List.set_cons_zero, List.set_cons_succ]
        refine held_take (i := 7) (v := ?_) rfl rfl (by kernel_rfl) (by kernel_rfl) (by kernel_rfl) (fun _ _ _ h => h) (by rfl) hHeld ?_ ?_
        rotate_left
        · rintro wh ⟨z0, z1, z2, z3, z4, z5, z6, z7, z8, z9, z10, z11⟩
          go_simp
          (try with_reducible rfl)
        simp only [Act.put, List.setIfInBounds_toArray, List.set_cons_zero, List.set_cons_succ]
        refine held_take (i := 8) (v := ?_) rfl rfl (by kernel_rfl) (by kernel_rfl) (by kernel_rfl) (fun _ _ _ h => h) (by rfl) hHeld ?_ ?_
        rotate_left
        · rintro wh ⟨z0, z1, z2, z3, z4, z5, z6, z7, z8, z9, z10, z11⟩
          go_simp
          (try with_reducible rfl)
        simp only [Act.put, List.setIfInBounds_toArray, List.set_cons_zero, List.set_cons_succ]
        refine held_take (i := 9) (v := ?_) rfl rfl (by kernel_rfl) (by kernel_rfl) (by kernel_rfl) (fun _ _ _ h => h) (by rfl) hHeld ?_ ?_
        rotate_left
        · rintro wh ⟨z0, z1, z2, z3, z4, z5, z6, z7, z8, z9, z10, z11⟩
          go_simp
          (try with_reducible rfl)
        simp only [Act.put, List.setIfInBounds_toArray, List.set_cons_zero, List.set_cons_succ]
        refine held_take (i := 11) (v := ?_) rfl rfl (by kernel_rfl) (by kernel_rfl) (by kernel_rfl) (fun _ _ _ h => h) (by rfl) hHeld ?_ ?_
        rotate_left
        · rintro wh ⟨z0, z1, z2, z3, z4, z5, z6, z7, z8, z9, z10, z11⟩
          go_simp
          (try with_reducible rfl)
        simp only [Act.put, List.setIfInBounds_toArray, List.set_cons_zero, List.set_cons_succ]
        refine held_call (i := 10) rfl (by kernel_rfl) (by rfl) (fun K hK => ?_)
        (go_simp; go_at_call 26; refine (k3 _ (H0.out.below.trans (hB2.mono H0.out.below.size))).mono ?_; rintro e w3 ⟨rfl, hb3⟩; have hB3 := hB2.trans (hb3.mono hB2.size))
        refine hK.out _ _ ⟨keep_cell a0 hB3 hlt0, keep_cell a1 hB3 hlt0, keep_cell a2 hB3 hlt0, keep_cell a3 hB3 hlt0, keep_cell a4 hB3 hlt0, keep_cell a5 hB3 hlt0, keep_cell b0 hB3 hlt1, keep_cell b1 hB3 hlt1, keep_cell b2 hB3 hlt1, keep_cell b3 hB3 hlt1, keep_cell b4 hB3 hlt1, keep_cell b5 hB3 hlt1⟩ (fun hHeld => ?_)
        clear hK K
        (try simp only [Act.put, List.setIfInBounds_toArray, List.set_cons_zero, List.set_cons_succ])
        refine held_call (i := 12) rfl (by kernel_rfl) (by rfl) (fun K hK => ?_)
        (go_simp; go_at_call 26; refine (k4 _ (H0.out.below.trans (hB3.mono H0.out.below.size))).mono ?_; rintro e w4 ⟨rfl, hb4⟩; have hB4 := hB3.trans (hb4.mono hB3.size))
        refine hK.out _ _ ⟨keep_cell a0 hB4 hlt0, keep_cell a1 hB4 hlt0, keep_cell a2 hB4 hlt0, keep_cell a3 hB4 hlt0, keep_cell a4 hB4 hlt0, keep_cell a5 hB4 hlt0, keep_cell b0 hB4 hlt1, keep_cell b1 hB4 hlt1, keep_cell b2 hB4 hlt1, keep_cell b3 hB4 hlt1, keep_cell b4 hB4 hlt1, keep_cell b5 hB4 hlt1⟩ (fun hHeld => ?_)
        clear hK K
        (try simp only [Act.put, List.setIfInBounds_toArray, List.set_cons_zero, List.set_cons_succ])
        refine held_take (i := 13) (v := ?_) rfl rfl (by kernel_rfl) (by kernel_rfl) (by kernel_rfl) (fun _ _ _ h => h) (by rfl) hHeld ?_ ?_
        rotate_left
        · rintro wh ⟨z0, z1, z2, z3, z4, z5, z6, z7, z8, z9, z10, z11⟩
          go_simp
          (try with_reducible rfl)
        simp only [Act.put, List.setIfInBounds_toArray, List.set_cons_zero, List.set_cons_succ]
        refine held_take (i := 14) (v := ?_) rfl rfl (by kernel_rfl) (by kernel_rfl) (by kernel_rfl) (fun _ _ _ h => h) (by rfl) hHeld ?_ ?_
        rotate_left
        · rintro wh ⟨z0, z1, z2, z3, z4, z5, z6, z7, z8, z9, z10, z11⟩
          go_simp
          (try with_reducible rfl)
        simp only [Act.put, List.setIfInBounds_toArray, List.set_cons_zero, List.set_cons_succ]
        refine wpAnyH_done (by kernel_rfl) ?_ _
        go_wp2
        go_meet
        exact ⟨by rw [HE.out]; by_cases h : n1 = n2 <;> simp [h], H0.out.later hB4⟩
  case rest =>
    obtain ⟨rfl, hM⟩ := hcut
    have HM := Lib.hid hM
    clear hM a0 a1 a2 a3 a4 a5 b0 b1 b2 b3 b4 b5 hlt hlt0 hlt1 H0 R1 R2 I1 I2
    cases hok : mergeOk x y
    · have f0 := there_free HM.out.rth 0 (by decide)
      have f1 := there_free HM.out.rth 1 (by decide)
      have f2 := there_free HM.out.rth 2 (by decide)
      have f3 := there_free HM.out.rth 3 (by decide)
      have f4 := there_free HM.out.rth 4 (by decide)
      have f5 := there_free HM.out.rth 5 (by decide)
      obtain ⟨y0, hy0⟩ := there_cell HM.out.rth 0 (by decide)
      obtain ⟨y1, hy1⟩ := there_cell HM.out.rth 1 (by decide)
      obtain ⟨y2, hy2⟩ := there_cell HM.out.rth 2 (by decide)
      obtain ⟨y3, hy3⟩ := there_cell HM.out.rth 3 (by decide)
      obtain ⟨y4, hy4⟩ := there_cell HM.out.rth 4 (by decide)
      obtain ⟨y5, hy5⟩ := there_cell HM.out.rth 5 (by decide)
      have HOK := Lib.hid hok
      clear KC hok
      go_wp2
      refine bodyPost_ret (results_agg2 rfl _ _ (w.heap.size + 1 + 1) [.string ⟨#[]⟩, .slice none 0 0, .int .i64 0, .int .u32 0, .int .i64 0, .int .i64 0] (.struct _) rfl (World.rangeAt_setCells_same wc (w.heap.size + 1 + 1) 0 [.string ⟨#[]⟩, .slice none 0 0, .int .i64 0, .int .u32 0, .int .i64 0, .int .i64 0] HM.out.rth) Try.underlying36 rfl (by kernel_rfl)) rfl ?_
      have hbb := below_puts (g := w.heap.size + 1 + 1) (o := 0) HM.out.below (by omega) [.string ⟨#[]⟩, .slice none 0 0, .int .i64 0, .int .u32 0, .int .i64 0, .int .i64 0]
      exact ⟨.slice va x.fl.length vc, by rw [HOK.out]; rfl, HV.out.later hbb, hbb⟩
    · have hxy : rightA x = true ∧ rightA y = true := by
        unfold mergeOk at hok
        simp only [Bool.and_eq_true] at hok
        exact hok.1
      have kc := KC.out hxy.1
      obtain ⟨_, _, _, _, fx0, fx1, tx⟩ := rightA_parts hxy.1
      obtain ⟨_, _, _, _, fy0, fy1, ty⟩ := rightA_parts hxy.2
      have kj := join_any x.lv x.c y.lv y.c
      obtain ⟨J, hJ⟩ : ∃ z, joinL (x.lv, x.c) (y.lv, y.c) = z := ⟨_, rfl⟩
      simp only [hJ] at kj
      obtain ⟨j1, j2⟩ := J
      have HR : Hid (mergeA x y = ⟨x.src, x.fl, j1, j2, min x.fr y.fr, mTil x.til y.til⟩) := by show _ = _; unfold mergeA; rw [hJ]
      have KC' := Lib.hid kc
      have HOK := Lib.hid hok
      clear hxy KC kc hJ hok
      obtain ⟨a0, a1, a2, a3, a4, a5⟩ := HM.out.a
      obtain ⟨b0, b1, b2, b3, b4, b5⟩ := HM.out.b
      have hlt := HM.out.lt
      have hlt0 : w.heap.size < wc.heap.size := by omega
      have hlt1 : w.heap.size + 1 < wc.heap.size := by omega
      go_upto_region 3 with fail
      obtain ⟨mf, hmf⟩ : ∃ z, min x.fr y.fr = z := ⟨_, rfl⟩
      have HMF := Lib.hid hmf
      refine wp_region_heldS 11 (S := (fun W => W.cell? ⟨w.heap.size, 0, none⟩ = some (.string x.src) ∧ W.cell? ⟨w.heap.size, 1, none⟩ = some (.slice va x.fl.length vc) ∧ W.cell? ⟨w.heap.size, 2, none⟩ = some (.int .i64 x.lv) ∧ W.cell? ⟨w.heap.size, 3, none⟩ = some (.int .u32 x.c) ∧ W.cell? ⟨w.heap.size, 4, none⟩ = some (.int .i64 x.fr) ∧ W.cell? ⟨w.heap.size, 5, none⟩ = some (.int .i64 x.til) ∧ W.cell? ⟨w.heap.size + 1, 0, none⟩ = some (.string y.src) ∧ W.cell? ⟨w.heap.size + 1, 1, none⟩ = some (.slice ua y.fl.length uc) ∧ W.cell? ⟨w.heap.size + 1, 2, none⟩ = some (.int .i64 y.lv) ∧ W.cell? ⟨w.heap.size + 1, 3, none⟩ = some (.int .u32 y.c) ∧ W.cell? ⟨w.heap.size + 1, 4, none⟩ = some (.int .i64 y.fr) ∧ W.cell? ⟨w.heap.size + 1, 5, none⟩ = some (.int .i64 y.til))) (by kernel_rfl) ⟨a0, a1, a2, a3, a4, a5, b0, b1, b2, b3, b4, b5⟩ (fun hHeld => ?_)
      have hd : Below wc.heap.size wc wc.drew := (Below.refl _ _).drew
      refine heldS_take (i := 0) (v := ?_) rfl rfl (by kernel_rfl) (by kernel_rfl) (by kernel_rfl) (by kernel_rfl) (by rfl) (fun _ _ _ h => h) (by rfl) hHeld ?_ ?_
      rotate_left
      · rintro wh ⟨z0, z1, z2, z3, z4, z5, z6, z7, z8, z9, z10, z11⟩
        go_simp
        (try with_reducible rfl)
      simp only [Act.put, List.setIfInBounds_toArray, List.set_cons_zero, List.set_cons_succ]
      refine heldS_take (i := 1) (v := ?_) rfl rfl (by kernel_rfl) (by kernel_rfl) (by kernel_rfl) (by kernel_rfl) (by rfl) (fun _ _ _ h => h) (by rfl) hHeld ?_ ?_
      rotate_left
      · rintro wh ⟨z0, z1, z2, z3, z4, z5, z6, z7, z8, z9, z10, z11⟩
        go_simp
        (try with_reducible rfl)
      simp only [Act.put, List.setIfInBounds_toArray, List.set_cons_zero, List.set_cons_succ]
      refine heldS_take (i := 2) (v := ?_) rfl rfl (by kernel_rfl) (by kernel_rfl) (by kernel_rfl) (by kernel_rfl) (by rfl) (fun _ _ _ h => h) (by rfl) hHeld ?_ ?_
      rotate_left
      · rintro wh ⟨z0, z1, z2, z3, z4, z5, z6, z7, z8, z9, z10, z11⟩
        go_simp
        (try with_reducible rfl)
      simp only [Act.put, List.setIfInBounds_toArray, List.set_cons_zero, List.set_cons_succ]
      refine heldS_take (i := 3) (v := ?_) rfl rfl (by kernel_rfl) (by kernel_rfl) (by kernel_rfl) (by kernel_rfl) (by rfl) (fun _ _ _ h => h) (by rfl) hHeld ?_ ?_
      rotate_left
      · rintro wh ⟨z0, z1, z2, z3, z4, z5, z6, z7, z8, z9, z10, z11⟩
        go_simp
        (try with_reducible rfl)
      simp only [Act.put, List.setIfInBounds_toArray, List.set_cons_zero, List.set_cons_succ]
      refine heldS_take (i := 4) (v := ?_) rfl rfl (by kernel_rfl) (by kernel_rfl) (by kernel_rfl) (by kernel_rfl) (by rfl) (fun _ _ _ h => h) (by rfl) hHeld ?_ ?_
      rotate_left
      · rintro wh ⟨z0, z1, z2, z3, z4, z5, z6, z7, z8, z9, z10, z11⟩
        go_simp
        (try with_reducible rfl)
      simp only [Act.put, List.setIfInBounds_toArray, List.set_cons_zero, List.set_cons_succ]
      refine heldS_take (i := 5) (v := ?_) rfl rfl (by kernel_rfl) (by kernel_rfl) (by kernel_rfl) (by kernel_rfl) (by rfl) (fun _ _ _ h => h) (by rfl) hHeld ?_ ?_
      rotate_left
      · rintro wh ⟨z0, z1, z2, z3, z4, z5, z6, z7, z8, z9, z10, z11⟩
        go_simp
        (try with_reducible rfl)
      simp only [Act.put, List.setIfInBounds_toArray, List.set_cons_zero, List.set_cons_succ]
      refine heldS_take (i := 6) (v := ?_) rfl rfl (by kernel_rfl) (by kernel_rfl) (by kernel_rfl) (by kernel_rfl) (by rfl) (fun _ _ _ h => h) (by rfl) hHeld ?_ ?_
      rotate_left
      · rintro wh ⟨z0, z1, z2, z3, z4, z5, z6, z7, z8, z9, z10, z11⟩
        go_simp
        (try with_reducible rfl)
      simp only [Act.put, List.setIfInBounds_toArray, List.set_cons_zero, List.set_cons_succ]
      refine heldS_take (i := 10) (v := ?_) rfl rfl (by kernel_rfl) (by kernel_rfl) (by kernel_rfl) (by kernel_rfl) (by rfl) (fun _ _ _ h => h) (by rfl) hHeld ?_ ?_
      rotate_left
      · rintro wh ⟨z0, z1, z2, z3, z4, z5, z6, z7, z8, z9, z10, z11⟩
        go_simp
        (try with_reducible rfl)
      simp only [Act.put, List.setIfInBounds_toArray, List.set_cons_zero, List.set_cons_succ]
      refine heldS_step (i := 7) rfl (by kernel_rfl) (fun K hK => ?_)
      go_simp
      refine hK.out _ _ ⟨keep_cell a0 hd hlt0, keep_cell a1 hd hlt0, keep_cell a2 hd hlt0, keep_cell a3 hd hlt0, keep_cell a4 hd hlt0, keep_cell a5 hd hlt0, keep_cell b0 hd hlt1, keep_cell b1 hd hlt1, keep_cell b2 hd hlt1, keep_cell b3 hd hlt1, keep_cell b4 hd hlt1, keep_cell b5 hd hlt1⟩ (fun hHeld => ?_)
      clear hK K
      (try simp only [Act.put, List.setIfInBounds_toArray, List.set_cons_zero, List.set_cons_succ])
      refine heldS_step (i := 8) rfl (by kernel_rfl) (fun K hK => ?_)
      go_simp
      refine hK.out _ _ ⟨keep_cell a0 hd hlt0, keep_cell a1 hd hlt0, keep_cell a2 hd hlt0, keep_cell a3 hd hlt0, keep_cell a4 hd hlt0, keep_cell a5 hd hlt0, keep_cell b0 hd hlt1, keep_cell b1 hd hlt1, keep_cell b2 hd hlt1, keep_cell b3 hd hlt1, keep_cell b4 hd hlt1, keep_cell b5 hd hlt1⟩ (fun hHeld => ?_)
      clear hK K
      (try simp only [Act.put, List.setIfInBounds_toArray, List.set_cons_zero, List.set_cons_succ])
      refine heldS_step (i := 9) rfl (by kernel_rfl) (fun K hK => ?_)
      (go_simp; go_at_call 49; refine (kj _).mono ?_; rintro e wj ⟨rfl, hbj⟩; have hbJ := hd.trans (hbj.mono hd.size))
      refine hK.out _ _ ⟨keep_cell a0 hbJ hlt0, keep_cell a1 hbJ hlt0, keep_cell a2 hbJ hlt0, keep_cell a3 hbJ hlt0, keep_cell a4 hbJ hlt0, keep_cell a5 hbJ hlt0, keep_cell b0 hbJ hlt1, keep_cell b1 hbJ hlt1, keep_cell b2 hbJ hlt1, keep_cell b3 hbJ hlt1, keep_cell b4 hbJ hlt1, keep_cell b5 hbJ hlt1⟩ (fun hHeld => ?_)
      clear hK K
      (try simp only [Act.put, List.setIfInBounds_toArray, List.set_cons_zero, List.set_cons_succ])
      have HJ := Lib.hid (HM.out.later hbJ)
      clear a0 a1 a2 a3 a4 a5 b0 b1 b2 b3 b4 b5 hHeld hbJ hbj hd kj HM hlt hlt0 hlt1
      obtain ⟨a0, a1, a2, a3, a4, a5⟩ := HJ.out.a
      have f4 := there_free HJ.out.ath 4 (by decide)
      have f2 := there_free HJ.out.ath 2 (by decide)
      have f3 := there_free HJ.out.ath 3 (by decide)
      refine heldS_last (i := 11) rfl (by kernel_rfl) (by kernel_rfl) (fun K hK => ?_)
      go_simp
      refine hK.out _ _ ?_
      clear hK K
      (try simp only [Act.put, List.setIfInBounds_toArray, List.set_cons_zero, List.set_cons_succ])
      refine heldS_last (i := 12) rfl (by kernel_rfl) (by kernel_rfl) (fun K hK => ?_)
      go_simp
      refine hK.out _ _ ?_
      clear hK K
      (try simp only [Act.put, List.setIfInBounds_toArray, List.set_cons_zero, List.set_cons_succ])
      refine heldS_last (i := 13) rfl (by kernel_rfl) (by kernel_rfl) (fun K hK => ?_)
      go_simp
      refine hK.out _ _ ?_
      clear hK K
      (try simp only [Act.put, List.setIfInBounds_toArray, List.set_cons_zero, List.set_cons_succ])
      refine wpAnyEnd_done (by kernel_rfl) ?_ _
      go_upto_region 4 with fail
      change Code.wp _ _ _ _ (((wj.setCells w.heap.size 4 [.int .i64 mf]).setCells w.heap.size 2 [.int .i64 j1]).setCells w.heap.size 3 [.int .u32 j2])
      have H4 := Lib.hid (((HJ.out.put4 mf).put2 j1).put3 j2)
      generalize ((wj.setCells w.heap.size 4 [.int .i64 mf]).setCells w.heap.size 2 [.int .i64 j1]).setCells w.heap.size 3 [.int .u32 j2] = w4 at *
      clear a0 a1 a2 a3 a4 a5 f2 f3 f4 HJ hmf
      obtain ⟨a0, a1, a2, a3, a4, a5⟩ := H4.out.a
      obtain ⟨b0, b1, b2, b3, b4, b5⟩ := H4.out.b
      have f5 := there_free H4.out.ath 5 (by decide)
      have TX : Hid (0 ≤ x.til ∧ x.til ≤ 1099511627776) := Lib.hid (by omega)
      have TY : Hid (0 ≤ y.til ∧ y.til ≤ 1099511627776) := Lib.hid (by omega)
      clear fx0 fx1 tx fy0 fy1 ty
      go_cut [] (fun wx => ∃ p, MSt w x y (.slice va x.fl.length vc) (.slice ua y.fl.length uc) j1 j2 mf p wx ∧ MTil x.til y.til p)
      case first =>
        go_wp2
        all_goals first
          | (have h1 : 1 < (if y.til < x.til then y.til else x.til) := by assumption
             have hk : MTil x.til y.til (wrap64 (max x.til y.til * 1)) := mtil_arith TX.out TY.out (.inr (.inr ⟨rfl, by split at h1 <;> omega, by split at h1 <;> omega⟩))
             rw [Int.mul_one] at hk
             go_meet
             exact ⟨_, H4.out.put5 _, hk⟩)
          | (have h2 : y.til < x.til := by assumption
             have h1 : (if y.til < x.til then y.til else x.til) ≤ 1 := by assumption
             rw [if_pos h2] at h1
             have hk : MTil x.til y.til (wrap64 (max x.til y.til * y.til)) := mtil_arith TX.out TY.out (.inl ⟨rfl, h2, h1⟩)
             go_meet
             exact ⟨_, H4.out.put5 _, hk⟩)
          | (have h2 : x.til ≤ y.til := by assumption
             have h1 : (if y.til < x.til then y.til else x.til) ≤ 1 := by assumption
             rw [if_neg (by omega)] at h1
             have hk : MTil x.til y.til (wrap64 (max x.til y.til * x.til)) := mtil_arith TX.out TY.out (.inr (.inl ⟨rfl, h2, h1⟩))
             go_meet
             exact ⟨_, H4.out.put5 _, hk⟩)
      case rest =>
        obtain ⟨p, hG, hp⟩ := hcut
        have H5 := Lib.hid hG
        clear a0 a1 a2 a3 a4 a5 b0 b1 b2 b3 b4 b5 f5 H4 hG TX TY
        obtain ⟨a0, a1, a2, a3, a4, a5⟩ := H5.out.a
        have b5 := H5.out.b.2.2.2.2.2
        have f5 := there_free H5.out.ath 5 (by decide)
        go_upto_if 48 with fail
        go_cut [] (fun wx => MSt w x y (.slice va x.fl.length vc) (.slice ua y.fl.length uc) j1 j2 mf (mTil x.til y.til) wx)
        case first =>
          rcases hp with ⟨h1, h2⟩ | ⟨h2, h3, h4⟩
          · have hpn : (p != 0) = false := by rw [h1]; rfl
            have HE : Hid (mTil x.til y.til = p) := Lib.hid (by omega)
            clear h1 h2
            go_wp2
            go_meet
            rw [HE.out]
            exact H5.out
          · have hpn : (p != 0) = true := by rw [bne_iff_ne]; omega
            have HE : Hid (mTil x.til y.til = p) := Lib.hid (by omega)
            have hmx : max p y.til = p := h3
            clear h2 h3 h4
            go_wp2
            go_meet
            rw [HE.out]
            exact H5.out.put5 _
        case rest =>
          have H6 := Lib.hid hcut
          clear a0 a1 a2 a3 a4 a5 b5 f5 H5 hcut hp
          obtain ⟨t, ht⟩ : ∃ t, mTil x.til y.til = t := ⟨_, rfl⟩
          rw [ht] at H6
          have HTT := Lib.hid ht
          have a1 := H6.out.a.2.1
          have f1 := there_free H6.out.ath 1 (by decide)
          have kc := KC'.out _ H6.out.below
          clear ht
          go_wp2_with fail
          refine kc.mono ?_
          rintro e w7 ⟨v7, rfl, hown, hb7⟩
          obtain ⟨xa, xc, rfl, _, _⟩ := RdAt.shape (RdAt.own hown)
          have H7 := Lib.hid (H6.out.later hb7)
          have HOW : Hid (∀ q, (Value.slice xa x.fl.length xc).ownBlock = some q → wc.heap.size ≤ q) := Lib.hid (fun q hq => (hown.lt q hq).1)
          have HF7 : Hid (FldsAt w7 (.slice xa x.fl.length xc) x.fl) := Lib.hid (RdAt.own hown)
          have HLT := Lib.hid H6.out.lt
          clear a1 f1 kc hown hb7 H6 KC'
          obtain ⟨a0, a1, a2, a3, a4, a5⟩ := H7.out.a
          have f1 := there_free H7.out.ath 1 (by decide)
          go_upto_region 8 with fail
          change Code.wp _ _ _ _ (w7.setCells w.heap.size 1 [.slice xa x.fl.length xc])
          have H8 := Lib.hid (H7.out.put1 (.slice xa x.fl.length xc))
          have HF8 : Hid (FldsAt (w7.setCells w.heap.size 1 [.slice xa x.fl.length xc]) (.slice xa x.fl.length xc) x.fl) := Lib.hid (rd_puts (g := w.heap.size) (o := 1) HF7.out (fun q hq => by have := HOW.out q hq; have := HLT.out; omega) [.slice xa x.fl.length xc])
          generalize w7.setCells w.heap.size 1 [.slice xa x.fl.length xc] = w8 at *
          have HF9 : Hid (FldsAt (w8.setCells (w.heap.size + 1 + 1) 0 [.string x.src, .slice xa x.fl.length xc, .int .i64 j1, .int .u32 j2, .int .i64 mf, .int .i64 t]) (.slice xa x.fl.length xc) x.fl) := Lib.hid (rd_puts (g := w.heap.size + 1 + 1) (o := 0) HF8.out (fun q hq => by have h1 := HOW.out q hq; have h2 := HLT.out; omega) [.string x.src, .slice xa x.fl.length xc, .int .i64 j1, .int .u32 j2, .int .i64 mf, .int .i64 t])
          clear a0 a1 a2 a3 a4 a5 f1 H7 HF7
          obtain ⟨a0, a1, a2, a3, a4, a5⟩ := H8.out.a
          have f0 := there_free H8.out.rth 0 (by decide)
          have f1 := there_free H8.out.rth 1 (by decide)
          have f2 := there_free H8.out.rth 2 (by decide)
          have f3 := there_free H8.out.rth 3 (by decide)
          have f4 := there_free H8.out.rth 4 (by decide)
          have f5 := there_free H8.out.rth 5 (by decide)
          obtain ⟨y0, hy0⟩ := there_cell H8.out.rth 0 (by decide)
          obtain ⟨y1, hy1⟩ := there_cell H8.out.rth 1 (by decide)
          obtain ⟨y2, hy2⟩ := there_cell H8.out.rth 2 (by decide)
          obtain ⟨y3, hy3⟩ := there_cell H8.out.rth 3 (by decide)
          obtain ⟨y4, hy4⟩ := there_cell H8.out.rth 4 (by decide)
          obtain ⟨y5, hy5⟩ := there_cell H8.out.rth 5 (by decide)
          go_wp2
          refine bodyPost_ret (results_agg2 rfl _ _ (w.heap.size + 1 + 1) [.string x.src, .slice xa x.fl.length xc, .int .i64 j1, .int .u32 j2, .int .i64 mf, .int .i64 t] (.struct _) rfl (World.rangeAt_setCells_same w8 (w.heap.size + 1 + 1) 0 [.string x.src, .slice xa x.fl.length xc, .int .i64 j1, .int .u32 j2, .int .i64 mf, .int .i64 t] H8.out.rth) Try.underlying36 rfl (by kernel_rfl)) rfl ?_
          have hbb := below_puts (g := w.heap.size + 1 + 1) (o := 0) H8.out.below (by omega) [.string x.src, .slice xa x.fl.length xc, .int .i64 j1, .int .u32 j2, .int .i64 mf, .int .i64 t]
          refine ⟨.slice xa x.fl.length xc, ?_, HF9.out, hbb⟩
          rw [HOK.out]
          unfold mergeR
          dsimp only
          rw [HR.out, HMF.out, HTT.out]
          rfl
end Go.Proofs.Ytipnhpfpppblhaa

/- lychgateref09.Right, Fires: contracts, the same as alert's. -/
namespace Go.Proofs.Ytipnhpfpppblhaa
open Go.RowKit
theorem al6r (W : World) (a b c d e f : Value) (t : TypeId) : C6 W.heap.size a b c d e f (W.alloc (.cells #[a, b, c, d, e, f] t)) := by
  have hc : ∀ (i : Nat), (W.alloc (.cells #[a, b, c, d, e, f] t)).cell? ⟨W.heap.size, i, none⟩ = _ := fun i => World.cell?_alloc_at _ _ _ _ rfl
  exact ⟨hc 0, hc 1, hc 2, hc 3, hc 4, hc 5⟩
set_option maxHeartbeats 3200000 in
set_option maxRecDepth 100000 in
theorem r9right_any (src : ByteArray) (fl : List Fld) (lv : Int) (c : Nat) (fr til : Int) (v : Value) (w : World) (hs : src.size ≤ maxLen) (hv : FldsAt w v fl) (hfit : FldsFit fl) (hl : fl.length ≤ maxLen) :
    Calls Try.prog 13 #[.agg #[.string src, v, .int .i64 lv, .int .u32 c, .int .i64 fr, .int .i64 til]] w fun e w' => e = .returned (.bool (whoA src fl lv && beginsA fr && endsA fr til)) ∧ Below w.heap.size w w' := by
  have k1 := refName.name_any src (w.alloc (.cells #[.string src, v, .int .i64 lv, .int .u32 c, .int .i64 fr, .int .i64 til] 38)) hs
  have hB0 := alloc_below w (.cells #[.string src, v, .int .i64 lv, .int .u32 c, .int .i64 fr, .int .i64 til] 38)
  have hz0 := World.size_alloc w (.cells #[.string src, v, .int .i64 lv, .int .u32 c, .int .i64 fr, .int .i64 til] 38)
  have x := al6r w (.string src) v (.int .i64 lv) (.int .u32 c) (.int .i64 fr) (.int .i64 til) 38
  have k2 := fun W (hb : Below w.heap.size w W) => rright6_any fl W v (hv.later hb) hfit hl
  have k3 := rright_any lv c
  obtain ⟨fa, fc, rfl, hfc, _⟩ := RdAt.shape hv
  obtain ⟨W0, hW0⟩ : ∃ z, w.alloc (.cells #[.string src, .slice fa fl.length fc, .int .i64 lv, .int .u32 c, .int .i64 fr, .int .i64 til] 38) = z := ⟨_, rfl⟩
  rw [hW0] at k1 hB0 hz0 x
  have K2 := Lib.hid k2
  have hl63 : fl.length ≤ 9223372036854775807 := by unfold maxLen at hl; omega
  have HX := Lib.hid x
  have HB := Lib.hid hB0
  obtain ⟨x0, x1, x2, x3, x4, x5⟩ := x
  clear hv hfit k2 hB0 hl
  go_enter Try.func13, Try.ntmps13
  go_upto_region 1 with fail
  try rw [hW0]
  clear hW0
  have hlt : w.heap.size < W0.heap.size := by omega
  clear hz0
  cases hn : nameL (B src)
  · have HW : Hid (whoA src fl lv = false) := by show _ = _; unfold whoA; rw [hn]; rfl
    rw [hn] at k1
    clear hn
    go_wp2_with fail
    refine k1.mono ?_
    rintro e w1 ⟨rfl, rfl⟩
    go_wp2
    go_ret
    exact ⟨by rw [HW.out]; rfl, HB.out⟩
  rw [hn] at k1
  by_cases h0 : 0 < fl.length
  case neg =>
    have HW : Hid (whoA src fl lv = false) := by show _ = _; unfold whoA; rw [decide_eq_false h0, Bool.and_false]; rfl
    obtain rfl : fl = [] := List.length_eq_zero_iff.1 (by omega)
    clear hn h0
    go_wp2_with fail
    refine k1.mono ?_
    rintro e w1 ⟨rfl, rfl⟩
    go_wp2
    go_ret
    exact ⟨by rw [HW.out]; rfl, HB.out⟩
  have h0' : (1 : Int) ≤ (fl.length : Int) := by omega
  have k2 := K2.out W0 HB.out
  cases hr : rightF fl
  · have HW : Hid (whoA src fl lv = false) := by show _ = _; unfold whoA; rw [hr, Bool.and_false]; rfl
    rw [hr] at k2
    clear hn hr
    go_wp2_with fail
    refine k1.mono ?_
    rintro e w1 ⟨rfl, rfl⟩
    go_wp2_with fail
    refine k2.mono ?_
    rintro e w2 ⟨rfl, hb2⟩
    have HB2 := Lib.hid (HB.out.trans (hb2.mono HB.out.size))
    clear hb2 k1 k2 x0 x1 x2 x3 x4 x5
    go_wp2
    go_ret
    exact ⟨by rw [HW.out]; rfl, HB2.out⟩
  have HW : Hid (whoA src fl lv = rightL lv) := by show _ = _; unfold whoA; rw [hn, hr, decide_eq_true h0]; rfl
  rw [hr] at k2
  clear hn hr
  go_wp2_with fail
  refine k1.mono ?_
  rintro e w1 ⟨rfl, rfl⟩
  go_wp2_with fail
  refine k2.mono ?_
  rintro e w2 ⟨rfl, hb2⟩
  have HB2 := Lib.hid (HB.out.trans (hb2.mono HB.out.size))
  have HX2 := Lib.hid (HX.out.later hb2 hlt)
  have hlt2 : w.heap.size < w2.heap.size := Nat.lt_of_lt_of_le hlt hb2.size
  clear hb2 k1 k2 K2 x0 x1 x2 x3 x4 x5 HB HX
  obtain ⟨x0, x1, x2, x3, x4, x5⟩ := HX2.out
  have k3 := k3 w2
  go_wp2_with fail
  refine k3.mono ?_
  rintro e w3 ⟨rfl, hb3⟩
  have HB3 := Lib.hid (HB2.out.trans (hb3.mono HB2.out.size))
  have HX3 := Lib.hid (HX2.out.later hb3 hlt2)
  clear k3 hb3 x0 x1 x2 x3 x4 x5 HB2 HX2 hlt hlt2
  cases hrl : rightL lv
  · rw [hrl] at HW
    clear hrl
    go_wp2
    go_ret
    exact ⟨by rw [HW.out]; rfl, HB3.out⟩
  rw [hrl] at HW
  clear hrl
  go_upto_region 3 with fail
  obtain ⟨x0, x1, x2, x3, x4, x5⟩ := HX3.out
  have HWH := HW
  clear HX3 HW h0 h0'
  by_cases h1 : 0 ≤ fr
  case neg =>
    have HW : Hid (beginsA fr = false) := by show _ = _; unfold beginsA; rw [decide_eq_false h1, Bool.false_and]
    have h1' : fr < 0 := by omega
    clear h1
    go_wp2
    go_ret
    exact ⟨by rw [HWH.out, HW.out]; rfl, HB3.out⟩
  by_cases h2 : fr ≤ 1099511627776
  case neg =>
    have HW : Hid (beginsA fr = false) := by show _ = _; unfold beginsA; rw [decide_eq_false h2, Bool.and_false]
    have h2' : (1099511627776 : Int) < fr := by omega
    clear h2
    go_wp2
    go_ret
    exact ⟨by rw [HWH.out, HW.out]; rfl, HB3.out⟩
  have HBG : Hid (beginsA fr = true) := by show _ = _; unfold beginsA; rw [decide_eq_true h1, decide_eq_true h2]; rfl
  by_cases h3 : til = 0
  · subst h3
    go_wp2
    go_ret
    exact ⟨by rw [HWH.out, HBG.out]; rfl, HB3.out⟩
  have hz : (til == 0) = false := by rw [beq_eq_false_iff_ne]; exact h3
  by_cases h4 : fr < til
  · by_cases h5 : til ≤ 1099511627776
    · have HW : Hid (endsA fr til = true) := by show _ = _; unfold endsA; rw [decide_eq_true h4, decide_eq_true h5]; simp
      clear h3
      go_wp2
      go_ret
      exact ⟨by rw [HWH.out, HBG.out, HW.out]; first | rfl | (simp; omega), HB3.out⟩
    · have HW : Hid (endsA fr til = false) := by show _ = _; unfold endsA; rw [decide_eq_false h3, decide_eq_false h5]; simp
      have h5' : (1099511627776 : Int) < til := by omega
      clear h3 h5
      go_wp2
      go_ret
      exact ⟨by rw [HWH.out, HBG.out, HW.out]; first | rfl | (simp; omega), HB3.out⟩
  · have HW : Hid (endsA fr til = false) := by show _ = _; unfold endsA; rw [decide_eq_false h3, decide_eq_false h4]; simp
    have h4' : til ≤ fr := by omega
    clear h3 h4
    go_wp2
    go_ret
    exact ⟨by rw [HWH.out, HBG.out, HW.out]; first | rfl | (simp; omega), HB3.out⟩
set_option maxHeartbeats 800000 in
theorem r9fires_any (src : ByteArray) (a : Option Addr) (n m : Nat) (lv : Int) (c : Nat) (fr til now : Int) (w : World) :
    Calls Try.prog 28 #[.agg #[.string src, .slice a n m, .int .i64 lv, .int .u32 c, .int .i64 fr, .int .i64 til], .int .i64 now] w fun e w' => e = .returned (.bool (decide (fr ≤ now) && (decide (til = 0) || decide (now < til)))) ∧ Below w.heap.size w w' := by
  by_cases h1 : fr ≤ now
  · by_cases h2 : til = 0
    · subst h2
      go_enter Try.func28, Try.ntmps28
      go_wp2
      go_ret
      exact ⟨by first | rfl | (simp; omega), (Below.refl _ _).alloc (Nat.le_refl _) _⟩
    · have hz : (til == 0) = false := by rw [beq_eq_false_iff_ne]; exact h2
      have hz2 := h2
      clear h2
      by_cases h3 : now < til
      · go_enter Try.func28, Try.ntmps28
        go_wp2
        go_ret
        exact ⟨by first | rfl | (simp; omega) | (simp [*]), (Below.refl _ _).alloc (Nat.le_refl _) _⟩
      · have h3' : til ≤ now := by omega
        go_enter Try.func28, Try.ntmps28
        go_wp2
        go_ret
        exact ⟨by first | rfl | (simp; omega) | (simp [*]), (Below.refl _ _).alloc (Nat.le_refl _) _⟩
  · have h1' : now < fr := by omega
    go_enter Try.func28, Try.ntmps28
    go_wp2
    go_ret
    exact ⟨by first | rfl | (simp; omega) | (simp [*]), (Below.refl _ _).alloc (Nat.le_refl _) _⟩
end Go.Proofs.Ytipnhpfpppblhaa

/- A row of bytes in a block of its own, nothing within its capacity frozen (what []byte(text) leaves too), and 'append' onto it. -/
namespace Go.Proofs.Ytipnhpfpppblhaa
open Go.RowKit
def OwnM (w : World) (base : Nat) (v : Value) (bs : List Int) : Prop :=
  ∃ g cap, v = .slice (some ⟨g, 0, none⟩) bs.length cap ∧ base ≤ g ∧ g < w.heap.size ∧ bs.length ≤ cap ∧ cap ≤ maxLen ∧
    (∀ j y, (bs.map V8)[j]? = some y → w.cell? ⟨g, j, none⟩ = some y) ∧ (∀ j, j < cap → (w.cell? ⟨g, j, none⟩).isSome = true ∧ w.frozen? ⟨g, j, none⟩ = false)
theorem OwnM.later {w w' : World} {base : Nat} {v : Value} {bs : List Int} (h : OwnM w base v bs) (hb : Below w.heap.size w w') : OwnM w' base v bs := by
  obtain ⟨g, cap, rfl, h1, h2, h3, h4, h5, h6⟩ := h
  refine ⟨g, cap, rfl, h1, Nat.lt_of_lt_of_le h2 hb.size, h3, h4, fun j y hj => ?_, fun j hj => ?_⟩
  · rw [hb.cell (p := ⟨g, j, none⟩) h2]; exact h5 j y hj
  · rw [hb.cell (p := ⟨g, j, none⟩) h2, World.frozen?_of_block (a := ⟨g, j, none⟩) (hb.block _ h2)]; exact h6 j hj
theorem OwnM.at {w : World} {base : Nat} {v : Value} {bs : List Int} (h : OwnM w base v bs) : ByAt w v bs := by
  obtain ⟨g, cap, rfl, h1, h2, h3, h4, h5, h6⟩ := h
  have h := RdAt.mk (w := w) (b := g) (o := 0) (n := bs.length) (c := cap) (k := 1) (xs := bs.map V8) (by simp) h3 h2 (fun j y hj => by rw [Nat.zero_add]; exact h5 j y hj)
  exact h
theorem OwnM.own {w : World} {base : Nat} {v : Value} {bs : List Int} (h : OwnM w base v bs) : ∀ p, v.ownBlock = some p → p < w.heap.size := by
  obtain ⟨g, cap, rfl, h1, h2, _⟩ := h
  intro p hp
  have : g = p := by simpa [Value.ownBlock] using hp
  rw [← this]; exact h2
theorem cv_ownM (w : World) (s : ByteArray) (hs : s.size ≤ 4000000) : OwnM (cvW w s) w.heap.size (.slice (some ⟨w.heap.size, 0, none⟩) s.size (cvC w s)) (byL s) := by
  refine ⟨w.heap.size, cvC w s, by rw [byL_len], Nat.le_refl _, by rw [cv_size]; omega, by rw [byL_len]; exact cv_cap w s, grownCap_le_maxLen w s.size 0 _ (by unfold maxLen; omega), fun j y hj => ?_, fun j hj => cv_free w s j hj⟩
  obtain ⟨h1, rfl⟩ := byL_at s j y hj
  exact Lib.bytesWorld_cell w 5 s j h1
theorem below_setCells {B g : Nat} {w0 : World} (hB : B ≤ g) : ∀ (vs : List Value) (o : Nat) (w : World), Below B w0 w → Below B w0 (w.setCells g o vs)
  | [], _, _, h => h
  | v :: vs, o, w, h => below_setCells hB vs (o + 1) _ (h.trans (below_setCell w g o v hB))
theorem byteCells_byL (s : ByteArray) : byteCells s = (byL s).map V8 := by
  unfold byteCells byL
  rw [List.map_map]
  rfl
theorem run_append_M {w : World} {base : Nat} {v : Value} {bs new : List Int} (hown : OwnM w base v bs) (tx : TypeId) (x : Value) (ty : TypeId) (i0 : TypeInfo)
    (hi : Try.prog.info? 5 = some i0) (hz0 : i0.zero = some (.int .u8 0)) (hz1 : i0.size = 1) (hz2 : i0.bytes = 1)
    (hs : Src Try.prog 1 tx x new.length (new.map V8) w) (hl : bs.length + new.length ≤ 8000000) (hbase : base ≤ w.heap.size) :
    ∃ v' w', (Builtin.append_ #[103, tx] ty #[v, x]).run Try.prog w = .ok v' w' ∧ OwnM w' base v' (bs ++ new) ∧ Below base w w' := by
  obtain ⟨g, cap, rfl, hbg, hg, hc, hcm, hcell, hfree⟩ := hown
  by_cases hroom : bs.length + new.length ≤ cap
  · have hr := run_append_room_src (P := Try.prog) (w := w) 103 tx ty 5 i0 Try.underlying103 hi g 0 bs.length cap x new.length (new.map V8) (by rw [hz1]; exact hs) hroom
      (fun j hj => by rw [List.length_map] at hj; rw [hz1, Nat.mul_one, Nat.zero_add]; exact (hfree _ (by omega)).1)
      (fun j hj => by rw [List.length_map] at hj; rw [hz1, Nat.mul_one, Nat.zero_add]; exact (hfree _ (by omega)).2)
    rw [hz1, Nat.mul_one, Nat.zero_add] at hr
    have hbw : Below base w (w.setCells g bs.length (new.map V8)) := below_setCells hbg _ _ _ (Below.refl _ _)
    refine ⟨_, _, hr, ⟨g, cap, by rw [List.length_append], hbg, Nat.lt_of_lt_of_le hg hbw.size, by rw [List.length_append]; exact hroom, hcm, fun j y hj => ?_, fun j hj => ?_⟩, hbw⟩
    · rw [List.map_append] at hj
      by_cases hjs : j < bs.length
      · rw [World.cell?_setCells_out _ _ _ _ _ (fun _ _ => .inl hjs)]
        rw [List.getElem?_append_left (by simpa using hjs)] at hj
        exact hcell j y hj
      · obtain ⟨k, rfl⟩ : ∃ k, j = bs.length + k := ⟨j - bs.length, by omega⟩
        rw [List.getElem?_append_right (by simp)] at hj
        simp only [List.length_map, Nat.add_sub_cancel_left] at hj
        obtain ⟨hk, rfl⟩ := List.getElem?_eq_some_iff.1 hj
        have hkn : k < new.length := by simpa using hk
        exact World.cell?_setCells_in g (new.map V8) bs.length w (fun i hi => (hfree _ (by rw [List.length_map] at hi; omega)).1) k hk
    · exact ⟨World.isSome_setCells _ _ _ _ _ (hfree j hj).1, by rw [World.frozen?_setCells]; exact (hfree j hj).2⟩
  · have hr := run_append_grow_src (P := Try.prog) w 103 tx ty 5 i0 (.int .u8 0) Try.underlying103 hi hz0 (some ⟨g, 0, none⟩) bs.length cap (bs.map V8)
      (by rw [hz1]; exact run_firstCells_some w.drew 1 bs.length ⟨g, 0, none⟩ bs.length cap (bs.map V8) (by simp) (by intro j y hj; have := hcell j y hj; rw [Addr.add_mid, Nat.zero_add]; simpa using this))
      x new.length (new.map V8) (by rw [hz1]; exact hs) (by omega) (by omega) (by rw [hz2]; exact growslice_fits (by omega) (by omega))
    have hge := grownCap_ge w (bs.length + new.length) cap 5
    have hcm2 : grownCap w (bs.length + new.length) cap 5 ≤ maxLen := grownCap_le_maxLen w _ cap _ (by unfold maxLen; omega)
    generalize grownCap w (bs.length + new.length) cap 5 = c2 at *
    obtain ⟨cur, hcur⟩ : ∃ z, ((bs.map V8 ++ new.map V8).toArray ++ Builtin.zeroCells (Value.int .u8 0).cells (c2 - (bs.length + new.length)) : Array Value) = z := ⟨_, rfl⟩
    have hcs : cur.size = c2 := by
      have hz1 : (Value.int IntKind.u8 0).cells.size = 1 := rfl
      rw [← hcur]
      simp only [Array.size_append, List.size_toArray, List.length_append, List.length_map, size_zeroCells, hz1]
      omega
    have hcj : ∀ j y, ((bs ++ new).map V8)[j]? = some y → cur[j]? = some y := fun j y hj => by
      rw [List.map_append] at hj
      have hjl := (List.getElem?_eq_some_iff.1 hj).1
      rw [← hcur, Array.getElem?_append_left (by simpa using hjl)]
      simpa using hj
    rw [hcur] at hr
    have hgn := heap_alloc_new w.drew (.cells cur 5)
    have hbw : Below base w (w.drew.alloc (.cells cur 5)) := ((Below.refl base w).drew).alloc (by simpa using hbase) _
    refine ⟨_, _, hr, ⟨w.heap.size, c2, by rw [List.length_append], hbase, by rw [World.size_alloc]; simp, by rw [List.length_append]; exact hge, hcm2, fun j y hj => ?_, fun j hj => ⟨?_, ?_⟩⟩, hbw⟩
    · rw [cell_of_row _ w.heap.size j cur _ _ hgn]; exact hcj j y hj
    · rw [cell_of_row _ w.heap.size j cur _ _ hgn, Array.getElem?_eq_getElem (by omega)]; rfl
    · have hgn' : (w.drew.alloc (.cells cur 5)).heap[w.heap.size]? = some (.cells cur 5 (0, 0)) := hgn
      unfold World.frozen?
      rw [hgn']
      simp
theorem wpList_append_M {w : World} {ops : Array Oper} {rest : List Oper} {o : Oper} {a : Act} {Q : Exit → Act → World → Prop} (hgd : o.guard = none) (s x : Operand) (tx : TypeId)
    (ho : o.op = .call { callee := .builtin .append, args := #[s, x], argTypes := #[103, tx] }) (i0 : TypeInfo)
    (hi : Try.prog.info? 5 = some i0) (hz0 : i0.zero = some (.int .u8 0)) (hz1 : i0.size = 1) (hz2 : i0.bytes = 1)
    (base : Nat) (v : Value) (bs : List Int) (hs : a.eval s = v) (hown : OwnM w base v bs) (u : Value) (new : List Int) (hx : a.eval x = u) (hu : Src Try.prog 1 tx u new.length (new.map V8) w)
    (hl : bs.length + new.length ≤ 8000000) (hbase : base ≤ w.heap.size)
    (h : ∀ v' w', OwnM w' base v' (bs ++ new) → Below base w w' → wpList Try.prog ops Q rest (a.put o.dst v') w') : wpList Try.prog ops Q (o :: rest) a w := by
  refine wpList_plain hgd fun K hK => ?_
  obtain ⟨v', w', hr, h2, h3⟩ := run_append_M hown tx u o.type i0 hi hz0 hz1 hz2 hu hl hbase
  unfold Oper.wp execOp
  simp only [ho, resolve, invoke, builtin, Sem.run_bind, Sem.run_pure, Result.andThen_ok, List.map_toArray, List.map_cons, List.map_nil, hs, hx, hr]
  exact hK _ _ (h v' w' h2 h3)
theorem src_str (w : World) (s : ByteArray) : Src Try.prog 1 9 (.string s) (byL s).length ((byL s).map V8) w := by
  rw [byL_len, ← byteCells_byL]
  exact Src.ofString w Try.underlying9 s
theorem src_one (w : World) (x : Int) : Src Try.prog 1 103 (.slice (some ⟨w.heap.size, 0, none⟩) 1 1) [x].length ([x].map V8) (w.alloc (.cells #[V8 x] 5)) :=
  Src.ofSlice _ Try.underlying103 ⟨w.heap.size, 0, none⟩ 1 1 [V8 x] rfl (fun j y hj => by
    have hj0 : j = 0 := by have := (List.getElem?_eq_some_iff.1 hj).1; simpa using this
    subst hj0
    have : V8 x = y := by simpa using hj
    subst this
    rw [Addr.add_mid, Nat.zero_add]
    exact World.cell?_alloc_at _ _ _ _ rfl) (by simp [Value.oneCell'])
end Go.Proofs.Ytipnhpfpppblhaa

/- The reference's SHA-256, plainly: what it reckons is what digest reckons. No program in sight. -/
namespace Go.Proofs.Ytipnhpfpppblhaa
open Go.RowKit
theorem bits_or_u32_nat (a b : Nat) (ha : a < 4294967296) (hb : b < 4294967296) : bits .or .u32 (a : Int) (b : Int) = ((a ||| b : Nat) : Int) := by
  have hx : a ||| b < 2 ^ 32 := Nat.or_lt_two_pow (by omega) (by omega)
  have h1 : (BitVec.ofInt 32 (a : Int)).toNat = a := by
    rw [BitVec.ofInt_natCast, BitVec.toNat_ofNat]; exact Nat.mod_eq_of_lt (by omega)
  have h2 : (BitVec.ofInt 32 (b : Int)).toNat = b := by
    rw [BitVec.ofInt_natCast, BitVec.toNat_ofNat]; exact Nat.mod_eq_of_lt (by omega)
  show IntKind.u32.wrap ((BitVec.ofInt 32 (a : Int) ||| BitVec.ofInt 32 (b : Int)).toNat : Int) = _
  rw [BitVec.toNat_or, h1, h2, IntKind.wrap_u32]
  omega
theorem bits_xor_u32_nat (a b : Nat) (ha : a < 4294967296) (hb : b < 4294967296) : bits .xor .u32 (a : Int) (b : Int) = ((a ^^^ b : Nat) : Int) := by
  have hx : a ^^^ b < 2 ^ 32 := Nat.xor_lt_two_pow (by omega) (by omega)
  have h1 : (BitVec.ofInt 32 (a : Int)).toNat = a := by
    rw [BitVec.ofInt_natCast, BitVec.toNat_ofNat]; exact Nat.mod_eq_of_lt (by omega)
  have h2 : (BitVec.ofInt 32 (b : Int)).toNat = b := by
    rw [BitVec.ofInt_natCast, BitVec.toNat_ofNat]; exact Nat.mod_eq_of_lt (by omega)
  show IntKind.u32.wrap ((BitVec.ofInt 32 (a : Int) ^^^ BitVec.ofInt 32 (b : Int)).toNat : Int) = _
  rw [BitVec.toNat_xor, h1, h2, IntKind.wrap_u32]
  omega
theorem or_sum (k a b : Nat) (hb : b < 2 ^ k) (h : 2 ^ k * a + b < 4294967296) : bits .or .u32 ((2 ^ k * a : Nat) : Int) (b : Int) = ((2 ^ k * a + b : Nat) : Int) := by
  rw [bits_or_u32_nat _ _ (by omega) (by omega), Nat.two_pow_add_eq_or_of_lt hb]
def turnN : Nat → Nat → Nat
  | 0, x => x
  | n + 1, x => turnN n x / 2 + turnN n x % 2 * 2147483648
theorem turnN_eq (x : Nat) : ∀ k, k ≤ 32 → turnN k x = x / 2 ^ k + x % 2 ^ k * 2 ^ (32 - k) := by
  intro k
  induction k with
  | zero => intro _; simp [turnN, Nat.mod_one]
  | succ k ih =>
    intro hk
    have hq : 2 ^ (k + 1) = 2 ^ k * 2 := Nat.pow_succ 2 k
    have e : 2 ^ (32 - k) = 2 * 2 ^ (32 - (k + 1)) := by rw [show 32 - k = (32 - (k + 1)) + 1 by omega, Nat.pow_succ, Nat.mul_comm]
    have e2 : 2 ^ k * 2 ^ (32 - (k + 1)) = 2147483648 := by rw [← Nat.pow_add, show k + (32 - (k + 1)) = 31 by omega]
    rw [turnN, ih (by omega), hq, ← Nat.div_div_eq_div_mul, Nat.mod_mul, e]
    generalize 2 ^ (32 - (k + 1)) = p at *
    generalize 2 ^ k = q at *
    have h1 : x % q * (2 * p) = 2 * (x % q * p) := by ac_rfl
    have h2 : (x % q + q * (x / q % 2)) * p = x % q * p + (x / q % 2) * 2147483648 := by rw [Nat.add_mul, ← e2]; ac_rfl
    rw [h1, h2]
    generalize x % q * p = y
    generalize x / q = z
    omega
theorem turnN_lt {x k : Nat} (hx : x < 4294967296) : turnN k x < 4294967296 := by
  induction k with
  | zero => exact hx
  | succ k ih => rw [turnN]; omega
theorem turnN_rot (x k : Nat) (h0 : 0 < k) (hk : k < 32) (hx : x < 4294967296) : ((turnN k x : Nat) : Int) = rotW (x : Int) (32 - k) := by
  unfold rotW
  rw [show 32 - (32 - k) = k by omega]
  have hp : 0 < 2 ^ k := Nat.two_pow_pos k
  have e : 2 ^ k * 2 ^ (32 - k) = 4294967296 := by rw [← Nat.pow_add, show k + (32 - k) = 32 by omega]
  have hq : 0 < 2 ^ (32 - k) := Nat.two_pow_pos _
  have h1 : x * 2 ^ (32 - k) % 4294967296 = 2 ^ (32 - k) * (x % 2 ^ k) := by
    rw [← e, Nat.mul_mod_mul_right, Nat.mul_comm]
  have h2 : x / 2 ^ k < 2 ^ (32 - k) := by rw [Nat.div_lt_iff_lt_mul hp, Nat.mul_comm, e]; exact hx
  have h3 : x % 2 ^ k < 2 ^ k := Nat.mod_lt _ hp
  have h4 : 2 ^ (32 - k) * (x % 2 ^ k) + x / 2 ^ k < 4294967296 := by
    have : 2 ^ (32 - k) * (x % 2 ^ k + 1) ≤ 2 ^ (32 - k) * 2 ^ k := Nat.mul_le_mul_left _ h3
    rw [Nat.mul_comm (2 ^ (32 - k)) (2 ^ k), e, Nat.mul_add] at this
    omega
  have h5 := or_sum (32 - k) (x % 2 ^ k) (x / 2 ^ k) h2 h4
  have c1 : (x : Int) * 2 ^ (32 - k) % 4294967296 = ((2 ^ (32 - k) * (x % 2 ^ k) : Nat) : Int) := by rw [← h1, Int.natCast_emod, Int.natCast_mul, Int.natCast_pow]; rfl
  have c2 : (x : Int) / 2 ^ k = ((x / 2 ^ k : Nat) : Int) := by rw [Int.natCast_ediv, Int.natCast_pow]; rfl
  rw [c1, c2, h5, turnN_eq x k (by omega)]
  rw [Nat.mul_comm (x % 2 ^ k), Nat.add_comm]
def W32 (x : Int) : Prop := 0 ≤ x ∧ x < 4294967296
theorem W32.nat {x : Int} (h : W32 x) : ∃ n : Nat, x = n ∧ n < 4294967296 := ⟨x.toNat, by have := h.1; omega, by have := h.2; have := h.1; omega⟩
theorem w32_mod (x : Int) : W32 (x % 4294967296) := ⟨by omega, by omega⟩
theorem not_word {x : Int} (h : W32 x) : bits BinOp.xor .u32 4294967295 x = 4294967295 - x := by
  obtain ⟨n, rfl, hn⟩ := h.nat
  have := bits_xor_u32_nat 4294967295 n (by omega) hn
  have e : 4294967295 ^^^ n = 4294967295 - n := by
    have h : (BitVec.allOnes 32 ^^^ BitVec.ofNat 32 n).toNat = (~~~ (BitVec.ofNat 32 n)).toNat := by rw [BitVec.allOnes_xor]
    rw [BitVec.toNat_xor, BitVec.toNat_not, BitVec.toNat_allOnes, BitVec.toNat_ofNat, Nat.mod_eq_of_lt (by omega)] at h
    exact h
  rw [e] at this
  rw [show ((4294967295 : Int)) = ((4294967295 : Nat) : Int) by rfl, this]
  omega
theorem word4_eq {a b c d : Int} (ha : 0 ≤ a ∧ a < 256) (hb : 0 ≤ b ∧ b < 256) (hc : 0 ≤ c ∧ c < 256) (hd : 0 ≤ d ∧ d < 256) : word4 a b c d = ((a * 256 + b) * 256 + c) * 256 + d := by
  obtain ⟨a, rfl⟩ := Int.eq_ofNat_of_zero_le ha.1
  obtain ⟨b, rfl⟩ := Int.eq_ofNat_of_zero_le hb.1
  obtain ⟨c, rfl⟩ := Int.eq_ofNat_of_zero_le hc.1
  obtain ⟨d, rfl⟩ := Int.eq_ofNat_of_zero_le hd.1
  unfold word4
  have h1 : (a : Int) * 16777216 % 4294967296 = ((2 ^ 24 * a : Nat) : Int) := by omega
  have h2 : (b : Int) * 65536 % 4294967296 = ((2 ^ 16 * b : Nat) : Int) := by omega
  have h3 : (c : Int) * 256 % 4294967296 = ((2 ^ 8 * c : Nat) : Int) := by omega
  have g1 := or_sum 24 a (2 ^ 16 * b) (by omega) (by omega)
  have g2 := or_sum 16 (2 ^ 8 * a + b) (2 ^ 8 * c) (by omega) (by omega)
  have g3 := or_sum 8 (2 ^ 16 * a + 2 ^ 8 * b + c) d (by omega) (by omega)
  rw [h1, h2, h3, g1, show 2 ^ 24 * a + 2 ^ 16 * b = 2 ^ 16 * (2 ^ 8 * a + b) by omega, g2, show 2 ^ 16 * (2 ^ 8 * a + b) + 2 ^ 8 * c = 2 ^ 8 * (2 ^ 16 * a + 2 ^ 8 * b + c) by omega, g3]
  omega
theorem blocks_app (V A B : List Int) (k : Nat) (hA : A.length = 64 * k) : ∀ m, blocksL (blocksL V A k) B m = blocksL V (A ++ B) (k + m) := by
  have h0 : ∀ j, j ≤ k → blocksL V (A ++ B) j = blocksL V A j := by
    intro j
    induction j with
    | zero => intro _; rfl
    | succ j ih =>
      intro hj
      rw [blocksL, blocksL, ih (by omega)]
      congr 1
      rw [List.drop_append_of_le_length (by omega), List.take_append_of_le_length (by rw [List.length_drop]; omega)]
  intro m
  induction m with
  | zero => exact (h0 k (Nat.le_refl _)).symm
  | succ m ih =>
    rw [blocksL, ih, show k + (m + 1) = (k + m) + 1 by omega, blocksL]
    congr 1
    rw [show 64 * (k + m) = A.length + 64 * m by omega, List.drop_append, (show A.drop (A.length + 64 * m) = [] from List.drop_eq_nil_of_le (by omega)), List.nil_append, show A.length + 64 * m - A.length = 64 * m by omega]
def wholeL (bs : List Int) : List Int := bs ++ [128] ++ List.replicate (padN (bs.length % 64)) 0 ++ lenL (IntKind.u64.wrap (IntKind.u64.wrap bs.length * 8)) 8
theorem lenL_len (N : Int) (k : Nat) : (lenL N k).length = k := by simp [lenL]
theorem padN_sum (n : Nat) (h : n < 64) : n + 1 + padN n + 8 = 64 ∨ n + 1 + padN n + 8 = 128 := by unfold padN; split <;> omega
theorem wholeL_len (bs : List Int) : 64 ∣ (wholeL bs).length := by
  have h := padN_sum (bs.length % 64) (Nat.mod_lt _ (by omega))
  unfold wholeL
  simp only [List.length_append, List.length_replicate, lenL_len, List.length_singleton]
  omega
theorem of_whole (bs : List Int) : ofL bs = outL (blocksL startL (wholeL bs) ((wholeL bs).length / 64)) 32 := by
  have hd : (bs.drop (64 * (bs.length / 64))).length = bs.length % 64 := by rw [List.length_drop]; omega
  have ht : (bs.take (64 * (bs.length / 64))).length = 64 * (bs.length / 64) := by rw [List.length_take]; omega
  unfold ofL sumOut
  congr 1
  rw [hd]
  have hb : blocksL startL bs (bs.length / 64) = blocksL startL (bs.take (64 * (bs.length / 64))) (bs.length / 64) := by
    have := blocks_app startL (bs.take (64 * (bs.length / 64))) (bs.drop (64 * (bs.length / 64))) (bs.length / 64) ht 0
    rw [List.take_append_drop] at this
    exact this.symm
  rw [hb, blocks_app _ _ _ _ ht]
  have e : bs.take (64 * (bs.length / 64)) ++ padL (bs.drop (64 * (bs.length / 64))) (padN (bs.length % 64)) bs.length = wholeL bs := by
    unfold padL wholeL
    simp only [← List.append_assoc, List.take_append_drop]
  have hl : (wholeL bs).length = 64 * (bs.length / 64) + (padL (bs.drop (64 * (bs.length / 64))) (padN (bs.length % 64)) bs.length).length := by
    rw [← e, List.length_append, ht]
  rw [e, hl]
  congr 1
  omega
end Go.Proofs.Ytipnhpfpppblhaa

/- lychgateref02.turn, start, keys: contracts. -/
namespace Go.Proofs.Ytipnhpfpppblhaa
open Go.RowKit
set_option maxHeartbeats 800000 in
theorem rturn_any (x n : Nat) (w : World) (hx : x < 4294967296) (hn : n ≤ 32) :
    Calls Try.prog 85 #[.int .u32 (x : Int), .int .i64 (n : Int)] w fun e w' => e = .returned (.int .u32 ((turnN n x : Nat) : Int)) ∧ w = w' := by
  go_enter Try.func85, Try.ntmps85
  go_wp2
  go_loop [0, 5] (fun vx vi => ∃ k : Nat, k ≤ n ∧ vi = .int .i64 k ∧ vx = .int .u32 ((turnN k x : Nat) : Int)) (fun _ vi => n - (intOf vi).toNat)
  case atStart => exact ⟨0, Nat.zero_le _, rfl, rfl⟩
  case round =>
    obtain ⟨k, hk, rfl, rfl⟩ := hrel
    have hlt := turnN_lt (k := k) hx
    have HS : Hid (turnN (k + 1) x = turnN k x / 2 + turnN k x % 2 * 2147483648) := Lib.hid rfl
    by_cases hkn : k < n
    · generalize turnN k x = y at *
      have h0 : (0 : Int) ≤ (y : Int) := by omega
      have h1 : (y : Int) < 4294967296 := by omega
      have hy : IntKind.u32.wrap ((y : Int) / 2 + (y : Int) % 2 * 2147483648) = (y : Int) / 2 + (y : Int) % 2 * 2147483648 := by rw [IntKind.wrap_u32']; omega
      have hz : IntKind.u32.wrap ((y : Int) % 2 * 2147483648) = (y : Int) % 2 * 2147483648 := by rw [IntKind.wrap_u32']; omega
      go_wp2
      go_round
      case rel => exact ⟨k + 1, by omega, by go_num, by rw [HS.out]; first | rfl | (congr 1; omega)⟩
      case measure => (simp [intOf]; try omega)
    · obtain rfl : k = n := by omega
      go_wp2
      go_ret
      exact ⟨rfl, rfl⟩
set_option maxHeartbeats 1600000 in
set_option maxRecDepth 100000 in
theorem rstart_any (w : World) : Calls Try.prog 71 #[] w fun e w' => e = .returned (.agg startV) ∧ Below w.heap.size w w' := by
  go_enter Try.func71, Try.ntmps71
  go_wp2
  refine bodyPost_ret (results_cell_row rfl _ _ w.heap.size 121 startV (0, 0) (.array 8 32) rfl (heap_alloc_new _ _) Try.underlying121 rfl (by kernel_rfl)) rfl ?_
  exact ⟨rfl, (Below.refl _ _).alloc (Nat.le_refl _) _⟩
set_option maxHeartbeats 1600000 in
set_option maxRecDepth 100000 in
theorem rkeys_any (w : World) : Calls Try.prog 72 #[] w fun e w' => e = .returned (.agg keysV) ∧ Below w.heap.size w w' := by
  go_enter Try.func72, Try.ntmps72
  go_upto_region 1 with fail
  have h1 : ∃ z : Array Value, z.size = 64 ∧ (w.alloc (.cells (Array.replicate 64 (V32 0)) 123)).heap[w.heap.size]? = some (.cells z 123 (0, 0)) := ⟨_, by simp, heap_alloc_new _ _⟩
  have hb := (Below.refl w.heap.size w).alloc (Nat.le_refl _) (.cells (Array.replicate 64 (V32 0)) 123)
  change Code.wp _ _ _ _ (w.alloc (.cells (Array.replicate 64 (V32 0)) 123))
  generalize w.alloc (.cells (Array.replicate 64 (V32 0)) 123) = w0 at *
  obtain ⟨z, hz, hg⟩ := h1
  apply wp_region_lit
  refine wpList_build rfl 123 _ rfl (by kernel_rfl) ?_
  refine wpList_store_row rfl 123 (.tmp 0) (.tmp 1) rfl w.heap.size keysV rfl (by kernel_rfl) 123 z hg (by kernel_rfl) hz (by kernel_rfl) ?_
  have hg2 := setRow_heap w0 w.heap.size z keysV _ _ hg
  have hb2 : Below w.heap.size w (w0.setRow w.heap.size keysV) := below_setRow hb (Nat.le_refl _) _
  generalize w0.setRow w.heap.size keysV = w1 at *
  generalize (Try.prog.built 123 _).getD #[] = X
  simp only [Act.put, List.setIfInBounds_toArray, List.set_cons_zero, List.set_cons_succ]
  show Exit.then _ _ Exit.normal _ _
  simp only [Exit.then]
  refine (by assumption : ∀ (a : Act) (w : World), Code.wp _ Code.ret _ a w → _) _ _ ?_
  go_wp2
  refine bodyPost_ret (results_cell_row rfl _ _ w.heap.size 123 keysV (0, 0) (.array 64 32) rfl hg2 Try.underlying123 rfl (by kernel_rfl)) rfl ?_
  exact ⟨rfl, hb2⟩
end Go.Proofs.Ytipnhpfpppblhaa

/- lychgateref02.round: a contract: what it hands back is what digest's own round leaves. -/
namespace Go.Proofs.Ytipnhpfpppblhaa
open Go.RowKit
def VR (w : World) (g : Nat) (L : List Int) (t : TypeId) : Prop := w.heap[g]? = some (.cells (L.map V32).toArray t (0, 0))
theorem VR.lt {w : World} {g : Nat} {L : List Int} {t : TypeId} (h : VR w g L t) : g < w.heap.size := (Array.getElem?_eq_some_iff.1 h).1
theorem VR.later {w w' : World} {g : Nat} {L : List Int} {t : TypeId} (h : VR w g L t) (hb : Below w.heap.size w w') : VR w' g L t := by
  unfold VR; rw [hb.block g h.lt]; exact h
theorem VR.cell {w : World} {g : Nat} {L : List Int} {t : TypeId} (h : VR w g L t) {j : Nat} {x : Int} (hj : L[j]? = some x) : w.cell? ⟨g, j, none⟩ = some (V32 x) := by
  rw [cell_row h, List.getElem?_toArray, List.getElem?_map, hj]; rfl
theorem VR.free {w : World} {g : Nat} {L : List Int} {t : TypeId} (h : VR w g L t) (j : Nat) : w.frozen? ⟨g, j, none⟩ = false := by simp [World.frozen?, show w.heap[g]? = _ from h]
theorem VR.put {w : World} {g : Nat} {L : List Int} {t : TypeId} (h : VR w g L t) (j : Nat) (x : Int) : VR (w.setCell ⟨g, j, none⟩ (V32 x)) g (L.set j x) t := by
  unfold VR; rw [heap_setCell_same w g j _ _ _ h, List.setIfInBounds_toArray, List.map_set]
theorem VR.else_ {w : World} {g g' : Nat} {L : List Int} {t : TypeId} (h : VR w g L t) (hne : g ≠ g') (j : Nat) (v : Value) : VR (w.setCell ⟨g', j, none⟩ v) g L t := by
  unfold VR; rw [heap_else _ _ _ _ _ hne]; exact h
def pW (bs : List Int) (i : Nat) : Nat → Int
  | 0 => 0
  | j + 1 => pW bs i j * 256 + bs.getD (4 * i + j) 0
theorem pW_bd {bs : List Int} (hB : ∀ x ∈ bs, 0 ≤ x ∧ x < 256) (i : Nat) : ∀ j, 0 ≤ pW bs i j ∧ pW bs i j < 256 ^ j := by
  have hd : ∀ k, 0 ≤ bs.getD k 0 ∧ bs.getD k 0 < 256 := fun k => by
    rw [List.getD_eq_getElem?_getD]
    cases h : bs[k]? with
    | none => simp
    | some x => exact hB x (List.mem_of_getElem? h)
  intro j
  induction j with
  | zero => simp [pW]
  | succ j ih =>
    have := hd (4 * i + j)
    rw [pW, Int.pow_succ]
    omega
theorem pW_four {bs : List Int} (hB : ∀ x ∈ bs, 0 ≤ x ∧ x < 256) (i : Nat) : pW bs i 4 = wordAt bs i := by
  have hd : ∀ k, 0 ≤ bs.getD k 0 ∧ bs.getD k 0 < 256 := fun k => by
    rw [List.getD_eq_getElem?_getD]
    cases h : bs[k]? with
    | none => simp
    | some x => exact hB x (List.mem_of_getElem? h)
  unfold wordAt
  rw [word4_eq (hd _) (hd _) (hd _) (hd _)]
  simp only [pW, Nat.add_zero]
  omega
def rowW (S : List Int) (x : Int) : List Int := S ++ x :: List.replicate (63 - S.length) 0
theorem rowW_at {S : List Int} {x : Int} : (rowW S x)[S.length]? = some x := by
  unfold rowW
  rw [List.getElem?_append_right (Nat.le_refl _), Nat.sub_self]; rfl
theorem rowW_set {S : List Int} {x y : Int} : (rowW S x).set S.length y = rowW S y := by
  unfold rowW
  rw [List.set_append_right _ _ (Nat.le_refl _), Nat.sub_self]; rfl
def rowS (S : List Int) : List Int := S ++ List.replicate (64 - S.length) 0
theorem rowS_W {S : List Int} (h : S.length < 64) : rowS S = rowW S 0 := by
  unfold rowS rowW
  rw [show 64 - S.length = (63 - S.length) + 1 by omega, List.replicate_succ]
theorem rowS_next {S : List Int} {x : Int} (h : S.length < 64) : (rowS S).set S.length x = rowS (S ++ [x]) := by
  rw [rowS_W h, rowW_set]
  unfold rowW rowS
  rw [List.append_assoc, List.length_append, List.length_singleton, show 64 - (S.length + 1) = 63 - S.length by omega]
  rfl
theorem rowS_at {S : List Int} {j : Nat} (h : j < S.length) : (rowS S)[j]? = some (S.getD j 0) := by
  unfold rowS
  rw [List.getElem?_append_left h, List.getD_eq_getElem?_getD, List.getElem?_eq_getElem h]; rfl
theorem xor_word {a b : Int} (ha : W32 a) (hb : W32 b) : W32 (bits .xor .u32 a b) := by
  obtain ⟨n, rfl, hn⟩ := ha.nat
  obtain ⟨m, rfl, hm⟩ := hb.nat
  rw [bits_xor_u32_nat _ _ hn hm]
  have : n ^^^ m < 2 ^ 32 := Nat.xor_lt_two_pow (by omega) (by omega)
  exact ⟨by omega, by omega⟩
theorem rot_word {x : Int} (h : W32 x) {k : Nat} (h0 : 0 < k) (hk : k < 32) : W32 (rotW x (32 - k)) := by
  obtain ⟨n, rfl, hn⟩ := h.nat
  rw [← turnN_rot n k h0 hk hn]
  have := turnN_lt (k := k) hn
  exact ⟨by omega, by omega⟩
theorem mix_word (a b c sh : Nat) {x : Int} (h : W32 x) (ha : 0 < a ∧ a < 32) (hb : 0 < b ∧ b < 32) (hc : sh = 0 → 0 < c ∧ c < 32) : W32 (mixW a b c sh x) := by
  unfold mixW
  refine xor_word (xor_word (rot_word h ha.1 ha.2) (rot_word h hb.1 hb.2)) ?_
  split
  · rename_i hs
    obtain ⟨n, rfl, hn⟩ := h.nat
    rw [show ((n : Int) / 2 ^ sh) = ((n / 2 ^ sh : Nat) : Int) by rw [Int.natCast_ediv, Int.natCast_pow]; rfl]
    have : n / 2 ^ sh ≤ n := Nat.div_le_self _ _
    generalize n / 2 ^ sh = z at *
    exact ⟨by omega, by omega⟩
  · rename_i hs
    have := hc (by omega)
    exact rot_word h this.1 this.2
theorem turn_any (x : Int) (n : Nat) (w : World) (hx : W32 x) (h0 : 0 < n) (hn : n < 32) :
    Calls Try.prog 85 #[.int .u32 x, .int .i64 (n : Int)] w fun e w' => e = .returned (.int .u32 (rotW x (32 - n))) ∧ w' = w := by
  obtain ⟨m, rfl, hm⟩ := hx.nat
  rw [← turnN_rot m n h0 hn hm]
  exact (rturn_any m n w hm (by omega)).mono fun e w' ⟨h1, h2⟩ => ⟨h1, h2.symm⟩
theorem there_cell8 {w : World} {g n : Nat} (h : w.there g 0 n) (j : Nat) (hj : j < n) : ∃ v, w.cell? ⟨g, j, none⟩ = some v := by
  have := (h j hj).1
  rw [Nat.zero_add] at this
  exact Option.isSome_iff_exists.1 this
structure RSt (w W : World) (V L : List Int) : Prop where
  h : VR W w.heap.size V 121
  k : W.heap[w.heap.size + 1]? = some (.cells keysV 123 (0, 0))
  r : W.there (w.heap.size + 1 + 1) 0 8
  m : VR W (w.heap.size + 1 + 1 + 1) L 123
  b : Below w.heap.size w W
theorem RSt.later {w W W' : World} {V L : List Int} (h : RSt w W V L) (hb : Below W.heap.size W W') : RSt w W' V L :=
  ⟨h.h.later hb, by rw [hb.block _ (Array.getElem?_eq_some_iff.1 h.k).1]; exact h.k, there_later h.r hb (by have := h.m.lt; omega), h.m.later hb, h.b.trans (hb.mono h.b.size)⟩
theorem there_put {w : World} {g g' : Nat} {n : Nat} (h : w.there g 0 n) (hne : g ≠ g') (j : Nat) (v : Value) : (w.setCell ⟨g', j, none⟩ v).there g 0 n := fun i hi => by
  obtain ⟨h1, h2⟩ := h i hi
  have hk := heap_else w g' j g v hne
  exact ⟨by rw [World.cell?_of_block (a := ⟨g, 0 + i, none⟩) hk]; exact h1, by rw [World.frozen?_of_block (a := ⟨g, 0 + i, none⟩) hk]; exact h2⟩
theorem RSt.put {w W : World} {V L : List Int} (h : RSt w W V L) (j : Nat) (x : Int) : RSt w (W.setCell ⟨w.heap.size + 1 + 1 + 1, j, none⟩ (V32 x)) V (L.set j x) :=
  ⟨h.h.else_ (by omega) _ _, by rw [heap_else _ _ _ _ _ (by omega)]; exact h.k, there_put h.r (by omega) _ _, h.m.put j x, h.b.trans (below_setCell W _ _ _ (by omega))⟩
theorem RSt.else_ {w W : World} {V L : List Int} (h : RSt w W V L) {g : Nat} (hg : w.heap.size + 1 + 1 + 1 < g) (j : Nat) (v : Value) : RSt w (W.setCell ⟨g, j, none⟩ v) V L :=
  ⟨h.h.else_ (by omega) _ _, by rw [heap_else _ _ _ _ _ (by omega)]; exact h.k, there_put h.r (by omega) _ _, h.m.else_ (by omega) _ _, h.b.trans (below_setCell W _ _ _ (by omega))⟩
theorem word4_word {a b c d : Int} (ha : 0 ≤ a ∧ a < 256) (hb : 0 ≤ b ∧ b < 256) (hc : 0 ≤ c ∧ c < 256) (hd : 0 ≤ d ∧ d < 256) : W32 (word4 a b c d) := by
  rw [word4_eq ha hb hc hd]; exact ⟨by omega, by omega⟩
theorem sched0_word {bs : List Int} (hB : ∀ x ∈ bs, 0 ≤ x ∧ x < 256) : ∀ x ∈ schedL bs 0, W32 x := by
  have hd : ∀ k, 0 ≤ bs.getD k 0 ∧ bs.getD k 0 < 256 := fun k => by
    rw [List.getD_eq_getElem?_getD]
    cases h : bs[k]? with
    | none => simp
    | some x => exact hB x (List.mem_of_getElem? h)
  intro x hx
  obtain ⟨i, _, rfl⟩ := List.mem_map.1 (show x ∈ (List.range 16).map (wordAt bs) from hx)
  exact word4_word (hd _) (hd _) (hd _) (hd _)
set_option maxHeartbeats 6400000 in
set_option maxRecDepth 100000 in
theorem rround_any (bs : List Int) (v0 v1 v2 v3 v4 v5 v6 v7 : Int) (a : Addr) (c : Nat) (w : World) (hb : bs.length = 64) (hB : Bytes8 w a bs) (hV : ∀ x ∈ [v0, v1, v2, v3, v4, v5, v6, v7], W32 x) :
    Calls Try.prog 73 #[.agg #[V32 v0, V32 v1, V32 v2, V32 v3, V32 v4, V32 v5, V32 v6, V32 v7], .agg keysV, .slice (some a) 64 c] w fun e w' => e = .returned (.agg ((blockL bs [v0, v1, v2, v3, v4, v5, v6, v7]).map V32).toArray) ∧ Below w.heap.size w w' := by
  obtain ⟨b, o, rfl, hlt, hcell⟩ := hB
  have HC := Lib.hid hcell
  have hBy : ∀ x ∈ bs, 0 ≤ x ∧ x < 256 := fun x hx => by
    obtain ⟨j, hj, rfl⟩ := List.getElem_of_mem hx
    exact (hcell j hj).2
  have HBY := Lib.hid hBy
  have HV := Lib.hid hV
  clear hcell hBy hV
  go_enter Try.func73, Try.ntmps73
  go_upto_region 2 with fail
  obtain ⟨V, hVd⟩ : ∃ V, [v0, v1, v2, v3, v4, v5, v6, v7] = V := ⟨_, rfl⟩
  have hst : RSt w ((((w.alloc (.cells #[V32 v0, V32 v1, V32 v2, V32 v3, V32 v4, V32 v5, V32 v6, V32 v7] 121)).alloc (.cells keysV 123)).alloc (.cells ((List.replicate 8 (0 : Int)).map V32).toArray 121)).alloc (.cells ((rowS []).map V32).toArray 123)) V (rowS []) := by
    generalize hm : ((rowS []).map V32).toArray = zm
    obtain ⟨Wa, ha⟩ : ∃ z, w.alloc (.cells #[V32 v0, V32 v1, V32 v2, V32 v3, V32 v4, V32 v5, V32 v6, V32 v7] 121) = z := ⟨_, rfl⟩
    obtain ⟨Wb, hb'⟩ : ∃ z, Wa.alloc (.cells keysV 123) = z := ⟨_, rfl⟩
    obtain ⟨Wc, hc'⟩ : ∃ z, Wb.alloc (.cells ((List.replicate 8 (0 : Int)).map V32).toArray 121) = z := ⟨_, rfl⟩
    obtain ⟨Wd, hd'⟩ : ∃ z, Wc.alloc (.cells zm 123) = z := ⟨_, rfl⟩
    rw [ha, hb', hc', hd']
    have sa : Wa.heap.size = w.heap.size + 1 := by rw [← ha, World.size_alloc]
    have sb : Wb.heap.size = w.heap.size + 1 + 1 := by rw [← hb', World.size_alloc, sa]
    have sc : Wc.heap.size = w.heap.size + 1 + 1 + 1 := by rw [← hc', World.size_alloc, sb]
    have ba : Below w.heap.size w Wa := by rw [← ha]; exact (Below.refl _ _).alloc (Nat.le_refl _) _
    have bb : Below Wa.heap.size Wa Wb := by rw [← hb']; exact (Below.refl _ _).alloc (Nat.le_refl _) _
    have bc : Below Wb.heap.size Wb Wc := by rw [← hc']; exact (Below.refl _ _).alloc (Nat.le_refl _) _
    have bd : Below Wc.heap.size Wc Wd := by rw [← hd']; exact (Below.refl _ _).alloc (Nat.le_refl _) _
    have na : VR Wa w.heap.size V 121 := by unfold VR; rw [← ha, heap_alloc_new, ← hVd]; rfl
    have nb : Wb.heap[w.heap.size + 1]? = some (.cells keysV 123 (0, 0)) := by rw [← hb', ← sa, heap_alloc_new]
    have nc := box_there (Below.refl _ (Wb.alloc (.cells ((List.replicate 8 (0 : Int)).map V32).toArray 121)))
    rw [hc', sb] at nc
    have nd : VR Wd (w.heap.size + 1 + 1 + 1) (rowS []) 123 := by unfold VR; rw [← hd', ← sc, heap_alloc_new, hm]
    have bcd := bc.trans (bd.mono bc.size)
    have bbd := bb.trans (bcd.mono bb.size)
    exact ⟨na.later bbd, by rw [bcd.block _ (by omega)]; exact nb, there_later nc bd (by omega), nd, ba.trans (bbd.mono ba.size)⟩
  change Code.wp _ _ _ _ ((((w.alloc (.cells #[V32 v0, V32 v1, V32 v2, V32 v3, V32 v4, V32 v5, V32 v6, V32 v7] 121)).alloc (.cells keysV 123)).alloc (.cells ((List.replicate 8 (0 : Int)).map V32).toArray 121)).alloc (.cells ((rowS []).map V32).toArray 123))
  generalize (((w.alloc (.cells #[V32 v0, V32 v1, V32 v2, V32 v3, V32 v4, V32 v5, V32 v6, V32 v7] 121)).alloc (.cells keysV 123)).alloc (.cells ((List.replicate 8 (0 : Int)).map V32).toArray 121)).alloc (.cells ((rowS []).map V32).toArray 123) = W4 at *
  have HST := Lib.hid hst
  have HVD := Lib.hid hVd
  clear hst hVd
  go_upto_region 3 with fail
  go_loopw [8] (fun vi wr => ∃ i : Nat, i ≤ 16 ∧ vi = .int .i64 i ∧ Hid (RSt w wr V (rowS (wordsL bs i)))) (fun vi _ => 16 - (intOf vi).toNat)
  case atStart => exact ⟨0, Nat.zero_le _, rfl, HST⟩
  case round =>
    clear HST
    obtain ⟨i, hi, rfl, HR⟩ := hrel
    by_cases hil : i < 16
    · have hwl := wordsL_len bs i
      have HR0 : Hid (RSt w wr V (rowW (wordsL bs i) (pW bs i 0))) := Lib.hid (by rw [show pW bs i 0 = 0 from rfl, ← rowS_W (by omega)]; exact HR.out)
      have HN : Hid (rowW (wordsL bs i) (pW bs i 4) = rowS (wordsL bs (i + 1))) := Lib.hid (by
        rw [pW_four HBY.out, wordsL_succ]
        unfold rowW rowS
        rw [List.append_assoc, List.length_append, List.length_singleton, show 64 - ((wordsL bs i).length + 1) = 63 - (wordsL bs i).length by omega]
        rfl)
      have hi16 : (i : Int) < 16 := by omega
      have hi64 : (i : Int) < 64 := by omega
      clear HR
      go_upto_region 6 with fail
      go_loopw [9] (fun vj wr => ∃ j : Nat, j ≤ 4 ∧ vj = .int .i64 j ∧ Hid (RSt w wr V (rowW (wordsL bs i) (pW bs i j)))) (fun vj _ => 4 - (intOf vj).toNat)
      case atStart => exact ⟨0, Nat.zero_le _, rfl, HR0⟩
      case round =>
        clear HR0
        obtain ⟨j, hj, rfl, HJ⟩ := hrel
        by_cases hjl : j < 4
        · obtain ⟨p, hp⟩ : ∃ p, pW bs i j = p := ⟨_, rfl⟩
          obtain ⟨h1, h2, h3⟩ := HC.out (4 * i + j) (by omega)
          have hx : bs.getD (4 * i + j) 0 = bs[4 * i + j] := by rw [List.getD_eq_getElem?_getD, List.getElem?_eq_getElem (by omega)]; rfl
          have HP1 : Hid (pW bs i (j + 1) = p * 256 + bs[4 * i + j]) := Lib.hid (by rw [pW, hp, hx])
          have hpb := pW_bd HBY.out i j
          rw [hp] at hpb HJ
          have hpp : p < 16777216 := by
            have h256 : (256 : Int) ^ j ≤ 16777216 := by
              rcases (show j = 0 ∨ j = 1 ∨ j = 2 ∨ j = 3 by omega) with h | h | h | h <;> subst h <;> decide
            omega
          have hp0 := hpb.1
          have hwb := keep_cell h1 HJ.out.b hlt
          generalize bs[4 * i + j] = x at *
          obtain ⟨q, hq⟩ : ∃ q, 4 * i = q := ⟨_, rfl⟩
          obtain ⟨q1, hq1⟩ : ∃ q1, 4 * i + j = q1 := ⟨_, rfl⟩
          rw [hq1] at hwb
          have hw0 : IntKind.i64.wrap (4 * (i : Int)) = (q : Int) := by rw [IntKind.wrap_i64]; omega
          have hw1 : IntKind.i64.wrap ((q : Int) + (j : Int)) = (q1 : Int) := by rw [IntKind.wrap_i64]; omega
          have hI1 : (q1 : Int) < 64 := by omega
          have vv : IntKind.u32.wrap x = x := by rw [IntKind.wrap_u32']; omega
          have y0 : IntKind.u32.wrap (p * 256) = p * 256 := by rw [IntKind.wrap_u32']; omega
          have y1 : IntKind.u32.wrap (p * 256 + x) = p * 256 + x := by rw [IntKind.wrap_u32']; omega
          have hjl4 : (j : Int) < 4 := by omega
          have hcl := HJ.out.m.cell (j := i) (x := p) (by have := @rowW_at (wordsL bs i) p; rwa [hwl] at this)
          have hfr := HJ.out.m.free i
          have hput := (HJ.out.put i (p * 256 + x)).later (Below.refl _ _).drew
          have hset : (rowW (wordsL bs i) p).set i (p * 256 + x) = rowW (wordsL bs i) (p * 256 + x) := by
            have := @rowW_set (wordsL bs i) p (p * 256 + x)
            rwa [hwl] at this
          rw [show (rowW (wordsL bs i) p).set i (p * 256 + x) = rowW (wordsL bs i) (pW bs i (j + 1)) by rw [hset, HP1.out]] at hput
          have HPUT := Lib.hid hput
          have HFR := Lib.hid hfr
          have HCL := Lib.hid hcl
          clear h1 h2 h3 hx hp hpb hput hset hq hq1 HP1 hfr
          go_wp2
          go_still_tail 15, (by kernel_rfl)
          have hcl : wr.drew.cell? ⟨w.heap.size + 1 + 1 + 1, i, none⟩ = some (V32 p) := HCL.out
          have hfr : wr.drew.frozen? ⟨w.heap.size + 1 + 1 + 1, i, none⟩ = false := HFR.out
          go_wp2
          go_roundw
          case rel => exact ⟨j + 1, by omega, by go_num, HPUT⟩
          case measure => (simp [intOf]; try omega)
        · obtain rfl : j = 4 := by omega
          rw [HN.out] at HJ
          go_wp2
          go_roundw
          case rel => exact ⟨i + 1, by omega, by go_num, HJ⟩
          case measure => (simp [intOf]; try omega)
    · obtain rfl : i = 16 := by omega
      rw [show ((16 : Nat) : Int) = 16 from rfl]
      have HR3 : Hid (RSt w wr V (rowS (schedL bs 0))) := HR
      clear HR
      go_upto_region 10 with fail
      go_loopw [10] (fun vi wr => ∃ k : Nat, k ≤ 48 ∧ vi = .int .i64 ((16 + k : Nat) : Int) ∧ Hid (RSt w wr V (rowS (schedL bs k))) ∧ Hid (∀ x ∈ schedL bs k, W32 x)) (fun vi _ => 64 - (intOf vi).toNat)
      case atStart => exact ⟨0, Nat.zero_le _, rfl, HR3, Lib.hid (sched0_word HBY.out)⟩
      case round =>
        clear HR3
        obtain ⟨k, hk, rfl, HR, HWD⟩ := hrel
        by_cases hkl : k < 48
        · obtain ⟨L, hL⟩ : ∃ L, schedL bs k = L := ⟨_, rfl⟩
          have hLl : L.length = 16 + k := by rw [← hL]; exact schedL_len bs k
          have HN : Hid (schedL bs (k + 1) = L ++ [nextW L]) := by show _ = _; rw [schedL, hL]
          rw [hL] at HR HWD
          have hx : ∀ d, 0 < d → d ≤ 16 → ∃ (q : Nat) (x : Int), q + d = 16 + k ∧ L.getD (16 + k - d) 0 = x ∧ W32 x ∧ (rowS L)[q]? = some x := fun d h1 h2 => by
            have hlt : 16 + k - d < L.length := by omega
            refine ⟨16 + k - d, _, by omega, rfl, ?_, rowS_at hlt⟩
            rw [List.getD_eq_getElem?_getD, List.getElem?_eq_getElem hlt]
            exact HWD.out _ (List.getElem_mem hlt)
          obtain ⟨q16, x16, i16, e16, u16, c16⟩ := hx 16 (by decide) (by decide)
          obtain ⟨q15, x15, i15, e15, u15, c15⟩ := hx 15 (by decide) (by decide)
          obtain ⟨q7, x7, i7, e7, u7, c7⟩ := hx 7 (by decide) (by decide)
          obtain ⟨q2, x2, i2, e2, u2, c2⟩ := hx 2 (by decide) (by decide)
          have HX : Hid (nextW L = (((x16 + mixW 7 18 0 3 x15) % 4294967296 + x7) % 4294967296 + mixW 17 19 0 10 x2) % 4294967296) := by
            show _ = _; unfold nextW; rw [hLl, e16, e15, e7, e2]
          have kA := fun W => turn_any x15 7 W u15 (by decide) (by decide)
          have kB := fun W => turn_any x15 18 W u15 (by decide) (by decide)
          have kC := fun W => turn_any x2 17 W u2 (by decide) (by decide)
          have kD := fun W => turn_any x2 19 W u2 (by decide) (by decide)
          obtain ⟨rA, hrA⟩ : ∃ z, rotW x15 (32 - 7) = z := ⟨_, rfl⟩
          obtain ⟨rB, hrB⟩ : ∃ z, rotW x15 (32 - 18) = z := ⟨_, rfl⟩
          obtain ⟨rC, hrC⟩ : ∃ z, rotW x2 (32 - 17) = z := ⟨_, rfl⟩
          obtain ⟨rD, hrD⟩ : ∃ z, rotW x2 (32 - 19) = z := ⟨_, rfl⟩
          have hmA : mixW 7 18 0 3 x15 = bits BinOp.xor .u32 (bits BinOp.xor .u32 rA rB) (x15 / 8) := by rw [← hrA, ← hrB]; rfl
          have hmB : mixW 17 19 0 10 x2 = bits BinOp.xor .u32 (bits BinOp.xor .u32 rC rD) (x2 / 1024) := by rw [← hrC, ← hrD]; rfl
          have hmwA := mix_word 7 18 0 3 u15 (by decide) (by decide) (by decide)
          have hmwB := mix_word 17 19 0 10 u2 (by decide) (by decide) (by decide)
          rw [hrA] at kA
          rw [hrB] at kB
          rw [hrC] at kC
          rw [hrD] at kD
          have KA : Hid (∀ W, Calls Try.prog 85 #[.int .u32 x15, .int .i64 7] W fun e w' => e = .returned (.int .u32 rA) ∧ w' = W) := Lib.hid kA
          have KB : Hid (∀ W, Calls Try.prog 85 #[.int .u32 x15, .int .i64 18] W fun e w' => e = .returned (.int .u32 rB) ∧ w' = W) := Lib.hid kB
          have KC : Hid (∀ W, Calls Try.prog 85 #[.int .u32 x2, .int .i64 17] W fun e w' => e = .returned (.int .u32 rC) ∧ w' = W) := Lib.hid kC
          have KD : Hid (∀ W, Calls Try.prog 85 #[.int .u32 x2, .int .i64 19] W fun e w' => e = .returned (.int .u32 rD) ∧ w' = W) := Lib.hid kD
          obtain ⟨mA, hmA'⟩ : ∃ z, mixW 7 18 0 3 x15 = z := ⟨_, rfl⟩
          obtain ⟨mB, hmB'⟩ : ∃ z, mixW 17 19 0 10 x2 = z := ⟨_, rfl⟩
          rw [hmA'] at hmA HX hmwA
          rw [hmB'] at hmB HX hmwB
          obtain ⟨s1, hs1⟩ : ∃ z, (x16 + mA) % 4294967296 = z := ⟨_, rfl⟩
          obtain ⟨s2, hs2⟩ : ∃ z, (s1 + x7) % 4294967296 = z := ⟨_, rfl⟩
          obtain ⟨s3, hs3⟩ : ∃ z, (s2 + mB) % 4294967296 = z := ⟨_, rfl⟩
          rw [hs1, hs2, hs3] at HX
          have hd8 : IntKind.u32.wrap (x15.tdiv 8) = x15 / 8 := by rw [Int.tdiv_eq_ediv_of_nonneg u15.1, IntKind.wrap_u32']; have := u15.1; have := u15.2; omega
          have hd10 : IntKind.u32.wrap (x2.tdiv 1024) = x2 / 1024 := by rw [Int.tdiv_eq_ediv_of_nonneg u2.1, IntKind.wrap_u32']; have := u2.1; have := u2.2; omega
          have HMA : Hid (mA = bits BinOp.xor .u32 (bits BinOp.xor .u32 rA rB) (IntKind.u32.wrap (x15.tdiv 8))) := Lib.hid (by rw [hmA, hd8])
          have HMB : Hid (mB = bits BinOp.xor .u32 (bits BinOp.xor .u32 rC rD) (IntKind.u32.wrap (x2.tdiv 1024))) := Lib.hid (by rw [hmB, hd10])
          have Y1 := Lib.hid hs1
          have Y2 := Lib.hid hs2
          have Y3 := Lib.hid hs3
          clear hd8 hd10
          obtain ⟨n, hn⟩ : ∃ n, 16 + k = n := ⟨_, rfl⟩
          rw [hn] at hLl i16 i15 i7 i2 ⊢
          have hw16 : IntKind.i64.wrap ((n : Int) - 16) = (q16 : Int) := by rw [IntKind.wrap_i64]; omega
          have hI16 : (q16 : Int) < 64 := by omega
          have hw15 : IntKind.i64.wrap ((n : Int) - 15) = (q15 : Int) := by rw [IntKind.wrap_i64]; omega
          have hI15 : (q15 : Int) < 64 := by omega
          have hw7 : IntKind.i64.wrap ((n : Int) - 7) = (q7 : Int) := by rw [IntKind.wrap_i64]; omega
          have hI7 : (q7 : Int) < 64 := by omega
          have hw2 : IntKind.i64.wrap ((n : Int) - 2) = (q2 : Int) := by rw [IntKind.wrap_i64]; omega
          have hI2 : (q2 : Int) < 64 := by omega
          have hIn : (n : Int) < 64 := by omega
          have hIn0 : (16 : Int) ≤ (n : Int) := by omega
          have d15 := HR.out.m.cell c15
          have d2 := HR.out.m.cell c2
          have d16 := HR.out.m.cell c16
          have d7 := HR.out.m.cell c7
          have D16 := Lib.hid d16
          have D7 := Lib.hid d7
          have D2 := Lib.hid d2
          obtain ⟨u150, u151⟩ := u15
          obtain ⟨u20, u21⟩ := u2
          clear hx hL e16 e15 e7 e2 hrA hrB hrC hrD kA kB kC kD hmA hmB hmA' hmB' c16 c15 c7 c2
          clear d16 d7 d2 hs1 hs2 hs3
          have SK : Hid (∀ W', Below wr.heap.size wr W' → W'.cell? ⟨w.heap.size + 1 + 1 + 1, q15, none⟩ = some (V32 x15) ∧ W'.cell? ⟨w.heap.size + 1 + 1 + 1, q2, none⟩ = some (V32 x2) ∧ W'.cell? ⟨w.heap.size + 1 + 1 + 1, q16, none⟩ = some (V32 x16) ∧ W'.cell? ⟨w.heap.size + 1 + 1 + 1, q7, none⟩ = some (V32 x7)) := Lib.hid (fun W' h => ⟨keep_cell d15 h HR.out.m.lt, keep_cell D2.out h HR.out.m.lt, keep_cell D16.out h HR.out.m.lt, keep_cell D7.out h HR.out.m.lt⟩)
          clear d15 D2 D16 D7
          go_upto_region 12 with fail
          refine wp_region_held_drew (S := (fun W' => W'.cell? ⟨w.heap.size + 1 + 1 + 1, q15, none⟩ = some (V32 x15) ∧ W'.cell? ⟨w.heap.size + 1 + 1 + 1, q2, none⟩ = some (V32 x2) ∧ W'.cell? ⟨w.heap.size + 1 + 1 + 1, q16, none⟩ = some (V32 x16) ∧ W'.cell? ⟨w.heap.size + 1 + 1 + 1, q7, none⟩ = some (V32 x7))) (by kernel_rfl) (SK.out _ ((Below.refl wr.heap.size wr).drew)) (fun hHeld => ?_)
          refine held_take (i := 0) (v := ?_) rfl rfl (by kernel_rfl) (by kernel_rfl) (by kernel_rfl) (fun _ _ _ h => h) (by rfl) hHeld ?_ ?_
          rotate_left
          · rintro wh ⟨d15, d2, d16, d7⟩
            go_simp
            (try with_reducible rfl)
          simp only [Act.put, List.setIfInBounds_toArray, List.set_cons_zero, List.set_cons_succ]
          refine held_take (i := 1) (v := ?_) rfl rfl (by kernel_rfl) (by kernel_rfl) (by kernel_rfl) (fun _ _ _ h => h) (by rfl) hHeld ?_ ?_
          rotate_left
          · rintro wh ⟨d15, d2, d16, d7⟩
            go_simp
            (try with_reducible rfl)
          simp only [Act.put, List.setIfInBounds_toArray, List.set_cons_zero, List.set_cons_succ]
          refine held_take (i := 2) (v := ?_) rfl rfl (by kernel_rfl) (by kernel_rfl) (by kernel_rfl) (fun _ _ _ h => h) (by rfl) hHeld ?_ ?_
          rotate_left
          · rintro wh ⟨d15, d2, d16, d7⟩
            go_simp
            (try with_reducible rfl)
          simp only [Act.put, List.setIfInBounds_toArray, List.set_cons_zero, List.set_cons_succ]
          refine held_take (i := 3) (v := ?_) rfl rfl (by kernel_rfl) (by kernel_rfl) (by kernel_rfl) (fun _ _ _ h => h) (by rfl) hHeld ?_ ?_
          rotate_left
          · rintro wh ⟨d15, d2, d16, d7⟩
            go_simp
            (try with_reducible rfl)
          simp only [Act.put, List.setIfInBounds_toArray, List.set_cons_zero, List.set_cons_succ]
          refine held_take (i := 5) (v := ?_) rfl rfl (by kernel_rfl) (by kernel_rfl) (by kernel_rfl) (fun _ _ _ h => h) (by rfl) hHeld ?_ ?_
          rotate_left
          · rintro wh ⟨d15, d2, d16, d7⟩
            go_simp
            (try with_reducible rfl)
          simp only [Act.put, List.setIfInBounds_toArray, List.set_cons_zero, List.set_cons_succ]
          refine held_take (i := 6) (v := ?_) rfl rfl (by kernel_rfl) (by kernel_rfl) (by kernel_rfl) (fun _ _ _ h => h) (by rfl) hHeld ?_ ?_
          rotate_left
          · rintro wh ⟨d15, d2, d16, d7⟩
            go_simp
            (try with_reducible rfl)
          simp only [Act.put, List.setIfInBounds_toArray, List.set_cons_zero, List.set_cons_succ]
          refine held_take (i := 7) (v := ?_) rfl rfl (by kernel_rfl) (by kernel_rfl) (by kernel_rfl) (fun _ _ _ h => h) (by rfl) hHeld ?_ ?_
          rotate_left
          · rintro wh ⟨d15, d2, d16, d7⟩
            go_simp
            (try with_reducible rfl)
          simp only [Act.put, List.setIfInBounds_toArray, List.set_cons_zero, List.set_cons_succ]
          refine held_take (i := 8) (v := ?_) rfl rfl (by kernel_rfl) (by kernel_rfl) (by kernel_rfl) (fun _ _ _ h => h) (by rfl) hHeld ?_ ?_
          rotate_left
          · rintro wh ⟨d15, d2, d16, d7⟩
            go_simp
            (try with_reducible rfl)
          simp only [Act.put, List.setIfInBounds_toArray, List.set_cons_zero, List.set_cons_succ]
          refine held_take (i := 11) (v := ?_) rfl rfl (by kernel_rfl) (by kernel_rfl) (by kernel_rfl) (fun _ _ _ h => h) (by rfl) hHeld ?_ ?_
          rotate_left
          · rintro wh ⟨d15, d2, d16, d7⟩
            go_simp
            (try with_reducible rfl)
          simp only [Act.put, List.setIfInBounds_toArray, List.set_cons_zero, List.set_cons_succ]
          refine held_take (i := 12) (v := ?_) rfl rfl (by kernel_rfl) (by kernel_rfl) (by kernel_rfl) (fun _ _ _ h => h) (by rfl) hHeld ?_ ?_
          rotate_left
          · rintro wh ⟨d15, d2, d16, d7⟩
            go_simp
            (try with_reducible rfl)
          simp only [Act.put, List.setIfInBounds_toArray, List.set_cons_zero, List.set_cons_succ]
          refine held_take (i := 13) (v := ?_) rfl rfl (by kernel_rfl) (by kernel_rfl) (by kernel_rfl) (fun _ _ _ h => h) (by rfl) hHeld ?_ ?_
          rotate_left
          · rintro wh ⟨d15, d2, d16, d7⟩
            go_simp
            (try with_reducible rfl)
          simp only [Act.put, List.setIfInBounds_toArray, List.set_cons_zero, List.set_cons_succ]
          refine held_take (i := 14) (v := ?_) rfl rfl (by kernel_rfl) (by kernel_rfl) (by kernel_rfl) (fun _ _ _ h => h) (by rfl) hHeld ?_ ?_
          rotate_left
          · rintro wh ⟨d15, d2, d16, d7⟩
            go_simp
            (try with_reducible rfl)
          simp only [Act.put, List.setIfInBounds_toArray, List.set_cons_zero, List.set_cons_succ]
          refine held_take (i := 15) (v := ?_) rfl rfl (by kernel_rfl) (by kernel_rfl) (by kernel_rfl) (fun _ _ _ h => h) (by rfl) hHeld ?_ ?_
          rotate_left
          · rintro wh ⟨d15, d2, d16, d7⟩
            go_simp
            (try with_reducible rfl)
          simp only [Act.put, List.setIfInBounds_toArray, List.set_cons_zero, List.set_cons_succ]
          refine held_step (i := 4) rfl (by kernel_rfl) (fun K hK => ?_)
          go_simp; refine (KA.out _).mono ?_; rintro e wq ⟨rfl, hq⟩; obtain rfl := hq.symm; clear hq
          refine hK.out _ _ (SK.out _ ((Below.refl wr.heap.size wr).drew)) (fun hHeld => ?_)
          clear hK K
          (try simp only [Act.put, List.setIfInBounds_toArray])
          refine held_step (i := 9) rfl (by kernel_rfl) (fun K hK => ?_)
          go_simp; refine (KB.out _).mono ?_; rintro e wq ⟨rfl, hq⟩; obtain rfl := hq.symm; clear hq
          refine hK.out _ _ (SK.out _ ((Below.refl wr.heap.size wr).drew)) (fun hHeld => ?_)
          clear hK K
          (try simp only [Act.put, List.setIfInBounds_toArray])
          refine held_take (i := 10) (v := ?_) rfl rfl (by kernel_rfl) (by kernel_rfl) (by kernel_rfl) (fun _ _ _ h => h) (by rfl) hHeld ?_ ?_
          rotate_left
          · rintro wh ⟨d15, d2, d16, d7⟩
            go_simp
            (try with_reducible rfl)
          simp only [Act.put, List.setIfInBounds_toArray, List.set_cons_zero, List.set_cons_succ]
          refine held_take (i := 16) (v := ?_) rfl rfl (by kernel_rfl) (by kernel_rfl) (by kernel_rfl) (fun _ _ _ h => h) (by rfl) hHeld ?_ ?_
          rotate_left
          · rintro wh ⟨d15, d2, d16, d7⟩
            go_simp
            (try with_reducible rfl)
          simp only [Act.put, List.setIfInBounds_toArray, List.set_cons_zero, List.set_cons_succ]
          refine held_take (i := 17) (v := ?_) rfl rfl (by kernel_rfl) (by kernel_rfl) (by kernel_rfl) (fun _ _ _ h => h) (by rfl) hHeld ?_ ?_
          rotate_left
          · rintro wh ⟨d15, d2, d16, d7⟩
            go_simp
            (try with_reducible rfl)
          simp only [Act.put, List.setIfInBounds_toArray, List.set_cons_zero, List.set_cons_succ]
          refine wpAnyH_done (by kernel_rfl) ?_ _
          have hb1 : Below wr.heap.size wr wr.drew := (Below.refl _ _).drew
          have SK1 : Hid (∀ W', Below wr.drew.heap.size wr.drew W' → W'.cell? ⟨w.heap.size + 1 + 1 + 1, q15, none⟩ = some (V32 x15) ∧ W'.cell? ⟨w.heap.size + 1 + 1 + 1, q2, none⟩ = some (V32 x2) ∧ W'.cell? ⟨w.heap.size + 1 + 1 + 1, q16, none⟩ = some (V32 x16) ∧ W'.cell? ⟨w.heap.size + 1 + 1 + 1, q7, none⟩ = some (V32 x7)) := Lib.hid (fun W' h => SK.out W' (hb1.trans (h.mono hb1.size)))
          have HR1 := Lib.hid (HR.out.later hb1)
          clear HR SK hb1 hHeld KA KB
          rw [← HMA.out]
          generalize wr.drew = w1 at *
          go_upto_region 13 with fail
          refine wp_region_held_drew (S := (fun W' => W'.cell? ⟨w.heap.size + 1 + 1 + 1, q15, none⟩ = some (V32 x15) ∧ W'.cell? ⟨w.heap.size + 1 + 1 + 1, q2, none⟩ = some (V32 x2) ∧ W'.cell? ⟨w.heap.size + 1 + 1 + 1, q16, none⟩ = some (V32 x16) ∧ W'.cell? ⟨w.heap.size + 1 + 1 + 1, q7, none⟩ = some (V32 x7))) (by kernel_rfl) (SK1.out _ ((Below.refl w1.heap.size w1).drew)) (fun hHeld => ?_)
          refine held_take (i := 0) (v := ?_) rfl rfl (by kernel_rfl) (by kernel_rfl) (by kernel_rfl) (fun _ _ _ h => h) (by rfl) hHeld ?_ ?_
          rotate_left
          · rintro wh ⟨d15, d2, d16, d7⟩
            go_simp
            (try with_reducible rfl)
          simp only [Act.put, List.setIfInBounds_toArray, List.set_cons_zero, List.set_cons_succ]
          refine held_take (i := 1) (v := ?_) rfl rfl (by kernel_rfl) (by kernel_rfl) (by kernel_rfl) (fun _ _ _ h => h) (by rfl) hHeld ?_ ?_
          rotate_left
          · rintro wh ⟨d15, d2, d16, d7⟩
            go_simp
            (try with_reducible rfl)
          simp only [Act.put, List.setIfInBounds_toArray, List.set_cons_zero, List.set_cons_succ]
          refine held_take (i := 2) (v := ?_) rfl rfl (by kernel_rfl) (by kernel_rfl) (by kernel_rfl) (fun _ _ _ h => h) (by rfl) hHeld ?_ ?_
          rotate_left
          · rintro wh ⟨d15, d2, d16, d7⟩
            go_simp
            (try with_reducible rfl)
          simp only [Act.put, List.setIfInBounds_toArray, List.set_cons_zero, List.set_cons_succ]
          refine held_take (i := 3) (v := ?_) rfl rfl (by kernel_rfl) (by kernel_rfl) (by kernel_rfl) (fun _ _ _ h => h) (by rfl) hHeld ?_ ?_
          rotate_left
          · rintro wh ⟨d15, d2, d16, d7⟩
            go_simp
            (try with_reducible rfl)
          simp only [Act.put, List.setIfInBounds_toArray, List.set_cons_zero, List.set_cons_succ]
          refine held_take (i := 5) (v := ?_) rfl rfl (by kernel_rfl) (by kernel_rfl) (by kernel_rfl) (fun _ _ _ h => h) (by rfl) hHeld ?_ ?_
          rotate_left
          · rintro wh ⟨d15, d2, d16, d7⟩
            go_simp
            (try with_reducible rfl)
          simp only [Act.put, List.setIfInBounds_toArray, List.set_cons_zero, List.set_cons_succ]
          refine held_take (i := 6) (v := ?_) rfl rfl (by kernel_rfl) (by kernel_rfl) (by kernel_rfl) (fun _ _ _ h => h) (by rfl) hHeld ?_ ?_
          rotate_left
          · rintro wh ⟨d15, d2, d16, d7⟩
            go_simp
            (try with_reducible rfl)
          simp only [Act.put, List.setIfInBounds_toArray, List.set_cons_zero, List.set_cons_succ]
          refine held_take (i := 7) (v := ?_) rfl rfl (by kernel_rfl) (by kernel_rfl) (by kernel_rfl) (fun _ _ _ h => h) (by rfl) hHeld ?_ ?_
          rotate_left
          · rintro wh ⟨d15, d2, d16, d7⟩
            go_simp
            (try with_reducible rfl)
          simp only [Act.put, List.setIfInBounds_toArray, List.set_cons_zero, List.set_cons_succ]
          refine held_take (i := 8) (v := ?_) rfl rfl (by kernel_rfl) (by kernel_rfl) (by kernel_rfl) (fun _ _ _ h => h) (by rfl) hHeld ?_ ?_
          rotate_left
          · rintro wh ⟨d15, d2, d16, d7⟩
            go_simp
            (try with_reducible rfl)
          simp only [Act.put, List.setIfInBounds_toArray, List.set_cons_zero, List.set_cons_succ]
          refine held_take (i := 11) (v := ?_) rfl rfl (by kernel_rfl) (by kernel_rfl) (by kernel_rfl) (fun _ _ _ h => h) (by rfl) hHeld ?_ ?_
          rotate_left
          · rintro wh ⟨d15, d2, d16, d7⟩
            go_simp
            (try with_reducible rfl)
          simp only [Act.put, List.setIfInBounds_toArray, List.set_cons_zero, List.set_cons_succ]
          refine held_take (i := 12) (v := ?_) rfl rfl (by kernel_rfl) (by kernel_rfl) (by kernel_rfl) (fun _ _ _ h => h) (by rfl) hHeld ?_ ?_
          rotate_left
          · rintro wh ⟨d15, d2, d16, d7⟩
            go_simp
            (try with_reducible rfl)
          simp only [Act.put, List.setIfInBounds_toArray, List.set_cons_zero, List.set_cons_succ]
          refine held_take (i := 13) (v := ?_) rfl rfl (by kernel_rfl) (by kernel_rfl) (by kernel_rfl) (fun _ _ _ h => h) (by rfl) hHeld ?_ ?_
          rotate_left
          · rintro wh ⟨d15, d2, d16, d7⟩
            go_simp
            (try with_reducible rfl)
          simp only [Act.put, List.setIfInBounds_toArray, List.set_cons_zero, List.set_cons_succ]
          refine held_take (i := 14) (v := ?_) rfl rfl (by kernel_rfl) (by kernel_rfl) (by kernel_rfl) (fun _ _ _ h => h) (by rfl) hHeld ?_ ?_
          rotate_left
          · rintro wh ⟨d15, d2, d16, d7⟩
            go_simp
            (try with_reducible rfl)
          simp only [Act.put, List.setIfInBounds_toArray, List.set_cons_zero, List.set_cons_succ]
          refine held_take (i := 15) (v := ?_) rfl rfl (by kernel_rfl) (by kernel_rfl) (by kernel_rfl) (fun _ _ _ h => h) (by rfl) hHeld ?_ ?_
          rotate_left
          · rintro wh ⟨d15, d2, d16, d7⟩
            go_simp
            (try with_reducible rfl)
          simp only [Act.put, List.setIfInBounds_toArray, List.set_cons_zero, List.set_cons_succ]
          refine held_step (i := 4) rfl (by kernel_rfl) (fun K hK => ?_)
          go_simp; refine (KC.out _).mono ?_; rintro e wq ⟨rfl, hq⟩; obtain rfl := hq.symm; clear hq
          refine hK.out _ _ (SK1.out _ ((Below.refl w1.heap.size w1).drew)) (fun hHeld => ?_)
          clear hK K
          (try simp only [Act.put, List.setIfInBounds_toArray])
          refine held_step (i := 9) rfl (by kernel_rfl) (fun K hK => ?_)
          go_simp; refine (KD.out _).mono ?_; rintro e wq ⟨rfl, hq⟩; obtain rfl := hq.symm; clear hq
          refine hK.out _ _ (SK1.out _ ((Below.refl w1.heap.size w1).drew)) (fun hHeld => ?_)
          clear hK K
          (try simp only [Act.put, List.setIfInBounds_toArray])
          refine held_take (i := 10) (v := ?_) rfl rfl (by kernel_rfl) (by kernel_rfl) (by kernel_rfl) (fun _ _ _ h => h) (by rfl) hHeld ?_ ?_
          rotate_left
          · rintro wh ⟨d15, d2, d16, d7⟩
            go_simp
            (try with_reducible rfl)
          simp only [Act.put, List.setIfInBounds_toArray, List.set_cons_zero, List.set_cons_succ]
          refine held_take (i := 16) (v := ?_) rfl rfl (by kernel_rfl) (by kernel_rfl) (by kernel_rfl) (fun _ _ _ h => h) (by rfl) hHeld ?_ ?_
          rotate_left
          · rintro wh ⟨d15, d2, d16, d7⟩
            go_simp
            (try with_reducible rfl)
          simp only [Act.put, List.setIfInBounds_toArray, List.set_cons_zero, List.set_cons_succ]
          refine held_take (i := 17) (v := ?_) rfl rfl (by kernel_rfl) (by kernel_rfl) (by kernel_rfl) (fun _ _ _ h => h) (by rfl) hHeld ?_ ?_
          rotate_left
          · rintro wh ⟨d15, d2, d16, d7⟩
            go_simp
            (try with_reducible rfl)
          simp only [Act.put, List.setIfInBounds_toArray, List.set_cons_zero, List.set_cons_succ]
          refine wpAnyH_done (by kernel_rfl) ?_ _
          have hb1 : Below w1.heap.size w1 w1.drew := (Below.refl _ _).drew
          have HR2 := Lib.hid (HR1.out.later hb1)
          have SK2 := SK1.out _ hb1
          clear HR1 SK1 hb1 hHeld KC KD
          rw [← HMB.out]
          generalize w1.drew = w2 at *
          have y1 : IntKind.u32.wrap (x16 + mA) = s1 := by rw [IntKind.wrap_u32']; exact Y1.out
          have y2 : IntKind.u32.wrap (s1 + x7) = s2 := by rw [IntKind.wrap_u32']; exact Y2.out
          have y3 : IntKind.u32.wrap (s2 + mB) = s3 := by rw [IntKind.wrap_u32']; exact Y3.out
          obtain ⟨d15, d2, d16, d7⟩ := SK2
          have hw3 : W32 s3 := by rw [← Y3.out]; exact w32_mod _
          have hput := (HR2.out.put n s3).later (Below.refl _ _).drew
          have hset : (rowS L).set n s3 = rowS (L ++ [s3]) := by have := @rowS_next L s3 (by omega); rwa [hLl] at this
          rw [hset] at hput
          have HPUT : Hid (RSt w (w2.setCell ⟨w.heap.size + 1 + 1 + 1, n, none⟩ (V32 s3)).drew V (rowS (schedL bs (k + 1)))) := Lib.hid (by rw [HN.out, HX.out]; exact hput)
          have HWZ : Hid (∀ x ∈ schedL bs (k + 1), W32 x) := Lib.hid (by
            rw [HN.out, HX.out]
            intro x hx
            rcases List.mem_append.1 hx with h | h
            · exact HWD.out x h
            · rw [List.mem_singleton.1 h]; exact hw3)
          have hfr := HR2.out.m.free n
          obtain ⟨old, hold⟩ : ∃ u, w2.cell? ⟨w.heap.size + 1 + 1 + 1, n, none⟩ = some u := by
            have hl : (rowS L).length = 64 := by unfold rowS; rw [List.length_append, List.length_replicate]; omega
            exact ⟨_, HR2.out.m.cell (List.getElem?_eq_getElem (by omega))⟩
          have HO := Lib.hid hold
          have HF := Lib.hid hfr
          clear HR2 hput hset hw3 hfr hold Y1 Y2 Y3 HN HX HWD HMA HMB
          go_wp2
          go_still_tail 15, (by kernel_rfl)
          have hold : w2.drew.cell? ⟨w.heap.size + 1 + 1 + 1, n, none⟩ = some old := HO.out
          have hfr : w2.drew.frozen? ⟨w.heap.size + 1 + 1 + 1, n, none⟩ = false := HF.out
          go_wp2
          go_roundw
          case rel => exact ⟨k + 1, by omega, by rw [← hn]; go_num, HPUT, HWZ⟩
          case measure => (simp [intOf]; try omega)
        · obtain rfl : k = 48 := by omega
          rw [show ((16 + 48 : Nat) : Int) = 64 from rfl]
          obtain rfl := HVD.out
          have hl48 : (schedL bs 48).length = 64 := schedL_len bs 48
          have hrs : rowS (schedL bs 48) = schedL bs 48 := by unfold rowS; rw [hl48]; exact List.append_nil _
          rw [hrs] at HR
          obtain ⟨S, hS⟩ : ∃ S, schedL bs 48 = S := ⟨_, rfl⟩
          have HSE := Lib.hid hS
          rw [hS] at HR HWD hl48
          clear hrs hS HC HBY
          have h0 := HR.out.h.cell (j := 0) rfl
          have h1 := HR.out.h.cell (j := 1) rfl
          have h2 := HR.out.h.cell (j := 2) rfl
          have h3 := HR.out.h.cell (j := 3) rfl
          have h4 := HR.out.h.cell (j := 4) rfl
          have h5 := HR.out.h.cell (j := 5) rfl
          have h6 := HR.out.h.cell (j := 6) rfl
          have h7 := HR.out.h.cell (j := 7) rfl
          have hba : Below wr.heap.size wr (wr.alloc (.cells #[V32 v0, V32 v1, V32 v2, V32 v3, V32 v4, V32 v5, V32 v6, V32 v7] 121)) := (Below.refl _ _).alloc (Nat.le_refl _) _
          have hva : VAt (wr.alloc (.cells #[V32 v0, V32 v1, V32 v2, V32 v3, V32 v4, V32 v5, V32 v6, V32 v7] 121)) wr.heap.size [v0, v1, v2, v3, v4, v5, v6, v7] := ⟨rfl, by rw [heap_alloc_new]; rfl⟩
          have hG : w.heap.size + 1 + 1 + 1 < wr.heap.size := HR.out.m.lt
          go_upto_region 16 with fail
          change Code.wp _ _ _ _ (wr.alloc (.cells #[V32 v0, V32 v1, V32 v2, V32 v3, V32 v4, V32 v5, V32 v6, V32 v7] 121))
          have HR4 := Lib.hid (HR.out.later hba)
          generalize wr.alloc (.cells #[V32 v0, V32 v1, V32 v2, V32 v3, V32 v4, V32 v5, V32 v6, V32 v7] 121) = W5 at *
          have HVA := Lib.hid hva
          clear hva hba HR h0 h1 h2 h3 h4 h5 h6 h7
          generalize wr.heap.size = G at *
          go_upto_region 17 with fail
          go_loopw [14] (fun vi wr => ∃ k : Nat, k ≤ 64 ∧ vi = .int .i64 k ∧ Hid (RSt w wr [v0, v1, v2, v3, v4, v5, v6, v7] S) ∧ Hid (VAt wr G (roundsL S [v0, v1, v2, v3, v4, v5, v6, v7] k)) ∧ Hid (∀ x ∈ roundsL S [v0, v1, v2, v3, v4, v5, v6, v7] k, W32 x)) (fun vi _ => 64 - (intOf vi).toNat)
          case atStart => exact ⟨0, Nat.zero_le _, rfl, HR4, HVA, HV⟩
          case round =>
            clear HR4 HVA
            obtain ⟨k, hk, rfl, HR, HA, HU⟩ := hrel
            by_cases hkl : k < 64
            · obtain ⟨U, hU⟩ : ∃ U, roundsL S [v0, v1, v2, v3, v4, v5, v6, v7] k = U := ⟨_, rfl⟩
              have HN : Hid (roundsL S [v0, v1, v2, v3, v4, v5, v6, v7] (k + 1) = roundL U (keyL k) (S.getD k 0)) := Lib.hid (by rw [roundsL, hU])
              rw [hU] at HA HU
              have hUl := HA.out.1
              obtain ⟨x0, x1, x2, x3, x4, x5, x6, x7, rfl⟩ : ∃ x0 x1 x2 x3 x4 x5 x6 x7, U = [x0, x1, x2, x3, x4, x5, x6, x7] := by
                match U, hUl with
                | [x0, x1, x2, x3, x4, x5, x6, x7], _ => exact ⟨x0, x1, x2, x3, x4, x5, x6, x7, rfl⟩
              have c0 := HA.out.cell 0 x0 rfl
              have c1 := HA.out.cell 1 x1 rfl
              have c2 := HA.out.cell 2 x2 rfl
              have c3 := HA.out.cell 3 x3 rfl
              have c4 := HA.out.cell 4 x4 rfl
              have c5 := HA.out.cell 5 x5 rfl
              have c6 := HA.out.cell 6 x6 rfl
              have c7 := HA.out.cell 7 x7 rfl
              have u0 : W32 x0 := HU.out _ (by simp)
              have u4 : W32 x4 := HU.out _ (by simp)
              have hck : wr.cell? ⟨w.heap.size + 1, k, none⟩ = some (V32 (keyL k)) := by rw [cell_row HR.out.k]; exact keysV_at k hkl
              have hcw : wr.cell? ⟨w.heap.size + 1 + 1 + 1, k, none⟩ = some (V32 (S.getD k 0)) := HR.out.m.cell (by rw [List.getD_eq_getElem?_getD, List.getElem?_eq_getElem (by omega)]; rfl)
              have hGl : G < wr.heap.size := (Array.getElem?_eq_some_iff.1 HA.out.2).1
              have hml := HR.out.m.lt
              have SK : Hid (∀ W', Below wr.heap.size wr W' → W'.cell? ⟨G, 0, none⟩ = some (V32 x0) ∧ W'.cell? ⟨G, 4, none⟩ = some (V32 x4) ∧ W'.cell? ⟨G, 7, none⟩ = some (V32 x7) ∧ W'.cell? ⟨w.heap.size + 1, k, none⟩ = some (V32 (keyL k)) ∧ W'.cell? ⟨w.heap.size + 1 + 1 + 1, k, none⟩ = some (V32 (S.getD k 0))) :=
                Lib.hid (fun W' h => ⟨keep_cell c0 h hGl, keep_cell c4 h hGl, keep_cell c7 h hGl, keep_cell hck h (by omega), keep_cell hcw h hml⟩)
              have hk64 : (k : Int) < 64 := by omega
              have kA := fun W => turn_any x4 6 W u4 (by decide) (by decide)
              have kB := fun W => turn_any x4 11 W u4 (by decide) (by decide)
              have kC := fun W => turn_any x4 25 W u4 (by decide) (by decide)
              have kD := fun W => turn_any x0 2 W u0 (by decide) (by decide)
              have kE := fun W => turn_any x0 13 W u0 (by decide) (by decide)
              have kF := fun W => turn_any x0 22 W u0 (by decide) (by decide)
              have hM4 : mixW 6 11 25 0 x4 = bits BinOp.xor .u32 (bits BinOp.xor .u32 (rotW x4 (32 - 6)) (rotW x4 (32 - 11))) (rotW x4 (32 - 25)) := rfl
              have hM0 : mixW 2 13 22 0 x0 = bits BinOp.xor .u32 (bits BinOp.xor .u32 (rotW x0 (32 - 2)) (rotW x0 (32 - 13))) (rotW x0 (32 - 22)) := rfl
              have hnot : bits BinOp.xor .u32 (if IntKind.u32.signed = true then -1 else IntKind.u32.max) x4 = 4294967295 - x4 := not_word u4
              have hnw : IntKind.u32.wrap (4294967295 - x4) = 4294967295 - x4 := by rw [IntKind.wrap_u32']; have := u4.1; have := u4.2; omega
              have HNT := Lib.hid hnot
              have HNW := Lib.hid hnw
              generalize rotW x4 (32 - 6) = rA at *
              generalize rotW x4 (32 - 11) = rB at *
              generalize rotW x4 (32 - 25) = rC at *
              generalize rotW x0 (32 - 2) = rD at *
              generalize rotW x0 (32 - 13) = rE at *
              generalize rotW x0 (32 - 22) = rF at *
              have KA : Hid (∀ W, Calls Try.prog 85 #[.int .u32 x4, .int .i64 6] W fun e w' => e = .returned (.int .u32 rA) ∧ w' = W) := Lib.hid kA
              have KB : Hid (∀ W, Calls Try.prog 85 #[.int .u32 x4, .int .i64 11] W fun e w' => e = .returned (.int .u32 rB) ∧ w' = W) := Lib.hid kB
              have KC : Hid (∀ W, Calls Try.prog 85 #[.int .u32 x4, .int .i64 25] W fun e w' => e = .returned (.int .u32 rC) ∧ w' = W) := Lib.hid kC
              have KD : Hid (∀ W, Calls Try.prog 85 #[.int .u32 x0, .int .i64 2] W fun e w' => e = .returned (.int .u32 rD) ∧ w' = W) := Lib.hid kD
              have KE : Hid (∀ W, Calls Try.prog 85 #[.int .u32 x0, .int .i64 13] W fun e w' => e = .returned (.int .u32 rE) ∧ w' = W) := Lib.hid kE
              have KF : Hid (∀ W, Calls Try.prog 85 #[.int .u32 x0, .int .i64 22] W fun e w' => e = .returned (.int .u32 rF) ∧ w' = W) := Lib.hid kF
              have HM4 := Lib.hid hM4
              have HM0 := Lib.hid hM0
              obtain ⟨M4, hm4⟩ : ∃ z, mixW 6 11 25 0 x4 = z := ⟨_, rfl⟩
              obtain ⟨M0, hm0⟩ : ∃ z, mixW 2 13 22 0 x0 = z := ⟨_, rfl⟩
              rw [hm4] at HM4
              rw [hm0] at HM0
              have HMM : Hid (mixW 6 11 25 0 x4 = M4 ∧ mixW 2 13 22 0 x0 = M0) := Lib.hid ⟨hm4, hm0⟩
              clear kA kB kC kD kE kF hM4 hM0 hm4 hm0 hnot hnw c0 c1 c2 c3 c4 c5 c6 c7 hck hcw u0 u4
              generalize keyL k = kk at *
              generalize S.getD k 0 = ww at *
              go_upto_region 19 with fail
              refine wp_region_held_drew (S := (fun W' => W'.cell? ⟨G, 0, none⟩ = some (V32 x0) ∧ W'.cell? ⟨G, 4, none⟩ = some (V32 x4) ∧ W'.cell? ⟨G, 7, none⟩ = some (V32 x7) ∧ W'.cell? ⟨w.heap.size + 1, k, none⟩ = some (V32 kk) ∧ W'.cell? ⟨w.heap.size + 1 + 1 + 1, k, none⟩ = some (V32 ww))) (by kernel_rfl) (SK.out _ ((Below.refl wr.heap.size wr).drew)) (fun hHeld => ?_)
              refine held_take (i := 0) (v := ?_) rfl rfl (by kernel_rfl) (by kernel_rfl) (by kernel_rfl) (fun _ _ _ h => h) (by rfl) hHeld ?_ ?_
              rotate_left
              · rintro wh ⟨d0, d4, d7, dk, dw⟩
                go_simp
                (try with_reducible rfl)
              simp only [Act.put, List.setIfInBounds_toArray, List.set_cons_zero, List.set_cons_succ]
              refine held_take (i := 1) (v := ?_) rfl rfl (by kernel_rfl) (by kernel_rfl) (by kernel_rfl) (fun _ _ _ h => h) (by rfl) hHeld ?_ ?_
              rotate_left
              · rintro wh ⟨d0, d4, d7, dk, dw⟩
                go_simp
                (try with_reducible rfl)
              simp only [Act.put, List.setIfInBounds_toArray, List.set_cons_zero, List.set_cons_succ]
              refine held_take (i := 3) (v := ?_) rfl rfl (by kernel_rfl) (by kernel_rfl) (by kernel_rfl) (fun _ _ _ h => h) (by rfl) hHeld ?_ ?_
              rotate_left
              · rintro wh ⟨d0, d4, d7, dk, dw⟩
                go_simp
                (try with_reducible rfl)
              simp only [Act.put, List.setIfInBounds_toArray, List.set_cons_zero, List.set_cons_succ]
              refine held_take (i := 4) (v := ?_) rfl rfl (by kernel_rfl) (by kernel_rfl) (by kernel_rfl) (fun _ _ _ h => h) (by rfl) hHeld ?_ ?_
              rotate_left
              · rintro wh ⟨d0, d4, d7, dk, dw⟩
                go_simp
                (try with_reducible rfl)
              simp only [Act.put, List.setIfInBounds_toArray, List.set_cons_zero, List.set_cons_succ]
              refine held_take (i := 7) (v := ?_) rfl rfl (by kernel_rfl) (by kernel_rfl) (by kernel_rfl) (fun _ _ _ h => h) (by rfl) hHeld ?_ ?_
              rotate_left
              · rintro wh ⟨d0, d4, d7, dk, dw⟩
                go_simp
                (try with_reducible rfl)
              simp only [Act.put, List.setIfInBounds_toArray, List.set_cons_zero, List.set_cons_succ]
              refine held_take (i := 8) (v := ?_) rfl rfl (by kernel_rfl) (by kernel_rfl) (by kernel_rfl) (fun _ _ _ h => h) (by rfl) hHeld ?_ ?_
              rotate_left
              · rintro wh ⟨d0, d4, d7, dk, dw⟩
                go_simp
                (try with_reducible rfl)
              simp only [Act.put, List.setIfInBounds_toArray, List.set_cons_zero, List.set_cons_succ]
              refine held_step (i := 2) rfl (by kernel_rfl) (fun K hK => ?_)
              go_simp; refine (KA.out _).mono ?_; rintro e wq ⟨rfl, hq⟩; obtain rfl := hq.symm; clear hq
              refine hK.out _ _ (SK.out _ ((Below.refl wr.heap.size wr).drew)) (fun hHeld => ?_)
              clear hK K
              (try simp only [Act.put, List.setIfInBounds_toArray])
              refine held_step (i := 5) rfl (by kernel_rfl) (fun K hK => ?_)
              go_simp; refine (KB.out _).mono ?_; rintro e wq ⟨rfl, hq⟩; obtain rfl := hq.symm; clear hq
              refine hK.out _ _ (SK.out _ ((Below.refl wr.heap.size wr).drew)) (fun hHeld => ?_)
              clear hK K
              (try simp only [Act.put, List.setIfInBounds_toArray])
              refine held_take (i := 6) (v := ?_) rfl rfl (by kernel_rfl) (by kernel_rfl) (by kernel_rfl) (fun _ _ _ h => h) (by rfl) hHeld ?_ ?_
              rotate_left
              · rintro wh ⟨d0, d4, d7, dk, dw⟩
                go_simp
                (try with_reducible rfl)
              simp only [Act.put, List.setIfInBounds_toArray, List.set_cons_zero, List.set_cons_succ]
              refine held_step (i := 9) rfl (by kernel_rfl) (fun K hK => ?_)
              go_simp; refine (KC.out _).mono ?_; rintro e wq ⟨rfl, hq⟩; obtain rfl := hq.symm; clear hq
              refine hK.out _ _ (SK.out _ ((Below.refl wr.heap.size wr).drew)) (fun hHeld => ?_)
              clear hK K
              (try simp only [Act.put, List.setIfInBounds_toArray])
              refine held_take (i := 10) (v := ?_) rfl rfl (by kernel_rfl) (by kernel_rfl) (by kernel_rfl) (fun _ _ _ h => h) (by rfl) hHeld ?_ ?_
              rotate_left
              · rintro wh ⟨d0, d4, d7, dk, dw⟩
                go_simp
                (try with_reducible rfl)
              simp only [Act.put, List.setIfInBounds_toArray, List.set_cons_zero, List.set_cons_succ]
              refine held_take (i := 11) (v := ?_) rfl rfl (by kernel_rfl) (by kernel_rfl) (by kernel_rfl) (fun _ _ _ h => h) (by rfl) hHeld ?_ ?_
              rotate_left
              · rintro wh ⟨d0, d4, d7, dk, dw⟩
                go_simp
                (try with_reducible rfl)
              simp only [Act.put, List.setIfInBounds_toArray, List.set_cons_zero, List.set_cons_succ]
              refine wpAnyH_done (by kernel_rfl) ?_ _
              have hb1 : Below wr.heap.size wr wr.drew := (Below.refl _ _).drew
              have SK1 := Lib.hid (fun W' (h : Below wr.drew.heap.size wr.drew W') => SK.out W' (hb1.trans (h.mono hb1.size)))
              have HR1 := Lib.hid (HR.out.later hb1)
              have HA1 := Lib.hid (HA.out.later hb1)
              clear HR HA SK hb1 hHeld KA KB KC
              rw [← HM4.out]
              generalize wr.drew = w1 at *
              have c4 := HA1.out.cell 4 x4 rfl
              have c5 := HA1.out.cell 5 x5 rfl
              have c6 := HA1.out.cell 6 x6 rfl
              go_upto_region 20 with fail
              go_upto_region 21 with fail
              obtain ⟨cc, hcc⟩ : ∃ z, bits BinOp.xor .u32 (bits BinOp.and .u32 x4 x5) (bits BinOp.and .u32 ((4294967295 - x4) % 4294967296) x6) = z := ⟨_, rfl⟩
              have hn4 : (4294967295 - x4) % 4294967296 = 4294967295 - x4 := by have := HNW.out; rwa [IntKind.wrap_u32'] at this
              have HCC : Hid (bits BinOp.xor .u32 (bits BinOp.and .u32 x4 x5) (bits BinOp.and .u32 (bits BinOp.xor .u32 (if IntKind.u32.signed = true then -1 else IntKind.u32.max) x4) x6) = cc) := Lib.hid (by rw [HNT.out, ← hcc, hn4])
              rw [hcc]
              clear hcc hn4 HNT HNW c4 c5 c6
              refine wp_region_held_drew (S := (fun W' => W'.cell? ⟨G, 0, none⟩ = some (V32 x0) ∧ W'.cell? ⟨G, 4, none⟩ = some (V32 x4) ∧ W'.cell? ⟨G, 7, none⟩ = some (V32 x7) ∧ W'.cell? ⟨w.heap.size + 1, k, none⟩ = some (V32 kk) ∧ W'.cell? ⟨w.heap.size + 1 + 1 + 1, k, none⟩ = some (V32 ww))) (by kernel_rfl) (SK1.out _ ((Below.refl w1.heap.size w1).drew)) (fun hHeld => ?_)
              refine held_take (i := 0) (v := ?_) rfl rfl (by kernel_rfl) (by kernel_rfl) (by kernel_rfl) (fun _ _ _ h => h) (by rfl) hHeld ?_ ?_
              rotate_left
              · rintro wh ⟨d0, d4, d7, dk, dw⟩
                go_simp
                (try with_reducible rfl)
              simp only [Act.put, List.setIfInBounds_toArray, List.set_cons_zero, List.set_cons_succ]
              refine held_take (i := 1) (v := ?_) rfl rfl (by kernel_rfl) (by kernel_rfl) (by kernel_rfl) (fun _ _ _ h => h) (by rfl) hHeld ?_ ?_
              rotate_left
              · rintro wh ⟨d0, d4, d7, dk, dw⟩
                go_simp
                (try with_reducible rfl)
              simp only [Act.put, List.setIfInBounds_toArray, List.set_cons_zero, List.set_cons_succ]
              refine held_take (i := 2) (v := ?_) rfl rfl (by kernel_rfl) (by kernel_rfl) (by kernel_rfl) (fun _ _ _ h => h) (by rfl) hHeld ?_ ?_
              rotate_left
              · rintro wh ⟨d0, d4, d7, dk, dw⟩
                go_simp
                (try with_reducible rfl)
              simp only [Act.put, List.setIfInBounds_toArray, List.set_cons_zero, List.set_cons_succ]
              refine held_take (i := 3) (v := ?_) rfl rfl (by kernel_rfl) (by kernel_rfl) (by kernel_rfl) (fun _ _ _ h => h) (by rfl) hHeld ?_ ?_
              rotate_left
              · rintro wh ⟨d0, d4, d7, dk, dw⟩
                go_simp
                (try with_reducible rfl)
              simp only [Act.put, List.setIfInBounds_toArray, List.set_cons_zero, List.set_cons_succ]
              refine held_take (i := 4) (v := ?_) rfl rfl (by kernel_rfl) (by kernel_rfl) (by kernel_rfl) (fun _ _ _ h => h) (by rfl) hHeld ?_ ?_
              rotate_left
              · rintro wh ⟨d0, d4, d7, dk, dw⟩
                go_simp
                (try with_reducible rfl)
              simp only [Act.put, List.setIfInBounds_toArray, List.set_cons_zero, List.set_cons_succ]
              refine held_take (i := 5) (v := ?_) rfl rfl (by kernel_rfl) (by kernel_rfl) (by kernel_rfl) (fun _ _ _ h => h) (by rfl) hHeld ?_ ?_
              rotate_left
              · rintro wh ⟨d0, d4, d7, dk, dw⟩
                go_simp
                (try with_reducible rfl)
              simp only [Act.put, List.setIfInBounds_toArray, List.set_cons_zero, List.set_cons_succ]
              refine held_take (i := 6) (v := ?_) rfl rfl (by kernel_rfl) (by kernel_rfl) (by kernel_rfl) (fun _ _ _ h => h) (by rfl) hHeld ?_ ?_
              rotate_left
              · rintro wh ⟨d0, d4, d7, dk, dw⟩
                go_simp
                (try with_reducible rfl)
              simp only [Act.put, List.setIfInBounds_toArray, List.set_cons_zero, List.set_cons_succ]
              refine held_take (i := 7) (v := ?_) rfl rfl (by kernel_rfl) (by kernel_rfl) (by kernel_rfl) (fun _ _ _ h => h) (by rfl) hHeld ?_ ?_
              rotate_left
              · rintro wh ⟨d0, d4, d7, dk, dw⟩
                go_simp
                (try with_reducible rfl)
              simp only [Act.put, List.setIfInBounds_toArray, List.set_cons_zero, List.set_cons_succ]
              refine held_take (i := 8) (v := ?_) rfl rfl (by kernel_rfl) (by kernel_rfl) (by kernel_rfl) (fun _ _ _ h => h) (by rfl) hHeld ?_ ?_
              rotate_left
              · rintro wh ⟨d0, d4, d7, dk, dw⟩
                go_simp
                (try with_reducible rfl)
              simp only [Act.put, List.setIfInBounds_toArray, List.set_cons_zero, List.set_cons_succ]
              refine held_take (i := 9) (v := ?_) rfl rfl (by kernel_rfl) (by kernel_rfl) (by kernel_rfl) (fun _ _ _ h => h) (by rfl) hHeld ?_ ?_
              rotate_left
              · rintro wh ⟨d0, d4, d7, dk, dw⟩
                go_simp
                (try with_reducible rfl)
              simp only [Act.put, List.setIfInBounds_toArray, List.set_cons_zero, List.set_cons_succ]
              refine held_take (i := 10) (v := ?_) rfl rfl (by kernel_rfl) (by kernel_rfl) (by kernel_rfl) (fun _ _ _ h => h) (by rfl) hHeld ?_ ?_
              rotate_left
              · rintro wh ⟨d0, d4, d7, dk, dw⟩
                go_simp
                (try with_reducible rfl)
              simp only [Act.put, List.setIfInBounds_toArray, List.set_cons_zero, List.set_cons_succ]
              refine held_take (i := 11) (v := ?_) rfl rfl (by kernel_rfl) (by kernel_rfl) (by kernel_rfl) (fun _ _ _ h => h) (by rfl) hHeld ?_ ?_
              rotate_left
              · rintro wh ⟨d0, d4, d7, dk, dw⟩
                go_simp
                (try with_reducible rfl)
              simp only [Act.put, List.setIfInBounds_toArray, List.set_cons_zero, List.set_cons_succ]
              refine held_take (i := 12) (v := ?_) rfl rfl (by kernel_rfl) (by kernel_rfl) (by kernel_rfl) (fun _ _ _ h => h) (by rfl) hHeld ?_ ?_
              rotate_left
              · rintro wh ⟨d0, d4, d7, dk, dw⟩
                go_simp
                (try with_reducible rfl)
              simp only [Act.put, List.setIfInBounds_toArray, List.set_cons_zero, List.set_cons_succ]
              refine held_take (i := 13) (v := ?_) rfl rfl (by kernel_rfl) (by kernel_rfl) (by kernel_rfl) (fun _ _ _ h => h) (by rfl) hHeld ?_ ?_
              rotate_left
              · rintro wh ⟨d0, d4, d7, dk, dw⟩
                go_simp
                (try with_reducible rfl)
              simp only [Act.put, List.setIfInBounds_toArray, List.set_cons_zero, List.set_cons_succ]
              refine held_take (i := 14) (v := ?_) rfl rfl (by kernel_rfl) (by kernel_rfl) (by kernel_rfl) (fun _ _ _ h => h) (by rfl) hHeld ?_ ?_
              rotate_left
              · rintro wh ⟨d0, d4, d7, dk, dw⟩
                go_simp
                (try with_reducible rfl)
              simp only [Act.put, List.setIfInBounds_toArray, List.set_cons_zero, List.set_cons_succ]
              refine wpAnyH_done (by kernel_rfl) ?_ _
              have hb1 : Below w1.heap.size w1 w1.drew := (Below.refl _ _).drew
              have SK2 := Lib.hid (fun W' (h : Below w1.drew.heap.size w1.drew W') => SK1.out W' (hb1.trans (h.mono hb1.size)))
              have HR2 := Lib.hid (HR1.out.later hb1)
              have HA2 := Lib.hid (HA1.out.later hb1)
              clear HR1 HA1 SK1 hb1 hHeld
              obtain ⟨tt, htt⟩ : ∃ z, IntKind.u32.wrap (IntKind.u32.wrap (IntKind.u32.wrap (IntKind.u32.wrap (x7 + M4) + cc) + kk) + ww) = z := ⟨_, rfl⟩
              have HTT : Hid (tL M4 x4 x5 x6 x7 kk ww = tt) := Lib.hid (by unfold tL; rw [HCC.out]; exact htt)
              rw [htt]
              clear htt HCC
              generalize w1.drew = w2 at *
              go_upto_region 22 with fail
              refine wp_region_held_drew (S := (fun W' => W'.cell? ⟨G, 0, none⟩ = some (V32 x0) ∧ W'.cell? ⟨G, 4, none⟩ = some (V32 x4) ∧ W'.cell? ⟨G, 7, none⟩ = some (V32 x7) ∧ W'.cell? ⟨w.heap.size + 1, k, none⟩ = some (V32 kk) ∧ W'.cell? ⟨w.heap.size + 1 + 1 + 1, k, none⟩ = some (V32 ww))) (by kernel_rfl) (SK2.out _ ((Below.refl w2.heap.size w2).drew)) (fun hHeld => ?_)
              refine held_take (i := 0) (v := ?_) rfl rfl (by kernel_rfl) (by kernel_rfl) (by kernel_rfl) (fun _ _ _ h => h) (by rfl) hHeld ?_ ?_
              rotate_left
              · rintro wh ⟨d0, d4, d7, dk, dw⟩
                go_simp
                (try with_reducible rfl)
              simp only [Act.put, List.setIfInBounds_toArray, List.set_cons_zero, List.set_cons_succ]
              refine held_take (i := 1) (v := ?_) rfl rfl (by kernel_rfl) (by kernel_rfl) (by kernel_rfl) (fun _ _ _ h => h) (by rfl) hHeld ?_ ?_
              rotate_left
              · rintro wh ⟨d0, d4, d7, dk, dw⟩
                go_simp
                (try with_reducible rfl)
              simp only [Act.put, List.setIfInBounds_toArray, List.set_cons_zero, List.set_cons_succ]
              refine held_take (i := 3) (v := ?_) rfl rfl (by kernel_rfl) (by kernel_rfl) (by kernel_rfl) (fun _ _ _ h => h) (by rfl) hHeld ?_ ?_
              rotate_left
              · rintro wh ⟨d0, d4, d7, dk, dw⟩
                go_simp
                (try with_reducible rfl)
              simp only [Act.put, List.setIfInBounds_toArray, List.set_cons_zero, List.set_cons_succ]
              refine held_take (i := 4) (v := ?_) rfl rfl (by kernel_rfl) (by kernel_rfl) (by kernel_rfl) (fun _ _ _ h => h) (by rfl) hHeld ?_ ?_
              rotate_left
              · rintro wh ⟨d0, d4, d7, dk, dw⟩
                go_simp
                (try with_reducible rfl)
              simp only [Act.put, List.setIfInBounds_toArray, List.set_cons_zero, List.set_cons_succ]
              refine held_take (i := 7) (v := ?_) rfl rfl (by kernel_rfl) (by kernel_rfl) (by kernel_rfl) (fun _ _ _ h => h) (by rfl) hHeld ?_ ?_
              rotate_left
              · rintro wh ⟨d0, d4, d7, dk, dw⟩
                go_simp
                (try with_reducible rfl)
              simp only [Act.put, List.setIfInBounds_toArray, List.set_cons_zero, List.set_cons_succ]
              refine held_take (i := 8) (v := ?_) rfl rfl (by kernel_rfl) (by kernel_rfl) (by kernel_rfl) (fun _ _ _ h => h) (by rfl) hHeld ?_ ?_
              rotate_left
              · rintro wh ⟨d0, d4, d7, dk, dw⟩
                go_simp
                (try with_reducible rfl)
              simp only [Act.put, List.setIfInBounds_toArray, List.set_cons_zero, List.set_cons_succ]
              refine held_step (i := 2) rfl (by kernel_rfl) (fun K hK => ?_)
              go_simp; refine (KD.out _).mono ?_; rintro e wq ⟨rfl, hq⟩; obtain rfl := hq.symm; clear hq
              refine hK.out _ _ (SK2.out _ ((Below.refl w2.heap.size w2).drew)) (fun hHeld => ?_)
              clear hK K
              (try simp only [Act.put, List.setIfInBounds_toArray])
              refine held_step (i := 5) rfl (by kernel_rfl) (fun K hK => ?_)
              go_simp; refine (KE.out _).mono ?_; rintro e wq ⟨rfl, hq⟩; obtain rfl := hq.symm; clear hq
              refine hK.out _ _ (SK2.out _ ((Below.refl w2.heap.size w2).drew)) (fun hHeld => ?_)
              clear hK K
              (try simp only [Act.put, List.setIfInBounds_toArray])
              refine held_take (i := 6) (v := ?_) rfl rfl (by kernel_rfl) (by kernel_rfl) (by kernel_rfl) (fun _ _ _ h => h) (by rfl) hHeld ?_ ?_
              rotate_left
              · rintro wh ⟨d0, d4, d7, dk, dw⟩
                go_simp
                (try with_reducible rfl)
              simp only [Act.put, List.setIfInBounds_toArray, List.set_cons_zero, List.set_cons_succ]
              refine held_step (i := 9) rfl (by kernel_rfl) (fun K hK => ?_)
              go_simp; refine (KF.out _).mono ?_; rintro e wq ⟨rfl, hq⟩; obtain rfl := hq.symm; clear hq
              refine hK.out _ _ (SK2.out _ ((Below.refl w2.heap.size w2).drew)) (fun hHeld => ?_)
              clear hK K
              (try simp only [Act.put, List.setIfInBounds_toArray])
              refine held_take (i := 10) (v := ?_) rfl rfl (by kernel_rfl) (by kernel_rfl) (by kernel_rfl) (fun _ _ _ h => h) (by rfl) hHeld ?_ ?_
              rotate_left
              · rintro wh ⟨d0, d4, d7, dk, dw⟩
                go_simp
                (try with_reducible rfl)
              simp only [Act.put, List.setIfInBounds_toArray, List.set_cons_zero, List.set_cons_succ]
              refine held_take (i := 11) (v := ?_) rfl rfl (by kernel_rfl) (by kernel_rfl) (by kernel_rfl) (fun _ _ _ h => h) (by rfl) hHeld ?_ ?_
              rotate_left
              · rintro wh ⟨d0, d4, d7, dk, dw⟩
                go_simp
                (try with_reducible rfl)
              simp only [Act.put, List.setIfInBounds_toArray, List.set_cons_zero, List.set_cons_succ]
              refine wpAnyH_done (by kernel_rfl) ?_ _
              have hb1 : Below w2.heap.size w2 w2.drew := (Below.refl _ _).drew
              have HR3 := Lib.hid (HR2.out.later hb1)
              have HA3 := Lib.hid (HA2.out.later hb1)
              clear HR2 HA2 SK2 hb1 hHeld KD KE KF
              rw [← HM0.out]
              generalize w2.drew = w3 at *
              have c0 := HA3.out.cell 0 x0 rfl
              have c1 := HA3.out.cell 1 x1 rfl
              have c2 := HA3.out.cell 2 x2 rfl
              go_upto_region 24 with fail
              obtain ⟨mm, hmm⟩ : ∃ z, bits BinOp.xor .u32 (bits BinOp.xor .u32 (bits BinOp.and .u32 x0 x1) (bits BinOp.and .u32 x0 x2)) (bits BinOp.and .u32 x1 x2) = z := ⟨_, rfl⟩
              have HUU : Hid (uL M0 x0 x1 x2 = (M0 + mm) % 4294967296) := Lib.hid (by unfold uL; rw [hmm, IntKind.wrap_u32'])
              rw [hmm]
              clear hmm HM4 HM0
              have c3 := HA3.out.cell 3 x3 rfl
              have c4 := HA3.out.cell 4 x4 rfl
              have c5 := HA3.out.cell 5 x5 rfl
              have c6 := HA3.out.cell 6 x6 rfl
              have c7 := HA3.out.cell 7 x7 rfl
              have f0 := HA3.out.free 0
              have f1 := HA3.out.free 1
              have f2 := HA3.out.free 2
              have f3 := HA3.out.free 3
              have f4 := HA3.out.free 4
              have f5 := HA3.out.free 5
              have f6 := HA3.out.free 6
              have f7 := HA3.out.free 7
              go_upto_region 18 with fail
              obtain ⟨W6, hW6⟩ : ∃ z, ((((((((w3.setCell ⟨G, 0, none⟩ (.int .u32 ((tt + M0 + mm) % 4294967296))).setCell ⟨G, 1, none⟩ (.int .u32 x0)).setCell ⟨G, 2, none⟩ (.int .u32 x1)).setCell ⟨G, 3, none⟩ (.int .u32 x2)).setCell ⟨G, 4, none⟩ (.int .u32 ((x3 + tt) % 4294967296))).setCell ⟨G, 5, none⟩ (.int .u32 x4)).setCell ⟨G, 6, none⟩ (.int .u32 x5)).setCell ⟨G, 7, none⟩ (.int .u32 x6)) = z := ⟨_, rfl⟩
              rw [hW6]
              have hq : (tt + (M0 + mm) % 4294967296) % 4294967296 = (tt + M0 + mm) % 4294967296 := by omega
              have he : roundL [x0, x1, x2, x3, x4, x5, x6, x7] kk ww = [(tt + M0 + mm) % 4294967296, x0, x1, x2, (x3 + tt) % 4294967296, x4, x5, x6] := by
                rw [show roundL [x0, x1, x2, x3, x4, x5, x6, x7] kk ww = [(tL (mixW 6 11 25 0 x4) x4 x5 x6 x7 kk ww + uL (mixW 2 13 22 0 x0) x0 x1 x2) % 4294967296, x0, x1, x2, (x3 + tL (mixW 6 11 25 0 x4) x4 x5 x6 x7 kk ww) % 4294967296, x4, x5, x6] from rfl, HMM.out.1, HMM.out.2, HTT.out, HUU.out, hq]
              have HAZ : Hid (VAt W6 G (roundsL S [v0, v1, v2, v3, v4, v5, v6, v7] (k + 1))) := Lib.hid (by
                rw [HN.out, he, ← hW6]
                exact ((((((((HA3.out.put 0 ((tt + M0 + mm) % 4294967296)).put 1 x0).put 2 x1).put 3 x2).put 4 ((x3 + tt) % 4294967296)).put 5 x4).put 6 x5).put 7 x6))
              have HRZ : Hid (RSt w W6 [v0, v1, v2, v3, v4, v5, v6, v7] S) := Lib.hid (by
                rw [← hW6]
                exact ((((((((HR3.out.else_ hG 0 (.int .u32 ((tt + M0 + mm) % 4294967296))).else_ hG 1 (.int .u32 x0)).else_ hG 2 (.int .u32 x1)).else_ hG 3 (.int .u32 x2)).else_ hG 4 (.int .u32 ((x3 + tt) % 4294967296))).else_ hG 5 (.int .u32 x4)).else_ hG 6 (.int .u32 x5)).else_ hG 7 (.int .u32 x6)))
              have HUZ : Hid (∀ x ∈ roundsL S [v0, v1, v2, v3, v4, v5, v6, v7] (k + 1), W32 x) := Lib.hid (by
                rw [HN.out, he]
                intro x hx
                simp only [List.mem_cons, List.mem_nil_iff, or_false] at hx
                rcases hx with rfl | rfl | rfl | rfl | rfl | rfl | rfl | rfl
                · exact w32_mod _
                · exact HU.out _ (by simp)
                · exact HU.out _ (by simp)
                · exact HU.out _ (by simp)
                · exact w32_mod _
                · exact HU.out _ (by simp)
                · exact HU.out _ (by simp)
                · exact HU.out _ (by simp))
              clear hW6 hq he HR3 HA3 HN HU HTT HUU HMM c0 c1 c2 c3 c4 c5 c6 c7 f0 f1 f2 f3 f4 f5 f6 f7
              go_wp2
              go_roundw
              case rel => exact ⟨k + 1, by omega, by go_num, HRZ, HAZ, HUZ⟩
              case measure => (simp [intOf]; try omega)
            · obtain rfl : k = 64 := by omega
              rw [show ((64 : Nat) : Int) = 64 from rfl]
              obtain ⟨U, hU⟩ : ∃ U, roundsL S [v0, v1, v2, v3, v4, v5, v6, v7] 64 = U := ⟨_, rfl⟩
              have HUE := Lib.hid hU
              rw [hU] at HA HU
              clear hU
              have hUl := HA.out.1
              have hGl : G < wr.heap.size := (Array.getElem?_eq_some_iff.1 HA.out.2).1
              have HA5 : Hid (VAt wr G (partL U [v0, v1, v2, v3, v4, v5, v6, v7] 0)) := Lib.hid (by rw [partL_zero hUl]; exact HA.out)
              clear HA
              go_upto_region 26 with fail
              go_loopw [20] (fun vi wr => ∃ j : Nat, j ≤ 8 ∧ vi = .int .i64 j ∧ Hid (RSt w wr [v0, v1, v2, v3, v4, v5, v6, v7] S) ∧ Hid (VAt wr G (partL U [v0, v1, v2, v3, v4, v5, v6, v7] j))) (fun vi _ => 8 - (intOf vi).toNat)
              case atStart => exact ⟨0, Nat.zero_le _, rfl, HR, HA5⟩
              case round =>
                clear HR HA5
                obtain ⟨j, hj, rfl, HR, HA⟩ := hrel
                by_cases hjl : j < 8
                · obtain ⟨x, hx⟩ : ∃ x, U.getD j 0 = x := ⟨_, rfl⟩
                  obtain ⟨y, hy⟩ : ∃ y, [v0, v1, v2, v3, v4, v5, v6, v7].getD j 0 = y := ⟨_, rfl⟩
                  have hsc := partL_succ U [v0, v1, v2, v3, v4, v5, v6, v7] j hjl
                  have hpa := partL_at U [v0, v1, v2, v3, v4, v5, v6, v7] j hjl
                  rw [hx, hy] at hsc
                  rw [hx] at hpa
                  have hpl := HA.out.1
                  have cx := HA.out.cell j x (by rw [← hpa, List.getD_eq_getElem?_getD, List.getElem?_eq_getElem (by omega)]; rfl)
                  have cy := HR.out.h.cell (j := j) (x := y) (by rw [← hy, List.getD_eq_getElem?_getD, List.getElem?_eq_getElem (by exact hjl)]; rfl)
                  have fx := HA.out.free j
                  have hput := HA.out.put j ((x + y) % 4294967296)
                  rw [hsc] at hput
                  have HPA : Hid (VAt (wr.setCell ⟨G, j, none⟩ (.int .u32 ((x + y) % 4294967296))).drew G (partL U [v0, v1, v2, v3, v4, v5, v6, v7] (j + 1))) := Lib.hid hput
                  have HPR : Hid (RSt w (wr.setCell ⟨G, j, none⟩ (.int .u32 ((x + y) % 4294967296))).drew [v0, v1, v2, v3, v4, v5, v6, v7] S) := Lib.hid ((HR.out.else_ hG j (.int .u32 ((x + y) % 4294967296))).later (Below.refl _ _).drew)
                  have hj8 : (j : Int) < 8 := by omega
                  have CX := Lib.hid cx
                  have CY := Lib.hid cy
                  have FX := Lib.hid fx
                  clear hx hy hsc hpa hput fx HR HA
                  go_wp2
                  go_still_tail 8, (by kernel_rfl)
                  have cx : wr.drew.cell? ⟨G, j, none⟩ = some (V32 x) := CX.out
                  have fx : wr.drew.frozen? ⟨G, j, none⟩ = false := FX.out
                  go_wp2
                  go_roundw
                  case rel => exact ⟨j + 1, by omega, by go_num, HPR, HPA⟩
                  case measure => (simp [intOf]; try omega)
                · obtain rfl : j = 8 := by omega
                  rw [partL_all] at HA
                  have hadd : addL U [v0, v1, v2, v3, v4, v5, v6, v7] = blockL bs [v0, v1, v2, v3, v4, v5, v6, v7] := by
                    unfold blockL addL
                    rw [HSE.out, HUE.out]
                    exact List.map_congr_left (fun i _ => by rw [Int.add_comm])
                  have HAD := Lib.hid hadd
                  rw [hadd] at HA
                  have hUl := HA.out.1
                  obtain ⟨Z, hZ⟩ : ∃ Z, blockL bs [v0, v1, v2, v3, v4, v5, v6, v7] = Z := ⟨_, rfl⟩
                  rw [hZ] at HA hUl
                  obtain ⟨x0, x1, x2, x3, x4, x5, x6, x7, rfl⟩ : ∃ x0 x1 x2 x3 x4 x5 x6 x7, Z = [x0, x1, x2, x3, x4, x5, x6, x7] := by
                    match Z, hUl with
                    | [x0, x1, x2, x3, x4, x5, x6, x7], _ => exact ⟨x0, x1, x2, x3, x4, x5, x6, x7, rfl⟩
                  have c0 := HA.out.cell 0 x0 rfl
                  have c1 := HA.out.cell 1 x1 rfl
                  have c2 := HA.out.cell 2 x2 rfl
                  have c3 := HA.out.cell 3 x3 rfl
                  have c4 := HA.out.cell 4 x4 rfl
                  have c5 := HA.out.cell 5 x5 rfl
                  have c6 := HA.out.cell 6 x6 rfl
                  have c7 := HA.out.cell 7 x7 rfl
                  have g0 := there_free HR.out.r 0 (by decide)
                  have g1 := there_free HR.out.r 1 (by decide)
                  have g2 := there_free HR.out.r 2 (by decide)
                  have g3 := there_free HR.out.r 3 (by decide)
                  have g4 := there_free HR.out.r 4 (by decide)
                  have g5 := there_free HR.out.r 5 (by decide)
                  have g6 := there_free HR.out.r 6 (by decide)
                  have g7 := there_free HR.out.r 7 (by decide)
                  obtain ⟨z0, e0⟩ := there_cell8 HR.out.r 0 (by decide)
                  obtain ⟨z1, e1⟩ := there_cell8 HR.out.r 1 (by decide)
                  obtain ⟨z2, e2⟩ := there_cell8 HR.out.r 2 (by decide)
                  obtain ⟨z3, e3⟩ := there_cell8 HR.out.r 3 (by decide)
                  obtain ⟨z4, e4⟩ := there_cell8 HR.out.r 4 (by decide)
                  obtain ⟨z5, e5⟩ := there_cell8 HR.out.r 5 (by decide)
                  obtain ⟨z6, e6⟩ := there_cell8 HR.out.r 6 (by decide)
                  obtain ⟨z7, e7⟩ := there_cell8 HR.out.r 7 (by decide)
                  have HZ := Lib.hid hZ
                  clear hZ hadd HAD
                  go_wp2
                  refine bodyPost_ret (results_agg1 rfl _ _ (w.heap.size + 1 + 1) [V32 x0, V32 x1, V32 x2, V32 x3, V32 x4, V32 x5, V32 x6, V32 x7] (.array 8 32) rfl (World.rangeAt_setCells_same _ (w.heap.size + 1 + 1) 0 [V32 x0, V32 x1, V32 x2, V32 x3, V32 x4, V32 x5, V32 x6, V32 x7] HR.out.r) Try.underlying121 rfl (by kernel_rfl)) rfl ?_
                  exact ⟨by rw [HZ.out]; rfl, below_puts (g := w.heap.size + 1 + 1) (o := 0) HR.out.b (by omega) [V32 x0, V32 x1, V32 x2, V32 x3, V32 x4, V32 x5, V32 x6, V32 x7]⟩
end Go.Proofs.Ytipnhpfpppblhaa

/- The pattern's builder, said plainly: states, the reading of a class, of an atom, of a row. No program in sight. -/
namespace Go.Proofs.Ytipnhpfpppblhaa
open Go.RowKit
structure St where
  set : Option (Nat → Bool)
  next : Nat
  free : List Nat
structure Bs where
  pos : Nat
  err : Int
  sts : List St
inductive Md where
  | either
  | alts (p : Nat × Nat)
  | row
  | parts (p : Nat × Nat)
  | atom
/-! lengths, places -/
def tot (l : List St) : Nat := (l.map fun x => 1 + x.free.length).sum
theorem free_tot (l : List St) (x : St) (h : x ∈ l) : x.free.length ≤ tot l := by
  induction l with
  | nil => cases h
  | cons y l ih =>
    rcases List.mem_cons.1 h with rfl | h
    · simp [tot]; omega
    · have := ih h; simp [tot] at this ⊢; omega
structure Gd (b b' : Bs) (c : Nat) : Prop where
  pos : b.pos ≤ b'.pos
  len : b.sts.length ≤ b'.sts.length
  tot : tot b'.sts ≤ tot b.sts + c + 6 * (b'.pos - b.pos)
theorem Gd.trans {a b c : Bs} {m n : Nat} (h : Gd a b m) (h' : Gd b c n) : Gd a c (m + n) := by
  obtain ⟨h1, h2, h3⟩ := h
  obtain ⟨h4, h5, h6⟩ := h'
  exact ⟨by omega, by omega, by omega⟩
def costM : Md → Nat
  | .either => 5
  | .alts _ => 3
  | .row => 1
  | .parts _ => 0
  | .atom => 0
structure RunOk (s : ByteArray) (md : Md) (d : Nat) (b : Bs) (r : Bs × (Nat × Nat)) : Prop where
  gd : Gd b r.1 (costM md)
  p1 : r.2.1 < r.1.sts.length
  p2 : r.2.2 < r.1.sts.length
  top : r.1.pos ≤ s.size + 12 - d
  more : md = .atom → b.pos < r.1.pos ∧ tot r.1.sts + 1 ≤ tot b.sts + 6 * (r.1.pos - b.pos)
end Go.Proofs.Ytipnhpfpppblhaa

/- The pattern's builder in memory: which blocks it owns, what lies there, what a step turns. -/
namespace Go.Proofs.Ytipnhpfpppblhaa
open Go.RowKit
/-! what may change: blocks of own, and new ones -/
structure Keep (own : Nat → Prop) (w w' : World) : Prop where
  os : w'.os = w.os
  tape : w'.tape = w.tape
  output : w'.output = w.output
  size : w.heap.size ≤ w'.heap.size
  block : ∀ k, k < w.heap.size → ¬ own k → w'.heap[k]? = w.heap[k]?
theorem Keep.refl (own : Nat → Prop) (w : World) : Keep own w w := ⟨rfl, rfl, rfl, Nat.le_refl _, fun _ _ _ => rfl⟩
theorem Keep.trans {own own' : Nat → Prop} {a b c : World} (h : Keep own a b) (h' : Keep own' b c) (hs : ∀ k, own' k → own k ∨ a.heap.size ≤ k) : Keep own a c :=
  ⟨h'.os.trans h.os, h'.tape.trans h.tape, h'.output.trans h.output, Nat.le_trans h.size h'.size, fun k hk hn =>
    (h'.block k (Nat.lt_of_lt_of_le hk h.size) (fun h0 => by rcases hs k h0 with h1 | h1; (· exact hn h1); (· omega))).trans (h.block k hk hn)⟩
theorem Keep.mono {own own' : Nat → Prop} {a b : World} (h : Keep own a b) (hs : ∀ k, own k → own' k) : Keep own' a b := ⟨h.os, h.tape, h.output, h.size, fun k hk hn => h.block k hk (fun h0 => hn (hs k h0))⟩
theorem Keep.below {own : Nat → Prop} {a b : World} {B : Nat} (h : Keep own a b) (hB : B ≤ a.heap.size) (hs : ∀ k, own k → B ≤ k) : Below B a b := ⟨h.os, h.tape, h.output, h.size, fun k hk => h.block k (by omega) (fun h0 => by have := hs k h0; omega)⟩
theorem Keep.setCell {own : Nat → Prop} {a b : World} (h : Keep own a b) {p : Addr} (hp : own p.block) (v : Value) : Keep own a (b.setCell p v) :=
  ⟨h.os, h.tape, h.output, by simpa using h.size, fun k hk hn => (heap_setCell_other b p k v (fun e => hn (e ▸ hp))).trans (h.block k hk hn)⟩
theorem Keep.grown {own : Nat → Prop} {a b c : World} (h : Keep own a b) {row : Option Nat} (hg : b.grownBy c row) (hr : ∀ k, row = some k → own k ∨ a.heap.size ≤ k) : Keep own a c :=
  ⟨hg.os.trans h.os, hg.tape.trans h.tape, hg.output.trans h.output, Nat.le_trans h.size hg.size, fun k hk hn =>
    (hg.block k (Nat.lt_of_lt_of_le hk h.size) (fun e => by rcases hr k e.symm with h1 | h1; (· exact hn h1); (· omega))).trans (h.block k hk hn)⟩
theorem Keep.drew {own : Nat → Prop} {a b : World} (h : Keep own a b) : Keep own a b.drew := ⟨h.os, h.tape, h.output, h.size, h.block⟩
theorem Keep.alloc {own : Nat → Prop} {a b : World} (h : Keep own a b) (o : Obj) : Keep own a (b.alloc o) :=
  ⟨h.os, h.tape, h.output, by rw [World.size_alloc]; have := h.size; omega, fun k hk hn => (Below.heap_alloc b o k (Nat.lt_of_lt_of_le hk h.size)).trans (h.block k hk hn)⟩
def Stp (own : Nat → Prop) (w : World) (own' : Nat → Prop) (w' : World) : Prop := Keep own w w' ∧ ∀ k, own' k → own k ∨ w.heap.size ≤ k
theorem Stp.refl (own : Nat → Prop) (w : World) : Stp own w own w := ⟨Keep.refl own w, fun _ h => .inl h⟩
theorem Stp.trans {o1 o2 o3 : Nat → Prop} {a b c : World} (h : Stp o1 a o2 b) (h' : Stp o2 b o3 c) : Stp o1 a o3 c :=
  ⟨h.1.trans h'.1 h.2, fun k hk => by
    rcases h'.2 k hk with h0 | h0
    · exact h.2 k h0
    · exact .inr (Nat.le_trans h.1.size h0)⟩
theorem Stp.setCell {own : Nat → Prop} {w : World} {p : Addr} (hp : own p.block) (v : Value) : Stp own w own (w.setCell p v) := ⟨(Keep.refl own w).setCell hp v, fun _ h => .inl h⟩
/-! a set of bytes in memory: four words -/
/-! rows owned, kept -/
/-! the states -/
def freeC (l : List Nat) : List Value := l.map fun (n : Nat) => Value.int .i64 (n : Int)
end Go.Proofs.Ytipnhpfpppblhaa

/- pattern's builder: peek, fail: contracts. -/
namespace Go.Proofs.Ytipnhpfpppblhaa
open Go.RowKit
end Go.Proofs.Ytipnhpfpppblhaa

/- pattern's builder: node, free, one: contracts. -/
namespace Go.Proofs.Ytipnhpfpppblhaa
open Go.RowKit
end Go.Proofs.Ytipnhpfpppblhaa

/- pattern's builder: a state's bytes: the plain part, and one's walk. -/
namespace Go.Proofs.Ytipnhpfpppblhaa
open Go.RowKit
end Go.Proofs.Ytipnhpfpppblhaa

/- pattern's sets of bytes: add, turn, has: contracts. -/
namespace Go.Proofs.Ytipnhpfpppblhaa
open Go.RowKit
end Go.Proofs.Ytipnhpfpppblhaa

/- pattern's builder: sign: a contract. -/
namespace Go.Proofs.Ytipnhpfpppblhaa
open Go.RowKit
end Go.Proofs.Ytipnhpfpppblhaa

/- pattern's builder: class: a contract. -/
namespace Go.Proofs.Ytipnhpfpppblhaa
open Go.RowKit
end Go.Proofs.Ytipnhpfpppblhaa

/- pattern's builder beside boxes of the caller's: what is carried from call to call. -/
namespace Go.Proofs.Ytipnhpfpppblhaa
open Go.RowKit
end Go.Proofs.Ytipnhpfpppblhaa

/- pattern's builder: times: a contract. -/
namespace Go.Proofs.Ytipnhpfpppblhaa
open Go.RowKit
end Go.Proofs.Ytipnhpfpppblhaa

/- pattern's builder: atom: a contract, out of either's. -/
namespace Go.Proofs.Ytipnhpfpppblhaa
open Go.RowKit
end Go.Proofs.Ytipnhpfpppblhaa

/- pattern's builder: row, either: contracts; the three together. -/
namespace Go.Proofs.Ytipnhpfpppblhaa
open Go.RowKit
end Go.Proofs.Ytipnhpfpppblhaa

/- pattern.Read, pattern.Right: contracts. -/
namespace Go.Proofs.Ytipnhpfpppblhaa
open Go.RowKit
end Go.Proofs.Ytipnhpfpppblhaa

/- Going on without a byte, said plainly; the builder's states are well made. No program in sight. -/
namespace Go.Proofs.Ytipnhpfpppblhaa
def frees (sts : List St) (k : Nat) : List Nat := match sts[k]? with
  | some x => x.free
  | none => []
inductive FR (sts : List St) : Nat → Nat → Prop
  | refl (k : Nat) : FR sts k k
  | step {j k f : Nat} : FR sts j k → f ∈ frees sts k → FR sts j f
def Cl (sts : List St) (l : List Nat) (k : Nat) : Prop := ∃ j ∈ l, FR sts j k
def SWf (sts : List St) : Prop := ∀ x ∈ sts, (∀ f ∈ x.free, f < sts.length) ∧ x.next < sts.length
theorem frees_lt {sts : List St} (h : SWf sts) {k f : Nat} (hf : f ∈ frees sts k) : f < sts.length := by
  unfold frees at hf
  split at hf
  · rename_i x hx
    exact (h x (List.mem_of_getElem? hx)).1 f hf
  · cases hf
theorem frees_len (sts : List St) (k : Nat) : (frees sts k).length ≤ tot sts := by
  unfold frees
  split
  · rename_i x hx
    exact free_tot sts x (List.mem_of_getElem? hx)
  · simp
structure ReInv (sts : List St) (l out todo : List Nat) : Prop where
  nd : out.Nodup
  so : ∀ k ∈ out, Cl sts l k
  st : ∀ k ∈ todo, Cl sts l k
  c1 : ∀ j ∈ l, j ∈ out ∨ j ∈ todo
  c2 : ∀ k ∈ out, ∀ f ∈ frees sts k, f ∈ out ∨ f ∈ todo
  bo : ∀ k ∈ out, k < sts.length
  bt : ∀ k ∈ todo, k < sts.length
theorem ReInv.start (sts : List St) (l : List Nat) (hl : ∀ j ∈ l, j < sts.length) : ReInv sts l [] l :=
  ⟨List.nodup_nil, (fun _ h => by cases h), fun k h => ⟨k, h, .refl k⟩, fun _ h => .inr h, (fun _ h => by cases h), (fun _ h => by cases h), hl⟩
theorem ReInv.seen {sts : List St} {l out t : List Nat} {k : Nat} (h : ReInv sts l out (t ++ [k])) (hk : k ∈ out) : ReInv sts l out t := by
  have key : ∀ x, x ∈ t ++ [k] → x ∈ out ∨ x ∈ t := fun x hx => by
    rcases List.mem_append.1 hx with h1 | h1
    · exact .inr h1
    · rw [List.mem_singleton.1 h1]; exact .inl hk
  refine ⟨h.nd, h.so, fun x hx => h.st x (List.mem_append_left _ hx), fun j hj => ?_, fun x hx f hf => ?_, h.bo, fun x hx => h.bt x (List.mem_append_left _ hx)⟩
  · rcases h.c1 j hj with h1 | h1
    · exact .inl h1
    · exact key j h1
  · rcases h.c2 x hx f hf with h1 | h1
    · exact .inl h1
    · exact key f h1
theorem ReInv.new {sts : List St} {l out t : List Nat} {k : Nat} (hw : SWf sts) (h : ReInv sts l out (t ++ [k])) (hk : k ∉ out) : ReInv sts l (out ++ [k]) (t ++ frees sts k) := by
  have hkt : k ∈ t ++ [k] := List.mem_append_right _ (List.mem_singleton.2 rfl)
  have key : ∀ x, x ∈ t ++ [k] → x ∈ out ++ [k] ∨ x ∈ t ++ frees sts k := fun x hx => by
    rcases List.mem_append.1 hx with h1 | h1
    · exact .inr (List.mem_append_left _ h1)
    · exact .inl (List.mem_append_right _ h1)
  refine ⟨?_, ?_, ?_, ?_, ?_, ?_, ?_⟩
  · refine List.nodup_append.2 ⟨h.nd, by simp, fun a ha b hb => ?_⟩
    rw [List.mem_singleton.1 hb]
    exact fun e => hk (e ▸ ha)
  · intro x hx
    rcases List.mem_append.1 hx with h1 | h1
    · exact h.so x h1
    · rw [List.mem_singleton.1 h1]; exact h.st k hkt
  · intro x hx
    rcases List.mem_append.1 hx with h1 | h1
    · exact h.st x (List.mem_append_left _ h1)
    · obtain ⟨j, hj, hr⟩ := h.st k hkt
      exact ⟨j, hj, .step hr h1⟩
  · intro j hj
    rcases h.c1 j hj with h1 | h1
    · exact .inl (List.mem_append_left _ h1)
    · exact key j h1
  · intro x hx f hf
    rcases List.mem_append.1 hx with h1 | h1
    · rcases h.c2 x h1 f hf with h2 | h2
      · exact .inl (List.mem_append_left _ h2)
      · exact key f h2
    · rw [List.mem_singleton.1 h1] at hf
      exact .inr (List.mem_append_right _ hf)
  · intro x hx
    rcases List.mem_append.1 hx with h1 | h1
    · exact h.bo x h1
    · rw [List.mem_singleton.1 h1]; exact h.bt k hkt
  · intro x hx
    rcases List.mem_append.1 hx with h1 | h1
    · exact h.bt x (List.mem_append_left _ h1)
    · exact frees_lt hw h1
theorem nodup_lt : ∀ {n : Nat} {l : List Nat}, l.Nodup → (∀ k ∈ l, k < n) → l.length ≤ n
  | 0, [], _, _ => Nat.le_refl _
  | 0, k :: _, _, h => absurd (h k List.mem_cons_self) (Nat.not_lt_zero k)
  | n + 1, l, hd, hb => by
    have h1 := nodup_lt (n := n) (l := l.erase n) (hd.erase n) (fun k hk => by
      obtain ⟨h2, h3⟩ := (hd.mem_erase_iff).1 hk
      have := hb k h3
      omega)
    by_cases hm : n ∈ l
    · rw [List.length_erase_of_mem hm] at h1; omega
    · rw [List.erase_of_not_mem hm] at h1; omega
/-! the builder's states are well made -/
end Go.Proofs.Ytipnhpfpppblhaa

/- pattern's reach: a contract. -/
namespace Go.Proofs.Ytipnhpfpppblhaa
open Go.RowKit Go.Sort Go.Maps
/-! slices of ints: what a sort leaves -/
/-! a set of numbers, as a map of bools -/
def SeenAt (w : World) (b n : Nat) (S : Nat → Bool) : Prop := ∃ D : DataW Unit, w.ownsMap Try.prog 3 (plainElem Try.prog 4) b n D ∧ IsMap D ∧ ∀ k : Nat, D.atKey (.int .i64 k) (.lit (.bool false)) = .lit (.bool (S k))
theorem SeenAt.made (w : World) : SeenAt (w.alloc (.map #[] 0)) w.heap.size 0 (fun _ => false) := ⟨.map [], World.ownsMap_made _ _ _ _, isMap_empty, fun _ => rfl⟩
theorem SeenAt.lt {w : World} {b n : Nat} {S : Nat → Bool} (h : SeenAt w b n S) : b < w.heap.size := by
  obtain ⟨D, h, _⟩ := h
  exact h.lt
theorem SeenAt.kept {w w' : World} {b n : Nat} {S : Nat → Bool} {row : Option Nat} (h : SeenAt w b n S) (hg : w.grownBy w' row) (hne : some b ≠ row) : SeenAt w' b n S := by
  obtain ⟨D, h1, h2⟩ := h
  exact ⟨D, h1.kept hg hne, h2⟩
theorem SeenAt.put {w' : World} {b n : Nat} {D : DataW Unit} {S : Nat → Bool} (hD : IsMap D) (hS : ∀ k : Nat, D.atKey (.int .i64 k) (.lit (.bool false)) = .lit (.bool (S k))) (k : Nat) (h : w'.ownsMap Try.prog 3 (plainElem Try.prog 4) b n (D.put (.int .i64 (k : Int)) (.lit (.bool true)))) : SeenAt w' b n (fun j => S j || decide (j = k)) := by
  refine ⟨_, h, hD.put _ _, fun j => ?_⟩
  by_cases hj : j = k
  · subst hj
    rw [atKey_put_same hD (show WideAt.IsKeyLit (.int .i64 (j : Int)) from trivial)]; simp
  · rw [atKey_put_other (by simp; omega), hS j]; simp [hj]
theorem wpList_append_rd2 {P : Program} {w : World} {ops : Array Oper} {rest : List Oper} {o : Oper} {a : Act} {Q : Exit → Act → World → Prop} (hgd : o.guard = none) (s x : Operand) (t : TypeId)
    (ho : o.op = .call { callee := .builtin .append, args := #[s, x], argTypes := #[t, t] })
    (base : Nat) (e : TypeId) (i : TypeInfo) (z : Value) (size bytes : Nat) (ht : P.underlying t = some (.slice e)) (hi : P.info? e = some i) (hz : i.zero = some z)
    (hsize : i.size = size) (hby : i.bytes = bytes) (hzs : z.cells.size = size) (hsz : 0 < size)
    (v : Value) (n : Nat) (xs : List Value) (hs : a.eval s = v) (hown : w.ownsRow base e size v n xs)
    (u : Value) (m : Nat) (news : List Value) (hx : a.eval x = u) (hu : RdAt w u m size news) (h1 : ∀ y ∈ news, y.oneCell' = true)
    (h63 : n + m ≤ maxLen) (hbytes : (n + m) * bytes ≤ 140737488355328) (hbase : base ≤ w.heap.size)
    (h : ∀ v' w', w'.ownsRow base e size v' (n + m) (xs ++ news) → w.grownBy w' v.ownBlock → (v'.ownBlock = v.ownBlock ∨ v'.ownBlock = some w.heap.size) → wpList P ops Q rest (a.put o.dst v') w') : wpList P ops Q (o :: rest) a w := by
  refine wpList_plain hgd fun K hK => ?_
  obtain ⟨v', w', hr, h2, h3, h4⟩ := run_append_rd (P := P) w t o.type base e i z size bytes ht hi hz hsize hby hzs hsz v n xs hown u m news hu h1 h63 hbytes hbase
  unfold Oper.wp execOp
  simp only [ho, resolve, invoke, builtin, Sem.run_bind, Sem.run_pure, Result.andThen_ok, List.map_toArray, List.map_cons, List.map_nil, hs, hx, hr]
  exact hK _ _ (h v' w' h2 h3 h4)
structure ReAt (w : World) (m : Nat) (sts : List St) (l out todo : List Nat) (vo vt : Value) (wr : World) : Prop where
  ge : w.heap.size ≤ m
  below : Below w.heap.size w wr
  inv : ReInv sts l out todo
  seen : ∃ n, n ≤ out.length ∧ SeenAt wr m n (fun k => decide (k ∈ out))
  ro : wr.ownsRow w.heap.size 3 1 vo out.length (freeC out)
  rt : wr.ownsRow w.heap.size 3 1 vt todo.length (freeC todo)
  mo : vo.ownBlock ≠ some m
  mt : vt.ownBlock ≠ some m
  ot : vo.ownBlock = none ∨ vo.ownBlock ≠ vt.ownBlock
  len : todo.length ≤ l.length + out.length * tot sts
theorem ReAt.bound {w : World} {m : Nat} {sts : List St} {l out todo : List Nat} {vo vt : Value} {wr : World} (h : ReAt w m sts l out todo vo vt wr) : out.length ≤ sts.length := nodup_lt h.inv.nd h.inv.bo
theorem freeC_snoc (l : List Nat) (k : Nat) : freeC (l ++ [k]) = freeC l ++ [.int .i64 k] := by simp [freeC]
theorem freeC_app (l r : List Nat) : freeC (l ++ r) = freeC l ++ freeC r := by simp [freeC]
theorem own_lt {w : World} {base : Nat} {e : TypeId} {size : Nat} {v : Value} {n : Nat} {xs : List Value} (h : w.ownsRow base e size v n xs) {k : Nat} (hk : v.ownBlock = some k) : k < w.heap.size := (h.lt k hk).2
theorem ReAt.more {w : World} {m : Nat} {sts : List St} {l out t : List Nat} {k gt tc go oc : Nat} {vo vt' : Value} {wr w1 w2 w3 : World} {o : Obj} (hw : SWf sts) (h : ReAt w m sts l out (t ++ [k]) vo (.slice (some ⟨gt, 0, none⟩) (t.length + 1) tc) wr) (hk : k ∉ out)
    (n : Nat) (hn : n ≤ out.length) (hs1 : SeenAt w1 m (n + 1) (fun j => decide (j ∈ out) || decide (j = k))) (hg1 : wr.grownBy w1 (some m))
    (ho2 : w2.ownsRow w.heap.size 3 1 (.slice (some ⟨go, 0, none⟩) (out.length + 1) oc) (out.length + 1) (freeC out ++ [.int .i64 k])) (hg2 : (w1.alloc o).grownBy w2 vo.ownBlock) (ha2 : vo.ownBlock = some go ∨ go = w1.heap.size + 1)
    (hr3 : w3.ownsRow w.heap.size 3 1 vt' (t.length + (frees sts k).length) (freeC t ++ freeC (frees sts k))) (hg3 : w2.grownBy w3 (some gt)) (ha3 : vt'.ownBlock = some gt ∨ vt'.ownBlock = some w2.heap.size) :
    ReAt w m sts l (out ++ [k]) (t ++ frees sts k) (.slice (some ⟨go, 0, none⟩) (out.length + 1) oc) vt' w3 := by
  have hgm := (own_lt h.rt rfl : gt < wr.heap.size)
  obtain ⟨n0, _, hs0⟩ := h.seen
  have hml := hs0.lt
  have hg1s := hg1.size
  have hg2s : w1.heap.size + 1 ≤ w2.heap.size := by have := hg2.size; rw [World.size_alloc] at this; exact this
  have hgom : go ≠ m := by
    rcases ha2 with e | e
    · exact fun e' => h.mo (e' ▸ e)
    · omega
  have hgt : gt ≠ m := fun e => h.mt (by rw [← e]; rfl)
  have hgog : go ≠ gt := by
    rcases ha2 with e | e
    · rcases h.ot with h1 | h1
      · rw [h1] at e; cases e
      · exact fun e' => h1 (by rw [e, e']; rfl)
    · omega
  have hvom : vo.ownBlock ≠ some m := h.mo
  have hbase : ∀ j, (Value.slice (some ⟨gt, 0, none⟩) (t.length + 1) tc).ownBlock = some j → w.heap.size ≤ j := fun j e => (h.rt.lt j e).1
  have b1 : Below w.heap.size w w1 := h.below.grown hg1 h.below.size (fun j e => by cases e; exact h.ge)
  have b1' : Below w.heap.size w (w1.alloc o) := b1.alloc b1.size o
  have b2 : Below w.heap.size w w2 := b1'.grown hg2 b1'.size (fun j e => (h.ro.lt j e).1)
  have b3 : Below w.heap.size w w3 := b2.grown hg3 b2.size (fun j e => by cases e; exact hbase gt rfl)
  refine ⟨h.ge, b3, h.inv.new hw hk, ⟨n + 1, by simp; omega, ?_⟩, ?_, ?_, ?_, ?_, ?_, ?_⟩
  · have hs2 : SeenAt w2 m (n + 1) (fun j => decide (j ∈ out) || decide (j = k)) := SeenAt.kept (row := vo.ownBlock) (SeenAt.kept (row := none) hs1 (World.grownBy_alloc w1 o none) (by simp)) hg2 (fun e => hvom e.symm)
    have hs3 := SeenAt.kept (row := some gt) hs2 hg3 (fun e => hgt (Option.some.inj e).symm)
    have hf : (fun j => decide (j ∈ out ++ [k])) = (fun j => decide (j ∈ out) || decide (j = k)) := by
      funext j
      rw [Bool.eq_iff_iff]
      simp
    rw [hf]
    exact hs3
  · rw [List.length_append, freeC_snoc]
    exact ho2.kept hg3 (.inr (fun e => hgog (Option.some.inj e)))
  · rw [List.length_append, freeC_app]
    exact hr3
  · exact fun e => hgom (Option.some.inj e)
  · rcases ha3 with e | e
    · rw [e]; exact fun e' => hgt (Option.some.inj e')
    · rw [e]; exact fun e' => by have := Option.some.inj e'; omega
  · refine .inr (fun e => ?_)
    rcases ha3 with e' | e'
    · rw [e'] at e; exact hgog (Option.some.inj e)
    · rw [e'] at e
      have h5 : go = w2.heap.size := Option.some.inj e
      have h4 := own_lt ho2 (k := go) rfl
      omega
  · have h1 := h.len
    have h2 := frees_len sts k
    simp only [List.length_append, List.length_cons, List.length_nil] at h1 ⊢
    rw [Nat.add_mul]
    omega
end Go.Proofs.Ytipnhpfpppblhaa

/- lychgateref02.Of: a contract: it is what digest.Of hands back. -/
namespace Go.Proofs.Ytipnhpfpppblhaa
open Go.RowKit
theorem padN_is (n : Nat) : (n + 1 + padN (n % 64)) % 64 = 56 ∧ ∀ m, m < padN (n % 64) → (n + 1 + m) % 64 ≠ 56 := by
  have h := Nat.mod_lt n (show 0 < 64 by decide)
  unfold padN
  split
  · exact ⟨by omega, fun m hm => by omega⟩
  · exact ⟨by omega, fun m hm => by omega⟩
theorem padN_lt (n : Nat) : padN (n % 64) < 64 := by
  have h := Nat.mod_lt n (show 0 < 64 by decide)
  unfold padN
  split <;> omega
theorem addL_word (V U : List Int) : ∀ x ∈ addL V U, W32 x := by
  intro x hx
  obtain ⟨i, _, rfl⟩ := List.mem_map.1 (show x ∈ (List.range 8).map _ from hx)
  exact w32_mod _
theorem blocks_word (B : List Int) : ∀ k, ∀ x ∈ blocksL startL B k, W32 x
  | 0 => by intro x hx; exact (show ∀ x ∈ startL, 0 ≤ x ∧ x < 4294967296 by decide) x hx
  | k + 1 => by intro x hx; exact addL_word _ _ x hx
def lenS : Value → Nat
  | .slice _ n _ => n
  | _ => 0
theorem by_append (a b : List Int) : (a ++ b).map V8 = a.map V8 ++ b.map V8 := List.map_append
theorem exec_loadR {o : Oper} {a : Act} {w : World} (ty : TypeId) (x : Operand) (ho : o.op = .load ty x) (b : Nat) (hx : a.eval x = .pointer (some ⟨b, 0, none⟩)) (cs : Array Value) (t : TypeId) (d : TypeDesc)
    (hc : w.heap[b]? = some (.cells cs t (0, 0))) (hu : Try.prog.underlying ty = some d) (hd : d.isRow = true) (hi : (Try.prog.info? ty).map (·.size) = some cs.size) : (execOp a.eval o).run Try.prog w = .ok (.value (.agg cs)) w := by
  have hr : w.rangeAt b 0 cs.toList := fun j v hv => by
    rw [Nat.zero_add, cell_row hc]
    simpa using hv
  unfold execOp
  simp only [ho, hx]
  rw [Sem.run_bind, run_loadAt_mid w b 0 ty cs.toList d hr hu hd (by simpa using hi)]
  simp
structure OfSt (w wr : World) (H base : Nat) (vm : Value) (B V : List Int) : Prop where
  h : VR wr H V 121
  k : wr.heap[H + 1]? = some (.cells keysV 123 (0, 0))
  r : wr.heap[w.heap.size]? = some (.cells (Array.replicate 32 (.int .u8 0)) 106 (0, 0))
  o : wr.ownsRow base 5 1 vm B.length (B.map V8)
  b : Below w.heap.size w wr
theorem OfSt.later {w wr W : World} {H base : Nat} {vm : Value} {B V : List Int} (h : OfSt w wr H base vm B V) (hb : Below wr.heap.size wr W) : OfSt w W H base vm B V :=
  ⟨h.h.later hb, by rw [hb.block _ (Array.getElem?_eq_some_iff.1 h.k).1]; exact h.k, by rw [hb.block _ (Array.getElem?_eq_some_iff.1 h.r).1]; exact h.r, own_later h.o hb, h.b.trans (hb.mono h.b.size)⟩
theorem OfSt.put {w wr : World} {H base : Nat} {vm : Value} {B V : List Int} (h : OfSt w wr H base vm B V) (hw : w.heap.size < H) (hH : H < base) (j : Nat) (x : Int) : OfSt w (wr.setCell ⟨H, j, none⟩ (V32 x)) H base vm B (V.set j x) :=
  ⟨h.h.put j x, by rw [heap_else _ _ _ _ _ (by omega)]; exact h.k, by rw [heap_else _ _ _ _ _ (by omega)]; exact h.r, h.o.kept (grown_setCell wr H j _) (by
    cases e : vm.ownBlock with
    | none => exact .inl rfl
    | some g => right; intro e2; have := (h.o.lt g e).1; cases e2; omega), h.b.trans (below_setCell wr _ _ _ (by omega))⟩
theorem whole_byte {bs : List Int} (hB : ByteL bs) : ByteL (wholeL bs) := by
  have := pad_bytes hB (padN (bs.length % 64)) (IntKind.u64.wrap (IntKind.u64.wrap bs.length * 8))
  rw [List.append_nil] at this
  exact this
theorem OfSt.block {w wr : World} {H base g c : Nat} {B V : List Int} (h : OfSt w wr H base (.slice (some ⟨g, 0, none⟩) B.length c) B V) (hB : ByteL B) (z : Nat) (hz : z + 64 ≤ B.length) : Bytes8 wr ⟨g, z, none⟩ ((B.drop z).take 64) := by
  have hl : ((B.drop z).take 64).length = 64 := by rw [List.length_take, List.length_drop]; omega
  refine ⟨g, z, rfl, (h.o.lt g rfl).2, fun j hj => ?_⟩
  have hjz : z + j < B.length := by omega
  have e : ((B.drop z).take 64)[j] = B[z + j] := by rw [List.getElem_take, List.getElem_drop]
  have hc := h.o.cells (g := g) rfl (z + j) (V8 B[z + j]) (by rw [List.getElem?_map, List.getElem?_eq_getElem hjz]; rfl)
  rw [Addr.add_mid, Nat.zero_add] at hc
  rw [e]
  exact ⟨hc, hB _ (List.getElem_mem hjz)⟩
set_option maxHeartbeats 60000000 in
set_option maxRecDepth 100000 in
theorem rof2_any (bs : List Int) (v : Value) (w : World) (hb : ByAt w v bs) (hB : ByteL bs) (hl : bs.length ≤ 1000000000000) :
    Calls Try.prog 56 #[v] w fun e w' => e = .returned (.agg ((ofL bs).map V8).toArray) ∧ Below w.heap.size w w' := by
  obtain ⟨i0, hi, hz0, hz1, hz2⟩ := info_parts info_u8
  obtain ⟨va, vc, rfl, hvc, _⟩ := RdAt.shape hb
  have hb0 := alloc_below w (.cells (Array.replicate 32 (.int .u8 0)) 106)
  have hz := World.size_alloc w (.cells (Array.replicate 32 (.int .u8 0)) 106)
  have hR0 : (w.alloc (.cells (Array.replicate 32 (.int .u8 0)) 106)).heap[w.heap.size]? = some (.cells (Array.replicate 32 (.int .u8 0)) 106 (0, 0)) := heap_alloc_new _ _
  have hv0 := hb.later hb0
  clear hb
  go_enter Try.func56, Try.ntmps56
  go_upto_region 1 with fail
  change Code.wp _ _ _ _ (w.alloc (.cells (Array.replicate 32 (.int .u8 0)) 106))
  generalize w.alloc (.cells (Array.replicate 32 (.int .u8 0)) 106) = w0 at *
  have hlt0 : w.heap.size < w0.heap.size := by omega
  clear hz
  have k1 := rstart_any w0
  go_wp2_with fail
  refine k1.mono ?_
  rintro e w1 ⟨rfl, hb1⟩
  have k2 := rkeys_any w1
  go_wp2_with fail
  refine k2.mono ?_
  rintro e w2 ⟨rfl, hb2⟩
  have hb12 := hb1.trans (hb2.mono hb1.size)
  have HV2 := Lib.hid (hv0.later hb12)
  have HR2 : Hid (w2.heap[w.heap.size]? = some (.cells (Array.replicate 32 (.int .u8 0)) 106 (0, 0))) := Lib.hid (by rw [hb12.block _ hlt0]; exact hR0)
  have HB2 := Lib.hid (hb0.trans (hb12.mono hb0.size))
  have hlt2 : w.heap.size < w2.heap.size := Nat.lt_of_lt_of_le hlt0 hb12.size
  clear k1 k2 hb1 hb2 hb12 hv0 hR0 hb0 hlt0
  obtain ⟨WA, hWA⟩ : ∃ z, (w2.alloc (.cells (Array.replicate 8 (V32 0)) 121)).alloc (.cells (Array.replicate 64 (V32 0)) 123) = z := ⟨_, rfl⟩
  have hgA : WA.heap[w2.heap.size]? = some (.cells (Array.replicate 8 (V32 0)) 121 (0, 0)) := by
    rw [← hWA]
    have hba := alloc_below (w2.alloc (.cells (Array.replicate 8 (V32 0)) 121)) (.cells (Array.replicate 64 (V32 0)) 123)
    rw [hba.block _ (by rw [World.size_alloc]; omega), heap_alloc_new]
  have hgB : WA.heap[w2.heap.size + 1]? = some (.cells (Array.replicate 64 (V32 0)) 123 (0, 0)) := by
    rw [← hWA]
    have := heap_alloc_new (w2.alloc (.cells (Array.replicate 8 (V32 0)) 121)) (.cells (Array.replicate 64 (V32 0)) 123)
    rwa [World.size_alloc] at this
  have hbA : Below w2.heap.size w2 WA := by rw [← hWA]; exact ((Below.refl _ _).alloc (Nat.le_refl _) _).alloc (by simp) _
  have hsA : WA.heap.size = w2.heap.size + 1 + 1 := by rw [← hWA, World.size_alloc, World.size_alloc]
  have hgB2 : (WA.setRow w2.heap.size startV).heap[w2.heap.size + 1]? = some (.cells (Array.replicate 64 (V32 0)) 123 (0, 0)) := by rw [setRow_other _ _ _ _ (by omega)]; exact hgB
  go_upto_region 2 with (first | (refine wpList_store_row rfl 121 (.tmp 3) (.tmp 15) rfl w2.heap.size startV rfl rfl 121 _ (by rw [← hWA] at hgA; exact hgA) (by kernel_rfl) (by rfl) (by kernel_rfl) ?_) | (refine wpList_store_row rfl 123 (.tmp 4) (.tmp 16) rfl (w2.heap.size + 1) keysV rfl rfl 123 _ (by rw [← hWA] at hgB2; exact hgB2) (by kernel_rfl) (by rfl) (by kernel_rfl) ?_))
  have hw3 : VR ((WA.setRow w2.heap.size startV).setRow (w2.heap.size + 1) keysV) w2.heap.size startL 121 := by
    unfold VR; rw [setRow_other _ _ _ _ (by omega)]; exact setRow_heap _ _ _ _ _ _ hgA
  have hk3 := setRow_heap _ _ _ keysV _ _ hgB2
  have hs3 : ((WA.setRow w2.heap.size startV).setRow (w2.heap.size + 1) keysV).heap.size = w2.heap.size + 1 + 1 := by rw [setRow_size, setRow_size, hsA]
  have hb3 : Below w2.heap.size w2 ((WA.setRow w2.heap.size startV).setRow (w2.heap.size + 1) keysV) := below_setRow (below_setRow hbA (Nat.le_refl _) _) (by omega) _
  subst hWA
  change Code.wp _ _ _ _ ((((w2.alloc (.cells (Array.replicate 8 (V32 0)) 121)).alloc (.cells (Array.replicate 64 (V32 0)) 123)).setRow w2.heap.size startV).setRow (w2.heap.size + 1) keysV)
  generalize (((w2.alloc (.cells (Array.replicate 8 (V32 0)) 121)).alloc (.cells (Array.replicate 64 (V32 0)) 123)).setRow w2.heap.size startV).setRow (w2.heap.size + 1) keysV = w3 at *
  have HV3 := Lib.hid (HV2.out.later hb3)
  have HR3 : Hid (w3.heap[w.heap.size]? = some (.cells (Array.replicate 32 (.int .u8 0)) 106 (0, 0))) := Lib.hid (by rw [hb3.block _ hlt2]; exact HR2.out)
  have HB3 := Lib.hid (HB2.out.trans (hb3.mono HB2.out.size))
  have HH3 := Lib.hid hw3
  have HK3 := Lib.hid hk3
  obtain ⟨H, hH⟩ : ∃ H, w2.heap.size = H := ⟨_, rfl⟩
  rw [hH] at HH3 HK3 hs3 hlt2
  try rw [hH]
  clear hgA hgB hgB2 hbA hsA hw3 hk3 hb3 HV2 HR2 HB2 hH w2
  have hn0 : 0 + bs.length ≤ maxLen := by unfold maxLen; omega
  have hn1 : (0 + bs.length) * 1 ≤ 140737488355328 := by omega
  have hn2 : 0 + bs.length + 1 ≤ maxLen := by unfold maxLen; omega
  have hn3 : (0 + bs.length + 1) * 1 ≤ 140737488355328 := by omega
  have h128 : ∀ y ∈ [V8 128], y.oneCell' = true := by simp [Value.oneCell']
  go_upto_region 3 with (first
    | (at_builtin; (refine wpList_append_rd2 rfl (.const (.slice none 0 0)) (.tmp 17) 103 rfl w3.heap.size 5 i0 (.int .u8 0) 1 1 Try.underlying103 hi hz0 hz1 hz2 rfl (by decide) _ 0 [] rfl (World.ownsRow_nil _ _ _ _) _ bs.length _ rfl HV3.out (v8_cells _) hn0 hn1 (Nat.le_refl _) ?_); intro m1 u1 hown1 hgrow1 _; have ho1 := hown1.alloc (.cells #[V8 128] 5); have hbb1 := ((Below.refl w3.heap.size w3).grown hgrow1 (Nat.le_refl _) (fun j hj => by cases hj)).alloc (by have := hgrow1.size; exact this) (.cells #[V8 128] 5))
    | (at_builtin; (refine wpList_append_rd2 rfl (.tmp 18) (.tmp 19) 103 rfl w3.heap.size 5 i0 (.int .u8 0) 1 1 Try.underlying103 hi hz0 hz1 hz2 rfl (by decide) _ _ _ rfl ho1 _ 1 _ rfl (rd_one8 u1 (V8 128) 5) h128 hn2 hn3 hbb1.size ?_); intro m2 u2 hown2 hgrow2 _))
  have hb2 := hbb1.grown hgrow2 hbb1.size (fun k hk => (ho1.lt k hk).1)
  have HO2 : Hid (u2.ownsRow w3.heap.size 5 1 m2 (bs.length + 1 + 0) ((bs ++ [128] ++ List.replicate 0 0).map V8)) := Lib.hid (by
    have := hown2
    rw [List.nil_append] at this
    simpa [by_append, Nat.zero_add] using this)
  clear hown1 hgrow1 ho1 hbb1 hown2 hgrow2 hn0 hn1 hn2 hn3 h128
  have hpd := padN_is bs.length
  have hpl := padN_lt bs.length
  obtain ⟨M, hM⟩ : ∃ M, padN (bs.length % 64) = M := ⟨_, rfl⟩
  have HM := Lib.hid hM
  rw [hM] at hpd hpl
  have HPD := Lib.hid hpd
  clear hpd hM
  go_loopw [5] (fun vm wr => ∃ m : Nat, m ≤ M ∧ Hid (wr.ownsRow w3.heap.size 5 1 vm (bs.length + 1 + m) ((bs ++ [128] ++ List.replicate m 0).map V8)) ∧ Below w3.heap.size w3 wr) (fun vm _ => bs.length + 1 + M - lenS vm)
  case atStart => exact ⟨0, Nat.zero_le _, HO2, hb2⟩
  case round =>
    clear HO2 hb2
    obtain ⟨m, hm, HO, hbr⟩ := hrel
    obtain ⟨a2, c2, rfl, hc2, -⟩ := RdAt.shape (RdAt.own HO.out)
    obtain ⟨n, hn⟩ : ∃ n, bs.length + 1 + m = n := ⟨_, rfl⟩
    have hn62 : n ≤ 1000000000100 := by omega
    by_cases hmM : m < M
    · have hne := HPD.out.2 m hmM
      rw [hn] at hne HO hc2 ⊢
      have hnb : ((n : Int) % 64 != 56) = true := by rw [bne_iff_ne]; omega
      have hrd := rd_one8 wr (V8 0) 5
      have hoa := HO.out.alloc (.cells #[V8 0] 5)
      have hba := hbr.alloc hbr.size (.cells #[V8 0] 5)
      have hx0 : ∀ y ∈ [V8 0], y.oneCell' = true := by simp [Value.oneCell']
      have hx1 : n + 1 ≤ maxLen := by unfold maxLen; omega
      have hx2 : (n + 1) * 1 ≤ 140737488355328 := by omega
      go_wp2_with (at_builtin; (refine wpList_append_rd2 rfl (.tmp 25) (.tmp 26) 103 rfl w3.heap.size 5 i0 (.int .u8 0) 1 1 Try.underlying103 hi hz0 hz1 hz2 rfl (by decide) _ _ _ rfl hoa _ 1 _ rfl hrd hx0 hx1 hx2 hba.size ?_); intro v3 w4 hown3 hgrow3 _)
      have hb4 := hba.grown hgrow3 hba.size (fun k hk => (hoa.lt k hk).1)
      have HO4 := Lib.hid hown3
      obtain ⟨a3, c3, rfl, -, -⟩ := RdAt.shape (RdAt.own hown3)
      clear hown3 hgrow3 hoa hba hrd hx0 hx1 hx2 HO
      go_roundw
      case rel =>
        refine ⟨m + 1, by omega, Lib.hid ?_, hb4⟩
        have := HO4.out
        rw [show bs.length + 1 + (m + 1) = n + 1 by omega, List.replicate_succ', ← List.append_assoc, List.map_append]
        exact this
      case measure => (show _ - (n + 1) < _ - n; omega)
    · obtain rfl : m = M := by omega
      have hnb : ((n : Int) % 64 != 56) = false := by rw [bne_eq_false_iff_eq]; have := HPD.out.1; omega
      rw [hn] at HO hc2 ⊢
      obtain ⟨L, hL⟩ : ∃ L, bs ++ [128] ++ List.replicate m 0 = L := ⟨_, rfl⟩
      have HL := Lib.hid hL
      rw [hL] at HO
      have HLL : Hid (L.length = n) := Lib.hid (by rw [← hL]; simp; omega)
      clear hL
      go_upto_region 7 with fail
      obtain ⟨NN, hNN⟩ : ∃ NN : Nat, bs.length * 8 = NN := ⟨_, rfl⟩
      have hNc : (bs.length : Int) * 8 = (NN : Int) := by omega
      rw [hNc]
      have HNN := Lib.hid hNN
      clear hNN hNc
      have hb0' : Hid (wr.ownsRow w3.heap.size 5 1 (.slice a2 n c2) (n + 0) ((L ++ lenL (NN : Int) 0).map V8)) := Lib.hid (by simpa [lenL] using HO.out)
      go_loopw [7, 5] (fun vi vm wr => ∃ k : Nat, k ≤ 8 ∧ vi = .int .i64 (7 - (k : Int)) ∧ Hid (wr.ownsRow w3.heap.size 5 1 vm (n + k) ((L ++ lenL (NN : Int) k).map V8)) ∧ Below w3.heap.size w3 wr) (fun vi _ _ => (intOf vi + 1).toNat)
      case atStart => exact ⟨0, Nat.zero_le _, rfl, hb0', hbr⟩
      case round =>
        clear hb0' HO hbr
        obtain ⟨k, hk, rfl, HO, hbr⟩ := hrel
        obtain ⟨a4, c4, rfl, hc4, -⟩ := RdAt.shape (RdAt.own HO.out)
        by_cases hk8 : k < 8
        · obtain ⟨q, hq⟩ : ∃ q : Nat, q + k = 7 := ⟨7 - k, by omega⟩
          have hqi : 7 - (k : Int) = (q : Int) := by omega
          rw [hqi]
          have hq0 : (0 : Int) ≤ (q : Int) := by omega
          go_upto_region 11 with fail
          have HO0 := HO
          go_loopw [9, 8] (fun vj vn wr => ∃ j : Nat, j ≤ q ∧ vj = .int .i64 j ∧ vn = .int .u64 ((NN / 256 ^ j : Nat) : Int) ∧ Hid (wr.ownsRow w3.heap.size 5 1 (.slice a4 (n + k) c4) (n + k) ((L ++ lenL (NN : Int) k).map V8)) ∧ Below w3.heap.size w3 wr) (fun vj _ _ => q - (intOf vj).toNat)
          case atStart => exact ⟨0, Nat.zero_le _, rfl, by rw [Nat.pow_zero, Nat.div_one], HO0, hbr⟩
          case round =>
            clear HO HO0 hbr
            obtain ⟨j, hj, rfl, rfl, HO, hbr⟩ := hrel
            have HND : Hid (NN / 256 ^ (j + 1) = NN / 256 ^ j / 256) := Lib.hid (by rw [Nat.pow_succ, Nat.div_div_eq_div_mul])
            have hyb : NN / 256 ^ j ≤ NN := Nat.div_le_self _ _
            have hNb : NN ≤ 8000000000000 := by have := HNN.out; omega
            obtain ⟨y, hy⟩ : ∃ y, NN / 256 ^ j = y := ⟨_, rfl⟩
            rw [hy] at HND hyb ⊢
            have hy0 : (0 : Int) ≤ (y : Int) := by omega
            have hy1 : (y : Int) ≤ 8000000000000 := by omega
            by_cases hjq : j < q
            · clear hy
              go_wp2
              go_roundw
              case rel => exact ⟨j + 1, by omega, by go_num, by rw [HND.out]; rfl, HO, hbr⟩
              case measure => (simp [intOf]; try omega)
            · obtain rfl : j = q := by omega
              have HBT : Hid ((y : Int) % 256 = (NN : Int) / 2 ^ (56 - 8 * k) % 256) := Lib.hid (by
                rw [← hy, show 56 - 8 * k = 8 * j by omega, Int.natCast_ediv, Int.natCast_pow, Int.pow_mul]; rfl)
              obtain ⟨x, hx⟩ : ∃ x, (y : Int) % 256 = x := ⟨_, rfl⟩
              have hx0 : 0 ≤ x := by omega
              have hx1 : x < 256 := by omega
              have HBX : Hid (x = (NN : Int) / 2 ^ (56 - 8 * k) % 256) := Lib.hid (by rw [← hx]; exact HBT.out)
              have hrd := rd_one8 wr (V8 x) 5
              have hoa := HO.out.alloc (.cells #[V8 x] 5)
              have hba := hbr.alloc hbr.size (.cells #[V8 x] 5)
              have hz0' : ∀ y ∈ [V8 x], y.oneCell' = true := by simp [Value.oneCell']
              have hz1' : n + k + 1 ≤ maxLen := by unfold maxLen; omega
              have hz2' : (n + k + 1) * 1 ≤ 140737488355328 := by omega
              have hwx : IntKind.u8.wrap x = x := by rw [IntKind.wrap_u8']; omega
              clear hy HND HBT
              go_wp2_with (at_builtin; (refine wpList_append_rd2 rfl (.tmp 44) (.tmp 48) 103 rfl w3.heap.size 5 i0 (.int .u8 0) 1 1 Try.underlying103 hi hz0 hz1 hz2 rfl (by decide) _ _ _ rfl hoa _ 1 _ rfl hrd hz0' hz1' hz2' hba.size ?_); intro v3 w4 hown3 hgrow3 _)
              have hb4 := hba.grown hgrow3 hba.size (fun k hk => (hoa.lt k hk).1)
              have HO4 : Hid (w4.ownsRow w3.heap.size 5 1 v3 (n + (k + 1)) ((L ++ lenL (NN : Int) (k + 1)).map V8)) := Lib.hid (by
                have := hown3
                rw [lenL_succ, ← HBX.out, ← List.append_assoc, List.map_append]
                exact this)
              clear hown3 hgrow3 hoa hba hrd hz0' hz1' hz2' HO
              go_roundw
              case rel => exact ⟨k + 1, by omega, by first | (congr 1; omega) | go_num, HO4, hb4⟩
              case measure => (simp [intOf]; try omega)
        · obtain rfl : k = 8 := by omega
          rw [show (7 : Int) - ((8 : Nat) : Int) = -1 from rfl]
          have hWL : L ++ lenL (NN : Int) 8 = wholeL bs := by
            unfold wholeL
            rw [← HL.out, HM.out]
            congr 2
            have := HNN.out
            rw [IntWalk.u64_in (bs.length : Int) ⟨by omega, by omega⟩, IntWalk.u64_in ((bs.length : Int) * 8) ⟨by omega, by omega⟩]
            omega
          obtain ⟨B, hBd⟩ : ∃ B, wholeL bs = B := ⟨_, rfl⟩
          have hBl : B.length = n + 8 := by rw [← hBd, ← hWL, List.length_append, HLL.out, lenL_len]
          have hB64 : 64 ∣ B.length := by rw [← hBd]; exact wholeL_len bs
          have HBB : Hid (ByteL B) := Lib.hid (by rw [← hBd]; exact whole_byte hB)
          rw [hWL, hBd, ← hBl] at HO
          rw [← hBl]
          have HBD := Lib.hid hBd
          obtain ⟨T, hT⟩ : ∃ T, B.length = 64 * T := ⟨B.length / 64, by omega⟩
          have HTT := Lib.hid hT
          have hBn : B.length ≤ 1000000000200 := by omega
          have hB0 : 0 < B.length := by omega
          have hlH : H + 1 < w3.heap.size := by omega
          have HST : Hid (OfSt w wr H w3.heap.size (.slice a4 B.length c4) B (blocksL startL B 0)) := Lib.hid ⟨(by unfold VR; rw [hbr.block _ (by omega)]; exact HH3.out), by rw [hbr.block _ hlH]; exact HK3.out, by rw [hbr.block _ (by omega)]; exact HR3.out, HO.out, HB3.out.trans (hbr.mono HB3.out.size)⟩
          have hshp : ∃ g, a4 = some ⟨g, 0, none⟩ ∧ B.length ≤ c4 := by
            rcases HO.out.2 with ⟨h1, h2⟩ | ⟨g, c, cur, h1, _, _, h3, _⟩
            · omega
            · simp only [Value.slice.injEq] at h1
              exact ⟨g, h1.1, by rw [h1.2.2]; exact h3⟩
          obtain ⟨g, rfl, hgc⟩ := hshp
          clear hWL hBd hB64 hbr HO HH3 HK3 HR3 HB3 HV3 HL HLL HNN hs3
          generalize w3.heap.size = Z at *
          clear hT hBl
          have hHZ : H < Z := by omega
          go_upto_region 16 with fail
          go_loopw [10] (fun va wr => ∃ t : Nat, t ≤ T ∧ va = .int .i64 ((64 * t : Nat) : Int) ∧ Hid (OfSt w wr H Z (.slice (some ⟨g, 0, none⟩) B.length c4) B (blocksL startL B t))) (fun va _ => B.length - (intOf va).toNat)
          case atStart => exact ⟨0, Nat.zero_le _, rfl, HST⟩
          case round =>
            clear HST
            obtain ⟨t, ht, rfl, HS⟩ := hrel
            by_cases htT : t < T
            · obtain ⟨z, hz⟩ : ∃ z, 64 * t = z := ⟨_, rfl⟩
              have hzB : z + 64 ≤ B.length := by have := HTT.out; omega
              obtain ⟨V, hV⟩ : ∃ V, blocksL startL B t = V := ⟨_, rfl⟩
              have hVl : V.length = 8 := by rw [← hV]; exact blocksL_len rfl t
              have HVW : Hid (∀ x ∈ V, W32 x) := Lib.hid (by rw [← hV]; exact blocks_word B t)
              have HN : Hid (blocksL startL B (t + 1) = blockL ((B.drop z).take 64) V) := Lib.hid (by rw [blocksL, hV, hz])
              rw [hV] at HS
              obtain ⟨v0, v1, v2, v3, v4, v5, v6, v7, rfl⟩ : ∃ x0 x1 x2 x3 x4 x5 x6 x7, V = [x0, x1, x2, x3, x4, x5, x6, x7] := by
                match V, hVl with
                | [x0, x1, x2, x3, x4, x5, x6, x7], _ => exact ⟨x0, x1, x2, x3, x4, x5, x6, x7, rfl⟩
              have hd64 : ((B.drop z).take 64).length = 64 := by rw [List.length_take, List.length_drop]; omega
              have KR : Hid (∀ W, Below wr.heap.size wr W → Calls Try.prog 73 #[.agg #[V32 v0, V32 v1, V32 v2, V32 v3, V32 v4, V32 v5, V32 v6, V32 v7], .agg keysV, .slice (some ⟨g, z, none⟩) 64 (c4 - z)] W fun e w' => ∃ y0 y1 y2 y3 y4 y5 y6 y7, e = .returned (.agg #[V32 y0, V32 y1, V32 y2, V32 y3, V32 y4, V32 y5, V32 y6, V32 y7]) ∧ blockL ((B.drop z).take 64) [v0, v1, v2, v3, v4, v5, v6, v7] = [y0, y1, y2, y3, y4, y5, y6, y7] ∧ Below W.heap.size W w') := Lib.hid (fun W hW => by
                refine (rround_any ((B.drop z).take 64) v0 v1 v2 v3 v4 v5 v6 v7 ⟨g, z, none⟩ (c4 - z) W hd64 ((HS.out.later hW).block HBB.out z hzB) HVW.out).mono ?_
                rintro e w' ⟨rfl, hb⟩
                have hl : (blockL ((B.drop z).take 64) [v0, v1, v2, v3, v4, v5, v6, v7]).length = 8 := by unfold blockL addL; simp
                generalize blockL ((B.drop z).take 64) [v0, v1, v2, v3, v4, v5, v6, v7] = Y at *
                match Y, hl with
                | [y0, y1, y2, y3, y4, y5, y6, y7], _ => exact ⟨y0, y1, y2, y3, y4, y5, y6, y7, rfl, rfl, hb⟩)
              have SK : Hid (∀ W', Below wr.heap.size wr W' → (W'.cell? ⟨H, 0, none⟩ = some (V32 v0) ∧ W'.cell? ⟨H, 1, none⟩ = some (V32 v1) ∧ W'.cell? ⟨H, 2, none⟩ = some (V32 v2) ∧ W'.cell? ⟨H, 3, none⟩ = some (V32 v3) ∧ W'.cell? ⟨H, 4, none⟩ = some (V32 v4) ∧ W'.cell? ⟨H, 5, none⟩ = some (V32 v5) ∧ W'.cell? ⟨H, 6, none⟩ = some (V32 v6) ∧ W'.cell? ⟨H, 7, none⟩ = some (V32 v7)) ∧ W'.heap[H + 1]? = some (.cells keysV 123 (0, 0))) := Lib.hid (fun W' h =>
                ⟨⟨(HS.out.later h).h.cell (j := 0) rfl, (HS.out.later h).h.cell (j := 1) rfl, (HS.out.later h).h.cell (j := 2) rfl, (HS.out.later h).h.cell (j := 3) rfl, (HS.out.later h).h.cell (j := 4) rfl, (HS.out.later h).h.cell (j := 5) rfl, (HS.out.later h).h.cell (j := 6) rfl, (HS.out.later h).h.cell (j := 7) rfl⟩, (HS.out.later h).k⟩)
              have hz0 : (0 : Int) ≤ (z : Int) := by omega
              have hz1 : (z : Int) + 64 ≤ (B.length : Int) := by omega
              have hz2 : (z : Int) < (B.length : Int) := by omega
              have hz3 : (z : Int) + 64 ≤ (c4 : Int) := by omega
              have hw64 : IntKind.i64.wrap ((z : Int) + 64) = (z : Int) + 64 := by rw [IntKind.wrap_i64]; omega
              have hs64 : ((z : Int) + 64 - (z : Int)).toNat = 64 := by omega
              have hzc : ¬ (c4 = z) := by omega
              rw [hz]
              go_upto_region 18 with fail
              refine wp_region_heldS 8 (S := (fun W' => (W'.cell? ⟨H, 0, none⟩ = some (V32 v0) ∧ W'.cell? ⟨H, 1, none⟩ = some (V32 v1) ∧ W'.cell? ⟨H, 2, none⟩ = some (V32 v2) ∧ W'.cell? ⟨H, 3, none⟩ = some (V32 v3) ∧ W'.cell? ⟨H, 4, none⟩ = some (V32 v4) ∧ W'.cell? ⟨H, 5, none⟩ = some (V32 v5) ∧ W'.cell? ⟨H, 6, none⟩ = some (V32 v6) ∧ W'.cell? ⟨H, 7, none⟩ = some (V32 v7)) ∧ W'.heap[H + 1]? = some (.cells keysV 123 (0, 0)))) (by kernel_rfl) (SK.out _ ((Below.refl wr.heap.size wr).drew)) (fun hHeld => ?_)
              refine heldS_take (i := 0) (v := ?_) rfl rfl (by kernel_rfl) (by kernel_rfl) (by kernel_rfl) (by kernel_rfl) (by kernel_rfl) (fun _ _ _ h => h) (by rfl) hHeld ?_ ?_
              rotate_left
              · rintro wh ⟨⟨d0, d1, d2, d3, d4, d5, d6, d7⟩, dk⟩
                go_simp
                (try with_reducible rfl)
              simp only [Act.put, List.setIfInBounds_toArray, List.set_cons_zero, List.set_cons_succ]
              refine heldS_take (i := 1) (v := ?_) rfl rfl (by kernel_rfl) (by kernel_rfl) (by kernel_rfl) (by kernel_rfl) (by kernel_rfl) (fun _ _ _ h => h) (by rfl) hHeld ?_ ?_
              rotate_left
              · rintro wh ⟨⟨d0, d1, d2, d3, d4, d5, d6, d7⟩, dk⟩
                refine exec_loadR 123 (.tmp 4) ?_ (H + 1) ?_ keysV 123 (.array 64 32) dk ?_ ?_ ?_
                · rfl
                · rfl
                · exact Try.underlying123
                · rfl
                · kernel_rfl
              simp only [Act.put, List.setIfInBounds_toArray, List.set_cons_zero, List.set_cons_succ]
              refine heldS_take (i := 2) (v := ?_) rfl rfl (by kernel_rfl) (by kernel_rfl) (by kernel_rfl) (by kernel_rfl) (by kernel_rfl) (fun _ _ _ h => h) (by rfl) hHeld ?_ ?_
              rotate_left
              · rintro wh ⟨⟨d0, d1, d2, d3, d4, d5, d6, d7⟩, dk⟩
                go_simp
                (try with_reducible rfl)
              simp only [Act.put, List.setIfInBounds_toArray, List.set_cons_zero, List.set_cons_succ]
              refine heldS_take (i := 3) (v := ?_) rfl rfl (by kernel_rfl) (by kernel_rfl) (by kernel_rfl) (by kernel_rfl) (by kernel_rfl) (fun _ _ _ h => h) (by rfl) hHeld ?_ ?_
              rotate_left
              · rintro wh ⟨⟨d0, d1, d2, d3, d4, d5, d6, d7⟩, dk⟩
                go_simp
                (try with_reducible rfl)
              simp only [Act.put, List.setIfInBounds_toArray, List.set_cons_zero, List.set_cons_succ]
              refine heldS_take (i := 4) (v := ?_) rfl rfl (by kernel_rfl) (by kernel_rfl) (by kernel_rfl) (by kernel_rfl) (by kernel_rfl) (fun _ _ _ h => h) (by rfl) hHeld ?_ ?_
              rotate_left
              · rintro wh ⟨⟨d0, d1, d2, d3, d4, d5, d6, d7⟩, dk⟩
                go_simp
                (try with_reducible rfl)
              simp only [Act.put, List.setIfInBounds_toArray, List.set_cons_zero, List.set_cons_succ]
              refine heldS_take (i := 5) (v := ?_) rfl rfl (by kernel_rfl) (by kernel_rfl) (by kernel_rfl) (by kernel_rfl) (by kernel_rfl) (fun _ _ _ h => h) (by rfl) hHeld ?_ ?_
              rotate_left
              · rintro wh ⟨⟨d0, d1, d2, d3, d4, d5, d6, d7⟩, dk⟩
                go_simp
                (try with_reducible rfl)
              simp only [Act.put, List.setIfInBounds_toArray, List.set_cons_zero, List.set_cons_succ]
              refine heldS_take (i := 6) (v := ?_) rfl rfl (by kernel_rfl) (by kernel_rfl) (by kernel_rfl) (by kernel_rfl) (by kernel_rfl) (fun _ _ _ h => h) (by rfl) hHeld ?_ ?_
              rotate_left
              · rintro wh ⟨⟨d0, d1, d2, d3, d4, d5, d6, d7⟩, dk⟩
                go_simp
                rw [if_pos (by omega), if_pos (by omega), show ((z : Int) + 64).toNat - z = 64 by omega]
              simp only [Act.put, List.setIfInBounds_toArray, List.set_cons_zero, List.set_cons_succ]
              refine heldS_step (i := 7) rfl (by kernel_rfl) (fun K hK => ?_)
              go_simp; refine (KR.out _ ((Below.refl wr.heap.size wr).drew)).mono ?_; rintro e u ⟨y0, y1, y2, y3, y4, y5, y6, y7, rfl, hbl, hb⟩; have hq1 : Below wr.heap.size wr u := ((Below.refl wr.heap.size wr).drew).trans (hb.mono ((Below.refl wr.heap.size wr).drew).size); have HQ1 := Lib.hid hq1; have HBL := Lib.hid hbl; clear hb hq1 hbl
              refine hK.out _ _ (SK.out _ HQ1.out) (fun hHeld => ?_)
              clear hK K
              (try simp only [Act.put, List.setIfInBounds_toArray])
              refine heldS_last (i := 8) rfl (by kernel_rfl) (by kernel_rfl) (fun K hK => ?_)
              obtain ⟨c0, c1, c2, c3, c4', c5, c6, c7⟩ := (SK.out _ HQ1.out).1; have f0 := (HS.out.later HQ1.out).h.free 0; have f1 := (HS.out.later HQ1.out).h.free 1; have f2 := (HS.out.later HQ1.out).h.free 2; have f3 := (HS.out.later HQ1.out).h.free 3; have f4 := (HS.out.later HQ1.out).h.free 4; have f5 := (HS.out.later HQ1.out).h.free 5; have f6 := (HS.out.later HQ1.out).h.free 6; have f7 := (HS.out.later HQ1.out).h.free 7; go_simp
              refine hK.out _ _ ?_
              clear hK K
              (try simp only [Act.put, List.setIfInBounds_toArray])
              refine wpAnyEnd_done (by kernel_rfl) ?_ _
              have HS8 : Hid (OfSt w ((((((((u.setCell ⟨H, 0, none⟩ (V32 y0)).setCell ⟨H, 1, none⟩ (V32 y1)).setCell ⟨H, 2, none⟩ (V32 y2)).setCell ⟨H, 3, none⟩ (V32 y3)).setCell ⟨H, 4, none⟩ (V32 y4)).setCell ⟨H, 5, none⟩ (V32 y5)).setCell ⟨H, 6, none⟩ (V32 y6)).setCell ⟨H, 7, none⟩ (V32 y7)) H Z (.slice (some ⟨g, 0, none⟩) B.length c4) B (blocksL startL B (t + 1))) := Lib.hid (by
                rw [HN.out, HBL.out]
                exact ((((((((HS.out.later HQ1.out).put hlt2 hHZ 0 y0).put hlt2 hHZ 1 y1).put hlt2 hHZ 2 y2).put hlt2 hHZ 3 y3).put hlt2 hHZ 4 y4).put hlt2 hHZ 5 y5).put hlt2 hHZ 6 y6).put hlt2 hHZ 7 y7)
              clear HS KR SK HVW HN HBL HQ1 c0 c1 c2 c3 c4' c5 c6 c7 f0 f1 f2 f3 f4 f5 f6 f7
              have hzw : (z : Int) + 64 = ((64 * (t + 1) : Nat) : Int) := by omega
              try simp only [Act.put, List.setIfInBounds_toArray, List.set_cons_zero, List.set_cons_succ]
              go_wp2
              go_roundw
              case rel => exact ⟨t + 1, by omega, by first | (congr 1; omega) | go_num, HS8⟩
              case measure => (simp [intOf]; try omega)
            · obtain rfl : t = T := by omega
              rw [show ((64 * t : Nat) : Int) = (B.length : Int) by rw [HTT.out]]
              obtain ⟨X, hX⟩ : ∃ X, blocksL startL B t = X := ⟨_, rfl⟩
              have hXl : X.length = 8 := by rw [← hX]; exact blocksL_len rfl t
              have HXW : Hid (∀ x ∈ X, W32 x) := Lib.hid (by rw [← hX]; exact blocks_word B t)
              have HFIN : Hid (ofL bs = outL X 32) := Lib.hid (by
                rw [of_whole, HBD.out, ← hX, HTT.out, Nat.mul_div_cancel_left _ (by decide)])
              rw [hX] at HS
              have hO0 := heap_alloc_new wr (.cells (Array.replicate 32 (.int .u8 0)) 106)
              have hla := alloc_below wr (.cells (Array.replicate 32 (.int .u8 0)) 106)
              have HO3 : Hid (ORow (wr.alloc (.cells (Array.replicate 32 (.int .u8 0)) 106)) wr.heap.size (outL X 0)) := Lib.hid (orow_new hO0 X)
              have HV4 := Lib.hid (HS.out.later hla).h
              have HR4 := Lib.hid (HS.out.later hla).r
              have HB4 := Lib.hid (HS.out.later hla).b
              have hHO : H < wr.heap.size := HS.out.h.lt
              have hwO : w.heap.size < wr.heap.size := by omega
              clear hO0 hla HS hX HBB
              go_upto_region 21 with fail
              change Code.wp _ _ _ _ (wr.alloc (.cells (Array.replicate 32 (.int .u8 0)) 106))
              obtain ⟨O, hO⟩ : ∃ O, wr.heap.size = O := ⟨_, rfl⟩
              rw [hO] at HO3 hHO hwO ⊢
              generalize wr.alloc (.cells (Array.replicate 32 (.int .u8 0)) 106) = wa at *
              clear hO
              go_loopw [12] (fun vi wr => ∃ k : Nat, k ≤ 32 ∧ vi = .int .i64 k ∧ Hid (ORow wr O (outL X k)) ∧ Hid (VR wr H X 121) ∧ Hid (wr.heap[w.heap.size]? = some (.cells (Array.replicate 32 (.int .u8 0)) 106 (0, 0))) ∧ Hid (Below w.heap.size w wr)) (fun vi _ => 32 - (intOf vi).toNat)
              case atStart => exact ⟨0, Nat.zero_le _, rfl, HO3, HV4, HR4, HB4⟩
              case round =>
                clear HO3 HV4 HR4 HB4
                obtain ⟨k, hk, rfl, HO, HV, HR, HB⟩ := hrel
                by_cases hkl : k < 32
                · obtain ⟨q, hq⟩ : ∃ q, k / 4 = q := ⟨_, rfl⟩
                  obtain ⟨r, hr⟩ : ∃ r, k % 4 = r := ⟨_, rfl⟩
                  have hq1 : (k : Int) / 4 = (q : Int) := by omega
                  have hr1 : (k : Int) % 4 = (r : Int) := by omega
                  have hq8 : q < 8 := by omega
                  have hI1 : (q : Int) < 8 := by omega
                  have hI2 : (k : Int) < 32 := by omega
                  have hr3 : r ≤ 3 := by omega
                  have hXq : X[q]? = some (X.getD q 0) := by rw [List.getD_eq_getElem?_getD, List.getElem?_eq_getElem (by omega)]; rfl
                  have hyw := HXW.out (X.getD q 0) (List.mem_of_getElem? hXq)
                  have hcell := HV.out.cell hXq
                  obtain ⟨y, hy⟩ : ∃ y : Nat, X.getD q 0 = (y : Int) := ⟨(X.getD q 0).toNat, by have := hyw.1; omega⟩
                  rw [hy] at hcell hyw
                  have hy32 : y < 4294967296 := by have := hyw.2; omega
                  have HYX : Hid (outAt X k = (y : Int) / 2 ^ (24 - 8 * r) % 256) := Lib.hid (by unfold outAt; rw [hq, hr, hy])
                  clear hXq hyw hy
                  go_upto_region 25 with fail
                  go_loopw [14, 13] (fun vj vn wr' => ∃ e : Nat, e + r ≤ 3 ∧ vj = .int .i64 (3 - (e : Int)) ∧ vn = .int .u32 ((y / 256 ^ e : Nat) : Int) ∧ wr' = wr) (fun vj _ _ => (intOf vj).toNat)
                  case atStart => exact ⟨0, by omega, rfl, by rw [Nat.pow_zero, Nat.div_one], by first | rfl | trivial⟩
                  case round =>
                    obtain ⟨e, he, rfl, rfl, rfl⟩ := hrel
                    have HND : Hid (y / 256 ^ (e + 1) = y / 256 ^ e / 256) := Lib.hid (by rw [Nat.pow_succ, Nat.div_div_eq_div_mul])
                    have hnb : y / 256 ^ e ≤ y := Nat.div_le_self _ _
                    obtain ⟨n', hn'⟩ : ∃ n', y / 256 ^ e = n' := ⟨_, rfl⟩
                    rw [hn'] at HND hnb ⊢
                    have hn0 : (0 : Int) ≤ (n' : Int) := by omega
                    have hn1 : (n' : Int) < 4294967296 := by omega
                    obtain ⟨j, hj⟩ : ∃ j : Nat, j + e = 3 := ⟨3 - e, by omega⟩
                    have hje : 3 - (e : Int) = (j : Int) := by omega
                    rw [hje]
                    by_cases hjr : r < j
                    · have hjr' : (r : Int) < (j : Int) := by omega
                      clear hn'
                      go_wp2
                      go_roundw
                      case rel => exact ⟨e + 1, by omega, by first | (congr 1; omega) | go_num, by rw [HND.out]; rfl, by first | rfl | trivial⟩
                      case measure => (simp [intOf]; try omega)
                    · obtain rfl : j = r := by omega
                      have HBT : Hid ((n' : Int) % 256 = (y : Int) / 2 ^ (24 - 8 * j) % 256) := Lib.hid (by
                        rw [← hn', show 24 - 8 * j = 8 * e by omega, Int.natCast_ediv, Int.natCast_pow, Int.pow_mul]; rfl)
                      obtain ⟨x, hx⟩ : ∃ x, (n' : Int) % 256 = x := ⟨_, rfl⟩
                      have hx0 : 0 ≤ x := by omega
                      have hx1 : x < 256 := by omega
                      have HX2 : Hid (outAt X k = x) := Lib.hid (by rw [HYX.out, ← HBT.out, hx])
                      have hwx : IntKind.u8.wrap x = x := by rw [IntKind.wrap_u8']; omega
                      have g2 := HO.out.old k (by simp [outL]) hkl
                      have f2 := HO.out.free k
                      have HST := Lib.hid (HO.out.store (k := k) (by simp [outL]) hkl x)
                      have HV2 := Lib.hid (HV.out.else_ (g' := O) (by omega) k (V8 x))
                      have hR2 := Lib.hid ((heap_setCell_other wr ⟨O, k, none⟩ w.heap.size (V8 x) (by show w.heap.size ≠ O; omega)).trans HR.out)
                      have hB2 := Lib.hid (HB.out.trans (below_setCell (B := w.heap.size) wr O k (V8 x) (by omega)))
                      clear hn' HND HBT HO HV HR HB HYX
                      go_wp2
                      go_roundw
                      case rel =>
                        refine ⟨k + 1, by omega, by go_num, Lib.hid ?_, HV2, hR2, hB2⟩
                        rw [outL_succ, HX2.out]
                        exact HST.out
                      case measure => (simp [intOf]; try omega)
                · obtain rfl : k = 32 := by omega
                  rw [show ((32 : Nat) : Int) = 32 from rfl]
                  have hO5 : wr.heap[O]? = some (.cells ((outL X 32).map V8).toArray 106 (0, 0)) := by have := HO.out.2; rw [outL_len] at this; simpa using this
                  go_upto_region 29 with fail
                  have hOl : ((outL X 32).map V8).toArray.size = 32 := by simp [outL]
                  have hI9 : (Try.prog.info? 106).map (·.size) = some ((outL X 32).map V8).toArray.size := by rw [hOl]; kernel_rfl
                  apply wp_region_lit
                  refine wpList_load_row rfl 106 (.tmp 11) rfl O rfl 106 ((outL X 32).map V8).toArray (0, 0) _ hO5 Try.underlying106 rfl hI9 ?_
                  refine wpList_store_row rfl 106 (.tmp 2) (.tmp 85) rfl w.heap.size ((outL X 32).map V8).toArray rfl rfl 106 _ HR.out hI9 (by rw [hOl]; rfl) (all_oneCell_toArray (v8_cells _)) ?_
                  have hg2 := setRow_heap wr w.heap.size _ ((outL X 32).map V8).toArray _ _ HR.out
                  have hb2 : Below w.heap.size w (wr.setRow w.heap.size ((outL X 32).map V8).toArray) := below_setRow HB.out (Nat.le_refl _) _
                  generalize wr.setRow w.heap.size ((outL X 32).map V8).toArray = w1 at *
                  simp only [Act.put, List.setIfInBounds_toArray, List.set_cons_zero, List.set_cons_succ]
                  show Exit.then _ _ Exit.normal _ _
                  simp only [Exit.then]
                  refine (by assumption : ∀ (a : Act) (w : World), Code.wp _ Code.ret _ a w → _) _ _ ?_
                  go_wp2
                  refine bodyPost_ret (results_cell_row rfl _ _ w.heap.size 106 ((outL X 32).map V8).toArray (0, 0) (.array 32 5) rfl hg2 Try.underlying106 rfl hI9) rfl ?_
                  exact ⟨by rw [HFIN.out], hb2⟩
end Go.Proofs.Ytipnhpfpppblhaa

/- lychgateref09.Id: a contract: it is what alert.Id hands back. -/
namespace Go.Proofs.Ytipnhpfpppblhaa
open Go.RowKit
theorem shortS_add (n x : Nat) (hn : n < 72057594037927936) (hx : x < 256) : shortS (n : Int) (x : Int) = ((n * 256 + x : Nat) : Int) := by
  unfold shortS
  have e : IntKind.u64.wrap ((n : Int) * 256) = ((2 ^ 8 * n : Nat) : Int) := by rw [IntKind.wrap_u64]; omega
  rw [e, bits_or_u64_nat _ _ (by omega) (by omega), ← Nat.two_pow_add_eq_or_of_lt hx]
  congr 1
  omega
theorem shortK_nat {F : List Int} (hF : ByteL F) (hl : F.length = 32) : ∀ k, k ≤ 8 → ∃ n : Nat, shortK F k = (n : Int) ∧ n < 256 ^ k
  | 0, _ => ⟨0, rfl, by decide⟩
  | k + 1, hk => by
    obtain ⟨n, hn, hb⟩ := shortK_nat hF hl k (by omega)
    have hx : 0 ≤ F.getD k 0 ∧ F.getD k 0 < 256 := by
      rw [List.getD_eq_getElem?_getD, List.getElem?_eq_getElem (by omega)]
      exact hF _ (List.getElem_mem _)
    obtain ⟨x, hx2⟩ : ∃ x : Nat, F.getD k 0 = (x : Int) := ⟨(F.getD k 0).toNat, by omega⟩
    have h56 : 256 ^ k ≤ 256 ^ 7 := Nat.pow_le_pow_right (by decide) (by omega)
    refine ⟨n * 256 + x, ?_, ?_⟩
    · rw [shortK, hn, hx2, shortS_add n x (by omega) (by omega)]
    · rw [Nat.pow_succ]; omega
set_option maxHeartbeats 6400000 in
set_option maxRecDepth 100000 in
theorem refid_any (src : ByteArray) (fl : List Fld) (lv : Int) (c : Nat) (fr til : Int) (v : Value) (w : World) (hv : FldsAt w v fl) (hl : (idB src fl).length ≤ 4000000) :
    Calls Try.prog 27 #[.agg #[.string src, v, .int .i64 lv, .int .u32 c, .int .i64 fr, .int .i64 til]] w fun e w' => e = .returned (.int .u64 (shortL (idB src fl))) ∧ Below w.heap.size w w' := by
  obtain ⟨fa, fc, rfl, hfc, hfr⟩ := RdAt.shape hv
  obtain ⟨i0, hi, hz0, hz1, hz2⟩ := info_parts info_u8
  have HF := Lib.hid hfr
  clear hfr hv
  have hsl : src.size ≤ 4000000 := by have := idB_le src fl 0; simp [idB, byL_len] at this hl; omega
  have hfl : fl.length ≤ 4000000 := by
    have : fl.length ≤ (fl.flatMap fldB).length := by
      clear hl HF hfc
      induction fl with
      | nil => simp
      | cons f l ih => simp only [List.flatMap_cons, List.length_append, fldB, List.length_cons, List.length_nil]; omega
    unfold idB at hl
    rw [List.length_append] at hl
    omega
  have kc := fun W => cv_run W src
  have HL := Lib.hid hl
  clear hl
  go_enter Try.func27, Try.ntmps27
  go_upto_region 1 with fail
  have hbx := alloc_below w (.cells #[.string src, .slice fa fl.length fc, .int .i64 lv, .int .u32 c, .int .i64 fr, .int .i64 til] 38)
  have hbox := box6 (Below.refl (w.alloc (.cells #[.string src, .slice fa fl.length fc, .int .i64 lv, .int .u32 c, .int .i64 fr, .int .i64 til] 38)).heap.size _)
  obtain ⟨⟨x0, x1, x2, x3, x4, x5⟩, hlt0, _⟩ := hbox
  change Code.wp _ _ _ _ (w.alloc (.cells #[.string src, .slice fa fl.length fc, .int .i64 lv, .int .u32 c, .int .i64 fr, .int .i64 til] 38))
  generalize w.alloc (.cells #[.string src, .slice fa fl.length fc, .int .i64 lv, .int .u32 c, .int .i64 fr, .int .i64 til] 38) = w0 at *
  have hcv := cv_ownM w0 src hsl
  have hca := hcv.later (alloc_below (cvW w0 src) (.cells #[V8 0] 5))
  have hcb : Below w0.heap.size w0 ((cvW w0 src).alloc (.cells #[V8 0] 5)) := (cv_below w0 src).trans ((alloc_below (cvW w0 src) (.cells #[V8 0] 5)).mono (cv_below w0 src).size)
  have hs1 := src_one (cvW w0 src) 0
  have hl1 : (byL src).length + [(0 : Int)].length ≤ 8000000 := by rw [byL_len]; simp; omega
  go_upto_region 3 with (at_builtin; (refine wpList_append_M rfl (.tmp 10) (.tmp 11) 103 rfl i0 hi hz0 hz1 hz2 w0.heap.size _ _ rfl hca _ [0] rfl hs1 hl1 hcb.size ?_); intro v1 w1 hO1 hB1)
  have hB0 := hcb.trans (hB1.mono (by omega))
  have HO0 : Hid (OwnM w1 w0.heap.size v1 (idB src (fl.take 0))) := Lib.hid (by simpa [idB] using hO1)
  have HX1 := Lib.hid x1
  clear hcv hca hcb hs1 hl1 hO1 hB1 x0 x1 x2 x3 x4 x5
  have HB0 := Lib.hid hB0
  clear hB0
  go_loopw [4, 3] (fun vi vo wr => ∃ k : Nat, k ≤ fl.length ∧ vi = .int .i64 k ∧ Hid (OwnM wr w0.heap.size vo (idB src (fl.take k))) ∧ Hid (Below w0.heap.size w0 wr)) (fun vi _ _ => fl.length - (intOf vi).toNat)
  case atStart => exact ⟨0, Nat.zero_le _, rfl, HO0, HB0⟩
  case round =>
    clear HO0 HB0
    obtain ⟨k, hk, rfl, HO, HB⟩ := hrel
    have x1 := keep_cell HX1.out HB.out hlt0
    by_cases hkl : k < fl.length
    · obtain ⟨b, o, rfl, hb, hcell⟩ := HF.out (by omega)
      obtain ⟨x, hxe⟩ : ∃ x, fl[k].1 = x := ⟨_, rfl⟩
      obtain ⟨y, hye⟩ : ∃ y, fl[k].2 = y := ⟨_, rfl⟩
      obtain ⟨hx0, hy0⟩ := fldCells_at fl k hkl
      rw [hxe] at hx0
      rw [hye] at hy0
      have hbw0 : Below w.heap.size w wr := hbx.trans (HB.out.mono hbx.size)
      have hcx : wr.cell? ⟨b, o + k * 2, none⟩ = some (.string x) := keep_cell (hcell _ _ hx0) hbw0 hb
      have hcy : wr.cell? ⟨b, o + k * 2 + 1, none⟩ = some (.string y) := keep_cell (hcell _ _ hy0) hbw0 hb
      have HYW := Lib.hid (hcell _ _ hy0)
      have hE : Hid (idB src (fl.take (k + 1)) = idB src (fl.take k) ++ byL x ++ [61] ++ byL y ++ [0]) := Lib.hid (by rw [idB_take src hkl]; unfold fldB; rw [hxe, hye]; simp only [List.append_assoc])
      have hlen := idB_le src fl (k + 1)
      rw [hE.out] at hlen
      obtain ⟨L, hL⟩ : ∃ L, idB src (fl.take k) = L := ⟨_, rfl⟩
      rw [hL] at hE hlen HO
      have hlen2 : L.length + (byL x).length + 1 + (byL y).length + 1 ≤ 4000000 := by have := HL.out; simp only [List.length_append, List.length_cons, List.length_nil] at hlen; omega
      have hL1 : L.length + (byL x).length ≤ 8000000 := by omega
      have hL2 : (L ++ byL x).length + [(61 : Int)].length ≤ 8000000 := by simp only [List.length_append, List.length_cons, List.length_nil]; omega
      have hL3 : (L ++ byL x ++ [61]).length + (byL y).length ≤ 8000000 := by simp only [List.length_append, List.length_cons, List.length_nil]; omega
      have hL4 : (L ++ byL x ++ [61] ++ byL y).length + [(0 : Int)].length ≤ 8000000 := by simp only [List.length_append, List.length_cons, List.length_nil]; omega
      have hOr := HO.out
      have hbr := HB.out
      have ho0 : w0.heap.size ≤ wr.heap.size := hbr.size
      have hi2 : (k : Int) < (fl.length : Int) := by omega
      have hx1lt : w.heap.size < wr.heap.size := by omega
      have hblt : b < wr.heap.size := by have := hbw0.size; omega
      clear hcell hxe hye hx0 hy0 hlen hlen2 hL HO HB
      go_wp2_with (first
        | (at_builtin; (refine wpList_append_M rfl (.tmp 20) (.tmp 26) 9 rfl i0 hi hz0 hz1 hz2 w0.heap.size _ _ rfl hOr _ _ rfl (src_str _ x) hL1 ho0 ?_); intro v1 u1 hO1 hB1; have hB1a : Below w0.heap.size w0 (u1.alloc (.cells #[V8 61] 5)) := (hbr.trans hB1).alloc (hbr.trans hB1).size _; have hO1a := hO1.later (alloc_below u1 (.cells #[V8 61] 5)))
        | (at_builtin; (refine wpList_append_M rfl (.tmp 27) (.tmp 28) 103 rfl i0 hi hz0 hz1 hz2 w0.heap.size _ _ rfl hO1a _ [61] rfl (src_one u1 61) hL2 hB1a.size ?_); intro v2 u2 hO2 hB2'; have hB2 := hB1a.trans hB2'; have x12 := keep_cell HX1.out hB2 hlt0; have hcy2 : u2.cell? ⟨b, o + k * 2 + 1, none⟩ = some (.string y) := keep_cell HYW.out (hbx.trans (hB2.mono hbx.size)) hb)
        | (at_builtin; (refine wpList_append_M rfl (.tmp 30) (.tmp 36) 9 rfl i0 hi hz0 hz1 hz2 w0.heap.size _ _ rfl hO2 _ _ rfl (src_str _ y) hL3 hB2.size ?_); intro v3 u3 hO3 hB3'; have hB3a : Below w0.heap.size w0 (u3.alloc (.cells #[V8 0] 5)) := (hB2.trans hB3').alloc (hB2.trans hB3').size _; have hO3a := hO3.later (alloc_below u3 (.cells #[V8 0] 5)))
        | (at_builtin; (refine wpList_append_M rfl (.tmp 37) (.tmp 38) 103 rfl i0 hi hz0 hz1 hz2 w0.heap.size _ _ rfl hO3a _ [0] rfl (src_one u3 0) hL4 hB3a.size ?_); intro v4 u4 hO4 hB4'; have hB4 := hB3a.trans hB4'))
      have HO4 : Hid (OwnM u4 w0.heap.size v4 (idB src (fl.take (k + 1)))) := Lib.hid (by rw [hE.out]; exact hO4)
      have HB4 := Lib.hid hB4
      clear hO1 hO1a hO2 hO3 hO3a hO4 hB1 hB1a hB2 hB2' hB3' hB3a hB4 hB4' x12 hcy2 hcx hcy hOr hbr
      go_roundw
      case rel => exact ⟨k + 1, by omega, by go_num, HO4, HB4⟩
      case measure => (simp [intOf]; try omega)
    · obtain rfl : k = fl.length := by omega
      have hbs := HO.out.at
      rw [List.take_length] at hbs
      have hbr := HB.out
      have hof := rof2_any (idB src fl) _ wr hbs (idB_byte src fl) (by have := HL.out; omega)
      clear hbs HO HB
      go_wp2_with fail
      refine hof.mono ?_
      rintro e w2 ⟨rfl, hb2⟩
      have hB2 := hbx.trans ((hbr.trans (hb2.mono hbr.size)).mono hbx.size)
      have hbyte : Hid (ByteL (ofL (idB src fl))) := Lib.hid (outL_byte _ _)
      obtain ⟨F, hF⟩ : ∃ F, ofL (idB src fl) = F := ⟨_, rfl⟩
      have hFl : F.length = 32 := by rw [← hF]; exact ofL_len _
      have HSH : Hid (shortL (idB src fl) = shortK F 8) := Lib.hid (by unfold shortL; rw [hF])
      rw [hF] at hbyte ⊢
      have hOl : (F.map V8).toArray.size = 32 := by simp [hFl]
      have hI9 : (Try.prog.info? 106).map (·.size) = some (F.map V8).toArray.size := by rw [hOl]; kernel_rfl
      have hcs := all_oneCell_toArray (v8_cells F)
      have hcell : ∀ k, k < 32 → (F.map V8).toArray[k]? = some (V8 (F.getD k 0)) := fun k hk => by
        rw [List.getElem?_toArray, List.getElem?_map, List.getD_eq_getElem?_getD, List.getElem?_eq_getElem (by omega)]; rfl
      have HC := Lib.hid hcell
      generalize (F.map V8).toArray = C at *
      clear hof hF hcell
      rename_i hKK
      refine hKK _ _ ?_
      refine Go.Great.wpList_allocTo rfl (some 5) rfl (.pointer (some ⟨w2.heap.size, 0, none⟩)) (.cells (Array.replicate 32 (.int .u8 0)) 106) (by go_simp; rfl) ?_
      refine wpList_store_row rfl 106 (.tmp 5) (.tmp 41) rfl w2.heap.size C rfl rfl 106 _ (heap_alloc_new _ _) hI9 (by rw [hOl]; rfl) hcs ?_
      have hg2 := setRow_heap (w2.alloc (.cells (Array.replicate 32 (.int .u8 0)) 106)) w2.heap.size _ C _ _ (heap_alloc_new _ _)
      have hb3 : Below w.heap.size w ((w2.alloc (.cells (Array.replicate 32 (.int .u8 0)) 106)).setRow w2.heap.size C) := below_setRow (hB2.alloc hB2.size _) hB2.size _
      generalize (w2.alloc (.cells (Array.replicate 32 (.int .u8 0)) 106)).setRow w2.heap.size C = w4 at *
      show Exit.then _ _ Exit.normal _ _
      simp only [Exit.then]
      have hc4 : Hid (∀ k, k < 32 → w4.cell? ⟨w2.heap.size, k, none⟩ = some (V8 (F.getD k 0))) := Lib.hid (fun k hk => by rw [cell_row hg2]; exact HC.out k hk)
      clear hg2 hI9 hcs hOl HC x1
      go_wp2
      go_loopw [7, 6] (fun i n wr => ∃ k : Nat, k ≤ 8 ∧ i = .int .i64 k ∧ n = .int .u64 (shortK F k) ∧ wr = w4) (fun i _ _ => 8 - (intOf i).toNat)
      case atStart => exact ⟨0, Nat.zero_le _, rfl, rfl, rfl⟩
      case round =>
        obtain ⟨k, hk, rfl, rfl, rfl⟩ := hrel
        obtain ⟨N, hN, hNb⟩ := shortK_nat hbyte.out hFl k hk
        have HNN := Lib.hid hN
        by_cases hkl : k < 8
        · have h56 : 256 ^ k ≤ 256 ^ 7 := Nat.pow_le_pow_right (by decide) (by omega)
          have hN56 : N < 72057594037927936 := by omega
          have hI : (k : Int) < 8 := by omega
          have g := hc4.out k (by omega)
          have hxb : 0 ≤ F.getD k 0 ∧ F.getD k 0 < 256 := by
            rw [List.getD_eq_getElem?_getD, List.getElem?_eq_getElem (by omega)]
            exact hbyte.out _ (List.getElem_mem _)
          obtain ⟨x, hx⟩ : ∃ x : Nat, F.getD k 0 = (x : Int) := ⟨(F.getD k 0).toNat, by omega⟩
          have hx256 : x < 256 := by omega
          have HS : Hid (shortK F (k + 1) = ((N * 256 + x : Nat) : Int)) := Lib.hid (by rw [shortK, hN, hx, shortS_add N x hN56 hx256])
          have q1 : IntKind.u64.wrap (x : Int) = (x : Int) := by rw [IntKind.wrap_u64]; omega
          have q2 : IntKind.u64.wrap ((N : Int) * 256) = (N : Int) * 256 := by rw [IntKind.wrap_u64]; omega
          have q3 : IntKind.u64.wrap ((N : Int) * 256 + (x : Int)) = (N : Int) * 256 + (x : Int) := by rw [IntKind.wrap_u64]; omega
          rw [hx] at g
          rw [hN]
          clear hx hN hxb h56 hNb
          go_wp2
          go_roundw
          case rel => exact ⟨k + 1, by omega, by go_num, by rw [HS.out]; (first | rfl | (congr 1; omega)), by first | trivial | rfl⟩
          case measure => (simp [intOf]; try omega)
        · obtain rfl : k = 8 := by omega
          clear hNb
          go_wp2
          go_ret
          exact ⟨by rw [HSH.out]; rfl, hb3⟩
end Go.Proofs.Ytipnhpfpppblhaa

/- lychgateref09.Merge: a contract: it is what alert.Merge hands back (upon fields of its own). -/
namespace Go.Proofs.Ytipnhpfpppblhaa
open Go.RowKit
set_option maxHeartbeats 3200000 in
set_option maxRecDepth 100000 in
theorem rmerge_any (x y : Al) (v u : Value) (w : World) (hx : AlFit x) (hy : AlFit y) (hv : FldsAt w v x.fl) (hu : FldsAt w u y.fl) :
    Calls Try.prog 24 #[AlV x v, AlV y u] w fun e w' => e = .returned (.tuple #[mergeR (mergeOk x y) x y v, .bool (mergeOk x y)]) ∧ Below w.heap.size w w' := by
  have r1 := fun W (h : Below w.heap.size w W) => r9right_any x.src x.fl x.lv x.c x.fr x.til v W hx.src (hv.later h) hx.fl hx.len
  have r2 := fun W (h : Below w.heap.size w W) => r9right_any y.src y.fl y.lv y.c y.fr y.til u W hy.src (hu.later h) hy.fl hy.len
  have i1 := fun (hr : rightA x = true) W (h : Below w.heap.size w W) => refid_any x.src x.fl x.lv x.c x.fr x.til v W (hv.later h) (idB_bound (rightA_who hr))
  have i2 := fun (hr : rightA y = true) W (h : Below w.heap.size w W) => refid_any y.src y.fl y.lv y.c y.fr y.til u W (hu.later h) (idB_bound (rightA_who hr))
  obtain ⟨va, vc, rfl, _, _⟩ := RdAt.shape hv
  obtain ⟨ua, uc, rfl, _, _⟩ := RdAt.shape hu
  have HV := Lib.hid hv
  have R1 := Lib.hid r1
  have R2 := Lib.hid r2
  have I1 := Lib.hid i1
  have I2 := Lib.hid i2
  have HC1 := Lib.hid hx.c
  have HC2 := Lib.hid hy.c
  clear hv hu r1 r2 i1 i2 hx hy
  obtain ⟨W0, hW0⟩ : ∃ z, ((w.alloc (.cells #[.string x.src, .slice va x.fl.length vc, .int .i64 x.lv, .int .u32 x.c, .int .i64 x.fr, .int .i64 x.til] 38)).alloc (.cells #[.string y.src, .slice ua y.fl.length uc, .int .i64 y.lv, .int .u32 y.c, .int .i64 y.fr, .int .i64 y.til] 38)).alloc (.cells #[.string ⟨#[]⟩, .slice none 0 0, .int .i64 0, .int .u32 0, .int .i64 0, .int .i64 0] 38) = z := ⟨_, rfl⟩
  have hb0 : Below w.heap.size w W0 := by rw [← hW0]; exact ((alloc_below _ _).trans ((alloc_below _ _).mono (by simp))).trans ((alloc_below _ _).mono (by simp; omega))
  have hz : w.heap.size + 1 + 1 < W0.heap.size := by rw [← hW0]; simp
  have hbb := (Below.refl W0.heap.size W0)
  rw [← hW0] at hbb
  obtain ⟨g1, g2, g3⟩ := box_cells hbb
  have hT2 := box_there hbb
  obtain ⟨g4, g5, g6, g7⟩ := box_two g3
  have g8 := (box_cells g3).2.2
  have hT : W0.there w.heap.size 0 6 := hW0 ▸ box_there g8
  rw [hW0] at g1 g4 g5 hT2
  simp only [World.size_alloc] at g1 hT2
  have H0 : Hid (MSt w x y (.slice va x.fl.length vc) (.slice ua y.fl.length uc) x.lv x.c x.fr x.til W0) := Lib.hid ⟨⟨g4 0 _ rfl, g4 1 _ rfl, g4 2 _ rfl, g4 3 _ rfl, g4 4 _ rfl, g4 5 _ rfl⟩, ⟨g5 0 _ rfl, g5 1 _ rfl, g5 2 _ rfl, g5 3 _ rfl, g5 4 _ rfl, g5 5 _ rfl⟩, hT, hT2, hz, hb0⟩
  have HW0 := Lib.hid hW0
  clear g1 g2 g3 g4 g5 g6 g7 g8 hbb hT hT2 hb0 hz hW0
  obtain ⟨a0, a1, a2, a3, a4, a5⟩ := H0.out.a
  obtain ⟨b0, b1, b2, b3, b4, b5⟩ := H0.out.b
  have hlt := H0.out.lt
  have hlt0 : w.heap.size < W0.heap.size := by omega
  have hlt1 : w.heap.size + 1 < W0.heap.size := by omega
  go_enter Try.func24, Try.ntmps24
  go_upto_region 1 with fail
  rw [HW0.out]
  clear HW0
  go_cut [20] (fun s20 wx => s20 = .bool (!mergeOk x y) ∧ MSt w x y (.slice va x.fl.length vc) (.slice ua y.fl.length uc) x.lv x.c x.fr x.til wx)
  case first =>
    cases hrx : rightA x
    · have HE : Hid (mergeOk x y = false) := by show _ = _; unfold mergeOk; rw [hrx]; rfl
      have k1 := R1.out
      simp only [show (whoA x.src x.fl x.lv && beginsA x.fr && endsA x.fr x.til) = rightA x from rfl, hrx] at k1
      clear hrx
      refine wp_region_held_drew (S := (fun W => W.cell? ⟨w.heap.size, 0, none⟩ = some (.string x.src) ∧ W.cell? ⟨w.heap.size, 1, none⟩ = some (.slice va x.fl.length vc) ∧ W.cell? ⟨w.heap.size, 2, none⟩ = some (.int .i64 x.lv) ∧ W.cell? ⟨w.heap.size, 3, none⟩ = some (.int .u32 x.c) ∧ W.cell? ⟨w.heap.size, 4, none⟩ = some (.int .i64 x.fr) ∧ W.cell? ⟨w.heap.size, 5, none⟩ = some (.int .i64 x.til) ∧ W.cell? ⟨w.heap.size + 1, 0, none⟩ = some (.string y.src) ∧ W.cell? ⟨w.heap.size + 1, 1, none⟩ = some (.slice ua y.fl.length uc) ∧ W.cell? ⟨w.heap.size + 1, 2, none⟩ = some (.int .i64 y.lv) ∧ W.cell? ⟨w.heap.size + 1, 3, none⟩ = some (.int .u32 y.c) ∧ W.cell? ⟨w.heap.size + 1, 4, none⟩ = some (.int .i64 y.fr) ∧ W.cell? ⟨w.heap.size + 1, 5, none⟩ = some (.int .i64 y.til))) (by kernel_rfl) ⟨a0, a1, a2, a3, a4, a5, b0, b1, b2, b3, b4, b5⟩ (fun hHeld => ?_)
      refine held_take (i := 0) (v := ?_) rfl rfl (by kernel_rfl) (by kernel_rfl) (by kernel_rfl) (fun _ _ _ h => h) (by rfl) hHeld ?_ ?_
      rotate_left
      · rintro wh ⟨z0, z1, z2, z3, z4, z5, z6, z7, z8, z9, z10, z11⟩
        go_simp
        (try with_reducible rfl)
      simp only [Act.put, List.setIfInBounds_toArray, List.set_cons_zero, List.set_cons_succ]
      refine held_call (i := 1) rfl (by kernel_rfl) (by rfl) (fun K hK => ?_)
      (go_simp; go_at_call 13; refine (k1 _ (H0.out.below.trans (((Below.refl _ W0).drew : Below W0.heap.size W0 W0.drew).mono H0.out.below.size))).mono ?_; rintro e w1 ⟨rfl, hb1⟩; have hB1 := ((Below.refl _ W0).drew : Below W0.heap.size W0 W0.drew).trans (hb1.mono ((Below.refl _ W0).drew : Below W0.heap.size W0 W0.drew).size))
      refine hK.out _ _ ⟨keep_cell a0 hB1 hlt0, keep_cell a1 hB1 hlt0, keep_cell a2 hB1 hlt0, keep_cell a3 hB1 hlt0, keep_cell a4 hB1 hlt0, keep_cell a5 hB1 hlt0, keep_cell b0 hB1 hlt1, keep_cell b1 hB1 hlt1, keep_cell b2 hB1 hlt1, keep_cell b3 hB1 hlt1, keep_cell b4 hB1 hlt1, keep_cell b5 hB1 hlt1⟩ (fun hHeld => ?_)
      clear hK K
      (try simp only [Act.put, List.setIfInBounds_toArray, List.set_cons_zero, List.set_cons_succ])
      refine held_take (i := 2) (v := ?_) rfl rfl (by kernel_rfl) (by kernel_rfl) (by kernel_rfl) (fun _ _ _ h => h) (by rfl) hHeld ?_ ?_
      rotate_left
      · rintro wh ⟨z0, z1, z2, z3, z4, z5, z6, z7, z8, z9, z10, z11⟩
        go_simp
        (try with_reducible rfl)
      simp only [Act.put, List.setIfInBounds_toArray, List.set_cons_zero, List.set_cons_succ]
      refine held_take (i := 3) (v := ?_) rfl rfl (by kernel_rfl) (by kernel_rfl) (by kernel_rfl) (fun _ _ _ h => h) (by rfl) hHeld ?_ ?_
      rotate_left
      · rintro wh ⟨z0, z1, z2, z3, z4, z5, z6, z7, z8, z9, z10, z11⟩
        go_simp
        (try with_reducible rfl)
      simp only [Act.put, List.setIfInBounds_toArray, List.set_cons_zero, List.set_cons_succ]
      refine held_skip (i := 4) rfl rfl (by kernel_rfl) (by kernel_rfl) (by kernel_rfl) (fun _ _ _ h => h) (by rfl) hHeld ?_
      simp only [Act.put, List.setIfInBounds_toArray, List.set_cons_zero, List.set_cons_succ]
      refine held_skip (i := 5) rfl rfl (by kernel_rfl) (by kernel_rfl) (by kernel_rfl) (fun _ _ _ h => h) (by rfl) hHeld ?_
      simp only [Act.put, List.setIfInBounds_toArray, List.set_cons_zero, List.set_cons_succ]
      refine held_skip (i := 6) rfl rfl (by kernel_rfl) (by kernel_rfl) (by kernel_rfl) (fun _ _ _ h => h) (by rfl) hHeld ?_
      simp only [Act.put, List.setIfInBounds_toArray, List.set_cons_zero, List.set_cons_succ]
      refine held_take (i := 7) (v := ?_) rfl rfl (by kernel_rfl) (by kernel_rfl) (by kernel_rfl) (fun _ _ _ h => h) (by rfl) hHeld ?_ ?_
      rotate_left
      · rintro wh ⟨z0, z1, z2, z3, z4, z5, z6, z7, z8, z9, z10, z11⟩
        go_simp
        (try with_reducible rfl)
      simp only [Act.put, List.setIfInBounds_toArray, List.set_cons_zero, List.set_cons_succ]
      refine held_take (i := 8) (v := ?_) rfl rfl (by kernel_rfl) (by kernel_rfl) (by kernel_rfl) (fun _ _ _ h => h) (by rfl) hHeld ?_ ?_
      rotate_left
      · rintro wh ⟨z0, z1, z2, z3, z4, z5, z6, z7, z8, z9, z10, z11⟩
        go_simp
        (try with_reducible rfl)
      simp only [Act.put, List.setIfInBounds_toArray, List.set_cons_zero, List.set_cons_succ]
      refine held_skip (i := 9) rfl rfl (by kernel_rfl) (by kernel_rfl) (by kernel_rfl) (fun _ _ _ h => h) (by rfl) hHeld ?_
      simp only [Act.put, List.setIfInBounds_toArray, List.set_cons_zero, List.set_cons_succ]
      refine held_skip (i := 10) rfl rfl (by kernel_rfl) (by kernel_rfl) (by kernel_rfl) (fun _ _ _ h => h) (by rfl) hHeld ?_
      simp only [Act.put, List.setIfInBounds_toArray, List.set_cons_zero, List.set_cons_succ]
      refine held_skip (i := 11) rfl rfl (by kernel_rfl) (by kernel_rfl) (by kernel_rfl) (fun _ _ _ h => h) (by rfl) hHeld ?_
      simp only [Act.put, List.setIfInBounds_toArray, List.set_cons_zero, List.set_cons_succ]
      refine held_skip (i := 12) rfl rfl (by kernel_rfl) (by kernel_rfl) (by kernel_rfl) (fun _ _ _ h => h) (by rfl) hHeld ?_
      simp only [Act.put, List.setIfInBounds_toArray, List.set_cons_zero, List.set_cons_succ]
      refine held_skip (i := 13) rfl rfl (by kernel_rfl) (by kernel_rfl) (by kernel_rfl) (fun _ _ _ h => h) (by rfl) hHeld ?_
      simp only [Act.put, List.setIfInBounds_toArray, List.set_cons_zero, List.set_cons_succ]
      refine held_take (i := 14) (v := ?_) rfl rfl (by kernel_rfl) (by kernel_rfl) (by kernel_rfl) (fun _ _ _ h => h) (by rfl) hHeld ?_ ?_
      rotate_left
      · rintro wh ⟨z0, z1, z2, z3, z4, z5, z6, z7, z8, z9, z10, z11⟩
        go_simp
        (try with_reducible rfl)
      simp only [Act.put, List.setIfInBounds_toArray, List.set_cons_zero, List.set_cons_succ]
      refine wpAnyH_done (by kernel_rfl) ?_ _
      go_wp2
      go_meet
      exact ⟨by rw [HE.out]; rfl, H0.out.later hB1⟩
    · have k1 := R1.out
      simp only [show (whoA x.src x.fl x.lv && beginsA x.fr && endsA x.fr x.til) = rightA x from rfl, hrx] at k1
      have k3 := I1.out hrx
      cases hry : rightA y
      · have HE : Hid (mergeOk x y = false) := by show _ = _; unfold mergeOk; rw [hrx, hry]; rfl
        have k2 := R2.out
        simp only [show (whoA y.src y.fl y.lv && beginsA y.fr && endsA y.fr y.til) = rightA y from rfl, hry] at k2
        clear hrx hry
        refine wp_region_held_drew (S := (fun W => W.cell? ⟨w.heap.size, 0, none⟩ = some (.string x.src) ∧ W.cell? ⟨w.heap.size, 1, none⟩ = some (.slice va x.fl.length vc) ∧ W.cell? ⟨w.heap.size, 2, none⟩ = some (.int .i64 x.lv) ∧ W.cell? ⟨w.heap.size, 3, none⟩ = some (.int .u32 x.c) ∧ W.cell? ⟨w.heap.size, 4, none⟩ = some (.int .i64 x.fr) ∧ W.cell? ⟨w.heap.size, 5, none⟩ = some (.int .i64 x.til) ∧ W.cell? ⟨w.heap.size + 1, 0, none⟩ = some (.string y.src) ∧ W.cell? ⟨w.heap.size + 1, 1, none⟩ = some (.slice ua y.fl.length uc) ∧ W.cell? ⟨w.heap.size + 1, 2, none⟩ = some (.int .i64 y.lv) ∧ W.cell? ⟨w.heap.size + 1, 3, none⟩ = some (.int .u32 y.c) ∧ W.cell? ⟨w.heap.size + 1, 4, none⟩ = some (.int .i64 y.fr) ∧ W.cell? ⟨w.heap.size + 1, 5, none⟩ = some (.int .i64 y.til))) (by kernel_rfl) ⟨a0, a1, a2, a3, a4, a5, b0, b1, b2, b3, b4, b5⟩ (fun hHeld => ?_)
        refine held_take (i := 0) (v := ?_) rfl rfl (by kernel_rfl) (by kernel_rfl) (by kernel_rfl) (fun _ _ _ h => h) (by rfl) hHeld ?_ ?_
        rotate_left
        · rintro wh ⟨z0, z1, z2, z3, z4, z5, z6, z7, z8, z9, z10, z11⟩
          go_simp
          (try with_reducible rfl)
        simp only [Act.put, List.setIfInBounds_toArray, List.set_cons_zero, List.set_cons_succ]
        refine held_call (i := 1) rfl (by kernel_rfl) (by rfl) (fun K hK => ?_)
        (go_simp; go_at_call 13; refine (k1 _ (H0.out.below.trans (((Below.refl _ W0).drew : Below W0.heap.size W0 W0.drew).mono H0.out.below.size))).mono ?_; rintro e w1 ⟨rfl, hb1⟩; have hB1 := ((Below.refl _ W0).drew : Below W0.heap.size W0 W0.drew).trans (hb1.mono ((Below.refl _ W0).drew : Below W0.heap.size W0 W0.drew).size))
        refine hK.out _ _ ⟨keep_cell a0 hB1 hlt0, keep_cell a1 hB1 hlt0, keep_cell a2 hB1 hlt0, keep_cell a3 hB1 hlt0, keep_cell a4 hB1 hlt0, keep_cell a5 hB1 hlt0, keep_cell b0 hB1 hlt1, keep_cell b1 hB1 hlt1, keep_cell b2 hB1 hlt1, keep_cell b3 hB1 hlt1, keep_cell b4 hB1 hlt1, keep_cell b5 hB1 hlt1⟩ (fun hHeld => ?_)
        clear hK K
        (try simp only [Act.put, List.setIfInBounds_toArray, List.set_cons_zero, List.set_cons_succ])
        refine held_take (i := 2) (v := ?_) rfl rfl (by kernel_rfl) (by kernel_rfl) (by kernel_rfl) (fun _ _ _ h => h) (by rfl) hHeld ?_ ?_
        rotate_left
        · rintro wh ⟨z0, z1, z2, z3, z4, z5, z6, z7, z8, z9, z10, z11⟩
          go_simp
          (try with_reducible rfl)
        simp only [Act.put, List.setIfInBounds_toArray, List.set_cons_zero, List.set_cons_succ]
        refine held_take (i := 3) (v := ?_) rfl rfl (by kernel_rfl) (by kernel_rfl) (by kernel_rfl) (fun _ _ _ h => h) (by rfl) hHeld ?_ ?_
        rotate_left
        · rintro wh ⟨z0, z1, z2, z3, z4, z5, z6, z7, z8, z9, z10, z11⟩
          go_simp
          (try with_reducible rfl)
        simp only [Act.put, List.setIfInBounds_toArray, List.set_cons_zero, List.set_cons_succ]
        refine held_take (i := 4) (v := ?_) rfl rfl (by kernel_rfl) (by kernel_rfl) (by kernel_rfl) (fun _ _ _ h => h) (by rfl) hHeld ?_ ?_
        rotate_left
        · rintro wh ⟨z0, z1, z2, z3, z4, z5, z6, z7, z8, z9, z10, z11⟩
          go_simp
          (try with_reducible rfl)
        simp only [Act.put, List.setIfInBounds_toArray, List.set_cons_zero, List.set_cons_succ]
        refine held_call (i := 5) rfl (by kernel_rfl) (by rfl) (fun K hK => ?_)
        (go_simp; go_at_call 13; refine (k2 _ (H0.out.below.trans (hB1.mono H0.out.below.size))).mono ?_; rintro e w2 ⟨rfl, hb2⟩; have hB2 := hB1.trans (hb2.mono hB1.size))
        refine hK.out _ _ ⟨keep_cell a0 hB2 hlt0, keep_cell a1 hB2 hlt0, keep_cell a2 hB2 hlt0, keep_cell a3 hB2 hlt0, keep_cell a4 hB2 hlt0, keep_cell a5 hB2 hlt0, keep_cell b0 hB2 hlt1, keep_cell b1 hB2 hlt1, keep_cell b2 hB2 hlt1, keep_cell b3 hB2 hlt1, keep_cell b4 hB2 hlt1, keep_cell b5 hB2 hlt1⟩ (fun hHeld => ?_)
        clear hK K
        (try simp only [Act.put, List.setIfInBounds_toArray, List.set_cons_zero, List.set_cons_succ])
        refine held_take (i := 6) (v := ?_) rfl rfl (by kernel_rfl) (by kernel_rfl) (by kernel_rfl) (fun _ _ _ h => h) (by rfl) hHeld ?_ ?_
        rotate_left
        · rintro wh ⟨z0, z1, z2, z3, z4, z5, z6, z7, z8, z9, z10, z11⟩
          go_simp
          (try with_reducible rfl)
        simp only [Act.put, List.setIfInBounds_toArray, List.set_cons_zero, List.set_cons_succ]
        refine held_take (i := 7) (v := ?_) rfl rfl (by kernel_rfl) (by kernel_rfl) (by kernel_rfl) (fun _ _ _ h => h) (by rfl) hHeld ?_ ?_
        rotate_left
        · rintro wh ⟨z0, z1, z2, z3, z4, z5, z6, z7, z8, z9, z10, z11⟩
          go_simp
          (try with_reducible rfl)
        simp only [Act.put, List.setIfInBounds_toArray, List.set_cons_zero, List.set_cons_succ]
        refine held_take (i := 8) (v := ?_) rfl rfl (by kernel_rfl) (by kernel_rfl) (by kernel_rfl) (fun _ _ _ h => h) (by rfl) hHeld ?_ ?_
        rotate_left
        · rintro wh ⟨z0, z1, z2, z3, z4, z5, z6, z7, z8, z9, z10, z11⟩
          go_simp
          (try with_reducible rfl)
        simp only [Act.put, List.setIfInBounds_toArray, List.set_cons_zero, List.set_cons_succ]
        refine held_skip (i := 9) rfl rfl (by kernel_rfl) (by kernel_rfl) (by kernel_rfl) (fun _ _ _ h => h) (by rfl) hHeld ?_
        simp only [Act.put, List.setIfInBounds_toArray, List.set_cons_zero, List.set_cons_succ]
        refine held_skip (i := 10) rfl rfl (by kernel_rfl) (by kernel_rfl) (by kernel_rfl) (fun _ _ _ h => h) (by rfl) hHeld ?_
        simp only [Act.put, List.setIfInBounds_toArray, List.set_cons_zero, List.set_cons_succ]
        refine held_skip (i := 11) rfl rfl (by kernel_rfl) (by kernel_rfl) (by kernel_rfl) (fun _ _ _ h => h) (by rfl) hHeld ?_
        simp only [Act.put, List.setIfInBounds_toArray, List.set_cons_zero, List.set_cons_succ]
        refine held_skip (i := 12) rfl rfl (by kernel_rfl) (by kernel_rfl) (by kernel_rfl) (fun _ _ _ h => h) (by rfl) hHeld ?_
        simp only [Act.put, List.setIfInBounds_toArray, List.set_cons_zero, List.set_cons_succ]
        refine held_skip (i := 13) rfl rfl (by kernel_rfl) (by kernel_rfl) (by kernel_rfl) (fun _ _ _ h => h) (by rfl) hHeld ?_
        simp only [Act.put, List.setIfInBounds_toArray, List.set_cons_zero, List.set_cons_succ]
        refine held_take (i := 14) (v := ?_) rfl rfl (by kernel_rfl) (by kernel_rfl) (by kernel_rfl) (fun _ _ _ h => h) (by rfl) hHeld ?_ ?_
        rotate_left
        · rintro wh ⟨z0, z1, z2, z3, z4, z5, z6, z7, z8, z9, z10, z11⟩
          go_simp
          (try with_reducible rfl)
        simp only [Act.put, List.setIfInBounds_toArray, List.set_cons_zero, List.set_cons_succ]
        refine wpAnyH_done (by kernel_rfl) ?_ _
        go_wp2
        go_meet
        exact ⟨by rw [HE.out]; rfl, H0.out.later hB2⟩
      · have k2 := R2.out
        simp only [show (whoA y.src y.fl y.lv && beginsA y.fr && endsA y.fr y.til) = rightA y from rfl, hry] at k2
        have k4 := I2.out hry
        simp only [show shortL (idB x.src x.fl) = idA x from rfl] at k3
        simp only [show shortL (idB y.src y.fl) = idA y from rfl] at k4
        have HE : Hid (mergeOk x y = decide (idA x = idA y)) := by show _ = _; unfold mergeOk; rw [hrx, hry]; rfl
        generalize idA x = n1 at *
        generalize idA y = n2 at *
        clear hrx hry
        refine wp_region_held_drew (S := (fun W => W.cell? ⟨w.heap.size, 0, none⟩ = some (.string x.src) ∧ W.cell? ⟨w.heap.size, 1, none⟩ = some (.slice va x.fl.length vc) ∧ W.cell? ⟨w.heap.size, 2, none⟩ = some (.int .i64 x.lv) ∧ W.cell? ⟨w.heap.size, 3, none⟩ = some (.int .u32 x.c) ∧ W.cell? ⟨w.heap.size, 4, none⟩ = some (.int .i64 x.fr) ∧ W.cell? ⟨w.heap.size, 5, none⟩ = some (.int .i64 x.til) ∧ W.cell? ⟨w.heap.size + 1, 0, none⟩ = some (.string y.src) ∧ W.cell? ⟨w.heap.size + 1, 1, none⟩ = some (.slice ua y.fl.length uc) ∧ W.cell? ⟨w.heap.size + 1, 2, none⟩ = some (.int .i64 y.lv) ∧ W.cell? ⟨w.heap.size + 1, 3, none⟩ = some (.int .u32 y.c) ∧ W.cell? ⟨w.heap.size + 1, 4, none⟩ = some (.int .i64 y.fr) ∧ W.cell? ⟨w.heap.size + 1, 5, none⟩ = some (.int .i64 y.til))) (by kernel_rfl) ⟨a0, a1, a2, a3, a4, a5, b0, b1, b2, b3, b4, b5⟩ (fun hHeld => ?_)
        refine held_take (i := 0) (v := ?_) rfl rfl (by kernel_rfl) (by kernel_rfl) (by kernel_rfl) (fun _ _ _ h => h) (by rfl) hHeld ?_ ?_
        rotate_left
        · rintro wh ⟨z0, z1, z2, z3, z4, z5, z6, z7, z8, z9, z10, z11⟩
          go_simp
          (try with_reducible rfl)
        simp only [Act.put, List.setIfInBounds_toArray, List.set_cons_zero, List.set_cons_succ]
        refine held_call (i := 1) rfl (by kernel_rfl) (by rfl) (fun K hK => ?_)
        (go_simp; go_at_call 13; refine (k1 _ (H0.out.below.trans (((Below.refl _ W0).drew : Below W0.heap.size W0 W0.drew).mono H0.out.below.size))).mono ?_; rintro e w1 ⟨rfl, hb1⟩; have hB1 := ((Below.refl _ W0).drew : Below W0.heap.size W0 W0.drew).trans (hb1.mono ((Below.refl _ W0).drew : Below W0.heap.size W0 W0.drew).size))
        refine hK.out _ _ ⟨keep_cell a0 hB1 hlt0, keep_cell a1 hB1 hlt0, keep_cell a2 hB1 hlt0, keep_cell a3 hB1 hlt0, keep_cell a4 hB1 hlt0, keep_cell a5 hB1 hlt0, keep_cell b0 hB1 hlt1, keep_cell b1 hB1 hlt1, keep_cell b2 hB1 hlt1, keep_cell b3 hB1 hlt1, keep_cell b4 hB1 hlt1, keep_cell b5 hB1 hlt1⟩ (fun hHeld => ?_)
        clear hK K
        (try simp only [Act.put, List.setIfInBounds_toArray, List.set_cons_zero, List.set_cons_succ])
        refine held_take (i := 2) (v := ?_) rfl rfl (by kernel_rfl) (by kernel_rfl) (by kernel_rfl) (fun _ _ _ h => h) (by rfl) hHeld ?_ ?_
        rotate_left
        · rintro wh ⟨z0, z1, z2, z3, z4, z5, z6, z7, z8, z9, z10, z11⟩
          go_simp
          (try with_reducible rfl)
        simp only [Act.put, List.setIfInBounds_toArray, List.set_cons_zero, List.set_cons_succ]
        refine held_take (i := 3) (v := ?_) rfl rfl (by kernel_rfl) (by kernel_rfl) (by kernel_rfl) (fun _ _ _ h => h) (by rfl) hHeld ?_ ?_
        rotate_left
        · rintro wh ⟨z0, z1, z2, z3, z4, z5, z6, z7, z8, z9, z10, z11⟩
          go_simp
          (try with_reducible rfl)
        simp only [Act.put, List.setIfInBounds_toArray, List.set_cons_zero, List.set_cons_succ]
        refine held_take (i := 4) (v := ?_) rfl rfl (by kernel_rfl) (by kernel_rfl) (by kernel_rfl) (fun _ _ _ h => h) (by rfl) hHeld ?_ ?_
        rotate_left
        · rintro wh ⟨z0, z1, z2, z3, z4, z5, z6, z7, z8, z9, z10, z11⟩
          go_simp
          (try with_reducible rfl)
        simp only [Act.put, List.setIfInBounds_toArray, List.set_cons_zero, List.set_cons_succ]
        refine held_call (i := 5) rfl (by kernel_rfl) (by rfl) (fun K hK => ?_)
        (go_simp; go_at_call 13; refine (k2 _ (H0.out.below.trans (hB1.mono H0.out.below.size))).mono ?_; rintro e w2 ⟨rfl, hb2⟩; have hB2 := hB1.trans (hb2.mono hB1.size))
        refine hK.out _ _ ⟨keep_cell a0 hB2 hlt0, keep_cell a1 hB2 hlt0, keep_cell a2 hB2 hlt0, keep_cell a3 hB2 hlt0, keep_cell a4 hB2 hlt0, keep_cell a5 hB2 hlt0, keep_cell b0 hB2 hlt1, keep_cell b1 hB2 hlt1, keep_cell b2 hB2 hlt1, keep_cell b3 hB2 hlt1, keep_cell b4 hB2 hlt1, keep_cell b5 hB2 hlt1⟩ (fun hHeld => ?_)
        clear hK K
        (try simp only [Act.put, List.setIfInBounds_toArray, List.set_cons_zero, List.set_cons_succ])
        refine held_take (i := 6) (v := ?_) rfl rfl (by kernel_rfl) (by kernel_rfl) (by kernel_rfl) (fun _ _ _ h => h) (by rfl) hHeld ?_ ?_
        rotate_left
        · rintro wh ⟨z0, z1, z2, z3, z4, z5, z6, z7, z8, z9, z10, z11⟩
          go_simp
          (try with_reducible rfl)
        simp only [Act.put, List.setIfInBounds_toArray, List.set_cons_zero, List.set_cons_succ]
        refine held_take (i := 7) (v := ?_) rfl rfl (by kernel_rfl) (by kernel_rfl) (by kernel_rfl) (fun _ _ _ h => h) (by rfl) hHeld ?_ ?_
        rotate_left
        · rintro wh ⟨z0, z1, z2, z3, z4, z5, z6, z7, z8, z9, z10, z11⟩
          go_simp
          (try with_reducible rfl)
        simp only [Act.put, List.setIfInBounds_toArray, List.set_cons_zero, List.set_cons_succ]
        refine held_take (i := 8) (v := ?_) rfl rfl (by kernel_rfl) (by kernel_rfl) (by kernel_rfl) (fun _ _ _ h => h) (by rfl) hHeld ?_ ?_
        rotate_left
        · rintro wh ⟨z0, z1, z2, z3, z4, z5, z6, z7, z8, z9, z10, z11⟩
          go_simp
          (try with_reducible rfl)
        simp only [Act.put, List.setIfInBounds_toArray, List.set_cons_zero, List.set_cons_succ]
        refine held_take (i := 9) (v := ?_) rfl rfl (by kernel_rfl) (by kernel_rfl) (by kernel_rfl) (fun _ _ _ h => h) (by rfl) hHeld ?_ ?_
        rotate_left
        · rintro wh ⟨z0, z1, z2, z3, z4, z5, z6, z7, z8, z9, z10, z11⟩
          go_simp
          (try with_reducible rfl)
        simp only [Act.put, List.setIfInBounds_toArray, List.set_cons_zero, List.set_cons_succ]
        refine held_take (i := 11) (v := ?_) rfl rfl (by kernel_rfl) (by kernel_rfl) (by kernel_rfl) (fun _ _ _ h => h) (by rfl) hHeld ?_ ?_
        rotate_left
        · rintro wh ⟨z0, z1, z2, z3, z4, z5, z6, z7, z8, z9, z10, z11⟩
          go_simp
          (try with_reducible rfl)
        simp only [Act.put, List.setIfInBounds_toArray, List.set_cons_zero, List.set_cons_succ]
        refine held_call (i := 10) rfl (by kernel_rfl) (by rfl) (fun K hK => ?_)
        (go_simp; go_at_call 27; refine (k3 _ (H0.out.below.trans (hB2.mono H0.out.below.size))).mono ?_; rintro e w3 ⟨rfl, hb3⟩; have hB3 := hB2.trans (hb3.mono hB2.size))
        refine hK.out _ _ ⟨keep_cell a0 hB3 hlt0, keep_cell a1 hB3 hlt0, keep_cell a2 hB3 hlt0, keep_cell a3 hB3 hlt0, keep_cell a4 hB3 hlt0, keep_cell a5 hB3 hlt0, keep_cell b0 hB3 hlt1, keep_cell b1 hB3 hlt1, keep_cell b2 hB3 hlt1, keep_cell b3 hB3 hlt1, keep_cell b4 hB3 hlt1, keep_cell b5 hB3 hlt1⟩ (fun hHeld => ?_)
        clear hK K
        (try simp only [Act.put, List.setIfInBounds_toArray, List.set_cons_zero, List.set_cons_succ])
        refine held_call (i := 12) rfl (by kernel_rfl) (by rfl) (fun K hK => ?_)
        (go_simp; go_at_call 27; refine (k4 _ (H0.out.below.trans (hB3.mono H0.out.below.size))).mono ?_; rintro e w4 ⟨rfl, hb4⟩; have hB4 := hB3.trans (hb4.mono hB3.size))
        refine hK.out _ _ ⟨keep_cell a0 hB4 hlt0, keep_cell a1 hB4 hlt0, keep_cell a2 hB4 hlt0, keep_cell a3 hB4 hlt0, keep_cell a4 hB4 hlt0, keep_cell a5 hB4 hlt0, keep_cell b0 hB4 hlt1, keep_cell b1 hB4 hlt1, keep_cell b2 hB4 hlt1, keep_cell b3 hB4 hlt1, keep_cell b4 hB4 hlt1, keep_cell b5 hB4 hlt1⟩ (fun hHeld => ?_)
        clear hK K
        (try simp only [Act.put, List.setIfInBounds_toArray, List.set_cons_zero, List.set_cons_succ])
        refine held_take (i := 13) (v := ?_) rfl rfl (by kernel_rfl) (by kernel_rfl) (by kernel_rfl) (fun _ _ _ h => h) (by rfl) hHeld ?_ ?_
        rotate_left
        · rintro wh ⟨z0, z1, z2, z3, z4, z5, z6, z7, z8, z9, z10, z11⟩
          go_simp
          (try with_reducible rfl)
        simp only [Act.put, List.setIfInBounds_toArray, List.set_cons_zero, List.set_cons_succ]
        refine held_take (i := 14) (v := ?_) rfl rfl (by kernel_rfl) (by kernel_rfl) (by kernel_rfl) (fun _ _ _ h => h) (by rfl) hHeld ?_ ?_
        rotate_left
        · rintro wh ⟨z0, z1, z2, z3, z4, z5, z6, z7, z8, z9, z10, z11⟩
          go_simp
          (try with_reducible rfl)
        simp only [Act.put, List.setIfInBounds_toArray, List.set_cons_zero, List.set_cons_succ]
        refine wpAnyH_done (by kernel_rfl) ?_ _
        go_wp2
        go_meet
        exact ⟨by rw [HE.out]; by_cases h : n1 = n2 <;> simp [h], H0.out.later hB4⟩
  case rest =>
    obtain ⟨rfl, hM⟩ := hcut
    have HM := Lib.hid hM
    clear hM a0 a1 a2 a3 a4 a5 b0 b1 b2 b3 b4 b5 hlt hlt0 hlt1 H0 R1 R2 I1 I2
    cases hok : mergeOk x y
    · have f0 := there_free HM.out.rth 0 (by decide)
      have f1 := there_free HM.out.rth 1 (by decide)
      have f2 := there_free HM.out.rth 2 (by decide)
      have f3 := there_free HM.out.rth 3 (by decide)
      have f4 := there_free HM.out.rth 4 (by decide)
      have f5 := there_free HM.out.rth 5 (by decide)
      obtain ⟨y0, hy0⟩ := there_cell HM.out.rth 0 (by decide)
      obtain ⟨y1, hy1⟩ := there_cell HM.out.rth 1 (by decide)
      obtain ⟨y2, hy2⟩ := there_cell HM.out.rth 2 (by decide)
      obtain ⟨y3, hy3⟩ := there_cell HM.out.rth 3 (by decide)
      obtain ⟨y4, hy4⟩ := there_cell HM.out.rth 4 (by decide)
      obtain ⟨y5, hy5⟩ := there_cell HM.out.rth 5 (by decide)
      have HOK := Lib.hid hok
      clear hok
      go_wp2
      refine bodyPost_ret (results_agg2 rfl _ _ (w.heap.size + 1 + 1) [.string ⟨#[]⟩, .slice none 0 0, .int .i64 0, .int .u32 0, .int .i64 0, .int .i64 0] (.struct _) rfl (World.rangeAt_setCells_same wc (w.heap.size + 1 + 1) 0 [.string ⟨#[]⟩, .slice none 0 0, .int .i64 0, .int .u32 0, .int .i64 0, .int .i64 0] HM.out.rth) Try.underlying38 rfl (by kernel_rfl)) rfl ?_
      have hbb := below_puts (g := w.heap.size + 1 + 1) (o := 0) HM.out.below (by omega) [.string ⟨#[]⟩, .slice none 0 0, .int .i64 0, .int .u32 0, .int .i64 0, .int .i64 0]
      exact ⟨by rw [HOK.out]; rfl, hbb⟩
    · obtain ⟨J, hJ⟩ : ∃ z, joinL (x.lv, x.c) (y.lv, y.c) = z := ⟨_, rfl⟩
      have KJ : Hid (∀ W, Calls Try.prog 38 #[Lab x.lv x.c, Lab y.lv y.c] W fun e w' => e = .returned (LabP J) ∧ Below W.heap.size W w') := Lib.hid (fun W => by have := rjoin_any x.lv x.c y.lv y.c W HC1.out HC2.out; rwa [hJ] at this)
      obtain ⟨j1, j2⟩ := J
      have HR : Hid (mergeA x y = ⟨x.src, x.fl, j1, j2, min x.fr y.fr, mTil x.til y.til⟩) := by show _ = _; unfold mergeA; rw [hJ]
      have HOK := Lib.hid hok
      clear hJ hok HC1 HC2
      obtain ⟨a0, a1, a2, a3, a4, a5⟩ := HM.out.a
      obtain ⟨b0, b1, b2, b3, b4, b5⟩ := HM.out.b
      have f4 := there_free HM.out.ath 4 (by decide)
      obtain ⟨mf, hmf⟩ : ∃ z, min x.fr y.fr = z := ⟨_, rfl⟩
      have HMF := Lib.hid hmf
      go_upto_region 4 with fail
      change Code.wp _ _ _ _ (wc.setCells w.heap.size 4 [.int .i64 mf])
      have H4 := Lib.hid (HM.out.put4 mf)
      generalize wc.setCells w.heap.size 4 [.int .i64 mf] = w4 at *
      clear a0 a1 a2 a3 a4 a5 b0 b1 b2 b3 b4 b5 f4 hmf HM
      obtain ⟨a0, a1, a2, a3, a4, a5⟩ := H4.out.a
      obtain ⟨b0, b1, b2, b3, b4, b5⟩ := H4.out.b
      have f5 := there_free H4.out.ath 5 (by decide)
      go_cut [35] (fun s35 wx => s35 = .bool (decide (x.til = 0 ∨ y.til = 0)) ∧ MSt w x y (.slice va x.fl.length vc) (.slice ua y.fl.length uc) x.lv x.c mf x.til wx)
      case first =>
        by_cases h1 : x.til = 0
        · have HE : Hid (decide (x.til = 0 ∨ y.til = 0) = true) := Lib.hid (by simp [h1])
          have q1 : (x.til == 0) = true := by simp [h1]
          clear h1
          go_wp2
          go_meet
          exact ⟨by rw [HE.out], H4.out⟩
        · have q1 : (x.til == 0) = false := by simp [h1]
          by_cases h2 : y.til = 0
          · have HE : Hid (decide (x.til = 0 ∨ y.til = 0) = true) := Lib.hid (by simp [h2])
            have q2 : (y.til == 0) = true := by simp [h2]
            clear h1 h2
            go_wp2
            go_meet
            exact ⟨by rw [HE.out], H4.out⟩
          · have HE : Hid (decide (x.til = 0 ∨ y.til = 0) = false) := Lib.hid (by simp [h1, h2])
            have q2 : (y.til == 0) = false := by simp [h2]
            clear h1 h2
            go_wp2
            go_meet
            exact ⟨by rw [HE.out], H4.out⟩
      case rest =>
       obtain ⟨rfl, hM4⟩ := hcut
       have H4b := Lib.hid hM4
       clear a0 a1 a2 a3 a4 a5 b0 b1 b2 b3 b4 b5 f5 H4 hM4
       obtain ⟨a0, a1, a2, a3, a4, a5⟩ := H4b.out.a
       obtain ⟨b0, b1, b2, b3, b4, b5⟩ := H4b.out.b
       have f5 := there_free H4b.out.ath 5 (by decide)
       go_upto_if 35 with fail
       go_cut [] (fun wx => MSt w x y (.slice va x.fl.length vc) (.slice ua y.fl.length uc) x.lv x.c mf (mTil x.til y.til) wx)
       case first =>
        by_cases h1 : x.til = 0 ∨ y.til = 0
        · have HE : Hid (mTil x.til y.til = 0) := Lib.hid (by unfold mTil; rw [if_pos h1])
          have q1 : decide (x.til = 0 ∨ y.til = 0) = true := by simp only [h1, decide_true]
          rw [q1]
          clear h1 q1
          go_wp2
          go_meet
          rw [HE.out]
          exact H4b.out.put5 _
        · have HE : Hid (mTil x.til y.til = max x.til y.til) := Lib.hid (by unfold mTil; rw [if_neg h1])
          have q1 : decide (x.til = 0 ∨ y.til = 0) = false := by simp only [h1, decide_false]
          rw [q1]
          clear h1 q1
          go_wp2
          go_meet
          rw [HE.out]
          exact H4b.out.put5 _
       case rest =>
        have H5 := Lib.hid hcut
        clear a0 a1 a2 a3 a4 a5 b0 b1 b2 b3 b4 b5 f5 H4b hcut
        obtain ⟨t, ht⟩ : ∃ t, mTil x.til y.til = t := ⟨_, rfl⟩
        rw [ht] at H5
        have HTT := Lib.hid ht
        clear ht
        obtain ⟨a0, a1, a2, a3, a4, a5⟩ := H5.out.a
        obtain ⟨b0, b1, b2, b3, b4, b5⟩ := H5.out.b
        go_wp2_with fail
        refine (KJ.out _).mono ?_
        rintro e wj ⟨rfl, hbj⟩
        have H6 := Lib.hid (H5.out.later hbj)
        clear a0 a1 a2 a3 a4 a5 b0 b1 b2 b3 b4 b5 hbj H5
        have f2 := there_free H6.out.ath 2 (by decide)
        have f3 := there_free H6.out.ath 3 (by decide)
        obtain ⟨a0, a1, a2, a3, a4, a5⟩ := H6.out.a
        go_upto_region 8 with fail
        change Code.wp _ _ _ _ ((wj.setCells w.heap.size 2 [.int .i64 j1]).setCells w.heap.size 3 [.int .u32 j2])
        have H7 := Lib.hid ((H6.out.put2 j1).put3 j2)
        generalize (wj.setCells w.heap.size 2 [.int .i64 j1]).setCells w.heap.size 3 [.int .u32 j2] = w8 at *
        clear a0 a1 a2 a3 a4 a5 f2 f3 H6
        obtain ⟨a0, a1, a2, a3, a4, a5⟩ := H7.out.a
        have f0 := there_free H7.out.rth 0 (by decide)
        have f1 := there_free H7.out.rth 1 (by decide)
        have f2 := there_free H7.out.rth 2 (by decide)
        have f3 := there_free H7.out.rth 3 (by decide)
        have f4 := there_free H7.out.rth 4 (by decide)
        have f5 := there_free H7.out.rth 5 (by decide)
        obtain ⟨y0, hy0⟩ := there_cell H7.out.rth 0 (by decide)
        obtain ⟨y1, hy1⟩ := there_cell H7.out.rth 1 (by decide)
        obtain ⟨y2, hy2⟩ := there_cell H7.out.rth 2 (by decide)
        obtain ⟨y3, hy3⟩ := there_cell H7.out.rth 3 (by decide)
        obtain ⟨y4, hy4⟩ := there_cell H7.out.rth 4 (by decide)
        obtain ⟨y5, hy5⟩ := there_cell H7.out.rth 5 (by decide)
        go_wp2
        refine bodyPost_ret (results_agg2 rfl _ _ (w.heap.size + 1 + 1) [.string x.src, .slice va x.fl.length vc, .int .i64 j1, .int .u32 j2, .int .i64 mf, .int .i64 t] (.struct _) rfl (World.rangeAt_setCells_same w8 (w.heap.size + 1 + 1) 0 [.string x.src, .slice va x.fl.length vc, .int .i64 j1, .int .u32 j2, .int .i64 mf, .int .i64 t] H7.out.rth) Try.underlying38 rfl (by kernel_rfl)) rfl ?_
        have hbb := below_puts (g := w.heap.size + 1 + 1) (o := 0) H7.out.below (by omega) [.string x.src, .slice va x.fl.length vc, .int .i64 j1, .int .u32 j2, .int .i64 mf, .int .i64 t]
        refine ⟨?_, hbb⟩
        rw [HOK.out]
        unfold mergeR
        dsimp only
        rw [HR.out, HMF.out, HTT.out]
        rfl
end Go.Proofs.Ytipnhpfpppblhaa

