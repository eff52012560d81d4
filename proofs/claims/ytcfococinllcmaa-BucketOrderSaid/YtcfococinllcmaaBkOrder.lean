/- BucketOrder: the walk. -/
import Derived.Test.YtcfococinllcmaaBkLow
namespace Go.Proofs.Ytcfococinllcmaa
open Go.RowKit

theorem uintModH (n m : Int) (h : 0 < m) (hm : m ≤ 9223372036854775807) : ∃ N : Nat, wrap64 ((IntKind.u64.wrap n).tmod m) = (N : Int) ∧ (N : Int) < m := by
  rw [IntKind.wrap_u64]
  have h1 : 0 ≤ n % 18446744073709551616 := Int.emod_nonneg _ (by omega)
  rw [Int.tmod_eq_emod_of_nonneg h1]
  have h2 := Int.emod_nonneg (n % 18446744073709551616) (Int.ne_of_gt h)
  have h3 := Int.emod_lt_of_pos (n % 18446744073709551616) h
  rw [IntWalk.wrap64_in _ ⟨by omega, by omega⟩]
  exact ⟨_, (Int.toNat_of_nonneg h2).symm, by rw [Int.toNat_of_nonneg h2]; exact h3⟩
structure OrdAt (w : World) (g : Nat) (h : Ha) (wv bv : Value) (W : World) : Prop where
  b : Below w.heap.size w W
  hz : w.heap.size < g
  gz : g < W.heap.size
  hc : C7 g (.string h.nm) (.int .i64 h.f) (.int .u32 h.fc) (.int .i64 h.t) (.int .u32 h.tc) wv bv W
  ha : HaAt W h wv bv
theorem OrdAt.later {w : World} {g : Nat} {h : Ha} {wv bv : Value} {W W' : World} (s : OrdAt w g h wv bv W) (hb : Below W.heap.size W W') : OrdAt w g h wv bv W' :=
  ⟨s.b.trans (hb.mono s.b.size), s.hz, Nat.lt_of_lt_of_le s.gz hb.size, s.hc.later hb s.gz, s.ha.later hb⟩
theorem tell_own (h : Ha) (l : List (Al × Value)) (now : Int) : tellV h l h.t h.tc now = tellV h l 7 4294967295 now := by
  rw [tell_top]
  unfold tellV
  cases hr : rightH h with
  | false => simp
  | true =>
    have h1 := right_top hr
    have h2 : flowsL h.t h.tc h.t h.tc = true := by
      unfold flowsL at h1 ⊢
      simp only [Bool.and_eq_true, decide_eq_true_eq] at h1 ⊢
      refine ⟨⟨⟨h1.1.1.1, h1.1.1.1⟩, Int.le_refl _⟩, ?_⟩
      unfold subB
      rw [List.all_eq_true]
      intro k _
      cases h.tc.testBit k <;> rfl
    rw [h2]; simp
theorem tell_pair (h : Ha) (l : List (Al × Value)) (now : Int) : tellV h l 7 4294967295 now = .tuple #[.int .i64 ((if rightH h = true then ofL h.bl (countN h l now) else 0 : Nat) : Int), .bool (rightH h)] := by
  rw [tell_top]
  cases rightH h <;> rfl
theorem count_turn (h : Ha) (l : List (Al × Value)) (k : Nat) (now : Int) : countN h (l.drop k ++ l.take k) now = countN h l now := by
  unfold countN
  have e : (l.take k ++ l.drop k).countP (fun p => countsH h p.1 now) = l.countP (fun p => countsH h p.1 now) := by rw [List.take_append_drop]
  rw [← e, List.countP_append, List.countP_append, Nat.add_comm]
theorem alCells_take (l : List (Al × Value)) (i : Nat) : alCells (l.take i) = (alCells l).take (i * 6) := by
  induction l generalizing i with
  | nil => simp [alCells]
  | cons f l ih =>
    cases i with
    | zero => simp [alCells]
    | succ i =>
      have hl : (alC f.1 f.2).length = 6 := rfl
      rw [List.take_succ_cons, alCells, ih, alCells, List.take_append, List.take_of_length_le (l := alC f.1 f.2) (by rw [hl]; omega), hl, show (i + 1) * 6 - 6 = i * 6 by omega]
theorem alCells_drop (l : List (Al × Value)) (i : Nat) : alCells (l.drop i) = (alCells l).drop (i * 6) := by
  induction l generalizing i with
  | nil => simp [alCells]
  | cons f l ih =>
    cases i with
    | zero => simp
    | succ i =>
      have hl : (alC f.1 f.2).length = 6 := rfl
      rw [List.drop_succ_cons, ih, alCells, List.drop_append, (List.drop_eq_nil_of_le (by rw [hl]; omega) : (alC f.1 f.2).drop ((i + 1) * 6) = []), List.nil_append, hl, show (i + 1) * 6 - 6 = i * 6 by omega]
theorem alCells_app (a b : List (Al × Value)) : alCells (a ++ b) = alCells a ++ alCells b := by
  induction a with
  | nil => rfl
  | cons p l ih => simp [alCells, ih]
theorem rd_empty6 (w : World) (a : Addr) (c : Nat) : RdAt w (.slice (some a) 0 c) 0 6 [] := ⟨rfl, .inr ⟨a, c, rfl, Nat.zero_le _, fun h => absurd h (Nat.lt_irrefl _)⟩⟩
theorem rd_drop6 {w : World} {b o n c : Nat} {xs : List Value} (h : RdAt w (.slice (some ⟨b, o, none⟩) n c) n 6 xs) (hb : b < w.heap.size) (k : Nat) (hk : k ≤ n) : RdAt w (.slice (some ⟨b, o + k * 6, none⟩) (n - k) (c - k)) (n - k) 6 (xs.drop (k * 6)) := by
  obtain ⟨hl, hr⟩ := h
  rcases hr with ⟨h1, _⟩ | ⟨ad, c', h1, hc, hcell⟩
  · cases h1
  · simp only [Value.slice.injEq, Option.some.injEq] at h1
    obtain ⟨rfl, _, rfl⟩ := h1
    refine ⟨by rw [List.length_drop, hl, Nat.sub_mul], .inr ⟨_, _, rfl, by omega, fun h0 => ?_⟩⟩
    obtain ⟨b', o', e, _, hce⟩ := hcell (by omega)
    simp only [Addr.mk.injEq] at e
    obtain ⟨rfl, rfl, _⟩ := e
    refine ⟨b, o + k * 6, rfl, hb, fun j x hj => ?_⟩
    rw [List.getElem?_drop] at hj
    rw [Nat.add_assoc]
    exact hce _ _ hj
namespace lawOrder
set_option maxHeartbeats 32000000 in
set_option maxRecDepth 100000 in
theorem walkA (hv : Value) (h : Ha) (wv bv : Value) (lv : Value) (l : List (Al × Value)) (at' : Int) (w : World) (hh : ArgHa w hv h wv bv) (hl : AlsAt w lv l ∧ l.length ≤ maxLen) (h00 : l.length = 0) :
    Calls Try.prog 4 #[hv, lv, .int .i64 at'] w fun e w' => e = .returned (.bool true) ∧ Below w.heap.size w w' := by
  have H00 := Lib.hid h00
  clear h00
  obtain ⟨rfl, hat, hnm, hms, hbn, hmf, _, _⟩ := hh
  have hshw : ∃ x n c, wv = .slice x n c := by obtain ⟨x, c, e, _⟩ := RdAt.shape hat.ms; exact ⟨x, _, c, e⟩
  have hshb : ∃ x n c, bv = .slice x n c := by obtain ⟨x, c, e, _⟩ := RdAt.shape hat.bl; exact ⟨x, _, c, e⟩
  have hshl : ∃ x n c, lv = .slice x n c := by obtain ⟨x, c, e, _⟩ := RdAt.shape hl.1.row; exact ⟨x, _, c, e⟩
  obtain ⟨la, ln, lc, rfl⟩ := hshl
  obtain ⟨wa, wn, wc, rfl⟩ := hshw
  obtain ⟨ba, bn, bc, rfl⟩ := hshb
  obtain ⟨W0, hW0⟩ : ∃ z, w.alloc (.cells #[.string h.nm, .int .i64 h.f, .int .u32 h.fc, .int .i64 h.t, .int .u32 h.tc, .slice wa wn wc, .slice ba bn bc] 28) = z := ⟨_, rfl⟩
  have hB0 := alloc_below w (.cells #[.string h.nm, .int .i64 h.f, .int .u32 h.fc, .int .i64 h.t, .int .u32 h.tc, .slice wa wn wc, .slice ba bn bc] 28)
  have X0 := alc7 w (.string h.nm) (.int .i64 h.f) (.int .u32 h.fc) (.int .i64 h.t) (.int .u32 h.tc) (.slice wa wn wc) (.slice ba bn bc) 28
  have hlt0 := World.size_alloc w (.cells #[.string h.nm, .int .i64 h.f, .int .u32 h.fc, .int .i64 h.t, .int .u32 h.tc, .slice wa wn wc, .slice ba bn bc] 28)
  rw [hW0] at hB0 X0 hlt0
  have kl := lives_any W0
  have kb := fun W (hW : Below w.heap.size w W) => hback_any h (.slice wa wn wc) (.slice ba bn bc) W (hat.later hW) hms hbn
  have kf := fun W (hW : Below w.heap.size w W) => few_any l (.slice la ln lc) W (hl.1.later hW) hl.2
  have hfit := cutH_fit (h := h) hnm hmf
  have KF := Lib.hid kf
  obtain ⟨nm, f, fcc, t, tc, ms, bl⟩ := h
  change HaFit ⟨nm, f, fcc, t, tc, ms.take 14, bl.take 22⟩ at hfit
  have kb2 : ∀ W, Below w.heap.size w W → Calls Try.prog 9 #[.agg #[.string nm, .int .i64 f, .int .u32 fcc, .int .i64 t, .int .u32 tc, .slice wa wn wc, .slice ba bn bc]] W fun e w' =>
      ∃ wv' bv', e = .returned (.agg #[.string nm, .int .i64 f, .int .u32 fcc, .int .i64 t, .int .u32 tc, wv', bv']) ∧ HaAt W ⟨nm, f, fcc, t, tc, ms.take 14, bl.take 22⟩ wv' bv' ∧ Below W.heap.size W w' := kb
  generalize ms.take 14 = ms' at *
  generalize bl.take 22 = bl' at *
  have KB := Lib.hid kb2
  have HFIT := Lib.hid hfit
  dsimp only at *
  have HX0 := Lib.hid X0
  have HB0 := Lib.hid hB0
  clear hat hnm hms hbn hmf hl kb kb2 kf X0 hB0 hfit
  go_enter Try.func4, Try.ntmps4
  go_upto_region 1 with fail
  try rw [hW0]
  clear hW0
  go_wp2_with fail
  refine kl.mono ?_
  rintro e w1 ⟨rfl, hb1⟩
  have HX1 := Lib.hid (HX0.out.later hb1 (by omega))
  have HB1 := Lib.hid (HB0.out.trans (hb1.mono HB0.out.size))
  have hlt1 : w.heap.size < w1.heap.size := by have := hb1.size; omega
  clear kl hb1 HX0 HB0 hlt0
  have kb := KB.out w1 HB1.out
  obtain ⟨x0, x1, x2, x3, x4, x5, x6⟩ := HX1.out
  go_wp2_with fail
  refine kb.mono ?_
  rintro e w2 ⟨wv', bv', rfl, hat2, hb2⟩
  obtain ⟨ma, mn, mc, ba', bn', bc', rfl, rfl⟩ := haat_shape hat2
  have HB2 := Lib.hid (HB1.out.trans (hb2.mono HB1.out.size))
  have hat2' := hat2.later hb2
  have hlt2 := Nat.lt_of_lt_of_le hlt1 hb2.size
  have hba := alloc_below w2 (.cells #[.string nm, .int .i64 f, .int .u32 fcc, .int .i64 t, .int .u32 tc, .slice ma mn mc, .slice ba' bn' bc'] 34)
  have hz := World.size_alloc w2 (.cells #[.string nm, .int .i64 f, .int .u32 fcc, .int .i64 t, .int .u32 tc, .slice ma mn mc, .slice ba' bn' bc'] 34)
  have hc7 := alc7 w2 (.string nm) (.int .i64 f) (.int .u32 fcc) (.int .i64 t) (.int .u32 tc) (.slice ma mn mc) (.slice ba' bn' bc') 34
  obtain ⟨g, hg⟩ : ∃ g, w2.heap.size = g := ⟨_, rfl⟩
  have L3 : OrdAt w g ⟨nm, f, fcc, t, tc, ms', bl'⟩ (.slice ma mn mc) (.slice ba' bn' bc') (w2.alloc (.cells #[.string nm, .int .i64 f, .int .u32 fcc, .int .i64 t, .int .u32 tc, .slice ma mn mc, .slice ba' bn' bc'] 34)) :=
    ⟨HB2.out.trans (hba.mono HB2.out.size), by omega, by omega, by rw [hg] at hc7; exact hc7, hat2'.later hba⟩
  have HL3 := Lib.hid L3
  have kf := KF.out _ HL3.out.b
  clear kb hb2 HX1 HB1 hlt1 KB x0 x1 x2 x3 x4 x5 x6 hat2 hat2' hba HB2 hlt2 KF hc7 L3 hz
  go_wp2_with fail
  refine kf.mono ?_
  rintro e w4 ⟨ov, dv, l1, rfl, hb4, ho4, hd4, hm4⟩
  have HL4 := Lib.hid (HL3.out.later hb4)
  have HO4 := Lib.hid ho4
  have hl1 : l1.length = min 12 l.length := by
    have := congrArg List.length hm4
    simp only [List.length_map, List.length_take] at this
    omega
  have HL1 := Lib.hid hl1
  clear hl1
  have hn1 : l1.length ≤ 12 := by
    have := congrArg List.length hm4
    rw [List.length_map, List.length_map, List.length_take] at this
    omega
  obtain ⟨oa, oc, rfl, _⟩ := als_shape ho4
  clear kf hb4 HL3 ho4 hd4 hm4
  obtain ⟨K, hK, hlt⟩ := uintModH at' ((l1.length : Int) + 1) (by omega) (by omega)
  have hw1 : IntKind.u64.wrap ((l1.length : Int) + 1) = (l1.length : Int) + 1 := IntWalk.u64_in _ ⟨by omega, by omega⟩
  have hKl : K ≤ l1.length := by omega
  have hk0 : (0 : Int) ≤ (K : Int) := by omega
  have hk1 : (K : Int) ≤ (l1.length : Int) := by omega
  go_upto_region 6 with fail
  rw [hK]
  clear hK hw1
  have hoc : l1.length ≤ oc := by
    obtain ⟨_, _, e, h, _⟩ := RdAt.shape HO4.out.row
    simp only [Value.slice.injEq] at e
    omega
  obtain ⟨i0, hi, hz0, hz1, hz2⟩ := info_parts info_al
  have HC1 : Hid (∀ y ∈ alCells l1, y.oneCell' = true) := Lib.hid (alC_cells l1 (fun p hp => by
    obtain ⟨a, c, e, _⟩ := RdAt.shape (HO4.out.fld p hp).1
    rw [e]; rfl))
  have HTU : Hid (∀ W v, Below w4.heap.size w4 W → W.ownsRow w4.heap.size 41 6 v (0 + (l1.length - K) + K) (([] ++ (alCells l1).drop (K * 6)) ++ (alCells l1).take (K * 6)) → AlsAt W v (l1.drop K ++ l1.take K) ∧ (l1.drop K ++ l1.take K).length ≤ 100) := Lib.hid (fun W v hb ho => by
    have hl : (l1.drop K ++ l1.take K).length = l1.length := by rw [List.length_append, List.length_drop, List.length_take]; omega
    refine ⟨⟨?_, fun p hp => ?_⟩, by omega⟩
    · rw [alCells_app, alCells_drop, alCells_take, hl]
      have e : 0 + (l1.length - K) + K = l1.length := by omega
      rw [e, List.nil_append] at ho
      exact RdAt.own ho
    · rcases List.mem_append.1 hp with h | h
      · have h' := List.mem_of_mem_drop h
        exact ⟨(HO4.out.fld p h').1.later hb, (HO4.out.fld p h').2⟩
      · have h' := List.mem_of_mem_take h
        exact ⟨(HO4.out.fld p h').1.later hb, (HO4.out.fld p h').2⟩)
  obtain ⟨N, hN⟩ : ∃ N : Nat, (if rightH ⟨nm, f, fcc, t, tc, ms', bl'⟩ = true then ofL bl' (countN ⟨nm, f, fcc, t, tc, ms', bl'⟩ l1 20) else 0) = N := ⟨_, rfl⟩
  have HN0 : Hid (rightH ⟨nm, f, fcc, t, tc, ms', bl'⟩ = false → N = 0) := Lib.hid (fun h => by rw [← hN, h]; rfl)
  have KT1 : Hid (∀ W v l', Below w4.heap.size w4 W → AlsAt W v l' → l'.length ≤ 100 → countN ⟨nm, f, fcc, t, tc, ms', bl'⟩ l' 20 = countN ⟨nm, f, fcc, t, tc, ms', bl'⟩ l1 20 → Calls Try.prog 11 #[.agg #[.string nm, .int .i64 f, .int .u32 fcc, .int .i64 t, .int .u32 tc, .slice ma mn mc, .slice ba' bn' bc'], v, .agg #[.int .i64 7, .int .u32 4294967295], .int .i64 20] W fun e w' => e = .returned (.tuple #[.int .i64 N, .bool (rightH ⟨nm, f, fcc, t, tc, ms', bl'⟩)]) ∧ Below W.heap.size W w') := Lib.hid (fun W v l' hb ha hl hc => by
    have := tell_any ⟨nm, f, fcc, t, tc, ms', bl'⟩ (.slice ma mn mc) (.slice ba' bn' bc') l' v 7 4294967295 20 W (HL4.out.ha.later hb) HFIT.out ha hl
    rw [tell_pair, hc] at this
    dsimp only at this
    rw [hN] at this
    exact this)
  have KT3 : Hid (∀ W v, Below w4.heap.size w4 W → AlsAt W v l1 → Calls Try.prog 11 #[.agg #[.string nm, .int .i64 f, .int .u32 fcc, .int .i64 t, .int .u32 tc, .slice ma mn mc, .slice ba' bn' bc'], v, .agg #[.int .i64 t, .int .u32 tc], .int .i64 20] W fun e w' => e = .returned (.tuple #[.int .i64 N, .bool (rightH ⟨nm, f, fcc, t, tc, ms', bl'⟩)]) ∧ Below W.heap.size W w') := Lib.hid (fun W v hb ha => by
    have := tell_any ⟨nm, f, fcc, t, tc, ms', bl'⟩ (.slice ma mn mc) (.slice ba' bn' bc') l1 v t tc 20 W (HL4.out.ha.later hb) HFIT.out ha (by omega)
    have e := tell_own ⟨nm, f, fcc, t, tc, ms', bl'⟩ l1 20
    dsimp only at e
    rw [e, tell_pair] at this
    dsimp only at this
    rw [hN] at this
    exact this)
  have HCT := Lib.hid (fun k => count_turn ⟨nm, f, fcc, t, tc, ms', bl'⟩ l1 k 20)
  generalize rightH ⟨nm, f, fcc, t, tc, ms', bl'⟩ = R at *
  clear hN
  have h0 : l1.length = 0 := by have := HL1.out; have := H00.out; omega
  · obtain rfl : K = 0 := by omega
    have hl0 : l1 = [] := List.length_eq_zero_iff.1 h0
    subst hl0
    rcases HO4.out.row.2 with ⟨e, _⟩ | ⟨ad, c', e, _, _⟩
    · simp only [Value.slice.injEq] at e
      obtain ⟨rfl, _, rfl⟩ := e
      go_region_held_law (fun _ => True) (exact trivial)
        (first
          | (refine step_append_rd (by rfl) (.const (.slice none 0 0)) (.tmp 37) _ (by rfl) w4.heap.size 41 i0 (.agg #[.string ⟨#[]⟩, .slice none 0 0, .int .i64 0, .int .u32 0, .int .i64 0, .int .i64 0]) 6 72 Try.underlying36 hi hz0 hz1 hz2 rfl (by decide) _ 0 [] (by rfl) (by exact World.ownsRow_nil _ _ _ _) _ 0 [] (by rfl) (by exact RdAt.nil _ 6) (fun y hy => by cases hy) (by unfold maxLen; omega) (by omega) (by simp) ?_; intro v1 w1' hown1 hgrow1 _; have hb1 : Below w4.heap.size w4 w1' := (((Below.refl w4.heap.size w4).drew)).grown hgrow1 (by simp) (fun m hm => by cases hm))
          | (refine step_append_rd (by rfl) (.tmp 38) (.tmp 41) _ (by rfl) w4.heap.size 41 i0 (.agg #[.string ⟨#[]⟩, .slice none 0 0, .int .i64 0, .int .u32 0, .int .i64 0, .int .i64 0]) 6 72 Try.underlying36 hi hz0 hz1 hz2 rfl (by decide) _ _ _ (by rfl) (by exact hown1) _ 0 [] (by rfl) (by exact RdAt.nil _ 6) (fun y hy => by cases hy) (by unfold maxLen; omega) (by omega) (by exact hb1.size) ?_; intro v2 w2' hown2 hgrow2 _; have hb2 : Below w4.heap.size w4 w2' := hb1.grown hgrow2 hb1.size (fun m hm => (hown1.lt m hm).1)))
      all_goals
        have HTA := HTU.out _ _ hb2 hown2
        have HB6 := Lib.hid hb2
        have kt := KT1.out _ _ _ hb2 (HO4.out.later hb2) (by first | omega | decide) rfl
        have HT6 := Lib.hid HTA
        have X := HL4.out.hc.later hb2 HL4.out.gz
        obtain ⟨x0, x1, x2, x3, x4, x5, x6⟩ := X
        dsimp only at x0 x1 x2 x3 x4 x5 x6
        clear hown1 hown2 hgrow1 hgrow2 hb1 hb2 HTU HTA HC1
        go_wp2_with fail
        refine kt.mono ?_
        rintro e w7 ⟨rfl, hb7⟩
        have HB7 := Lib.hid (HB6.out.trans (hb7.mono HB6.out.size))
        have kt2 := KT1.out _ _ _ HB7.out (HT6.out.1.later hb7) HT6.out.2 (HCT.out _)
        clear kt hb7 x0 x1 x2 x3 x4 x5 x6 HB6 HT6
        obtain ⟨x0, x1, x2, x3, x4, x5, x6⟩ := HL4.out.hc.later HB7.out HL4.out.gz
        dsimp only at x0 x1 x2 x3 x4 x5 x6
        go_wp2_with fail
        refine kt2.mono ?_
        rintro e w8 ⟨rfl, hb8⟩
        have HB8 := Lib.hid (HB7.out.trans (hb8.mono HB7.out.size))
        have kt3 := KT3.out _ _ HB8.out (HO4.out.later HB8.out)
        clear kt2 hb8 x0 x1 x2 x3 x4 x5 x6 HB7
        obtain ⟨x0, x1, x2, x3, x4, x5, x6⟩ := HL4.out.hc.later HB8.out HL4.out.gz
        dsimp only at x0 x1 x2 x3 x4 x5 x6
        go_wp2_with fail
        refine kt3.mono ?_
        rintro e w9 ⟨rfl, hb9⟩
        have HB9 := Lib.hid (HL4.out.b.trans ((HB8.out.trans (hb9.mono HB8.out.size)).mono HL4.out.b.size))
        clear kt3 hb9 x0 x1 x2 x3 x4 x5 x6 HB8 KT1 KT3
        cases R with
        | true =>
          go_wp2
          go_ret
          exact ⟨rfl, HB9.out⟩
        | false =>
          obtain rfl : N = 0 := HN0.out (by first | rfl | trivial)
          go_wp2
          go_ret
          exact ⟨rfl, HB9.out⟩
    · simp only [Value.slice.injEq] at e
      obtain ⟨rfl, _, rfl⟩ := e
      obtain ⟨b, o, sp⟩ := ad
      by_cases hcap : oc = 0
      · subst hcap
        go_region_held_law (fun _ => True) (exact trivial)
          (first
            | (refine step_append_rd (by rfl) (.const (.slice none 0 0)) (.tmp 37) _ (by rfl) w4.heap.size 41 i0 (.agg #[.string ⟨#[]⟩, .slice none 0 0, .int .i64 0, .int .u32 0, .int .i64 0, .int .i64 0]) 6 72 Try.underlying36 hi hz0 hz1 hz2 rfl (by decide) _ 0 [] (by rfl) (by exact World.ownsRow_nil _ _ _ _) _ 0 [] (by rfl) (by exact rd_empty6 _ _ _) (fun y hy => by cases hy) (by unfold maxLen; omega) (by omega) (by simp) ?_; intro v1 w1' hown1 hgrow1 _; have hb1 : Below w4.heap.size w4 w1' := (((Below.refl w4.heap.size w4).drew)).grown hgrow1 (by simp) (fun m hm => by cases hm))
            | (refine step_append_rd (by rfl) (.tmp 38) (.tmp 41) _ (by rfl) w4.heap.size 41 i0 (.agg #[.string ⟨#[]⟩, .slice none 0 0, .int .i64 0, .int .u32 0, .int .i64 0, .int .i64 0]) 6 72 Try.underlying36 hi hz0 hz1 hz2 rfl (by decide) _ _ _ (by rfl) (by exact hown1) _ 0 [] (by rfl) (by exact rd_empty6 _ _ _) (fun y hy => by cases hy) (by unfold maxLen; omega) (by omega) (by exact hb1.size) ?_; intro v2 w2' hown2 hgrow2 _; have hb2 : Below w4.heap.size w4 w2' := hb1.grown hgrow2 hb1.size (fun m hm => (hown1.lt m hm).1)))
        all_goals
          have HTA := HTU.out _ _ hb2 hown2
          have HB6 := Lib.hid hb2
          have kt := KT1.out _ _ _ hb2 (HO4.out.later hb2) (by first | omega | decide) rfl
          have HT6 := Lib.hid HTA
          have X := HL4.out.hc.later hb2 HL4.out.gz
          obtain ⟨x0, x1, x2, x3, x4, x5, x6⟩ := X
          dsimp only at x0 x1 x2 x3 x4 x5 x6
          clear hown1 hown2 hgrow1 hgrow2 hb1 hb2 HTU HTA HC1
          go_wp2_with fail
          refine kt.mono ?_
          rintro e w7 ⟨rfl, hb7⟩
          have HB7 := Lib.hid (HB6.out.trans (hb7.mono HB6.out.size))
          have kt2 := KT1.out _ _ _ HB7.out (HT6.out.1.later hb7) HT6.out.2 (HCT.out _)
          clear kt hb7 x0 x1 x2 x3 x4 x5 x6 HB6 HT6
          obtain ⟨x0, x1, x2, x3, x4, x5, x6⟩ := HL4.out.hc.later HB7.out HL4.out.gz
          dsimp only at x0 x1 x2 x3 x4 x5 x6
          go_wp2_with fail
          refine kt2.mono ?_
          rintro e w8 ⟨rfl, hb8⟩
          have HB8 := Lib.hid (HB7.out.trans (hb8.mono HB7.out.size))
          have kt3 := KT3.out _ _ HB8.out (HO4.out.later HB8.out)
          clear kt2 hb8 x0 x1 x2 x3 x4 x5 x6 HB7
          obtain ⟨x0, x1, x2, x3, x4, x5, x6⟩ := HL4.out.hc.later HB8.out HL4.out.gz
          dsimp only at x0 x1 x2 x3 x4 x5 x6
          go_wp2_with fail
          refine kt3.mono ?_
          rintro e w9 ⟨rfl, hb9⟩
          have HB9 := Lib.hid (HL4.out.b.trans ((HB8.out.trans (hb9.mono HB8.out.size)).mono HL4.out.b.size))
          clear kt3 hb9 x0 x1 x2 x3 x4 x5 x6 HB8 KT1 KT3
          cases R with
          | true =>
            go_wp2
            go_ret
            exact ⟨rfl, HB9.out⟩
          | false =>
            obtain rfl : N = 0 := HN0.out (by first | rfl | trivial)
            go_wp2
            go_ret
            exact ⟨rfl, HB9.out⟩
      · go_region_held_law (fun _ => True) (exact trivial)
          (first
            | (refine step_append_rd (by rfl) (.const (.slice none 0 0)) (.tmp 37) _ (by rfl) w4.heap.size 41 i0 (.agg #[.string ⟨#[]⟩, .slice none 0 0, .int .i64 0, .int .u32 0, .int .i64 0, .int .i64 0]) 6 72 Try.underlying36 hi hz0 hz1 hz2 rfl (by decide) _ 0 [] (by rfl) (by exact World.ownsRow_nil _ _ _ _) _ 0 [] (by rfl) (by exact rd_empty6 _ _ _) (fun y hy => by cases hy) (by unfold maxLen; omega) (by omega) (by simp) ?_; intro v1 w1' hown1 hgrow1 _; have hb1 : Below w4.heap.size w4 w1' := (((Below.refl w4.heap.size w4).drew)).grown hgrow1 (by simp) (fun m hm => by cases hm))
            | (refine step_append_rd (by rfl) (.tmp 38) (.tmp 41) _ (by rfl) w4.heap.size 41 i0 (.agg #[.string ⟨#[]⟩, .slice none 0 0, .int .i64 0, .int .u32 0, .int .i64 0, .int .i64 0]) 6 72 Try.underlying36 hi hz0 hz1 hz2 rfl (by decide) _ _ _ (by rfl) (by exact hown1) _ 0 [] (by rfl) (by exact rd_empty6 _ _ _) (fun y hy => by cases hy) (by unfold maxLen; omega) (by omega) (by exact hb1.size) ?_; intro v2 w2' hown2 hgrow2 _; have hb2 : Below w4.heap.size w4 w2' := hb1.grown hgrow2 hb1.size (fun m hm => (hown1.lt m hm).1)))
        all_goals
          have HTA := HTU.out _ _ hb2 hown2
          have HB6 := Lib.hid hb2
          have kt := KT1.out _ _ _ hb2 (HO4.out.later hb2) (by first | omega | decide) rfl
          have HT6 := Lib.hid HTA
          have X := HL4.out.hc.later hb2 HL4.out.gz
          obtain ⟨x0, x1, x2, x3, x4, x5, x6⟩ := X
          dsimp only at x0 x1 x2 x3 x4 x5 x6
          clear hown1 hown2 hgrow1 hgrow2 hb1 hb2 HTU HTA HC1
          go_wp2_with fail
          refine kt.mono ?_
          rintro e w7 ⟨rfl, hb7⟩
          have HB7 := Lib.hid (HB6.out.trans (hb7.mono HB6.out.size))
          have kt2 := KT1.out _ _ _ HB7.out (HT6.out.1.later hb7) HT6.out.2 (HCT.out _)
          clear kt hb7 x0 x1 x2 x3 x4 x5 x6 HB6 HT6
          obtain ⟨x0, x1, x2, x3, x4, x5, x6⟩ := HL4.out.hc.later HB7.out HL4.out.gz
          dsimp only at x0 x1 x2 x3 x4 x5 x6
          go_wp2_with fail
          refine kt2.mono ?_
          rintro e w8 ⟨rfl, hb8⟩
          have HB8 := Lib.hid (HB7.out.trans (hb8.mono HB7.out.size))
          have kt3 := KT3.out _ _ HB8.out (HO4.out.later HB8.out)
          clear kt2 hb8 x0 x1 x2 x3 x4 x5 x6 HB7
          obtain ⟨x0, x1, x2, x3, x4, x5, x6⟩ := HL4.out.hc.later HB8.out HL4.out.gz
          dsimp only at x0 x1 x2 x3 x4 x5 x6
          go_wp2_with fail
          refine kt3.mono ?_
          rintro e w9 ⟨rfl, hb9⟩
          have HB9 := Lib.hid (HL4.out.b.trans ((HB8.out.trans (hb9.mono HB8.out.size)).mono HL4.out.b.size))
          clear kt3 hb9 x0 x1 x2 x3 x4 x5 x6 HB8 KT1 KT3
          cases R with
          | true =>
            go_wp2
            go_ret
            exact ⟨rfl, HB9.out⟩
          | false =>
            obtain rfl : N = 0 := HN0.out (by first | rfl | trivial)
            go_wp2
            go_ret
            exact ⟨rfl, HB9.out⟩
end lawOrder
end Go.Proofs.Ytcfococinllcmaa
