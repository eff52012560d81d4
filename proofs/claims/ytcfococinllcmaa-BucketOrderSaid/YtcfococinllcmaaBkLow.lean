/- BucketLow: the walk. -/
import Derived.Test.YtcfococinllcmaaBkArgs3
import Derived.Test.YtcfococinllcmaaBkLifeB
import Derived.Test.YtcfococinllcmaaRefFl
namespace Go.Proofs.Ytcfococinllcmaa
open Go.RowKit

theorem als_one (W : World) (x : Al) (a : Option Addr) (n c : Nat) (hv : FldsAt W (.slice a n c) x.fl) (hx : AlFit x) (t : TypeId) :
    AlsAt (W.alloc (.cells #[.string x.src, .slice a n c, .int .i64 x.lv, .int .u32 x.c, .int .i64 x.fr, .int .i64 x.til] t)) (.slice (some ⟨W.heap.size, 0, none⟩) 1 1) [(x, .slice a n c)] :=
  ⟨row6 W _ _ _ _ _ _ t, fun p hp => by
    rw [List.mem_singleton.1 hp]
    exact ⟨hv.later (alloc_below _ _), hx⟩⟩
theorem cutH_fit {h : Ha} (hn : h.nm.size ≤ maxLen) (hm : MtsFit h.ms) : HaFit (cutH h) :=
  ⟨hn, fun m hm' => hm m (List.mem_of_mem_take hm'), by show (h.ms.take 14).length ≤ 1000; rw [List.length_take]; omega, by show (h.bl.take 22).length ≤ 1000; rw [List.length_take]; omega⟩
theorem alc7 (W : World) (a b c d e f g : Value) (t : TypeId) : C7 W.heap.size a b c d e f g (W.alloc (.cells #[a, b, c, d, e, f, g] t)) := by
  have hc : ∀ (i : Nat), (W.alloc (.cells #[a, b, c, d, e, f, g] t)).cell? ⟨W.heap.size, i, none⟩ = _ := fun i => World.cell?_alloc_at _ _ _ _ rfl
  exact ⟨hc 0, hc 1, hc 2, hc 3, hc 4, hc 5, hc 6⟩
theorem alc2 (W : World) (a b : Value) (t : TypeId) : (W.alloc (.cells #[a, b] t)).cell? ⟨W.heap.size, 0, none⟩ = some a ∧ (W.alloc (.cells #[a, b] t)).cell? ⟨W.heap.size, 1, none⟩ = some b := by
  have hc : ∀ (i : Nat), (W.alloc (.cells #[a, b] t)).cell? ⟨W.heap.size, i, none⟩ = _ := fun i => World.cell?_alloc_at _ _ _ _ rfl
  exact ⟨hc 0, hc 1⟩
theorem haat_shape {w : World} {h : Ha} {wv bv : Value} (ha : HaAt w h wv bv) : ∃ a n c a' n' c', wv = .slice a n c ∧ bv = .slice a' n' c' := by
  obtain ⟨a, c, e, _⟩ := RdAt.shape ha.ms
  obtain ⟨a', c', e', _⟩ := RdAt.shape ha.bl
  exact ⟨a, _, c, a', _, c', e, e'⟩
theorem als_shape {w : World} {v : Value} {l : List (Al × Value)} (h : AlsAt w v l) : ∃ a c, v = .slice a l.length c ∧ (0 < l.length → ∃ b o, a = some ⟨b, o, none⟩ ∧ b < w.heap.size ∧ ∀ (j : Nat) x, (alCells l)[j]? = some x → w.cell? ⟨b, o + j, none⟩ = some x) := by
  obtain ⟨a, c, e, _, hr⟩ := RdAt.shape h.row
  exact ⟨a, c, e, hr⟩
theorem one_of_map {x : Al} : ∀ {le : List (Al × Value)}, le.map (·.1) = [x] → ∃ v, le = [(x, v)]
  | [], h => by cases h
  | [p], h => ⟨p.2, by simp at h; rw [← h]⟩
  | _ :: _ :: _, h => by simp at h
theorem als_single {w : World} {v v' : Value} {src : ByteArray} {fl : List Fld} {lv : Int} {c : Nat} {fr til : Int} (h : AlsAt w v [(⟨src, fl, lv, c, fr, til⟩, v')]) :
    ∃ va n vc b o k, v' = .slice va n vc ∧ v = .slice (some ⟨b, o, none⟩) 1 k ∧ b < w.heap.size ∧
      (w.cell? ⟨b, o, none⟩ = some (.string src) ∧ w.cell? ⟨b, o + 1, none⟩ = some v' ∧ w.cell? ⟨b, o + 2, none⟩ = some (.int .i64 lv) ∧ w.cell? ⟨b, o + 3, none⟩ = some (.int .u32 c) ∧ w.cell? ⟨b, o + 4, none⟩ = some (.int .i64 fr) ∧ w.cell? ⟨b, o + 5, none⟩ = some (.int .i64 til)) ∧ FldsAt w v' fl ∧ AlFit ⟨src, fl, lv, c, fr, til⟩ := by
  obtain ⟨hf, hx⟩ := h.fld _ List.mem_cons_self
  obtain ⟨va, vc, hv, _, _⟩ := RdAt.shape hf
  obtain ⟨a, k, rfl, _, hr⟩ := RdAt.shape h.row
  obtain ⟨b, o, rfl, hb, hc⟩ := hr (by show 0 < 1; decide)
  exact ⟨va, _, vc, b, o, k, hv, rfl, hb, ⟨hc 0 _ rfl, hc 1 _ rfl, hc 2 _ rfl, hc 3 _ rfl, hc 4 _ rfl, hc 5 _ rfl⟩, hf, hx⟩
/-- what the one drawn region reads -/
abbrev LowS (g g6 be oe : Nat) (nm : ByteArray) (f : Int) (fc : Nat) (t : Int) (tc : Nat) (wv bv : Value) (src : ByteArray) (fv : Value) (alv : Int) (ac : Nat) (afr atil : Int) (W' : World) : Prop :=
  W'.cell? ⟨g, 0, none⟩ = some (.string nm) ∧ W'.cell? ⟨g, 1, none⟩ = some (.int .i64 f) ∧ W'.cell? ⟨g, 2, none⟩ = some (.int .u32 fc) ∧ W'.cell? ⟨g, 3, none⟩ = some (.int .i64 t) ∧ W'.cell? ⟨g, 4, none⟩ = some (.int .u32 tc) ∧ W'.cell? ⟨g, 5, none⟩ = some wv ∧ W'.cell? ⟨g, 6, none⟩ = some bv ∧
  W'.cell? ⟨g6, 0, none⟩ = some (.int .i64 7) ∧ W'.cell? ⟨g6, 1, none⟩ = some (.int .u32 4294967295) ∧
  W'.cell? ⟨be, oe, none⟩ = some (.string src) ∧ W'.cell? ⟨be, oe + 1, none⟩ = some fv ∧ W'.cell? ⟨be, oe + 2, none⟩ = some (.int .i64 alv) ∧ W'.cell? ⟨be, oe + 3, none⟩ = some (.int .u32 ac) ∧ W'.cell? ⟨be, oe + 4, none⟩ = some (.int .i64 afr) ∧ W'.cell? ⟨be, oe + 5, none⟩ = some (.int .i64 atil)
/-- what the law carries from call to call -/
structure LowAt (w : World) (g : Nat) (h : Ha) (wv bv : Value) (a : Al) (fv : Value) (W : World) : Prop where
  b : Below w.heap.size w W
  hz : w.heap.size + 1 < g
  gz : g < W.heap.size
  hc : C7 g (.string h.nm) (.int .i64 h.f) (.int .u32 h.fc) (.int .i64 h.t) (.int .u32 h.tc) wv bv W
  ha : HaAt W h wv bv
  y : C6 (w.heap.size + 1) (.string a.src) fv (.int .i64 a.lv) (.int .u32 a.c) (.int .i64 a.fr) (.int .i64 a.til) W
theorem LowAt.later {w : World} {g : Nat} {h : Ha} {wv bv : Value} {a : Al} {fv : Value} {W W' : World} (s : LowAt w g h wv bv a fv W) (hb : Below W.heap.size W W') : LowAt w g h wv bv a fv W' :=
  ⟨s.b.trans (hb.mono s.b.size), s.hz, Nat.lt_of_lt_of_le s.gz hb.size, s.hc.later hb s.gz, s.ha.later hb, s.y.later hb (by have := s.hz; have := s.gz; omega)⟩
theorem right_top {h : Ha} (hr : rightH h = true) : flowsL h.t h.tc 7 4294967295 = true := by
  unfold rightH at hr
  simp only [Bool.and_eq_true] at hr
  have h1 := hr.1.2
  unfold flowsL
  rw [h1]
  unfold rightL at h1
  rw [decide_eq_true_eq] at h1
  have h2 : subB h.tc 4294967295 = true := by
    unfold subB
    rw [List.all_eq_true]
    intro k hk
    have hk' := List.mem_range.1 hk
    have : ∀ k : Fin 32, (4294967295 : Nat).testBit k.val = true := by decide +kernel
    rw [this ⟨k, hk'⟩, Bool.or_true]
  rw [h2]
  simp [rightL]
  omega
theorem tell_top (h : Ha) (l : List (Al × Value)) (now : Int) : tellV h l 7 4294967295 now = if rightH h = true then .tuple #[.int .i64 (ofL h.bl (countN h l now) : Nat), .bool true] else .tuple #[.int .i64 0, .bool false] := by
  unfold tellV
  cases hr : rightH h with
  | false => simp
  | true => rw [right_top hr]; simp
theorem count_one (h : Ha) (l : List (Al × Value)) (p : Al × Value) (now : Int) : countN h (l ++ [p]) now = countN h l now + (if countsH h p.1 now = true then 1 else 0) := by
  unfold countN
  rw [List.countP_append, List.countP_singleton]
theorem count_no {h : Ha} {x : Al} {now : Int} (hf : flowsL x.lv x.c h.f h.fc = false) : countsH h x now = false := by
  unfold countsH; rw [hf]; simp
/-- one more is one bucket more at most -/
theorem ofL_succ (l : List Int) (n : Nat) : ofL l (n + 1 : Nat) = ofL l n ∨ ofL l (n + 1 : Nat) = ofL l n + 1 := by
  unfold ofL
  cases hf : fineL l with
  | false => simp
  | true =>
    obtain ⟨_, _, hr, _⟩ := fineL_iff.1 hf
    simp only [if_true]
    have key : ∀ l : List Int, Rising l → cntL l ((n + 1 : Nat) : Int) = cntL l n ∨ (cntL l ((n + 1 : Nat) : Int) = cntL l n + 1) := by
      intro l
      induction l with
      | nil => intro _; exact .inl rfl
      | cons x l ih =>
        intro hr
        have hr' := List.pairwise_cons.1 hr
        unfold cntL at ih ⊢
        rw [List.countP_cons, List.countP_cons]
        have hz : ∀ m : Int, m ≤ x → l.countP (fun y => decide (y ≤ m)) = 0 := fun m hm => by
          rw [List.countP_eq_zero]
          intro y hy
          have := hr'.1 y hy
          simp; omega
        have e1 : ∀ m : Int, x ≤ m → (if decide (x ≤ m) = true then 1 else 0) = 1 := fun m h => if_pos (decide_eq_true h)
        have e0 : ∀ m : Int, ¬ x ≤ m → (if decide (x ≤ m) = true then 1 else 0) = 0 := fun m h => if_neg (by simpa using h)
        by_cases h1 : x ≤ (n : Int)
        · rw [e1 n h1, e1 ((n + 1 : Nat) : Int) (by omega)]
          rcases ih hr'.2 with h | h
          · left; omega
          · right; omega
        · rw [e0 n h1, hz n (by omega)]
          by_cases h2 : x ≤ ((n + 1 : Nat) : Int)
          · rw [e1 _ h2, hz _ (by omega)]
            right; rfl
          · rw [e0 _ h2, hz _ (by omega)]
            left; rfl
    exact key l hr
namespace lawLow
set_option maxHeartbeats 3200000 in
set_option maxRecDepth 100000 in
theorem walk (hv : Value) (h : Ha) (wv bv : Value) (lv : Value) (l : List (Al × Value)) (av : Value) (a : Al) (fv : Value) (w : World) (hh : ArgHa w hv h wv bv) (hl : AlsAt w lv l ∧ l.length ≤ maxLen) (ha : ArgAl w av a fv) :
    Calls Try.prog 3 #[hv, lv, av] w fun e w' => e = .returned (.bool true) ∧ Below w.heap.size w w' := by
  obtain ⟨rfl, hat, hnm, hms, hbn, hmf, hfc32, _⟩ := hh
  obtain ⟨rfl, hfa, hxa⟩ := ha
  obtain ⟨fa, fc, rfl, _, _⟩ := RdAt.shape hfa
  generalize a.fl.length = fn at *
  -- the boxes
  have hshw : ∃ x n c, wv = .slice x n c := by obtain ⟨x, c, e, _⟩ := RdAt.shape hat.ms; exact ⟨x, _, c, e⟩
  have hshb : ∃ x n c, bv = .slice x n c := by obtain ⟨x, c, e, _⟩ := RdAt.shape hat.bl; exact ⟨x, _, c, e⟩
  have hshl : ∃ x n c, lv = .slice x n c := by obtain ⟨x, c, e, _⟩ := RdAt.shape hl.1.row; exact ⟨x, _, c, e⟩
  obtain ⟨la, ln, lc, rfl⟩ := hshl
  obtain ⟨wa, wn, wc, rfl⟩ := hshw
  obtain ⟨ba, bn, bc, rfl⟩ := hshb
  obtain ⟨W0, hW0⟩ : ∃ z, (w.alloc (.cells #[.string h.nm, .int .i64 h.f, .int .u32 h.fc, .int .i64 h.t, .int .u32 h.tc, .slice wa wn wc, .slice ba bn bc] 28)).alloc (.cells #[.string a.src, .slice fa fn fc, .int .i64 a.lv, .int .u32 a.c, .int .i64 a.fr, .int .i64 a.til] 32) = z := ⟨_, rfl⟩
  have hbb := Below.refl ((w.alloc (.cells #[.string h.nm, .int .i64 h.f, .int .u32 h.fc, .int .i64 h.t, .int .u32 h.tc, .slice wa wn wc, .slice ba bn bc] 28)).alloc (.cells #[.string a.src, .slice fa fn fc, .int .i64 a.lv, .int .u32 a.c, .int .i64 a.fr, .int .i64 a.til] 32)).heap.size ((w.alloc (.cells #[.string h.nm, .int .i64 h.f, .int .u32 h.fc, .int .i64 h.t, .int .u32 h.tc, .slice wa wn wc, .slice ba bn bc] 28)).alloc (.cells #[.string a.src, .slice fa fn fc, .int .i64 a.lv, .int .u32 a.c, .int .i64 a.fr, .int .i64 a.til] 32))
  obtain ⟨X0, Y0, hlt0, hB0⟩ := box76h hbb
  rw [hW0] at X0 Y0 hlt0 hB0
  clear hbb
  have kl := lives_any W0
  -- what the calls hand back
  have kb := fun W (hW : Below w.heap.size w W) => hback_any h (.slice wa wn wc) (.slice ba bn bc) W (hat.later hW) hms hbn
  have kf := fun W (hW : Below w.heap.size w W) => few_any l (.slice la ln lc) W (hl.1.later hW) hl.2
  have ke := fun W (hW : Below w.heap.size w W) => few_any [(a, .slice fa fn fc)] _ _ (als_one W a fa fn fc (hfa.later hW) hxa 32) (by show (1 : Nat) ≤ maxLen; unfold maxLen; decide)
  have hfit := cutH_fit (h := h) hnm hmf
  have HA := Lib.hid hxa
  have KF := Lib.hid kf
  have KE := Lib.hid ke
  obtain ⟨nm, f, fcc, t, tc, ms, bl⟩ := h
  change HaFit ⟨nm, f, fcc, t, tc, ms.take 14, bl.take 22⟩ at hfit
  have kb2 : ∀ W, Below w.heap.size w W → Calls Try.prog 9 #[.agg #[.string nm, .int .i64 f, .int .u32 fcc, .int .i64 t, .int .u32 tc, .slice wa wn wc, .slice ba bn bc]] W fun e w' =>
      ∃ wv' bv', e = .returned (.agg #[.string nm, .int .i64 f, .int .u32 fcc, .int .i64 t, .int .u32 tc, wv', bv']) ∧ HaAt W ⟨nm, f, fcc, t, tc, ms.take 14, bl.take 22⟩ wv' bv' ∧ Below W.heap.size W w' := kb
  generalize ms.take 14 = ms' at *
  generalize bl.take 22 = bl' at *
  have KB := Lib.hid kb2
  have HFIT := Lib.hid hfit
  obtain ⟨src, fls, alv, ac, afr, atil⟩ := a
  dsimp only at *
  have HX0 := Lib.hid X0
  have HY0 := Lib.hid Y0
  have HB0 := Lib.hid hB0
  clear hat hnm hms hbn hmf hfa hxa hl kb kb2 kf ke X0 Y0 hB0 hfit
  go_enter Try.func3, Try.ntmps3
  go_upto_region 1 with fail
  try rw [hW0]
  clear hW0
  go_wp2_with fail
  refine kl.mono ?_
  rintro e w1 ⟨rfl, hb1⟩
  have HX1 := Lib.hid (HX0.out.later hb1 (by omega))
  have HY1 := Lib.hid (HY0.out.later hb1 hlt0)
  have HB1 := Lib.hid (HB0.out.trans (hb1.mono HB0.out.size))
  have hlt1 := Nat.lt_of_lt_of_le hlt0 hb1.size
  clear kl hb1 HX0 HY0 HB0 hlt0
  have kb := KB.out w1 HB1.out
  obtain ⟨x0, x1, x2, x3, x4, x5, x6⟩ := HX1.out
  go_wp2_with fail
  refine kb.mono ?_
  rintro e w2 ⟨wv', bv', rfl, hat2, hb2⟩
  obtain ⟨ma, mn, mc, ba', bn', bc', rfl, rfl⟩ := haat_shape hat2
  have HB2 := Lib.hid (HB1.out.trans (hb2.mono HB1.out.size))
  have hat2' := hat2.later hb2
  have HY2 := HY1.out.later hb2 hlt1
  have hlt2 := Nat.lt_of_lt_of_le hlt1 hb2.size
  have hba := alloc_below w2 (.cells #[.string nm, .int .i64 f, .int .u32 fcc, .int .i64 t, .int .u32 tc, .slice ma mn mc, .slice ba' bn' bc'] 34)
  have hz := World.size_alloc w2 (.cells #[.string nm, .int .i64 f, .int .u32 fcc, .int .i64 t, .int .u32 tc, .slice ma mn mc, .slice ba' bn' bc'] 34)
  have hc7 := alc7 w2 (.string nm) (.int .i64 f) (.int .u32 fcc) (.int .i64 t) (.int .u32 tc) (.slice ma mn mc) (.slice ba' bn' bc') 34
  obtain ⟨g, hg⟩ : ∃ g, w2.heap.size = g := ⟨_, rfl⟩
  have L3 : LowAt w g ⟨nm, f, fcc, t, tc, ms', bl'⟩ (.slice ma mn mc) (.slice ba' bn' bc') ⟨src, fls, alv, ac, afr, atil⟩ (.slice fa fn fc) (w2.alloc (.cells #[.string nm, .int .i64 f, .int .u32 fcc, .int .i64 t, .int .u32 tc, .slice ma mn mc, .slice ba' bn' bc'] 34)) :=
    ⟨HB2.out.trans (hba.mono HB2.out.size), by omega, by omega, by rw [hg] at hc7; exact hc7, hat2'.later hba, HY2.later hba hlt2⟩
  have HL3 := Lib.hid L3
  have kf := KF.out _ HL3.out.b
  clear kb hb2 HX1 HY1 HB1 hlt1 KB x0 x1 x2 x3 x4 x5 x6 hat2 hat2' hba HB2 HY2 hlt2 KF hc7 L3 hz
  go_wp2_with fail
  refine kf.mono ?_
  rintro e w4 ⟨ov, dv, l1, rfl, hb4, ho4, hd4, hm4⟩
  have HL4 := Lib.hid (HL3.out.later hb4)
  have HO4 := Lib.hid ho4
  have HM4 := Lib.hid hm4
  obtain ⟨y0, y1, y2, y3, y4, y5⟩ := HL4.out.y
  dsimp only at y0 y1 y2 y3 y4 y5
  have ke := KE.out w4 HL4.out.b
  have hba := alloc_below w4 (.cells #[.string src, .slice fa fn fc, .int .i64 alv, .int .u32 ac, .int .i64 afr, .int .i64 atil] 32)
  have HBA := Lib.hid hba
  obtain ⟨oa, oc, rfl, _⟩ := als_shape ho4
  obtain ⟨da, dc, rfl, _⟩ := als_shape hd4
  clear kf hb4 HL3 ho4 hd4 hm4 KE hba
  go_wp2_with fail
  refine ke.mono ?_
  rintro e w5 ⟨ev, dv2, le, rfl, hb5, he5, hd5, hm5⟩
  obtain ⟨v', rfl⟩ : ∃ v', le = [(cutA ⟨src, fls, alv, ac, afr, atil⟩, v')] := one_of_map hm5
  have hb45 := HBA.out.trans (hb5.mono HBA.out.size)
  have HL5 := Lib.hid (HL4.out.later hb45)
  have HO5 := Lib.hid (HO4.out.later hb45)
  have HE5 := Lib.hid he5
  have HD5 := Lib.hid hd5
  clear ke hb5 hb45 HL4 HO4 HBA he5 hd5 hm5 y0 y1 y2 y3 y4 y5
  have hba := alloc_below w5 (.cells #[.int .i64 7, .int .u32 4294967295] 24)
  have HL6 := Lib.hid (HL5.out.later hba)
  have HO6 := Lib.hid (HO5.out.later hba)
  have HE6 := Lib.hid (HE5.out.later hba)
  have HD6 := Lib.hid (HD5.out.later hba)
  have HT6 := Lib.hid (alc2 w5 (.int .i64 7) (.int .u32 4294967295) 24)
  have hz := World.size_alloc w5 (.cells #[.int .i64 7, .int .u32 4294967295] 24)
  obtain ⟨g6, hg6⟩ : ∃ g6, w5.heap.size = g6 := ⟨_, rfl⟩
  rw [hg6] at HT6
  have hgl : g6 < (w5.alloc (.cells #[.int .i64 7, .int .u32 4294967295] 24)).heap.size := by rw [hz]; omega
  have kt := tell_any ⟨nm, f, fcc, t, tc, ms', bl'⟩ (.slice ma mn mc) (.slice ba' bn' bc') l1 _ 7 4294967295 20 _ HL6.out.ha HFIT.out HO6.out (by
    have := congrArg List.length HM4.out
    rw [List.length_map, List.length_map, List.length_take] at this
    omega)
  obtain ⟨x0, x1, x2, x3, x4, x5, x6⟩ := HL6.out.hc
  obtain ⟨t0, t1⟩ := HT6.out
  dsimp only at x0 x1 x2 x3 x4 x5 x6 kt
  clear hba HL5 HO5 HE5 HD5 hz
  rw [tell_top] at kt
  go_wp2_with fail
  refine kt.mono ?_
  rintro e w7 ⟨rfl, hb7⟩
  have HL7 := Lib.hid (HL6.out.later hb7)
  have HO7 := Lib.hid (HO6.out.later hb7)
  have HE7 := Lib.hid (HE6.out.later hb7)
  have HD7 := Lib.hid (HD6.out.later hb7)
  have HT7 := Lib.hid (And.intro (keep_cell HT6.out.1 hb7 hgl) (keep_cell HT6.out.2 hb7 hgl))
  have hgl7 := Nat.lt_of_lt_of_le hgl hb7.size
  clear kt hb7 HL6 HO6 HE6 HD6 HT6 hgl x0 x1 x2 x3 x4 x5 x6 t0 t1
  -- the one more, in memory
  have CUT : cutA ⟨src, fls, alv, ac, afr, atil⟩ = ⟨src, fls.take 12, alv, ac, afr, atil⟩ := rfl
  rw [CUT] at HE7 HD7
  generalize fls.take 12 = fls' at *
  obtain ⟨va', fn', vc', be, oe, ec, rfl, rfl, hbe, ⟨e0, e1, e2, e3, e4, e5⟩, hfv, hxv⟩ := als_single HE7.out
  clear CUT
  have HFV := Lib.hid hfv
  have HXV := Lib.hid hxv
  have SK : Hid (∀ W', Below w7.heap.size w7 W' → LowS g g6 be oe nm f fcc t tc (.slice ma mn mc) (.slice ba' bn' bc') src (.slice va' fn' vc') alv ac afr atil W') := Lib.hid (fun W' hb => by
    obtain ⟨x0, x1, x2, x3, x4, x5, x6⟩ := HL7.out.hc.later hb HL7.out.gz
    exact ⟨x0, x1, x2, x3, x4, x5, x6, keep_cell HT7.out.1 hb hgl7, keep_cell HT7.out.2 hb hgl7, keep_cell e0 hb hbe, keep_cell e1 hb hbe, keep_cell e2 hb hbe, keep_cell e3 hb hbe, keep_cell e4 hb hbe, keep_cell e5 hb hbe⟩)
  have HC1 : Hid (∀ y ∈ alCells l1, y.oneCell' = true) := Lib.hid (alC_cells l1 (fun p hp => by
    obtain ⟨a, c, e, _⟩ := RdAt.shape (HO7.out.fld p hp).1
    rw [e]; rfl))
  have hn1 : l1.length ≤ 12 := by
    have := congrArg List.length HM4.out
    rw [List.length_map, List.length_map, List.length_take] at this
    omega
  have h1s := all6 (a := .string src) (b := .slice va' fn' vc') (c := .int .i64 alv) (d := .int .u32 ac) (e := .int .i64 afr) (f := .int .i64 atil) rfl rfl rfl rfl rfl rfl
  obtain ⟨i0, hi, hz0, hz1, hz2⟩ := info_parts info_al
  have hro := HO7.out.row
  have AL2 : Hid (∀ W v, Below w7.heap.size w7 W → W.ownsRow w7.heap.size 41 6 v (0 + l1.length + 1) (([] ++ alCells l1) ++ [.string src, .slice va' fn' vc', .int .i64 alv, .int .u32 ac, .int .i64 afr, .int .i64 atil]) → AlsAt W v (l1 ++ [(⟨src, fls', alv, ac, afr, atil⟩, .slice va' fn' vc')])) := Lib.hid (fun W v hb ho => by
    refine ⟨?_, fun p hp => ?_⟩
    · rw [alC_snoc, List.length_append]
      rw [Nat.zero_add, List.nil_append] at ho
      exact RdAt.own ho
    · rcases List.mem_append.1 hp with h | h
      · exact ⟨(HO7.out.fld p h).1.later hb, (HO7.out.fld p h).2⟩
      · rw [List.mem_singleton.1 h]
        exact ⟨HFV.out.later hb, HXV.out⟩)
  have KT : Hid (∀ W v, Below w7.heap.size w7 W → AlsAt W v (l1 ++ [(⟨src, fls', alv, ac, afr, atil⟩, .slice va' fn' vc')]) → Calls Try.prog 11 #[.agg #[.string nm, .int .i64 f, .int .u32 fcc, .int .i64 t, .int .u32 tc, .slice ma mn mc, .slice ba' bn' bc'], v, .agg #[.int .i64 7, .int .u32 4294967295], .int .i64 20] W fun e w' => e = .returned (if rightH ⟨nm, f, fcc, t, tc, ms', bl'⟩ = true then .tuple #[.int .i64 (ofL bl' (countN ⟨nm, f, fcc, t, tc, ms', bl'⟩ (l1 ++ [(⟨src, fls', alv, ac, afr, atil⟩, .slice va' fn' vc')]) 20) : Nat), .bool true] else .tuple #[.int .i64 0, .bool false]) ∧ Below W.heap.size W w') := Lib.hid (fun W v hb ha => by
    have := tell_any ⟨nm, f, fcc, t, tc, ms', bl'⟩ (.slice ma mn mc) (.slice ba' bn' bc') (l1 ++ [(⟨src, fls', alv, ac, afr, atil⟩, .slice va' fn' vc')]) v 7 4294967295 20 W ((HL7.out.ha).later hb) HFIT.out ha (by rw [List.length_append]; simp only [List.length_cons, List.length_nil]; omega)
    rw [tell_top] at this
    exact this)
  have KR : Hid (∀ W, Below w7.heap.size w7 W → Calls Try.prog 12 #[.agg #[.string nm, .int .i64 f, .int .u32 fcc, .int .i64 t, .int .u32 tc, .slice ma mn mc, .slice ba' bn' bc']] W fun e w' => e = .returned (.bool (rightH ⟨nm, f, fcc, t, tc, ms', bl'⟩)) ∧ Below W.heap.size W w') := Lib.hid (fun W hb => hright_any ⟨nm, f, fcc, t, tc, ms', bl'⟩ _ _ W ((HL7.out.ha).later hb) HFIT.out)
  clear hfv hxv e0 e1 e2 e3 e4 e5
  obtain ⟨vd, nd, cd, bd, od, kd, hvd, rfl, hbd, ⟨_, _, d2, d3, _, _⟩, _, _⟩ := als_single HD7.out
  have HD2 := Lib.hid d2
  have HD3 := Lib.hid d3
  have hac32 := HA.out.c
  dsimp only at hac32
  have KFL : Hid (∀ W, Calls Try.prog 13 #[Lab alv ac, Lab f fcc] W fun e w' => e = .returned (.bool (flowsL alv ac f fcc)) ∧ Below W.heap.size W w') := Lib.hid (fun W => rflows_any alv ac f fcc W hac32 hfc32)
  have HQ : Hid (flowsL alv ac f fcc = false → ofL bl' (countN ⟨nm, f, fcc, t, tc, ms', bl'⟩ (l1 ++ [(⟨src, fls', alv, ac, afr, atil⟩, .slice va' fn' vc')]) 20) = ofL bl' (countN ⟨nm, f, fcc, t, tc, ms', bl'⟩ l1 20)) := Lib.hid (fun h => by
    rw [count_one, if_neg (by rw [count_no (h := ⟨nm, f, fcc, t, tc, ms', bl'⟩) (x := ⟨src, fls', alv, ac, afr, atil⟩) h]; decide), Nat.add_zero])
  have HS : Hid (ofL bl' (countN ⟨nm, f, fcc, t, tc, ms', bl'⟩ (l1 ++ [(⟨src, fls', alv, ac, afr, atil⟩, .slice va' fn' vc')]) 20) = ofL bl' (countN ⟨nm, f, fcc, t, tc, ms', bl'⟩ l1 20) ∨ ofL bl' (countN ⟨nm, f, fcc, t, tc, ms', bl'⟩ (l1 ++ [(⟨src, fls', alv, ac, afr, atil⟩, .slice va' fn' vc')]) 20) = ofL bl' (countN ⟨nm, f, fcc, t, tc, ms', bl'⟩ l1 20) + 1) := Lib.hid (by
    rw [count_one]
    split
    · exact ofL_succ bl' _
    · exact .inl rfl)
  have hle : ∀ (l : List Int) (n : Int), ofL l n ≤ 20 := fun l n => by
    unfold ofL
    split
    · rename_i hf
      have := (fineL_iff.1 hf).2.1
      unfold cntL
      exact Nat.le_trans List.countP_le_length this
    · omega
  have hle1 := hle bl' (countN ⟨nm, f, fcc, t, tc, ms', bl'⟩ l1 20)
  have hle2 := hle bl' (countN ⟨nm, f, fcc, t, tc, ms', bl'⟩ (l1 ++ [(⟨src, fls', alv, ac, afr, atil⟩, .slice va' fn' vc')]) 20)
  generalize ofL bl' (countN ⟨nm, f, fcc, t, tc, ms', bl'⟩ (l1 ++ [(⟨src, fls', alv, ac, afr, atil⟩, .slice va' fn' vc')]) 20) = N2 at *
  generalize ofL bl' (countN ⟨nm, f, fcc, t, tc, ms', bl'⟩ l1 20) = N1 at *
  clear d2 d3 hle hac32 hfc32 hvd
  cases hR : rightH ⟨nm, f, fcc, t, tc, ms', bl'⟩ with
  | false =>
    rw [if_neg (by decide)]
    rw [hR, if_neg (by decide)] at KT
    rw [hR] at KR
    clear hR HQ HS
    go_upto_region 8 with fail
    go_region_held_law (fun W' => W'.cell? ⟨g, 0, none⟩ = some (.string nm) ∧ W'.cell? ⟨g, 1, none⟩ = some (.int .i64 f) ∧ W'.cell? ⟨g, 2, none⟩ = some (.int .u32 fcc) ∧ W'.cell? ⟨g, 3, none⟩ = some (.int .i64 t) ∧ W'.cell? ⟨g, 4, none⟩ = some (.int .u32 tc) ∧ W'.cell? ⟨g, 5, none⟩ = some (.slice ma mn mc) ∧ W'.cell? ⟨g, 6, none⟩ = some (.slice ba' bn' bc') ∧ W'.cell? ⟨g6, 0, none⟩ = some (.int .i64 7) ∧ W'.cell? ⟨g6, 1, none⟩ = some (.int .u32 4294967295) ∧ W'.cell? ⟨be, oe, none⟩ = some (.string src) ∧ W'.cell? ⟨be, oe + 1, none⟩ = some (.slice va' fn' vc') ∧ W'.cell? ⟨be, oe + 2, none⟩ = some (.int .i64 alv) ∧ W'.cell? ⟨be, oe + 3, none⟩ = some (.int .u32 ac) ∧ W'.cell? ⟨be, oe + 4, none⟩ = some (.int .i64 afr) ∧ W'.cell? ⟨be, oe + 5, none⟩ = some (.int .i64 atil)) (first | exact SK.out _ ((Below.refl w7.heap.size w7).drew) | exact SK.out _ (((Below.refl w7.heap.size w7).drew).alloc (Nat.le_refl _) _) | exact SK.out _ hb9' | exact SK.out _ hb2 | exact SK.out _ hb1 | exact SK.out _ (hb1.alloc hb1.size _))
      (first
        | (refine step_append_rd (by rfl) (.const (.slice none 0 0)) (.tmp 42) _ (by rfl) w7.heap.size 41 i0 (.agg #[.string ⟨#[]⟩, .slice none 0 0, .int .i64 0, .int .u32 0, .int .i64 0, .int .i64 0]) 6 72 Try.underlying36 hi hz0 hz1 hz2 rfl (by decide) _ 0 [] (by rfl) (by exact World.ownsRow_nil _ _ _ _) _ l1.length (alCells l1) (by rfl) (by first | exact hro.later ((Below.refl w7.heap.size w7).drew) | exact hro.later (((Below.refl w7.heap.size w7).drew).alloc (Nat.le_refl _) _)) HC1.out (by unfold maxLen; omega) (by omega) (by simp) ?_; intro v1 w1' hown1 hgrow1 _; have hb1 : Below w7.heap.size w7 w1' := by first | exact ((Below.refl w7.heap.size w7).drew).grown hgrow1 (by simp) (fun m hm => by cases hm) | exact (((Below.refl w7.heap.size w7).drew).alloc (Nat.le_refl _) _).grown hgrow1 (by simp) (fun m hm => by cases hm))
        | (refine step_append_rd (by rfl) (.tmp 43) (.tmp 47) _ (by rfl) w7.heap.size 41 i0 (.agg #[.string ⟨#[]⟩, .slice none 0 0, .int .i64 0, .int .u32 0, .int .i64 0, .int .i64 0]) 6 72 Try.underlying36 hi hz0 hz1 hz2 rfl (by decide) _ _ _ (by rfl) (by first | exact hown1 | exact own_later hown1 ((Below.refl _ _).alloc (Nat.le_refl _) _)) _ 1 [.string src, .slice va' fn' vc', .int .i64 alv, .int .u32 ac, .int .i64 afr, .int .i64 atil] (by rfl) (by first | exact row6 w1' _ _ _ _ _ _ _ | exact RdAt.later (w := w7.drew.alloc (.cells #[.string src, .slice va' fn' vc', .int .i64 alv, .int .u32 ac, .int .i64 afr, .int .i64 atil] 41)) (row6 w7.drew _ _ _ _ _ _ _) (below_of_grown hgrow1 (fun k hk => by cases hk))) h1s (by unfold maxLen; omega) (by omega) (by first | exact hb1.size | exact Nat.le_trans hb1.size (by simp)) ?_; intro v2 w2' hown2 hgrow2 _; have hb2 : Below w7.heap.size w7 w2' := by first | exact hb1.grown hgrow2 hb1.size (fun m hm => (hown1.lt m hm).1) | exact (hb1.alloc hb1.size _).grown hgrow2 (Nat.le_trans hb1.size (by simp)) (fun m hm => (hown1.lt m hm).1))
        | (go_at_call 11; refine (KT.out _ _ hb2 (AL2.out _ _ hb2 hown2)).mono ?_; rintro e w9 ⟨rfl, hb9⟩; have hb9' : Below w7.heap.size w7 w9 := hb2.trans (hb9.mono hb2.size)))
    all_goals (
      have HB9 := Lib.hid hb9'
      have HS9 := SK.out w9 hb9'
      clear hown1 hown2 hgrow1 hgrow2 hb1 hb2 hb9 hb9' SK KT AL2 HC1 hro
      obtain ⟨x0, x1, x2, x3, x4, x5, x6, _, _, _, _, _, _, _, _⟩ := HS9
      have kr := KR.out w9 HB9.out
      go_wp2_with fail
      refine kr.mono ?_
      rintro e w10 ⟨rfl, hb10⟩
      have HB10 := Lib.hid (HB9.out.trans (hb10.mono HB9.out.size))
      clear kr KR x0 x1 x2 x3 x4 x5 x6 hb10 HB9
      have SD : Hid (∀ W', Below w7.heap.size w7 W' → W'.cell? ⟨g, 0, none⟩ = some (.string nm) ∧ W'.cell? ⟨g, 1, none⟩ = some (.int .i64 f) ∧ W'.cell? ⟨g, 2, none⟩ = some (.int .u32 fcc) ∧ W'.cell? ⟨bd, od + 2, none⟩ = some (.int .i64 alv) ∧ W'.cell? ⟨bd, od + 3, none⟩ = some (.int .u32 ac)) := Lib.hid (fun W' hb => by
        obtain ⟨x0, x1, x2, _⟩ := HL7.out.hc.later hb HL7.out.gz
        exact ⟨x0, x1, x2, keep_cell HD2.out hb hbd, keep_cell HD3.out hb hbd⟩)
      go_upto_region 11 with fail
      go_region_held_law (fun W' => W'.cell? ⟨g, 0, none⟩ = some (.string nm) ∧ W'.cell? ⟨g, 1, none⟩ = some (.int .i64 f) ∧ W'.cell? ⟨g, 2, none⟩ = some (.int .u32 fcc) ∧ W'.cell? ⟨bd, od + 2, none⟩ = some (.int .i64 alv) ∧ W'.cell? ⟨bd, od + 3, none⟩ = some (.int .u32 ac)) (first | exact SD.out _ HB10.out | exact SD.out _ (HB10.out.drew) | exact SD.out _ hb11')
        ((go_at_call 13; refine (KFL.out _).mono ?_; rintro e w11 ⟨rfl, hb11⟩; have hb11' : Below w7.heap.size w7 w11 := (HB10.out.drew).trans (hb11.mono (HB10.out.drew).size)))
      have HB11 := Lib.hid (HL7.out.b.trans (hb11'.mono HL7.out.b.size))
      clear hb11 hb11' HB10 SD KFL
      cases flowsL alv ac f fcc with
      | false =>
        go_wp2
        go_ret
        exact ⟨rfl, HB11.out⟩
      | true =>
        go_wp2
        go_ret
        exact ⟨rfl, HB11.out⟩
    )
  | true =>
    rw [if_pos rfl]
    rw [hR, if_pos rfl] at KT
    rw [hR] at KR
    clear hR
    go_upto_region 8 with fail
    go_region_held_law (fun W' => W'.cell? ⟨g, 0, none⟩ = some (.string nm) ∧ W'.cell? ⟨g, 1, none⟩ = some (.int .i64 f) ∧ W'.cell? ⟨g, 2, none⟩ = some (.int .u32 fcc) ∧ W'.cell? ⟨g, 3, none⟩ = some (.int .i64 t) ∧ W'.cell? ⟨g, 4, none⟩ = some (.int .u32 tc) ∧ W'.cell? ⟨g, 5, none⟩ = some (.slice ma mn mc) ∧ W'.cell? ⟨g, 6, none⟩ = some (.slice ba' bn' bc') ∧ W'.cell? ⟨g6, 0, none⟩ = some (.int .i64 7) ∧ W'.cell? ⟨g6, 1, none⟩ = some (.int .u32 4294967295) ∧ W'.cell? ⟨be, oe, none⟩ = some (.string src) ∧ W'.cell? ⟨be, oe + 1, none⟩ = some (.slice va' fn' vc') ∧ W'.cell? ⟨be, oe + 2, none⟩ = some (.int .i64 alv) ∧ W'.cell? ⟨be, oe + 3, none⟩ = some (.int .u32 ac) ∧ W'.cell? ⟨be, oe + 4, none⟩ = some (.int .i64 afr) ∧ W'.cell? ⟨be, oe + 5, none⟩ = some (.int .i64 atil)) (first | exact SK.out _ ((Below.refl w7.heap.size w7).drew) | exact SK.out _ (((Below.refl w7.heap.size w7).drew).alloc (Nat.le_refl _) _) | exact SK.out _ hb9' | exact SK.out _ hb2 | exact SK.out _ hb1 | exact SK.out _ (hb1.alloc hb1.size _))
      (first
        | (refine step_append_rd (by rfl) (.const (.slice none 0 0)) (.tmp 42) _ (by rfl) w7.heap.size 41 i0 (.agg #[.string ⟨#[]⟩, .slice none 0 0, .int .i64 0, .int .u32 0, .int .i64 0, .int .i64 0]) 6 72 Try.underlying36 hi hz0 hz1 hz2 rfl (by decide) _ 0 [] (by rfl) (by exact World.ownsRow_nil _ _ _ _) _ l1.length (alCells l1) (by rfl) (by first | exact hro.later ((Below.refl w7.heap.size w7).drew) | exact hro.later (((Below.refl w7.heap.size w7).drew).alloc (Nat.le_refl _) _)) HC1.out (by unfold maxLen; omega) (by omega) (by simp) ?_; intro v1 w1' hown1 hgrow1 _; have hb1 : Below w7.heap.size w7 w1' := by first | exact ((Below.refl w7.heap.size w7).drew).grown hgrow1 (by simp) (fun m hm => by cases hm) | exact (((Below.refl w7.heap.size w7).drew).alloc (Nat.le_refl _) _).grown hgrow1 (by simp) (fun m hm => by cases hm))
        | (refine step_append_rd (by rfl) (.tmp 43) (.tmp 47) _ (by rfl) w7.heap.size 41 i0 (.agg #[.string ⟨#[]⟩, .slice none 0 0, .int .i64 0, .int .u32 0, .int .i64 0, .int .i64 0]) 6 72 Try.underlying36 hi hz0 hz1 hz2 rfl (by decide) _ _ _ (by rfl) (by first | exact hown1 | exact own_later hown1 ((Below.refl _ _).alloc (Nat.le_refl _) _)) _ 1 [.string src, .slice va' fn' vc', .int .i64 alv, .int .u32 ac, .int .i64 afr, .int .i64 atil] (by rfl) (by first | exact row6 w1' _ _ _ _ _ _ _ | exact RdAt.later (w := w7.drew.alloc (.cells #[.string src, .slice va' fn' vc', .int .i64 alv, .int .u32 ac, .int .i64 afr, .int .i64 atil] 41)) (row6 w7.drew _ _ _ _ _ _ _) (below_of_grown hgrow1 (fun k hk => by cases hk))) h1s (by unfold maxLen; omega) (by omega) (by first | exact hb1.size | exact Nat.le_trans hb1.size (by simp)) ?_; intro v2 w2' hown2 hgrow2 _; have hb2 : Below w7.heap.size w7 w2' := by first | exact hb1.grown hgrow2 hb1.size (fun m hm => (hown1.lt m hm).1) | exact (hb1.alloc hb1.size _).grown hgrow2 (Nat.le_trans hb1.size (by simp)) (fun m hm => (hown1.lt m hm).1))
        | (go_at_call 11; refine (KT.out _ _ hb2 (AL2.out _ _ hb2 hown2)).mono ?_; rintro e w9 ⟨rfl, hb9⟩; have hb9' : Below w7.heap.size w7 w9 := hb2.trans (hb9.mono hb2.size)))
    all_goals (
      have HB9 := Lib.hid hb9'
      have HS9 := SK.out w9 hb9'
      clear hown1 hown2 hgrow1 hgrow2 hb1 hb2 hb9 hb9' SK KT AL2 HC1 hro
      obtain ⟨x0, x1, x2, x3, x4, x5, x6, _, _, _, _, _, _, _, _⟩ := HS9
      have kr := KR.out w9 HB9.out
      go_wp2_with fail
      refine kr.mono ?_
      rintro e w10 ⟨rfl, hb10⟩
      have HB10 := Lib.hid (HB9.out.trans (hb10.mono HB9.out.size))
      clear kr KR x0 x1 x2 x3 x4 x5 x6 hb10 HB9
      have SD : Hid (∀ W', Below w7.heap.size w7 W' → W'.cell? ⟨g, 0, none⟩ = some (.string nm) ∧ W'.cell? ⟨g, 1, none⟩ = some (.int .i64 f) ∧ W'.cell? ⟨g, 2, none⟩ = some (.int .u32 fcc) ∧ W'.cell? ⟨bd, od + 2, none⟩ = some (.int .i64 alv) ∧ W'.cell? ⟨bd, od + 3, none⟩ = some (.int .u32 ac)) := Lib.hid (fun W' hb => by
        obtain ⟨x0, x1, x2, _⟩ := HL7.out.hc.later hb HL7.out.gz
        exact ⟨x0, x1, x2, keep_cell HD2.out hb hbd, keep_cell HD3.out hb hbd⟩)
      go_upto_region 11 with fail
      go_region_held_law (fun W' => W'.cell? ⟨g, 0, none⟩ = some (.string nm) ∧ W'.cell? ⟨g, 1, none⟩ = some (.int .i64 f) ∧ W'.cell? ⟨g, 2, none⟩ = some (.int .u32 fcc) ∧ W'.cell? ⟨bd, od + 2, none⟩ = some (.int .i64 alv) ∧ W'.cell? ⟨bd, od + 3, none⟩ = some (.int .u32 ac)) (first | exact SD.out _ HB10.out | exact SD.out _ (HB10.out.drew) | exact SD.out _ hb11')
        ((go_at_call 13; refine (KFL.out _).mono ?_; rintro e w11 ⟨rfl, hb11⟩; have hb11' : Below w7.heap.size w7 w11 := (HB10.out.drew).trans (hb11.mono (HB10.out.drew).size)))
      have HB11 := Lib.hid (HL7.out.b.trans (hb11'.mono HL7.out.b.size))
      clear hb11 hb11' HB10 SD KFL
      cases hfl : flowsL alv ac f fcc with
      | false =>
        obtain rfl : N2 = N1 := HQ.out hfl
        clear hfl
        go_wp2
        go_ret
        exact ⟨rfl, HB11.out⟩
      | true =>
        clear hfl
        rcases HS.out with rfl | rfl
        · go_wp2
          go_ret
          exact ⟨rfl, HB11.out⟩
        · go_wp2
          go_ret
          exact ⟨rfl, HB11.out⟩
    )
end lawLow
end Go.Proofs.Ytcfococinllcmaa
