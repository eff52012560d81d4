/- silences: Clone at matchers, Lay. -/
import Derived.Test.YtcfococinllcmaaGreatSlNum
import Derived.Test.YtcfococinllcmaaGreatSlRight
namespace Go.Proofs.YtcfococinllcmaaGreat
open Go.RowKit Go.Maps

theorem mt_cells1 (l : List Mt) : ∀ y ∈ mtCells l, y.oneCell' = true := by
  induction l with
  | nil => intro y hy; cases hy
  | cons f l ih =>
    intro y hy
    simp only [mtCells, List.mem_cons] at hy
    rcases hy with rfl | rfl | rfl | h
    · rfl
    · rfl
    · rfl
    · exact ih y h
theorem info_mt : (Tryz.prog.info? 108).map (fun i => (i.zero, i.size, i.bytes)) = some (some (.agg #[.string ⟨#[]⟩, .int .i64 0, .string ⟨#[]⟩]), 3, 40) := by kernel_rfl
theorem own_empty3 (w : World) (t : TypeId) : (w.alloc (.cells #[] t)).ownsRow w.heap.size t 3 (.slice (some ⟨w.heap.size, 0, none⟩) 0 0) 0 [] :=
  ⟨rfl, .inr ⟨w.heap.size, 0, #[], rfl, Nat.le_refl _, heap_alloc_new _ _, Nat.le_refl _, by decide, rfl, rfl⟩⟩
set_option maxHeartbeats 800000 in
set_option maxRecDepth 100000 in
theorem cloneM_any (l : List Mt) (w : World) (v : Value) (h : MtsAt w v l) (hl : l.length ≤ 1000000000000) :
    Calls Tryz.prog 60 #[v] w fun e w' => ∃ v', e = .returned v' ∧ w'.ownsRow w.heap.size 108 3 v' l.length (mtCells l) ∧ Below w.heap.size w w' := by
  obtain ⟨i0, hi, hz0, hz1, hz2⟩ := info_parts info_mt
  have q22 : ∀ (w : World) (a : Option Addr) (n c n' c' : Nat), (binOp .eql 33 (.slice a n c) (.slice none n' c')).run Tryz.prog w = .ok (.bool a.isNone) w := fun w a n c n' c' => Lib.run_eql_slice_nil w _ _ a n c n' c' Tryz.underlying33
  rcases h.2 with ⟨rfl, h0⟩ | ⟨a, c, rfl, hc, hr⟩
  · have hnil : l = [] := List.length_eq_zero_iff.1 h0
    subst hnil
    go_enter Tryz.func60, Tryz.ntmps60
    go_wp2
    go_ret
    exact ⟨_, rfl, World.ownsRow_nil _ _ _ _, Below.refl _ _⟩
  · have h1 := RdAt.later h (alloc_below w (.cells #[] 108))
    have h2 := own_empty3 w 108
    have hb := alloc_below w (.cells #[] 108)
    go_enter Tryz.func60, Tryz.ntmps60
    go_wp2_with (at_builtin; (refine wpList_append_rd rfl (.tmp 5) (.tmp 6) 33 rfl w.heap.size 108 i0 (.agg #[.string ⟨#[]⟩, .int .i64 0, .string ⟨#[]⟩]) 3 40 Tryz.underlying33 hi hz0 hz1 hz2 rfl (by decide) _ 0 [] rfl h2 _ l.length (mtCells l) rfl h1 (mt_cells1 l) (by unfold maxLen; omega) (by omega) (by simp) ?_); intro v2 w2 hown2 hgrow2)
    go_ret
    refine ⟨_, rfl, ?_, hb.grown hgrow2 hb.size (fun k hk => (h2.lt k hk).1)⟩
    have e : 0 + l.length = l.length := Nat.zero_add _
    rw [e] at hown2
    exact hown2
/-- of one label -/
def sameL (t s : Sil) : Bool := decide (t.lv = s.lv) && decide (t.c = s.c)
def cntS (S : List Sil) (s : Sil) (left : Lit → Bool) : Nat := S.countP fun t => sameL t s && !left (kI t.id)
theorem cnt_start (S : List Sil) (s : Sil) : cntS S s (has (DS S)) = 0 := by
  unfold cntS
  rw [List.countP_eq_zero]
  intro t ht
  have : has (DS S) (kI t.id) = true := by
    rw [DS_has]
    exact List.any_eq_true.2 ⟨t, ht, by simp⟩
  simp [this]
theorem cnt_end (S : List Sil) (s : Sil) {left : Lit → Bool} (h : ∀ k, left k = false) : cntS S s left = S.countP fun t => sameL t s := by
  unfold cntS
  congr 1
  funext t
  rw [h]; simp
theorem cnt_far {S : List Sil} {s : Sil} {left : Lit → Bool} {x : Int} (h : ∀ t ∈ S, t.id ≠ x) : cntS S s (fun z => left z && !z.sameKey (kI x)) = cntS S s left := by
  unfold cntS
  apply List.countP_congr
  intro t ht
  have : (kI t.id).sameKey (kI x) = false := by simpa [Lit.sameKey] using h t ht
  simp [this]
theorem cnt_step {S : List Sil} {s t : Sil} {left : Lit → Bool} (h : UpS S) (ht : t ∈ S) (hl : left (kI t.id) = true) :
    cntS S s (fun z => left z && !z.sameKey (kI t.id)) = cntS S s left + (if sameL t s = true then 1 else 0) := by
  induction S with
  | nil => cases ht
  | cons u S ih =>
    obtain ⟨h1, h2⟩ := List.pairwise_cons.1 h
    rcases List.mem_cons.1 ht with rfl | ht'
    · have e := cnt_far (S := S) (s := s) (left := left) (x := t.id) (fun u hu e => by have := h1 u hu; omega)
      unfold cntS at e ⊢
      rw [List.countP_cons, List.countP_cons, e]
      simp [hl, Lit.sameKey]
    · have e := ih h2 ht'
      have hne : u.id ≠ t.id := fun e => by have := h1 t ht'; omega
      unfold cntS at e ⊢
      rw [List.countP_cons, List.countP_cons, e]
      have : (kI u.id).sameKey (kI t.id) = false := by simpa [Lit.sameKey] using hne
      simp only [this, Bool.not_false, Bool.and_true]
      omega
/-- how many there are of one label -/
def quoS (S : List Sil) (s : Sil) : Nat := S.countP fun t => sameL t s
/-- is it laid? -/
def laysS (S : List Sil) (s : Sil) : Bool := rightS s && decide (quoS S s ≠ 10)
def layE (S : List Sil) (s : Sil) (last : Int) : Value := .tuple #[.int .i64 (if laysS S s = true then last + 1 else 0), .int .i64 (if rightS s = true then (if quoS S s = 10 then 7 else 0) else 1)]
/-- what is kept behind Lay -/
inductive LayS (S : List Sil) (last : Int) (s : Sil) : List Sil → Int → Prop
  | no (h : laysS S s = false) : LayS S last s S last
  | yes (h : laysS S s = true) (mv : Option Addr × Nat × Nat) : LayS S last s (S ++ [{ s with id := last + 1, mv := mv }]) (last + 1)
theorem grown_setS (w : World) (p i : Nat) (v : Value) : w.grownBy (w.setCell ⟨p, i, none⟩ v) (some p) := ⟨rfl, rfl, rfl, by simp, fun k _ hne => Below.heap_setCell w ⟨p, i, none⟩ v k (fun e => hne (by rw [e]))⟩
theorem set_far {w : World} {p i b j : Nat} {v : Value} (h : ¬(p = b ∧ i = j)) : (w.setCell ⟨p, i, none⟩ v).cell? ⟨b, j, none⟩ = w.cell? ⟨b, j, none⟩ := by
  apply World.cell?_setCell_other
  intro e
  simp only [Addr.mk.injEq, and_true] at e
  exact h e
theorem there_set {w : World} {g n : Nat} (h : w.there g 0 n) (p i : Nat) (v : Value) : (w.setCell ⟨p, i, none⟩ v).there g 0 n := fun j hj => by
  obtain ⟨h1, h2⟩ := h j hj
  refine ⟨?_, ?_⟩
  · by_cases e : (⟨p, i, none⟩ : Addr) = ⟨g, 0 + j, none⟩
    · rw [e, World.cell?_setCell_same' _ _ _ h1]; rfl
    · rw [set_far (fun h => e (by rw [h.1, h.2]))]; exact h1
  · rw [World.frozen?_setCell]; exact h2
theorem rd_same {w w' : World} {v : Value} {n k : Nat} {xs : List Value} (hv : RdAt w v n k xs) (hs : w.heap.size ≤ w'.heap.size) (hb : ∀ q, v.ownBlock = some q → q < w.heap.size → w'.heap[q]? = w.heap[q]?) : RdAt w' v n k xs := by
  refine ⟨hv.1, ?_⟩
  rcases hv.2 with h1 | ⟨a, c, rfl, hc, hr⟩
  · exact .inl h1
  · refine .inr ⟨a, c, rfl, hc, fun hn => ?_⟩
    obtain ⟨b, o, rfl, hlt, hcell⟩ := hr hn
    exact ⟨b, o, rfl, Nat.lt_of_lt_of_le hlt hs, fun j x hx => (World.cell?_of_block (a := ⟨b, o + j, none⟩) (hb b rfl hlt)).trans (hcell j x hx)⟩
/-- one more is laid into the map -/
theorem lay_step {w w4 : World} {lp m n bx base : Nat} {S : List Sil} {last : Int} {s : Sil} (h : SlAt w lp m n S last) (hb : Below w.heap.size w w4) (h1 : w.heap.size ≤ bx) (h2 : bx < base) (h3 : bx < w4.heap.size) (hn : n < 1000000) (hla : last < 1000000) (hl0 : 0 ≤ last)
    (ho : w4.ownsRow base 108 3 (SV s.mv) s.ms.length (mtCells s.ms)) (hf : MtsFit s.ms) (hl : s.ms.length ≤ 12) (hid : s.id = last + 1) (hx : (w4.cell? ⟨bx, 0, none⟩).isSome = true) {b c d e : Value} (h4 : w4.cell? ⟨bx, 1, none⟩ = some b ∧ w4.cell? ⟨bx, 2, none⟩ = some c ∧ w4.cell? ⟨bx, 3, none⟩ = some d ∧ w4.cell? ⟨bx, 4, none⟩ = some e) :
    ∃ W5, (w4.setCell ⟨bx, 0, none⟩ (SV s.mv)).setCell ⟨lp, 1, none⟩ (.int .i64 (last + 1)) = W5 ∧ W5.cell? ⟨lp, 0, none⟩ = some (.map (some m)) ∧ W5.cell? ⟨lp, 1, none⟩ = some (.int .i64 (last + 1)) ∧ C5 bx (SV s.mv) b c d e W5 ∧
      ∃ W6, (Instr.mapUpdate 115 (.map (some m)) (.int .i64 (last + 1)) s.v).run Tryz.prog W5.drew = .ok () W6 ∧ SlAt W6 lp m (n + 1) (S ++ [s]) (last + 1) ∧ Kp lp m w W6 := by
  have hlp := cell_lt h.h0
  have hml := h.own.lt
  have hne := h.ne
  have h' := h.later hb
  have g1 := grown_setS w4 bx 0 (SV s.mv)
  have g2 := grown_setS (w4.setCell ⟨bx, 0, none⟩ (SV s.mv)) lp 1 (.int .i64 (last + 1))
  refine ⟨_, rfl, ?_, ?_, ?_, ?_⟩
  · rw [set_far (by omega), set_far (by omega)]
    exact h'.h0
  · rw [World.cell?_setCell_same' _ _ _ (by rw [set_far (by omega), h'.h1]; rfl)]
  · have e0 : ∀ i, ((w4.setCell ⟨bx, 0, none⟩ (SV s.mv)).setCell ⟨lp, 1, none⟩ (.int .i64 (last + 1))).cell? ⟨bx, i, none⟩ = (w4.setCell ⟨bx, 0, none⟩ (SV s.mv)).cell? ⟨bx, i, none⟩ := fun i => set_far (by omega)
    have e1 : ∀ i, 0 < i → (w4.setCell ⟨bx, 0, none⟩ (SV s.mv)).cell? ⟨bx, i, none⟩ = w4.cell? ⟨bx, i, none⟩ := fun i hi => set_far (by omega)
    exact ⟨by rw [e0, World.cell?_setCell_same' _ _ _ hx], by rw [e0, e1 1 (by omega)]; exact h4.1, by rw [e0, e1 2 (by omega)]; exact h4.2.1, by rw [e0, e1 3 (by omega)]; exact h4.2.2.1, by rw [e0, e1 4 (by omega)]; exact h4.2.2.2⟩
  · obtain ⟨W5, hW5⟩ : ∃ z, (w4.setCell ⟨bx, 0, none⟩ (SV s.mv)).setCell ⟨lp, 1, none⟩ (.int .i64 (last + 1)) = z := ⟨_, rfl⟩
    have ho5 := (h'.own.kept g1 (fun e => by have := Option.some.inj e; omega)).kept g2 (fun e => hne (Option.some.inj e).symm)
    have c0 : W5.cell? ⟨lp, 0, none⟩ = some (.map (some m)) := by
      rw [← hW5, set_far (by omega), set_far (by omega)]
      exact h'.h0
    have c1 : W5.cell? ⟨lp, 1, none⟩ = some (.int .i64 (last + 1)) := by
      rw [← hW5, World.cell?_setCell_same' _ _ _ (by rw [set_far (by omega), h'.h1]; rfl)]
    have t5 : W5.there lp 0 2 := by rw [← hW5]; exact there_set (there_set h'.th _ _ _) _ _ _
    have k5 : Kp lp m w W5 := by
      rw [← hW5]
      exact ⟨g2.os.trans (g1.os.trans hb.os), g2.tape.trans (g1.tape.trans hb.tape), g2.output.trans (g1.output.trans hb.output), Nat.le_trans hb.size (Nat.le_trans g1.size g2.size), fun i hi e1 e2 => by
        rw [g2.block i (by have := hb.size; have := g1.size; omega) (fun e => e1 (Option.some.inj e)), g1.block i (by have := hb.size; omega) (fun e => by have := Option.some.inj e; omega)]
        exact hb.block i hi⟩
    have hr5 : MtsAt W5 (SV s.mv) s.ms := by
      rw [← hW5]
      refine rd_same (RdAt.own ho) (Nat.le_trans g1.size g2.size) (fun q hq hlt => ?_)
      have := (ho.lt q hq).1
      have hlp4 := cell_lt h'.h0
      have hs := hb.size
      rw [g2.block q (by have := g1.size; omega) (fun e => by have := Option.some.inj e; omega), g1.block q (by omega) (fun e => by have := Option.some.inj e; omega)]
    rw [hW5] at ho5 ⊢
    obtain ⟨W6, hr, ho6, hg6⟩ := ho5.drew.update keyedI Tryz.underlying115 (by unfold maxLen; omega) (keyOf_int_mk Tryz.underlying3 (a := last + 1) (by simp [Lit.wf, IntKind.min, IntKind.max, IntKind.signed, IntKind.bits]; omega)) (RV_sil s)
    have k6 : Kp lp m W5 W6 := (⟨rfl, rfl, rfl, Nat.le_refl _, fun _ _ _ _ => rfl⟩ : Kp lp m W5 W5.drew).trans (Kp.of_map hg6)
    have hlp5 := cell_lt c0
    have hg5 : W5.grownBy W6 (some m) := ⟨hg6.os, hg6.tape, hg6.output, hg6.size, fun i hi h => hg6.block i hi h⟩
    have hup : UpS (S ++ [s]) := List.pairwise_append.2 ⟨h.up, by simp, fun t ht u hu => by
      rw [List.mem_singleton.1 hu, hid]
      have := h.ids t ht
      omega⟩
    have hcan := ho6.canon keyedI
    rw [show (Lit.int .i64 (last + 1)) = kI s.id by rw [hid]] at ho6 hcan
    rw [DS_snoc hup hcan] at ho6
    refine ⟨W6, hr, ⟨cell_keepS c0 hg5 (fun e => hne (Option.some.inj e).symm), cell_keepS c1 hg5 (fun e => hne (Option.some.inj e).symm), ho6, hup, fun t ht => ?_, fun t ht => ?_, there_same t5 (hg5.block lp hlp5 (fun e => hne (Option.some.inj e))), by omega, by omega⟩, k5.trans k6⟩
    · rcases List.mem_append.1 ht with h1 | h1
      · have := h.ids t h1; omega
      · rw [List.mem_singleton.1 h1, hid]; omega
    · rcases List.mem_append.1 ht with h1 | h1
      · obtain ⟨a1, a2, a3, a4⟩ := h.ms t h1
        exact ⟨k6.rd (k5.rd a1 a4) a4, a2, a3, a4⟩
      · rw [List.mem_singleton.1 h1]
        have hq : ∀ q, (SV s.mv).ownBlock = some q → q ≠ lp ∧ q ≠ m := fun q hq => by
          have := (ho.lt q hq).1
          omega
        exact ⟨k6.rd hr5 hq, hf, hl, hq⟩
theorem rightS_len {s : Sil} (h : rightS s = true) : s.ms.length ≤ 12 := by
  unfold rightS at h
  simp only [Bool.and_eq_true, decide_eq_true_eq] at h
  exact h.1.1.1.1.1.2
theorem layE_odd {S : List Sil} {s : Sil} {last : Int} (h : rightS s = false) : layE S s last = .tuple #[.int .i64 0, .int .i64 1] ∧ laysS S s = false := by
  unfold layE laysS
  rw [h]; exact ⟨rfl, rfl⟩
theorem layE_full {S : List Sil} {s : Sil} {last : Int} (h : rightS s = true) (hq : quoS S s = 10) : layE S s last = .tuple #[.int .i64 0, .int .i64 7] ∧ laysS S s = false := by
  unfold layE laysS
  rw [h, hq]; exact ⟨rfl, rfl⟩
theorem layE_ok {S : List Sil} {s : Sil} {last : Int} (h : rightS s = true) (hq : quoS S s ≠ 10) : layE S s last = .tuple #[.int .i64 (last + 1), .int .i64 0] ∧ laysS S s = true := by
  unfold layE laysS
  rw [h, decide_eq_true hq, if_neg hq]; exact ⟨rfl, rfl⟩
set_option maxHeartbeats 6400000 in
set_option maxRecDepth 100000 in
theorem lay_any (lp m n : Nat) (S : List Sil) (last : Int) (s : Sil) (w : World) (h : SlAt w lp m n S last) (hm : MtsAt w (SV s.mv) s.ms) (hf : MtsFit s.ms) (hl : s.ms.length ≤ 1000000000000) (hn : n < 1000000) (hla : last < 1000000) (hl0 : 0 ≤ last) :
    Calls Tryz.prog 25 #[.pointer (some ⟨lp, 0, none⟩), s.v] w fun e w' =>
      e = .returned (layE S s last) ∧ ∃ S' last' n', SlAt w' lp m n' S' last' ∧ LayS S last s S' last' ∧ n' ≤ n + 1 ∧ Kp lp m w w' ∧ ∀ s' ∈ S', s' ∈ S ∨ ∀ q, (SV s'.mv).ownBlock = some q → w.heap.size ≤ q := by
  have hb0 := alloc_below w (.cells #[.slice s.mv.1 s.mv.2.1 s.mv.2.2, .int .i64 s.fr, .int .i64 s.til, .int .i64 s.lv, .int .u32 s.c] 67)
  have x := alc5 w (.slice s.mv.1 s.mv.2.1 s.mv.2.2) (.int .i64 s.fr) (.int .i64 s.til) (.int .i64 s.lv) (.int .u32 s.c) 67
  have hz := World.size_alloc w (.cells #[.slice s.mv.1 s.mv.2.1 s.mv.2.2, .int .i64 s.fr, .int .i64 s.til, .int .i64 s.lv, .int .u32 s.c] 67)
  have ht := box_there (Below.refl _ (w.alloc (.cells #[.slice s.mv.1 s.mv.2.1 s.mv.2.2, .int .i64 s.fr, .int .i64 s.til, .int .i64 s.lv, .int .u32 s.c] 67)))
  have kr := sright_any s _ (hm.later hb0) hf hl
  have H := Lib.hid h
  have HM := Lib.hid hm
  have HF := Lib.hid hf
  have X0 := Lib.hid x
  have HB0 := Lib.hid hb0
  have HT0 := Lib.hid ht
  unfold Sil.v at kr ⊢
  obtain ⟨R, hR⟩ : ∃ R, rightS s = R := ⟨_, rfl⟩
  rw [hR] at kr
  have HR := Lib.hid hR
  clear hR
  clear h hm hf hb0 x ht
  obtain ⟨W1, hW1⟩ : ∃ z, w.alloc (.cells #[.slice s.mv.1 s.mv.2.1 s.mv.2.2, .int .i64 s.fr, .int .i64 s.til, .int .i64 s.lv, .int .u32 s.c] 67) = z := ⟨_, rfl⟩
  rw [hW1] at hz kr X0 HB0 HT0
  change Hid (W1.there w.heap.size 0 5) at HT0
  obtain ⟨x0, x1, x2, x3, x4⟩ := X0.out
  go_enter Tryz.func25, Tryz.ntmps25
  go_upto_region 1 with fail
  clear hW1
  go_wp2_with fail
  refine kr.mono ?_
  rintro e w2 ⟨rfl, hb2⟩
  have H2 := Lib.hid ((H.out.later (by have := HB0.out; exact this)).later hb2)
  have X2 := Lib.hid (X0.out.later hb2)
  have HT2 := Lib.hid (there_later HT0.out hb2 (by omega))
  have HB2 := Lib.hid (HB0.out.trans (hb2.mono HB0.out.size))
  have hlt2 : w.heap.size < w2.heap.size := by have := hb2.size; omega
  clear kr hb2 X0 HB0 HT0 x0 x1 x2 x3 x4
  obtain ⟨x0, x1, x2, x3, x4⟩ := X2.out
  have l0 := H2.out.h0
  cases R with
  | false =>
    go_wp2
    go_ret2
    exact ⟨by rw [(layE_odd HR.out).1]; rfl, S, last, n, H2.out, .no (layE_odd HR.out (last := last)).2, by omega, Kp.of_below HB2.out, fun s' h => .inl h⟩
  | true =>
  have K := keyedI
  go_wp2_with (first
    | (at_range; refine wpList_range_own _ rfl _ 115 rfl 3 67 K Tryz.underlying115 RV m n _ rfl H2.out.own ?_; intro w0 hrg0 hg0 hs0)
    | go_in)
  go_frame
  go_loopw [6] (fun v6 wr => ∃ (left : Lit → Bool) (cnt : Nat), v6 = .int .i64 ((cntS S s left : Nat) : Int) ∧ Hid (wr.ranges Tryz.prog 3 RV m w2.heap.size n (DS S) left cnt) ∧ Hid (Below w2.heap.size w2 wr))
    (fun _ wr => wr.rangeLeft m w2.heap.size)
  case atStart => exact ⟨_, _, by rw [cnt_start]; rfl, Lib.hid hrg0, Lib.hid ⟨hg0.os, hg0.tape, hg0.output, hg0.size, fun k hk => hg0.block k hk (by simp)⟩⟩
  case round =>
    clear hrg0 hg0
    obtain ⟨left, cnt, rfl, HG, HW⟩ := hrel
    go_wp2_with (first
      | (at_next; refine wpList_next_ranges _ rfl _ rfl 3 K RV (fun x : Int => .int .i64 x) (fun s : Sil => s.v) invKI invVS m w2.heap.size n _ _ _ rfl HG.out ?_ ?_)
      | go_in)
    · intro _ hl0
      have HQ := Lib.hid (cnt_end S s hl0)
      rw [cnt_end S s hl0]
      have HQ' : Hid ((S.countP fun t => sameL t s) = quoS S s) := Lib.hid rfl
      clear hl0
      generalize hq : (S.countP fun t => sameL t s) = q at *
      have HQ2 : Hid (quoS S s = q) := Lib.hid HQ'.out.symm
      clear HQ HQ' hq
      have H3 := Lib.hid (H2.out.later HW.out)
      have X3 := Lib.hid (X2.out.later HW.out)
      have HT3 := Lib.hid (there_later HT2.out HW.out hlt2)
      have hlt3 := Nat.lt_of_lt_of_le hlt2 HW.out.size
      have HB3 := Lib.hid (HB2.out.trans (HW.out.mono HB2.out.size))
      clear H2 X2 HB2 HT2 hlt2 x0 x1 x2 x3 x4 l0 HG HW
      obtain ⟨x0, x1, x2, x3, x4⟩ := X3.out
      have l0 := H3.out.h0
      have l1 := H3.out.h1
      by_cases hq10 : q = 10
      · subst hq10
        go_wp2
        go_ret2
        exact ⟨by rw [(layE_full HR.out HQ2.out).1]; rfl, S, last, n, H3.out, .no (layE_full HR.out HQ2.out (last := last)).2, by omega, Kp.of_below HB3.out, fun s' h => .inl h⟩
      have kc := cloneM_any s.ms wr (SV s.mv) (RdAt.later HM.out HB3.out) hl
      unfold SV at kc
      have hq11 : ((q : Int) == 10) = false := by rw [beq_eq_false_iff_ne]; omega
      go_wp2_with fail
      refine kc.mono ?_
      rintro e w4 ⟨v', rfl, hown, hb4⟩
      have H4 := Lib.hid (H3.out.later hb4)
      have X4 := Lib.hid (X3.out.later hb4)
      have HT4 := Lib.hid (there_later HT3.out hb4 hlt3)
      have hlt4 := Nat.lt_of_lt_of_le hlt3 hb4.size
      have HB4 := Lib.hid (HB3.out.trans (hb4.mono HB3.out.size))
      obtain ⟨ga, gc, rfl, _, _⟩ := RdAt.shape (RdAt.own hown)
      have HO := Lib.hid hown
      have HQ : Hid (∀ q, (Value.slice ga s.ms.length gc).ownBlock = some q → w.heap.size ≤ q) := Lib.hid (fun q hq => Nat.le_trans (Nat.le_of_lt hlt3) (hown.lt q hq).1)
      have hlt3' := hlt3
      clear kc H3 X3 HB3 HT3 hlt3 hown x0 x1 x2 x3 x4 l0 l1 hb4
      obtain ⟨x0, x1, x2, x3, x4⟩ := X4.out
      have l0 := H4.out.h0
      have l1 := H4.out.h1
      have f0 := there_free HT4.out 0 (by omega)
      have f1 := there_free H4.out.th 1 (by omega)
      have hw1 : wrap64 (last + 1) = last + 1 := IntWalk.wrap64_in _ ⟨by omega, by omega⟩
      obtain ⟨x40, x41, x42, x43, x44⟩ := X4.out
      obtain ⟨W5, hW5, c0, c1, cc, W6, hr, hS6, hK6⟩ := lay_step (s := { s with id := last + 1, mv := (ga, s.ms.length, gc) }) H.out HB4.out (Nat.le_refl _) hlt3' hlt4 hn hla hl0 HO.out HF.out (rightS_len HR.out) rfl (by rw [x40]; rfl) ⟨x41, x42, x43, x44⟩
      have HS6 := Lib.hid hS6
      have HK6 := Lib.hid hK6
      have HCC := Lib.hid cc
      have HC0 := Lib.hid c0
      have HC1 := Lib.hid c1
      have HRU := Lib.hid hr
      dsimp only [SV] at hW5
      clear hS6 hK6 cc c0 c1 hr x40 x41 x42 x43 x44
      go_upto_region 13 with fail
      clear hW5 x0 x1 x2 x3 x4 l0 l1 f0 f1
      have c0 := HC0.out
      have c1 := HC1.out
      obtain ⟨x0, x1, x2, x3, x4⟩ := HCC.out
      dsimp only [SV] at x0
      have hr := HRU.out
      unfold Sil.v at hr
      dsimp only at hr
      have d0 := HS6.out.h0
      have d1 := HS6.out.h1
      go_region
      clear c0 c1 x0 x1 x2 x3 x4 hr
      go_wp2
      go_ret2
      exact ⟨by rw [(layE_ok HR.out (by rw [HQ2.out]; exact hq10)).1]; rfl, _, _, _, HS6.out, .yes (layE_ok HR.out (by rw [HQ2.out]; exact hq10) (last := last)).2 _, Nat.le_refl _, HK6.out, fun s' h => by
        rcases List.mem_append.1 h with h | h
        · exact .inl h
        · rw [List.mem_singleton] at h
          subst h
          exact .inr HQ.out⟩
    · intro x t kl yd yp w1 cnt1 hkey hlx hv hat hrg1 hlt hg1 hs1 hen
      obtain ⟨t', ht', hy⟩ := RV_inv hv
      obtain rfl : yd = .held t.v := congrArg Prod.fst hy
      obtain ⟨x', ex, rfl, _⟩ := Maps.keyOf_int_inv Tryz.underlying3 hkey
      obtain rfl : x = x' := by simpa using ex
      have hmem : ∃ u ∈ S, u.id = x ∧ u.v = t.v := by
        have h1 : has (DS S) (kI x) = true := has_true_of_atKey hat
        rw [DS_has] at h1
        obtain ⟨u, hu, hux⟩ := List.any_eq_true.1 h1
        have hux : u.id = x := by simpa using hux
        refine ⟨u, hu, hux, ?_⟩
        have h2 := DS_at H2.out.up hu .nil
        rw [hux, hat .nil] at h2
        exact (DataW.held.inj h2).symm
      obtain ⟨u, hu, hux, huv⟩ := hmem
      have hsame : sameL u s = (decide (t.lv = s.lv) && decide (t.c = s.c)) := by
        simp only [Sil.v, Value.agg.injEq, Array.mk.injEq, List.cons.injEq, Value.int.injEq, true_and, and_true] at huv
        unfold sameL
        rw [huv.2.2.2.1, show u.c = t.c by exact_mod_cast huv.2.2.2.2]
      have HST := Lib.hid (cnt_step (s := s) (left := left) H2.out.up hu (by rw [hux]; exact hlx))
      have HSM := Lib.hid hsame
      have hHW1 : Below w2.heap.size w2 w1 := HW.out.grown hg1 HW.out.size (fun k e => by cases e; exact Nat.le_refl _)
      have hba := World.grownBy_alloc w1 (.cells #[.slice t.mv.1 t.mv.2.1 t.mv.2.2, .int .i64 t.fr, .int .i64 t.til, .int .i64 t.lv, .int .u32 t.c] 67) none
      have hba' := alloc_below w1 (.cells #[.slice t.mv.1 t.mv.2.1 t.mv.2.2, .int .i64 t.fr, .int .i64 t.til, .int .i64 t.lv, .int .u32 t.c] 67)
      have hrg2 := hrg1.kept hba (by simp) (by simp)
      have HW2 := Lib.hid (hHW1.trans (hba'.mono hHW1.size))
      have hrefl := Below.refl (w1.alloc (.cells #[.slice t.mv.1 t.mv.2.1 t.mv.2.2, .int .i64 t.fr, .int .i64 t.til, .int .i64 t.lv, .int .u32 t.c] 67)).heap.size (w1.alloc (.cells #[.slice t.mv.1 t.mv.2.1 t.mv.2.2, .int .i64 t.fr, .int .i64 t.til, .int .i64 t.lv, .int .u32 t.c] 67))
      have y3 := box_later hrefl (i := 3) rfl
      have y4 := box_later hrefl (i := 4) rfl
      rw [hs1] at y3 y4
      have HRG2 := Lib.hid hrg2
      have HLT := Lib.hid hlt
      have X3 := X2.out.later HW2.out
      obtain ⟨z0, z1, z2, z3, z4⟩ := X3
      unfold Sil.v at hen
      clear ht' hy hv hkey hlx hat hrg1 hrg2 hlt hg1 hba hba' hrefl hHW1 hsame huv x0 x1 x2 x3 x4 l0
      obtain ⟨id, ⟨a, sn, c'⟩, sms, fr, til, lv, c⟩ := t
      dsimp only at *
      go_upto_region 7 with fail
      change Code.wp _ _ _ _ (w1.alloc (.cells #[.slice a sn c', .int .i64 fr, .int .i64 til, .int .i64 lv, .int .u32 c] 67))
      generalize w1.alloc (.cells #[.slice a sn c', .int .i64 fr, .int .i64 til, .int .i64 lv, .int .u32 c] 67) = wa at *
      have hcs : (cntS S s left : Int) ≤ 1000000 := by
        have h1 : cntS S s left ≤ S.length := List.countP_le_length
        have h2 := H2.out.own.size_le
        rw [DS_size] at h2
        omega
      have hw2 : wrap64 ((cntS S s left : Int) + 1) = (cntS S s left : Int) + 1 := IntWalk.wrap64_in _ ⟨by omega, by omega⟩
      have HM1 : wa.rangeLeft m w2.heap.size < wr.rangeLeft m w2.heap.size := by rw [HRG2.out.left_eq, HG.out.left_eq]; exact HLT.out
      have HMM := Lib.hid HM1
      clear HM1
      have hst := HST.out
      rw [hux] at hst
      have HSU := Lib.hid hst
      have HWW := Lib.hid hw2
      clear hst hcs hw2
      by_cases e1 : lv = s.lv
      · by_cases e2 : c = s.c
        · have hs1 : sameL u s = true := by rw [HSM.out, decide_eq_true e1, decide_eq_true e2]; rfl
          have HS1 := Lib.hid hs1
          clear hs1
          subst e1
          subst e2
          go_wp2
          all_goals first
            | exact ⟨⟨_, cnt1, by rw [HSU.out, HS1.out, HWW.out]; simp, HRG2, HW2⟩, HMM.out⟩
            | (exfalso; simp_all)
        · have hs1 : sameL u s = false := by rw [HSM.out, decide_eq_true e1, decide_eq_false e2]; rfl
          have HS1 := Lib.hid hs1
          clear hs1
          go_wp2
          exact ⟨⟨_, cnt1, by rw [HSU.out, HS1.out]; rfl, HRG2, HW2⟩, HMM.out⟩
      · have hs1 : sameL u s = false := by rw [HSM.out, decide_eq_false e1]; rfl
        have HS1 := Lib.hid hs1
        clear hs1
        go_wp2
        exact ⟨⟨_, cnt1, by rw [HSU.out, HS1.out]; rfl, HRG2, HW2⟩, HMM.out⟩
end Go.Proofs.YtcfococinllcmaaGreat
