/- alert.Apart: its first loops. -/
import Derived.Test.YtipnhpfpppblhaaApPlain
import Derived.Deep.DeepCutAuto
import Derived.Maps.RangeWalk
import Derived.Test.YtipnhpfpppblhaaHeld
namespace Go.Proofs.Ytipnhpfpppblhaa
open Go.RowKit Go.Maps

/-- what the first loops have put -/
def ApDone (base m ab : Nat) (ps : List ((Int × Nat) × Int)) (N : Nat) (W1 wr : World) : Prop :=
  ∃ T, ApM wr base m T ∧ (∀ e ∈ T, e.ids ≠ []) ∧ (∀ y j, Lies T y j ↔ (y, j) ∈ ps) ∧ (T.length ≤ N ∧ ∀ e ∈ T, e.ids.length ≤ N) ∧ Below base W1 wr ∧ wr.cell? ⟨ab, 0, none⟩ = some (.map (some m))
theorem ApDone.later {base m ab : Nat} {ps : List ((Int × Nat) × Int)} {N : Nat} {W1 w w' : World} (h : ApDone base m ab ps N W1 w) (hb : Below w.heap.size w w') : ApDone base m ab ps N W1 w' := by
  obtain ⟨T, h1, h2, h3, h4, h5, h6⟩ := h
  exact ⟨T, h1.later hb, h2, h3, h4, h5.trans (hb.mono h1.base_le), keep_cell h6 hb (cell_lt h6)⟩
theorem put_done {base m ab : Nat} {ps : List ((Int × Nat) × Int)} {N : Nat} {W1 w : World} (h : ApDone base m ab ps N W1 w) (l : Int) (c : Nat) (i : Int) (hx : wfL (l, c)) (hi : (Lit.int .u64 i).wf = true) (hN : N ≤ 999999) :
    Calls Try.prog 30 #[Lab l c, .int .u64 i, .pointer (some ⟨ab, 0, none⟩)] w fun e w' => e = .returned (.tuple #[]) ∧ ApDone base m ab (ps ++ [((l, c), i)]) (N + 1) W1 w' ∧ KeepC w w' := by
  obtain ⟨T, h1, h2, h3, h4, h5, h6⟩ := h
  refine (put_any base m ab l c i T w N h1 h2 h6 hx hi h4 hN).mono ?_
  rintro e w' ⟨rfl, T', g1, g2, g3, g4, g5, g6, g7⟩
  refine ⟨rfl, ⟨T', g1, g2, fun y j => ?_, g4, h5.trans g5, g6⟩, g7⟩
  rw [g3, h3, List.mem_append, List.mem_singleton]
  simp only [Prod.mk.injEq]
theorem C6.keepC {p : Nat} {a b c d e f : Value} {W W' : World} (h : C6 p a b c d e f W) (hk : KeepC W W') : C6 p a b c d e f W' := by
  obtain ⟨h0, h1, h2, h3, h4, h5⟩ := h
  exact ⟨hk _ _ _ h0, hk _ _ _ h1, hk _ _ _ h2, hk _ _ _ h3, hk _ _ _ h4, hk _ _ _ h5⟩
/-! the lists that are handed back -/
def R3 : Value → Option (DataW Unit × List MemPlace)
  | .slice (some ⟨b, o, none⟩) n c => some (.agg [.lit (.int .i64 b), .lit (.int .i64 o), .lit (.int .i64 n), .lit (.int .i64 c)], [])
  | _ => none
/-- a list of ids at a label: the label, the slice's block and capacity, the ids -/
structure Out where
  x : Int × Nat
  b : Nat
  c : Nat
  ids : List Int
abbrev Out.v (o : Out) : Value := .slice (some ⟨o.b, 0, none⟩) o.ids.length o.c
def codeO (o : Out) : DataW Unit := .agg [.lit (.int .i64 o.b), .lit (.int .i64 0), .lit (.int .i64 o.ids.length), .lit (.int .i64 o.c)]
theorem R3_out (o : Out) : R3 o.v = some (codeO o, []) := rfl
def DO : List Out → DataW Unit
  | [] => .map []
  | o :: R => (DO R).put (kL o.x) (codeO o)
def UAt (w : World) (v : Value) (ids : List Int) : Prop := RdAt w v ids.length 1 (ids.map U)
theorem UAt.keepC {w w' : World} {v : Value} {ids : List Int} (h : UAt w v ids) (hk : KeepC w w') (hs : w.heap.size ≤ w'.heap.size) : UAt w' v ids := by
  refine ⟨h.1, ?_⟩
  rcases h.2 with h | ⟨a, c, rfl, hc, hr⟩
  · exact .inl h
  · refine .inr ⟨a, c, rfl, hc, fun hn => ?_⟩
    obtain ⟨b, o, rfl, hlt, hcell⟩ := hr hn
    exact ⟨b, o, rfl, Nat.lt_of_lt_of_le hlt hs, fun j x hx => hk _ _ _ (hcell j x hx)⟩
/-- between two rounds of the last loop; within one: 'pend', the label that has come -/
structure OutM (w0 : World) (m it mo : Nat) (T : List Ent) (R : List Out) (pend : List (Int × Nat)) (left : Lit → Bool) (cnt : Nat) (w : World) : Prop where
  rg : w.ranges Try.prog 34 R2 m it T.length (DT T) left cnt
  inner : ∀ e ∈ T, w.ownsMap Try.prog 66 (plainElem Try.prog 4) e.b e.ids.length (idsD e.ids)
  out : w.ownsMap Try.prog 34 R3 mo R.length (DO R)
  done : ∀ o ∈ R, left (kL o.x) = false ∧ UAt w o.v o.ids ∧ o.ids.Pairwise (· < ·) ∧ ∃ e ∈ T, e.x = o.x ∧ ∀ i, i ∈ o.ids ↔ i ∈ e.ids
  once : R.Pairwise (fun a b => a.x ≠ b.x)
  rest : ∀ e ∈ T, left (kL e.x) = true ∨ (∃ o ∈ R, o.x = e.x) ∨ e.x ∈ pend
  few : R.length + cnt + pend.length ≤ T.length
  below : Below w0.heap.size w0 w
theorem ranges_iter {w : World} {k : TypeId} {R : Value → Option (DataW Unit × List MemPlace)} {b r n : Nat} {D : DataW Unit} {left : Lit → Bool} {cnt : Nat} (h : w.ranges Try.prog k R b r n D left cnt) : ∃ a s q c, w.heap[r]? = some (.mapIter a s q c) := by
  obtain ⟨es, clock, since, seen, c0, hb, F, hs, hD, hr, rest⟩ := h
  exact ⟨_, _, _, _, hr⟩
theorem ranges_ne {w : World} {k k' : TypeId} {R R' : Value → Option (DataW Unit × List MemPlace)} {b r n b' n' : Nat} {D D' : DataW Unit} {left : Lit → Bool} {cnt : Nat} (h : w.ranges Try.prog k R b r n D left cnt) (h2 : w.ownsMap Try.prog k' R' b' n' D') : b' ≠ r := by
  rintro rfl
  obtain ⟨_, _, _, _, hr⟩ := ranges_iter h
  obtain ⟨es', clock', hb', _⟩ := h2
  rw [hb'] at hr
  cases hr
theorem KeepC.of_iter {w w' : World} {r a s c : Nat} {q : Array Nat} (hr : w.heap[r]? = some (.mapIter (some a) s q c)) (hg : w.grownBy w' (some r)) : KeepC w w' := fun b _ _ hv => cell_keep hv hg (fun e1 => by
  have := Option.some.inj e1
  subst this
  simp [World.cell?, hr] at hv)
theorem OutM.grown {w0 w w' : World} {m it mo : Nat} {T : List Ent} {R : List Out} {pend : List (Int × Nat)} {left : Lit → Bool} {cnt : Nat} (h : OutM w0 m it mo T R pend left cnt w) (hg : w.grownBy w' none) : OutM w0 m it mo T R pend left cnt w' := by
  have hb : Below w.heap.size w w' := ⟨hg.os, hg.tape, hg.output, hg.size, fun k hk => hg.block k hk (by simp)⟩
  exact ⟨h.rg.kept hg (by simp) (by simp), fun e he => (h.inner e he).kept hg (by simp), h.out.kept hg (by simp), fun o ho => by
    obtain ⟨h1, h2, h3, h4⟩ := h.done o ho
    exact ⟨h1, h2.later hb, h3, h4⟩, h.once, h.rest, h.few, h.below.trans (hb.mono h.below.size)⟩
theorem OutM.later {w0 w w' : World} {m it mo : Nat} {T : List Ent} {R : List Out} {pend : List (Int × Nat)} {left : Lit → Bool} {cnt : Nat} (h : OutM w0 m it mo T R pend left cnt w) (hb : Below w.heap.size w w') : OutM w0 m it mo T R pend left cnt w' := h.grown (below_grown hb none)
theorem OutM.next {w0 w w' : World} {m it mo : Nat} {T : List Ent} {R : List Out} {left : Lit → Bool} {cnt cnt' : Nat} (h : OutM w0 m it mo T R [] left cnt w) (hT : ∀ e ∈ T, wfL e.x) {x : Int × Nat} (hx : wfL x) (hlx : left (kL x) = true)
    (hrg : w'.ranges Try.prog 34 R2 m it T.length (DT T) (fun z => left z && !z.sameKey (kL x)) cnt') (hlt : cnt' < cnt) (hg : w.grownBy w' (some it)) (hit : w0.heap.size ≤ it) :
    OutM w0 m it mo T R [x] (fun z => left z && !z.sameKey (kL x)) cnt' w' ∧ ∀ o ∈ R, o.x ≠ x := by
  have hk : KeepC w w' := fun b _ _ hv => cell_keep hv hg (fun e1 => by
    have := Option.some.inj e1
    subst this
    obtain ⟨_, _, _, _, hr⟩ := ranges_iter h.rg
    simp [World.cell?, hr] at hv)
  refine ⟨⟨hrg, fun e he => (h.inner e he).kept hg (fun e1 => ranges_ne h.rg (h.inner e he) (Option.some.inj e1)), h.out.kept hg (fun e1 => ranges_ne h.rg h.out (Option.some.inj e1)), fun o ho => ?_, h.once, fun e he => ?_, ?_, h.below.grown hg h.below.size (fun k e1 => by cases e1; exact hit)⟩, fun o ho e1 => ?_⟩
  · obtain ⟨h1, h2, h3, h4⟩ := h.done o ho
    exact ⟨by simp [h1], h2.keepC hk hg.size, h3, h4⟩
  · rcases h.rest e he with h1 | h1 | h1
    · by_cases hex : e.x = x
      · exact .inr (.inr (by rw [hex]; exact List.mem_singleton_self _))
      · refine .inl ?_
        rw [h1, sameKey_ne (fun e1 => hex (kL_inj (hT e he) hx e1))]; rfl
    · exact .inr (.inl h1)
    · cases h1
  · have := h.few
    simp at this ⊢
    omega
  · have := (h.done o ho).1
    rw [e1, hlx] at this
    cases this
theorem OutM.put {w0 w : World} {m it mo : Nat} {T : List Ent} {R : List Out} {x : Int × Nat} {left : Lit → Bool} {cnt : Nat} (h : OutM w0 m it mo T R [x] left cnt w) (hx : wfL x) (hm : mo ≠ m ∧ ∀ e ∈ T, e.b ≠ mo) (hit : it ≠ mo) (hmo : w0.heap.size ≤ mo) (hN : T.length ≤ 999999)
    (o : Out) (hox : o.x = x) (hlx : left (kL x) = false) (hur : UAt w o.v o.ids) (hs : o.ids.Pairwise (· < ·)) (he : ∃ e ∈ T, e.x = x ∧ ∀ i, i ∈ o.ids ↔ i ∈ e.ids) (hne : ∀ p ∈ R, p.x ≠ x) :
    ∃ w', (Instr.mapUpdate 40 (.map (some mo)) (LabP x) o.v).run Try.prog w = .ok () w' ∧ OutM w0 m it mo T (o :: R) [] left cnt w' ∧ KeepC w w' := by
  have hf := h.few
  obtain ⟨w', hr, ho, hg⟩ := h.out.update lawL Try.underlying40 (by unfold maxLen; simp at hf; omega) (keyOf_lab hx) (R3_out o)
  have hk : KeepC w w' := KeepC.of_map h.out hg
  refine ⟨w', hr, ⟨h.rg.kept hg (fun e1 => hm.1 (Option.some.inj e1).symm) (fun e1 => hit (Option.some.inj e1)), fun e he => (h.inner e he).kept hg (fun e1 => hm.2 e he (Option.some.inj e1)), by rw [DO, hox]; exact ho, fun p hp => ?_, List.pairwise_cons.2 ⟨fun p hp => by rw [hox]; exact fun e1 => hne p hp e1.symm, h.once⟩, fun e he => ?_, ?_, h.below.grown hg h.below.size (fun k e1 => by cases e1; exact hmo)⟩, hk⟩
  · rcases List.mem_cons.1 hp with rfl | hp'
    · rw [hox]; exact ⟨hlx, hur.keepC hk hg.size, hs, he⟩
    · obtain ⟨h1, h2, h3, h4⟩ := h.done p hp'
      exact ⟨h1, h2.keepC hk hg.size, h3, h4⟩
  · rcases h.rest e he with h1 | ⟨p, hp, h1⟩ | h1
    · exact .inl h1
    · exact .inr (.inl ⟨p, List.mem_cons_of_mem _ hp, h1⟩)
    · exact .inr (.inl ⟨o, List.mem_cons_self, by rw [hox]; exact (List.mem_singleton.1 h1).symm⟩)
  · simp at hf ⊢; omega
theorem LabP_inj {x y : Int × Nat} (h : LabP x = LabP y) : x = y := by
  obtain ⟨l, c⟩ := x
  obtain ⟨l', c'⟩ := y
  simp only [LabP, Lab, Value.agg.injEq, Array.mk.injEq, List.cons.injEq, Value.int.injEq, true_and, and_true] at h
  obtain ⟨rfl, h2⟩ := h
  have : c = c' := by exact_mod_cast h2
  subst this; rfl
/-- the sorted ids of one label -/
theorem sorted_ent (e : Ent) (x : Int × Nat) (Bm : Nat) (w : World) (hBm : Bm < w.heap.size) (hm : w.cell? ⟨Bm, 0, none⟩ = some (.map (some e.b))) (hin : w.ownsMap Try.prog 66 (plainElem Try.prog 4) e.b e.ids.length (idsD e.ids)) (hsz : 0 < Maps.size (idsD e.ids) ∧ Maps.size (idsD e.ids) ≤ 12) :
    Calls Try.prog 32 #[.func (.func 61) #[] #[.pointer (some ⟨Bm, 0, none⟩)]] w fun r w' => ∃ o : Out, r = .returned o.v ∧ o.x = x ∧ UAt w' o.v o.ids ∧ o.ids.Pairwise (· < ·) ∧ (∀ i, i ∈ o.ids ↔ i ∈ e.ids) ∧ Below w.heap.size w w' := by
  obtain ⟨u1, u2, u3⟩ := uKeys_own hin (int_keyed Try.underlying66) Try.underlying66
  refine (sorted_any Bm e.b e.ids.length (idsD e.ids) w hBm hm hin hsz.2 hsz.1).mono ?_
  rintro r w' ⟨v, ss, rfl, hp, hrow, hb⟩
  have hl : ss.length = Maps.size (idsD e.ids) := by rw [hp.length_eq, u3]
  rcases hrow.2 with ⟨_, h0⟩ | ⟨g, cap, cur, rfl, _, hg, hle, _⟩
  · omega
  · have hpm : (ss.mergeSort fun x y => decide (x ≤ y)).Perm ss := List.mergeSort_perm _ _
    refine ⟨⟨x, g, cap, ss.mergeSort fun x y => decide (x ≤ y)⟩, by simp [List.length_mergeSort], rfl, ?_, ?_, fun i => ?_, hb⟩
    · have := RdAt.own hrow
      unfold UAt Out.v
      dsimp only
      rw [List.length_mergeSort]
      exact this
    · have h1 : (ss.mergeSort fun x y => decide (x ≤ y)).Pairwise (fun a b => decide (a ≤ b) = true) := List.pairwise_mergeSort (fun a b c h1 h2 => by simp at *; omega) (fun a b => by simp; omega) ss
      have h2 : (ss.mergeSort fun x y => decide (x ≤ y)).Nodup := (hpm.trans hp).nodup_iff.2 u1
      refine (h1.and h2).imp ?_
      rintro a b ⟨h3, h4⟩
      simp at h3
      omega
    · rw [(hpm.trans hp).mem_iff, u2, idsD_has, decide_eq_true_eq]
theorem C6.low {p B : Nat} {a b c d e f : Value} {W W' : World} (h : C6 p a b c d e f W) (hb : Below B W W') (hp : p < B) : C6 p a b c d e f W' := by
  obtain ⟨h0, h1, h2, h3, h4, h5⟩ := h
  have q : ∀ o v, W.cell? ⟨p, o, none⟩ = some v → W'.cell? ⟨p, o, none⟩ = some v := fun o v hv => (hb.cell (p := ⟨p, o, none⟩) hp).trans hv
  exact ⟨q _ _ h0, q _ _ h1, q _ _ h2, q _ _ h3, q _ _ h4, q _ _ h5⟩
theorem ApDone.below {base m ab : Nat} {ps : List ((Int × Nat) × Int)} {N : Nat} {W1 w : World} (h : ApDone base m ab ps N W1 w) : Below base W1 w := by
  obtain ⟨T, h1, h2, h3, h4, h5, h6⟩ := h
  exact h5
/-- what Apart hands back -/
def ApartPost (rs : List Nmd) (al : List Al) (w : World) (e : Ending) (w' : World) : Prop :=
  ∃ (mo : Nat) (R : List Out), e = .returned (.map (some mo)) ∧ w'.ownsMap Try.prog 34 R3 mo R.length (DO R) ∧
    (∀ o ∈ R, wfL o.x ∧ UAt w' o.v o.ids ∧ o.ids.Pairwise (· < ·) ∧ o.ids ≠ [] ∧ ∀ i, i ∈ o.ids ↔ (o.x, i) ∈ putsL rs al) ∧ R.Pairwise (fun a b => a.x ≠ b.x) ∧
    (∀ x i, (x, i) ∈ putsL rs al → ∃ o ∈ R, o.x = x) ∧ Below w.heap.size w w'
set_option maxHeartbeats 3200000 in
set_option maxRecDepth 100000 in
theorem apart_any (s0 s1 s2 s4 s5 : Option Addr × Nat × Nat) (rs : List Nmd) (rv : Value) (l : List (Al × Value)) (v : Value) (w : World) (hv : NmdsAt w rv rs) (hl : rs.length ≤ maxLen) (ha : AlsAt w v l) (h12 : l.length ≤ 12) :
    Calls Try.prog 10 #[.agg #[SV s0, SV s1, SV s2, rv, SV s4, SV s5], v] w fun e w' => ApartPost rs (l.map (·.1)) w e w' := by
  obtain ⟨ra, rc, rfl, _, _⟩ := RdAt.shape hv
  obtain ⟨va, vc, rfl, hvc, hvr⟩ := RdAt.shape ha.row
  obtain ⟨a0, n0, c0⟩ := s0
  obtain ⟨a1, n1, c1⟩ := s1
  obtain ⟨a2, n2, c2⟩ := s2
  obtain ⟨a4, n4, c4⟩ := s4
  obtain ⟨a5, n5, c5⟩ := s5
  have hmm := @run_makeMap Try.prog
  obtain ⟨Wp, hWp⟩ : ∃ z, w.alloc (.cells #[.slice a0 n0 c0, .slice a1 n1 c1, .slice a2 n2 c2, .slice ra rs.length rc, .slice a4 n4 c4, .slice a5 n5 c5] 26) = z := ⟨_, rfl⟩
  obtain ⟨W1, hW1⟩ : ∃ z, (Wp.alloc (.map #[] 0)).alloc (.cells #[.map (some (w.heap.size + 1))] 74) = z := ⟨_, rfl⟩
  have sp : Wp.heap.size = w.heap.size + 1 := by rw [← hWp, World.size_alloc]
  have s1 : W1.heap.size = w.heap.size + 3 := by rw [← hW1, World.size_alloc, World.size_alloc, sp]
  have hA0 := ApM.new Wp
  have hA1 := hA0.later (alloc_below (Wp.alloc (.map #[] 0)) (.cells #[.map (some (w.heap.size + 1))] 74))
  rw [hW1, sp] at hA1
  have hab : W1.cell? ⟨w.heap.size + 1 + 1, 0, none⟩ = some (.map (some (w.heap.size + 1))) := by
    rw [← hW1, World.cell?_alloc_at _ _ _ _ (by rw [World.size_alloc, sp])]; rfl
  have bp : Below w.heap.size w Wp := by rw [← hWp]; exact alloc_below _ _
  have b1 : Below Wp.heap.size Wp W1 := by rw [← hW1]; exact (alloc_below _ _).trans ((alloc_below _ _).mono (by rw [World.size_alloc]; omega))
  have bw1 : Below w.heap.size w W1 := bp.trans (b1.mono (by omega))
  have hD0 : ApDone (w.heap.size + 1) (w.heap.size + 1) (w.heap.size + 1 + 1) (putsL rs ((l.map (·.1)).take 0)) 0 W1 W1 := ⟨[], hA1, fun _ h => (by cases h), fun y j => by simp [Lies, putsL], ⟨Nat.le_refl _, fun _ h => (by cases h)⟩, Below.refl _ _, hab⟩
  have hpc : C6 w.heap.size (.slice a0 n0 c0) (.slice a1 n1 c1) (.slice a2 n2 c2) (.slice ra rs.length rc) (.slice a4 n4 c4) (.slice a5 n5 c5) W1 := by
    have h := b1
    rw [← hWp] at h
    obtain ⟨h, _, _⟩ := box6 h
    exact h
  have HD0 := Lib.hid hD0
  have HPC := Lib.hid hpc
  have HA := Lib.hid ha
  have HV := Lib.hid hv
  have BW1 := Lib.hid bw1
  have SW1 := Lib.hid s1
  have HVR := Lib.hid hvr
  clear hD0 hpc ha hv hA0 hA1 hab bp b1 bw1 hvr s1
  go_enter Try.func10, Try.ntmps10
  go_wp2
  go_loopw [19] (fun i wr => ∃ (k N : Nat), i = .int .i64 k ∧ k ≤ l.length ∧ N ≤ k * 9 ∧ Hid (ApDone (w.heap.size + 1) (w.heap.size + 1) (w.heap.size + 1 + 1) (putsL rs ((l.map (·.1)).take k)) N W1 wr)) (fun i _ => l.length - (intOf i).toNat)
  case atStart => exact ⟨0, 0, rfl, Nat.zero_le _, Nat.zero_le _, HD0⟩
  case round =>
    clear HD0
    obtain ⟨k, N, rfl, hk, hN, HD⟩ := hrel
    have HBw : Hid (Below w.heap.size w wr) := by
      obtain ⟨T, h1, h2, h3, h4, h5, h6⟩ := HD.out
      exact BW1.out.trans (h5.mono (Nat.le_succ _))
    by_cases hkl : k < l.length
    · obtain ⟨g, o, rfl, hg, hcell⟩ := HVR.out (by omega)
      obtain ⟨⟨x, fv⟩, hx⟩ : ∃ p, l[k] = p := ⟨_, rfl⟩
      obtain ⟨hfv, hfit⟩ := HA.out.fld _ (List.getElem_mem hkl)
      rw [hx] at hfv hfit
      dsimp only at hfv hfit
      have hat := alCells_at l k hkl
      rw [hx] at hat
      have hps : (l.map (·.1))[k]'(by rw [List.length_map]; exact hkl) = x := by rw [List.getElem_map, hx]
      have hstep := putsL_succ (rs := rs) (l := l.map (·.1)) (k := k) (by rw [List.length_map]; exact hkl)
      rw [hps] at hstep
      have HST := Lib.hid hstep
      obtain ⟨src, fl, lv, c, fr, til⟩ := x
      obtain ⟨fa, fc, rfl, hfc, hfr⟩ := RdAt.shape hfv
      have q : ∀ i v, (alC ⟨src, fl, lv, c, fr, til⟩ (.slice fa fl.length fc))[i]? = some v → wr.cell? ⟨g, o + k * 6 + i, none⟩ = some v := fun i v hi => keep_cell (by have := hcell _ _ (hat i v hi); rwa [← Nat.add_assoc] at this) HBw.out hg
      have e0 : wr.cell? ⟨g, o + k * 6, none⟩ = some (.string src) := q 0 _ rfl
      have e1 : wr.cell? ⟨g, o + k * 6 + 1, none⟩ = some (.slice fa fl.length fc) := q 1 _ rfl
      have e2 : wr.cell? ⟨g, o + k * 6 + 2, none⟩ = some (.int .i64 lv) := q 2 _ rfl
      have e3 : wr.cell? ⟨g, o + k * 6 + 3, none⟩ = some (.int .u32 c) := q 3 _ rfl
      have e4 : wr.cell? ⟨g, o + k * 6 + 4, none⟩ = some (.int .i64 fr) := q 4 _ rfl
      have e5 : wr.cell? ⟨g, o + k * 6 + 5, none⟩ = some (.int .i64 til) := q 5 _ rfl
      have HFV := Lib.hid hfv
      have HFIT := Lib.hid hfit
      have HFR := Lib.hid hfr
      have hba := alloc_below wr (.cells #[.string src, .slice fa fl.length fc, .int .i64 lv, .int .u32 c, .int .i64 fr, .int .i64 til] 36)
      obtain ⟨hX, hltx, _⟩ := box6 (Below.refl (wr.alloc (.cells #[.string src, .slice fa fl.length fc, .int .i64 lv, .int .u32 c, .int .i64 fr, .int .i64 til] 36)).heap.size _)
      clear q hat hfv hfit hfr hcell hstep hps hx
      go_upto_region 6 with fail
      change Code.wp _ _ _ _ (wr.alloc (.cells #[.string src, .slice fa fl.length fc, .int .i64 lv, .int .u32 c, .int .i64 fr, .int .i64 til] 36))
      generalize wr.alloc (.cells #[.string src, .slice fa fl.length fc, .int .i64 lv, .int .u32 c, .int .i64 fr, .int .i64 til] 36) = wa at *
      have HBa := Lib.hid (HBw.out.trans (hba.mono HBw.out.size))
      have HDa := Lib.hid (HD.out.later hba)
      have hr := aright_any src fl lv c fr til (.slice fa fl.length fc) wa HFIT.out.src (HFV.out.later HBa.out) HFIT.out.fl HFIT.out.len
      have X0 : Hid (C6 wr.heap.size (.string src) (.slice fa fl.length fc) (.int .i64 lv) (.int .u32 c) (.int .i64 fr) (.int .i64 til) wa) := Lib.hid hX
      obtain ⟨x0, x1, x2, x3, x4, x5⟩ := hX
      have HLT := Lib.hid hltx
      obtain ⟨rt, hrt⟩ : ∃ rt, (whoA src fl lv && beginsA fr && endsA fr til) = rt := ⟨_, rfl⟩
      have HRT : Hid (rightA ⟨src, fl, lv, c, fr, til⟩ = rt) := hrt
      rw [hrt] at hr
      clear e0 e1 e2 e3 e4 e5 hba HD hltx hrt
      go_wp2_with fail
      refine hr.mono ?_
      rintro e w2 ⟨rfl, hb2⟩
      have HB2 := Lib.hid (HBa.out.trans (hb2.mono HBa.out.size))
      have HD2 := Lib.hid (HDa.out.later hb2)
      have X2 := Lib.hid (X0.out.later hb2 HLT.out)
      have HLT2 := Lib.hid (Nat.lt_of_lt_of_le HLT.out hb2.size)
      clear x0 x1 x2 x3 x4 x5 X0 HLT HDa HBa hb2 hr
      cases rt
      · go_wp2
        go_roundw
        case rel => exact ⟨k + 1, N, by go_num, by omega, by omega, Lib.hid (by rw [HST.out, putsA, HRT.out]; simpa using HD2.out)⟩
        case measure => (simp [intOf]; try omega)
      · have hwho := rightA_who HRT.out
        have hid := id_any src fl lv c fr til (.slice fa fl.length fc) w2 (HFV.out.later HB2.out) (idB_bound hwho)
        obtain ⟨hlv, hlc⟩ : rightL lv = true ∧ c < 4294967296 := ⟨(whoA_iff.1 hwho).2.2.2, HFIT.out.c⟩
        obtain ⟨nid, hnid⟩ : ∃ z, shortL (idB src fl) = z := ⟨_, rfl⟩
        have hnw := shortL_wf (idB src fl)
        rw [hnid] at hid hnw
        have HNW := Lib.hid hnw
        have HWF := Lib.hid (wfL_of hlv hlc)
        have HLV := Lib.hid hlv
        have HWHO := Lib.hid hwho
        have HST2 : Hid (putsL rs ((l.map (·.1)).take (k + 1)) = putsL rs ((l.map (·.1)).take k) ++ ((lv, c), nid) :: fl.map (fun f => (raisedL rs f.1 (lv, c), nid))) := by
          show _ = _
          rw [HST.out, putsA, HRT.out]
          simp only [idA, hnid]
          rfl
        clear hnw hnid hlv hwho HST
        obtain ⟨x0, x1, x2, x3, x4, x5⟩ := X2.out
        go_wp2_with fail
        refine hid.mono ?_
        rintro e w3 ⟨rfl, hb3⟩
        have HB3 := Lib.hid (HB2.out.trans (hb3.mono HB2.out.size))
        have HD3 := Lib.hid (HD2.out.later hb3)
        have X3 := Lib.hid (X2.out.later hb3 HLT2.out)
        have HLT3 := Lib.hid (Nat.lt_of_lt_of_le HLT2.out hb3.size)
        clear x0 x1 x2 x3 x4 x5 X2 HLT2 HD2 HB2 hb3 hid
        obtain ⟨x0, x1, x2, x3, x4, x5⟩ := X3.out
        have hpd := put_done HD3.out lv c nid HWF.out HNW.out (by omega)
        go_wp2_with fail
        refine hpd.mono ?_
        rintro e w4 ⟨rfl, hd4, hk4⟩
        have HD4 := Lib.hid hd4
        have X4 := Lib.hid (X3.out.keepC hk4)
        clear x0 x1 x2 x3 x4 x5 X3 HLT3 HD3 HB3 hpd hd4 hk4
        obtain ⟨x0, x1, x2, x3, x4, x5⟩ := X4.out
        have hf8 := (rightF_at (whoA_iff.1 HWHO.out).2.2.1).1
        go_wp2
        clear x0 x1 x2 x3 x4 x5
        generalize wr.heap.size = bx at *
        go_loopw [36] (fun i w5 => ∃ (j N' : Nat), i = .int .i64 j ∧ j ≤ fl.length ∧ N' ≤ N + 1 + j ∧ Hid (ApDone (w.heap.size + 1) (w.heap.size + 1) (w.heap.size + 1 + 1) (putsL rs ((l.map (·.1)).take k) ++ ((lv, c), nid) :: (fl.take j).map (fun f => (raisedL rs f.1 (lv, c), nid))) N' W1 w5) ∧ Hid (C6 bx (.string src) (.slice fa fl.length fc) (.int .i64 lv) (.int .u32 c) (.int .i64 fr) (.int .i64 til) w5)) (fun i _ => fl.length - (intOf i).toNat)
        case atStart => exact ⟨0, N + 1, rfl, Nat.zero_le _, by omega, HD4, X4⟩
        case round =>
          clear HD4 X4
          obtain ⟨j, N', rfl, hj, hN', HD5, X5⟩ := hrel
          have HB5 : Hid (Below w.heap.size w wr) := Lib.hid (BW1.out.trans (HD5.out.below.mono (Nat.le_succ _)))
          by_cases hjl : j < fl.length
          · obtain ⟨b', o', rfl, hb', hfc'⟩ := HFR.out (by omega)
            obtain ⟨h1, h2⟩ := fldCells_at fl j hjl
            have e0 : wr.cell? ⟨b', o' + j * 2, none⟩ = some (.string fl[j].1) := keep_cell (hfc' _ _ h1) HB5.out hb'
            have e1 : wr.cell? ⟨b', o' + j * 2 + 1, none⟩ = some (.string fl[j].2) := keep_cell (by have := hfc' _ _ h2; rwa [← Nat.add_assoc] at this) HB5.out hb'
            obtain ⟨⟨fx, fy⟩, hfx⟩ : ∃ z, fl[j] = z := ⟨_, rfl⟩
            rw [hfx] at e0 e1
            dsimp only at e0 e1
            have HFX := Lib.hid hfx
            have hbb := alloc_below wr (.cells #[.string fx, .string fy] 48)
            have y0 : (wr.alloc (.cells #[.string fx, .string fy] 48)).cell? ⟨wr.heap.size, 0, none⟩ = some (.string fx) := World.cell?_alloc_at _ _ _ _ rfl
            clear h1 h2 hfc' hfx
            go_upto_region 12 with fail
            change Code.wp _ _ _ _ (wr.alloc (.cells #[.string fx, .string fy] 48))
            generalize wr.alloc (.cells #[.string fx, .string fy] 48) = wb at *
            have HBb := Lib.hid (HB5.out.trans (hbb.mono HB5.out.size))
            have HDb := Lib.hid (HD5.out.later hbb)
            have Xb := Lib.hid (X5.out.later hbb (cell_lt X5.out.1))
            have hP := HPC.out.low HDb.out.below (Nat.lt_succ_self _)
            obtain ⟨p0, p1, p2, p3, p4, p5⟩ := hP
            obtain ⟨x0, x1, x2, x3, x4, x5⟩ := Xb.out
            have hra := raised_any (a0, n0, c0) (a1, n1, c1) (a2, n2, c2) (a4, n4, c4) (a5, n5, c5) rs (.slice ra rs.length rc) fx lv c wb (HV.out.later HBb.out) hl
            obtain ⟨rl, hrl⟩ : ∃ z, raisedL rs fx (lv, c) = z := ⟨_, rfl⟩
            have hrw := raisedL_wf rs fx (l := (lv, c)) HLV.out HFIT.out.c
            rw [hrl] at hra hrw
            obtain ⟨r1, r2⟩ := rl
            have HRW := Lib.hid hrw
            have HRL := Lib.hid hrl
            clear e0 e1 hbb HD5 X5 HB5 hrw hrl
            go_wp2_with fail
            refine hra.mono ?_
            rintro e w6 ⟨rfl, hb6⟩
            have HD6 := Lib.hid (HDb.out.later hb6)
            have X6 := Lib.hid (Xb.out.later hb6 (cell_lt Xb.out.1))
            have hpd := put_done HD6.out r1 r2 nid HRW.out HNW.out (by omega)
            clear p0 p1 p2 p3 p4 p5 x0 x1 x2 x3 x4 x5 y0 hra hb6 HDb Xb HBb
            go_wp2_with fail
            refine hpd.mono ?_
            rintro e w7 ⟨rfl, hd7, hk7⟩
            have HD7 := Lib.hid hd7
            have X7 := Lib.hid (X6.out.keepC hk7)
            clear hpd hd7 hk7 HD6 X6
            go_wp2
            go_roundw
            case rel =>
              refine ⟨j + 1, N' + 1, by go_num, by omega, by omega, Lib.hid ?_, X7⟩
              have := HD7.out
              rw [List.take_succ_eq_append_getElem hjl, List.map_append, HFX.out]
              simp only [List.map_cons, List.map_nil, HRL.out]
              rw [List.append_assoc] at this
              exact this
            case measure => (simp [intOf]; try omega)
          · obtain rfl : j = fl.length := by omega
            go_wp2
            go_roundw
            case rel => exact ⟨k + 1, N', by go_num, by omega, by omega, Lib.hid (by rw [HST2.out]; have := HD5.out; rwa [List.take_length] at this)⟩
            case measure => (simp [intOf]; try omega)
    · obtain rfl : k = l.length := by omega
      obtain ⟨T, hT, hfull, hlies, hlen, hbT, habT⟩ := HD.out
      have hsz : ∀ e ∈ T, 0 < Maps.size (idsD e.ids) ∧ Maps.size (idsD e.ids) ≤ 12 := fun e he => by
        obtain ⟨u1, u2, u3⟩ := uKeys_own (hT.inner e he) (int_keyed Try.underlying66) Try.underlying66
        refine ⟨?_, ?_⟩
        · obtain ⟨i, hi⟩ := List.exists_mem_of_ne_nil _ (hfull e he)
          rw [← u3]
          exact List.length_pos_of_mem ((u2 i).2 (by rw [idsD_has]; exact decide_eq_true hi))
        · have := nodup_len (uKeys (idsD e.ids)) ((l.map (·.1)).map idA) u1 (fun i hi => by
            have hie : i ∈ e.ids := by have := (u2 i).1 hi; rw [idsD_has] at this; exact of_decide_eq_true this
            have := (hlies e.x i).1 ⟨e, he, rfl, hie⟩
            rw [List.take_of_length_le (by simp)] at this
            unfold putsL at this
            rw [List.mem_flatMap] at this
            obtain ⟨x, hx, hxp⟩ := this
            refine List.mem_map.2 ⟨x, hx, ?_⟩
            unfold putsA at hxp
            split at hxp
            · rcases List.mem_cons.1 hxp with h | h
              · exact (congrArg (·.2) h).symm
              · obtain ⟨f, _, hf⟩ := List.mem_map.1 h
                exact congrArg (·.2) hf
            · cases hxp)
          rw [u3, List.length_map, List.length_map] at this
          omega
      obtain ⟨W2, hW2⟩ : ∃ z, wr.alloc (.map #[] 0) = z := ⟨_, rfl⟩
      have b2 : Below wr.heap.size wr W2 := by rw [← hW2]; exact alloc_below _ _
      have z2 : W2.heap.size = wr.heap.size + 1 := by rw [← hW2, World.size_alloc]
      have hT2 := hT.later b2
      have hout : W2.ownsMap Try.prog 34 R3 wr.heap.size 0 (DO []) := by rw [← hW2]; exact World.ownsMap_made _ _ _ _
      have hab2 := keep_cell habT b2 (cell_lt habT)
      have hmo : wr.heap.size ≠ w.heap.size + 1 ∧ ∀ e ∈ T, e.b ≠ wr.heap.size := ⟨by have := hT.outer.lt; omega, fun e he => by have := (hT.inner e he).lt; omega⟩
      have BW2 := Lib.hid (HBw.out.trans (b2.mono HBw.out.size))
      have HT2 := Lib.hid hT2
      have HOUT := Lib.hid hout
      have HMO := Lib.hid hmo
      have HSZ := Lib.hid hsz
      have HN := Lib.hid hlen.1
      have HFULL := Lib.hid hfull
      rw [List.take_of_length_le (by simp)] at hlies
      have HLIES := Lib.hid hlies
      clear hT hfull hbT habT b2 hT2 hout hmo hsz hlen hlies HD HVR HA HV HPC
      go_wp2_with (first
        | (at_range; refine wpList_range_own _ rfl _ 74 rfl 34 75 lawL Try.underlying74 R2 (w.heap.size + 1) T.length (DT T) rfl HT2.out.outer ?_; intro W3 hrg3 hg3 hs3)
        | go_in)
      have hO3 : OutM w (w.heap.size + 1) W2.heap.size wr.heap.size T [] [] (has (DT T)) (Maps.size (DT T)) W3 :=
        ⟨hrg3, fun e he => (HT2.out.inner e he).kept hg3 (by simp), HOUT.out.kept hg3 (by simp), fun o ho => (by cases ho), List.Pairwise.nil,
          fun e he => .inl (by rw [DT_has (fun f hf => (HT2.out.wf f hf).1) (HT2.out.wf e he).1]; exact decide_eq_true (List.mem_map.2 ⟨e, he, rfl⟩)),
          by rw [DT_size (fun f hf => (HT2.out.wf f hf).1) HT2.out.once]; simp,
          BW2.out.grown hg3 BW2.out.size (fun k e => by cases e)⟩
      have HO3 := Lib.hid hO3
      have hit : W2.heap.size ≠ wr.heap.size := by omega
      have hitw : w.heap.size ≤ wr.heap.size := HBw.out.size
      have hitw2 : w.heap.size ≤ W2.heap.size := by omega
      have HTW := Lib.hid HT2.out.wf
      have HTX := Lib.hid HT2.out.once
      clear hO3 hrg3 hg3 hs3 HOUT HT2 BW2 hab2 hW2 z2 HBw
      generalize W2.heap.size = it at *
      generalize wr.heap.size = mo at *
      go_frame
      go_wp2
      go_loopw [14] (fun _ wx => ∃ (left : Lit → Bool) (cnt : Nat) (R : List Out), Hid (OutM w (w.heap.size + 1) it mo T R [] left cnt wx)) (fun _ wx => wx.rangeLeft (w.heap.size + 1) it)
      case atStart => exact ⟨_, _, [], HO3⟩
      case round =>
        clear HO3
        obtain ⟨left, cnt, R, HO⟩ := hrel
        go_wp2_with (first
          | (at_next; refine wpList_next_ranges _ rfl _ rfl 34 lawL R2 LabP Value.map (fun key kl hk => by obtain ⟨x, hx, _⟩ := keyOf_inv hk; exact ⟨x, hx⟩) (fun v y hv => R2_inv hv) (w.heap.size + 1) it T.length _ _ _ rfl HO.out.rg ?_ ?_)
          | go_in)
        · intro hc0 hl0
          go_wp2
          go_ret
          refine ⟨mo, R, rfl, HO.out.out, fun o ho => ?_, HO.out.once, fun x i hxi => ?_, HO.out.below⟩
          · obtain ⟨_, h2, h3, e, he, hex, hids⟩ := HO.out.done o ho
            have hl2 : ∀ i, i ∈ o.ids ↔ (o.x, i) ∈ putsL rs (l.map (·.1)) := fun i => by
              rw [hids, ← HLIES.out]
              constructor
              · intro hi; exact ⟨e, he, hex, hi⟩
              · rintro ⟨f, hf, hfx, hi⟩
                rw [eq_of_once HTX.out he hf (by rw [hex, hfx])]; exact hi
            refine ⟨by rw [← hex]; exact (HTW.out e he).1, h2, h3, fun h0 => ?_, hl2⟩
            obtain ⟨i, hi⟩ := List.exists_mem_of_ne_nil _ (HFULL.out e he)
            have := (hids i).2 hi
            rw [h0] at this
            cases this
          · obtain ⟨e, he, hex, hi⟩ := (HLIES.out x i).2 hxi
            rcases HO.out.rest e he with h | ⟨o, ho, h⟩ | h
            · rw [hl0] at h; cases h
            · exact ⟨o, ho, by rw [h, hex]⟩
            · cases h
        · intro lx cx mb kl yd yp w2 cnt2 hkey hlk hv hat hrg2 hlt hg2 hs2 hen
          obtain ⟨x', hx', hwx, rfl⟩ := keyOf_inv hkey
          obtain rfl := LabP_inj hx'
          have hmem : (lx, cx) ∈ labs T := by
            have := has_true_of_atKey hat
            rw [DT_has (fun f hf => (HTW.out f hf).1) hwx] at this
            exact of_decide_eq_true this
          obtain ⟨e, he, hex⟩ := List.mem_map.1 hmem
          obtain rfl : yd = .lit (.int .i64 e.b) := by rw [← hat .nil, ← hex, DT_at (fun f hf => (HTW.out f hf).1) HTX.out he]
          obtain rfl : mb = some e.b := by have := R2_some hv; cases this; rfl
          obtain ⟨hO2, hne⟩ := HO.out.next (fun f hf => (HTW.out f hf).1) hwx hlk hrg2 hlt hg2 hitw2
          have hO3 := hO2.later (alloc_below w2 (.cells #[.int .i64 lx, .int .u32 cx] 34))
          have z0 : (w2.alloc (.cells #[.int .i64 lx, .int .u32 cx] 34)).cell? ⟨w2.heap.size, 0, none⟩ = some (.int .i64 lx) := World.cell?_alloc_at _ _ _ _ rfl
          have z1 : (w2.alloc (.cells #[.int .i64 lx, .int .u32 cx] 34)).cell? ⟨w2.heap.size, 1, none⟩ = some (.int .u32 cx) := World.cell?_alloc_at _ _ _ _ rfl
          have hO4 := hO3.later ((Below.refl _ _).drew)
          have HNE := Lib.hid hne
          have HLT := Lib.hid hlt
          have HEX := Lib.hid hex
          have HWX := Lib.hid hwx
          have HLEFT : Hid ((fun z => left z && !z.sameKey (kL (lx, cx))) (kL (lx, cx)) = false) := by
            show (left (kL (lx, cx)) && !(kL (lx, cx)).sameKey (kL (lx, cx))) = false
            rw [WideAt.sameKey_self (kL_key _)]; simp
          clear hkey hx' hwx hmem hat hv hne hO2 hO3 hlt hex hrg2 hg2 hs2 hlk
          go_upto_region 19 with fail
          change Code.wp _ _ _ _ (w2.alloc (.cells #[.int .i64 lx, .int .u32 cx] 34))
          generalize w2.alloc (.cells #[.int .i64 lx, .int .u32 cx] 34) = wb at *
          generalize w2.heap.size = bx at *
          have HO4 := Lib.hid hO4
          clear hO4 hen
          refine wp_region_held_drew (S := (fun W => W.cell? ⟨bx, 0, none⟩ = some (.int .i64 lx) ∧ W.cell? ⟨bx, 1, none⟩ = some (.int .u32 cx))) (by kernel_rfl) ⟨z0, z1⟩ (fun hHeld => ?_)
          refine held_take (i := 0) (v := ?_) rfl rfl (by kernel_rfl) (by kernel_rfl) (by kernel_rfl) (fun _ _ _ h => h) (by rfl) hHeld ?_ ?_
          rotate_left
          · rintro wh ⟨q0, q1⟩
            go_simp
            (try with_reducible rfl)
          simp only [Act.put, List.setIfInBounds_toArray, List.set_cons_zero, List.set_cons_succ]
          refine held_take (i := 1) (v := ?_) rfl rfl (by kernel_rfl) (by kernel_rfl) (by kernel_rfl) (fun _ _ _ h => h) (by rfl) hHeld ?_ ?_
          rotate_left
          · rintro wh ⟨q0, q1⟩
            go_simp
            (try with_reducible rfl)
          simp only [Act.put, List.setIfInBounds_toArray, List.set_cons_zero, List.set_cons_succ]
          refine held_take (i := 2) (v := ?_) rfl rfl (by kernel_rfl) (by kernel_rfl) (by kernel_rfl) (fun _ _ _ h => h) (by rfl) hHeld ?_ ?_
          rotate_left
          · rintro wh ⟨q0, q1⟩
            go_simp
            (try with_reducible rfl)
          simp only [Act.put, List.setIfInBounds_toArray, List.set_cons_zero, List.set_cons_succ]
          refine held_call (i := 3) rfl (by kernel_rfl) (by rfl) (fun K hK => ?_)
          (go_simp; go_at_call 33; refine (mkeys_any _ _).mono ?_; rintro r w3 ⟨rfl, rfl⟩; have hk3 := alloc_below wb.drew (.cells #[.map (some e.b)] 75); have hO5 := HO4.out.later hk3; have z0' := keep_cell (w := wb.drew) z0 hk3 (cell_lt z0); have z1' := keep_cell (w := wb.drew) z1 hk3 (cell_lt z1); have hso := sorted_ent e (lx, cx) wb.drew.heap.size (wb.drew.alloc (.cells #[.map (some e.b)] 75)) (by simp) (World.cell?_alloc_at _ _ _ _ rfl) (hO5.inner e he) (HSZ.out e he))
          refine hK.out _ _ ⟨z0', z1'⟩ (fun hHeld => ?_)
          clear hK K
          (try simp only [Act.put, List.setIfInBounds_toArray, List.set_cons_zero, List.set_cons_succ])
          refine held_call (i := 4) rfl (by kernel_rfl) (by rfl) (fun K hK => ?_)
          (go_simp; go_at_call 32; refine hso.mono ?_; rintro r w5 ⟨o, rfl, hox, hur, hsr, hmem, hb5⟩; obtain ⟨w6, hup, hO6, hk6⟩ := (hO5.later hb5).put HWX.out HMO.out hit hitw (by have := HN.out; omega) o hox HLEFT.out hur hsr ⟨e, he, HEX.out, hmem⟩ HNE.out; have z0'' := keep_cell z0' hb5 (cell_lt z0'); have z1'' := keep_cell z1' hb5 (cell_lt z1'))
          refine hK.out _ _ ⟨z0'', z1''⟩ (fun hHeld => ?_)
          clear hK K
          (try simp only [Act.put, List.setIfInBounds_toArray, List.set_cons_zero, List.set_cons_succ])
          refine held_step (i := 5) rfl (by kernel_rfl) (fun K hK => ?_)
          go_simp
          refine hK.out _ _ ⟨hk6 _ _ _ z0'', hk6 _ _ _ z1''⟩ (fun hHeld => ?_)
          clear hK K
          (try simp only [Act.put, List.setIfInBounds_toArray])
          refine wpAnyH_done (by kernel_rfl) ?_ _
          go_wp2
          go_roundw
          case rel => exact ⟨_, cnt2, o :: R, Lib.hid hO6⟩
          case measure => rw [hO6.rg.left_eq, HO.out.rg.left_eq]; exact HLT.out
end Go.Proofs.Ytipnhpfpppblhaa
