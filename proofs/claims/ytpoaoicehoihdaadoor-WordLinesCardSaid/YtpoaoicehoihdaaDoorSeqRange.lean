/- 'for line := range strings.SplitSeq(s, d)': the statement, by the iterator's contract (its boxes change between two rounds: the caller's invariant must abide that store).
   After the kit's law wpIn_rangeFunc_ownF (RangeFuncFrom), turned to this iterator. -/
import Derived.RangeFuncFrom
import Derived.Test.YtpoaoicehoihdaaDoorSeqIter
namespace Go.Proofs.YtpoaoicehoihdaaDoor
open Go.RowKit Go.Shelf

theorem Kp.put {bs : Nat} (hg : 2 < bs) {W : World} {k : Nat} (o : Obj) (hk : bs + 3 ≤ k) : Kp bs W (W.putObj k o) :=
  fun b hb => World.putObj_heap_other (by rcases hb with rfl | hb <;> omega)
theorem Boxes.alloc {W : World} {bs : Nat} {d : UInt8} {t : ByteArray} (h : Boxes W bs d t) (o : Obj) : Boxes (W.alloc o) bs d t := by
  have keep : ∀ {a : Addr} {v : Value}, W.cell? a = some v → (W.alloc o).cell? a = some v := fun h => cell_kept h (World.grownBy_alloc W o none) (fun r e => by cases e)
  obtain ⟨h1, m, h2⟩ := h.max
  exact ⟨keep h.s, (frozen_kept h.s (World.grownBy_alloc W o none) (fun r e => by cases e)).trans h.f, keep h.sep, keep h.nul, by simp; omega, m, keep h2⟩

/-- what the loop's record holds, and the block for what the rounds defer -/
structure Rec (W : World) (D : Nat) (r : Loop) : Prop where
  l : W.heap[D + 1]? = some (.loop r)
  d : W.heap[D]? = some (.deferred (some []))
theorem Rec.others {W W' : World} {D : Nat} {r : Loop} (h : Rec W D r) (hk : KeepsOthers W W') : Rec W' D r := ⟨hk.same _ _ h.l rfl, hk.same _ _ h.d rfl⟩
theorem Rec.turn {W : World} {D : Nat} {r : Loop} (h : Rec W D r) (r' : Loop) : Rec (W.putObj (D + 1) (.loop r')) D r' :=
  ⟨World.putObj_heap_same (Array.getElem?_eq_some_iff.1 h.l).1, (World.putObj_heap_other (by omega)).trans h.d⟩

theorem wpIn_splitSeq {n : Nat} {g : Operand} {ps : Array Tmp} (hps : ps.size = 1) {assign body : Code} {Q : Exit → Act → World → Prop} {a : Act} {w : World} (h2 : 2 ≤ n) {bs : Nat} (hbs : bs + 3 ≤ w.heap.size) (hgm : 2 < bs) (d : UInt8) (s : ByteArray) (hs : s.size ≤ 1048576)
    (hg : a.eval g = .func (.func 56) #[] #[.pointer (some ⟨bs + 1, 0, none⟩), .pointer (some ⟨bs, 0, none⟩), .pointer (some ⟨bs + 2, 0, none⟩)]) (hB : Boxes w bs d s)
    (I : List ByteArray → World → Prop) (Ix : Code → List ByteArray → World → Prop) (hI : OwnFrom w.heap.size I) (hIs : ∀ pre W v, I pre W → I pre (W.setCell ⟨bs, 0, none⟩ v)) (hIx : ∀ c, OwnFrom w.heap.size (Ix c)) (h0 : I [] w) (a₁ : ByteArray → Act)
    (hassign : ∀ (l : Nat) (x : ByteArray) (W : World) (K : Act → World → Prop), K (a₁ x) W →
      assign.wpIn (Fence.wide.inRound l) (n - 1 - 1) Tryd.prog (Exit.then K (fun _ _ _ => False)) { tmps := (ps.zip #[Value.string x]).foldl (fun t (p, v) => t.setIfInBounds p v) a.tmps, defers := [] } W)
    (hbody : ∀ (l : Nat) (pre : List ByteArray) (x : ByteArray) (W : World), I pre W → pre.length ≤ s.size → x.size ≤ s.size → w.heap.size ≤ W.heap.size → body.wpIn (Fence.wide.inRound l) (n - 1 - 1) Tryd.prog (ownPostK (Kp bs) I Ix (pre ++ [x]) W) (a₁ x) W)
    (hdone : ∀ (D : Nat) (xs : List ByteArray) (W : World), w.heap.size ≤ D → xs.map B = cutB d (B s) → I xs W → W.heap[D]? = some (.deferred (some [])) → Q .normal { a with defers := { target := .collected D, args := #[] } :: a.defers } W)
    (hstop : ∀ (D : Nat) (c : Code) (pre : List ByteArray) (x : ByteArray) (r : List (List UInt8)) (W : World), w.heap.size ≤ D → (pre ++ [x]).map B ++ r = cutB d (B s) → Ix c (pre ++ [x]) W → W.heap[D]? = some (.deferred (some [])) → c.wpIn Fence.wide n Tryd.prog Q { a with defers := { target := .collected D, args := #[] } :: a.defers } W) :
    (Code.rangeFunc g ps assign body).wpIn Fence.wide n Tryd.prog Q a w := by
  refine wpIn_rangeFunc fun fn hfn => ?_
  obtain ⟨rc, hrc⟩ : ∃ rc : LoopState → Option Code → Loop, rc = fun st pe => { state := st, pending := pe, fn, tmps := a.tmps, params := ps, assign, body, defers := w.heap.size } := ⟨_, rfl⟩
  obtain ⟨D, hD⟩ : ∃ D, w.heap.size = D := ⟨_, rfl⟩
  obtain ⟨V, hV⟩ : ∃ V, (w.alloc (.deferred (some []))).alloc (.loop (rc .ready none)) = V := ⟨_, rfl⟩
  have hRec : Rec V D (rc .ready none) := by
    rw [← hV, ← hD]
    refine ⟨?_, (Below.heap_alloc _ _ _ (by simp)).trans (World.alloc_heap_new w _)⟩
    have := World.alloc_heap_new (w.alloc (.deferred (some []))) (.loop (rc .ready none))
    rwa [World.size_alloc] at this
  have hI0 : I [] V := by rw [← hV]; exact hI.alloc _ (hI.alloc _ h0)
  have hBV : Boxes V bs d s := by rw [← hV]; exact (hB.alloc _).alloc _
  refine ⟨D + 1, [{ target := .collected D, args := #[] }], V, { target := .fn (.func 56) #[.pointer (some ⟨bs + 1, 0, none⟩), .pointer (some ⟨bs, 0, none⟩), .pointer (some ⟨bs + 2, 0, none⟩)], args := #[.func (.yield (D + 1)) #[] #[]] }, V, 56,
    #[.func (.yield (D + 1)) #[] #[], .pointer (some ⟨bs + 1, 0, none⟩), .pointer (some ⟨bs, 0, none⟩), .pointer (some ⟨bs + 2, 0, none⟩)], V, ?_, ?_, ?_, ?_, fun _ => by omega, ?_⟩
  · rw [← hV, hrc, ← hD]; exact run_enterLoop_outer _ _ _ _ _
  · simp only [resolve, hg]; simp [go_sem]
  · intro f' _; trivial
  · have eg : ∀ args w, (callFunc 56 args).run Tryd.prog w = .ok (.enter 56 args) w := enters_of Tryd.func56 (by kernel_rfl) rfl
    simp [invoke, go_sem, eg]
  · have hput : ∀ {pre : List ByteArray} {W : World} {r : Loop} (r' : Loop), I pre W → Rec W D r → I pre (W.putObj (D + 1) (.loop r')) := fun r' hi hr => hI.putObj _ hi (by omega) hr.l rfl
    refine (iter_in (n - 1) (by omega) (D + 1) bs hgm d s hs (fun pre W => I pre W ∧ Rec W D (rc .ready none)) (fun pre W => ∃ c, Ix c pre W ∧ Rec W D (rc .done (some c)))
      (fun pre W u hJ _ v => ⟨hIs _ _ _ hJ.1, hJ.2.others (KeepsOthers.setCell _ _ _)⟩) ?_ V hBV ⟨hI0, hRec⟩).mono ?_
    · rintro pre x W ⟨hi, hr⟩ hpl hxl
      have hlt : D + 1 < W.heap.size := (Array.getElem?_eq_some_iff.1 hr.l).1
      have hy := run_yield (P := Tryd.prog) (args := #[Value.string x]) hr.l (by rw [hrc]; exact hps.symm)
      rw [hrc] at hy
      refine ⟨fn, _, assign, body, hy, roundIn_of_wpIn hfn (hassign _ x W _ ⟨_, run_beginRound hr.l (by rw [hrc]), ?_⟩)⟩
      have hr2 := hr.turn { rc .ready none with state := .busy }
      have hk2 : Kp bs W (W.putObj (D + 1) (.loop { rc .ready none with state := .busy })) := Kp.put hgm _ (by omega)
      refine wpIn_mono (hbody _ pre x _ (hput _ hi hr) hpl hxl (by simp; omega)) ?_
      have fin : ∀ (jump : Option Code) (W3 : World), KeepsOthers (W.putObj (D + 1) (.loop { rc .ready none with state := .busy })) W3 →
          (Instr.endRound (D + 1) jump).run Tryd.prog W3 = .ok (.bool jump.isNone) (W3.putObj (D + 1) (.loop (rc (if jump.isNone then .ready else .done) jump))) ∧
          Rec (W3.putObj (D + 1) (.loop (rc (if jump.isNone then .ready else .done) jump))) D (rc (if jump.isNone then .ready else .done) jump) ∧ Rec W3 D { rc .ready none with state := .busy } := fun jump W3 hk3 => by
        have hr3 := hr2.others hk3
        have he := run_endRound (P := Tryd.prog) jump hr3.l
        rw [hrc] at he hr3 ⊢
        exact ⟨he, hr3.turn _, hr3⟩
      have leave : ∀ (c : Code) (W3 : World), KeepsOthers (W.putObj (D + 1) (.loop { rc .ready none with state := .busy })) W3 → Ix c (pre ++ [x]) W3 → Ix c (pre ++ [x]) (W3.putObj (D + 1) (.loop (rc .done (some c)))) := fun c W3 hk3 hi3 =>
        (hIx c).putObj _ hi3 (by omega) (hr2.others hk3).l rfl
      rintro e a3 W3 hp
      cases e with
      | normal =>
        obtain ⟨hk3, hkp3, hi3⟩ := hp
        obtain ⟨he, hr4, hr3⟩ := fin none W3 hk3
        exact ⟨_, _, he, .inl ⟨rfl, ⟨hput _ hi3 hr3, hr4⟩, (hk2.t hkp3).t (Kp.put hgm _ (by omega))⟩⟩
      | ret =>
        obtain ⟨he, hr4, hr3⟩ := fin (some .ret) W3 hp.1
        exact ⟨_, _, he, .inr ⟨rfl, .ret, leave _ _ hp.1 hp.2, hr4⟩⟩
      | exit id =>
        obtain ⟨he, hr4, hr3⟩ := fin (some (.exit id)) W3 hp.1
        exact ⟨_, _, he, .inr ⟨rfl, .exit id, leave _ _ hp.1 hp.2, hr4⟩⟩
      | goto t =>
        obtain ⟨he, hr4, hr3⟩ := fin (some (.goto t)) W3 hp.1
        exact ⟨_, _, he, .inr ⟨rfl, .goto t, leave _ _ hp.1 hp.2, hr4⟩⟩
      | panic ch => exact hp.elim
      | outgrown => exact hp.elim
    · rintro e W2 ⟨⟨v, rfl⟩, (⟨xs, hS, hi, hr⟩ | ⟨pre, x, r, hS, c, hi, hr⟩)⟩
      · exact ⟨none, _, by have := run_endLoop (P := Tryd.prog) hr.l (by rw [hrc]; simp); rw [hrc] at this; exact this, hdone D xs _ (by omega) hS (hput _ hi hr) ((World.putObj_heap_other (by omega)).trans hr.d)⟩
      · exact ⟨some c, _, by have := run_endLoop (P := Tryd.prog) hr.l (by rw [hrc]; simp); rw [hrc] at this; exact this, hstop D c pre x r _ (by omega) hS ((hIx c).putObj _ hi (by omega) hr.l rfl) ((World.putObj_heap_other (by omega)).trans hr.d)⟩
end Go.Proofs.YtpoaoicehoihdaaDoor
