/- word.Lines: a contract. -/
import Derived.Test.YtpoaoicehoihdaaDoorSeqRange
import Derived.Test.YtpoaoicehoihdaaDoorRefLines
import Derived.Maps.AppendAt
import Derived.Maps.OwnIn
import Derived.RangeFuncBox
namespace Go.Proofs.YtpoaoicehoihdaaDoor
open Go.RowKit Go.Shelf
attribute [local go_sem] Oper.semAt_some

theorem splitseq_any (s : ByteArray) (d : UInt8) (w : World) : Calls Tryd.prog 32 #[.string s, .string ⟨#[d]⟩] w fun e w' =>
    e = .returned (.func (.func 56) #[] #[.pointer (some ⟨w.heap.size + 1, 0, none⟩), .pointer (some ⟨w.heap.size, 0, none⟩), .pointer (some ⟨w.heap.size + 2, 0, none⟩)]) ∧
      w' = ((w.alloc (.cells #[.string s] 9)).alloc (.cells #[.string ⟨#[d]⟩] 9)).alloc (.cells #[.int .i64 0] 3) := by
  have h : ∀ k : Int, Calls Tryd.prog 47 #[.string s, .string ⟨#[d]⟩, .int .i64 k] w fun e w' =>
      e = .returned (.func (.func 56) #[] #[.pointer (some ⟨w.heap.size + 1, 0, none⟩), .pointer (some ⟨w.heap.size, 0, none⟩), .pointer (some ⟨w.heap.size + 2, 0, none⟩)]) ∧
        w' = ((w.alloc (.cells #[.string s] 9)).alloc (.cells #[.string ⟨#[d]⟩] 9)).alloc (.cells #[.int .i64 k] 3) := by
    intro k
    go_enter Tryd.func47, Tryd.ntmps47
    go_wp2
    go_ret
    exact ⟨rfl, rfl⟩
  go_enter Tryd.func32, Tryd.ntmps32
  go_wp2_with (go_at_call 47; refine (h 0).mono ?_; rintro e w' ⟨rfl, rfl⟩)
  go_ret
  exact ⟨rfl, rfl⟩

/-- lines of the call's own, all beyond n -/
structure GL (W : World) (n : Nat) (v : Value) (vs : List Value) (ls : List (List ByteArray)) : Prop where
  own : OwnLines W n 27 v vs ls
  far : ∀ u ∈ vs, ∀ b, u.ownBlock = some b → n ≤ b
theorem GL.nil (W : World) (n : Nat) : GL W n (.slice none 0 0) [] [] := ⟨OwnLines.nil _ _ _, by simp⟩
theorem GL.kept {W W' : World} {row : Option Nat} {n : Nat} {v : Value} {vs : List Value} {ls : List (List ByteArray)} (h : GL W n v vs ls) (hg : W.grownBy W' row)
    (hrow : ∀ r, row = some r → r < n ∨ ∃ o : Obj, W.heap[r]? = some o ∧ o.isCells = false) : GL W' n v vs ls := by
  refine ⟨⟨h.own.1, h.own.2.1.kept hg ?_, fun i u ws hu hw => ?_⟩, h.far⟩
  · rcases h.own.2.1.2 with ⟨rfl, _⟩ | ⟨g, cap, cur, rfl, hb, hgb, _⟩
    · exact .inl rfl
    · refine .inr fun e => ?_
      rcases hrow g (by simpa [Value.ownBlock] using e.symm) with h' | ⟨o, ho, hc⟩
      · omega
      · rw [hgb] at ho; cases ho; cases hc
  · obtain ⟨h1, h2⟩ := h.own.2.2 i u ws hu hw
    have hm : u ∈ vs := List.mem_of_getElem? hu
    refine ⟨⟨⟨h1.1.1, ?_⟩, h1.2⟩, fun b hb => ⟨Nat.lt_of_lt_of_le (h2 b hb).1 hg.size, (h2 b hb).2⟩⟩
    rcases h1.1.2 with h' | ⟨a, c, rfl, hc, hr⟩
    · exact .inl h'
    · refine .inr ⟨a, c, rfl, hc, fun hn => ?_⟩
      obtain ⟨b, o, rfl, hlt, hcell⟩ := hr hn
      refine ⟨b, o, rfl, Nat.lt_of_lt_of_le hlt hg.size, fun j x hx => hg.cell (hcell j x hx) fun e => ?_⟩
      rcases hrow b e.symm with h' | ⟨ob, ho, hc'⟩
      · have := h.far _ hm b rfl; omega
      · obtain ⟨o2, ho2, hc2⟩ := cells_of_cell (hcell j x hx)
        rw [ho] at ho2; cases ho2; rw [hc'] at hc2; cases hc2
theorem GL.below {W W' : World} {n : Nat} {v : Value} {vs : List Value} {ls : List (List ByteArray)} (h : GL W n v vs ls) (hb : Below W.heap.size W W') : GL W' n v vs ls := ⟨h.own.later hb, h.far⟩

/-- what the body of Lines' loop finds and leaves -/
structure LI (w : World) (n : Nat) (W : World) (pre : List ByteArray) (v : Value) (vs : List Value) (ls : List (List ByteArray)) : Prop where
  out : Boxed W (w.heap.size + 3) 36 v
  gl : GL W n v vs ls
  map : (pre.map B).map splitL = (LB ls).map some
  r0 : Boxed W w.heap.size 36 (.slice none 0 0)
  r1 : Boxed W (w.heap.size + 1) 3 (.int .i64 0)
  r2 : Boxed W (w.heap.size + 2) 24 (.int .i64 0)
  below : Below w.heap.size w W
theorem Boxed.box_kept {W W' : World} {row : Option Nat} {b : Nat} {t : TypeId} {u : Value} (h : Boxed W b t u) (hg : W.grownBy W' row) {n : Nat} (hrow : ∀ r, row = some r → (n ≤ r ∧ b < n) ∨ ∃ o : Obj, W.heap[r]? = some o ∧ o.isCells = false) : Boxed W' b t u :=
  h.kept hg fun e => by
    rcases hrow b e.symm with h' | ⟨o, ho, hc⟩
    · omega
    · rw [show W.heap[b]? = _ from h] at ho; cases ho; cases hc
theorem LI.kept {w : World} {n : Nat} {W W' : World} {row : Option Nat} {pre : List ByteArray} {v : Value} {vs : List Value} {ls : List (List ByteArray)} (h : LI w n W pre v vs ls) (hg : W.grownBy W' row)
    (hrow : ∀ r, row = some r → w.heap.size + 4 ≤ r ∧ (r < n ∨ ∃ o : Obj, W.heap[r]? = some o ∧ o.isCells = false)) : LI w n W' pre v vs ls := by
  have q : ∀ {b : Nat} {t : TypeId} {u : Value}, Boxed W b t u → b < w.heap.size + 4 → Boxed W' b t u := fun hb hlt => hb.kept hg fun e => by have := (hrow _ e.symm).1; omega
  exact ⟨q h.out (by omega), h.gl.kept hg fun r e => (hrow r e).2, h.map, q h.r0 (by omega), q h.r1 (by omega), q h.r2 (by omega), h.below.grown hg (by have := h.below.size; omega) fun r e => by have := (hrow r e).1; omega⟩

theorem map_len {pre : List ByteArray} {ls : List (List ByteArray)} (h : (pre.map B).map splitL = (LB ls).map some) : ls.length = pre.length := by
  have := congrArg List.length h
  simp only [List.length_map] at this
  exact this.symm
/-- behind the append and the store: all that a round owes -/
theorem fin_ok {w W w2 w4 : World} {Ix : Code → List ByteArray → World → Prop} {a : Act} (hg : 2 < w.heap.size) {pre : List ByteArray} {x : ByteArray} {v u : Value} {vs : List Value} {ls : List (List ByteArray)} {us : List ByteArray} {g cap : Nat}
    (hL : LI w (w.heap.size + 7) W pre v vs ls) (hL2 : LI w (w.heap.size + 7) w2 pre v vs ls) (hb2 : Below W.heap.size W w2) (hsz : w.heap.size + 7 ≤ W.heap.size) (hS : StrsAt w2 u us)
    (hub : ∀ b, u.ownBlock = some b → W.heap.size ≤ b ∧ b < w2.heap.size) (hm : ((pre ++ [x]).map B).map splitL = (LB (ls ++ [us])).map some)
    (hown : w4.ownsRow (w.heap.size + 7) 27 1 (.slice (some ⟨g, 0, none⟩) (ls.length + 1) cap) (ls.length + 1) (vs ++ [u])) (hgr : (w2.alloc (.cells #[u] 27)).grownBy w4 v.ownBlock)
    (hat : (Value.slice (some ⟨g, 0, none⟩) (ls.length + 1) cap).ownBlock = v.ownBlock ∨ (Value.slice (some ⟨g, 0, none⟩) (ls.length + 1) cap).ownBlock = some (w2.alloc (.cells #[u] 27)).heap.size) :
    ownPostK (Kp (w.heap.size + 1 + 1 + 1 + 1)) (fun pre W => ∃ v vs ls, LI w (w.heap.size + 7) W pre v vs ls) Ix (pre ++ [x]) W .normal a (w4.setCell ⟨w.heap.size + 1 + 1 + 1, 0, none⟩ (.slice (some ⟨g, 0, none⟩) (ls.length + 1) cap)) := by
  have hrow := hL2.gl.own.2.1
  have hA := (Below.refl w2.heap.size w2).alloc (Nat.le_refl _) (.cells #[u] 27)
  have far : ∀ b, v.ownBlock = some b → w.heap.size + 7 ≤ b := fun b hb => (hrow.lt b hb).1
  obtain ⟨_, hv2, _, hk, hbl⟩ := hL2.out.appended (by decide) (own_base hrow (Nat.le_add_right _ _)) hL2.below.size (Nat.le_add_right _ _) (own_base hown (Nat.le_add_right _ _)) hgr
  have hG4 : GL w4 (w.heap.size + 7) (.slice (some ⟨g, 0, none⟩) (ls.length + 1) cap) (vs ++ [u]) (ls ++ [us]) := by
    refine ⟨OwnLines.snoc (hL2.gl.own.later hA) (hS.later hA) (fun b hb => ⟨Nat.lt_of_lt_of_le (hub b hb).2 hA.size, fun e => ?_⟩) hown hgr (hat.imp id fun h => ⟨_, h, Nat.le_refl _⟩), fun y hy b hb => ?_⟩
    · have h1 := (hub b hb).1
      have h2 := (hL.gl.own.2.1.lt b e).2
      omega
    · rcases List.mem_append.1 hy with hy | hy
      · exact hL2.gl.far y hy b hb
      · rw [List.mem_singleton] at hy; subst hy
        have := (hub b hb).1; omega
  have hkept : ∀ {b : Nat} {t : TypeId} {z : Value}, Boxed w2 b t z → b < w.heap.size + 3 → Boxed (w4.setCell ⟨w.heap.size + 3, 0, none⟩ (.slice (some ⟨g, 0, none⟩) (ls.length + 1) cap)) b t z := fun h hlt =>
    ((h.alloc _).kept hgr (fun e => by have := far _ e.symm; omega)).other (by omega) _
  refine ⟨(KeepsOthers.of_grownBy (below_grown hb2 none) (fun j o e => by cases e)).trans hk, fun b hb => ?_, _, vs ++ [u], ls ++ [us], hv2, hG4.kept (grownBy_setCell' w4 _ _) (fun r e => .inl (by cases e; omega)), hm, hkept hL2.r0 (by omega), hkept hL2.r1 (by omega), hkept hL2.r2 (by omega), hL2.below.trans hbl⟩
  have hlt : b < W.heap.size := by rcases hb with rfl | hb <;> omega
  have h1 : w2.heap[b]? = W.heap[b]? := (below_grown hb2 none).block b hlt (by simp)
  have h2 : (w2.alloc (.cells #[u] 27)).heap[b]? = w2.heap[b]? := Below.heap_alloc _ _ _ (Nat.lt_of_lt_of_le hlt hb2.size)
  have h3 : w4.heap[b]? = (w2.alloc (.cells #[u] 27)).heap[b]? := hgr.block b (by have := hb2.size; simp; omega) (fun e => by have := far _ e.symm; rcases hb with rfl | hb <;> omega)
  exact (Below.heap_setCell _ _ _ _ (by rcases hb with rfl | hb <;> simp <;> omega)).trans (h3.trans (h2.trans h1))

/-- the three boxes of the results -/
structure S3 (w W Wf : World) (x0 x1 x2 : Value) : Prop where
  k : KeepsOthers W Wf
  r0 : Boxed Wf w.heap.size 36 x0
  r1 : Boxed Wf (w.heap.size + 1) 3 x1
  r2 : Boxed Wf (w.heap.size + 1 + 1) 24 x2
  b : Below w.heap.size w Wf
theorem S3.s0 {w W Wf : World} {x0 x1 x2 : Value} (h : S3 w W Wf x0 x1 x2) (v : Value) : S3 w W (Wf.setCell ⟨w.heap.size, 0, none⟩ v) v x1 x2 :=
  ⟨h.k.trans (KeepsOthers.setCell _ _ _), h.r0.set v, h.r1.other (by omega) v, h.r2.other (by omega) v, h.b.setCell (p := ⟨w.heap.size, 0, none⟩) (Nat.le_refl _) v⟩
theorem S3.s1 {w W Wf : World} {x0 x1 x2 : Value} (h : S3 w W Wf x0 x1 x2) (v : Value) : S3 w W (Wf.setCell ⟨w.heap.size + 1, 0, none⟩ v) x0 v x2 :=
  ⟨h.k.trans (KeepsOthers.setCell _ _ _), h.r0.other (by omega) v, h.r1.set v, h.r2.other (by omega) v, h.b.setCell (p := ⟨w.heap.size + 1, 0, none⟩) (Nat.le_add_right _ _) v⟩
theorem S3.s2 {w W Wf : World} {x0 x1 x2 : Value} (h : S3 w W Wf x0 x1 x2) (v : Value) : S3 w W (Wf.setCell ⟨w.heap.size + 1 + 1, 0, none⟩ v) x0 x1 v :=
  ⟨h.k.trans (KeepsOthers.setCell _ _ _), h.r0.other (by omega) v, h.r1.other (by omega) v, h.r2.set v, h.b.setCell (p := ⟨w.heap.size + 1 + 1, 0, none⟩) (Nat.le_trans (Nat.le_add_right _ 1) (Nat.le_add_right _ 1)) v⟩
theorem S3.dr {w W Wf : World} {x0 x1 x2 : Value} (h : S3 w W Wf x0 x1 x2) : S3 w W Wf.drew x0 x1 x2 := ⟨⟨h.k.size, h.k.same⟩, h.r0, h.r1, h.r2, h.b.drew⟩
theorem stop_ok {w W Wf : World} {I : List ByteArray → World → Prop} {a : Act} {pre : List ByteArray} {x : ByteArray} {ls : List (List ByteArray)} {bs : Nat} (hm : (pre.map B).map splitL = (LB ls).map some) (hx : splitL (B x) = none)
    (h : S3 w W Wf (.slice none 0 0) (.int .i64 (IntKind.i64.wrap ((ls.length : Int) + 1))) (.int .i64 2)) (hl : ls.length ≤ 1048576) :
    ownPostK (Kp bs) I (fun c pre W => c = .ret ∧ ∃ (pr : List ByteArray) (x : ByteArray) (ls : List (List ByteArray)), pre = pr ++ [x] ∧ (pr.map B).map splitL = (LB ls).map some ∧ splitL (B x) = none ∧
      Boxed W w.heap.size 36 (.slice none 0 0) ∧ Boxed W (w.heap.size + 1) 3 (.int .i64 (ls.length + 1)) ∧ Boxed W (w.heap.size + 2) 24 (.int .i64 2) ∧ Below w.heap.size w W) (pre ++ [x]) W .ret a Wf := by
  have hw : (Value.int .i64 (IntKind.i64.wrap ((ls.length : Int) + 1))) = .int .i64 ((ls.length : Int) + 1) := by
    rw [IntWalk.i64_in _ ⟨by omega, by omega⟩]
  have h1 := h.r1
  rw [hw] at h1
  exact ⟨h.k, rfl, pre, x, ls, rfl, hm, hx, h.r0, h1, h.r2, h.b⟩

set_option maxHeartbeats 1600000 in
set_option maxRecDepth 100000 in
theorem lines_any (s : ByteArray) (w : World) (hM : MaxAt w) (hg : 2 < w.heap.size) (hs : s.size ≤ 1048576) : Calls Tryd.prog 17 #[.string s] w (LinesPost s w) := by
  refine (callsIn_wide (n := 6)).1 ?_
  obtain ⟨i0, hi, hz0, hz1, hz2⟩ := info_parts info27
  refine callsIn_of_wp_marks Tryd.func17 rfl trivial ?_ rfl
  simp only [Tryd.ntmps17, List.size_toArray, List.length_cons, List.length_nil, Nat.reduceAdd, Nat.reduceSub, Array.replicate_succ, Array.replicate_zero, List.push_toArray, List.append_toArray, List.nil_append, List.cons_append]
  gi_wp2_with (refine ⟨trivial, ?_⟩; gi_at_call 32; refine (callsIn_wide.2 (splitseq_any s 10 _)).mono ?_; rintro e w' ⟨rfl, rfl⟩)
  have b0 := Boxed.new w 36 (.slice none 0 0)
  have b1 := Boxed.new (w.alloc (.cells #[.slice none 0 0] 36)) 3 (.int .i64 0)
  have b2 := Boxed.new ((w.alloc (.cells #[.slice none 0 0] 36)).alloc (.cells #[.int .i64 0] 3)) 24 (.int .i64 0)
  obtain ⟨w2, hw2⟩ : ∃ w2, ((w.alloc (.cells #[.slice none 0 0] 36)).alloc (.cells #[.int .i64 0] 3)).alloc (.cells #[.int .i64 0] 24) = w2 := ⟨_, rfl⟩
  have z2 : w2.heap.size = w.heap.size + 3 := by rw [← hw2]; simp
  have B2 : Below w.heap.size w w2 := by rw [← hw2]; exact (((Below.refl _ w).alloc (Nat.le_refl _) _).alloc (by simp) _).alloc (by simp; omega) _
  simp only [World.size_alloc] at b1 b2
  rw [hw2] at b2
  have b1' := b1.alloc (.cells #[.int .i64 0] 24)
  have b0' := (b0.alloc (.cells #[.int .i64 0] 3)).alloc (.cells #[.int .i64 0] 24)
  rw [hw2] at b0' b1'
  clear b0 b1
  rw [hw2]
  have b3 := Boxed.new w2 36 (.slice none 0 0)
  have b4 := Boxed.new (w2.alloc (.cells #[.slice none 0 0] 36)) 9 (.string s)
  have b5 := Boxed.new ((w2.alloc (.cells #[.slice none 0 0] 36)).alloc (.cells #[.string s] 9)) 9 (.string ⟨#[10]⟩)
  have b6 := Boxed.new (((w2.alloc (.cells #[.slice none 0 0] 36)).alloc (.cells #[.string s] 9)).alloc (.cells #[.string ⟨#[10]⟩] 9)) 3 (.int .i64 0)
  simp only [World.size_alloc, z2] at b3 b4 b5 b6
  have b5' := b5.alloc (.cells #[.int .i64 0] 3)
  have b4' := (b4.alloc (.cells #[.string ⟨#[10]⟩] 9)).alloc (.cells #[.int .i64 0] 3)
  have b3' := ((b3.alloc (.cells #[.string s] 9)).alloc (.cells #[.string ⟨#[10]⟩] 9)).alloc (.cells #[.int .i64 0] 3)
  have b2' := (((b2.alloc (.cells #[.slice none 0 0] 36)).alloc (.cells #[.string s] 9)).alloc (.cells #[.string ⟨#[10]⟩] 9)).alloc (.cells #[.int .i64 0] 3)
  have b1'' := (((b1'.alloc (.cells #[.slice none 0 0] 36)).alloc (.cells #[.string s] 9)).alloc (.cells #[.string ⟨#[10]⟩] 9)).alloc (.cells #[.int .i64 0] 3)
  have b0'' := (((b0'.alloc (.cells #[.slice none 0 0] 36)).alloc (.cells #[.string s] 9)).alloc (.cells #[.string ⟨#[10]⟩] 9)).alloc (.cells #[.int .i64 0] 3)
  have B6 : Below w.heap.size w ((((w2.alloc (.cells #[.slice none 0 0] 36)).alloc (.cells #[.string s] 9)).alloc (.cells #[.string ⟨#[10]⟩] 9)).alloc (.cells #[.int .i64 0] 3)) :=
    (((B2.alloc (by omega) _).alloc (by simp; omega) _).alloc (by simp; omega) _).alloc (by simp; omega) _
  obtain ⟨W0, hW0⟩ : ∃ W0, (((w2.alloc (.cells #[.slice none 0 0] 36)).alloc (.cells #[.string s] 9)).alloc (.cells #[.string ⟨#[10]⟩] 9)).alloc (.cells #[.int .i64 0] 3) = W0 := ⟨_, rfl⟩
  have z6 : W0.heap.size = w.heap.size + 7 := by rw [← hW0]; simp [z2]
  rw [hW0] at b6 b5' b4' b3' b2' b1'' b0'' B6
  rw [hW0]
  clear b3 b4 b5 b2 b1' b0' hw2 hW0 z2 B2
  have hBX : Boxes W0 (w.heap.size + 1 + 1 + 1 + 1) 10 s := ⟨b4'.cell, b4'.frozen, b5'.cell, b6.cell, hM.later B6⟩
  have hLI : LI w (w.heap.size + 7) W0 [] (.slice none 0 0) [] [] := ⟨b3', GL.nil _ _, rfl, b0'', b1'', b2', B6⟩
  clear b6 b5' b4' b3' b2' b1'' b0''
  refine wpIn_splitSeq rfl (by omega) (bs := w.heap.size + 1 + 1 + 1 + 1) (by omega) (by omega) 10 s hs rfl hBX
    (fun pre W => ∃ v vs ls, LI w (w.heap.size + 7) W pre v vs ls)
    (fun c pre W => c = .ret ∧ ∃ (pr : List ByteArray) (x : ByteArray) (ls : List (List ByteArray)), pre = pr ++ [x] ∧ (pr.map B).map splitL = (LB ls).map some ∧ splitL (B x) = none ∧
      Boxed W w.heap.size 36 (.slice none 0 0) ∧ Boxed W (w.heap.size + 1) 3 (.int .i64 (ls.length + 1)) ∧ Boxed W (w.heap.size + 2) 24 (.int .i64 2) ∧ Below w.heap.size w W)
    ?hI ?hIs ?hIx ⟨_, _, _, hLI⟩
    (fun x => { tmps := #[.string s, undef, .pointer (some ⟨w.heap.size, 0, none⟩), .pointer (some ⟨w.heap.size + 1, 0, none⟩), .pointer (some ⟨w.heap.size + 1 + 1, 0, none⟩), .pointer (some ⟨w.heap.size + 1 + 1 + 1, 0, none⟩), .string x, undef, undef, .string s,
      .func (.func 56) #[] #[.pointer (some ⟨w.heap.size + 1 + 1 + 1 + 1 + 1, 0, none⟩), .pointer (some ⟨w.heap.size + 1 + 1 + 1 + 1, 0, none⟩), .pointer (some ⟨w.heap.size + 1 + 1 + 1 + 1 + 2, 0, none⟩)], .string x,
      undef, undef, undef, undef, undef, undef, undef, undef, undef, undef, undef, undef, undef, undef, undef, undef], defers := [] }) ?assign ?body ?done ?stop
  case hI =>
    rintro pre W W' row ⟨v, vs, ls, h⟩ hgr hrow
    exact ⟨v, vs, ls, h.kept hgr fun r e => ⟨by have := (hrow r e).1; omega, .inr (hrow r e).2⟩⟩
  case hIs =>
    rintro pre W u ⟨v, vs, ls, h⟩
    exact ⟨v, vs, ls, h.kept (grownBy_setCell' W _ u) fun r e => by cases e; exact ⟨by omega, .inl (by omega)⟩⟩
  case hIx =>
    rintro c pre W W' row ⟨rfl, pr, x, ls, h1, h2, h3, h4, h5, h6, h7⟩ hgr hrow
    have q : ∀ {b : Nat} {t : TypeId} {u : Value}, Boxed W b t u → b < w.heap.size + 4 → Boxed W' b t u := fun hb hlt => hb.kept hgr fun e => by have := (hrow _ e.symm).1; omega
    exact ⟨rfl, pr, x, ls, h1, h2, h3, q h4 (by omega), q h5 (by omega), q h6 (by omega), h7.grown hgr (by have := h7.size; omega) fun r e => by have := (hrow r e).1; omega⟩
  case assign =>
    intro l x W K hK
    gi_wp2
    exact hK
  case body =>
    rintro l pre x W ⟨v, vs, ls, hL⟩ hpl hxl hsz
    have sp := split_calls x W (by omega)
    have hlen : ls.length ≤ s.size := by rw [map_len hL.map]; exact hpl
    have hsz' : w.heap.size + 7 ≤ W.heap.size := by omega
    gi_wp2_with fail
    refine ⟨trivial, ?_⟩
    refine (CallsIn.inRound l (callsIn_wide.2 sp)).mono ?_
    rintro e w2 (⟨v2, us, rfl, h2, hv2, hb2⟩ | ⟨rfl, h2, hb2⟩)
    · have hL2 := hL.kept (below_grown hb2 none) (fun r e => by cases e)
      have hS : StrsAt w2 v2 us := StrsAt.own hv2 (by have := splitL_len h2; rw [List.length_map, len_B] at this; omega)
      have hub : ∀ b, v2.ownBlock = some b → W.heap.size ≤ b ∧ b < w2.heap.size := hv2.lt
      obtain ⟨a2, c2, rfl, hc2, _⟩ := hS.shape
      have hmap : ((pre ++ [x]).map B).map splitL = (LB (ls ++ [us])).map some := by
        rw [List.map_append, List.map_singleton]; exact refLines.map_snoc hL.map h2
      have hrow := hL2.gl.own.2.1
      have HL := Lib.hid hL
      have HL2 := Lib.hid hL2
      have HS := Lib.hid hS
      have HUB := Lib.hid hub
      have HM := Lib.hid hmap
      have hsz2 := hb2.size
      have c3 : w2.cell? ⟨w.heap.size + 1 + 1 + 1, 0, none⟩ = some v := hL2.out.cell
      clear hL hL2 hS hub hmap h2 hv2 sp
      gi_wp2_with (gi_at_builtin; refine wpListIn_append_own_at _ rfl _ _ 36 rfl (w.heap.size + 7) 27 i0 (.slice none 0 0) 1 24 Tryd.underlying36 hi hz0 hz1 hz2 rfl (by decide) _ _ _ rfl (hrow.alloc _) ⟨w2.heap.size, 0, none⟩ 1 1 [.slice a2 us.length c2] rfl rfl (cell_one_new _ _ _) (by simp [Value.oneCell']) (by unfold maxLen; omega) (by omega) (by simp; omega) ?_; intro v' w4 hown4 hg4 _ hat4; obtain ⟨g', cap', rfl⟩ := ownsRow_succ hown4; have hb1 := (HL2.out.out.alloc (.cells #[.slice a2 us.length c2] 27)).kept hg4 (HL2.out.out.not_row (by decide) hrow); have hc1 : w4.cell? ⟨w.heap.size + 1 + 1 + 1, 0, none⟩ = some v := hb1.cell; have hf1 : w4.frozen? ⟨w.heap.size + 1 + 1 + 1, 0, none⟩ = false := hb1.frozen)
      exact fin_ok hg HL.out HL2.out hb2 hsz' HS.out HUB.out HM.out hown4 hg4 hat4
    · have hL2 := hL.kept (below_grown hb2 none) (fun r e => by cases e)
      obtain ⟨a5, c5, rfl, hc5, _⟩ := (RdAt.own hL.gl.own.2.1).shape
      have hmap := hL.map
      have hstop := h2
      have k3 : w2.cell? ⟨w.heap.size + 1 + 1 + 1, 0, none⟩ = some (.slice a5 ls.length c5) := hL2.out.cell
      have k0 := hL2.r0.cell
      have k1 := hL2.r1.cell
      have k2 : w2.cell? ⟨w.heap.size + 1 + 1, 0, none⟩ = some (.int .i64 0) := hL2.r2.cell
      have f0 := hL2.r0.frozen
      have f1 := hL2.r1.frozen
      have f2 : w2.frozen? ⟨w.heap.size + 1 + 1, 0, none⟩ = false := hL2.r2.frozen
      have hmo : Tryd.prog.follows Departure.mixedOrders = true := by kernel_rfl
      have hS : S3 w W w2.drew (.slice none 0 0) (.int .i64 0) (.int .i64 0) := S3.dr ⟨KeepsOthers.of_grownBy (below_grown hb2 none) (fun j o e => by cases e), hL2.r0, hL2.r1, hL2.r2, hL2.below⟩
      have hS' : S3 w W w2 (.slice none 0 0) (.int .i64 0) (.int .i64 0) := ⟨KeepsOthers.of_grownBy (below_grown hb2 none) (fun j o e => by cases e), hL2.r0, hL2.r1, hL2.r2, hL2.below⟩
      have HSS := Lib.hid hS
      have HSS' := Lib.hid hS'
      have HMP := Lib.hid hmap
      have HST := Lib.hid hstop
      clear hL hL2 sp hS hS' hmap hstop
      gi_wp2
      gi_region_o
      all_goals gi_wp2
      all_goals (refine stop_ok HMP.out HST.out ?_ (by omega))
      all_goals (repeat (first | exact HSS'.out | exact HSS.out | apply S3.s0 | apply S3.s1 | apply S3.s2 | apply S3.dr))
  case done =>
    rintro D xs W hD hxs ⟨v, vs, ls, hL⟩ hK
    obtain ⟨a5, c5, rfl, hc5, _⟩ := (RdAt.own hL.gl.own.2.1).shape
    have k3 : W.cell? ⟨w.heap.size + 1 + 1 + 1, 0, none⟩ = some (.slice a5 ls.length c5) := hL.out.cell
    have k0 := hL.r0.cell
    have k1 := hL.r1.cell
    have k2 : W.cell? ⟨w.heap.size + 1 + 1, 0, none⟩ = some (.int .i64 0) := hL.r2.cell
    have f0 := hL.r0.frozen
    have f1 := hL.r1.frozen
    have f2 : W.frozen? ⟨w.heap.size + 1 + 1, 0, none⟩ = false := hL.r2.frozen
    have HL := Lib.hid hL
    clear hL
    have hS : S3 w W _ (.slice a5 ls.length c5) (.int .i64 0) (.int .i64 0) := ((S3.mk (KeepsOthers.refl W) HL.out.r0 HL.out.r1 HL.out.r2 HL.out.below).s0 (.slice a5 ls.length c5)).s1 (.int .i64 0) |>.s2 (.int .i64 0)
    have hG := ((HL.out.gl.kept (grownBy_setCell' W w.heap.size (.slice a5 ls.length c5)) (fun r e => .inl (by cases e; omega))).kept (grownBy_setCell' _ (w.heap.size + 1) (.int .i64 0)) (fun r e => .inl (by cases e; omega))).kept (grownBy_setCell' _ (w.heap.size + 1 + 1) (.int .i64 0)) (fun r e => .inl (by cases e; omega))
    have hK' := hS.k.same D _ hK rfl
    have hlen : ls.length ≤ s.size + 1 := by
      rw [map_len HL.out.map]
      have h1 := congrArg List.length hxs
      rw [List.length_map] at h1
      have h2 := cutB_len 10 (B s)
      rw [len_B] at h2
      omega
    have HR : Hid (linesL (B s) = (LB ls, 0, 0)) := linesL_done hxs.symm HL.out.map
    have HS := Lib.hid hS
    have HG := Lib.hid hG
    clear hS hG
    gi_wp2
    refine ⟨by simp, .inl ⟨_, _, rfl, run_takeDeferred hK', ?_⟩⟩
    have q : ∀ {X : World} {b : Nat} {t : TypeId} {u : Value}, Boxed X b t u → b < w.heap.size + 4 → Boxed (X.putObj D (.deferred none)) b t u := fun {X} _ _ _ hb hlt => hb.kept (grownBy_putObj' X D (.deferred none)) fun e => by cases e; omega
    have e0 := (q HS.out.r0 (by omega)).cell
    have e1 := (q HS.out.r1 (by omega)).cell
    have e2 := (q HS.out.r2 (by omega)).cell
    refine ⟨.tuple #[.slice a5 ls.length c5, .int .i64 0, .int .i64 0], ?_, _, ls, by rw [HR.out], by rw [HR.out], (HG.out.kept (grownBy_putObj' _ D (.deferred none)) (fun r e => .inr (by cases e; exact ⟨_, hK', rfl⟩))).own.lines (by omega), hlen, HS.out.b.trans (belowK_b (w := w) (Nat.le_refl _) _ D _ _ (by omega) hK' rfl rfl)⟩
    simp [results, Tryd.f17, go_sem, e0, e1, e2]
  case stop =>
    rintro D c pre x r W hD hxs ⟨rfl, pr, x', ls, h1, h2, h3, h4, h5, h6, h7⟩ hK
    obtain ⟨e1, e2⟩ := List.append_inj' h1 rfl
    cases e2
    subst e1
    clear h1
    have HR : Hid (linesL (B s) = ([], (ls.length : Int) + 1, 2)) := by
      have := linesL_stop (l := B s) (ps := pre.map B) (x := B x) (r := r) (by rw [← hxs, List.map_append]; simp) h2 h3
      show _ = _
      rw [this, LB, List.length_map]
    gi_wp2
    refine ⟨by simp, .inl ⟨_, _, rfl, run_takeDeferred hK, ?_⟩⟩
    have q : ∀ {b : Nat} {t : TypeId} {u : Value}, Boxed W b t u → b < w.heap.size + 4 → Boxed (W.putObj D (.deferred none)) b t u := fun hb hlt => hb.kept (grownBy_putObj' _ D (.deferred none)) fun e => by cases e; omega
    have e0 := (q h4 (by omega)).cell
    have e1 := (q h5 (by omega)).cell
    have e2 := (q h6 (by omega)).cell
    refine ⟨.tuple #[.slice none 0 0, .int .i64 (ls.length + 1), .int .i64 2], ?_, _, [], by rw [HR.out], by rw [HR.out]; rfl, LinesAt.nil _, Nat.zero_le _, h7.trans (belowK_b (w := w) (Nat.le_refl _) _ D _ _ (by omega) hK rfl rfl)⟩
    simp [results, Tryd.f17, go_sem, e0, e1, e2]
end Go.Proofs.YtpoaoicehoihdaaDoor
