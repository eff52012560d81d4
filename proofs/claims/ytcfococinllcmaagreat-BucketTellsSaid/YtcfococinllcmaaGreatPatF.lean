/- pattern's step: a contract. -/
import Derived.Test.YtcfococinllcmaaGreatPatR
import Derived.Test.YtcfococinllcmaaGreatPatS
namespace Go.Proofs.YtcfococinllcmaaGreat
open Go.RowKit

/-! plain: one byte on -/
def goB (x : St) (c : Nat) : Bool := match x.set with
  | some f => f c
  | none => false
def go1 (sts : List St) (c k : Nat) : List Nat := match sts[k]? with
  | some x => if goB x c = true then [x.next] else []
  | none => []
def goN (sts : List St) (c : Nat) (l : List Nat) : List Nat := l.flatMap (go1 sts c)
theorem go1_len (sts : List St) (c k : Nat) : (go1 sts c k).length ≤ 1 := by
  unfold go1; split
  · split <;> simp
  · simp
theorem goN_len (sts : List St) (c : Nat) : ∀ l : List Nat, (goN sts c l).length ≤ l.length
  | [] => Nat.le_refl _
  | k :: l => by
    have := goN_len sts c l
    have h1 := go1_len sts c k
    unfold goN at this ⊢
    rw [List.flatMap_cons, List.length_append, List.length_cons]; omega
theorem goN_take (sts : List St) (c : Nat) {l : List Nat} {j : Nat} (hj : j < l.length) : goN sts c (l.take (j + 1)) = goN sts c (l.take j) ++ go1 sts c l[j] := by
  unfold goN
  rw [List.take_succ_eq_append_getElem hj, List.flatMap_append]; simp
theorem goN_lt {sts : List St} (h : SWf sts) {c k : Nat} {l : List Nat} (hk : k ∈ goN sts c l) : k < sts.length := by
  obtain ⟨j, _, h1⟩ := List.mem_flatMap.1 hk
  unfold go1 at h1
  split at h1
  · rename_i x hx
    split at h1
    · rw [List.mem_singleton.1 h1]; exact (h x (List.mem_of_getElem? hx)).2
    · cases h1
  · cases h1
theorem freeC_at (l : List Nat) (j : Nat) (h : j < l.length) : (freeC l)[j]? = some (.int .i64 (l[j] : Nat)) := by
  unfold freeC; rw [List.getElem?_map, List.getElem?_eq_getElem h]; rfl
theorem freeC_one (l : List Nat) : ∀ y ∈ freeC l, y.oneCell' = true := by
  intro y hy
  obtain ⟨q, _, rfl⟩ := List.mem_map.1 hy
  rfl
set_option maxHeartbeats 3200000 in
set_option maxRecDepth 100000 in
theorem step_is (w : World) (a : Nat) (s : ByteArray) (sts : List St) (st en : Nat) (l : List Nat) (v : Value) (c : Nat) (hc : c < 256) (hp : PatAt w a s sts st en) (hw : SWf sts) (hN : tot sts ≤ 100000) (hv : RdAt w v l.length 1 (freeC l)) (hl : ∀ j ∈ l, j < sts.length) (hll : l.length ≤ 1000000) :
    Calls Tryz.prog 159 #[.pointer (some ⟨a, 0, none⟩), v, .int .u8 c] w fun e w' => ∃ v' out, e = .returned v' ∧ w'.ownsRow w.heap.size 3 1 v' out.length (freeC out) ∧ Below w.heap.size w w' ∧ RisingN out ∧ ∀ k, k ∈ out ↔ Cl sts (goN sts c l) k := by
  have hNl : sts.length ≤ 100000 := Nat.le_trans (len_tot _) hN
  obtain ⟨sa, sn, sc, c1, _, _, _, halt, hst⟩ := hp.cells
  obtain ⟨i0, hi, hz0, hz1, hz2⟩ := info_parts info_intP
  have hreach : ∀ W v', Below w.heap.size w W → W.ownsRow w.heap.size 3 1 v' (goN sts c l).length (freeC (goN sts c l)) → Calls Tryz.prog 158 #[.pointer (some ⟨a, 0, none⟩), v'] W fun e w' => ∃ v' out, e = .returned v' ∧ w'.ownsRow W.heap.size 3 1 v' out.length (freeC out) ∧ Below W.heap.size W w' ∧ RisingN out ∧ ∀ k, k ∈ out ↔ Cl sts (goN sts c l) k :=
    fun W v' hb ho => reach_is W a s sts st en _ v' (hp.below hb) hw hN (RdAt.own ho) (fun j hj => goN_lt hw hj) (Nat.le_trans (goN_len sts c l) hll)
  obtain ⟨va, vc, rfl, hvc, hr⟩ := RdAt.shape hv
  have HW := Lib.hid hw
  have HST := Lib.hid hst
  have HR := Lib.hid hr
  have HL := Lib.hid hl
  have HRE := Lib.hid hreach
  clear hp hw hv hl hst hr hreach
  go_enter Tryz.func159, Tryz.ntmps159
  go_wp2
  go_loopw [7, 13] (fun vo vi wr => ∃ j : Nat, j ≤ l.length ∧ vi = .int .i64 j ∧ wr.ownsRow w.heap.size 3 1 vo (goN sts c (l.take j)).length (freeC (goN sts c (l.take j))) ∧ Below w.heap.size w wr) (fun _ vi _ => l.length - (intOf vi).toNat)
  case atStart => exact ⟨0, Nat.zero_le _, rfl, World.ownsRow_nil _ _ _ _, Below.refl _ _⟩
  case round =>
    obtain ⟨j, hj, rfl, hown, hb⟩ := hrel
    by_cases hjl : j < l.length
    · obtain ⟨b, o, rfl, hblt, hcell⟩ := HR.out (by omega)
      have hkc := hcell j _ (freeC_at l j hjl)
      have hk := HL.out _ (List.getElem_mem hjl)
      obtain ⟨k, hke⟩ : ∃ k, l[j] = k := ⟨_, rfl⟩
      rw [hke] at hkc hk
      obtain ⟨r, cap, pv, fv, hsv, hrl, q0, q1, q2, hptr, hfr⟩ := HST.out k hk
      simp only [Value.slice.injEq] at hsv
      obtain ⟨hsa, hsn, hsc⟩ := hsv
      subst hsa hsn hsc
      obtain ⟨fa, fc, rfl, _⟩ := own_shape hfr
      have hcw : wr.cell? ⟨b, o + j, none⟩ = some (.int .i64 k) := keep_cell hkc hb hblt
      have d1 := keep_cell c1 hb halt
      have d2 := keep_cell q0 hb hrl
      have d3 := keep_cell q1 hb hrl
      have d4 := keep_cell q2 hb hrl
      have hE : Hid (goN sts c (l.take (j + 1)) = goN sts c (l.take j) ++ if goB sts[k] c = true then [sts[k].next] else []) := Lib.hid (by
        rw [goN_take sts c hjl, hke]
        unfold go1
        rw [List.getElem?_eq_getElem hk])
      have hn0 : (goN sts c (l.take j)).length ≤ 1000000 := Nat.le_trans (goN_len sts c _) (by simp; omega)
      obtain ⟨nx, hnx⟩ : ∃ nx, sts[k].next = nx := ⟨_, rfl⟩
      obtain ⟨fn, hfn⟩ : ∃ fn, sts[k].free.length = fn := ⟨_, rfl⟩
      rw [hnx] at d3 hE
      rw [hfn] at d4
      have hk0 : (0 : Int) ≤ (k : Int) := by omega
      have hk1 : (k : Int) < (sts.length : Int) := by omega
      clear hcell hkc q0 q1 q2 hke
      cases hset : sts[k].set with
      | none =>
        have hpv : pv = .pointer none := by unfold PtrAt at hptr; rw [hset] at hptr; exact hptr
        subst hpv
        have hg : goB sts[k] c = false := by unfold goB; rw [hset]
        clear hptr hset
        rw [hg] at hE
        go_wp2
        refine ⟨⟨j + 1, by omega, by go_num, ?_, ?_⟩, by simp [intOf]; omega⟩
        · rw [hE.out]; simp only [Bool.false_eq_true, if_false, List.append_nil]; exact hown.alloc _
        · exact hb.alloc hb.size _
      | some f =>
        obtain ⟨kk, rfl, hS, _⟩ : ∃ kk, pv = .pointer (some ⟨kk, 0, none⟩) ∧ SetAt w kk f ∧ True := by unfold PtrAt at hptr; rw [hset] at hptr; exact hptr
        have hg : goB sts[k] c = f c := by unfold goB; rw [hset]
        clear hptr hset
        rw [hg] at hE
        go_upto_region 6 with fail
        have x0 := heap_alloc_new wr (.cells #[.pointer (some ⟨kk, 0, none⟩), .int .i64 nx, .slice fa fn fc] 231)
        have b1 : Below w.heap.size w (wr.alloc (.cells #[.pointer (some ⟨kk, 0, none⟩), .int .i64 nx, .slice fa fn fc] 231)) := hb.alloc hb.size _
        have S1 : SetAt (wr.alloc (.cells #[.pointer (some ⟨kk, 0, none⟩), .int .i64 nx, .slice fa fn fc] 231)) kk f := hS.blk (b1.block kk hS.lt)
        have o1 := hown.alloc (.cells #[.pointer (some ⟨kk, 0, none⟩), .int .i64 nx, .slice fa fn fc] 231)
        have hsz : wr.heap.size < (wr.alloc (.cells #[.pointer (some ⟨kk, 0, none⟩), .int .i64 nx, .slice fa fn fc] 231)).heap.size := by rw [World.size_alloc]; omega
        have e0 : (wr.alloc (.cells #[.pointer (some ⟨kk, 0, none⟩), .int .i64 nx, .slice fa fn fc] 231)).cell? ⟨wr.heap.size, 0, none⟩ = some (.pointer (some ⟨kk, 0, none⟩)) := by rw [cell_of_row _ _ _ _ _ _ x0]; rfl
        have e1 : (wr.alloc (.cells #[.pointer (some ⟨kk, 0, none⟩), .int .i64 nx, .slice fa fn fc] 231)).cell? ⟨wr.heap.size, 1, none⟩ = some (.int .i64 nx) := by rw [cell_of_row _ _ _ _ _ _ x0]; rfl
        generalize wr.alloc (.cells #[.pointer (some ⟨kk, 0, none⟩), .int .i64 nx, .slice fa fn fc] 231) = W at *
        have hk := has_is W kk f c S1 hc
        have hnw : (W.alloc (.cells #[.int .i64 nx] 3)).heap[W.heap.size]? = some (.cells #[.int .i64 nx] 3 (0, 0)) := heap_alloc_new _ _
        have HNW := Lib.hid hnw
        have o2 := o1.alloc (.cells #[.int .i64 nx] 3)
        have b2 := b1.alloc b1.size (.cells #[.int .i64 nx] 3)
        have hb2 : w.heap.size ≤ (W.alloc (.cells #[.int .i64 nx] 3)).heap.size := b2.size
        have hsz2 : (W.alloc (.cells #[.int .i64 nx] 3)).heap.size = W.heap.size + 1 := World.size_alloc _ _
        have hone : ∀ u ∈ ([.int .i64 nx] : List Value), u.oneCell' = true := by
          intro u hu; simp at hu; subst hu; rfl
        clear hnw
        go_wp2_with fail
        refine hk.mono ?_
        rintro e w' ⟨rfl, hww⟩
        obtain rfl := hww.symm
        cases hfc : f c with
        | false =>
          rw [hfc] at hE
          clear hk
          go_wp2
          refine ⟨⟨j + 1, by omega, by go_num, ?_, b1⟩, by simp [intOf]; omega⟩
          rw [hE.out]; simp only [Bool.false_eq_true, if_false, List.append_nil]; exact o1
        | true =>
          rw [hfc] at hE
          clear hk
          go_wp2_with (at_builtin; (refine wpList_append_lies _ rfl (.tmp 33) (.tmp 36) 32 rfl w.heap.size 3 i0 (.int .i64 0) 1 8 Tryz.underlying32 hi hz0 hz1 hz2 rfl (by decide) _ _ _ rfl o2 ⟨W.heap.size, 0, none⟩ 1 1 [.int .i64 nx] rfl rfl (World.news_of_block HNW.out) hone (by decide) (by unfold maxLen; omega) (by omega) hb2 (W.heap.size + 1) hsz2 ?_); intro go cp w2 hown2 hgrow2 hat2 hlt2)
          refine ⟨⟨j + 1, by omega, by go_num, ?_, b2.grown hgrow2 hb2 (fun m e => (o2.lt m e).1)⟩, by simp [intOf]; omega⟩
          rw [hE.out]; simp only [if_true, List.length_append, freeC_app]; exact hown2
    · obtain rfl : j = l.length := by omega
      rw [List.take_length] at hown
      have hk := HRE.out wr _ hb hown
      go_wp2_with fail
      refine hk.mono ?_
      rintro e w' ⟨v', out, rfl, h1, h2, h3, h4⟩
      go_wp2
      go_ret
      exact ⟨v', out, rfl, own_base h1 hb.size, hb.trans (h2.mono hb.size), h3, h4⟩
end Go.Proofs.YtcfococinllcmaaGreat
