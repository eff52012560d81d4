/- (*strings.Replacer).build, where " and \ are put behind a \: a contract. -/
import Derived.Test.YtgbapkechngnmaaGreatMaB
import Derived.Deep.MidRow
import Derived.Laws.Tables
import Derived.Deep.AppendLies
import Derived.Lib.ConvBytes
import Derived.Deep.Upon
import Derived.OneCell
namespace Go.Proofs.YtgbapkechngnmaaGreat
open Go.RowKit

/-- the cells of a replacer of bytes: its 256 rows, and what is replaced -/
def bsC (tv : Value) : List Value := List.replicate 256 (.slice none 0 0) ++ [tv]
theorem bsC_len (tv : Value) : (bsC tv).length = 257 := by unfold bsC; rw [List.length_append, List.length_replicate]; rfl
theorem bsC_row (tv : Value) (j : Nat) (h : j < 256) : (bsC tv)[j]? = some (.slice none 0 0) := by
  unfold bsC
  rw [List.getElem?_append_left (by rw [List.length_replicate]; exact h), List.getElem?_replicate]
  simp [h]
theorem bsC_last (tv : Value) : (bsC tv)[256]? = some tv := by
  unfold bsC
  rw [List.getElem?_append_right (by rw [List.length_replicate]; exact Nat.le_refl _), List.length_replicate]
  rfl
theorem bsC_one (a : Option Addr) (n c : Nat) : ∀ y ∈ bsC (.slice a n c), y.oneCell' = true := by
  intro y hy
  unfold bsC at hy
  rcases List.mem_append.1 hy with hy | hy
  · rw [(List.mem_replicate.1 hy).2]; rfl
  · rw [List.mem_singleton.1 hy]; rfl
def zeroS : Array Value := (bsC (.slice none 0 0)).toArray
theorem zeroS_size : zeroS.size = 257 := by unfold zeroS; rw [List.size_toArray, bsC_len]
theorem zeroS_at (i : Nat) (h : i < 257) : zeroS[i]? = some (.slice none 0 0) := by
  unfold zeroS
  rw [List.getElem?_toArray]
  by_cases e : i < 256
  · exact bsC_row _ i e
  · obtain rfl : i = 256 := by omega
    exact bsC_last _
set_option maxRecDepth 100000 in
theorem bs_zero : (Tryz.prog.info? 175).map (fun i => (i.zero, i.size)) = some (some (.agg zeroS), 257) := by kernel_rfl
theorem bs_size : (Tryz.prog.info? 175).map (·.size) = some 257 := by
  have h := bs_zero
  cases hq : Tryz.prog.info? 175 with
  | none => rw [hq] at h; cases h
  | some i =>
    rw [hq] at h
    simp only [Option.map_some, Option.some.injEq, Prod.mk.injEq] at h ⊢
    exact h.2
set_option maxRecDepth 100000 in
theorem bs_built (a : Option Addr) (n c : Nat) : Tryz.prog.built 175 [(1, .slice a n c)] = some (bsC (.slice a n c)).toArray := by kernel_rfl
theorem bs_run_zero (w : World) : (zeroValue 175).run Tryz.prog w = .ok (.agg zeroS) w := by
  have h := bs_zero
  cases hq : Tryz.prog.info? 175 with
  | none => rw [hq] at h; cases h
  | some i =>
    rw [hq] at h
    simp only [Option.map_some, Option.some.injEq, Prod.mk.injEq] at h
    simp [zeroValue, typeInfo, hq, h.1]
section
variable {ops : Array Oper} {rest : List Oper} {o : Oper} {a : Act} {w : World} {Q : Exit → Act → World → Prop}
theorem wpList_allocS (hg : o.guard = none) (ho : o.op = .alloc 175) (dst : Option Tmp) (hdst : o.dst = dst) (N : Nat) (hN : w.heap.size = N)
    (h : wpList Tryz.prog ops Q rest (a.put dst (.pointer (some ⟨N, 0, none⟩))) (w.alloc (.cells zeroS 175))) : wpList Tryz.prog ops Q (o :: rest) a w := by
  subst hdst hN
  refine wpList_plain hg fun K hK => ?_
  unfold Oper.wp execOp
  simp only [ho, Sem.run_bind, Instr.alloc, newVar, newRow, bs_run_zero, run_newObj_alloc, Sem.run_pure, Result.andThen_ok, Value.cells]
  exact hK _ _ h
theorem wpList_buildS (hg : o.guard = none) (parts : Array (Nat × Operand)) (ho : o.op = .build 175 parts) (dst : Option Tmp) (hdst : o.dst = dst) (cells : Array Value)
    (hf : Tryz.prog.built 175 (parts.map fun (i, x) => (i, a.eval x)).toList = some cells)
    (h : wpList Tryz.prog ops Q rest (a.put dst (.agg cells)) w) : wpList Tryz.prog ops Q (o :: rest) a w := by
  subst hdst
  refine wpList_build hg 175 parts ho (by rw [hf]; rfl) ?_
  rw [hf]
  exact h
theorem wpList_storeS (hg : o.guard = none) (x y : Operand) (ho : o.op = .store 175 x y) (dst : Option Tmp) (hdst : o.dst = dst) (b i : Nat) (cs : List Value) (hx : a.eval x = .pointer (some ⟨b, i, none⟩)) (hy : a.eval y = .agg cs.toArray)
    (ht : w.there b i 257) (hl : cs.length = 257) (h1 : ∀ y ∈ cs, y.oneCell' = true)
    (h : wpList Tryz.prog ops Q rest (a.put dst undef) (w.setCells b i cs)) : wpList Tryz.prog ops Q (o :: rest) a w := by
  subst hdst
  refine wpList_store_mid hg 175 x y ho b i cs.toArray hx hy (by simpa [hl] using ht) (by simpa [hl] using bs_size) (all_oneCell_toArray h1) ?_
  simpa using h
end
theorem rowIs_setCells {b : Nat} {t : TypeId} {n : Nat} : ∀ (cs : List Value) (w : World) (f : Nat → Value) (o : Nat), w.rowIs b t n f → (w.setCells b o cs).rowIs b t n (fun j => if o ≤ j ∧ j < o + cs.length then cs.getD (j - o) undef else f j)
  | [], w, f, o, h => h.congr (fun j _ => by rw [if_neg (by simp)])
  | v :: r, w, f, o, h => by
    refine (rowIs_setCells r _ _ (o + 1) (h.set o v)).congr (fun j _ => ?_)
    by_cases h1 : j = o
    · subst h1
      rw [if_neg (by omega), if_pos rfl, if_pos (by simp)]
      simp
    · by_cases h2 : o + 1 ≤ j ∧ j < o + 1 + r.length
      · rw [if_pos h2, if_pos (by simp; omega)]
        obtain ⟨m, rfl⟩ : ∃ m, j = o + 1 + m := ⟨j - (o + 1), by omega⟩
        rw [show o + 1 + m - (o + 1) = m by omega, show o + 1 + m - o = m + 1 by omega]
        simp
      · rw [if_neg h2, if_neg h1, if_neg (by simp; omega)]
theorem block_alloc_lt (w : World) (o : Obj) {b : Nat} (h : b < w.heap.size) : (w.alloc o).heap[b]? = w.heap[b]? := (alloc_below w o).block b h
theorem bl_setCells {B b : Nat} {w : World} (hB : B ≤ b) : ∀ (cs : List Value) (o : Nat) {W : World}, Below B w W → Below B w (W.setCells b o cs)
  | [], _, _, h => h
  | v :: r, o, W, h => bl_setCells hB r (o + 1) (h.trans ((Below.refl B W).setCell (p := ⟨b, o, none⟩) hB v))
/-- what lies while a replacer is made, behind w: the block gb's cells, the row v of what is replaced -/
structure BldS (w W : World) (gb : Nat) (f : Nat → Value) (v : Value) (xs : List Value) (ks : List (Nat × Value × Value)) : Prop where
  row : W.rowIs gb 175 257 f
  own : W.ownsRow w.heap.size 9 1 v xs.length xs
  last : f 256 = v
  ne : ∀ k, v.ownBlock = some k → k ≠ gb
  bl : Below w.heap.size w W
  hb : w.heap.size ≤ gb
  kp : ∀ p ∈ ks, p.1 ≠ gb ∧ v.ownBlock ≠ some p.1 ∧ p.1 < W.heap.size ∧ W.cell? ⟨p.1, 0, none⟩ = some p.2.1 ∧ W.cell? ⟨p.1, 1, none⟩ = some p.2.2
theorem bld_new (w : World) : BldS w (((w.alloc (.cells (madeCells #[.string ⟨#[]⟩] 2) 9)).alloc (.cells zeroS 175)).setCells (w.heap.size + 1) 0 (bsC (.slice (some ⟨w.heap.size, 0, none⟩) 0 2))) (w.heap.size + 1)
    (fun j => if j = 256 then .slice (some ⟨w.heap.size, 0, none⟩) 0 2 else .slice none 0 0) (.slice (some ⟨w.heap.size, 0, none⟩) 0 2) [] [] := by
  have h0 : ((w.alloc (.cells (madeCells #[.string ⟨#[]⟩] 2) 9)).alloc (.cells zeroS 175)).rowIs (w.heap.size + 1) 175 257 (fun _ => .slice none 0 0) := by
    have := World.rowIs_alloc (w.alloc (.cells (madeCells #[.string ⟨#[]⟩] 2) 9)) zeroS 175 (fun _ => .slice none 0 0) (fun i hi => zeroS_at i (by rw [zeroS_size] at hi; exact hi))
    rw [zeroS_size, World.size_alloc] at this
    exact this
  have h1 := rowIs_setCells (bsC (.slice (some ⟨w.heap.size, 0, none⟩) 0 2)) _ _ 0 h0
  refine ⟨h1.congr (fun j hj => ?_), ?_, by simp, ?_, ?_, by omega, fun p hp => by cases hp⟩
  · rw [if_pos ⟨Nat.zero_le _, by rw [bsC_len]; omega⟩, Nat.sub_zero, List.getD_eq_getElem?_getD]
    by_cases e : j = 256
    · subst e; rw [bsC_last, if_pos rfl]; rfl
    · rw [bsC_row _ j (by omega), if_neg e]; rfl
  · refine ⟨rfl, .inr ⟨w.heap.size, 2, madeCells #[.string ⟨#[]⟩] 2, rfl, Nat.le_refl _, ?_, by simp, by unfold maxLen; decide, by simp [madeCells], rfl⟩⟩
    rw [World.heap_setCells_other _ _ _ _ (by rw [World.size_alloc, World.size_alloc]; omega) (by omega), block_alloc_lt _ _ (by rw [World.size_alloc]; omega)]
    exact heap_alloc_new _ _
  · intro k hk
    simp [Value.ownBlock] at hk
    omega
  · exact bl_setCells (by omega) _ _ ((alloc_below w _).trans ((alloc_below _ _).mono (by rw [World.size_alloc]; omega)))
theorem cell_farC {w : World} {b b' o o' : Nat} {v : Value} (h : b ≠ b') : (w.setCell ⟨b, o, none⟩ v).cell? ⟨b', o', none⟩ = w.cell? ⟨b', o', none⟩ := World.cell?_setCell_other _ _ _ _ (fun e => h (by have := congrArg Addr.block e; first | exact this | exact this.symm))
theorem BldS.app {w W Wb W2 : World} {gb t : Nat} {f : Nat → Value} {v v' x : Value} {xs : List Value} {ks : List (Nat × Value × Value)} (h : BldS w W gb f v xs ks) (hb : Below W.heap.size W Wb)
    (hown : W2.ownsRow w.heap.size 9 1 v' (xs.length + 1) (xs ++ [x])) (hgrow : Wb.grownBy W2 v.ownBlock) (hat : v.ownBlock = some t ∨ t = Wb.heap.size) (hv : v'.ownBlock = some t) :
    BldS w (W2.setCell ⟨gb, 256, none⟩ v') gb (fun j => if j = 256 then v' else f j) v' (xs ++ [x]) ks := by
  have hgl := h.row.lt
  have hne1 : some gb ≠ v.ownBlock := fun e => h.ne gb e.symm rfl
  have htg : t ≠ gb := by
    rcases hat with e | e
    · exact h.ne t e
    · have := hb.size; omega
  have hblk : ∀ k, k < W.heap.size → some k ≠ v.ownBlock → W2.heap[k]? = W.heap[k]? := fun k h1 h2 => (hgrow.block k (Nat.lt_of_lt_of_le h1 hb.size) h2).trans (hb.block k h1)
  refine ⟨(h.row.of_block (hblk gb hgl hne1)).set 256 v', ?_, by simp, ?_, ?_, h.hb, ?_⟩
  · rw [List.length_append]
    exact ownsRow_setCell_other hown (a := ⟨gb, 256, none⟩) (by rw [hv]; simp; exact htg) v'
  · intro k hk
    rw [hv] at hk
    obtain rfl : t = k := by simpa using hk
    exact htg
  · exact ((h.bl.trans (hb.mono h.bl.size)).grown hgrow (Nat.le_trans h.bl.size hb.size) (fun k hk => (h.own.lt k hk).1)).trans ((Below.refl _ _).setCell (p := ⟨gb, 256, none⟩) h.hb v')
  · intro p hp
    obtain ⟨h1, h2, h3, h4, h5⟩ := h.kp p hp
    have e := hblk p.1 h3 (fun e => h2 e.symm)
    refine ⟨h1, ?_, ?_, ?_, ?_⟩
    · rw [hv]
      rcases hat with q | q
      · rw [← q]; exact h2
      · simp; have := hb.size; omega
    · rw [World.size_setCell]; exact Nat.lt_of_lt_of_le h3 (Nat.le_trans hb.size hgrow.size)
    · rw [cell_farC (fun q => h1 q.symm)]
      exact (World.cell?_of_block (w := W) (a := ⟨p.1, 0, none⟩) e).trans h4
    · rw [cell_farC (fun q => h1 q.symm)]
      exact (World.cell?_of_block (w := W) (a := ⟨p.1, 1, none⟩) e).trans h5
theorem BldS.conv {w W : World} {gb o : Nat} {f : Nat → Value} {v : Value} {xs : List Value} {ks : List (Nat × Value × Value)} (h : BldS w W gb f v xs ks) (s : ByteArray) (hs : s.size = 2) (ho : o < 256) (c : Nat) :
    BldS w ((Lib.bytesWorld W 5 s).setCell ⟨gb, o, none⟩ (.slice (some ⟨W.heap.size, 0, none⟩) s.size c)) gb (fun j => if j = o then .slice (some ⟨W.heap.size, 0, none⟩) s.size c else f j) v xs
      ((W.heap.size, .int .u8 ((s.data.toList.getD 0 0).toNat), .int .u8 ((s.data.toList.getD 1 0).toNat)) :: ks) := by
  have hgl := h.row.lt
  have hB : Below W.heap.size W (Lib.bytesWorld W 5 s) := ⟨rfl, rfl, rfl, by rw [Lib.bytesWorld_size]; omega, fun k hk => Lib.bytesWorld_at_old W _ s k hk⟩
  refine ⟨(h.row.of_block (hB.block gb hgl)).set o _, ?_, by show (if 256 = o then _ else f 256) = v; rw [if_neg (by omega)]; exact h.last, h.ne, ?_, h.hb, ?_⟩
  · exact ownsRow_setCell_other (own_later h.own hB) (a := ⟨gb, o, none⟩) (fun e => h.ne gb e rfl) _
  · exact (h.bl.trans (hB.mono h.bl.size)).trans ((Below.refl _ _).setCell (p := ⟨gb, o, none⟩) h.hb _)
  · intro p hp
    rcases List.mem_cons.1 hp with rfl | hp
    · refine ⟨by simp; omega, fun e => by have := (h.own.lt _ e).2; simp at this, by rw [World.size_setCell, Lib.bytesWorld_size]; simp, ?_, ?_⟩
      · rw [cell_farC (by omega)]
        exact Lib.bytesWorld_cell W _ s 0 (by omega)
      · rw [cell_farC (by omega)]
        exact Lib.bytesWorld_cell W _ s 1 (by omega)
    · obtain ⟨h1, h2, h3, h4, h5⟩ := h.kp p hp
      refine ⟨h1, h2, ?_, ?_, ?_⟩
      · rw [World.size_setCell, Lib.bytesWorld_size]; omega
      · rw [cell_farC (fun q => h1 q.symm)]
        exact (hB.cell (p := ⟨p.1, 0, none⟩) h3).trans h4
      · rw [cell_farC (fun q => h1 q.symm)]
        exact (hB.cell (p := ⟨p.1, 1, none⟩) h3).trans h5
/-- a replacer that was made and not yet used: block b -/
structure RepN (w : World) (b g c : Nat) (m : Int) : Prop where
  bk : w.heap[b]? = some (.cells #[.int .u32 0, .int .i32 m, .int .u32 0, .nilIface, .slice (some ⟨g, 0, none⟩) 4 c] 110 (0, 0))
  s0 : w.cell? ⟨g, 0, none⟩ = some (.string ⟨#[34]⟩)
  s1 : w.cell? ⟨g, 1, none⟩ = some (.string ⟨#[92, 34]⟩)
  s2 : w.cell? ⟨g, 2, none⟩ = some (.string ⟨#[92]⟩)
  s3 : w.cell? ⟨g, 3, none⟩ = some (.string ⟨#[92, 92]⟩)
theorem info_strC : (Tryz.prog.info? 9).map (fun i => (i.zero, i.size, i.bytes)) = some (some (.string ⟨#[]⟩), 1, 16) := by kernel_rfl
theorem thereS (w : World) : (w.alloc (.cells zeroS 175)).there w.heap.size 0 257 := fun j hj => by
  have hb := heap_alloc_new w (.cells zeroS 175)
  refine ⟨?_, ?_⟩
  rotate_left
  · have := World.rowIs_alloc w zeroS 175 (fun _ => .slice none 0 0) (fun i hi => zeroS_at i (by rw [zeroS_size] at hi; exact hi))
    exact this.frozen _
  rw [cell_of_row _ _ _ _ _ _ hb, Nat.zero_add, zeroS_at j hj]
  rfl
set_option maxHeartbeats 3200000 in
set_option maxRecDepth 100000 in
theorem rbuild_any (w : World) (b g c : Nat) (m : Int) (h : RepN w b g c m) :
    Calls Tryz.prog 94 #[.pointer (some ⟨b, 0, none⟩)] w fun e w' => ∃ gb a0 c0 a1 c1 t ct, e = .returned (.iface 176 (.pointer (some ⟨gb, 0, none⟩))) ∧ BsR w' gb a0 c0 a1 c1 t ct ∧ Below w.heap.size w w' := by
  have c4 : w.cell? ⟨b, 4, none⟩ = some (.slice (some ⟨g, 0, none⟩) 4 c) := by rw [cell_of_row _ _ _ _ _ _ h.bk]; rfl
  have s0 := h.s0
  have s1 := h.s1
  have s2 := h.s2
  have s3 := h.s3
  have HH := Lib.hid h
  have HN := Lib.hid (bld_new w)
  obtain ⟨i0, hi, hz0, hz1, hz2⟩ := info_parts info_strC
  have hmk := run_makeSlice (P := Tryz.prog) w 49 9 i0 (.string ⟨#[]⟩) Tryz.underlying49 hi hz0 .i64 .i64 0 2 (by omega) (by omega) (by rw [hz1]; decide) (by rw [hz2]; decide) (by omega)
  rw [hz1] at hmk
  simp only [Value.cells, Int.toNat_zero, Int.reduceToNat, Nat.mul_one] at hmk
  clear h
  go_enter Tryz.func94, Tryz.ntmps94
  go_upto_region 6 with fail
  refine wp_loop_rounds 3 ?_
  rw [rounds_succ]
  go_wp2_with fail
  rw [rounds_succ]
  go_wp2_with fail
  rw [rounds_succ]
  go_upto_region 27 with (first
    | (with_reducible refine wpList_allocS rfl rfl _ rfl (w.heap.size + 1) (World.size_alloc _ _) ?_)
    | ((with_reducible refine wpList_buildS rfl _ rfl _ rfl (bsC (.slice (some ⟨w.heap.size, 0, none⟩) 0 2)).toArray ?hf ?_); (case hf => exact bs_built _ _ _))
    | ((with_reducible refine wpList_storeS rfl _ _ rfl _ rfl (w.heap.size + 1) 0 (bsC (.slice (some ⟨w.heap.size, 0, none⟩) 0 2)) ?hx ?hy ?ht (bsC_len _) (bsC_one _ _ _) ?_); (case hx => rfl); (case hy => rfl); (case ht => exact (by have := thereS (w.alloc (.cells (madeCells #[.string ⟨#[]⟩] 2) 9)); rwa [World.size_alloc] at this))))
  refine wp_forgetB (fun W => ∃ v, BldS w W (w.heap.size + 1) (fun j => if j = 256 then v else .slice none 0 0) v [] [] ∧ v = .slice (some ⟨w.heap.size, 0, none⟩) 0 2) ⟨_, HN.out, rfl⟩ (fun w1 hw1 => ?_)
  obtain ⟨v1, hB1, hv1⟩ := hw1
  subst hv1
  have e92 : ((⟨#[92]⟩ : ByteArray)[0]'(by decide)).toNat = 92 := rfl
  have e34 : ((⟨#[34]⟩ : ByteArray)[0]'(by decide)).toNat = 34 := rfl
  have qn : ∀ (w : World) (a : Option Addr) (n c n' c' : Nat), (binOp .eql 43 (.slice a n c) (.slice none n' c')).run Tryz.prog w = .ok (.bool a.isNone) w := fun w a n c n' c' => Lib.run_eql_slice_nil w _ _ a n c n' c' Tryz.underlying43
  have hcv := fun W => Lib.run_convert_string_bytes (P := Tryz.prog) W 9 43 5
  have hone : ∀ x, ∀ u ∈ ([.string x] : List Value), u.oneCell' = true := by
    intro x u hu; simp at hu; subst hu; rfl
  clear c4 hmk HN
  go_upto_region 28 with fail
  refine wp_loop_rounds 3 ?_
  have hk1 := hB1.bl
  have q01 := keep_cell s2 hk1 (cell_blt s2)
  have q11 := keep_cell s3 hk1 (cell_blt s3)
  have cn1 : w1.cell? ⟨w.heap.size + 1, 92, none⟩ = some (.slice none 0 0) := hB1.row.cell (i := 92) (by omega)
  have ct1 : w1.cell? ⟨w.heap.size + 1, 256, none⟩ = some (.slice (some ⟨w.heap.size, 0, none⟩) 0 2) := by rw [hB1.row.cell (i := 256) (by omega), hB1.last]
  have hown1 := (hB1.own.alloc (.cells #[.int .u8 92] 5)).alloc (.cells #[.string ⟨#[92]⟩] 9)
  have hbb1 := (alloc_below w1 (.cells #[.int .u8 92] 5)).trans ((alloc_below _ (.cells #[.string ⟨#[92]⟩] 9)).mono (by rw [World.size_alloc]; omega))
  have hsz1 : ((w1.alloc (.cells #[.int .u8 92] 5)).alloc (.cells #[.string ⟨#[92]⟩] 9)).heap.size = w1.heap.size + 2 := by rw [World.size_alloc, World.size_alloc]
  have hnb1 : ((w1.alloc (.cells #[.int .u8 92] 5)).alloc (.cells #[.string ⟨#[92]⟩] 9)).heap[w1.heap.size + 1]? = some (.cells #[.string ⟨#[92]⟩] 9 (0, 0)) := by
    have := heap_alloc_new (w1.alloc (.cells #[.int .u8 92] 5)) (.cells #[.string ⟨#[92]⟩] 9)
    rwa [World.size_alloc] at this
  have hst1 : (convert 43 9 (.slice (some ⟨w1.heap.size, 0, none⟩) 1 1)).run Tryz.prog (w1.alloc (.cells #[.int .u8 92] 5)) = .ok (.string ⟨#[92]⟩) (w1.alloc (.cells #[.int .u8 92] 5)) :=
    run_convert_bytes_back (P := Tryz.prog) (w1.alloc (.cells #[.int .u8 92] 5)) 43 9 5 ⟨w1.heap.size, 0, none⟩ 1 [92] Tryz.underlying43 Tryz.underlying5 Tryz.underlying9 (fun j hj => by
      obtain rfl : j = 0 := by simp at hj; omega
      rw [Addr.add_lit, cell_of_row _ _ _ _ _ _ (heap_alloc_new _ _)]
      rfl)
  have HB1 := Lib.hid hB1
  have HBB1 := Lib.hid hbb1
  have HNB1 := Lib.hid hnb1
  have hbase1 : w.heap.size ≤ ((w1.alloc (.cells #[.int .u8 92] 5)).alloc (.cells #[.string ⟨#[92]⟩] 9)).heap.size := Nat.le_trans hk1.size hbb1.size
  clear hB1 hk1 hbb1 hnb1
  rw [rounds_succ]
  go_upto_region 34 with (at_builtin; (refine wpList_append_lies _ rfl (.tmp 119) (.tmp 123) 49 rfl w.heap.size 9 i0 (.string ⟨#[]⟩) 1 16 Tryz.underlying49 hi hz0 hz1 hz2 rfl (by decide) _ 0 [] rfl hown1 ⟨w1.heap.size + 1, 0, none⟩ 1 1 [.string ⟨#[92]⟩] rfl rfl (World.news_of_block HNB1.out) (hone _) (by decide) (by decide) (by decide) hbase1 (w1.heap.size + 2) hsz1 ?_); intro t1 p1 W1 hown' hgrow hat hlt; have hr' := HB1.out.row.of_block ((hgrow.block _ (Nat.lt_of_lt_of_le HB1.out.row.lt HBB1.out.size) (fun e => HB1.out.ne _ e.symm rfl)).trans (HBB1.out.block _ HB1.out.row.lt)); have HB' := Lib.hid (HB1.out.app (x := .string ⟨#[92]⟩) HBB1.out hown' hgrow (by rw [hsz1]; exact hat) rfl); have cp := hr'.cell (i := 256) (by omega); have fp := hr'.frozen 256; clear hown' hgrow hat hlt hr' hown1 hbase1 hsz1 hst1 HNB1 HBB1 HB1 ct1 q01)
  refine wp_forgetB (fun W => BldS w W (w.heap.size + 1) _ _ _ _) HB'.out (fun x1 hx1 => ?_)
  have hrb1 := hx1.row.of_block (Lib.bytesWorld_at_old x1 5 ⟨#[92, 92]⟩ _ hx1.row.lt)
  have cm1 := hrb1.cell (i := 92) (by omega)
  have fm1 := hrb1.frozen 92
  have q21 := keep_cell s3 hx1.bl (cell_blt s3)
  have HX1 := Lib.hid hx1
  clear HB' cp fp hrb1 hx1 cn1 q11
  go_upto_region 29 with fail
  refine wp_forgetB (fun W => BldS w W (w.heap.size + 1) _ _ _ _) (HX1.out.conv (o := 92) ⟨#[92, 92]⟩ rfl (by omega) _) (fun w2 hB2 => ?_)
  clear HX1 cm1 fm1 q21
  go_wp2_with fail
  have hk2 := hB2.bl
  have q02 := keep_cell s0 hk2 (cell_blt s0)
  have q12 := keep_cell s1 hk2 (cell_blt s1)
  have cn2 : w2.cell? ⟨w.heap.size + 1, 34, none⟩ = some (.slice none 0 0) := hB2.row.cell (i := 34) (by omega)
  have ct2 : w2.cell? ⟨w.heap.size + 1, 256, none⟩ = some (.slice (some ⟨t1, 0, none⟩) 1 p1) := by rw [hB2.row.cell (i := 256) (by omega), hB2.last]
  have hown2 := (hB2.own.alloc (.cells #[.int .u8 34] 5)).alloc (.cells #[.string ⟨#[34]⟩] 9)
  have hbb2 := (alloc_below w2 (.cells #[.int .u8 34] 5)).trans ((alloc_below _ (.cells #[.string ⟨#[34]⟩] 9)).mono (by rw [World.size_alloc]; omega))
  have hsz2 : ((w2.alloc (.cells #[.int .u8 34] 5)).alloc (.cells #[.string ⟨#[34]⟩] 9)).heap.size = w2.heap.size + 2 := by rw [World.size_alloc, World.size_alloc]
  have hnb2 : ((w2.alloc (.cells #[.int .u8 34] 5)).alloc (.cells #[.string ⟨#[34]⟩] 9)).heap[w2.heap.size + 1]? = some (.cells #[.string ⟨#[34]⟩] 9 (0, 0)) := by
    have := heap_alloc_new (w2.alloc (.cells #[.int .u8 34] 5)) (.cells #[.string ⟨#[34]⟩] 9)
    rwa [World.size_alloc] at this
  have hst2 : (convert 43 9 (.slice (some ⟨w2.heap.size, 0, none⟩) 1 1)).run Tryz.prog (w2.alloc (.cells #[.int .u8 34] 5)) = .ok (.string ⟨#[34]⟩) (w2.alloc (.cells #[.int .u8 34] 5)) :=
    run_convert_bytes_back (P := Tryz.prog) (w2.alloc (.cells #[.int .u8 34] 5)) 43 9 5 ⟨w2.heap.size, 0, none⟩ 1 [34] Tryz.underlying43 Tryz.underlying5 Tryz.underlying9 (fun j hj => by
      obtain rfl : j = 0 := by simp at hj; omega
      rw [Addr.add_lit, cell_of_row _ _ _ _ _ _ (heap_alloc_new _ _)]
      rfl)
  have HB2 := Lib.hid hB2
  have HBB2 := Lib.hid hbb2
  have HNB2 := Lib.hid hnb2
  have hbase2 : w.heap.size ≤ ((w2.alloc (.cells #[.int .u8 34] 5)).alloc (.cells #[.string ⟨#[34]⟩] 9)).heap.size := Nat.le_trans hk2.size hbb2.size
  clear hB2 hk2 hbb2 hnb2
  rw [rounds_succ]
  go_upto_region 34 with (at_builtin; (refine wpList_append_lies _ rfl (.tmp 119) (.tmp 123) 49 rfl w.heap.size 9 i0 (.string ⟨#[]⟩) 1 16 Tryz.underlying49 hi hz0 hz1 hz2 rfl (by decide) _ 1 [.string ⟨#[92]⟩] rfl hown2 ⟨w2.heap.size + 1, 0, none⟩ 1 1 [.string ⟨#[34]⟩] rfl rfl (World.news_of_block HNB2.out) (hone _) (by decide) (by decide) (by decide) hbase2 (w2.heap.size + 2) hsz2 ?_); intro t2 p2 W2 hown' hgrow hat hlt; have hr' := HB2.out.row.of_block ((hgrow.block _ (Nat.lt_of_lt_of_le HB2.out.row.lt HBB2.out.size) (fun e => HB2.out.ne _ e.symm rfl)).trans (HBB2.out.block _ HB2.out.row.lt)); have HB' := Lib.hid (HB2.out.app (x := .string ⟨#[34]⟩) HBB2.out hown' hgrow (by rw [hsz2]; exact hat) rfl); have cp := hr'.cell (i := 256) (by omega); have fp := hr'.frozen 256; clear hown' hgrow hat hlt hr' hown2 hbase2 hsz2 hst2 HNB2 HBB2 HB2 ct2 q02)
  refine wp_forgetB (fun W => BldS w W (w.heap.size + 1) _ _ _ _) HB'.out (fun x2 hx2 => ?_)
  have hrb2 := hx2.row.of_block (Lib.bytesWorld_at_old x2 5 ⟨#[92, 34]⟩ _ hx2.row.lt)
  have cm2 := hrb2.cell (i := 34) (by omega)
  have fm2 := hrb2.frozen 34
  have q22 := keep_cell s1 hx2.bl (cell_blt s1)
  have HX2 := Lib.hid hx2
  clear HB' cp fp hrb2 hx2 cn2 q12
  go_upto_region 29 with fail
  refine wp_forgetB (fun W => BldS w W (w.heap.size + 1) _ _ _ _) (HX2.out.conv (o := 34) ⟨#[92, 34]⟩ rfl (by omega) _) (fun w3 hB3 => ?_)
  clear HX2 cm2 fm2 q22
  go_wp2_with fail
  have HB3 := Lib.hid hB3
  clear hB3
  rw [rounds_succ]
  go_wp2_with fail
  go_ret
  have hB := HB3.out
  obtain ⟨_, _, _, k4, k5⟩ := hB.kp _ (List.mem_cons_self)
  obtain ⟨_, _, _, k6, k7⟩ := hB.kp _ (List.mem_cons_of_mem _ List.mem_cons_self)
  have ho := hB.own
  have ht := RdAt.own ho
  refine ⟨w.heap.size + 1, x2.heap.size, grownCap x2 2 0 5, x1.heap.size, grownCap x1 2 0 5, t2, p2, rfl, ⟨?_, k4, k5, ?_, k6, k7, ?_, ?_, ?_, ?_⟩, hB.bl⟩
  · exact hB.row.cell (i := 34) (by omega)
  · exact hB.row.cell (i := 92) (by omega)
  · rw [hB.row.cell (i := 256) (by omega), hB.last]
  · exact ho.cellAt 0 (by decide)
  · exact ho.cellAt 1 (by decide)
  · intro j h1 h2 h3
    rw [hB.row.cell (i := j) (by omega), if_neg h2, if_neg (by omega), if_neg h3, if_neg (by omega), if_neg (by omega)]
end Go.Proofs.YtgbapkechngnmaaGreat
