/- strings.Builder: WriteByte, with a frame that keeps one block more: a contract. -/
import Derived.Test.YtlepnnbgecneeaaPatA
import Derived.Test.YtlepnnbgecneeaaPatW
namespace Go.Proofs.Ytlepnnbgecneeaa
open Go.RowKit

/-- a builder whose buffer is another block than k0 -/
def BA (b k0 : Nat) (bs : List Value) (w : World) : Prop := ∃ p v, w.heap[b]? = some (.cells #[p, v] 62 (0, 0)) ∧ (p = .pointer none ∨ p = .pointer (some ⟨b, 0, none⟩)) ∧ w.ownsRow b 5 1 v bs.length bs ∧ v.ownBlock ≠ some b ∧ v.ownBlock ≠ some k0
theorem BA.is {b k0 : Nat} {bs : List Value} {w : World} (h : BA b k0 bs w) : Lib.IsBuilder 62 5 b b bs w := by
  obtain ⟨p, v, h1, rfl | rfl, h3, h4, _⟩ := h
  · exact .inl ⟨Nat.le_refl _, v, h1, h3, h4⟩
  · exact .inr ⟨Nat.le_refl _, v, h1, h3, h4⟩
theorem BA.below {b k0 : Nat} {bs : List Value} {w w' : World} (h : BA b k0 bs w) (hb : Below w.heap.size w w') : BA b k0 bs w' := by
  obtain ⟨p, v, h1, h2, h3, h4, h5⟩ := h
  exact ⟨p, v, (hb.block b (Array.getElem?_eq_some_iff.1 h1).1).trans h1, h2, ownsRow_below h3 hb, h4, h5⟩
set_option maxHeartbeats 1000000 in
set_option maxRecDepth 100000 in
theorem copyCheck2 (b : Nat) (w : World) (p v : Value) (h : w.heap[b]? = some (.cells #[p, v] 62 (0, 0))) (hp : p = .pointer none ∨ p = .pointer (some ⟨b, 0, none⟩)) :
    Calls Try.prog 44 #[.pointer (some ⟨b, 0, none⟩)] w fun e w' => e = .returned (.tuple #[]) ∧ (w' = w ∧ p = .pointer (some ⟨b, 0, none⟩) ∨ w' = w.setCell ⟨b, 0, none⟩ (.pointer (some ⟨b, 0, none⟩))) := by
  obtain ⟨j, hj, hjs⟩ := Option.map_eq_some_iff.1 Try.Builder_Extra_169.sizeBuilder
  have h0 : w.cell? ⟨b, 0, none⟩ = some p := by rw [Lib.cell_of_heap h]; rfl
  have hsh : w.shape? b = some (62, 2) := by simp [World.shape?, h]
  have hfz : w.frozen? ⟨b, 0, none⟩ = false := Lib.frozen_of_heap h 0
  clear h
  rcases hp with rfl | rfl
  · go_enter Try.func44, Try.ntmps44
    go_wp2
    rw [Lib.run_to_unsafe w ⟨b, 0, none⟩ Try.underlying60 Try.underlying101 hj (by rw [hjs]; decide) hsh (Nat.zero_lt_succ 1)]
    simp only [Result.andThen]
    rw [Oper.upon_value]
    go_wp2
    rw [run_callFunc_extern Try.func55 (by kernel_rfl) (by kernel_rfl) (by kernel_rfl) (e := Extern.AbiNoEscape.same) (by kernel_rfl)]
    rw [Lib.run_noEscape]
    simp only [Result.andThen]
    rw [Oper.upon_value]
    go_wp2
    rw [Lib.run_from_unsafe w ⟨b, 0, none⟩ Try.underlying101 Try.underlying60 hj hsh Try.Builder_Extra_169.liesBuilder]
    simp only [Result.andThen]
    rw [Oper.upon_value]
    go_wp2
    go_end0
    exact ⟨rfl, .inr rfl⟩
  · clear hsh hfz
    go_enter Try.func44, Try.ntmps44
    go_wp2
    rw [Lib.run_neq_ptr_same w _ Try.underlying60 hj]
    go_wp2
    go_end0
    exact ⟨rfl, .inl ⟨rfl, trivial⟩⟩
set_option maxHeartbeats 2000000 in
set_option maxRecDepth 100000 in
theorem wbyte2_is (b k0 : Nat) (bs : List Value) (c : Int) (w : World) (h : BA b k0 bs w) (hk : k0 < w.heap.size) (hkb : k0 ≠ b) (hlen : bs.length + 1 ≤ 1000000) :
    Calls Try.prog 28 #[.pointer (some ⟨b, 0, none⟩), .int .u8 c] w fun e w' => e = .returned .nilIface ∧ BA b k0 (bs ++ [.int .u8 c]) w' ∧ Below b w w' ∧ w'.heap[k0]? = w.heap[k0]? := by
  obtain ⟨i0, hi, hz0, hz1, hz2⟩ := info_parts info_u8
  obtain ⟨p, v, h1, h2, h3, h4, h5⟩ := h
  have hcc := copyCheck2 b w p v h1 h2
  have hlt0 : b < w.heap.size := (Array.getElem?_eq_some_iff.1 h1).1
  have hfin : ∀ w1, (w1 = w ∧ p = .pointer (some ⟨b, 0, none⟩) ∨ w1 = w.setCell ⟨b, 0, none⟩ (.pointer (some ⟨b, 0, none⟩))) → w1.heap[b]? = some (.cells #[.pointer (some ⟨b, 0, none⟩), v] 62 (0, 0)) ∧ w1.ownsRow b 5 1 v bs.length bs ∧ Below b w w1 ∧ w1.heap[k0]? = w.heap[k0]? := by
    rintro w1 (⟨rfl, rfl⟩ | rfl)
    · exact ⟨h1, h3, Below.refl _ _, rfl⟩
    · refine ⟨by simp [World.setCell, Array.getElem?_modify, h1], ownsRow_blk h3 (fun k e => Below.heap_setCell w ⟨b, 0, none⟩ _ k (fun e2 => h4 (by rw [e, e2]))), (Below.refl b w).setCell (p := ⟨b, 0, none⟩) (Nat.le_refl _) _, Below.heap_setCell w ⟨b, 0, none⟩ _ k0 hkb⟩
  have HF := Lib.hid hfin
  clear hfin h1 h2 h3
  go_enter Try.func28, Try.ntmps28
  go_wp2_with fail
  refine hcc.mono ?_
  rintro e w1 ⟨rfl, hw⟩
  obtain ⟨hbk, hown, hb1, hk1⟩ := HF.out w1 hw
  have hlt : b < w1.heap.size := (Array.getElem?_eq_some_iff.1 hbk).1
  have hk1l : k0 < w1.heap.size := Nat.lt_of_lt_of_le hk hb1.size
  have c0 : w1.cell? ⟨b, 0, none⟩ = some (.pointer (some ⟨b, 0, none⟩)) := by rw [Lib.cell_of_heap hbk]; rfl
  have c1 : w1.cell? ⟨b, 1, none⟩ = some v := by rw [Lib.cell_of_heap hbk]; rfl
  have hown1 := hown.alloc (.cells #[.int .u8 c] 5)
  have HNB : Hid ((w1.alloc (.cells #[.int .u8 c] 5)).heap[w1.heap.size]? = some (.cells #[.int .u8 c] 5 (0, 0))) := Lib.hid (heap_alloc_new _ _)
  have hone : ∀ u ∈ ([.int .u8 c] : List Value), u.oneCell' = true := by
    intro u hu; simp at hu; subst hu; rfl
  have hsz1 : (w1.alloc (.cells #[.int .u8 c] 5)).heap.size = w1.heap.size + 1 := World.size_alloc _ _
  have hbase : b ≤ (w1.alloc (.cells #[.int .u8 c] 5)).heap.size := by omega
  have HB1 := Lib.hid (hb1.alloc (by omega) (.cells #[.int .u8 c] 5))
  have hkeep : ∀ w2, (w1.alloc (.cells #[.int .u8 c] 5)).grownBy w2 v.ownBlock → w2.heap[b]? = some (.cells #[.pointer (some ⟨b, 0, none⟩), v] 62 (0, 0)) ∧ w2.heap[k0]? = w.heap[k0]? := fun w2 hg => by
    constructor
    · rw [hg.block b (by omega) (fun e => h4 e.symm), Lib.alloc_old w1 _ b hlt]; exact hbk
    · rw [hg.block k0 (by omega) (fun e => h5 e.symm), Lib.alloc_old w1 _ k0 hk1l]; exact hk1
  have HK := Lib.hid hkeep
  clear hcc hbk hb1 hown hkeep hk1 hw HF
  go_wp2_with (at_builtin; (refine wpList_append_lies _ rfl (.tmp 11) (.tmp 13) 46 rfl b 5 i0 (.int .u8 0) 1 1 Try.underlying46 hi hz0 hz1 hz2 rfl (by decide) _ bs.length bs rfl hown1 ⟨w1.heap.size, 0, none⟩ 1 1 [.int .u8 c] rfl rfl (World.news_of_block HNB.out) hone (by decide) (by unfold maxLen; omega) (by omega) hbase (w1.heap.size + 1) hsz1 ?_); intro g cap w2 hown' hgrow hat hlt2; have H2 := Lib.hid (HK.out w2 hgrow); have d0 : w2.cell? ⟨b, 0, none⟩ = some (.pointer (some ⟨b, 0, none⟩)) := (by rw [Lib.cell_of_heap H2.out.1]; rfl); have d1 : w2.cell? ⟨b, 1, none⟩ = some v := (by rw [Lib.cell_of_heap H2.out.1]; rfl); have f1 : w2.frozen? ⟨b, 1, none⟩ = false := Lib.frozen_of_heap H2.out.1 1; have HB2 := Lib.hid (HB1.out.grown hgrow hbase (fun k hk => (hown1.lt k hk).1)); have HO := Lib.hid hown'; have HAT := Lib.hid hat; clear hown' hgrow hat hown1)
  go_ret
  have hgb : g ≠ b := fun e => by
    rcases HAT.out with h | h
    · exact h4 ((show v.ownBlock = some g from h).trans (by rw [e]))
    · omega
  have hgk : g ≠ k0 := fun e => by
    rcases HAT.out with h | h
    · exact h5 ((show v.ownBlock = some g from h).trans (by rw [e]))
    · omega
  refine ⟨rfl, ⟨.pointer (some ⟨b, 0, none⟩), .slice (some ⟨g, 0, none⟩) (bs.length + 1) cap, ?_, .inr rfl, ?_, fun e => hgb (Option.some.inj e), fun e => hgk (Option.some.inj e)⟩, HB2.out.setCell (p := ⟨b, 1, none⟩) (Nat.le_refl _) _, (Below.heap_setCell w2 ⟨b, 1, none⟩ _ k0 hkb).trans H2.out.2⟩
  · simp [World.setCell, Array.getElem?_modify, H2.out.1]
  · refine ownsRow_blk (by simpa using HO.out) (fun k e => Below.heap_setCell w2 ⟨b, 1, none⟩ _ k (fun e2 => hgb ((Option.some.inj e).trans e2)))
end Go.Proofs.Ytlepnnbgecneeaa
