/- strings.Builder: WriteByte: a contract. -/
import Derived.Test.YtlepnnbgecneeaaShelf
import Derived.Test.YtlepnnbgecneeaaPatD
import Derived.Lib.Builder
import Derived.Lib.OthersKept
import Derived.Lib.Walk
import Derived.Laws.Externs
import Derived.Deep.AppendLies
namespace Go.Proofs.Ytlepnnbgecneeaa
open Go.RowKit

set_option maxHeartbeats 1000000 in
set_option maxRecDepth 100000 in
theorem copyCheck_is (B b : Nat) (bs : List Value) (w : World) (h : Lib.IsBuilder 62 5 B b bs w) :
    Calls Try.prog 44 #[.pointer (some ⟨b, 0, none⟩)] w fun e w' => e = .returned (.tuple #[]) ∧ Lib.BuilderAt 62 5 B b (.pointer (some ⟨b, 0, none⟩)) bs w' ∧ Below B w w' ∧ Lib.OthersKept 5 (some b) w w' := by
  obtain ⟨j, hj, hjs⟩ := Option.map_eq_some_iff.1 Try.Builder_Extra_169.sizeBuilder
  rcases h with h | h
  · have h0 := h.cell0
    have hsh := h.shape
    have hfz := h.frozen0
    have hfin : ∀ w', w' = w.setCell ⟨b, 0, none⟩ (.pointer (some ⟨b, 0, none⟩)) → Lib.BuilderAt 62 5 B b (.pointer (some ⟨b, 0, none⟩)) bs w' ∧ Below B w w' ∧ Lib.OthersKept 5 (some b) w w' := by
      rintro w' rfl
      exact ⟨h.used _, (Below.refl B w).setCell (p := ⟨b, 0, none⟩) h.1 _, (Lib.OthersKept.refl _ _ _).setCell ⟨b, 0, none⟩ rfl _⟩
    have HF := Lib.hid hfin
    clear hfin h
    go_enter Try.func44, Try.ntmps44
    go_wp2
    rw [Lib.run_to_unsafe w ⟨b, 0, none⟩ Try.underlying60 Try.underlying101 hj (by rw [hjs]; decide) hsh (Nat.zero_lt_succ 1)]
    simp only [Result.andThen]
    rw [Oper.upon_value]
    go_wp2
    rw [run_callFunc_extern Try.func55 (by kernel_rfl) (by kernel_rfl) (by kernel_rfl) (e := Extern.AbiNoEscape.same) (by kernel_rfl)]
    rw [Lib.run_noEscape]
    simp only [Result.andThen]
    rw [Oper.upon_value]
    go_wp2
    rw [Lib.run_from_unsafe w ⟨b, 0, none⟩ Try.underlying101 Try.underlying60 hj hsh Try.Builder_Extra_169.liesBuilder]
    simp only [Result.andThen]
    rw [Oper.upon_value]
    go_wp2
    go_end0
    exact ⟨rfl, HF.out _ rfl⟩
  · have h0 := h.cell0
    have H := Lib.hid h
    clear h
    go_enter Try.func44, Try.ntmps44
    go_wp2
    rw [Lib.run_neq_ptr_same w _ Try.underlying60 hj]
    go_wp2
    go_end0
    exact ⟨rfl, H.out, Below.refl B _, Lib.OthersKept.refl _ _ _⟩
theorem own_u8 {w : World} {base n : Nat} {v : Value} {xs : List Value} (h : w.ownsRow base 5 1 v n xs) {k : Nat} (e : v.ownBlock = some k) : ∃ c fz, w.heap[k]? = some (.cells c 5 fz) := by
  rcases h.2 with ⟨rfl, _⟩ | ⟨g, cap, cur, rfl, _, hg, _⟩
  · simp [Value.ownBlock] at e
  · simp only [Value.ownBlock, Option.some.injEq] at e
    subst e
    exact ⟨_, _, hg⟩
theorem info_u8 : (Try.prog.info? 5).map (fun i => (i.zero, i.size, i.bytes)) = some (some (.int .u8 0), 1, 1) := by kernel_rfl
set_option maxHeartbeats 2000000 in
set_option maxRecDepth 100000 in
theorem wbyte_is (B b : Nat) (bs : List Value) (c : Int) (w : World) (h : Lib.IsBuilder 62 5 B b bs w) (hlen : bs.length + 1 ≤ 1000000) :
    Calls Try.prog 28 #[.pointer (some ⟨b, 0, none⟩), .int .u8 c] w fun e w' => e = .returned .nilIface ∧ Lib.IsBuilder 62 5 B b (bs ++ [.int .u8 c]) w' ∧ Below B w w' ∧ Lib.OthersKept 5 (some b) w w' := by
  obtain ⟨i0, hi, hz0, hz1, hz2⟩ := info_parts info_u8
  have hcc := copyCheck_is B b bs w h
  clear h
  go_enter Try.func28, Try.ntmps28
  go_wp2_with fail
  refine hcc.mono ?_
  rintro e w1 ⟨rfl, h1, hb1, hk1⟩
  obtain ⟨hB, v, hbk, hown, hne⟩ := h1
  have hlt : b < w1.heap.size := (Array.getElem?_eq_some_iff.1 hbk).1
  have hBw1 : B ≤ w1.heap.size := by omega
  have c0 : w1.cell? ⟨b, 0, none⟩ = some (.pointer (some ⟨b, 0, none⟩)) := by rw [Lib.cell_of_heap hbk]; rfl
  have c1 : w1.cell? ⟨b, 1, none⟩ = some v := by rw [Lib.cell_of_heap hbk]; rfl
  have hown1 := hown.alloc (.cells #[.int .u8 c] 5)
  have hnb : (w1.alloc (.cells #[.int .u8 c] 5)).heap[w1.heap.size]? = some (.cells #[.int .u8 c] 5 (0, 0)) := heap_alloc_new _ _
  have HNB := Lib.hid hnb
  have hone : ∀ u ∈ ([.int .u8 c] : List Value), u.oneCell' = true := by
    intro u hu; simp at hu; subst hu; rfl
  have hsz1 : (w1.alloc (.cells #[.int .u8 c] 5)).heap.size = w1.heap.size + 1 := World.size_alloc _ _
  have hbase : B ≤ (w1.alloc (.cells #[.int .u8 c] 5)).heap.size := by omega
  have hb1a := hb1.alloc hBw1 (.cells #[.int .u8 c] 5)
  have hbka : (w1.alloc (.cells #[.int .u8 c] 5)).heap[b]? = some (.cells #[.pointer (some ⟨b, 0, none⟩), v] 62 (0, 0)) := by rw [Lib.alloc_old w1 _ b hlt]; exact hbk
  have HBK := Lib.hid hbka
  have HK1 := Lib.hid (hk1.alloc (.cells #[.int .u8 c] 5))
  have hub := fun k (e : v.ownBlock = some k) => own_u8 hown1 e
  have HUB := Lib.hid hub
  clear hk1 hub
  have HB1 := Lib.hid hb1a
  have hkeep : ∀ w2, (w1.alloc (.cells #[.int .u8 c] 5)).grownBy w2 v.ownBlock → w2.heap[b]? = some (.cells #[.pointer (some ⟨b, 0, none⟩), v] 62 (0, 0)) := fun w2 hg => by
    rw [hg.block b (by omega) (fun e => hne e.symm)]
    exact hbka
  have HK := Lib.hid hkeep
  clear hcc hnb hbk hbka hb1a hb1 hown hkeep HBK
  go_wp2_with (at_builtin; (refine wpList_append_lies _ rfl (.tmp 11) (.tmp 13) 46 rfl B 5 i0 (.int .u8 0) 1 1 Try.underlying46 hi hz0 hz1 hz2 rfl (by decide) _ bs.length bs rfl hown1 ⟨w1.heap.size, 0, none⟩ 1 1 [.int .u8 c] rfl rfl (World.news_of_block HNB.out) hone (by decide) (by unfold maxLen; omega) (by omega) hbase (w1.heap.size + 1) hsz1 ?_); intro g cap w2 hown' hgrow hat hlt2; have H2 := Lib.hid (HK.out w2 hgrow); have d0 : w2.cell? ⟨b, 0, none⟩ = some (.pointer (some ⟨b, 0, none⟩)) := (by rw [Lib.cell_of_heap H2.out]; rfl); have d1 : w2.cell? ⟨b, 1, none⟩ = some v := (by rw [Lib.cell_of_heap H2.out]; rfl); have f1 : w2.frozen? ⟨b, 1, none⟩ = false := Lib.frozen_of_heap H2.out 1; have HB2 := Lib.hid (HB1.out.grown hgrow hbase (fun k hk => (hown1.lt k hk).1)); have HO := Lib.hid hown'; have HK2 := Lib.hid (HK1.out.grown hgrow (fun k e => HUB.out k e)); clear hown' hgrow hat hown1)
  go_ret
  refine ⟨rfl, .inr ?_, HB2.out.setCell (p := ⟨b, 1, none⟩) hB _, HK2.out.setCell ⟨b, 1, none⟩ rfl _⟩
  exact Lib.BuilderAt.put (T := 62) (e := 5) hB H2.out (bs' := bs ++ [.int .u8 c]) (by simpa using HO.out) Try.Builder_Extra_169.neB5
end Go.Proofs.Ytlepnnbgecneeaa
