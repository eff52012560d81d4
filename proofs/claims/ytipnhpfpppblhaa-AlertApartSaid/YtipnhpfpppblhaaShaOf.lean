/- digest.Of: a contract. -/
import Derived.Test.YtipnhpfpppblhaaShaNow
import Derived.Laws.Tables
import Derived.Great.Walk
namespace Go.Proofs.Ytipnhpfpppblhaa
open Go.RowKit

/-- the digest of bytes -/
def ofL (bs : List Int) : List Int := sumOut (blocksL startL bs (bs.length / 64)) (padL (bs.drop (64 * (bs.length / 64))) (padN (bs.drop (64 * (bs.length / 64))).length) bs.length)
theorem ofL_len (bs : List Int) : (ofL bs).length = 32 := outL_len _ _
theorem outL_byte (X : List Int) (k : Nat) : ByteL (outL X k) := by
  intro x hx
  simp only [outL, List.mem_map] at hx
  obtain ⟨j, _, rfl⟩ := hx
  unfold outAt
  omega
set_option maxHeartbeats 1600000 in
set_option maxRecDepth 100000 in
theorem of_any (bs : List Int) (v : Value) (w : World) (hb : ByAt w v bs) (hB : ByteL bs) (hv : ∀ p, v.ownBlock = some p → p < w.heap.size) (hl : bs.length ≤ 1000000000000) :
    Calls Try.prog 70 #[v] w fun e w' => e = .returned (.agg ((ofL bs).map V8).toArray) ∧ Below w.heap.size w w' := by
  have hb0 := alloc_below w (.cells (Array.replicate 32 (.int .u8 0)) 106)
  have hr0 := hb.later hb0
  have hR0 : (w.alloc (.cells (Array.replicate 32 (.int .u8 0)) 106)).heap[w.heap.size]? = some (.cells (Array.replicate 32 (.int .u8 0)) 106 (0, 0)) := heap_alloc_new _ _
  have hsz0 := Lib.hid (World.size_alloc w (.cells (Array.replicate 32 (.int .u8 0)) 106))
  have HR0 := Lib.hid hR0
  have HB := Lib.hid hB
  have HL := Lib.hid hl
  clear hb hR0 hB hl
  go_enter Try.func70, Try.ntmps70
  go_upto_region 1 with fail
  change Code.wp _ _ _ _ (w.alloc (.cells (Array.replicate 32 (.int .u8 0)) 106))
  generalize w.alloc (.cells (Array.replicate 32 (.int .u8 0)) 106) = w0 at *
  go_wp2_with fail
  refine (new_any _).mono ?_
  rintro e w1 ⟨p, rfl, hp, hS1, hb1⟩
  have hv1 : v.ownBlock ≠ some p := fun e => by have := hv p e; have := hsz0.out; omega
  have hadd := add_any startL [] bs 0 (.slice none 0 0) v p w0.heap.size w1 hS1 (World.ownsRow_nil _ _ _ _) (hr0.later hb1) HB.out hv1 hp hb1.size (by have := HL.out; simp; omega) (by have := HL.out; omega)
  go_wp2_with fail
  refine hadd.mono ?_
  rintro e w2 ⟨rv, k, rfl, hk, hS2, hr2, hb2⟩
  rw [List.nil_append] at hk hS2 hr2
  rw [Int.zero_add] at hS2
  have hlen : (bs.drop (64 * k)).length < 64 := by rw [List.length_drop]; omega
  have hnow := now_any (blocksL startL bs k) (bs.drop (64 * k)) bs.length rv p w2 hS2 hr2 (fun x hx => HB.out x (List.mem_of_mem_drop hx)) hlen
  clear hadd
  go_wp2_with fail
  refine hnow.mono ?_
  rintro e w3 ⟨rfl, hb3⟩
  subst hk
  have hE : (sumOut (blocksL startL bs (bs.length / 64)) (padL (bs.drop (64 * (bs.length / 64))) (padN (bs.drop (64 * (bs.length / 64))).length) bs.length)) = ofL bs := rfl
  rw [hE]
  have hB3 : Below w0.heap.size w0 w3 := (hb1.trans hb2).trans (hb3.mono (Nat.le_trans hb1.size hb2.size))
  have hR3 := (hB3.block w.heap.size (by rw [hsz0.out]; omega)).trans HR0.out
  have hOl : ((ofL bs).map V8).toArray.size = 32 := by simp [ofL_len]
  have hI9 : (Try.prog.info? 106).map (·.size) = some ((ofL bs).map V8).toArray.size := by rw [hOl]; kernel_rfl
  have hcs := all_oneCell_toArray (v8_cells (ofL bs))
  obtain ⟨C, hC⟩ : ∃ C, ((ofL bs).map V8).toArray = C := ⟨_, rfl⟩
  rw [hC] at hOl hI9 hcs ⊢
  have HCC := Lib.hid hC
  clear hC hnow hE hS1 hS2 hr2
  rename_i hKK
  refine hKK _ _ ?_
  refine wpList_store_row rfl 106 (.tmp 2) (.tmp 9) rfl w.heap.size C rfl rfl 106 _ hR3 hI9 (by rw [hOl]; rfl) hcs ?_
  have hg2 := setRow_heap w3 w.heap.size _ C _ _ hR3
  have hb2 : Below w.heap.size w (w3.setRow w.heap.size C) := below_setRow (hb0.trans (hB3.mono hb0.size)) (Nat.le_refl _) _
  generalize w3.setRow w.heap.size C = w4 at *
  show Exit.then _ _ Exit.normal _ _
  simp only [Exit.then]
  refine (by assumption : ∀ (a : Act) (w : World), Code.wp _ Code.ret _ a w → _) _ _ ?_
  go_wp2
  refine bodyPost_ret (results_cell_row rfl _ _ w.heap.size 106 C (0, 0) (.array 32 5) rfl hg2 Try.underlying106 rfl hI9) rfl ?_
  exact ⟨by rw [HCC.out], hb2⟩
/-- the first of a digest -/
def shortS (n x : Int) : Int := bits BinOp.or .u64 (IntKind.u64.wrap (n * 256)) x
def shortK (l : List Int) : Nat → Int
  | 0 => 0
  | k + 1 => shortS (shortK l k) (l.getD k 0)
def shortL (bs : List Int) : Int := shortK (ofL bs) 8
set_option maxHeartbeats 1600000 in
set_option maxRecDepth 100000 in
theorem short_any (bs : List Int) (v : Value) (w : World) (hb : ByAt w v bs) (hB : ByteL bs) (hv : ∀ p, v.ownBlock = some p → p < w.heap.size) (hl : bs.length ≤ 1000000000000) :
    Calls Try.prog 55 #[v] w fun e w' => e = .returned (.int .u64 (shortL bs)) ∧ Below w.heap.size w w' := by
  have hof := of_any bs v w hb hB hv hl
  clear hb hB hv hl
  go_enter Try.func55, Try.ntmps55
  go_upto_region 2 with fail
  go_wp2_with fail
  refine hof.mono ?_
  rintro e w1 ⟨rfl, hb1⟩
  have hbyte : Hid (ByteL (ofL bs)) := Lib.hid (outL_byte _ _)
  obtain ⟨F, hF⟩ : ∃ F, ofL bs = F := ⟨_, rfl⟩
  have hFl : F.length = 32 := by rw [← hF]; exact ofL_len bs
  have HSH : Hid (shortL bs = shortK F 8) := Lib.hid (by unfold shortL; rw [hF])
  rw [hF] at hbyte ⊢
  have hOl : (F.map V8).toArray.size = 32 := by simp [hFl]
  have hI9 : (Try.prog.info? 106).map (·.size) = some (F.map V8).toArray.size := by rw [hOl]; kernel_rfl
  have hcs := all_oneCell_toArray (v8_cells F)
  have hcell : ∀ k, k < 32 → (F.map V8).toArray[k]? = some (V8 (F.getD k 0)) := fun k hk => by
    rw [List.getElem?_toArray, List.getElem?_map, List.getD_eq_getElem?_getD, List.getElem?_eq_getElem (by omega)]; rfl
  have HC := Lib.hid hcell
  generalize (F.map V8).toArray = C at *
  clear hof hF hcell
  rename_i hKK
  refine hKK _ _ ?_
  refine Go.Great.wpList_allocTo rfl (some 4) rfl (.pointer (some ⟨w1.heap.size, 0, none⟩)) (.cells (Array.replicate 32 (.int .u8 0)) 106) (by go_simp; rfl) ?_
  refine wpList_store_row rfl 106 (.tmp 4) (.tmp 8) rfl w1.heap.size C rfl rfl 106 _ (heap_alloc_new _ _) hI9 (by rw [hOl]; rfl) hcs ?_
  have hg2 := setRow_heap (w1.alloc (.cells (Array.replicate 32 (.int .u8 0)) 106)) w1.heap.size _ C _ _ (heap_alloc_new _ _)
  have hb2 : Below w.heap.size w ((w1.alloc (.cells (Array.replicate 32 (.int .u8 0)) 106)).setRow w1.heap.size C) := below_setRow (hb1.alloc hb1.size _) hb1.size _
  generalize (w1.alloc (.cells (Array.replicate 32 (.int .u8 0)) 106)).setRow w1.heap.size C = w4 at *
  show Exit.then _ _ Exit.normal _ _
  simp only [Exit.then]
  have hc4 : Hid (∀ k, k < 32 → w4.cell? ⟨w1.heap.size, k, none⟩ = some (V8 (F.getD k 0))) := Lib.hid (fun k hk => by rw [cell_row hg2]; exact HC.out k hk)
  clear hg2 hI9 hcs hOl HC
  go_wp2
  go_loopw [11, 3] (fun i n wr => ∃ k : Nat, k ≤ 8 ∧ i = .int .i64 k ∧ n = .int .u64 (shortK F k) ∧ wr = w4) (fun i _ _ => 8 - (intOf i).toNat)
  case atStart => exact ⟨0, Nat.zero_le _, rfl, rfl, rfl⟩
  case round =>
    obtain ⟨k, hk, rfl, rfl, rfl⟩ := hrel
    by_cases hkl : k < 8
    · have hI : (k : Int) < 8 := by omega
      have g := hc4.out k (by omega)
      obtain ⟨x, hx⟩ : ∃ x, F.getD k 0 = x := ⟨_, rfl⟩
      have hxb : 0 ≤ x ∧ x < 256 := by
        rw [← hx, List.getD_eq_getElem?_getD, List.getElem?_eq_getElem (by omega)]
        exact hbyte.out _ (List.getElem_mem _)
      have q1 : IntKind.u64.wrap x = x := by simp [IntKind.wrap, IntKind.bits, IntKind.signed]; omega
      rw [hx] at g
      have HX := Lib.hid hx
      clear hx
      go_wp2
      go_roundw
      case rel => exact ⟨k + 1, by omega, by go_num, by rw [shortK, HX.out]; rfl, trivial⟩
      case measure => (simp [intOf]; try omega)
    · obtain rfl : k = 8 := by omega
      rw [show ((8 : Nat) : Int) = 8 from rfl]
      go_wp2
      go_ret
      exact ⟨by rw [HSH.out]; rfl, hb2⟩
end Go.Proofs.Ytipnhpfpppblhaa
