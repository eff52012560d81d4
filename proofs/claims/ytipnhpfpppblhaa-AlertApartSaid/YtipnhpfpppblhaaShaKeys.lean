/- digest.start, digest.keys: contracts. -/
import Derived.Test.YtipnhpfpppblhaaSha
import Derived.Laws.Rows
import Derived.Laws.Tables
import Derived.Laws.CopyOwn
import Derived.Deep.DeepCutAuto
namespace Go.Proofs.Ytipnhpfpppblhaa
open Go.RowKit

abbrev V32 (x : Int) : Value := .int .u32 x
def startL : List Int := [1779033703, 3144134277, 1013904242, 2773480762, 1359893119, 2600822924, 528734635, 1541459225]
def startV : Array Value := (startL.map V32).toArray
def keysV : Array Value := #[.int .u32 1116352408, .int .u32 1899447441, .int .u32 3049323471, .int .u32 3921009573, .int .u32 961987163, .int .u32 1508970993, .int .u32 2453635748, .int .u32 2870763221, .int .u32 3624381080, .int .u32 310598401, .int .u32 607225278, .int .u32 1426881987, .int .u32 1925078388, .int .u32 2162078206, .int .u32 2614888103, .int .u32 3248222580, .int .u32 3835390401, .int .u32 4022224774, .int .u32 264347078, .int .u32 604807628, .int .u32 770255983, .int .u32 1249150122, .int .u32 1555081692, .int .u32 1996064986, .int .u32 2554220882, .int .u32 2821834349, .int .u32 2952996808, .int .u32 3210313671, .int .u32 3336571891, .int .u32 3584528711, .int .u32 113926993, .int .u32 338241895, .int .u32 666307205, .int .u32 773529912, .int .u32 1294757372, .int .u32 1396182291, .int .u32 1695183700, .int .u32 1986661051, .int .u32 2177026350, .int .u32 2456956037, .int .u32 2730485921, .int .u32 2820302411, .int .u32 3259730800, .int .u32 3345764771, .int .u32 3516065817, .int .u32 3600352804, .int .u32 4094571909, .int .u32 275423344, .int .u32 430227734, .int .u32 506948616, .int .u32 659060556, .int .u32 883997877, .int .u32 958139571, .int .u32 1322822218, .int .u32 1537002063, .int .u32 1747873779, .int .u32 1955562222, .int .u32 2024104815, .int .u32 2227730452, .int .u32 2361852424, .int .u32 2428436474, .int .u32 2756734187, .int .u32 3204031479, .int .u32 3329325298]
/-- the word of a round -/
def keyL (i : Nat) : Int := match keysV[i]? with | some (.int _ x) => x | _ => 0
theorem keysV_at (i : Nat) (h : i < 64) : keysV[i]? = some (V32 (keyL i)) := by
  have hk : ∀ i, i < 64 → (match keysV[i]? with | some (.int .u32 _) => true | _ => false) = true := by decide +kernel
  have := hk i h
  unfold keyL
  split at this
  · next x hx => rw [hx]
  · cases this
set_option maxHeartbeats 1600000 in
set_option maxRecDepth 100000 in
theorem start_any (w : World) : Calls Try.prog 100 #[] w fun e w' => e = .returned (.agg startV) ∧ Below w.heap.size w w' := by
  go_enter Try.func100, Try.ntmps100
  go_wp2
  refine bodyPost_ret (results_cell_row rfl _ _ w.heap.size 121 startV (0, 0) (.array 8 32) rfl (heap_alloc_new _ _) Try.underlying121 rfl (by kernel_rfl)) rfl ?_
  exact ⟨rfl, (Below.refl _ _).alloc (Nat.le_refl _) _⟩
set_option maxHeartbeats 1600000 in
set_option maxRecDepth 100000 in
theorem keys_any (w : World) : Calls Try.prog 112 #[] w fun e w' => e = .returned (.agg keysV) ∧ Below w.heap.size w w' := by
  go_enter Try.func112, Try.ntmps112
  go_upto_region 1 with fail
  have h1 : ∃ z : Array Value, z.size = 64 ∧ (w.alloc (.cells (Array.replicate 64 (V32 0)) 123)).heap[w.heap.size]? = some (.cells z 123 (0, 0)) := ⟨_, by simp, heap_alloc_new _ _⟩
  have hb := (Below.refl w.heap.size w).alloc (Nat.le_refl _) (.cells (Array.replicate 64 (V32 0)) 123)
  change Code.wp _ _ _ _ (w.alloc (.cells (Array.replicate 64 (V32 0)) 123))
  generalize w.alloc (.cells (Array.replicate 64 (V32 0)) 123) = w0 at *
  obtain ⟨z, hz, hg⟩ := h1
  apply wp_region_lit
  refine wpList_build rfl 123 _ rfl (by kernel_rfl) ?_
  refine wpList_store_row rfl 123 (.tmp 0) (.tmp 1) rfl w.heap.size keysV rfl (by kernel_rfl) 123 z hg (by kernel_rfl) hz (by kernel_rfl) ?_
  have hg2 := setRow_heap w0 w.heap.size z keysV _ _ hg
  have hb2 : Below w.heap.size w (w0.setRow w.heap.size keysV) := below_setRow hb (Nat.le_refl _) _
  generalize w0.setRow w.heap.size keysV = w1 at *
  generalize (Try.prog.built 123 _).getD #[] = X
  simp only [Act.put, List.setIfInBounds_toArray, List.set_cons_zero, List.set_cons_succ]
  show Exit.then _ _ Exit.normal _ _
  simp only [Exit.then]
  refine (by assumption : ∀ (a : Act) (w : World), Code.wp _ Code.ret _ a w → _) _ _ ?_
  go_wp2
  refine bodyPost_ret (results_cell_row rfl _ _ w.heap.size 123 keysV (0, 0) (.array 64 32) rfl hg2 Try.underlying123 rfl (by kernel_rfl)) rfl ?_
  exact ⟨rfl, hb2⟩
theorem run_index_keys (k : Nat) (h : k < 64) (w : World) : (Instr.index 123 (.agg keysV) (.int .i64 k)).run Try.prog w = .ok (V32 (keyL k)) w := by
  have hk := keysV_at k h
  have h1 : (0 : Int) ≤ (k : Int) ∧ (k : Int) < ((64 : Nat) : Int) := by omega
  simp [Instr.index, run_underlying Try.underlying123, asIntOf, go_sem, h1, part, Try.isAgg32, Try.sizeOf32, hk]
  intro h2; omega
end Go.Proofs.Ytipnhpfpppblhaa
