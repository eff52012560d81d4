/- What the clock's laws have in common: the arguments, the steps beside a clock. -/
import Derived.Test.YtkhcckfnaahbeaaClkLives
import Derived.Test.YtkhcckfnaahbeaaEarly12
namespace Go.Proofs.Ytkhcckfnaahbeaa
open Go.RowKit

/-- int(uint(n) % m) -/
theorem uintMod (n m : Int) (h : 0 < m) (hm : m ≤ 9223372036854775807) : ∃ N : Nat, wrap64 ((IntKind.u64.wrap n).tmod m) = (N : Int) ∧ (N : Int) < m := by
  rw [IntKind.wrap_u64]
  have h1 : 0 ≤ n % 18446744073709551616 := Int.emod_nonneg _ (by omega)
  rw [Int.tmod_eq_emod_of_nonneg h1]
  have h2 := Int.emod_nonneg (n % 18446744073709551616) (Int.ne_of_gt h)
  have h3 := Int.emod_lt_of_pos (n % 18446744073709551616) h
  rw [IntWalk.wrap64_in _ ⟨by omega, by omega⟩]
  exact ⟨_, (Int.toNat_of_nonneg h2).symm, by rw [Int.toNat_of_nonneg h2]; exact h3⟩
theorem ArgStps.later {w w' : World} {v : Value} {l : List Stp} (h : ArgStps w v l) (hb : Below w.heap.size w w') : ArgStps w' v l := ⟨h.1.later hb, h.2.1, fun s hs => ⟨(h.2.2 s hs).1.later hb, (h.2.2 s hs).2⟩⟩
theorem ClkAt.low {w : World} {base base' p : Nat} {S : Ck} (h : ClkAt w base p S) (hb : base' ≤ base) : ClkAt w base' p S := by
  obtain ⟨h1, tv, h2, h3⟩ := h
  exact ⟨Nat.le_trans hb h1, tv, h2, own_base h3 hb⟩
theorem RClkAt.low {w : World} {base base' p : Nat} {S : Ck} (h : RClkAt w base p S) (hb : base' ≤ base) : RClkAt w base' p S := by
  obtain ⟨h1, tv, h2, h3⟩ := h
  exact ⟨Nat.le_trans hb h1, tv, h2, own_base h3 hb⟩
/-- the array's box -/
theorem box3 (w W : World) (x y z : Value) (t : TypeId) (hb : Below (w.alloc (.cells #[x, y, z] t)).heap.size (w.alloc (.cells #[x, y, z] t)) W) :
    W.cell? ⟨w.heap.size, 0, none⟩ = some x ∧ W.cell? ⟨w.heap.size, 1, none⟩ = some y ∧ W.cell? ⟨w.heap.size, 2, none⟩ = some z ∧ w.heap.size < W.heap.size ∧ Below w.heap.size w W := by
  have hlt : w.heap.size < (w.alloc (.cells #[x, y, z] t)).heap.size := by rw [World.size_alloc]; omega
  have hc := heap_alloc_new w (.cells #[x, y, z] t)
  refine ⟨(hb.cell (p := ⟨w.heap.size, 0, none⟩) hlt).trans ?_, (hb.cell (p := ⟨w.heap.size, 1, none⟩) hlt).trans ?_, (hb.cell (p := ⟨w.heap.size, 2, none⟩) hlt).trans ?_, Nat.lt_of_lt_of_le hlt hb.size, (alloc_below w _).trans (hb.mono (by omega))⟩ <;>
  (rw [cell_of_row _ _ _ _ _ _ hc]; rfl)
theorem StpsAt.beside {w w' : World} {v : Value} {l : List Stp} {p : Nat} (h : StpsAt w v l) (hg : w.grownBy w' (some p)) (hne : v.ownBlock ≠ some p) : StpsAt w' v l := by
  obtain ⟨a, c, rfl, hc, hr⟩ := h
  refine ⟨a, c, rfl, hc, fun hn => ?_⟩
  obtain ⟨b, o, rfl, hlt, hcell⟩ := hr hn
  have hbp : b ≠ p := fun e => hne (by rw [← e]; rfl)
  have hk : ∀ x : Nat, w'.cell? ⟨b, x, none⟩ = w.cell? ⟨b, x, none⟩ := fun x => World.cell?_of_block (a := ⟨b, x, none⟩) (hg.block b hlt (fun e => hbp (by cases e; rfl)))
  refine ⟨b, o, rfl, Nat.lt_of_lt_of_le hlt hg.size, fun i h => ?_⟩
  obtain ⟨h1, h2, h3⟩ := hcell i h
  exact ⟨(hk _).trans h1, (hk _).trans h2, (hk _).trans h3⟩
theorem StpsAt.at3 {w : World} {b o n c k : Nat} {L : List Stp} {s : Stp} (h : StpsAt w (.slice (some ⟨b, o, none⟩) n c) L) (hk : k < L.length) (hs : L[k] = s) :
    w.cell? ⟨b, o + k * 3, none⟩ = some (.int .i64 s.by_) ∧ w.cell? ⟨b, o + k * 3 + 1, none⟩ = some (.int .i64 s.odd) ∧ w.cell? ⟨b, o + k * 3 + 2, none⟩ = some s.v := by
  obtain ⟨_, _, hv, _, hx⟩ := h
  cases hv
  obtain ⟨_, _, ha, _, hc⟩ := hx (by omega)
  cases ha
  have := hc k hk
  rwa [hs] at this
/-- a clock, and the steps -/
def Hd (w0 : World) (p : Nat) (v : Value) (L : List Stp) (S : Ck) (W : World) : Prop := Cs w0 p S W ∧ StpsAt W v L
theorem Hd.later {w0 : World} {p : Nat} {v : Value} {L : List Stp} {S : Ck} {W W' : World} (h : Hd w0 p v L S W) (hb : Below W.heap.size W W') : Hd w0 p v L S W' := ⟨h.1.later hb, h.2.later hb⟩
theorem Hd.ask {w0 : World} {p : Nat} {v : Value} {L : List Stp} {S S' : Ck} {W W' : World} (h : Hd w0 p v L S W) (hfar : v.ownBlock ≠ some p) (hC : Cs w0 p S' W') (hg : W.grownBy W' (some p)) : Hd w0 p v L S' W' := ⟨hC, h.2.beside hg hfar⟩
theorem early_ids {w : World} {v : Value} {l : List Stp} (h : ArgStps w v l) : ∀ s ∈ earlyL l, IdsAt w s.v s.ids ∧ s.ids.length ≤ 8 := by
  intro s hs
  obtain ⟨t, ht, rfl⟩ := List.mem_map.1 hs
  exact ⟨cutS_ids (h.2.2 t (List.mem_of_mem_take ht)).1, by simp only [cutS, List.length_take]; omega⟩
theorem early_le (l : List Stp) : (earlyL l).length ≤ 80 := by rw [earlyL_len]; omega
end Go.Proofs.Ytkhcckfnaahbeaa
