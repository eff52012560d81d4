/- match.All: a contract. -/
import Derived.Test.YtcfococinllcmaaGreatMtFits
namespace Go.Proofs.YtcfococinllcmaaGreat
open Go.RowKit

noncomputable def allM (l : List Fld) (ms : List Mt) : Bool := ms.all fun m => fitM l m
theorem allM_any (l : List Fld) (ms : List Mt) : (!(ms.any fun m => !(fitM l m))) = allM l ms := by
  unfold allM
  induction ms with
  | nil => rfl
  | cons m ms ih => rw [List.any_cons, List.all_cons, ← ih]; cases fitM l m <;> simp
set_option maxHeartbeats 1600000 in
theorem allclos (l : List Fld) (m : Mt) (b : Nat) (v : Value) (w : World) (hv : FldsAt w v l) (hl : l.length ≤ 1000000000000) (hfit : FldsFit l) (hf : MtFit m) (hc : w.cell? ⟨b, 0, none⟩ = some v) (hlt : b < w.heap.size) :
    Calls Tryz.prog 93 #[.agg #[.string m.nm, .int .i64 m.op, .string m.val], .pointer (some ⟨b, 0, none⟩)] w fun e w' => e = .returned (.bool (!(fitM l m))) ∧ Below w.heap.size w w' := by
  have hb := alloc_below w (.cells #[.string m.nm, .int .i64 m.op, .string m.val] 108)
  have hz := World.size_alloc w (.cells #[.string m.nm, .int .i64 m.op, .string m.val] 108)
  have k := fits_any l m _ v (hv.later hb) hl hfit hf
  have h1 := keep_cell hc hb hlt
  have HB := Lib.hid hb
  obtain ⟨fa, fc, rfl, _, _⟩ := RdAt.shape hv
  generalize fitM l m = R at *
  obtain ⟨nm, op, val⟩ := m
  dsimp only at *
  clear hv hfit hf hc hb hz
  go_enter Tryz.func93, Tryz.ntmps93
  go_wp2_with fail
  refine k.mono ?_
  rintro e w1 ⟨rfl, hb1⟩
  clear k
  go_wp2
  go_ret
  exact ⟨rfl, HB.out.trans (hb1.mono HB.out.size)⟩
set_option maxHeartbeats 1600000 in
theorem all_any (l : List Fld) (ms : List Mt) (v mv : Value) (w : World) (hv : FldsAt w v l) (hl : l.length ≤ 1000000000000) (hfit : FldsFit l) (hm : MtsAt w mv ms) (hml : ms.length ≤ 1000000000000) (hmf : MtsFit ms) :
    Calls Tryz.prog 66 #[v, mv] w fun e w' => e = .returned (.bool (allM l ms)) ∧ Below w.heap.size w w' := by
  obtain ⟨fa, fc, rfl, _, _⟩ := RdAt.shape hv
  obtain ⟨ma, mc, rfl, _, _⟩ := RdAt.shape hm
  have hb := alloc_below w (.cells #[.slice fa l.length fc] 48)
  have hlt : w.heap.size < (w.alloc (.cells #[.slice fa l.length fc] 48)).heap.size := by rw [World.size_alloc]; omega
  have hc : (w.alloc (.cells #[.slice fa l.length fc] 48)).cell? ⟨w.heap.size, 0, none⟩ = some (.slice fa l.length fc) := by rw [cell_of_row _ _ _ _ _ _ (heap_alloc_new w _)]; rfl
  have k := hasm_gen ms hmf (fun m => !(fitM l m)) 93 #[.pointer (some ⟨w.heap.size, 0, none⟩)] (enters_of Tryz.func93 (by kernel_rfl) rfl) _ _ (hm.later hb) hml
    (fun W m hmfit hW => allclos l m w.heap.size _ W ((hv.later hb).later hW) hl hfit hmfit (keep_cell hc hW hlt) (Nat.lt_of_lt_of_le hlt hW.size))
  have HA := Lib.hid (allM_any l ms)
  have HB := Lib.hid hb
  generalize (ms.any fun m => !(fitM l m)) = R at *
  generalize l.length = ln at *
  generalize ms.length = mn at *
  clear hv hm hfit hmf hb hlt hc
  go_enter Tryz.func66, Tryz.ntmps66
  go_wp2_with fail
  refine k.mono ?_
  rintro e w1 ⟨rfl, hb1⟩
  clear k
  go_wp2
  go_ret
  exact ⟨by rw [← HA.out]; rfl, HB.out.trans (hb1.mono HB.out.size)⟩
end Go.Proofs.YtcfococinllcmaaGreat
