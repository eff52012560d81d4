/- lychgatelaw07.few: a contract. -/
import Derived.Test.YtpoaoicehoihdaaDoorArgs
import Derived.Test.YtpoaoicehoihdaaDoorSplit
import Derived.Maps.AppendAt
import Derived.Deep.DeepCutAuto
import Derived.Deep.RegionWith
import Derived.Deep.RegionHeldLaw
import Derived.Deep.AppendLies
namespace Go.Proofs.YtpoaoicehoihdaaDoor.lawFew
open Go.RowKit

/-- the first 30 texts, of each the first 60 bytes -/
def fewL (xs : List ByteArray) : List ByteArray := (xs.take 30).map fun x => x.extract 0 (min x.size 60)
theorem fewL_len (xs : List ByteArray) : (fewL xs).length = min 30 xs.length := by simp [fewL]
theorem fewL_step {xs : List ByteArray} {k : Nat} (hk : k < 30) (hx : k < xs.length) : (fewL xs).take (k + 1) = (fewL xs).take k ++ [xs[k].extract 0 (min xs[k].size 60)] := by
  rw [List.take_succ_eq_append_getElem (by rw [fewL_len]; omega)]
  simp [fewL]
theorem fewL_all {xs : List ByteArray} {k : Nat} (h : 30 ≤ k ∨ xs.length ≤ k) : (fewL xs).take k = fewL xs := List.take_of_length_le (by rw [fewL_len]; omega)

set_option maxHeartbeats 800000 in
set_option maxRecDepth 100000 in
theorem few_any (w : World) {v0 : Value} {xs : List ByteArray} (hA : ArgStrs w v0 xs) :
    Calls Tryd.prog 19 #[v0] w fun e w' => ∃ v, e = .returned v ∧ StrsAt w' v (fewL xs) ∧ Fresh w v ∧ Below w.heap.size w w' := by
  have hxm := hA.2.2
  have hxl := hA.2.1
  unfold maxLen at hxl
  obtain ⟨a0, c0, rfl, hc0, hr0⟩ := hA.1.shape
  have HXM := Lib.hid hxm
  have HR0 := Lib.hid hr0
  clear hA hxm hr0
  obtain ⟨i0, hi, hz0, hz1, hz2⟩ := info_parts info9
  go_enter Tryd.func19, Tryd.ntmps19
  go_wp2
  go_loopw [3, 4] (fun v i wr => ∃ k : Nat, k ≤ 30 ∧ k ≤ xs.length ∧ i = .int .i64 k ∧ wr.ownsRow w.heap.size 9 1 v k (((fewL xs).take k).map Value.string) ∧ Below w.heap.size w wr) (fun _ i _ => 30 - (intOf i).toNat)
  case atStart => exact ⟨0, Nat.zero_le _, Nat.zero_le _, rfl, World.ownsRow_nil _ _ _ _, Below.refl _ _⟩
  case round =>
    obtain ⟨k, hk, hkx, rfl, hown, hbr⟩ := hrel
    by_cases hkl : k < xs.length
    · by_cases hk3 : k < 30
      · obtain ⟨x, hxe⟩ : ∃ x, xs[k] = x := ⟨_, rfl⟩
        obtain ⟨b0, o0, rfl, hb0, hcell⟩ := HR0.out (by omega)
        have hcx : w.cell? ⟨b0, o0 + k, none⟩ = some (.string x) := hcell k _ (by rw [List.getElem?_map, List.getElem?_eq_getElem hkl, hxe]; rfl)
        have hxs : x.size ≤ 9223372036854775807 := by have := HXM.out x (by rw [← hxe]; exact List.getElem_mem hkl); unfold maxLen at this; omega
        have hcr : wr.cell? ⟨b0, o0 + k, none⟩ = some (.string x) := (hbr.cell (p := ⟨b0, o0 + k, none⟩) hb0).trans hcx
        have HST : Hid ((fewL xs).take (k + 1) = (fewL xs).take k ++ [x.extract 0 (min x.size 60)]) := by rw [← hxe]; exact fewL_step hk3 hkl
        clear hcell hcx hxe
        have hx0 : (0 : Int) ≤ (x.size : Int) := by omega
        have hmi : (min (x.size : Int) 60).toNat = min x.size 60 := by omega
        rw [← hmi] at HST
        clear hmi
        go_wp2_with fail
        go_region_held_law (fun w' => w'.cell? ⟨b0, o0 + k, none⟩ = some (.string x)) (first | exact hcr | go_keep | exact hgrow.cell (by assumption) (fun e => by have := (hown.lt _ e.symm).1; simp at this; omega))
          ((refine step_append_lies _ (by rfl) _ _ _ (by rfl) w.heap.size 9 i0 (.string ⟨#[]⟩) 1 16 Tryd.underlying27 hi hz0 hz1 hz2 rfl (by decide) _ _ _ (by rfl) (by exact own_later hown (((Below.refl wr.heap.size wr).alloc (Nat.le_refl _) _).drew)) _ 1 1 [.string (x.extract 0 (min (x.size : Int) 60).toNat)] (by rfl) rfl (by exact cell_one_new wr (.string (x.extract 0 (min (x.size : Int) 60).toNat)) 9) (by simp [Value.oneCell']) (by omega) (by unfold maxLen; omega) (by omega) (by have := hbr.size; simp; omega) _ rfl ?_; intro g cap w1 hown1 hgrow hat hlt))
        have R : w1.ownsRow w.heap.size 9 1 (.slice (some ⟨g, 0, none⟩) (k + 1) cap) (k + 1) (((fewL xs).take (k + 1)).map Value.string) ∧ Below w.heap.size w w1 :=
          ⟨by rw [HST.out, List.map_append]; exact hown1, (hbr.trans ((((Below.refl wr.heap.size wr).alloc (Nat.le_refl _) _).drew).mono hbr.size)).grown hgrow (by have := hbr.size; simp; omega) (fun m hm => (hown.lt m hm).1)⟩
        clear hown1 hgrow hown
        go_wp2
        go_roundw
        case rel => exact ⟨k + 1, by omega, by omega, by go_num, R.1, R.2⟩
        case measure => simp [intOf]; omega
      · obtain rfl : k = 30 := by omega
        have HST : Hid ((fewL xs).take 30 = fewL xs) := fewL_all (.inl (Nat.le_refl _))
        have hS : StrsAt wr u3 (fewL xs) := by
          rw [HST.out] at hown
          exact StrsAt.own (by rw [fewL_len]; rw [show min 30 xs.length = 30 by omega]; exact hown) (by rw [fewL_len]; omega)
        have hF : Fresh w u3 := fun k hk => (hown.lt k hk).1
        clear hown
        go_wp2
        go_ret
        exact ⟨_, rfl, hS, hF, hbr⟩
    · obtain rfl : k = xs.length := by omega
      have HST : Hid ((fewL xs).take xs.length = fewL xs) := fewL_all (.inr (Nat.le_refl _))
      have hS : StrsAt wr u3 (fewL xs) := by
        rw [HST.out] at hown
        exact StrsAt.own (by rw [fewL_len]; rw [show min 30 xs.length = xs.length by omega]; exact hown) (by rw [fewL_len]; omega)
      have hF : Fresh w u3 := fun k hk => (hown.lt k hk).1
      clear hown
      go_wp2
      go_ret
      exact ⟨_, rfl, hS, hF, hbr⟩
end Go.Proofs.YtpoaoicehoihdaaDoor.lawFew
