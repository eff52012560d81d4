/- slices.Concat at []byte: a contract. -/
import Derived.Test.YtipnhpfpppblhaaShaNow
import Derived.Shelf.Spec.SlicesGrow
import Derived.Test.YtipnhpfpppblhaaBox
import Derived.Test.YtipnhpfpppblhaaShelf
import Derived.Laws.AppendOwn
import Derived.Deep.LoopGhost
namespace Go.Proofs.Ytipnhpfpppblhaa
open Go.RowKit Go.Sort

/-- slices.Grow from nothing -/
theorem grow_any (n : Nat) (w : World) (h0 : 0 < n) (hn : n ≤ 4000000) :
    Calls Try.prog 69 #[.slice none 0 0, .int .i64 n] w fun e w' => ∃ g cap, e = .returned (.slice (some ⟨g, 0, none⟩) 0 cap) ∧ w'.ownsRow w.heap.size 5 1 (.slice (some ⟨g, 0, none⟩) 0 cap) 0 [] ∧ Below w.heap.size w w' := by
  obtain ⟨i0, hi, hz0, hz1, hz2⟩ := info_parts info_u8
  have h := Any8.slices_Grow_grow Try.lays8n4b i0 (.int .u8 0) hi hz0 (by rw [hz1]; decide) none 0 0 n [] w (Nat.le_refl _) (by omega) (by rw [hz2]; omega) (by omega) (by simp) (fun _ => rfl) (fun _ h => by cases h)
  refine Calls.mono h ?_
  rintro e w' ⟨rfl, rfl⟩
  refine ⟨_, _, rfl, ⟨rfl, .inr ⟨w.heap.size, _, _, rfl, Nat.le_refl _, heap_alloc_new _ _, Nat.zero_le _, grownCap_le_maxLen _ _ _ _ (by unfold maxLen; omega), ?_, by simp⟩⟩, ((Below.refl _ _).drew).alloc (Nat.le_refl _) _⟩
  have hge := grownCap_ge w (0 + n) 0 (Try.lays8n4b_ren.t 25)
  have e1 : (Value.int IntKind.u8 0).cells.size = 1 := rfl
  simp [Builtin.zeroCells, e1] at hge ⊢
  omega
/-- the slices that are laid together -/
def SlsAt (w : World) (a : Addr) (ls : List (Value × List Int)) : Prop :=
  ∃ b o, a = ⟨b, o, none⟩ ∧ b < w.heap.size ∧ ∀ j (h : j < ls.length), w.cell? ⟨b, o + j, none⟩ = some ls[j].1 ∧ ByAt w ls[j].1 ls[j].2
def sumL (ls : List (Value × List Int)) : List Int := ls.flatMap (·.2)
theorem sumL_take {ls : List (Value × List Int)} {k : Nat} (h : k < ls.length) : sumL (ls.take (k + 1)) = sumL (ls.take k) ++ ls[k].2 := by
  unfold sumL
  rw [List.take_succ_eq_append_getElem h, List.flatMap_append]; simp
theorem sumL_le (ls : List (Value × List Int)) (k : Nat) : (sumL (ls.take k)).length ≤ (sumL ls).length := by
  have : sumL ls = sumL (ls.take k) ++ sumL (ls.drop k) := by unfold sumL; rw [← List.flatMap_append, List.take_append_drop]
  rw [this, List.length_append]; omega

set_option maxHeartbeats 1600000 in
set_option maxRecDepth 10000000 in
theorem concat_any (ls : List (Value × List Int)) (a : Addr) (c : Nat) (w : World) (hls : SlsAt w a ls) (hne : 0 < (sumL ls).length) (hl : (sumL ls).length ≤ 4000000) (hn : ls.length ≤ 4000000) :
    Calls Try.prog 54 #[.slice (some a) ls.length c] w fun e w' => ∃ v, e = .returned v ∧ w'.ownsRow w.heap.size 5 1 v (sumL ls).length ((sumL ls).map V8) ∧ Below w.heap.size w w' := by
  obtain ⟨b, o, rfl, hb, hcell⟩ := hls
  obtain ⟨i0, hi, hz0, hz1, hz2⟩ := info_parts info_u8
  have HC := Lib.hid hcell
  clear hcell
  go_enter Try.func54, Try.ntmps54
  go_wp2
  go_loopw [3, 11] (fun s i wr => ∃ k t : Nat, k ≤ ls.length ∧ i = .int .i64 k ∧ s = .int .i64 t ∧ t ≤ 4000000 ∧ Hid (t = (sumL (ls.take k)).length) ∧ Below w.heap.size w wr) (fun _ i _ => ls.length - (intOf i).toNat)
  case atStart => exact ⟨0, 0, Nat.zero_le _, rfl, rfl, by omega, Lib.hid rfl, Below.refl _ _⟩
  case round =>
    obtain ⟨k, t, hk, rfl, rfl, ht, HT, hbr⟩ := hrel
    by_cases hkl : k < ls.length
    · obtain ⟨h1, h2⟩ := HC.out k hkl
      obtain ⟨x, hx⟩ : ∃ x, ls[k] = x := ⟨_, rfl⟩
      have HN : Hid (t + x.2.length = (sumL (ls.take (k + 1))).length) := by show _ = _; rw [sumL_take hkl, List.length_append, HT.out, hx]
      have hle : t + x.2.length ≤ 4000000 := by rw [HN.out]; exact Nat.le_trans (sumL_le ls (k + 1)) hl
      rw [hx] at h1 h2
      obtain ⟨va, vl⟩ := x
      obtain ⟨a1, c1, hva, hc1, _⟩ := RdAt.shape h2
      dsimp only at hva hc1
      subst hva
      have hcr : wr.cell? ⟨b, o + k, none⟩ = some (.slice a1 vl.length c1) := keep_cell h1 hbr hb
      have hle' : (t : Int) + (vl.length : Int) ≤ 4000000 := by dsimp only at hle; omega
      clear h1 h2 hx HT
      go_wp2
      go_roundw
      case rel => exact ⟨k + 1, t + vl.length, by omega, by go_num, by go_num, hle, HN, hbr⟩
      case measure => (simp [intOf]; try omega)
    · obtain rfl : k = ls.length := by omega
      obtain rfl : t = (sumL ls).length := by rw [HT.out, List.take_length]
      clear HT
      have hg := grow_any (sumL ls).length wr hne hl
      go_wp2_with fail
      refine hg.mono ?_
      rintro e w1 ⟨g, cap, rfl, hown, hb1⟩
      have hown1 := own_base hown hbr.size
      have hbr1 := hbr.trans (hb1.mono hbr.size)
      clear hg hown hbr hb1
      go_wp2
      go_loopw [6, 27] (fun v i wr => ∃ k : Nat, k ≤ ls.length ∧ i = .int .i64 k ∧ wr.ownsRow w.heap.size 5 1 v (sumL (ls.take k)).length ((sumL (ls.take k)).map V8) ∧ Below w.heap.size w wr) (fun _ i _ => ls.length - (intOf i).toNat)
      case atStart => exact ⟨0, Nat.zero_le _, rfl, hown1, hbr1⟩
      case round =>
        obtain ⟨k, hk, rfl, hown, hbr⟩ := hrel
        by_cases hkl : k < ls.length
        · obtain ⟨h1, h2⟩ := HC.out k hkl
          have e1 := sumL_take hkl
          have hle1 : (sumL (ls.take (k + 1))).length ≤ 4000000 := Nat.le_trans (sumL_le ls (k + 1)) hl
          obtain ⟨x, hx⟩ : ∃ x, ls[k] = x := ⟨_, rfl⟩
          rw [hx] at h1 h2 e1
          obtain ⟨va, vl⟩ := x
          have hcr : wr.cell? ⟨b, o + k, none⟩ = some va := keep_cell h1 hbr hb
          have hrd : ByAt wr va vl := ByAt.later h2 hbr
          have hle : (sumL (ls.take k)).length + vl.length ≤ 4000000 := by rw [e1, List.length_append] at hle1; exact hle1
          have HE := Lib.hid e1
          clear h1 h2 hx e1 hle1
          go_wp2_with (at_builtin; (refine wpList_append_rd rfl (.tmp 31) (.tmp 32) 103 rfl w.heap.size 5 i0 (.int .u8 0) 1 1 Try.underlying103 hi hz0 hz1 hz2 rfl (by decide) _ _ _ rfl hown _ vl.length (vl.map V8) rfl hrd (v8_cells vl) (by unfold maxLen; omega) (by omega) hbr.size ?_); intro v' w' hown' hgrow)
          have hb' : Below w.heap.size w w' := hbr.grown hgrow hbr.size (fun m hm => (hown.lt m hm).1)
          clear hown hgrow hbr hrd hcr
          go_wp2
          go_roundw
          case rel => exact ⟨k + 1, by omega, by go_num, by rw [HE.out, List.length_append, List.map_append]; exact hown', hb'⟩
          case measure => (simp [intOf]; try omega)
        · obtain rfl : k = ls.length := by omega
          rw [List.take_length] at hown
          go_wp2
          go_ret
          exact ⟨_, rfl, hown, hbr⟩
end Go.Proofs.Ytipnhpfpppblhaa
