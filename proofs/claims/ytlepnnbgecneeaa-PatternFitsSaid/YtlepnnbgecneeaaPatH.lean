/- slices.ContainsFunc of numbers, with Least's closure: contracts. -/
import Derived.Test.YtlepnnbgecneeaaPatY
import Derived.Lib.Walk
namespace Go.Proofs.Ytlepnnbgecneeaa
open Go.RowKit

set_option maxHeartbeats 1600000 in
set_option maxRecDepth 100000 in
theorem clos_is (w : World) (bd bl g cap base : Nat) (d : List Nat) (k left : Nat) (hk : k < d.length) (hl : 1 ≤ left) (hl3 : left ≤ 301) (h0 : w.cell? ⟨bd, 0, none⟩ = some (.slice (some ⟨g, 0, none⟩) d.length cap)) (h1 : w.cell? ⟨bl, 0, none⟩ = some (.int .i64 left)) (hd : RowD w base g cap d) :
    Calls Try.prog 27 #[.int .i64 k, .pointer (some ⟨bd, 0, none⟩), .pointer (some ⟨bl, 0, none⟩)] w fun e w' => e = .returned (.bool (decide (d.getD k 0 = left - 1))) ∧ Below w.heap.size w w' := by
  obtain ⟨v, hv⟩ : ∃ v, d.getD k 0 = v := ⟨_, rfl⟩
  have hc := (hd.cell hk).1
  rw [hv] at hc ⊢
  have hk0 : (0 : Int) ≤ (k : Int) := by omega
  have hk1 : (k : Int) < (d.length : Int) := by omega
  have hl0 : (1 : Int) ≤ (left : Int) := by omega
  have hl1 : (left : Int) ≤ 301 := by omega
  have hdec : Hid (((v : Int) == (left : Int) - 1) = decide (v = left - 1)) := Lib.hid (by
    rw [Bool.eq_iff_iff]; simp; omega)
  clear hd hv
  go_enter Try.func27, Try.ntmps27
  go_wp2
  go_quiet (fail)
  go_wp2
  go_ret
  exact ⟨by show Ending.returned (.bool ((v : Int) == (left : Int) - 1)) = _; rw [hdec.out], bl_drewN (Below.refl _ _) _⟩
set_option maxHeartbeats 1600000 in
set_option maxRecDepth 100000 in
theorem index_is (w : World) (base : Nat) (l : List Nat) (v : Value) (h : w.ownsRow base 3 1 v l.length (freeC l)) (hl : l.length ≤ 1000000) (p : Nat → Bool) (pd pl : Value)
    (hp : ∀ W, Below w.heap.size w W → ∀ k ∈ l, Calls Try.prog 27 #[.int .i64 k, pd, pl] W fun e w' => e = .returned (.bool (p k)) ∧ Below W.heap.size W w') :
    Calls Try.prog 43 #[v, .func (.func 27) #[] #[pd, pl]] w fun e w' => ∃ i : Int, e = .returned (.int .i64 i) ∧ (decide (i ≥ 0) = l.any p) ∧ Below w.heap.size w w' := by
  have hent := enters_of Try.func27 (by kernel_rfl) rfl
  obtain ⟨a, c, rfl, hcell⟩ : ∃ a c, v = .slice a l.length c ∧ ∀ j, j < l.length → ∃ b, a = some ⟨b, 0, none⟩ ∧ b < w.heap.size ∧ w.cell? ⟨b, j, none⟩ = some (.int .i64 (l.getD j 0 : Nat)) := by
    rcases h.2 with ⟨rfl, h0⟩ | ⟨g, cap, _, rfl, _, hg, _⟩
    · exact ⟨_, _, by rw [h0], fun j hj => by omega⟩
    · exact ⟨_, _, rfl, fun j hj => ⟨g, rfl, (Array.getElem?_eq_some_iff.1 hg).1, (ownsRow_cell h rfl (freeC_get l hj)).1⟩⟩
  have HC := Lib.hid hcell
  have HP := Lib.hid hp
  clear h hcell hp
  go_enter Try.func43, Try.ntmps43
  go_wp2
  go_loopw [8] (fun vi wr => ∃ j : Nat, j ≤ l.length ∧ vi = .int .i64 j ∧ Hid (∀ k ∈ l.take j, p k = false) ∧ Below w.heap.size w wr) (fun vi _ => l.length - (intOf vi).toNat)
  case atStart => exact ⟨0, Nat.zero_le _, rfl, Lib.hid (fun k hk => by simp at hk), Below.refl _ _⟩
  case round =>
    obtain ⟨j, hj, rfl, HN, hb⟩ := hrel
    by_cases hjl : j < l.length
    · obtain ⟨b, rfl, hblt, hc⟩ := HC.out j hjl
      obtain ⟨k, hk⟩ : ∃ k, l.getD j 0 = k := ⟨_, rfl⟩
      have hk2 : l[j] = k := by rw [← hk, List.getD_eq_getElem?_getD, List.getElem?_eq_getElem hjl]; rfl
      rw [hk] at hc
      have d1 := keep_cell hc hb hblt
      have hcall := HP.out wr hb k (hk2 ▸ List.getElem_mem hjl)
      clear hc hk
      go_wp2_with fail
      refine hcall.mono ?_
      rintro e w2 ⟨rfl, hb2⟩
      have hb3 := hb.trans (hb2.mono hb.size)
      clear hcall
      cases hpk : p k with
      | true =>
        have hall : l.any p = true := List.any_eq_true.2 ⟨k, hk2 ▸ List.getElem_mem hjl, hpk⟩
        have hj0 : (0 : Int) ≤ (j : Int) := by omega
        go_wp2
        go_ret
        exact ⟨j, rfl, by rw [hall]; simp, hb3⟩
      | false =>
        have HN2 : Hid (∀ k ∈ l.take (j + 1), p k = false) := Lib.hid (fun q hq => by
          rw [List.take_succ_eq_append_getElem hjl] at hq
          rcases List.mem_append.1 hq with h1 | h1
          · exact HN.out q h1
          · rw [List.mem_singleton.1 h1, hk2]; exact hpk)
        go_wp2
        go_roundw
        case rel => exact ⟨j + 1, by omega, by go_num, HN2, hb3⟩
        case measure => (simp [intOf]; try omega)
    · obtain rfl : j = l.length := by omega
      have hall : l.any p = false := List.any_eq_false.2 (fun k hk => by rw [HN.out k (by rw [List.take_length]; exact hk)]; simp)
      go_wp2
      go_ret
      exact ⟨-1, rfl, by rw [hall]; decide, hb⟩
set_option maxHeartbeats 1600000 in
theorem hasf_is (w : World) (base : Nat) (l : List Nat) (v : Value) (h : w.ownsRow base 3 1 v l.length (freeC l)) (hl : l.length ≤ 1000000) (p : Nat → Bool) (pd pl : Value)
    (hp : ∀ W, Below w.heap.size w W → ∀ k ∈ l, Calls Try.prog 27 #[.int .i64 k, pd, pl] W fun e w' => e = .returned (.bool (p k)) ∧ Below W.heap.size W w') :
    Calls Try.prog 26 #[v, .func (.func 27) #[] #[pd, pl]] w fun e w' => e = .returned (.bool (l.any p)) ∧ Below w.heap.size w w' := by
  have hi := index_is w base l v h hl p pd pl hp
  clear hp h
  go_enter Try.func26, Try.ntmps26
  go_wp2_with fail
  refine hi.mono ?_
  rintro e w2 ⟨i, rfl, h1, hb2⟩
  clear hi
  go_wp2
  go_ret
  exact ⟨by rw [← h1]; rfl, hb2⟩
end Go.Proofs.Ytlepnnbgecneeaa
