/- slices.Sort at []uint64, of at most twelve elements: what the library's text computes is the kit's own insertion sort. -/
import Derived.Test.YtipnhpfpppblhaaShelf
import Derived.Sort.WalkA
import Derived.Sort.AssemblyPlain
import Derived.WalkKit
import Derived.BigGuard
import Derived.BigCall
import Derived.CellFam
import Derived.Deep.Draws
import Derived.Deep.QuietTactic
import Derived.BigQuiet
namespace Go.Proofs.Ytipnhpfpppblhaa
open Go.RowKit Go.Sort

/-- a word of 64 bits as a value -/
abbrev U (x : Int) : Value := .int .u64 x
theorem isNaN_u (x : Int) (w : World) : Calls Try.prog 108 #[U x] w fun e w' => e = .returned (.bool false) ∧ w' = w := by
  go_enter Try.func108, Try.ntmps108
  go_wp2
  go_ret
  exact ⟨by simp, rfl⟩
theorem less_u (x y : Int) (w : World) : Calls Try.prog 92 #[U x, U y] w fun e w' => e = .returned (.bool (ltInt x y)) ∧ w' = w := by
  go_enter Try.func92, Try.ntmps92
  go_wp2_with (go_at_call 108; refine (isNaN_u _ _).mono ?_; rintro e w' ⟨rfl, rfl⟩)
  go_ret
  exact ⟨rfl, rfl⟩

set_option maxHeartbeats 3200000 in
set_option maxRecDepth 100000 in
theorem ins_u (blk off cap a b : Nat) (d : Array Int) (w : World) (hH : Holds U w blk off d) (hab : a ≤ b) (hb : b ≤ d.size) (hsz : d.size < 4611686018427387904) :
    Calls Try.prog 86 #[.slice (some ⟨blk, off, none⟩) d.size cap, .int .i64 a, .int .i64 b] w fun e w' =>
      e = .returned (.tuple #[]) ∧ ∃ n, w' = putRow U (Sort.ahead w n) blk off (Sort.insertionSort ltInt d a b) := by
  go_enter Try.func86, Try.ntmps86
  go_wp2
  go_loopw [6] (fun vi wr => ∃ (i n : Nat) (dk : Array Int), vi = .int .i64 i ∧ a < i ∧ i ≤ b + 1 ∧ dk.size = d.size ∧ wr = putRow U (Sort.ahead w n) blk off dk ∧
      insOuter ltInt a b i dk = insOuter ltInt a b (a + 1) d) (fun vi _ => b + 1 - (intOf vi).toNat)
  case atStart => exact ⟨a + 1, 0, d, by go_num, by omega, by omega, rfl, (putRow_self _ _ _ _ _ hH).symm, rfl⟩
  case round =>
    obtain ⟨i, n, dk, rfl, hai, hib, hsk, hwr, hO⟩ := hrel
    have HO : Hid (insOuter ltInt a b i dk = insOuter ltInt a b (a + 1) d) := hO
    clear hO
    go_wp2
    · go_loopw [7] (fun vj wr2 => ∃ (j m : Nat) (dj : Array Int), vj = .int .i64 j ∧ a ≤ j ∧ j ≤ i ∧ dj.size = d.size ∧ wr2 = putRow U (Sort.ahead w m) blk off dj ∧
          insInner ltInt a j dj = insInner ltInt a i dk) (fun vj _ => (intOf vj).toNat)
      case atStart => exact ⟨i, n, dk, rfl, by omega, Nat.le_refl _, hsk, rfl, rfl⟩
      case round =>
        obtain ⟨j, m, dj, rfl, haj, hji, hsj, hw2, hI⟩ := hrel
        have hlt : i < b := by assumption
        obtain ⟨G, hG⟩ : ∃ G : Nat → Int, ∀ t, G t = dj[t]! := ⟨fun t => dj[t]!, fun _ => rfl⟩
        have hcw : ∀ t, t < d.size → wr.cell? ⟨blk, off + t, none⟩ = some (.int .u64 (G t)) := fun t ht => by
          rw [hw2, hG]; exact cell?_putRow _ _ _ _ d dj (holds_ahead _ _ _ _ _ _ hH) hsj t (by omega)
        have hfw : ∀ t, t < d.size → wr.frozen? ⟨blk, off + t, none⟩ = false := fun t ht => by
          rw [hw2, frozen?_putRow]; exact ((holds_ahead _ _ m _ _ _ hH) t ht).2
        have HW : Hid (wr = putRow U (Sort.ahead w m) blk off dj) := hw2
        have HG : Hid (∀ t, G t = dj[t]!) := hG
        have HI : Hid (insInner ltInt a j dj = insInner ltInt a i dk) := hI
        clear hw2 hG hI hH
        have out : (j ≤ a ∨ ltInt dj[j]! dj[j - 1]! = false) → ∀ q, ∃ i' n' dk', Value.int .i64 ((i : Int) + 1) = .int .i64 (i' : Nat) ∧ a < i' ∧ i' ≤ b + 1 ∧ dk'.size = d.size ∧
            wr.drewN q = putRow U (Sort.ahead w n') blk off dk' ∧ insOuter ltInt a b i' dk' = insOuter ltInt a b (a + 1) d := fun hs q =>
          ⟨i + 1, m + q, dj, by go_num, by omega, by omega, hsj, by rw [HW.out]; exact putRow_drewN _ _ _ _ _ _ _,
            by rw [← HO.out, insOuter_go _ _ _ _ _ hlt, ← HI.out, insInner_stop _ _ _ _ hs]⟩
        have OUT : Hid _ := out
        clear out
        go_wp2
        by_cases hja : a < j
        · go_quiet (first | (go_at_call 92; refine Calls.quiet_of_same (less_u _ _ _)))
          go_wp2
          · have hl : ltInt (G j) (G (j - 1)) = true := by assumption
            go_region
            all_goals go_wp2
            go_roundw
            case rel =>
              refine ⟨j - 1, m + (nq + 1), swp dj j (j - 1), by congr 1; omega, by omega, by omega, by rw [size_swp]; exact hsj, ?_, ?_⟩
              · rw [HW.out, HG.out, HG.out]
                exact swap_worldA _ w m (nq + 1) blk off dj j (j - 1) (by omega) (by omega)
              · rw [← HI.out, insInner_go ltInt a j dj hja (by rw [← HG.out, ← HG.out]; exact hl)]
            case measure => simp [intOf]; omega
          · have hl : ltInt (G j) (G (j - 1)) = false := by assumption
            go_roundw
            case rel => exact OUT.out (Or.inr (by rw [← HG.out, ← HG.out]; exact hl)) nq
            case measure => simp [intOf]; omega
        · go_quiet (first | (go_at_call 92; refine Calls.quiet_of_same (less_u _ _ _)))
          go_wp2
          go_roundw
          case rel => exact OUT.out (Or.inl (by omega)) nq
          case measure => simp [intOf]; omega
    · have hge : ¬ i < b := by assumption
      go_end0
      exact ⟨rfl, n, by unfold Sort.insertionSort; rw [← HO.out, insOuter_stop _ _ _ _ _ hge]⟩

set_option maxHeartbeats 1600000 in
set_option maxRecDepth 100000 in
theorem pdq_u (blk off cap : Nat) (lim : Int) (d : Array Int) (w : World) (hH : Holds U w blk off d) (h12 : d.size ≤ 12) :
    Calls Try.prog 77 #[.slice (some ⟨blk, off, none⟩) d.size cap, .int .i64 0, .int .i64 d.size, .int .i64 lim] w fun e w' =>
      e = .returned (.tuple #[]) ∧ ∃ n, w' = putRow U (Sort.ahead w n) blk off (Sort.insertionSort ltInt d 0 d.size) := by
  have hi := ins_u blk off cap 0 d.size d w hH (Nat.zero_le _) (Nat.le_refl _) (by omega)
  have h12' : ((d.size : Int) ≤ 12) := by omega
  go_enter Try.func77, Try.ntmps77
  go_wp2
  refine wp_loop_rounds 1 ?_
  rw [rounds_succ]
  go_wp2_with (go_at_call 86; refine hi.mono ?_; rintro e w' ⟨rfl, hw⟩)
  (try simp only [Exit.inBlock, Exit.then]); refine bodyPost_ret (results_none rfl _ _ _) rfl ?_
  exact ⟨rfl, hw⟩

set_option maxHeartbeats 1600000 in
set_option maxRecDepth 100000 in
/-- slices.Sort: the row ends holding the sorted list. -/
theorem sort_u (blk off cap : Nat) (zs : List Int) (w : World) (hH : Holds U w blk off zs.toArray) (h12 : zs.length ≤ 12) :
    Calls Try.prog 60 #[.slice (some ⟨blk, off, none⟩) zs.length cap] w fun e w' =>
      e = .returned (.tuple #[]) ∧ ∃ n, w' = putRow U (Sort.ahead w n) blk off (zs.mergeSort fun x y => decide (x ≤ y)).toArray := by
  have e1 : Sort.insertionSort ltInt zs.toArray 0 zs.length = (zs.mergeSort fun x y => decide (x ≤ y)).toArray := by
    obtain ⟨hP, hS⟩ := insertionSort_holds (lt := ltInt) swo_ltInt zs.toArray 0 zs.toArray.size (Nat.zero_le _) (Nat.le_refl _)
    have h := sorted_unique_holds swo_ltInt (fun x y h1 h2 => by simp only [ltInt, decide_eq_false_iff_not] at h1 h2; omega) zs.toArray _ hP hS
    rw [show zs.length = zs.toArray.size by simp]
    apply Array.toList_inj.1
    rw [h]
    congr 1
    funext x y
    show (!decide (y < x)) = decide (x ≤ y)
    rw [Bool.eq_iff_iff]; simp
  have hp : ∀ lim, Calls Try.prog 77 #[.slice (some ⟨blk, off, none⟩) zs.length cap, .int .i64 0, .int .i64 zs.length, .int .i64 lim] w fun e w' =>
      e = .returned (.tuple #[]) ∧ ∃ n, w' = putRow U (Sort.ahead w n) blk off (zs.mergeSort fun x y => decide (x ≤ y)).toArray := by
    intro lim
    have h := pdq_u blk off cap lim zs.toArray w hH (by simpa using h12)
    simp only [List.size_toArray] at h
    rw [e1] at h
    exact h
  clear e1
  go_enter Try.func60, Try.ntmps60
  go_wp2_with (first | (go_at_call 78; refine (Try.bits_Len (zs.length : Int) _ (by omega) (by omega)).mono ?_; rintro e w' ⟨rfl, rfl⟩) | (go_at_call 77; refine (hp _).mono ?_; rintro e w' ⟨rfl, hw⟩))
  go_end0
  exact ⟨rfl, hw⟩
end Go.Proofs.Ytipnhpfpppblhaa
