/- slices.Repeat of one number: a contract. -/
import Derived.Test.YtlepnnbgecneeaaPatR
import Derived.Laws.CopyOwn
import Derived.Laws.MakeOwn
import Derived.Deep.RegionLaw
import Derived.Test.YtlepnnbgecneeaaHeld
namespace Go.Proofs.Ytlepnnbgecneeaa
open Go.RowKit

theorem splice_rep {α : Type} (L : List α) (m c : Nat) (x : α) (h : L.take m = List.replicate m x) : (splice L m (List.replicate c x)).take (m + c) = List.replicate (m + c) x := by
  unfold splice
  rw [h, ← List.append_assoc, List.replicate_append_replicate, List.take_append_of_le_length (by simp)]
  exact List.take_of_length_le (by simp)
set_option maxHeartbeats 3200000 in
set_option maxRecDepth 100000 in
theorem repeat_is (w : World) (x : Int) (n b o c : Nat) (h1 : 1 ≤ n) (hn : n ≤ 100000) (hx : w.cell? ⟨b, o, none⟩ = some (.int .i64 x)) :
    Calls Try.prog 39 #[.slice (some ⟨b, o, none⟩) 1 c, .int .i64 n] w fun e w' => ∃ g cap, e = .returned (.slice (some ⟨g, 0, none⟩) n cap) ∧ w'.ownsRow w.heap.size 3 1 (.slice (some ⟨g, 0, none⟩) n cap) n (List.replicate n (.int .i64 x)) ∧ Below w.heap.size w w' := by
  obtain ⟨i0, hi, hz0, hz1, hz2⟩ := info_parts info_intP
  have hmul := fun w => Try.bits_Mul 1 n (by decide) (by omega) w
  have hd1 : 1 * n / 18446744073709551616 = 0 := Nat.div_eq_of_lt (by omega)
  have hd2 : 1 * n % 18446744073709551616 = n := by rw [Nat.one_mul]; exact Nat.mod_eq_of_lt (by omega)
  rw [hd1, hd2] at hmul
  have hmk := run_makeSlice (P := Try.prog) w 58 3 i0 (.int .i64 0) Try.underlying58 hi hz0 .i64 .i64 (n : Int) n (by omega) (Int.le_refl _) (by rw [hz1]; simp; omega) (by rw [hz2]; omega) (by omega)
  have hnn : ((n : Int)).toNat = n := Int.toNat_natCast n
  rw [hnn, hz1] at hmk
  have hsize : (madeCells (Value.int .i64 0).cells (n * 1)).size = n := by rw [size_madeCells]; omega
  have hba := alloc_below w (.cells (madeCells (Value.int .i64 0).cells (n * 1)) 3)
  have hg0 : (w.alloc (.cells (madeCells (Value.int .i64 0).cells (n * 1)) 3)).heap[w.heap.size]? = some (.cells (madeCells (Value.int .i64 0).cells (n * 1)).toList.toArray 3 (0, 0)) := by rw [heap_alloc_new]
  generalize hW : w.alloc (.cells (madeCells (Value.int .i64 0).cells (n * 1)) 3) = W0 at *
  generalize hcur : (madeCells (Value.int .i64 0).cells (n * 1)).toList = cur0 at *
  have hlen : cur0.length = n := by rw [← hcur]; simpa using hsize
  have hxb : b < w.heap.size := by
    apply Classical.byContradiction
    intro hge
    have : w.heap[b]? = none := Array.getElem?_eq_none (by omega)
    simp [World.cell?, this] at hx
  have hx1 : W0.cell? ⟨b, o, none⟩ = some (.int .i64 x) := keep_cell hx hba hxb
  clear hcur hW hd1 hd2 hnn
  go_enter Try.func39, Try.ntmps39
  go_wp2_with fail
  refine (hmul w).mono ?_
  rintro e w' ⟨rfl, hww⟩
  obtain rfl := hww.symm
  clear hmul
  have hmin : ([.int .i64 x] : List Value).length = Nat.min 1 n := (Nat.min_eq_left h1).symm
  have hcs : ∀ (j : Nat) (v : Value), ([.int .i64 x] : List Value)[j]? = some v → W0.cell? ((⟨b, o, none⟩ : Addr).add j) = some v := fun j v hj => by
    have h0 : j = 0 := by
      have := (List.getElem?_eq_some_iff.1 hj).1
      simp at this; omega
    subst h0
    simp at hj
    rw [← hj]; exact hx1
  have hone : ∀ u ∈ ([.int .i64 x] : List Value), u.oneCell' = true := by
    intro u hu; simp at hu; subst hu; rfl
  go_wp2_with ((refine wpList_copy_splice rfl (.tmp 31) (.tmp 32) 58 58 rfl 3 Try.underlying58 (by kernel_rfl) _ _ n n 1 c rfl rfl w.heap.size 0 cur0 3 hg0 [.int .i64 x] hmin (fun _ => ⟨rfl, _, rfl, hcs⟩) (by rw [hlen]; exact h1) hone w.heap.size w hba (Nat.le_refl _) ?_); intro w1 hg1 hb1)
  have hl1 : (splice cur0 0 [.int .i64 x]).length = n := by rw [length_splice _ _ _ (by rw [hlen]; exact h1), hlen]
  have ht1 : (splice cur0 0 [.int .i64 x]).take 1 = List.replicate 1 (.int .i64 x) := by simp [splice]
  generalize splice cur0 0 [.int .i64 x] = L1 at *
  have HL1 := Lib.hid hl1
  have HT1 := Lib.hid ht1
  clear hl1 ht1 hg0 hx1 hcs hba hmk
  go_wp2

  go_loopw [8] (fun vi wr => ∃ (m : Nat) (L : List Value), vi = .int .i64 m ∧ 1 ≤ m ∧ m ≤ n ∧ Hid (L.length = n) ∧ Hid (L.take m = List.replicate m (.int .i64 x)) ∧ Hid (wr.heap[w.heap.size]? = some (.cells L.toArray 3 (0, 0))) ∧ Below w.heap.size w wr) (fun vi _ => n - (intOf vi).toNat)
  case atStart => exact ⟨1, L1, by first | rfl | go_num, Nat.le_refl _, h1, HL1, HT1, hg1, hb1⟩
  case round =>
    clear hg1 hb1 HL1 HT1 W0
    obtain ⟨m, L, rfl, hm1, hmn, HL, HT, HG, hbr⟩ := hrel
    have hLl := HL.out
    by_cases hlt : m < n
    · have hG : wr.drew.heap[w.heap.size]? = some (.cells L.toArray 3 (0, 0)) := HG.out
      have hbd : Below w.heap.size w wr.drew := hbr.drew
      obtain ⟨k, hk⟩ : ∃ k, Nat.min m (n - m) = k := ⟨_, rfl⟩
      have hkm : k ≤ m := hk ▸ Nat.min_le_left _ _
      have hkn : k ≤ n - m := hk ▸ Nat.min_le_right _ _
      have hk1 : 1 ≤ k := by rw [← hk]; exact Nat.le_min.2 ⟨hm1, by omega⟩
      have hcl : (List.replicate k (Value.int .i64 x)).length = Nat.min m (n - m) := by rw [List.length_replicate, hk]
      have hsrc : ∀ (j : Nat) (v : Value), (List.replicate k (Value.int .i64 x))[j]? = some v → wr.drew.cell? ((⟨w.heap.size, 0, none⟩ : Addr).add j) = some v := fun j v hj => by
        have h1 := (List.getElem?_eq_some_iff.1 hj).1
        simp at h1
        have h2 : L[j]? = some (.int .i64 x) := by
          have h3 : (L.take m)[j]? = (List.replicate m (Value.int .i64 x))[j]? := by rw [HT.out]
          rw [List.getElem?_take_of_lt (by omega), List.getElem?_replicate_of_lt (by omega)] at h3
          exact h3
        rw [List.getElem?_replicate_of_lt (by omega)] at hj
        rw [← hj]
        have e : (⟨w.heap.size, 0, none⟩ : Addr).add j = ⟨w.heap.size, j, none⟩ := by unfold Addr.add; split <;> simp_all
        rw [e, cell_of_row _ _ _ _ _ _ hG, List.getElem?_toArray, h2]
      have hone2 : ∀ u ∈ List.replicate k (Value.int .i64 x), u.oneCell' = true := by
        intro u hu; rw [(List.mem_replicate.1 hu).2]; rfl
      have hfit : m + (List.replicate k (Value.int .i64 x)).length ≤ L.length := by rw [List.length_replicate, hLl]; omega
      have hgo : goInt (List.replicate k (Value.int .i64 x)).length = .int .i64 k := by rw [List.length_replicate]; rfl
      have hli : (m : Int) ≤ (n : Int) := by omega
      have hli2 : ¬ n = m := by omega
      have hli3 : ¬ (n : Int) = (m : Int) := by omega
      have hmk : (m : Int) + (k : Int) ≤ 9223372036854775807 := by omega
      have hmk0 : -9223372036854775808 ≤ (m : Int) + (k : Int) := by omega
      have hwr : IntKind.i64.wrap ((m : Int) + (k : Int)) = (m : Int) + (k : Int) := by
        simp [IntKind.wrap, IntKind.signed, IntKind.bits]; omega
      go_upto_region 9 with fail
      refine wp_region_held_drew (S := (fun _ => True)) (by kernel_rfl) trivial (fun hHeld => ?_)
      refine held_take (i := 0) (v := ?_) rfl rfl (by kernel_rfl) (by kernel_rfl) (by kernel_rfl) (fun _ _ _ h => h) (by rfl) hHeld ?_ ?_
      rotate_left
      · rintro wh _
        go_simp
        (try with_reducible rfl)
      simp only [Act.put, List.setIfInBounds_toArray, List.set_cons_zero, List.set_cons_succ]
      refine held_take (i := 1) (v := ?_) rfl rfl (by kernel_rfl) (by kernel_rfl) (by kernel_rfl) (fun _ _ _ h => h) (by rfl) hHeld ?_ ?_
      rotate_left
      · rintro wh _
        go_simp
        (try with_reducible rfl)
      simp only [Act.put, List.setIfInBounds_toArray, List.set_cons_zero, List.set_cons_succ]
      refine held_take (i := 2) (v := ?_) rfl rfl (by kernel_rfl) (by kernel_rfl) (by kernel_rfl) (fun _ _ _ h => h) (by rfl) hHeld ?_ ?_
      rotate_left
      · rintro wh _
        go_simp
        (try with_reducible rfl)
      simp only [Act.put, List.setIfInBounds_toArray, List.set_cons_zero, List.set_cons_succ]
      refine held_take (i := 3) (v := ?_) rfl rfl (by kernel_rfl) (by kernel_rfl) (by kernel_rfl) (fun _ _ _ h => h) (by rfl) hHeld ?_ ?_
      rotate_left
      · rintro wh _
        go_simp
        (try with_reducible rfl)
      simp only [Act.put, List.setIfInBounds_toArray, List.set_cons_zero, List.set_cons_succ]
      refine held_take (i := 4) (v := ?_) rfl rfl (by kernel_rfl) (by kernel_rfl) (by kernel_rfl) (fun _ _ _ h => h) (by rfl) hHeld ?_ ?_
      rotate_left
      · rintro wh _
        go_simp
        (try with_reducible rfl)
      simp only [Act.put, List.setIfInBounds_toArray, List.set_cons_zero, List.set_cons_succ]
      refine held_take (i := 5) (v := ?_) rfl rfl (by kernel_rfl) (by kernel_rfl) (by kernel_rfl) (fun _ _ _ h => h) (by rfl) hHeld ?_ ?_
      rotate_left
      · rintro wh _
        go_simp
        (try with_reducible rfl)
      simp only [Act.put, List.setIfInBounds_toArray, List.set_cons_zero, List.set_cons_succ]
      refine held_take (i := 6) (v := ?_) rfl rfl (by kernel_rfl) (by kernel_rfl) (by kernel_rfl) (fun _ _ _ h => h) (by rfl) hHeld ?_ ?_
      rotate_left
      · rintro wh _
        go_simp
        (try with_reducible rfl)
      simp only [Act.put, List.setIfInBounds_toArray, List.set_cons_zero, List.set_cons_succ]
      refine held_step (i := 7) rfl (by kernel_rfl) (fun K hK => ?_)
      (refine step_copy_splice rfl (.tmp 41) (.tmp 44) 58 58 rfl 3 Try.underlying58 (by kernel_rfl) (some ⟨w.heap.size, m, none⟩) (some ⟨w.heap.size, 0, none⟩) (n - m) (n - m) m n rfl rfl w.heap.size m L 3 hG (List.replicate k (.int .i64 x)) hcl (fun _ => ⟨rfl, _, rfl, hsrc⟩) hfit hone2 w.heap.size w hbd (Nat.le_refl _) ?_; intro w4 hg4 hb4; rw [hgo])
      refine hK.out _ _ trivial (fun hHeld => ?_)
      clear hK K
      simp only [List.getElem_toArray, List.getElem_cons_succ, List.getElem_cons_zero, Act.put, List.setIfInBounds_toArray, List.set_cons_zero, List.set_cons_succ]
      refine held_take (i := 8) (v := ?_) rfl rfl (by kernel_rfl) (by kernel_rfl) (by kernel_rfl) (fun _ _ _ h => h) (by rfl) hHeld ?_ ?_
      rotate_left
      · rintro wh _
        go_simp
        (try with_reducible rfl)
      simp only [Act.put, List.setIfInBounds_toArray, List.set_cons_zero, List.set_cons_succ]
      refine held_take (i := 9) (v := ?_) rfl rfl (by kernel_rfl) (by kernel_rfl) (by kernel_rfl) (fun _ _ _ h => h) (by rfl) hHeld ?_ ?_
      rotate_left
      · rintro wh _
        go_simp
        (try with_reducible rfl)
      simp only [Act.put, List.setIfInBounds_toArray, List.set_cons_zero, List.set_cons_succ]
      refine wpAnyH_done (by kernel_rfl) ?_ _
      have q1 : Hid ((splice L m (List.replicate k (.int .i64 x))).length = n) := Lib.hid (by rw [length_splice _ _ _ hfit, hLl])
      have q2 : Hid ((splice L m (List.replicate k (.int .i64 x))).take (m + k) = List.replicate (m + k) (.int .i64 x)) := Lib.hid (splice_rep L m k _ HT.out)
      clear hHeld hfit hone2 hsrc hcl hbd hG hk hgo hLl HT HG HL
      go_wp2

      go_roundw
      case rel => exact ⟨m + k, _, by go_num, by omega, by omega, q1, q2, hg4, hb4⟩
      case measure => (simp [intOf]; try omega)
    · obtain rfl : m = n := by omega
      go_wp2
      go_ret
      have htk := HT.out
      have hown : wr.ownsRow w.heap.size 3 1 (.slice (some ⟨w.heap.size, 0, none⟩) m m) m (List.replicate m (.int .i64 x)) :=
        ⟨by simp, .inr ⟨_, m, L.toArray, rfl, Nat.le_refl _, HG.out, Nat.le_refl _, by unfold maxLen; omega, by simp [hLl], by simpa using htk⟩⟩
      exact ⟨_, _, rfl, hown, hbr⟩
end Go.Proofs.Ytlepnnbgecneeaa
