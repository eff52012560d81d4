/- lychgate/clock: New, from. -/
import Derived.Test.YtkhcckfnaahbeaaClk
import Derived.Deep.DeepCutAuto
import Derived.Deep.RegionWith
import Derived.Lib.Hide
namespace Go.Proofs.Ytkhcckfnaahbeaa
open Go.RowKit

theorem ClkAt.cells {w : World} {base p : Nat} {S : Ck} (h : ClkAt w base p S) : ∃ tv, w.cell? ⟨p, 0, none⟩ = some (.int .i64 S.wait) ∧ w.cell? ⟨p, 1, none⟩ = some (.int .i64 S.gap) ∧ w.cell? ⟨p, 2, none⟩ = some (.int .i64 S.rep) ∧ w.cell? ⟨p, 3, none⟩ = some (.int .i64 S.first) ∧
    w.cell? ⟨p, 4, none⟩ = some (.int .i64 S.last) ∧ w.cell? ⟨p, 5, none⟩ = some (.int .i64 S.now) ∧ w.cell? ⟨p, 6, none⟩ = some tv ∧ p < w.heap.size ∧ w.ownsRow base 45 1 tv S.told.length (S.told.map U) ∧
    w.heap[p]? = some (.cells #[.int .i64 S.wait, .int .i64 S.gap, .int .i64 S.rep, .int .i64 S.first, .int .i64 S.last, .int .i64 S.now, tv] 51 (0, 0)) := by
  obtain ⟨_, tv, hc, hown⟩ := h
  refine ⟨tv, ?_, ?_, ?_, ?_, ?_, ?_, ?_, block_lt hc, hown, hc⟩ <;> (rw [cell_of_row _ _ _ _ _ _ hc]; rfl)

set_option maxHeartbeats 800000 in
set_option maxRecDepth 100000 in
theorem new_any (a b c : Int) (w : World) : Calls Try.prog 10 #[.int .i64 a, .int .i64 b, .int .i64 c] w fun e w' =>
    ∃ p, e = .returned (.pointer (some ⟨p, 0, none⟩)) ∧ ClkAt w' w.heap.size p (newM a b c) ∧ p < w'.heap.size ∧ Below w.heap.size w w' := by
  go_enter Try.func10, Try.ntmps10
  go_wp2
  go_ret
  refine ⟨w.heap.size, rfl, ⟨Nat.le_refl _, .slice none 0 0, ?_, World.ownsRow_nil _ _ _ _⟩, ?_, ?_⟩
  · exact heap_alloc_new _ _
  · rw [World.size_alloc]; omega
  · exact (Below.refl _ _).alloc (Nat.le_refl _) _

set_option maxHeartbeats 3200000 in
set_option maxRecDepth 100000 in
theorem from_any (S : Ck) (now : Int) (ids : List Int) (w : World) (base p : Nat) (v : Value) (hC : ClkAt w base p S) (hids : IdsAt w v ids) (hne : ids ≠ []) (h12 : ids.length ≤ 1000) (hS : S.Ok) (hn : S.now ≤ now) (hn2 : now ≤ 1099511627776) :
    Calls Try.prog 25 #[.pointer (some ⟨p, 0, none⟩), .int .i64 now, v] w fun e w' => e = .returned (.int .i64 (fromM S now ids)) ∧ Below w.heap.size w w' := by
  obtain ⟨tv, c0, c1, c2, c3, c4, c5, c6, hp, hown, _⟩ := hC.cells
  obtain ⟨w0, w1, g0, g1, r0, r1, f0, f1, l0, l1, n0, n1, t⟩ := hS
  have HF : Hid (fromM S now ids = max (if S.last = -1 then (if S.first = -1 then now + S.wait else S.first + S.wait)
    else max (if S.first = -1 then now + S.wait else S.first + S.wait) (S.last + (if setL ids = S.told then S.rep else S.gap))) now) := Lib.hid rfl
  generalize fromM S now ids = R at *
  obtain ⟨wt, gp, rp, fi, la, nw, td⟩ := S
  simp only at *
  obtain ⟨b, hb⟩ : ∃ b, b = decide (setL ids = td) := ⟨_, rfl⟩
  have HB := Lib.hid hb
  have hset : ∀ W, Below w.heap.size w W → Calls Try.prog 24 #[v] W fun e w' => ∃ v', e = .returned v' ∧ w'.ownsRow W.heap.size 45 1 v' (setL ids).length ((setL ids).map U) ∧ Below W.heap.size W w' := fun W hb => set_any ids W v (hids.later hb) hne h12
  have hequal : ∀ W v', IdsAt W v' (setL ids) → IdsAt W tv td → Calls Try.prog 29 #[v', tv] W fun e w' => e = .returned (.bool b) ∧ Below W.heap.size W w' := fun W v' h1 h2 => by
    rw [hb]; exact equal_any (setL ids) td W v' tv h1 h2 (fun h => hne (setL_nil.1 h)) (by have := setL_len ids; omega)
  clear hb hids hC
  rcases Int.lt_or_le la 0 with hl | hl
  · obtain rfl : la = -1 := by omega
    rcases Int.lt_or_le fi 0 with hf | hf
    · obtain rfl : fi = -1 := by omega
      go_enter Try.func25, Try.ntmps25
      go_wp2_with fail
      go_region_with (first | (go_at_call 24; refine (hset _ (by first | exact (Below.refl _ _).drew | exact ((Below.refl _ _).drew).drew)).mono ?_; rintro e w1 ⟨v', rfl, hown1, hb1⟩; have hB1 : Below w.heap.size w w1 := (by first | exact ((Below.refl _ _).drew).trans hb1 | exact (((Below.refl _ _).drew).drew).trans hb1); have d6 := (hB1.cell (p := ⟨p, 6, none⟩) hp).trans c6) | (go_at_call 29; refine (hequal _ v' (IdsAt.own hown1) (IdsAt.own (own_later hown hB1))).mono ?_; rintro e w2 ⟨rfl, hb2⟩; have hB2 : Below w.heap.size w w2 := hB1.trans (hb2.mono hB1.size); have e2 := (hB2.cell (p := ⟨p, 2, none⟩) hp).trans c2; have e4 := (hB2.cell (p := ⟨p, 4, none⟩) hp).trans c4))
      all_goals (
        clear hown hown1 hequal hset d6
        have HB2 := Lib.hid hB2
        clear hB2 hB1 hb1 hb2
        cases b with
        | true =>
          go_wp2
          go_ret
          exact ⟨ret_eq (by have h : setL ids = td := (by simpa using HB.out); rw [HF.out]; simp [*]), HB2.out⟩
        | false =>
          go_wp2
          go_ret
          exact ⟨ret_eq (by have h : ¬ setL ids = td := (by simpa using HB.out); rw [HF.out]; simp [*]), HB2.out⟩)
    · have hfb : (fi != -1) = true := by simp; omega
      have hf1 : ¬ fi = -1 := by omega
      go_enter Try.func25, Try.ntmps25
      go_wp2_with fail
      go_region
      all_goals go_wp2_with fail
      go_region_with (first | (go_at_call 24; refine (hset _ (by first | exact (Below.refl _ _).drew | exact ((Below.refl _ _).drew).drew)).mono ?_; rintro e w1 ⟨v', rfl, hown1, hb1⟩; have hB1 : Below w.heap.size w w1 := (by first | exact ((Below.refl _ _).drew).trans hb1 | exact (((Below.refl _ _).drew).drew).trans hb1); have d6 := (hB1.cell (p := ⟨p, 6, none⟩) hp).trans c6) | (go_at_call 29; refine (hequal _ v' (IdsAt.own hown1) (IdsAt.own (own_later hown hB1))).mono ?_; rintro e w2 ⟨rfl, hb2⟩; have hB2 : Below w.heap.size w w2 := hB1.trans (hb2.mono hB1.size); have e2 := (hB2.cell (p := ⟨p, 2, none⟩) hp).trans c2; have e4 := (hB2.cell (p := ⟨p, 4, none⟩) hp).trans c4))
      all_goals (
        clear hown hown1 hequal hset d6
        have HB2 := Lib.hid hB2
        clear hB2 hB1 hb1 hb2
        cases b with
        | true =>
          go_wp2
          go_ret
          exact ⟨ret_eq (by have h : setL ids = td := (by simpa using HB.out); rw [HF.out]; simp [*]), HB2.out⟩
        | false =>
          go_wp2
          go_ret
          exact ⟨ret_eq (by have h : ¬ setL ids = td := (by simpa using HB.out); rw [HF.out]; simp [*]), HB2.out⟩)
  · have hlb : (la != -1) = true := by simp; omega
    have hl1 : ¬ la = -1 := by omega
    rcases Int.lt_or_le fi 0 with hf | hf
    · obtain rfl : fi = -1 := by omega
      go_enter Try.func25, Try.ntmps25
      go_wp2_with fail
      go_region_with (first | (go_at_call 24; refine (hset _ (by first | exact (Below.refl _ _).drew | exact ((Below.refl _ _).drew).drew)).mono ?_; rintro e w1 ⟨v', rfl, hown1, hb1⟩; have hB1 : Below w.heap.size w w1 := (by first | exact ((Below.refl _ _).drew).trans hb1 | exact (((Below.refl _ _).drew).drew).trans hb1); have d6 := (hB1.cell (p := ⟨p, 6, none⟩) hp).trans c6) | (go_at_call 29; refine (hequal _ v' (IdsAt.own hown1) (IdsAt.own (own_later hown hB1))).mono ?_; rintro e w2 ⟨rfl, hb2⟩; have hB2 : Below w.heap.size w w2 := hB1.trans (hb2.mono hB1.size); have e2 := (hB2.cell (p := ⟨p, 2, none⟩) hp).trans c2; have e4 := (hB2.cell (p := ⟨p, 4, none⟩) hp).trans c4))
      all_goals (
        clear hown hown1 hequal hset d6
        have HB2 := Lib.hid hB2
        clear hB2 hB1 hb1 hb2
        cases b with
        | true =>
          go_wp2
          go_ret
          exact ⟨ret_eq (by have h : setL ids = td := (by simpa using HB.out); rw [HF.out]; simp [*]), HB2.out⟩
        | false =>
          go_wp2
          go_ret
          exact ⟨ret_eq (by have h : ¬ setL ids = td := (by simpa using HB.out); rw [HF.out]; simp [*]), HB2.out⟩)
    · have hfb : (fi != -1) = true := by simp; omega
      have hf1 : ¬ fi = -1 := by omega
      go_enter Try.func25, Try.ntmps25
      go_wp2_with fail
      go_region
      all_goals go_wp2_with fail
      go_region_with (first | (go_at_call 24; refine (hset _ (by first | exact (Below.refl _ _).drew | exact ((Below.refl _ _).drew).drew)).mono ?_; rintro e w1 ⟨v', rfl, hown1, hb1⟩; have hB1 : Below w.heap.size w w1 := (by first | exact ((Below.refl _ _).drew).trans hb1 | exact (((Below.refl _ _).drew).drew).trans hb1); have d6 := (hB1.cell (p := ⟨p, 6, none⟩) hp).trans c6) | (go_at_call 29; refine (hequal _ v' (IdsAt.own hown1) (IdsAt.own (own_later hown hB1))).mono ?_; rintro e w2 ⟨rfl, hb2⟩; have hB2 : Below w.heap.size w w2 := hB1.trans (hb2.mono hB1.size); have e2 := (hB2.cell (p := ⟨p, 2, none⟩) hp).trans c2; have e4 := (hB2.cell (p := ⟨p, 4, none⟩) hp).trans c4))
      all_goals (
        clear hown hown1 hequal hset d6
        have HB2 := Lib.hid hB2
        clear hB2 hB1 hb1 hb2
        cases b with
        | true =>
          go_wp2
          go_ret
          exact ⟨ret_eq (by have h : setL ids = td := (by simpa using HB.out); rw [HF.out]; simp [*]), HB2.out⟩
        | false =>
          go_wp2
          go_ret
          exact ⟨ret_eq (by have h : ¬ setL ids = td := (by simpa using HB.out); rw [HF.out]; simp [*]), HB2.out⟩)
end Go.Proofs.Ytkhcckfnaahbeaa
