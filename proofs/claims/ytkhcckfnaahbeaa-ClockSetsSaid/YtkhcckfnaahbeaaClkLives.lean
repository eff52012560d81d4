/- lychgatelaw12.lives is true; lychgateref12.New; a clock that is nil. -/
import Derived.Test.YtkhcckfnaahbeaaClkAsk
import Derived.Test.YtkhcckfnaahbeaaSteps
namespace Go.Proofs.Ytkhcckfnaahbeaa
open Go.RowKit

/-- the clock at p, and what the law found as it was -/
def Cs (w0 : World) (p : Nat) (S : Ck) (W : World) : Prop := ClkAt W w0.heap.size p S ∧ Below w0.heap.size w0 W
theorem Cs.later {w0 : World} {p : Nat} {S : Ck} {W W' : World} (h : Cs w0 p S W) (hb : Below W.heap.size W W') : Cs w0 p S W' := ⟨h.1.later hb, h.2.trans (hb.mono h.2.size)⟩
theorem Cs.lt {w0 : World} {p : Nat} {S : Ck} {W : World} (h : Cs w0 p S W) : p < W.heap.size := by
  obtain ⟨_, tv, hc, _⟩ := h.1; exact block_lt hc
theorem Cs.grown {w0 : World} {p : Nat} {S S' : Ck} {W W' : World} (h : Cs w0 p S W) (hC : ClkAt W' w0.heap.size p S') (hg : W.grownBy W' (some p)) : Cs w0 p S' W' := ⟨hC, h.2.trans (below_of_row hg h.1.1 h.2.size)⟩
theorem ask_cs {w0 : World} {p : Nat} {S : Ck} {W : World} (h : Cs w0 p S W) (now : Int) (ids : List Int) (v : Value) (hids : IdsAt W v ids) (hfar : ids ≠ [] → v.ownBlock ≠ some p) (h12 : ids.length ≤ 1000) (hS : S.Ok) :
    Calls Try.prog 14 #[.pointer (some ⟨p, 0, none⟩), .int .i64 now, v] W fun e w' => e = .returned (.tuple #[.bool (askM S now ids), .int .i64 (errM S now)]) ∧ Cs w0 p (leftM S now ids) w' ∧ W.grownBy w' (some p) := by
  refine (ask_any S now ids W w0.heap.size p v h.1 hids hfar h12 hS h.2.size).mono ?_
  rintro e w' ⟨rfl, hC, hg⟩
  exact ⟨rfl, h.grown hC hg, hg⟩
theorem ask_arg {w0 : World} {p : Nat} {S : Ck} {W : World} (h : Cs w0 p S W) (now : Int) (ids : List Int) (v : Value) (hids : IdsAt w0 v ids) (h12 : ids.length ≤ 1000) (hS : S.Ok) :
    Calls Try.prog 14 #[.pointer (some ⟨p, 0, none⟩), .int .i64 now, v] W fun e w' => e = .returned (.tuple #[.bool (askM S now ids), .int .i64 (errM S now)]) ∧ Cs w0 p (leftM S now ids) w' ∧ W.grownBy w' (some p) :=
  ask_cs h now ids v (hids.later h.2) (ids_far hids h.1.1) h12 hS
theorem one_ids (w : World) (x : Int) : IdsAt (w.alloc (.cells #[U x] 45)) (.slice (some ⟨w.heap.size, 0, none⟩) 1 1) [x] := rd_one12 w (U x) 45
theorem one_far (w : World) (p : Nat) (h : p < w.heap.size) (l : List Int) (n c : Nat) : l ≠ [] → (Value.slice (some ⟨w.heap.size, 0, none⟩) n c).ownBlock ≠ some p := by
  intro _ e
  have : w.heap.size = p := by simpa [Value.ownBlock] using e
  omega
theorem alloc_below (w : World) (o : Obj) : Below w.heap.size w (w.alloc o) := (Below.refl _ _).alloc (Nat.le_refl _) _

def L0 : Ck := ⟨10, 5, 20, -1, -1, 0, []⟩
def L1 : Ck := ⟨10, 5, 20, 0, -1, 0, []⟩
def L2 : Ck := ⟨10, 5, 20, 0, -1, 9, []⟩
def L3 : Ck := ⟨10, 5, 20, 0, 10, 10, [1]⟩
theorem l0 : newM 10 5 20 = L0 := rfl
theorem l0_ok : L0.Ok := l0 ▸ newM_ok 10 5 20
theorem l1 : leftM L0 0 [1] = L1 := rfl
theorem l1_ok : L1.Ok := l1 ▸ leftM_ok l0_ok 0 [1] (by decide)
theorem l2 : leftM L1 9 [1] = L2 := rfl
theorem l2_ok : L2.Ok := l2 ▸ leftM_ok l1_ok 9 [1] (by decide)
theorem l3 : leftM L2 10 [1] = L3 := rfl
theorem l3_ok : L3.Ok := l3 ▸ leftM_ok l2_ok 10 [1] (by decide)

set_option maxHeartbeats 1600000 in
set_option maxRecDepth 100000 in
theorem lives_any (w : World) : Calls Try.prog 9 #[] w fun e w' => e = .returned (.bool true) ∧ Below w.heap.size w w' := by
  go_enter Try.func9, Try.ntmps9
  go_wp2_with fail
  refine (new_any 10 5 20 _).mono ?_
  rintro e w1 ⟨p, rfl, hC, _, hb1⟩
  rw [l0] at hC
  have c1 : Cs w p L0 w1 := ⟨hC, hb1⟩
  have k1 := ask_cs (c1.later (alloc_below w1 (.cells #[U 1] 45))) 0 [1] _ (one_ids w1 1) (one_far w1 p c1.lt _ _ _) (by decide) l0_ok
  rw [l1, show askM L0 0 [1] = false from rfl, show errM L0 0 = 0 from rfl] at k1
  clear hC hb1 c1
  go_wp2_with fail
  refine k1.mono ?_
  rintro e w2 ⟨rfl, c2, _⟩
  have k2 := ask_cs (c2.later (alloc_below w2 (.cells #[U 1] 45))) 9 [1] _ (one_ids w2 1) (one_far w2 p c2.lt _ _ _) (by decide) l1_ok
  rw [l2, show askM L1 9 [1] = false from rfl, show errM L1 9 = 0 from rfl] at k2
  clear k1 c2
  go_wp2_with fail
  refine k2.mono ?_
  rintro e w3 ⟨rfl, c3, _⟩
  have c3' := c3.later (alloc_below w3 (.cells #[U 1] 45))
  have k3 := next_any L2 [1] _ w.heap.size p _ c3'.1 (one_ids w3 1) (by decide) l2_ok
  rw [show nextM L2 [1] = 10 from rfl] at k3
  clear k2 c3
  go_wp2_with fail
  refine k3.mono ?_
  rintro e w4 ⟨rfl, hb4⟩
  have c4 := c3'.later hb4
  have k4 := ask_cs (c4.later (alloc_below w4 (.cells #[U 1] 45))) 10 [1] _ (one_ids w4 1) (one_far w4 p c4.lt _ _ _) (by decide) l2_ok
  rw [l3, show askM L2 10 [1] = true from rfl, show errM L2 10 = 0 from rfl] at k4
  clear k3 c3' c4 hb4
  go_wp2_with fail
  refine k4.mono ?_
  rintro e w5 ⟨rfl, c5, _⟩
  have k5 := last_any L3 w5 w.heap.size p c5.1
  rw [show L3.last = 10 from rfl] at k5
  clear k4
  go_wp2_with fail
  refine k5.mono ?_
  rintro e w6 ⟨rfl, rfl⟩
  have c6' := c5.later (alloc_below w6 (.cells #[U 2] 45))
  have k6 := next_any L3 [2] _ w.heap.size p _ c6'.1 (one_ids w6 2) (by decide) l3_ok
  rw [show nextM L3 [2] = 15 from rfl] at k6
  clear k5 c5
  go_wp2_with fail
  refine k6.mono ?_
  rintro e w7 ⟨rfl, hb7⟩
  have c7 := c6'.later hb7
  clear k6 c6' hb7
  go_wp2
  go_ret
  exact ⟨rfl, c7.2⟩

/-! ### the reference's New -/
theorem RClkAt.cells {w : World} {base p : Nat} {S : Ck} (h : RClkAt w base p S) : ∃ tv, w.cell? ⟨p, 0, none⟩ = some (.int .i64 S.wait) ∧ w.cell? ⟨p, 1, none⟩ = some (.int .i64 S.gap) ∧ w.cell? ⟨p, 2, none⟩ = some (.int .i64 S.rep) ∧ w.cell? ⟨p, 3, none⟩ = some (.int .i64 S.first) ∧
    w.cell? ⟨p, 4, none⟩ = some (.int .i64 S.last) ∧ w.cell? ⟨p, 5, none⟩ = some tv ∧ w.cell? ⟨p, 6, none⟩ = some (.int .i64 S.now) ∧ p < w.heap.size ∧ w.ownsRow base 45 1 tv S.told.length (S.told.map U) ∧
    w.heap[p]? = some (.cells #[.int .i64 S.wait, .int .i64 S.gap, .int .i64 S.rep, .int .i64 S.first, .int .i64 S.last, tv, .int .i64 S.now] 39 (0, 0)) := by
  obtain ⟨_, tv, hc, hown⟩ := h
  refine ⟨tv, ?_, ?_, ?_, ?_, ?_, ?_, ?_, block_lt hc, hown, hc⟩ <;> (rw [cell_of_row _ _ _ _ _ _ hc]; rfl)
set_option maxHeartbeats 800000 in
set_option maxRecDepth 100000 in
theorem rnew_any (a b c : Int) (w : World) : Calls Try.prog 11 #[.int .i64 a, .int .i64 b, .int .i64 c] w fun e w' =>
    ∃ p, e = .returned (.pointer (some ⟨p, 0, none⟩)) ∧ RClkAt w' w.heap.size p (newM a b c) ∧ Below w.heap.size w w' := by
  go_enter Try.func11, Try.ntmps11
  go_wp2
  go_ret
  refine ⟨w.heap.size, rfl, ⟨Nat.le_refl _, .slice none 0 0, ?_, World.ownsRow_nil _ _ _ _⟩, ?_⟩
  · exact heap_alloc_new _ _
  · exact (Below.refl _ _).alloc (Nat.le_refl _) _

/-! ### no clock -/
theorem nil_ask (now : Int) (v : Value) (w : World) : Calls Try.prog 14 #[.pointer none, .int .i64 now, v] w fun e w' => e = .returned (.tuple #[.bool false, .int .i64 1]) ∧ w' = w := by
  go_enter Try.func14, Try.ntmps14
  go_wp2
  go_ret2
  exact ⟨rfl, rfl⟩
theorem nil_due (now : Int) (v : Value) (w : World) : Calls Try.prog 17 #[.pointer none, .int .i64 now, v] w fun e w' => e = .returned (.bool false) ∧ w' = w := by
  go_enter Try.func17, Try.ntmps17
  go_wp2
  go_ret
  exact ⟨rfl, rfl⟩
theorem nil_next (v : Value) (w : World) : Calls Try.prog 16 #[.pointer none, v] w fun e w' => e = .returned (.int .i64 (-1)) ∧ w' = w := by
  go_enter Try.func16, Try.ntmps16
  go_wp2
  go_ret
  exact ⟨rfl, rfl⟩
theorem nil_last (w : World) : Calls Try.prog 18 #[.pointer none] w fun e w' => e = .returned (.int .i64 (-1)) ∧ w' = w := by
  go_enter Try.func18, Try.ntmps18
  go_wp2
  go_ret
  exact ⟨rfl, rfl⟩
theorem nil_now (w : World) : Calls Try.prog 20 #[.pointer none] w fun e w' => e = .returned (.int .i64 0) ∧ w' = w := by
  go_enter Try.func20, Try.ntmps20
  go_wp2
  go_ret
  exact ⟨rfl, rfl⟩
theorem nil_told (w : World) : Calls Try.prog 19 #[.pointer none] w fun e w' => e = .returned (.slice none 0 0) ∧ w' = w := by
  go_enter Try.func19, Try.ntmps19
  go_wp2
  go_ret
  exact ⟨rfl, rfl⟩
end Go.Proofs.Ytkhcckfnaahbeaa
