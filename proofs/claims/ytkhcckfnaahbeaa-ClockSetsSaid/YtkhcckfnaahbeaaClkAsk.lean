/- lychgate/clock: Due, Ask, Next, Told, Last, Now. -/
import Derived.Test.YtkhcckfnaahbeaaClkFrom
import Derived.Laws.Rows
import Derived.Deep.AppendLies
namespace Go.Proofs.Ytkhcckfnaahbeaa
open Go.RowKit

theorem IdsAt.beside {w w' : World} {v : Value} {ids : List Int} {row : Option Nat} (h : IdsAt w v ids) (hg : w.grownBy w' row) (hne : ∀ p, row = some p → ids ≠ [] → v.ownBlock ≠ some p) : IdsAt w' v ids := by
  refine ⟨h.1, ?_⟩
  rcases h.2 with h | ⟨a, c, rfl, hc, hr⟩
  · exact .inl h
  · refine .inr ⟨a, c, rfl, hc, fun hn => ?_⟩
    obtain ⟨b, o, rfl, hlt, hcell⟩ := hr hn
    exact ⟨b, o, rfl, Nat.lt_of_lt_of_le hlt hg.size, fun j x hx => (World.cell?_of_block (a := ⟨b, o + j, none⟩) (hg.block b hlt (fun e => hne b e.symm (by intro h; rw [h] at hn; simp at hn) rfl))).trans (hcell j x hx)⟩
theorem stored {w : World} {p i : Nat} {cs : Array Value} {t : TypeId} (v : Value) (h : w.heap[p]? = some (.cells cs t (0, 0))) : (w.setCell ⟨p, i, none⟩ v).heap[p]? = some (.cells (cs.setIfInBounds i v) t (0, 0)) := heap_setCell_same w p i cs t v h
theorem free_at {w : World} {p i : Nat} {cs : Array Value} {t : TypeId} (h : w.heap[p]? = some (.cells cs t (0, 0))) : w.frozen? ⟨p, i, none⟩ = false := by simp [World.frozen?, h]
theorem grown_set (w : World) (p i : Nat) (v : Value) : w.grownBy (w.setCell ⟨p, i, none⟩ v) (some p) := ⟨rfl, rfl, rfl, by simp, fun k _ hne => Below.heap_setCell w ⟨p, i, none⟩ v k (fun e => hne (by rw [e]))⟩
theorem own_set {w : World} {base p i : Nat} {e t : TypeId} {size n : Nat} {v : Value} {xs : List Value} {cs : Array Value} (h : w.ownsRow base e size v n xs) (hp : w.heap[p]? = some (.cells cs t (0, 0))) (hne : e ≠ t) (u : Value) : (w.setCell ⟨p, i, none⟩ u).ownsRow base e size v n xs :=
  h.kept (grown_set w p i u) (.inr (row_far h hp hne))

set_option maxHeartbeats 1600000 in
set_option maxRecDepth 100000 in
theorem due_any (S : Ck) (now : Int) (ids : List Int) (w : World) (base p : Nat) (v : Value) (hC : ClkAt w base p S) (hids : IdsAt w v ids) (h12 : ids.length ≤ 1000) (hS : S.Ok) :
    Calls Try.prog 17 #[.pointer (some ⟨p, 0, none⟩), .int .i64 now, v] w fun e w' => e = .returned (.bool (dueM S now ids)) ∧ Below w.heap.size w w' := by
  obtain ⟨tv, _, _, _, _, _, c5, _, hp, _, _⟩ := hC.cells
  obtain ⟨a, c, rfl, hc, _⟩ := RdAt.shape hids
  by_cases hne : ids = []
  · have hn : (ids.length : Int) = 0 := by rw [hne]; rfl
    have hdm : dueM S now ids = false := by unfold dueM; rw [if_pos hne]
    rw [hdm]
    clear hdm hids hC hne
    go_enter Try.func17, Try.ntmps17
    go_wp2
    go_ret
    exact ⟨rfl, Below.refl _ _⟩
  · have hn : ¬ (ids.length : Int) = 0 := by intro h; exact hne (List.length_eq_zero_iff.1 (by omega))
    have hfrom := from_any S (atM S now) ids w base p _ hC hids hne h12 hS (atM_ge hS now).1 (atM_ge hS now).2
    have hdm : dueM S now ids = decide (fromM S (atM S now) ids ≤ atM S now) := by unfold dueM; rw [if_neg hne]
    rw [hdm]
    have hat : atM S now = min (max now S.now) 1099511627776 := rfl
    rw [hat] at hfrom ⊢
    generalize fromM S (min (max now S.now) 1099511627776) ids = R at hfrom ⊢
    clear hids hC hS hdm hat hne
    generalize S.now = nw at *
    go_enter Try.func17, Try.ntmps17
    go_wp2_with (go_at_call 25; refine hfrom.mono ?_; rintro e w1 ⟨rfl, hb1⟩)
    go_ret
    exact ⟨rfl, hb1⟩

theorem leftM_eq {S : Ck} {now : Int} {ids : List Int} (h : okM S now = true) : leftM S now ids =
    { S with now := now, first := if ids = [] then -1 else if S.first = -1 then now else S.first,
             last := if dueM S now ids then now else S.last, told := if dueM S now ids then setL ids else S.told } := by unfold leftM; rw [if_pos h]

set_option maxHeartbeats 3200000 in
set_option maxRecDepth 100000 in
theorem ask_any (S : Ck) (now : Int) (ids : List Int) (w : World) (base p : Nat) (v : Value) (hC : ClkAt w base p S) (hids : IdsAt w v ids) (hfar : ids ≠ [] → v.ownBlock ≠ some p) (h12 : ids.length ≤ 1000) (hS : S.Ok) (hbase : base ≤ w.heap.size) :
    Calls Try.prog 14 #[.pointer (some ⟨p, 0, none⟩), .int .i64 now, v] w fun e w' => e = .returned (.tuple #[.bool (askM S now ids), .int .i64 (errM S now)]) ∧ ClkAt w' base p (leftM S now ids) ∧ w.grownBy w' (some p) := by
  obtain ⟨tv, _, _, _, _, _, c5, _, hp, hown, hheap⟩ := hC.cells
  have hdue := due_any S now ids w base p v hC hids h12 hS
  by_cases hok : okM S now = true
  · have hok' : S.now ≤ now ∧ now ≤ 1099511627776 := by simpa [okM] using hok
    have hle := hok'.1
    have hle2 := hok'.2
    have hask : askM S now ids = dueM S now ids := by unfold askM; rw [hok]; rfl
    have herr : errM S now = 0 := by unfold errM; rw [if_pos hok]
    have HL : Hid (leftM S now ids = _) := Lib.hid (leftM_eq (ids := ids) hok)
    rw [hask, herr]
    generalize leftM S now ids = S' at *
    have hd0 : ids = [] → dueM S now ids = false := fun h => by unfold dueM; rw [if_pos h]
    generalize dueM S now ids = d at *
    have hset : ∀ W, ids ≠ [] → IdsAt W v ids → Calls Try.prog 24 #[v] W fun e w' => ∃ v', e = .returned v' ∧ w'.ownsRow W.heap.size 45 1 v' (setL ids).length ((setL ids).map U) ∧ Below W.heap.size W w' := fun W hne h => set_any ids W v h hne h12
    have hcb := hC.1
    have hf0 := hS.f0
    obtain ⟨wt, gp, rp, fi, la, nw, td⟩ := S
    simp only at *
    clear hok hok' hask herr hS hC
    obtain ⟨a, c, rfl, hc, _⟩ := RdAt.shape hids
    by_cases hne : ids = []
    · obtain rfl := hd0 hne
      have hn : (ids.length : Int) = 0 := by rw [hne]; rfl
      have HL2 : Hid (S' = ⟨wt, gp, rp, -1, la, now, td⟩) := Lib.hid (by rw [HL.out, if_pos hne, if_neg Bool.false_ne_true, if_neg Bool.false_ne_true])
      clear HL
      clear hd0 hne hset
      go_enter Try.func14, Try.ntmps14
      go_wp2_with fail
      refine hdue.mono ?_
      rintro e w1 ⟨rfl, hb1⟩
      have hh := (hb1.block p hp).trans hheap
      have f3 : w1.frozen? ⟨p, 3, none⟩ = false := free_at hh
      have f5 : w1.frozen? ⟨p, 5, none⟩ = false := free_at hh
      have k3 : w1.cell? ⟨p, 3, none⟩ = some (.int .i64 fi) := by (rw [cell_of_row _ _ _ _ _ _ hh]; rfl)
      have k5 : w1.cell? ⟨p, 5, none⟩ = some (.int .i64 nw) := by (rw [cell_of_row _ _ _ _ _ _ hh]; rfl)
      have HH := Lib.hid hh
      have HO := Lib.hid (own_later hown hb1)
      have HG := Lib.hid (below_grown hb1 (some p))
      have HI := Lib.hid (IdsAt.later hids hb1)
      clear hheap hown hh hb1 hdue hids
      go_wp2
      go_ret2
      refine ⟨rfl, ?_, ?_⟩
      · rw [HL2.out]; exact ⟨hcb, tv, (stored (i := 3) (.int .i64 (-1)) (stored (i := 5) (.int .i64 now) HH.out)), (own_set (p := p) (i := 3) (own_set (p := p) (i := 5) HO.out HH.out (by decide) (.int .i64 now)) (stored (i := 5) (.int .i64 now) HH.out) (by decide) (.int .i64 (-1)))⟩
      · exact ((HG.out.trans (grown_set _ p 5 _)).trans (grown_set _ p 3 _))
    · have hn : ¬ (ids.length : Int) = 0 := by intro h; exact hne (List.length_eq_zero_iff.1 (by omega))
      have HNE := Lib.hid hne
      clear hd0 hne
      rcases Int.lt_or_le fi 0 with hf | hf
      · obtain rfl : fi = -1 := by omega
        cases d with
        | true =>
          have HL2 : Hid (S' = ⟨wt, gp, rp, now, now, now, setL ids⟩) := Lib.hid (by rw [HL.out, if_neg HNE.out, if_pos (rfl : (-1 : Int) = -1), if_pos (rfl : true = true), if_pos (rfl : true = true)])
          clear HL
          go_enter Try.func14, Try.ntmps14
          go_wp2_with fail
          refine hdue.mono ?_
          rintro e w1 ⟨rfl, hb1⟩
          have hh := (hb1.block p hp).trans hheap
          have f3 : w1.frozen? ⟨p, 3, none⟩ = false := free_at hh
          have f5 : w1.frozen? ⟨p, 5, none⟩ = false := free_at hh
          have k3 : w1.cell? ⟨p, 3, none⟩ = some (.int .i64 (-1)) := by (rw [cell_of_row _ _ _ _ _ _ hh]; rfl)
          have k5 : w1.cell? ⟨p, 5, none⟩ = some (.int .i64 nw) := by (rw [cell_of_row _ _ _ _ _ _ hh]; rfl)
          have HH := Lib.hid hh
          have HO := Lib.hid (own_later hown hb1)
          have HG := Lib.hid (below_grown hb1 (some p))
          have HI := Lib.hid (IdsAt.later hids hb1)
          clear hheap hown hh hb1 hdue hids
          go_wp2_with fail
          refine (hset _ HNE.out ?hid).mono ?_
          case hid => exact HI.out.beside ((grown_set w1 p 5 (.int .i64 now)).trans (grown_set _ p 3 _)) (fun q hq => by cases hq; exact hfar)
          rintro e w3 ⟨v', rfl, hown3, hb3⟩
          obtain ⟨g3, cap3, rfl, _, _⟩ := hown3.form (List.length_pos_iff.2 (fun h => HNE.out (setL_nil.1 h)))
          have HS := Lib.hid (stored (i := 3) (.int .i64 now) (stored (i := 5) (.int .i64 now) HH.out))
          have hh3 := (hb3.block p (block_lt HS.out)).trans HS.out
          have f4 : w3.frozen? ⟨p, 4, none⟩ = false := free_at hh3
          have f6 : w3.frozen? ⟨p, 6, none⟩ = false := free_at hh3
          have k4 : w3.cell? ⟨p, 4, none⟩ = some (.int .i64 la) := by (rw [cell_of_row _ _ _ _ _ _ hh3]; rfl)
          have k6 : w3.cell? ⟨p, 6, none⟩ = some tv := by (rw [cell_of_row _ _ _ _ _ _ hh3]; rfl)
          have HH3 := Lib.hid hh3
          have HO3 := Lib.hid hown3
          have HB3 := Lib.hid hb3
          clear hh3 hown3 hb3
          go_wp2
          go_ret2
          refine ⟨rfl, ?_, ?_⟩
          · rw [HL2.out]
            exact ⟨hcb, _, stored (i := 6) _ (stored (i := 4) (.int .i64 now) HH3.out), own_set (own_set (own_base HO3.out (Nat.le_trans hbase (by have := HG.out.size; simpa using this))) HH3.out (by decide) _) (stored (i := 4) (.int .i64 now) HH3.out) (by decide) _⟩
          · exact ((((HG.out.trans (grown_set _ p 5 _)).trans (grown_set _ p 3 _)).trans (below_grown HB3.out (some p))).trans (grown_set _ p 4 _)).trans (grown_set _ p 6 _)
        | false =>
          have HL2 : Hid (S' = ⟨wt, gp, rp, now, la, now, td⟩) := Lib.hid (by rw [HL.out, if_neg HNE.out, if_pos (rfl : (-1 : Int) = -1), if_neg Bool.false_ne_true, if_neg Bool.false_ne_true])
          clear HL
          go_enter Try.func14, Try.ntmps14
          go_wp2_with fail
          refine hdue.mono ?_
          rintro e w1 ⟨rfl, hb1⟩
          have hh := (hb1.block p hp).trans hheap
          have f3 : w1.frozen? ⟨p, 3, none⟩ = false := free_at hh
          have f5 : w1.frozen? ⟨p, 5, none⟩ = false := free_at hh
          have k3 : w1.cell? ⟨p, 3, none⟩ = some (.int .i64 (-1)) := by (rw [cell_of_row _ _ _ _ _ _ hh]; rfl)
          have k5 : w1.cell? ⟨p, 5, none⟩ = some (.int .i64 nw) := by (rw [cell_of_row _ _ _ _ _ _ hh]; rfl)
          have HH := Lib.hid hh
          have HO := Lib.hid (own_later hown hb1)
          have HG := Lib.hid (below_grown hb1 (some p))
          have HI := Lib.hid (IdsAt.later hids hb1)
          clear hheap hown hh hb1 hdue hids
          go_wp2
          go_ret2
          refine ⟨rfl, ?_, ?_⟩
          · rw [HL2.out]; exact ⟨hcb, tv, (stored (i := 3) (.int .i64 now) (stored (i := 5) (.int .i64 now) HH.out)), (own_set (p := p) (i := 3) (own_set (p := p) (i := 5) HO.out HH.out (by decide) (.int .i64 now)) (stored (i := 5) (.int .i64 now) HH.out) (by decide) (.int .i64 now))⟩
          · exact ((HG.out.trans (grown_set _ p 5 _)).trans (grown_set _ p 3 _))
      · have hfb : (fi == -1) = false := by simp; omega
        have hfi : ¬ fi = -1 := by omega
        cases d with
        | true =>
          have HL2 : Hid (S' = ⟨wt, gp, rp, fi, now, now, setL ids⟩) := Lib.hid (by rw [HL.out, if_neg HNE.out, if_neg hfi, if_pos (rfl : true = true), if_pos (rfl : true = true)])
          clear HL
          go_enter Try.func14, Try.ntmps14
          go_wp2_with fail
          refine hdue.mono ?_
          rintro e w1 ⟨rfl, hb1⟩
          have hh := (hb1.block p hp).trans hheap
          have f3 : w1.frozen? ⟨p, 3, none⟩ = false := free_at hh
          have f5 : w1.frozen? ⟨p, 5, none⟩ = false := free_at hh
          have k3 : w1.cell? ⟨p, 3, none⟩ = some (.int .i64 fi) := by (rw [cell_of_row _ _ _ _ _ _ hh]; rfl)
          have k5 : w1.cell? ⟨p, 5, none⟩ = some (.int .i64 nw) := by (rw [cell_of_row _ _ _ _ _ _ hh]; rfl)
          have HH := Lib.hid hh
          have HO := Lib.hid (own_later hown hb1)
          have HG := Lib.hid (below_grown hb1 (some p))
          have HI := Lib.hid (IdsAt.later hids hb1)
          clear hheap hown hh hb1 hdue hids
          go_wp2_with fail
          refine (hset _ HNE.out ?hid).mono ?_
          case hid => exact HI.out.beside (grown_set w1 p 5 (.int .i64 now)) (fun q hq => by cases hq; exact hfar)
          rintro e w3 ⟨v', rfl, hown3, hb3⟩
          obtain ⟨g3, cap3, rfl, _, _⟩ := hown3.form (List.length_pos_iff.2 (fun h => HNE.out (setL_nil.1 h)))
          have HS := Lib.hid (stored (i := 5) (.int .i64 now) HH.out)
          have hh3 := (hb3.block p (block_lt HS.out)).trans HS.out
          have f4 : w3.frozen? ⟨p, 4, none⟩ = false := free_at hh3
          have f6 : w3.frozen? ⟨p, 6, none⟩ = false := free_at hh3
          have k4 : w3.cell? ⟨p, 4, none⟩ = some (.int .i64 la) := by (rw [cell_of_row _ _ _ _ _ _ hh3]; rfl)
          have k6 : w3.cell? ⟨p, 6, none⟩ = some tv := by (rw [cell_of_row _ _ _ _ _ _ hh3]; rfl)
          have HH3 := Lib.hid hh3
          have HO3 := Lib.hid hown3
          have HB3 := Lib.hid hb3
          clear hh3 hown3 hb3
          go_wp2
          go_ret2
          refine ⟨rfl, ?_, ?_⟩
          · rw [HL2.out]
            exact ⟨hcb, _, stored (i := 6) _ (stored (i := 4) (.int .i64 now) HH3.out), own_set (own_set (own_base HO3.out (Nat.le_trans hbase (by have := HG.out.size; simpa using this))) HH3.out (by decide) _) (stored (i := 4) (.int .i64 now) HH3.out) (by decide) _⟩
          · exact (((HG.out.trans (grown_set _ p 5 _)).trans (below_grown HB3.out (some p))).trans (grown_set _ p 4 _)).trans (grown_set _ p 6 _)
        | false =>
          have HL2 : Hid (S' = ⟨wt, gp, rp, fi, la, now, td⟩) := Lib.hid (by rw [HL.out, if_neg HNE.out, if_neg hfi, if_neg Bool.false_ne_true, if_neg Bool.false_ne_true])
          clear HL
          go_enter Try.func14, Try.ntmps14
          go_wp2_with fail
          refine hdue.mono ?_
          rintro e w1 ⟨rfl, hb1⟩
          have hh := (hb1.block p hp).trans hheap
          have f3 : w1.frozen? ⟨p, 3, none⟩ = false := free_at hh
          have f5 : w1.frozen? ⟨p, 5, none⟩ = false := free_at hh
          have k3 : w1.cell? ⟨p, 3, none⟩ = some (.int .i64 fi) := by (rw [cell_of_row _ _ _ _ _ _ hh]; rfl)
          have k5 : w1.cell? ⟨p, 5, none⟩ = some (.int .i64 nw) := by (rw [cell_of_row _ _ _ _ _ _ hh]; rfl)
          have HH := Lib.hid hh
          have HO := Lib.hid (own_later hown hb1)
          have HG := Lib.hid (below_grown hb1 (some p))
          have HI := Lib.hid (IdsAt.later hids hb1)
          clear hheap hown hh hb1 hdue hids
          go_wp2
          go_ret2
          refine ⟨rfl, ?_, ?_⟩
          · rw [HL2.out]; exact ⟨hcb, tv, (stored (i := 5) (.int .i64 now) HH.out), (own_set (p := p) (i := 5) HO.out HH.out (by decide) (.int .i64 now))⟩
          · exact (HG.out.trans (grown_set _ p 5 _))
  · have hok2 : okM S now = false := by simpa using hok
    have hno : ¬ (S.now ≤ now ∧ now ≤ 1099511627776) := by intro h; exact hok (by simpa [okM] using h)
    have hask : askM S now ids = false := by unfold askM; rw [hok2]; rfl
    have herr : errM S now = 9 := by unfold errM; rw [if_neg hok]
    rw [hask, herr, leftM_bad hok2]
    clear hask herr hok2 hok hdue
    have HC := Lib.hid hC
    clear hC
    generalize S.now = nw at *
    rcases Int.lt_or_le now nw with h | h
    · clear hno
      go_enter Try.func14, Try.ntmps14
      go_wp2
      go_ret2
      exact ⟨rfl, HC.out, grownBy_refl _ _⟩
    · have h2 : 1099511627776 < now := by omega
      clear hno
      go_enter Try.func14, Try.ntmps14
      go_wp2
      go_ret2
      exact ⟨rfl, HC.out, grownBy_refl _ _⟩

set_option maxHeartbeats 1600000 in
set_option maxRecDepth 100000 in
theorem next_any (S : Ck) (ids : List Int) (w : World) (base p : Nat) (v : Value) (hC : ClkAt w base p S) (hids : IdsAt w v ids) (h12 : ids.length ≤ 1000) (hS : S.Ok) :
    Calls Try.prog 16 #[.pointer (some ⟨p, 0, none⟩), v] w fun e w' => e = .returned (.int .i64 (nextM S ids)) ∧ Below w.heap.size w w' := by
  obtain ⟨tv, _, _, _, _, _, c5, _, hp, _, _⟩ := hC.cells
  obtain ⟨a, c, rfl, hc, _⟩ := RdAt.shape hids
  by_cases hne : ids = []
  · have hn : (ids.length : Int) = 0 := by rw [hne]; rfl
    have hdm : nextM S ids = -1 := by unfold nextM; rw [if_pos hne]
    rw [hdm]
    clear hdm hids hC hne
    go_enter Try.func16, Try.ntmps16
    go_wp2
    go_ret
    exact ⟨rfl, Below.refl _ _⟩
  · have hn : ¬ (ids.length : Int) = 0 := by intro h; exact hne (List.length_eq_zero_iff.1 (by omega))
    have hfrom := from_any S S.now ids w base p _ hC hids hne h12 hS (Int.le_refl _) hS.n1
    have HDM : Hid (nextM S ids = if fromM S S.now ids ≤ 1099511627776 then fromM S S.now ids else -1) := Lib.hid (by unfold nextM; rw [if_neg hne])
    generalize nextM S ids = N at *
    generalize fromM S S.now ids = R at *
    clear hids hC hS hne
    generalize S.now = nw at *
    rcases Int.lt_or_le 1099511627776 R with hR | hR
    · have HN : Hid (N = -1) := Lib.hid (by rw [HDM.out, if_neg (by omega)])
      clear HDM
      go_enter Try.func16, Try.ntmps16
      go_wp2_with (go_at_call 25; refine hfrom.mono ?_; rintro e w1 ⟨rfl, hb1⟩)
      go_ret
      exact ⟨by rw [HN.out]; rfl, hb1⟩
    · have HN : Hid (N = R) := Lib.hid (by rw [HDM.out, if_pos hR])
      clear HDM
      go_enter Try.func16, Try.ntmps16
      go_wp2_with (go_at_call 25; refine hfrom.mono ?_; rintro e w1 ⟨rfl, hb1⟩)
      go_ret
      exact ⟨by rw [HN.out]; rfl, hb1⟩

theorem last_any (S : Ck) (w : World) (base p : Nat) (hC : ClkAt w base p S) :
    Calls Try.prog 18 #[.pointer (some ⟨p, 0, none⟩)] w fun e w' => e = .returned (.int .i64 S.last) ∧ w' = w := by
  obtain ⟨tv, _, _, _, _, c4, _, _, hp, _, _⟩ := hC.cells
  go_enter Try.func18, Try.ntmps18
  go_wp2
  go_ret
  exact ⟨rfl, rfl⟩
theorem now_any (S : Ck) (w : World) (base p : Nat) (hC : ClkAt w base p S) :
    Calls Try.prog 20 #[.pointer (some ⟨p, 0, none⟩)] w fun e w' => e = .returned (.int .i64 S.now) ∧ w' = w := by
  obtain ⟨tv, _, _, _, _, _, c5, _, hp, _, _⟩ := hC.cells
  go_enter Try.func20, Try.ntmps20
  go_wp2
  go_ret
  exact ⟨rfl, rfl⟩
theorem clone_own (ids : List Int) (w : World) (v : Value) {base : Nat} (hown : w.ownsRow base 45 1 v ids.length (ids.map U)) (hl : ids.length ≤ 1000) :
    Calls Try.prog 26 #[v] w fun e w' => ∃ v', e = .returned v' ∧ w'.ownsRow w.heap.size 45 1 v' ids.length (ids.map U) ∧ Below w.heap.size w w' := by
  rcases hown.2 with ⟨rfl, h0⟩ | ⟨g, cap, cur, rfl, _, hg, _⟩
  · refine (Try.slices_Clone_nil 0 0 w).mono ?_
    rintro e w' ⟨rfl, rfl⟩
    have : ids = [] := List.length_eq_zero_iff.1 h0
    subst this
    exact ⟨_, rfl, World.ownsRow_nil _ _ _ _, Below.refl _ _⟩
  · obtain ⟨i0, hi, hz0, hz1, hz2⟩ := info_parts info64
    refine (Try.slices_Clone i0 (.int .u64 0) 1 8 hi hz0 hz1 hz2 rfl (by decide) Try.sizeOf45 g 0 ids.length cap (ids.map U) w (by simp) (by simp only [maxLen]; omega) (by omega) (fun j u hu => ?_) (u_cells ids)).mono ?_
    · have := hown.cells (g := g) rfl j u hu
      rw [Nat.zero_add]
      by_cases h0 : j = 0
      · subst h0; simpa [Addr.add] using this
      · simpa [Addr.add, h0] using this
    · rintro e w' ⟨v', rfl, h1, _, h2⟩
      exact ⟨v', rfl, h1, h2⟩
theorem told_any (S : Ck) (w : World) (base p : Nat) (hC : ClkAt w base p S) (hl : S.told.length ≤ 1000) :
    Calls Try.prog 19 #[.pointer (some ⟨p, 0, none⟩)] w fun e w' => ∃ v, e = .returned v ∧ IdsAt w' v S.told ∧ Below w.heap.size w w' := by
  obtain ⟨tv, _, _, _, _, _, _, c6, hp, hown, _⟩ := hC.cells
  have hcl := clone_own S.told w tv hown hl
  go_enter Try.func19, Try.ntmps19
  go_wp2_with (go_at_call 26; refine hcl.mono ?_; rintro e w1 ⟨v, rfl, hown1, hb1⟩)
  go_ret
  exact ⟨_, rfl, IdsAt.own hown1, hb1⟩
end Go.Proofs.Ytkhcckfnaahbeaa
