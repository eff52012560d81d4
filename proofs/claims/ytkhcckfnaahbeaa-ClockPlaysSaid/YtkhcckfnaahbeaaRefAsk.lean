/- lychgateref12: Ask. -/
import Derived.Test.YtkhcckfnaahbeaaRefDue
namespace Go.Proofs.Ytkhcckfnaahbeaa
open Go.RowKit

set_option maxHeartbeats 3200000 in
set_option maxRecDepth 100000 in
theorem rask_any (S : Ck) (now : Int) (ids : List Int) (w : World) (base p : Nat) (v : Value) (hC : RClkAt w base p S) (hids : IdsAt w v ids) (hfar : ids ≠ [] → v.ownBlock ≠ some p) (h12 : ids.length ≤ 12) (hS : S.Ok) (hbase : base ≤ w.heap.size) :
    Calls Try.prog 22 #[.pointer (some ⟨p, 0, none⟩), .int .i64 now, v] w fun e w' => e = .returned (.tuple #[.bool (askM S now ids), .int .i64 (errM S now)]) ∧ RClkAt w' base p (leftM S now ids) ∧ w.grownBy w' (some p) := by
  obtain ⟨tv, _, _, _, _, _, _, c6, hp, hown, hheap⟩ := hC.cells
  have hdue := rdue_any S now ids w base p v hC hids h12 hS
  by_cases hok : okM S now = true
  · have hok' : S.now ≤ now ∧ now ≤ 1099511627776 := by simpa [okM] using hok
    have hle := hok'.1
    have hle2 := hok'.2
    have hask : askM S now ids = dueM S now ids := by unfold askM; rw [hok]; rfl
    have herr : errM S now = 0 := by unfold errM; rw [if_pos hok]
    have HL : Hid (leftM S now ids = _) := Lib.hid (leftM_eq (ids := ids) hok)
    rw [hask, herr]
    generalize leftM S now ids = S' at *
    have hd0 : ids = [] → dueM S now ids = false := fun h => by unfold dueM; rw [if_pos h]
    generalize dueM S now ids = d at *
    have hset : ∀ W, IdsAt W v ids → Calls Try.prog 13 #[v] W fun e w' => ∃ v', e = .returned v' ∧ w'.ownsRow W.heap.size 45 1 v' (setL ids).length ((setL ids).map U) ∧ Below W.heap.size W w' := fun W h => refset_any ids W v h (by omega)
    have hcb := hC.1
    have hf0 := hS.f0
    obtain ⟨wt, gp, rp, fi, la, nw, td⟩ := S
    simp only at *
    clear hok hok' hask herr hS hC
    obtain ⟨a, c, rfl, hc, _⟩ := RdAt.shape hids
    by_cases hne : ids = []
    · obtain rfl := hd0 hne
      have hn : (ids.length : Int) = 0 := by rw [hne]; rfl
      have HL2 : Hid (S' = ⟨wt, gp, rp, -1, la, now, td⟩) := Lib.hid (by rw [HL.out, if_pos hne, if_neg Bool.false_ne_true, if_neg Bool.false_ne_true])
      clear HL
      clear hd0 hne hset
      go_enter Try.func22, Try.ntmps22
      go_wp2_with fail
      refine hdue.mono ?_
      rintro e w1 ⟨rfl, hb1⟩
      have hh := (hb1.block p hp).trans hheap
      have f3 : w1.frozen? ⟨p, 3, none⟩ = false := free_at hh
      have f4 : w1.frozen? ⟨p, 4, none⟩ = false := free_at hh
      have f6 : w1.frozen? ⟨p, 6, none⟩ = false := free_at hh
      have k3 : w1.cell? ⟨p, 3, none⟩ = some (.int .i64 fi) := by (rw [cell_of_row _ _ _ _ _ _ hh]; rfl)
      have k4 : w1.cell? ⟨p, 4, none⟩ = some (.int .i64 la) := by (rw [cell_of_row _ _ _ _ _ _ hh]; rfl)
      have k6 : w1.cell? ⟨p, 6, none⟩ = some (.int .i64 nw) := by (rw [cell_of_row _ _ _ _ _ _ hh]; rfl)
      have HH := Lib.hid hh
      have HO := Lib.hid (own_later hown hb1)
      have HG := Lib.hid (below_grown hb1 (some p))
      have HI := Lib.hid (IdsAt.later hids hb1)
      clear hheap hown hh hb1 hdue hids
      go_wp2
      go_ret2
      refine ⟨rfl, ?_, ?_⟩
      · rw [HL2.out]; exact ⟨hcb, tv, (stored (i := 3) (.int .i64 (-1)) (stored (i := 6) (.int .i64 now) HH.out)), (own_set (p := p) (i := 3) (own_set (p := p) (i := 6) HO.out HH.out (by decide) (.int .i64 now)) (stored (i := 6) (.int .i64 now) HH.out) (by decide) (.int .i64 (-1)))⟩
      · exact ((HG.out.trans (grown_set _ p 6 _)).trans (grown_set _ p 3 _))
    · have hn : ¬ (ids.length : Int) = 0 := by intro h; exact hne (List.length_eq_zero_iff.1 (by omega))
      have HNE := Lib.hid hne
      clear hd0 hne
      rcases Int.lt_or_le fi 0 with hf | hf
      · obtain rfl : fi = -1 := by omega
        cases d with
        | true =>
          have HL2 : Hid (S' = ⟨wt, gp, rp, now, now, now, setL ids⟩) := Lib.hid (by rw [HL.out, if_neg HNE.out, if_pos (rfl : (-1 : Int) = -1), if_pos (rfl : true = true), if_pos (rfl : true = true)])
          clear HL
          go_enter Try.func22, Try.ntmps22
          go_wp2_with fail
          refine hdue.mono ?_
          rintro e w1 ⟨rfl, hb1⟩
          have hh := (hb1.block p hp).trans hheap
          have f3 : w1.frozen? ⟨p, 3, none⟩ = false := free_at hh
          have f4 : w1.frozen? ⟨p, 4, none⟩ = false := free_at hh
          have f6 : w1.frozen? ⟨p, 6, none⟩ = false := free_at hh
          have k3 : w1.cell? ⟨p, 3, none⟩ = some (.int .i64 (-1)) := by (rw [cell_of_row _ _ _ _ _ _ hh]; rfl)
          have k4 : w1.cell? ⟨p, 4, none⟩ = some (.int .i64 la) := by (rw [cell_of_row _ _ _ _ _ _ hh]; rfl)
          have k6 : w1.cell? ⟨p, 6, none⟩ = some (.int .i64 nw) := by (rw [cell_of_row _ _ _ _ _ _ hh]; rfl)
          have HH := Lib.hid hh
          have HO := Lib.hid (own_later hown hb1)
          have HG := Lib.hid (below_grown hb1 (some p))
          have HI := Lib.hid (IdsAt.later hids hb1)
          clear hheap hown hh hb1 hdue hids
          go_wp2_with fail
          refine (hset _ ?hid).mono ?_
          case hid => exact HI.out.beside (((grown_set w1 p 6 (.int .i64 now)).trans (grown_set _ p 3 _)).trans (grown_set _ p 4 _)) (fun q hq => by cases hq; exact hfar)
          rintro e w3 ⟨v', rfl, hown3, hb3⟩
          obtain ⟨g3, cap3, rfl, _, _⟩ := hown3.form (List.length_pos_iff.2 (fun h => HNE.out (setL_nil.1 h)))
          have HS := Lib.hid (stored (i := 4) (.int .i64 now) (stored (i := 3) (.int .i64 now) (stored (i := 6) (.int .i64 now) HH.out)))
          have hh3 := (hb3.block p (block_lt HS.out)).trans HS.out
          have f5 : w3.frozen? ⟨p, 5, none⟩ = false := free_at hh3
          have k5 : w3.cell? ⟨p, 5, none⟩ = some tv := by (rw [cell_of_row _ _ _ _ _ _ hh3]; rfl)
          have HH3 := Lib.hid hh3
          have HO3 := Lib.hid hown3
          have HB3 := Lib.hid hb3
          clear hh3 hown3 hb3
          go_wp2
          go_ret2
          refine ⟨rfl, ?_, ?_⟩
          · rw [HL2.out]
            exact ⟨hcb, _, stored (i := 5) _ HH3.out, own_set (own_base HO3.out (Nat.le_trans hbase (by have := HG.out.size; simpa using this))) HH3.out (by decide) _⟩
          · exact ((((HG.out.trans (grown_set _ p 6 _)).trans (grown_set _ p 3 _)).trans (grown_set _ p 4 _)).trans (below_grown HB3.out (some p))).trans (grown_set _ p 5 _)
        | false =>
          have HL2 : Hid (S' = ⟨wt, gp, rp, now, la, now, td⟩) := Lib.hid (by rw [HL.out, if_neg HNE.out, if_pos (rfl : (-1 : Int) = -1), if_neg Bool.false_ne_true, if_neg Bool.false_ne_true])
          clear HL
          go_enter Try.func22, Try.ntmps22
          go_wp2_with fail
          refine hdue.mono ?_
          rintro e w1 ⟨rfl, hb1⟩
          have hh := (hb1.block p hp).trans hheap
          have f3 : w1.frozen? ⟨p, 3, none⟩ = false := free_at hh
          have f4 : w1.frozen? ⟨p, 4, none⟩ = false := free_at hh
          have f6 : w1.frozen? ⟨p, 6, none⟩ = false := free_at hh
          have k3 : w1.cell? ⟨p, 3, none⟩ = some (.int .i64 (-1)) := by (rw [cell_of_row _ _ _ _ _ _ hh]; rfl)
          have k4 : w1.cell? ⟨p, 4, none⟩ = some (.int .i64 la) := by (rw [cell_of_row _ _ _ _ _ _ hh]; rfl)
          have k6 : w1.cell? ⟨p, 6, none⟩ = some (.int .i64 nw) := by (rw [cell_of_row _ _ _ _ _ _ hh]; rfl)
          have HH := Lib.hid hh
          have HO := Lib.hid (own_later hown hb1)
          have HG := Lib.hid (below_grown hb1 (some p))
          have HI := Lib.hid (IdsAt.later hids hb1)
          clear hheap hown hh hb1 hdue hids
          go_wp2
          go_ret2
          refine ⟨rfl, ?_, ?_⟩
          · rw [HL2.out]; exact ⟨hcb, tv, (stored (i := 3) (.int .i64 now) (stored (i := 6) (.int .i64 now) HH.out)), (own_set (p := p) (i := 3) (own_set (p := p) (i := 6) HO.out HH.out (by decide) (.int .i64 now)) (stored (i := 6) (.int .i64 now) HH.out) (by decide) (.int .i64 now))⟩
          · exact ((HG.out.trans (grown_set _ p 6 _)).trans (grown_set _ p 3 _))
      · have hfi : ¬ fi = -1 := by omega
        cases d with
        | true =>
          have HL2 : Hid (S' = ⟨wt, gp, rp, fi, now, now, setL ids⟩) := Lib.hid (by rw [HL.out, if_neg HNE.out, if_neg hfi, if_pos (rfl : true = true), if_pos (rfl : true = true)])
          clear HL
          go_enter Try.func22, Try.ntmps22
          go_wp2_with fail
          refine hdue.mono ?_
          rintro e w1 ⟨rfl, hb1⟩
          have hh := (hb1.block p hp).trans hheap
          have f3 : w1.frozen? ⟨p, 3, none⟩ = false := free_at hh
          have f4 : w1.frozen? ⟨p, 4, none⟩ = false := free_at hh
          have f6 : w1.frozen? ⟨p, 6, none⟩ = false := free_at hh
          have k3 : w1.cell? ⟨p, 3, none⟩ = some (.int .i64 fi) := by (rw [cell_of_row _ _ _ _ _ _ hh]; rfl)
          have k4 : w1.cell? ⟨p, 4, none⟩ = some (.int .i64 la) := by (rw [cell_of_row _ _ _ _ _ _ hh]; rfl)
          have k6 : w1.cell? ⟨p, 6, none⟩ = some (.int .i64 nw) := by (rw [cell_of_row _ _ _ _ _ _ hh]; rfl)
          have HH := Lib.hid hh
          have HO := Lib.hid (own_later hown hb1)
          have HG := Lib.hid (below_grown hb1 (some p))
          have HI := Lib.hid (IdsAt.later hids hb1)
          clear hheap hown hh hb1 hdue hids
          go_wp2_with fail
          refine (hset _ ?hid).mono ?_
          case hid => exact HI.out.beside ((grown_set w1 p 6 (.int .i64 now)).trans (grown_set _ p 4 _)) (fun q hq => by cases hq; exact hfar)
          rintro e w3 ⟨v', rfl, hown3, hb3⟩
          obtain ⟨g3, cap3, rfl, _, _⟩ := hown3.form (List.length_pos_iff.2 (fun h => HNE.out (setL_nil.1 h)))
          have HS := Lib.hid (stored (i := 4) (.int .i64 now) (stored (i := 6) (.int .i64 now) HH.out))
          have hh3 := (hb3.block p (block_lt HS.out)).trans HS.out
          have f5 : w3.frozen? ⟨p, 5, none⟩ = false := free_at hh3
          have k5 : w3.cell? ⟨p, 5, none⟩ = some tv := by (rw [cell_of_row _ _ _ _ _ _ hh3]; rfl)
          have HH3 := Lib.hid hh3
          have HO3 := Lib.hid hown3
          have HB3 := Lib.hid hb3
          clear hh3 hown3 hb3
          go_wp2
          go_ret2
          refine ⟨rfl, ?_, ?_⟩
          · rw [HL2.out]
            exact ⟨hcb, _, stored (i := 5) _ HH3.out, own_set (own_base HO3.out (Nat.le_trans hbase (by have := HG.out.size; simpa using this))) HH3.out (by decide) _⟩
          · exact (((HG.out.trans (grown_set _ p 6 _)).trans (grown_set _ p 4 _)).trans (below_grown HB3.out (some p))).trans (grown_set _ p 5 _)
        | false =>
          have HL2 : Hid (S' = ⟨wt, gp, rp, fi, la, now, td⟩) := Lib.hid (by rw [HL.out, if_neg HNE.out, if_neg hfi, if_neg Bool.false_ne_true, if_neg Bool.false_ne_true])
          clear HL
          go_enter Try.func22, Try.ntmps22
          go_wp2_with fail
          refine hdue.mono ?_
          rintro e w1 ⟨rfl, hb1⟩
          have hh := (hb1.block p hp).trans hheap
          have f3 : w1.frozen? ⟨p, 3, none⟩ = false := free_at hh
          have f4 : w1.frozen? ⟨p, 4, none⟩ = false := free_at hh
          have f6 : w1.frozen? ⟨p, 6, none⟩ = false := free_at hh
          have k3 : w1.cell? ⟨p, 3, none⟩ = some (.int .i64 fi) := by (rw [cell_of_row _ _ _ _ _ _ hh]; rfl)
          have k4 : w1.cell? ⟨p, 4, none⟩ = some (.int .i64 la) := by (rw [cell_of_row _ _ _ _ _ _ hh]; rfl)
          have k6 : w1.cell? ⟨p, 6, none⟩ = some (.int .i64 nw) := by (rw [cell_of_row _ _ _ _ _ _ hh]; rfl)
          have HH := Lib.hid hh
          have HO := Lib.hid (own_later hown hb1)
          have HG := Lib.hid (below_grown hb1 (some p))
          have HI := Lib.hid (IdsAt.later hids hb1)
          clear hheap hown hh hb1 hdue hids
          go_wp2
          go_ret2
          refine ⟨rfl, ?_, ?_⟩
          · rw [HL2.out]; exact ⟨hcb, tv, (stored (i := 6) (.int .i64 now) HH.out), (own_set (p := p) (i := 6) HO.out HH.out (by decide) (.int .i64 now))⟩
          · exact (HG.out.trans (grown_set _ p 6 _))
  · have hok2 : okM S now = false := by simpa using hok
    have hno : ¬ (S.now ≤ now ∧ now ≤ 1099511627776) := by intro h; exact hok (by simpa [okM] using h)
    have hask : askM S now ids = false := by unfold askM; rw [hok2]; rfl
    have herr : errM S now = 9 := by unfold errM; rw [if_neg hok]
    rw [hask, herr, leftM_bad hok2]
    clear hask herr hok2 hok hdue
    have HC := Lib.hid hC
    clear hC
    generalize S.now = nw at *
    rcases Int.lt_or_le now nw with h | h
    · clear hno
      go_enter Try.func22, Try.ntmps22
      go_wp2
      go_ret2
      exact ⟨rfl, HC.out, grownBy_refl _ _⟩
    · have h2 : 1099511627776 < now := by omega
      clear hno
      go_enter Try.func22, Try.ntmps22
      go_wp2
      go_ret2
      exact ⟨rfl, HC.out, grownBy_refl _ _⟩
end Go.Proofs.Ytkhcckfnaahbeaa
