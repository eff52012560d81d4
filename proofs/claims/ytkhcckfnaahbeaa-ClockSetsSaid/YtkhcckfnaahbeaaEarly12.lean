/- lychgatelaw12.early. -/
import Derived.Test.YtkhcckfnaahbeaaSteps
namespace Go.Proofs.Ytkhcckfnaahbeaa
open Go.RowKit

theorem rd_block {w : World} {B n c k : Nat} {cs : Array Value} {t : TypeId} {fr : Nat × Nat} (hb : w.heap[B]? = some (.cells cs t fr)) (hl : cs.size = n * k) (hc : n ≤ c) : RdAt w (.slice (some ⟨B, 0, none⟩) n c) n k cs.toList :=
  RdAt.mk (by simpa using hl) hc (Array.getElem?_eq_some_iff.1 hb).1 (fun j x hj => by rw [Nat.zero_add, cell_of_row w B j cs t fr hb]; simpa using hj)
theorem alloc2_new (w : World) (o1 o2 : Obj) : ((w.alloc o1).alloc o2).heap[w.heap.size + 1]? = some o2 := by
  have h := heap_alloc_new (w.alloc o1) o2
  rwa [World.size_alloc] at h
theorem below_alloc2 (w : World) (o1 o2 : Obj) : Below w.heap.size w ((w.alloc o1).alloc o2) := ((Below.refl _ _).alloc (Nat.le_refl _) _).alloc (by rw [World.size_alloc]; omega) _
theorem infoStep : (Try.prog.info? 33).map (fun i => (i.zero, i.size, i.bytes)) = some (some (.agg #[.int .i64 0, .int .i64 0, .slice none 0 0]), 3, 40) := by kernel_rfl

set_option maxHeartbeats 1600000 in
set_option maxRecDepth 100000 in
theorem early_any (w : World) {v0 : Value} {l : List Stp} (hA : ArgStps w v0 l) :
    Calls Try.prog 12 #[v0] w fun e w' => ∃ v, e = .returned v ∧ StpsAt w' v (earlyL l) ∧ Fresh w v ∧ Below w.heap.size w w' := by
  obtain ⟨⟨a0, c0, rfl, hc0, hr0⟩, hlm, hids⟩ := hA
  unfold maxLen at hlm
  have HR0 := Lib.hid hr0
  have HIDS := Lib.hid hids
  clear hr0 hids
  obtain ⟨i0, hi, hz0, hz1, hz2⟩ := info_parts infoStep
  go_enter Try.func12, Try.ntmps12
  go_wp2
  go_loopw [3, 4] (fun v i wr => ∃ k : Nat, k ≤ 80 ∧ k ≤ l.length ∧ i = .int .i64 k ∧ wr.ownsRow w.heap.size 33 3 v k (stCells ((earlyL l).take k)) ∧ Below w.heap.size w wr) (fun _ i _ => 80 - (intOf i).toNat)
  case atStart => exact ⟨0, Nat.zero_le _, Nat.zero_le _, rfl, World.ownsRow_nil _ _ _ _, Below.refl _ _⟩
  case round =>
    obtain ⟨k, hk, hkx, rfl, hown, hbr⟩ := hrel
    by_cases hkl : k < l.length
    · by_cases hk3 : k < 80
      · obtain ⟨s, hse⟩ : ∃ s, l[k] = s := ⟨_, rfl⟩
        obtain ⟨b0, o0, rfl, hb0, hcell⟩ := HR0.out (by omega)
        obtain ⟨c0', c1', c2'⟩ := hcell k hkl
        rw [hse] at c0' c1' c2'
        have hI := (HIDS.out s (by rw [← hse]; exact List.getElem_mem hkl))
        obtain ⟨a, c, hv, hc, _⟩ := RdAt.shape hI.1
        have HST : Hid ((earlyL l).take (k + 1) = (earlyL l).take k ++ [cutS s]) := Lib.hid (by rw [← hse]; exact earlyL_step hk3 hkl)
        have hil := hI.2
        unfold maxLen at hil
        obtain ⟨sb, so, sv, sids⟩ := s
        simp only at *
        subst hv
        have d0 : wr.cell? ⟨b0, o0 + k * 3, none⟩ = some (.int .i64 sb) := (hbr.cell (p := ⟨b0, o0 + k * 3, none⟩) hb0).trans c0'
        have d1 : wr.cell? ⟨b0, o0 + k * 3 + 1, none⟩ = some (.int .i64 so) := (hbr.cell (p := ⟨b0, o0 + k * 3 + 1, none⟩) hb0).trans c1'
        have d2 : wr.cell? ⟨b0, o0 + k * 3 + 2, none⟩ = some (.slice a sids.length c) := (hbr.cell (p := ⟨b0, o0 + k * 3 + 2, none⟩) hb0).trans c2'
        clear hcell hse c0' c1' c2' hI
        have HC : Hid (cutS ⟨sb, so, .slice a sids.length c, sids⟩ = ⟨sb, so, .slice a (min (sids.length : Int) 8).toNat c, sids.take 8⟩) := Lib.hid rfl
        have hx0 : (0 : Int) ≤ (sids.length : Int) := by omega
        go_wp2_with (at_builtin; (refine wpList_append_rd rfl (.tmp 28) (.tmp 30) 23 rfl w.heap.size 33 i0 (.agg #[.int .i64 0, .int .i64 0, .slice none 0 0]) 3 40 Try.underlying23 hi hz0 hz1 hz2 rfl (by decide) _ _ _ rfl (own_later hown (below_alloc2 _ _ _)) _ 1 [.int .i64 sb, .int .i64 so, .slice a (min (sids.length : Int) 8).toNat c] rfl (rd_block (alloc2_new wr _ _) rfl (Nat.le_refl _)) (by simp [Value.oneCell']) (by unfold maxLen; omega) (by omega) (by have := hbr.size; simp; omega) ?_; intro v1 w1 hown1 hgrow))
        have R : w1.ownsRow w.heap.size 33 3 v1 (k + 1) (stCells ((earlyL l).take (k + 1))) ∧ Below w.heap.size w w1 :=
          ⟨by rw [HST.out, HC.out, stCells_append]; exact hown1, (hbr.trans ((below_alloc2 wr _ _).mono hbr.size)).grown hgrow (by have := hbr.size; simp; omega) (fun m hm => (hown.lt m hm).1)⟩
        clear hown1 hgrow hown
        go_wp2
        go_roundw
        case rel => exact ⟨k + 1, by omega, by omega, by go_num, R.1, R.2⟩
        case measure => simp [intOf]; omega
      · obtain rfl : k = 80 := by omega
        have HST : Hid ((earlyL l).take 80 = earlyL l) := Lib.hid (earlyL_all (.inl (Nat.le_refl _)))
        have hS : StpsAt wr u3 (earlyL l) := by
          rw [HST.out] at hown
          exact StpsAt.own (by rw [earlyL_len]; rw [show min 80 l.length = 80 by omega]; exact hown)
        have hF : Fresh w u3 := fun k hk => (hown.lt k hk).1
        clear hown
        go_wp2
        go_ret
        exact ⟨_, rfl, hS, hF, hbr⟩
    · obtain rfl : k = l.length := by omega
      have HST : Hid ((earlyL l).take l.length = earlyL l) := Lib.hid (earlyL_all (.inr (Nat.le_refl _)))
      have hS : StpsAt wr u3 (earlyL l) := by
        rw [HST.out] at hown
        exact StpsAt.own (by rw [earlyL_len]; rw [show min 80 l.length = l.length by omega]; exact hown)
      have hF : Fresh w u3 := fun k hk => (hown.lt k hk).1
      clear hown
      go_wp2
      go_ret
      exact ⟨_, rfl, hS, hF, hbr⟩
end Go.Proofs.Ytkhcckfnaahbeaa
