/- lychgateref06.Good: a contract: fields that may be. -/
import Derived.Test.YtnmgfmmjdiephaaRefWith
namespace Go.Proofs.Ytnmgfmmjdiephaa
open Go.RowKit

theorem rightF_nil : rightF [] = true := by decide
theorem rightF_len {L : List Fld} (h : rightF L = true) : L.length ≤ 8 := by
  unfold rightF at h
  simp only [Bool.and_eq_true, decide_eq_true_eq] at h
  exact h.1
/-- one round of Good -/
def goodS (out : List Fld) (f : Fld) : List Fld := if rightF (withL out f.1 (f.2.extract 0 (min f.2.size 30))) then withL out f.1 (f.2.extract 0 (min f.2.size 30)) else out
def goodK (l : List Fld) (k : Nat) : List Fld := (l.take k).foldl goodS []
def goodF (l : List Fld) : List Fld := goodK l 12
theorem goodK_step {l : List Fld} {k : Nat} (h : k < l.length) : goodK l (k + 1) = goodS (goodK l k) l[k] := by
  unfold goodK
  rw [List.take_succ_eq_append_getElem h, List.foldl_append]
  rfl
theorem goodK_end {l : List Fld} {k : Nat} (h : k ≤ 12) (h2 : 12 ≤ k ∨ l.length ≤ k) : goodF l = goodK l k := by
  unfold goodF goodK
  rcases h2 with h2 | h2
  · rw [show k = 12 by omega]
  · rw [List.take_of_length_le h2, List.take_of_length_le (Nat.le_trans h2 h)]
set_option maxHeartbeats 1600000 in
set_option maxRecDepth 100000 in
theorem rgood6_any (l : List Fld) (w : World) (v : Value) (hv : FldsAt w v l) (hf : FldsFit l) (hl : l.length ≤ maxLen) :
    Calls Try.prog 52 #[v] w fun e w' => ∃ v', e = .returned v' ∧ FldsAt w' v' (goodF l) ∧ FldsFit (goodF l) ∧ rightF (goodF l) = true ∧ (∀ q, v'.ownBlock = some q → w.heap.size ≤ q) ∧ Below w.heap.size w w' := by
  obtain ⟨a, c, rfl, hc, hr⟩ := RdAt.shape hv
  have HR := Lib.hid hr
  have HF := Lib.hid hf
  have hl63 : l.length < 9223372036854775808 := by unfold maxLen at hl; omega
  clear hr hv hf hl
  go_enter Try.func52, Try.ntmps52
  go_wp2
  go_loopw [3, 4] (fun s3 i wr => ∃ (k : Nat) (L : List Fld), i = .int .i64 k ∧ k ≤ l.length ∧ k ≤ 12 ∧ Hid (goodK l k = L) ∧ FldsAt wr s3 L ∧ FldsFit L ∧ rightF L = true ∧ (∀ q, s3.ownBlock = some q → w.heap.size ≤ q) ∧ Below w.heap.size w wr) (fun _ i _ => l.length - (intOf i).toNat)
  case atStart => exact ⟨0, [], rfl, Nat.zero_le _, Nat.zero_le _, Lib.hid rfl, RdAt.nil _ _, (fun _ h => by cases h), rightF_nil, (fun q hq => by simp [Value.ownBlock] at hq), Below.refl _ _⟩
  case round =>
    obtain ⟨k, L, rfl, hk, hk12, HGK, hL, hfit, hright, hown, hbr⟩ := hrel
    obtain ⟨va, vc, rfl, _, _⟩ := RdAt.shape hL
    have HL := Lib.hid hL
    have HRT := Lib.hid hright
    have HFT := Lib.hid hfit
    have HOW := Lib.hid hown
    clear hL hright hfit hown
    by_cases hkl : k < l.length
    · by_cases h12 : k < 12
      · obtain ⟨b, o, rfl, hb, hcell⟩ := HR.out (by omega)
        obtain ⟨x, hxe⟩ : ∃ x, l[k].1 = x := ⟨_, rfl⟩
        obtain ⟨y, hye⟩ : ∃ y, l[k].2 = y := ⟨_, rfl⟩
        have hfs := HF.out _ (List.getElem_mem hkl)
        rw [hxe, hye] at hfs
        obtain ⟨hx0, hy0⟩ := fldCells_at l k hkl
        rw [hxe] at hx0
        rw [hye] at hy0
        have a0 : wr.cell? ⟨b, o + k * 2, none⟩ = some (.string x) := keep_cell (hcell _ _ hx0) hbr hb
        have a1 : wr.cell? ⟨b, o + k * 2 + 1, none⟩ = some (.string y) := keep_cell (by have := hcell _ _ hy0; rwa [← Nat.add_assoc] at this) hbr hb
        have hwb : b < wr.heap.size := Nat.lt_of_lt_of_le hb hbr.size
        have HFX := Lib.hid hfs
        have hys : y.size ≤ 9223372036854775807 := by have := hfs.2; unfold maxLen at this; omega
        obtain ⟨m, hm, hm1, hm2, hm3⟩ : ∃ m : Nat, min y.size 30 = m ∧ m ≤ 30 ∧ m ≤ y.size ∧ min (y.size : Int) 30 = (m : Int) := ⟨min y.size 30, rfl, by omega, by omega, by omega⟩
        have HGS : Hid (goodK l (k + 1) = if rightF (withL L x (y.extract 0 m)) then withL L x (y.extract 0 m) else L) := by
          show _ = _
          rw [goodK_step hkl, HGK.out, show l[k] = (x, y) by rw [← hxe, ← hye]]
          unfold goodS
          simp only [hm]
        clear hm HGK
        have hwith : ∀ (val : ByteArray) W, val.size ≤ maxLen → Below wr.heap.size wr W → Calls Try.prog 74 #[.slice va L.length vc, .string x, .string val] W fun e w' => ∃ v', e = .returned v' ∧ FldsAt w' v' (withL L x val) ∧ FldsFit (withL L x val) ∧ (withL L x val).length ≤ 2 * L.length + 1 ∧ (∀ q, v'.ownBlock = some q → W.heap.size ≤ q) ∧ Below W.heap.size W w' := fun val W hval h =>
          rwith_any L x val W _ (HL.out.later h) HFT.out (by have := rightF_len HRT.out; omega) HFX.out.1 hval
        have HWI := Lib.hid hwith
        have HB := Lib.hid hbr
        clear hcell hx0 hy0 hxe hye hfs hwith hbr
        go_upto_region 5 with fail
        refine wp_region_held_drew (S := (fun W => W.cell? ⟨b, o + k * 2, none⟩ = some (.string x) ∧ W.cell? ⟨b, o + k * 2 + 1, none⟩ = some (.string y))) (by kernel_rfl) ⟨a0, a1⟩ (fun hHeld => ?_)
        refine held_take (i := 0) (v := ?_) rfl rfl (by kernel_rfl) (by kernel_rfl) (by kernel_rfl) (fun _ _ _ h => h) (by rfl) hHeld ?_ ?_
        rotate_left
        · rintro wh ⟨z0, z1⟩
          go_simp
          (try with_reducible rfl)
        simp only [Act.put, List.setIfInBounds_toArray, List.set_cons_zero, List.set_cons_succ]
        refine held_take (i := 1) (v := ?_) rfl rfl (by kernel_rfl) (by kernel_rfl) (by kernel_rfl) (fun _ _ _ h => h) (by rfl) hHeld ?_ ?_
        rotate_left
        · rintro wh ⟨z0, z1⟩
          go_simp
          (try with_reducible rfl)
        simp only [Act.put, List.setIfInBounds_toArray, List.set_cons_zero, List.set_cons_succ]
        refine held_take (i := 2) (v := ?_) rfl rfl (by kernel_rfl) (by kernel_rfl) (by kernel_rfl) (fun _ _ _ h => h) (by rfl) hHeld ?_ ?_
        rotate_left
        · rintro wh ⟨z0, z1⟩
          go_simp
          (try with_reducible rfl)
        simp only [Act.put, List.setIfInBounds_toArray, List.set_cons_zero, List.set_cons_succ]
        refine held_take (i := 3) (v := ?_) rfl rfl (by kernel_rfl) (by kernel_rfl) (by kernel_rfl) (fun _ _ _ h => h) (by rfl) hHeld ?_ ?_
        rotate_left
        · rintro wh ⟨z0, z1⟩
          go_simp
          (try with_reducible rfl)
        simp only [Act.put, List.setIfInBounds_toArray, List.set_cons_zero, List.set_cons_succ]
        refine held_take (i := 4) (v := ?_) rfl rfl (by kernel_rfl) (by kernel_rfl) (by kernel_rfl) (fun _ _ _ h => h) (by rfl) hHeld ?_ ?_
        rotate_left
        · rintro wh ⟨z0, z1⟩
          go_simp
          (try with_reducible rfl)
        simp only [Act.put, List.setIfInBounds_toArray, List.set_cons_zero, List.set_cons_succ]
        refine held_take (i := 5) (v := ?_) rfl rfl (by kernel_rfl) (by kernel_rfl) (by kernel_rfl) (fun _ _ _ h => h) (by rfl) hHeld ?_ ?_
        rotate_left
        · rintro wh ⟨z0, z1⟩
          go_simp
          (try with_reducible rfl)
        simp only [Act.put, List.setIfInBounds_toArray, List.set_cons_zero, List.set_cons_succ]
        refine held_take (i := 6) (v := ?_) rfl rfl (by kernel_rfl) (by kernel_rfl) (by kernel_rfl) (fun _ _ _ h => h) (by rfl) hHeld ?_ ?_
        rotate_left
        · rintro wh ⟨z0, z1⟩
          go_simp
          (try with_reducible rfl)
        simp only [Act.put, List.setIfInBounds_toArray, List.set_cons_zero, List.set_cons_succ]
        refine held_take (i := 7) (v := ?_) rfl rfl (by kernel_rfl) (by kernel_rfl) (by kernel_rfl) (fun _ _ _ h => h) (by rfl) hHeld ?_ ?_
        rotate_left
        · rintro wh ⟨z0, z1⟩
          go_simp
          (try with_reducible rfl)
        simp only [Act.put, List.setIfInBounds_toArray, List.set_cons_zero, List.set_cons_succ]
        refine held_take (i := 8) (v := ?_) rfl rfl (by kernel_rfl) (by kernel_rfl) (by kernel_rfl) (fun _ _ _ h => h) (by rfl) hHeld ?_ ?_
        rotate_left
        · rintro wh ⟨z0, z1⟩
          go_simp
          (try with_reducible rfl)
        simp only [Act.put, List.setIfInBounds_toArray, List.set_cons_zero, List.set_cons_succ]
        refine held_take (i := 9) (v := ?_) rfl rfl (by kernel_rfl) (by kernel_rfl) (by kernel_rfl) (fun _ _ _ h => h) (by rfl) hHeld ?_ ?_
        rotate_left
        · rintro wh ⟨z0, z1⟩
          go_simp
          (try with_reducible rfl)
        simp only [Act.put, List.setIfInBounds_toArray, List.set_cons_zero, List.set_cons_succ]
        refine held_take (i := 10) (v := ?_) rfl rfl (by kernel_rfl) (by kernel_rfl) (by kernel_rfl) (fun _ _ _ h => h) (by rfl) hHeld ?_ ?_
        rotate_left
        · rintro wh ⟨z0, z1⟩
          go_simp
          (try with_reducible rfl)
        simp only [Act.put, List.setIfInBounds_toArray, List.set_cons_zero, List.set_cons_succ]
        refine held_take (i := 11) (v := ?_) rfl rfl (by kernel_rfl) (by kernel_rfl) (by kernel_rfl) (fun _ _ _ h => h) (by rfl) hHeld ?_ ?_
        rotate_left
        · rintro wh ⟨z0, z1⟩
          go_simp
          (try with_reducible rfl)
        simp only [Act.put, List.setIfInBounds_toArray, List.set_cons_zero, List.set_cons_succ]
        refine held_take (i := 12) (v := ?_) rfl rfl (by kernel_rfl) (by kernel_rfl) (by kernel_rfl) (fun _ _ _ h => h) (by rfl) hHeld ?_ ?_
        rotate_left
        · rintro wh ⟨z0, z1⟩
          go_simp
          (try with_reducible rfl)
        simp only [Act.put, List.setIfInBounds_toArray, List.set_cons_zero, List.set_cons_succ]
        refine held_take (i := 13) (v := ?_) rfl rfl (by kernel_rfl) (by kernel_rfl) (by kernel_rfl) (fun _ _ _ h => h) (by rfl) hHeld ?_ ?_
        rotate_left
        · rintro wh ⟨z0, z1⟩
          go_simp
          (try with_reducible rfl)
        simp only [Act.put, List.setIfInBounds_toArray, List.set_cons_zero, List.set_cons_succ]
        refine held_take (i := 14) (v := ?_) rfl rfl (by kernel_rfl) (by kernel_rfl) (by kernel_rfl) (fun _ _ _ h => h) (by rfl) hHeld ?_ ?_
        rotate_left
        · rintro wh ⟨z0, z1⟩
          go_simp
          (try with_reducible rfl)
        simp only [Act.put, List.setIfInBounds_toArray, List.set_cons_zero, List.set_cons_succ]
        refine held_take (i := 15) (v := ?_) rfl rfl (by kernel_rfl) (by kernel_rfl) (by kernel_rfl) (fun _ _ _ h => h) (by rfl) hHeld ?_ ?_
        rotate_left
        · rintro wh ⟨z0, z1⟩
          go_simp
          (try with_reducible rfl)
        simp only [Act.put, List.setIfInBounds_toArray, List.set_cons_zero, List.set_cons_succ]
        refine held_take (i := 16) (v := ?_) rfl rfl (by kernel_rfl) (by kernel_rfl) (by kernel_rfl) (fun _ _ _ h => h) (by rfl) hHeld ?_ ?_
        rotate_left
        · rintro wh ⟨z0, z1⟩
          go_simp
          (try with_reducible rfl)
        simp only [Act.put, List.setIfInBounds_toArray, List.set_cons_zero, List.set_cons_succ]
        refine held_take (i := 17) (v := ?_) rfl rfl (by kernel_rfl) (by kernel_rfl) (by kernel_rfl) (fun _ _ _ h => h) (by rfl) hHeld ?_ ?_
        rotate_left
        · rintro wh ⟨z0, z1⟩
          go_simp
          (try with_reducible rfl)
        simp only [Act.put, List.setIfInBounds_toArray, List.set_cons_zero, List.set_cons_succ]
        refine held_take (i := 18) (v := ?_) rfl rfl (by kernel_rfl) (by kernel_rfl) (by kernel_rfl) (fun _ _ _ h => h) (by rfl) hHeld ?_ ?_
        rotate_left
        · rintro wh ⟨z0, z1⟩
          go_simp
          (try with_reducible rfl)
        simp only [Act.put, List.setIfInBounds_toArray, List.set_cons_zero, List.set_cons_succ]
        refine held_call (i := 19) rfl (by kernel_rfl) (by rfl) (fun K hK => ?_)
        (go_simp; go_at_call 74; refine (HWI.out _ _ ?_ (Below.refl _ wr).drew).mono ?_; (· rw [ByteArray.size_extract]; unfold maxLen; omega); rintro e w1 ⟨v1, rfl, hF1, hfit1, hlen1, hown1, hb1⟩; have hB1 : Below wr.heap.size wr w1 := ((Below.refl _ _).drew).trans hb1)
        refine hK.out _ _ ⟨keep_cell a0 hB1 hwb, keep_cell a1 hB1 hwb⟩ (fun hHeld => ?_)
        clear hK K
        (try simp only [Act.put, List.setIfInBounds_toArray, List.set_cons_zero, List.set_cons_succ])
        refine held_take (i := 20) (v := ?_) rfl rfl (by kernel_rfl) (by kernel_rfl) (by kernel_rfl) (fun _ _ _ h => h) (by rfl) hHeld ?_ ?_
        rotate_left
        · rintro wh ⟨z0, z1⟩
          go_simp
          (try with_reducible rfl)
        simp only [Act.put, List.setIfInBounds_toArray, List.set_cons_zero, List.set_cons_succ]
        refine wpAnyH_done (by kernel_rfl) ?_ _
        have HB1 := Lib.hid (HB.out.trans (hB1.mono HB.out.size))
        generalize withL L x (y.extract 0 m) = L1 at *
        have hL1 := HL.out.later hB1
        have hlen17 := rightF_len HRT.out
        have kr := rright6_any L1 w1 v1 hF1 hfit1 (by unfold maxLen; omega)
        obtain ⟨q, hq⟩ : ∃ q, rightF L1 = q := ⟨_, rfl⟩
        rw [hq] at kr
        obtain ⟨vb, vd, rfl, _, _⟩ := RdAt.shape hF1
        have HF1 := Lib.hid hF1
        have HO1 : Hid (∀ q, (Value.slice vb L1.length vd).ownBlock = some q → w.heap.size ≤ q) := Lib.hid (fun q hq => Nat.le_trans HB.out.size (hown1 q hq))
        clear hown1
        have HFT1 := Lib.hid hfit1
        have HQ := Lib.hid hq
        have HL1 := Lib.hid hL1
        clear hB1 hb1 hF1 hfit1 hlen1 hq hL1 hlen17 a0 a1 HWI HB hm1 hm2 hm3 hys
        go_wp2_with fail
        refine kr.mono ?_
        rintro e w2 ⟨rfl, hb2⟩
        have HF2 := Lib.hid (HF1.out.later hb2)
        have HL2 := Lib.hid (HL1.out.later hb2)
        have HB2 := Lib.hid (HB1.out.trans (hb2.mono HB1.out.size))
        clear kr hb2 HF1 HL1 HB1
        cases q
        · go_wp2
          go_roundw
          case rel => exact ⟨k + 1, L, by go_num, by omega, by omega, Lib.hid (by rw [HGS.out, HQ.out]; rfl), HL2.out, HFT.out, HRT.out, HOW.out, HB2.out⟩
          case measure => (simp [intOf]; try omega)
        · go_wp2
          go_roundw
          case rel => exact ⟨k + 1, L1, by go_num, by omega, by omega, Lib.hid (by rw [HGS.out, HQ.out]; rfl), HF2.out, HFT1.out, HQ.out, HO1.out, HB2.out⟩
          case measure => (simp [intOf]; try omega)
      · have h12' : (12 : Int) ≤ (k : Int) := by omega
        have HE : Hid (goodF l = L) := by show _ = _; rw [goodK_end hk12 (.inl (by omega)), HGK.out]
        go_wp2
        go_ret
        exact ⟨_, rfl, by rw [HE.out]; exact HL.out, by rw [HE.out]; exact HFT.out, by rw [HE.out]; exact HRT.out, HOW.out, hbr⟩
    · obtain rfl : k = l.length := by omega
      have HE : Hid (goodF l = L) := by show _ = _; rw [goodK_end hk12 (.inr (Nat.le_refl _)), HGK.out]
      go_wp2
      go_ret
      exact ⟨_, rfl, by rw [HE.out]; exact HL.out, by rw [HE.out]; exact HFT.out, by rw [HE.out]; exact HRT.out, HOW.out, hbr⟩
end Go.Proofs.Ytnmgfmmjdiephaa
