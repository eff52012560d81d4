/- Several parts in one: lychgateref06.With: a contract. lychgateref06.Good: a contract: fields that may be. lychgateref09.Good: a contract. -/
import Derived.Test.YtipnhpfpppblhaaRefGC
import Derived.Test.YtipnhpfpppblhaaHeldT
namespace Go.Proofs.Ytipnhpfpppblhaa
open Go.RowKit

theorem fit_snoc {L : List Fld} {x y : ByteArray} (h : FldsFit L) (hx : x.size ≤ maxLen) (hy : y.size ≤ maxLen) : FldsFit (L ++ [(x, y)]) := fun f hf => by
  rcases List.mem_append.1 hf with h' | h'
  · exact h f h'
  · simp only [List.mem_singleton] at h'
    subst h'
    exact ⟨hx, hy⟩
/-- one round of With -/
def withS (nm val : ByteArray) (s : List Fld × Bool) (f : Fld) : List Fld × Bool :=
  let s1 := if !s.2 && !ltS f.1 nm then (s.1 ++ [(nm, val)], true) else s
  if f.1 = nm then s1 else (s1.1 ++ [f], s1.2)
def withK (l : List Fld) (nm val : ByteArray) (k : Nat) : List Fld × Bool := (l.take k).foldl (withS nm val) ([], false)
def withL (l : List Fld) (nm val : ByteArray) : List Fld := if (withK l nm val l.length).2 then (withK l nm val l.length).1 else (withK l nm val l.length).1 ++ [(nm, val)]
theorem withK_step {l : List Fld} {nm val : ByteArray} {k : Nat} (h : k < l.length) : withK l nm val (k + 1) = withS nm val (withK l nm val k) l[k] := by
  unfold withK
  rw [List.take_succ_eq_append_getElem h, List.foldl_append]
  rfl
theorem rd_fld (w : World) (x y : ByteArray) (t : TypeId) : RdAt (w.alloc (.cells #[.string x, .string y] t)) (.slice (some ⟨w.heap.size, 0, none⟩) 1 1) 1 2 [.string x, .string y] := by
  refine RdAt.mk rfl (Nat.le_refl _) (by simp) (fun j v hj => ?_)
  rw [Nat.zero_add]
  exact (World.cell?_alloc_at _ _ _ _ rfl).trans (by
    match j, hj with
    | 0, hj => exact hj
    | 1, hj => exact hj
    | j + 2, hj => simp at hj)
set_option maxHeartbeats 1600000 in
set_option maxRecDepth 100000 in
theorem rwith_any (l : List Fld) (nm val : ByteArray) (w : World) (v : Value) (hv : FldsAt w v l) (hf : FldsFit l) (hl : l.length ≤ 1000) (hnm : nm.size ≤ maxLen) (hval : val.size ≤ maxLen) :
    Calls Try.prog 63 #[v, .string nm, .string val] w fun e w' => ∃ v', e = .returned v' ∧ FldsAt w' v' (withL l nm val) ∧ FldsFit (withL l nm val) ∧ (withL l nm val).length ≤ 2 * l.length + 1 ∧ (∀ q, v'.ownBlock = some q → w.heap.size ≤ q) ∧ Below w.heap.size w w' := by
  obtain ⟨i0, hi, hz0, hz1, hz2⟩ := info_parts info_fld
  obtain ⟨a, c, rfl, hc, hr⟩ := RdAt.shape hv
  have HR := Lib.hid hr
  have HF := Lib.hid hf
  clear hr hv hf
  go_enter Try.func63, Try.ntmps63
  go_wp2
  go_loopw [7, 8, 9] (fun s7 s8 i wr => ∃ (k : Nat) (L : List Fld) (d : Bool), s8 = .bool d ∧ i = .int .i64 k ∧ k ≤ l.length ∧ wr.ownsRow w.heap.size 48 2 s7 L.length (fldCells L) ∧ FldsFit L ∧ L.length ≤ 2 * k ∧ Hid (withK l nm val k = (L, d)) ∧ Below w.heap.size w wr) (fun _ _ i _ => l.length - (intOf i).toNat)
  case atStart => exact ⟨0, [], false, rfl, rfl, Nat.zero_le _, World.ownsRow_nil _ _ _ _, (fun _ h => by cases h), Nat.zero_le _, Lib.hid rfl, Below.refl _ _⟩
  case round =>
    obtain ⟨k, L, d, rfl, rfl, hk, hown, hfit, hlen, HWK, hbr⟩ := hrel
    obtain ⟨va, vc, rfl, _, _⟩ := RdAt.shape (RdAt.own hown)
    by_cases hkl : k < l.length
    · obtain ⟨b, o, rfl, hb, hcell⟩ := HR.out (by omega)
      obtain ⟨x, hxe⟩ : ∃ x, l[k].1 = x := ⟨_, rfl⟩
      obtain ⟨y, hye⟩ : ∃ y, l[k].2 = y := ⟨_, rfl⟩
      have hfs := HF.out _ (List.getElem_mem hkl)
      rw [hxe, hye] at hfs
      obtain ⟨hx0, hy0⟩ := fldCells_at l k hkl
      rw [hxe] at hx0
      rw [hye] at hy0
      have hq0 : ∀ W, Below w.heap.size w W → W.cell? ⟨b, o + k * 2, none⟩ = some (.string x) := fun W h => keep_cell (hcell _ _ hx0) h hb
      have hq1 : ∀ W, Below w.heap.size w W → W.cell? ⟨b, o + k * 2 + 1, none⟩ = some (.string y) := fun W h => keep_cell (by have := hcell _ _ hy0; rwa [← Nat.add_assoc] at this) h hb
      have HQ0 := Lib.hid hq0
      have HQ1 := Lib.hid hq1
      have HFX := Lib.hid hfs
      have hws := withK_step (nm := nm) (val := val) hkl
      rw [show l[k] = (x, y) by rw [← hxe, ← hye], HWK.out] at hws
      have HWS := Lib.hid hws
      clear hcell hx0 hy0 hxe hye hq0 hq1 hfs hws
      have hah := fun W => rahead_any x nm W HFX.out.1
      obtain ⟨lt, hlt⟩ : ∃ lt, ltS x nm = lt := ⟨_, rfl⟩
      simp only [hlt] at hah
      have HLT := Lib.hid hlt
      have a0 := HQ0.out wr hbr
      have HO := Lib.hid hown
      have HB := Lib.hid hbr
      clear hlt hown hbr
      go_upto_region 6 with fail
      go_cut [27] (fun s27 wx => s27 = .bool (!d && !lt) ∧ wx.ownsRow w.heap.size 48 2 (.slice va L.length vc) L.length (fldCells L) ∧ Below w.heap.size w wx)
      case first =>
        cases d
        · go_wp2_with fail
          refine (hah _).mono ?_
          rintro e w1 ⟨rfl, hb1⟩
          cases lt
          · go_wp2
            go_meet
            exact ⟨rfl, own_later HO.out hb1, HB.out.trans (hb1.mono HB.out.size)⟩
          · go_wp2
            go_meet
            exact ⟨rfl, own_later HO.out hb1, HB.out.trans (hb1.mono HB.out.size)⟩
        · clear hah
          go_wp2
          go_meet
          exact ⟨rfl, HO.out, HB.out⟩
      case rest =>
        obtain ⟨rfl, hown, hbr⟩ := hcut
        clear a0 hah HO HB
        obtain ⟨q, hq⟩ : ∃ q, (!d && !lt) = q := ⟨_, rfl⟩
        have HQQ := Lib.hid hq
        rw [hq]
        clear hq
        have HO := Lib.hid hown
        have HB := Lib.hid hbr
        clear hown hbr
        go_upto_if 27 with fail
        go_cut [7, 8] (fun s7 s8 wx => ∃ (L2 : List Fld) (d2 : Bool), s8 = .bool d2 ∧ wx.ownsRow w.heap.size 48 2 s7 L2.length (fldCells L2) ∧ FldsFit L2 ∧ L2.length ≤ L.length + 1 ∧ Hid ((if q then (L ++ [(nm, val)], true) else (L, d)) = (L2, d2)) ∧ Below w.heap.size w wx)
        case first =>
          cases q
          · go_wp2
            go_meet
            exact ⟨L, d, rfl, HO.out, hfit, Nat.le_succ _, Lib.hid rfl, HB.out⟩
          · have hown9 := HO.out.alloc (.cells #[.string nm, .string val] 48)
            have hrd := rd_fld wc nm val 48
            go_wp2_with (at_builtin; (refine wpList_append_rd rfl (.tmp 28) (.tmp 32) 31 rfl w.heap.size 48 i0 (.agg #[.string ⟨#[]⟩, .string ⟨#[]⟩]) 2 32 Try.underlying31 hi hz0 hz1 hz2 rfl (by decide) _ _ _ rfl hown9 _ 1 [.string nm, .string val] rfl hrd (by simp [Value.oneCell']) (by unfold maxLen; omega) (by omega) (by have := HB.out.size; simp; omega) ?_); intro v' w8 hown' hg8)
            have hB8 : Below w.heap.size w w8 := (HB.out.alloc HB.out.size _).grown hg8 (by have := HB.out.size; simp; omega) (fun j e => (hown9.lt j e).1)
            go_wp2
            go_meet
            exact ⟨L ++ [(nm, val)], true, rfl, by rw [List.length_append, fldCells_append]; exact hown', fit_snoc hfit hnm hval, by simp, Lib.hid rfl, hB8⟩
        case rest =>
          obtain ⟨L2, d2, rfl, hown, hfit2, hlen2, HIF, hbr⟩ := hcut
          have HWN : Hid (withK l nm val (k + 1) = (if x = nm then (L2, d2) else (L2 ++ [(x, y)], d2))) := by
            show _ = _
            rw [HWS.out]
            unfold withS
            simp only [HLT.out, HQQ.out, HIF.out]
          clear HIF HWS
          clear HO HB
          obtain ⟨vb, vd, rfl, _, _⟩ := RdAt.shape (RdAt.own hown)
          have a0 := HQ0.out _ hbr
          have a1 := HQ1.out _ hbr
          have HO := Lib.hid hown
          have HB := Lib.hid hbr
          clear hown hbr
          by_cases hxn : x = nm
          · have hbq : (x.toList == nm.toList) = true := bytes_eq_iff.2 hxn
            rw [if_pos hxn] at HWN
            clear hxn
            go_wp2
            go_roundw
            case rel => exact ⟨k + 1, L2, d2, rfl, by go_num, by omega, HO.out, hfit2, by omega, HWN, HB.out⟩
            case measure => (simp [intOf]; try omega)
          · have hbq : (x.toList == nm.toList) = false := by rw [bytes_beq]; exact decide_eq_false hxn
            rw [if_neg hxn] at HWN
            clear hxn
            have hown9 := HO.out.alloc (.cells #[.string x, .string y] 48)
            have hrd := rd_fld wc x y 48
            go_wp2_with (at_builtin; (refine wpList_append_rd rfl (.tmp 41) (.tmp 46) 31 rfl w.heap.size 48 i0 (.agg #[.string ⟨#[]⟩, .string ⟨#[]⟩]) 2 32 Try.underlying31 hi hz0 hz1 hz2 rfl (by decide) _ _ _ rfl hown9 _ 1 [.string x, .string y] rfl hrd (by simp [Value.oneCell']) (by unfold maxLen; omega) (by omega) (by have := HB.out.size; simp; omega) ?_); intro v' w8 hown' hg8)
            have hB8 : Below w.heap.size w w8 := (HB.out.alloc HB.out.size _).grown hg8 (by have := HB.out.size; simp; omega) (fun j e => (hown9.lt j e).1)
            go_wp2
            go_roundw
            case rel => exact ⟨k + 1, L2 ++ [(x, y)], d2, rfl, by go_num, by omega, by rw [List.length_append, fldCells_append]; exact hown', fit_snoc hfit2 HFX.out.1 HFX.out.2, by simp; omega, HWN, hB8⟩
            case measure => (simp [intOf]; try omega)
    · obtain rfl : k = l.length := by omega
      have HWL : Hid (withL l nm val = (if d then L else L ++ [(nm, val)])) := by show _ = _; unfold withL; rw [HWK.out]
      have HO := Lib.hid hown
      have HB := Lib.hid hbr
      clear hown hbr
      cases d
      · have hown9 := HO.out.alloc (.cells #[.string nm, .string val] 48)
        have hrd := rd_fld wr nm val 48
        go_wp2_with (at_builtin; (refine wpList_append_rd rfl (.tmp 50) (.tmp 54) 31 rfl w.heap.size 48 i0 (.agg #[.string ⟨#[]⟩, .string ⟨#[]⟩]) 2 32 Try.underlying31 hi hz0 hz1 hz2 rfl (by decide) _ _ _ rfl hown9 _ 1 [.string nm, .string val] rfl hrd (by simp [Value.oneCell']) (by unfold maxLen; omega) (by omega) (by have := HB.out.size; simp; omega) ?_); intro v' w8 hown' hg8)
        have hB8 : Below w.heap.size w w8 := (HB.out.alloc HB.out.size _).grown hg8 (by have := HB.out.size; simp; omega) (fun j e => (hown9.lt j e).1)
        go_wp2
        go_ret
        have hr8 := RdAt.own hown'
        rw [show (1 : Nat) = [(nm, val)].length from rfl, ← List.length_append] at hr8
        refine ⟨_, rfl, ?_⟩
        rw [HWL.out]
        exact ⟨by simp only [Bool.false_eq_true, if_false]; unfold FldsAt; rw [fldCells_append]; exact hr8, fit_snoc hfit hnm hval, by simp; omega, fun q hq => (hown'.lt q hq).1, hB8⟩
      · go_wp2
        go_ret
        refine ⟨_, rfl, ?_⟩
        rw [HWL.out]
        exact ⟨RdAt.own HO.out, hfit, by simp; omega, fun q hq => (HO.out.lt q hq).1, HB.out⟩
end Go.Proofs.Ytipnhpfpppblhaa
namespace Go.Proofs.Ytipnhpfpppblhaa
open Go.RowKit

theorem rightF_nil : rightF [] = true := by decide
theorem rightF_len {L : List Fld} (h : rightF L = true) : L.length ≤ 8 := by
  unfold rightF at h
  simp only [Bool.and_eq_true, decide_eq_true_eq] at h
  exact h.1
/-- one round of Good -/
def goodS (out : List Fld) (f : Fld) : List Fld := if rightF (withL out f.1 (f.2.extract 0 (min f.2.size 30))) then withL out f.1 (f.2.extract 0 (min f.2.size 30)) else out
def goodK (l : List Fld) (k : Nat) : List Fld := (l.take k).foldl goodS []
def goodF (l : List Fld) : List Fld := goodK l 12
theorem goodK_step {l : List Fld} {k : Nat} (h : k < l.length) : goodK l (k + 1) = goodS (goodK l k) l[k] := by
  unfold goodK
  rw [List.take_succ_eq_append_getElem h, List.foldl_append]
  rfl
theorem goodK_end {l : List Fld} {k : Nat} (h : k ≤ 12) (h2 : 12 ≤ k ∨ l.length ≤ k) : goodF l = goodK l k := by
  unfold goodF goodK
  rcases h2 with h2 | h2
  · rw [show k = 12 by omega]
  · rw [List.take_of_length_le h2, List.take_of_length_le (Nat.le_trans h2 h)]
set_option maxHeartbeats 1600000 in
set_option maxRecDepth 100000 in
theorem rgood6_any (l : List Fld) (w : World) (v : Value) (hv : FldsAt w v l) (hf : FldsFit l) (hl : l.length ≤ maxLen) :
    Calls Try.prog 39 #[v] w fun e w' => ∃ v', e = .returned v' ∧ FldsAt w' v' (goodF l) ∧ FldsFit (goodF l) ∧ rightF (goodF l) = true ∧ (∀ q, v'.ownBlock = some q → w.heap.size ≤ q) ∧ Below w.heap.size w w' := by
  obtain ⟨a, c, rfl, hc, hr⟩ := RdAt.shape hv
  have HR := Lib.hid hr
  have HF := Lib.hid hf
  have hl63 : l.length < 9223372036854775808 := by unfold maxLen at hl; omega
  clear hr hv hf hl
  go_enter Try.func39, Try.ntmps39
  go_wp2
  go_loopw [3, 4] (fun s3 i wr => ∃ (k : Nat) (L : List Fld), i = .int .i64 k ∧ k ≤ l.length ∧ k ≤ 12 ∧ Hid (goodK l k = L) ∧ FldsAt wr s3 L ∧ FldsFit L ∧ rightF L = true ∧ (∀ q, s3.ownBlock = some q → w.heap.size ≤ q) ∧ Below w.heap.size w wr) (fun _ i _ => l.length - (intOf i).toNat)
  case atStart => exact ⟨0, [], rfl, Nat.zero_le _, Nat.zero_le _, Lib.hid rfl, RdAt.nil _ _, (fun _ h => by cases h), rightF_nil, (fun q hq => by simp [Value.ownBlock] at hq), Below.refl _ _⟩
  case round =>
    obtain ⟨k, L, rfl, hk, hk12, HGK, hL, hfit, hright, hown, hbr⟩ := hrel
    obtain ⟨va, vc, rfl, _, _⟩ := RdAt.shape hL
    have HL := Lib.hid hL
    have HRT := Lib.hid hright
    have HFT := Lib.hid hfit
    have HOW := Lib.hid hown
    clear hL hright hfit hown
    by_cases hkl : k < l.length
    · by_cases h12 : k < 12
      · obtain ⟨b, o, rfl, hb, hcell⟩ := HR.out (by omega)
        obtain ⟨x, hxe⟩ : ∃ x, l[k].1 = x := ⟨_, rfl⟩
        obtain ⟨y, hye⟩ : ∃ y, l[k].2 = y := ⟨_, rfl⟩
        have hfs := HF.out _ (List.getElem_mem hkl)
        rw [hxe, hye] at hfs
        obtain ⟨hx0, hy0⟩ := fldCells_at l k hkl
        rw [hxe] at hx0
        rw [hye] at hy0
        have a0 : wr.cell? ⟨b, o + k * 2, none⟩ = some (.string x) := keep_cell (hcell _ _ hx0) hbr hb
        have a1 : wr.cell? ⟨b, o + k * 2 + 1, none⟩ = some (.string y) := keep_cell (by have := hcell _ _ hy0; rwa [← Nat.add_assoc] at this) hbr hb
        have hwb : b < wr.heap.size := Nat.lt_of_lt_of_le hb hbr.size
        have HFX := Lib.hid hfs
        have hys : y.size ≤ 9223372036854775807 := by have := hfs.2; unfold maxLen at this; omega
        obtain ⟨m, hm, hm1, hm2, hm3⟩ : ∃ m : Nat, min y.size 30 = m ∧ m ≤ 30 ∧ m ≤ y.size ∧ min (y.size : Int) 30 = (m : Int) := ⟨min y.size 30, rfl, by omega, by omega, by omega⟩
        have HGS : Hid (goodK l (k + 1) = if rightF (withL L x (y.extract 0 m)) then withL L x (y.extract 0 m) else L) := by
          show _ = _
          rw [goodK_step hkl, HGK.out, show l[k] = (x, y) by rw [← hxe, ← hye]]
          unfold goodS
          simp only [hm]
        clear hm HGK
        have hwith : ∀ (val : ByteArray) W, val.size ≤ maxLen → Below wr.heap.size wr W → Calls Try.prog 63 #[.slice va L.length vc, .string x, .string val] W fun e w' => ∃ v', e = .returned v' ∧ FldsAt w' v' (withL L x val) ∧ FldsFit (withL L x val) ∧ (withL L x val).length ≤ 2 * L.length + 1 ∧ (∀ q, v'.ownBlock = some q → W.heap.size ≤ q) ∧ Below W.heap.size W w' := fun val W hval h =>
          rwith_any L x val W _ (HL.out.later h) HFT.out (by have := rightF_len HRT.out; omega) HFX.out.1 hval
        have HWI := Lib.hid hwith
        have HB := Lib.hid hbr
        clear hcell hx0 hy0 hxe hye hfs hwith hbr
        go_upto_region 5 with fail
        refine wp_region_held_drew (S := (fun W => W.cell? ⟨b, o + k * 2, none⟩ = some (.string x) ∧ W.cell? ⟨b, o + k * 2 + 1, none⟩ = some (.string y))) (by kernel_rfl) ⟨a0, a1⟩ (fun hHeld => ?_)
        refine held_take (i := 0) (v := ?_) rfl rfl (by kernel_rfl) (by kernel_rfl) (by kernel_rfl) (fun _ _ _ h => h) (by rfl) hHeld ?_ ?_
        rotate_left
        · rintro wh ⟨z0, z1⟩
          go_simp
          (try with_reducible rfl)
        simp only [Act.put, List.setIfInBounds_toArray, List.set_cons_zero, List.set_cons_succ]
        refine held_take (i := 1) (v := ?_) rfl rfl (by kernel_rfl) (by kernel_rfl) (by kernel_rfl) (fun _ _ _ h => h) (by rfl) hHeld ?_ ?_
        rotate_left
        · rintro wh ⟨z0, z1⟩
          go_simp
          (try with_reducible rfl)
        simp only [Act.put, List.setIfInBounds_toArray, List.set_cons_zero, List.set_cons_succ]
        refine held_take (i := 2) (v := ?_) rfl rfl (by kernel_rfl) (by kernel_rfl) (by kernel_rfl) (fun _ _ _ h => h) (by rfl) hHeld ?_ ?_
        rotate_left
        · rintro wh ⟨z0, z1⟩
          go_simp
          (try with_reducible rfl)
        simp only [Act.put, List.setIfInBounds_toArray, List.set_cons_zero, List.set_cons_succ]
        refine held_take (i := 3) (v := ?_) rfl rfl (by kernel_rfl) (by kernel_rfl) (by kernel_rfl) (fun _ _ _ h => h) (by rfl) hHeld ?_ ?_
        rotate_left
        · rintro wh ⟨z0, z1⟩
          go_simp
          (try with_reducible rfl)
        simp only [Act.put, List.setIfInBounds_toArray, List.set_cons_zero, List.set_cons_succ]
        refine held_take (i := 4) (v := ?_) rfl rfl (by kernel_rfl) (by kernel_rfl) (by kernel_rfl) (fun _ _ _ h => h) (by rfl) hHeld ?_ ?_
        rotate_left
        · rintro wh ⟨z0, z1⟩
          go_simp
          (try with_reducible rfl)
        simp only [Act.put, List.setIfInBounds_toArray, List.set_cons_zero, List.set_cons_succ]
        refine held_take (i := 5) (v := ?_) rfl rfl (by kernel_rfl) (by kernel_rfl) (by kernel_rfl) (fun _ _ _ h => h) (by rfl) hHeld ?_ ?_
        rotate_left
        · rintro wh ⟨z0, z1⟩
          go_simp
          (try with_reducible rfl)
        simp only [Act.put, List.setIfInBounds_toArray, List.set_cons_zero, List.set_cons_succ]
        refine held_take (i := 6) (v := ?_) rfl rfl (by kernel_rfl) (by kernel_rfl) (by kernel_rfl) (fun _ _ _ h => h) (by rfl) hHeld ?_ ?_
        rotate_left
        · rintro wh ⟨z0, z1⟩
          go_simp
          (try with_reducible rfl)
        simp only [Act.put, List.setIfInBounds_toArray, List.set_cons_zero, List.set_cons_succ]
        refine held_take (i := 7) (v := ?_) rfl rfl (by kernel_rfl) (by kernel_rfl) (by kernel_rfl) (fun _ _ _ h => h) (by rfl) hHeld ?_ ?_
        rotate_left
        · rintro wh ⟨z0, z1⟩
          go_simp
          (try with_reducible rfl)
        simp only [Act.put, List.setIfInBounds_toArray, List.set_cons_zero, List.set_cons_succ]
        refine held_take (i := 8) (v := ?_) rfl rfl (by kernel_rfl) (by kernel_rfl) (by kernel_rfl) (fun _ _ _ h => h) (by rfl) hHeld ?_ ?_
        rotate_left
        · rintro wh ⟨z0, z1⟩
          go_simp
          (try with_reducible rfl)
        simp only [Act.put, List.setIfInBounds_toArray, List.set_cons_zero, List.set_cons_succ]
        refine held_take (i := 9) (v := ?_) rfl rfl (by kernel_rfl) (by kernel_rfl) (by kernel_rfl) (fun _ _ _ h => h) (by rfl) hHeld ?_ ?_
        rotate_left
        · rintro wh ⟨z0, z1⟩
          go_simp
          (try with_reducible rfl)
        simp only [Act.put, List.setIfInBounds_toArray, List.set_cons_zero, List.set_cons_succ]
        refine held_take (i := 10) (v := ?_) rfl rfl (by kernel_rfl) (by kernel_rfl) (by kernel_rfl) (fun _ _ _ h => h) (by rfl) hHeld ?_ ?_
        rotate_left
        · rintro wh ⟨z0, z1⟩
          go_simp
          (try with_reducible rfl)
        simp only [Act.put, List.setIfInBounds_toArray, List.set_cons_zero, List.set_cons_succ]
        refine held_take (i := 11) (v := ?_) rfl rfl (by kernel_rfl) (by kernel_rfl) (by kernel_rfl) (fun _ _ _ h => h) (by rfl) hHeld ?_ ?_
        rotate_left
        · rintro wh ⟨z0, z1⟩
          go_simp
          (try with_reducible rfl)
        simp only [Act.put, List.setIfInBounds_toArray, List.set_cons_zero, List.set_cons_succ]
        refine held_take (i := 12) (v := ?_) rfl rfl (by kernel_rfl) (by kernel_rfl) (by kernel_rfl) (fun _ _ _ h => h) (by rfl) hHeld ?_ ?_
        rotate_left
        · rintro wh ⟨z0, z1⟩
          go_simp
          (try with_reducible rfl)
        simp only [Act.put, List.setIfInBounds_toArray, List.set_cons_zero, List.set_cons_succ]
        refine held_take (i := 13) (v := ?_) rfl rfl (by kernel_rfl) (by kernel_rfl) (by kernel_rfl) (fun _ _ _ h => h) (by rfl) hHeld ?_ ?_
        rotate_left
        · rintro wh ⟨z0, z1⟩
          go_simp
          (try with_reducible rfl)
        simp only [Act.put, List.setIfInBounds_toArray, List.set_cons_zero, List.set_cons_succ]
        refine held_take (i := 14) (v := ?_) rfl rfl (by kernel_rfl) (by kernel_rfl) (by kernel_rfl) (fun _ _ _ h => h) (by rfl) hHeld ?_ ?_
        rotate_left
        · rintro wh ⟨z0, z1⟩
          go_simp
          (try with_reducible rfl)
        simp only [Act.put, List.setIfInBounds_toArray, List.set_cons_zero, List.set_cons_succ]
        refine held_take (i := 15) (v := ?_) rfl rfl (by kernel_rfl) (by kernel_rfl) (by kernel_rfl) (fun _ _ _ h => h) (by rfl) hHeld ?_ ?_
        rotate_left
        · rintro wh ⟨z0, z1⟩
          go_simp
          (try with_reducible rfl)
        simp only [Act.put, List.setIfInBounds_toArray, List.set_cons_zero, List.set_cons_succ]
        refine held_take (i := 16) (v := ?_) rfl rfl (by kernel_rfl) (by kernel_rfl) (by kernel_rfl) (fun _ _ _ h => h) (by rfl) hHeld ?_ ?_
        rotate_left
        · rintro wh ⟨z0, z1⟩
          go_simp
          (try with_reducible rfl)
        simp only [Act.put, List.setIfInBounds_toArray, List.set_cons_zero, List.set_cons_succ]
        refine held_take (i := 17) (v := ?_) rfl rfl (by kernel_rfl) (by kernel_rfl) (by kernel_rfl) (fun _ _ _ h => h) (by rfl) hHeld ?_ ?_
        rotate_left
        · rintro wh ⟨z0, z1⟩
          go_simp
          (try with_reducible rfl)
        simp only [Act.put, List.setIfInBounds_toArray, List.set_cons_zero, List.set_cons_succ]
        refine held_take (i := 18) (v := ?_) rfl rfl (by kernel_rfl) (by kernel_rfl) (by kernel_rfl) (fun _ _ _ h => h) (by rfl) hHeld ?_ ?_
        rotate_left
        · rintro wh ⟨z0, z1⟩
          go_simp
          (try with_reducible rfl)
        simp only [Act.put, List.setIfInBounds_toArray, List.set_cons_zero, List.set_cons_succ]
        refine held_call (i := 19) rfl (by kernel_rfl) (by rfl) (fun K hK => ?_)
        (go_simp; go_at_call 63; refine (HWI.out _ _ ?_ (Below.refl _ wr).drew).mono ?_; (· rw [ByteArray.size_extract]; unfold maxLen; omega); rintro e w1 ⟨v1, rfl, hF1, hfit1, hlen1, hown1, hb1⟩; have hB1 : Below wr.heap.size wr w1 := ((Below.refl _ _).drew).trans hb1)
        refine hK.out _ _ ⟨keep_cell a0 hB1 hwb, keep_cell a1 hB1 hwb⟩ (fun hHeld => ?_)
        clear hK K
        (try simp only [Act.put, List.setIfInBounds_toArray, List.set_cons_zero, List.set_cons_succ])
        refine held_take (i := 20) (v := ?_) rfl rfl (by kernel_rfl) (by kernel_rfl) (by kernel_rfl) (fun _ _ _ h => h) (by rfl) hHeld ?_ ?_
        rotate_left
        · rintro wh ⟨z0, z1⟩
          go_simp
          (try with_reducible rfl)
        simp only [Act.put, List.setIfInBounds_toArray, List.set_cons_zero, List.set_cons_succ]
        refine wpAnyH_done (by kernel_rfl) ?_ _
        have HB1 := Lib.hid (HB.out.trans (hB1.mono HB.out.size))
        generalize withL L x (y.extract 0 m) = L1 at *
        have hL1 := HL.out.later hB1
        have hlen17 := rightF_len HRT.out
        have kr := rright6_any L1 w1 v1 hF1 hfit1 (by unfold maxLen; omega)
        obtain ⟨q, hq⟩ : ∃ q, rightF L1 = q := ⟨_, rfl⟩
        rw [hq] at kr
        obtain ⟨vb, vd, rfl, _, _⟩ := RdAt.shape hF1
        have HF1 := Lib.hid hF1
        have HO1 : Hid (∀ q, (Value.slice vb L1.length vd).ownBlock = some q → w.heap.size ≤ q) := Lib.hid (fun q hq => Nat.le_trans HB.out.size (hown1 q hq))
        clear hown1
        have HFT1 := Lib.hid hfit1
        have HQ := Lib.hid hq
        have HL1 := Lib.hid hL1
        clear hB1 hb1 hF1 hfit1 hlen1 hq hL1 hlen17 a0 a1 HWI HB hm1 hm2 hm3 hys
        go_wp2_with fail
        refine kr.mono ?_
        rintro e w2 ⟨rfl, hb2⟩
        have HF2 := Lib.hid (HF1.out.later hb2)
        have HL2 := Lib.hid (HL1.out.later hb2)
        have HB2 := Lib.hid (HB1.out.trans (hb2.mono HB1.out.size))
        clear kr hb2 HF1 HL1 HB1
        cases q
        · go_wp2
          go_roundw
          case rel => exact ⟨k + 1, L, by go_num, by omega, by omega, Lib.hid (by rw [HGS.out, HQ.out]; rfl), HL2.out, HFT.out, HRT.out, HOW.out, HB2.out⟩
          case measure => (simp [intOf]; try omega)
        · go_wp2
          go_roundw
          case rel => exact ⟨k + 1, L1, by go_num, by omega, by omega, Lib.hid (by rw [HGS.out, HQ.out]; rfl), HF2.out, HFT1.out, HQ.out, HO1.out, HB2.out⟩
          case measure => (simp [intOf]; try omega)
      · have h12' : (12 : Int) ≤ (k : Int) := by omega
        have HE : Hid (goodF l = L) := by show _ = _; rw [goodK_end hk12 (.inl (by omega)), HGK.out]
        go_wp2
        go_ret
        exact ⟨_, rfl, by rw [HE.out]; exact HL.out, by rw [HE.out]; exact HFT.out, by rw [HE.out]; exact HRT.out, HOW.out, hbr⟩
    · obtain rfl : k = l.length := by omega
      have HE : Hid (goodF l = L) := by show _ = _; rw [goodK_end hk12 (.inr (Nat.le_refl _)), HGK.out]
      go_wp2
      go_ret
      exact ⟨_, rfl, by rw [HE.out]; exact HL.out, by rw [HE.out]; exact HFT.out, by rw [HE.out]; exact HRT.out, HOW.out, hbr⟩
end Go.Proofs.Ytipnhpfpppblhaa
namespace Go.Proofs.Ytipnhpfpppblhaa
open Go.RowKit

theorem rd_puts' {w : World} {v : Value} {n k : Nat} {xs : List Value} (h : RdAt w v n k xs) {g o : Nat} (hg : 0 < n → ∀ q, v.ownBlock = some q → q ≠ g) (vs : List Value) : RdAt (w.setCells g o vs) v n k xs := by
  refine ⟨h.1, ?_⟩
  rcases h.2 with h | ⟨a, c, rfl, hc, hr⟩
  · exact .inl h
  · refine .inr ⟨a, c, rfl, hc, fun hn => ?_⟩
    obtain ⟨b, o', rfl, hlt, hcell⟩ := hr hn
    have hne := hg hn b rfl
    refine ⟨b, o', rfl, Nat.lt_of_lt_of_le hlt (below_puts_base (g := g) (o := o) (Below.refl 0 w) (Nat.zero_le _) vs).size, fun j x hx => ?_⟩
    rw [World.cell?_setCells_out _ _ _ _ _ (fun hb _ => absurd hb hne)]
    exact hcell j x hx
/-- a good alert, made of any -/
def gSrc (s : ByteArray) : ByteArray := if nameL (B s) then s else ⟨#[112, 114, 111, 109]⟩
def gLv (l : Int) : Int := if rightL l then l else 1
def gFr (f : Int) : Int := (IntKind.u64.wrap f).tmod 1000
def gTil (f t : Int) : Int := if t = 0 then 0 else gFr f + 1 + (IntKind.u64.wrap t).tmod 1000
theorem gFr_in (f : Int) : 0 ≤ gFr f ∧ gFr f < 1000 := by
  have h : 0 ≤ IntKind.u64.wrap f := by simp only [IntKind.wrap, IntKind.bits, IntKind.signed]; simp; omega
  unfold gFr
  rw [Int.tmod_eq_emod_of_nonneg h]
  omega
/-- the call's boxes, in the midst -/
structure GSt (w : World) (go : Nat) (src : ByteArray) (fa : Value) (lv : Int) (c : Nat) (fr til : Int) (vo : Value) (L : List Fld) (s' : ByteArray) (l' f' t' : Int) (W : World) : Prop where
  a : C6 w.heap.size (.string src) fa (.int .i64 lv) (.int .u32 c) (.int .i64 fr) (.int .i64 til) W
  o : C6 go (.string s') vo (.int .i64 l') (.int .u32 c) (.int .i64 f') (.int .i64 t') W
  oth : W.there go 0 6
  rth : W.there (w.heap.size + 1) 0 6
  f : FldsAt W vo L
  far : 0 < L.length → ∀ q, vo.ownBlock = some q → q ≠ go ∧ q ≠ w.heap.size + 1 ∧ w.heap.size ≤ q
  ge : w.heap.size + 2 ≤ go
  lt : go < W.heap.size
  below : Below w.heap.size w W
theorem GSt.later {w W W' : World} {go : Nat} {src : ByteArray} {fa : Value} {lv : Int} {c : Nat} {fr til : Int} {vo : Value} {L : List Fld} {s' : ByteArray} {l' f' t' : Int} (h : GSt w go src fa lv c fr til vo L s' l' f' t' W) (hb : Below W.heap.size W W') : GSt w go src fa lv c fr til vo L s' l' f' t' W' := by
  have h1 := h.lt
  have h2 := h.ge
  exact ⟨h.a.later hb (by omega), h.o.later hb h1, there_later h.oth hb h1, there_later h.rth hb (by omega), h.f.later hb, h.far, h2, Nat.lt_of_lt_of_le h1 hb.size, h.below.trans (hb.mono h.below.size)⟩
theorem c6_set {w : World} {g : Nat} {v0 v1 v2 v3 v4 v5 : Value} (h : C6 g v0 v1 v2 v3 v4 v5 w) (x : Value) :
    C6 g x v1 v2 v3 v4 v5 (w.setCells g 0 [x]) ∧ C6 g v0 v1 x v3 v4 v5 (w.setCells g 2 [x]) ∧ C6 g v0 v1 v2 v3 x v5 (w.setCells g 4 [x]) ∧ C6 g v0 v1 v2 v3 v4 x (w.setCells g 5 [x]) := by
  obtain ⟨h0, h1, h2, h3, h4, h5⟩ := h
  have hs : ∀ j v, w.cell? ⟨g, j, none⟩ = some v → (w.setCells g j [x]).cell? ⟨g, j, none⟩ = some x := fun j v h => World.cell?_setCell_same' w ⟨g, j, none⟩ x (by rw [h]; rfl)
  have ho : ∀ i j v, j ≠ i → w.cell? ⟨g, j, none⟩ = some v → (w.setCells g i [x]).cell? ⟨g, j, none⟩ = some v := fun i j v hne h => by
    rw [World.cell?_setCells_out _ _ _ _ _ (fun _ _ => by simp; omega)]
    exact h
  exact ⟨⟨hs _ _ h0, ho _ _ _ (by decide) h1, ho _ _ _ (by decide) h2, ho _ _ _ (by decide) h3, ho _ _ _ (by decide) h4, ho _ _ _ (by decide) h5⟩,
    ⟨ho _ _ _ (by decide) h0, ho _ _ _ (by decide) h1, hs _ _ h2, ho _ _ _ (by decide) h3, ho _ _ _ (by decide) h4, ho _ _ _ (by decide) h5⟩,
    ⟨ho _ _ _ (by decide) h0, ho _ _ _ (by decide) h1, ho _ _ _ (by decide) h2, ho _ _ _ (by decide) h3, hs _ _ h4, ho _ _ _ (by decide) h5⟩,
    ⟨ho _ _ _ (by decide) h0, ho _ _ _ (by decide) h1, ho _ _ _ (by decide) h2, ho _ _ _ (by decide) h3, ho _ _ _ (by decide) h4, hs _ _ h5⟩⟩
section
variable {w W : World} {go : Nat} {src : ByteArray} {fa : Value} {lv : Int} {c : Nat} {fr til : Int} {vo : Value} {L : List Fld} {s' : ByteArray} {l' f' t' : Int}
theorem GSt.put (h : GSt w go src fa lv c fr til vo L s' l' f' t' W) (j : Nat) (x : Value) {s2 : ByteArray} {l2 f2 t2 : Int} (ho : C6 go (.string s2) vo (.int .i64 l2) (.int .u32 c) (.int .i64 f2) (.int .i64 t2) (W.setCells go j [x])) : GSt w go src fa lv c fr til vo L s2 l2 f2 t2 (W.setCells go j [x]) := by
  have h2 := h.ge
  exact ⟨c6_out h.a (by omega) j [x], ho, World.there_setCells h.oth go j [x], World.there_setCells h.rth go j [x], rd_puts' h.f (fun h0 q hq => (h.far h0 q hq).1) [x], h.far, h2,
    Nat.lt_of_lt_of_le h.lt (below_puts_base (g := go) (o := j) (Below.refl 0 W) (Nat.zero_le _) [x]).size, below_puts h.below (by omega) [x]⟩
theorem GSt.put0 (h : GSt w go src fa lv c fr til vo L s' l' f' t' W) (x : ByteArray) : GSt w go src fa lv c fr til vo L x l' f' t' (W.setCells go 0 [.string x]) := h.put 0 _ (c6_set h.o _).1
theorem GSt.put2 (h : GSt w go src fa lv c fr til vo L s' l' f' t' W) (x : Int) : GSt w go src fa lv c fr til vo L s' x f' t' (W.setCells go 2 [.int .i64 x]) := h.put 2 _ (c6_set h.o _).2.1
theorem GSt.put4 (h : GSt w go src fa lv c fr til vo L s' l' f' t' W) (x : Int) : GSt w go src fa lv c fr til vo L s' l' x t' (W.setCells go 4 [.int .i64 x]) := h.put 4 _ (c6_set h.o _).2.2.1
theorem GSt.put5 (h : GSt w go src fa lv c fr til vo L s' l' f' t' W) (x : Int) : GSt w go src fa lv c fr til vo L s' l' f' x (W.setCells go 5 [.int .i64 x]) := h.put 5 _ (c6_set h.o _).2.2.2
end
set_option maxHeartbeats 1600000 in
set_option maxRecDepth 100000 in
theorem rgood9_any (src : ByteArray) (fl : List Fld) (fv : Value) (lv : Int) (c : Nat) (fr til : Int) (w : World) (hs : src.size ≤ maxLen) (hv : FldsAt w fv fl) (hfit : FldsFit fl) (hl : fl.length ≤ maxLen) :
    Calls Try.prog 15 #[.agg #[.string src, fv, .int .i64 lv, .int .u32 c, .int .i64 fr, .int .i64 til]] w fun e w' =>
      ∃ v', e = .returned (.tuple #[.agg #[.string (gSrc src), v', .int .i64 (gLv lv), .int .u32 c, .int .i64 (gFr fr), .int .i64 (gTil fr til)], .bool (decide (0 < (goodF fl).length))]) ∧ FldsAt w' v' (goodF fl) ∧ FldsFit (goodF fl) ∧ rightF (goodF fl) = true ∧ (0 < (goodF fl).length → ∀ q, v'.ownBlock = some q → w.heap.size ≤ q) ∧ Below w.heap.size w w' := by
  have k1 := fun W (h : Below w.heap.size w W) => rgood6_any fl W fv (hv.later h) hfit hl
  have k2 := fun W => refName.name_any src W hs
  have k3 := rright_any lv c
  obtain ⟨fa, fc, rfl, _, _⟩ := RdAt.shape hv
  obtain ⟨L, hL⟩ : ∃ z, goodF fl = z := ⟨_, rfl⟩
  rw [hL] at k1 ⊢
  have K1 := Lib.hid k1
  have K2 := Lib.hid k2
  have K3 := Lib.hid k3
  clear hL hv hfit hl hs k1 k2 k3
  obtain ⟨W0, hW0⟩ : ∃ z, (w.alloc (.cells #[.string src, .slice fa fl.length fc, .int .i64 lv, .int .u32 c, .int .i64 fr, .int .i64 til] 38)).alloc (.cells #[.string ⟨#[]⟩, .slice none 0 0, .int .i64 0, .int .u32 0, .int .i64 0, .int .i64 0] 38) = z := ⟨_, rfl⟩
  have hb0 : Below w.heap.size w W0 := by rw [← hW0]; exact (alloc_below _ _).trans ((alloc_below _ _).mono (by simp))
  have hz : w.heap.size + 2 ≤ W0.heap.size := by rw [← hW0]; simp
  have hd := (Below.refl W0.heap.size W0)
  rw [← hW0] at hd
  obtain ⟨h1, h2, h3⟩ := box_cells hd
  have hT := box_there hd
  obtain ⟨h4, _, _⟩ := box_cells h3
  rw [World.size_alloc] at h1 hT
  rw [hW0] at h1 h4 hT
  have q0 := h4 0 _ rfl
  have q1 := h4 1 _ rfl
  have q2 := h4 2 _ rfl
  have q3 := h4 3 _ rfl
  have q4 := h4 4 _ rfl
  have q5 := h4 5 _ rfl
  have HA : Hid (C6 w.heap.size (.string src) (.slice fa fl.length fc) (.int .i64 lv) (.int .u32 c) (.int .i64 fr) (.int .i64 til) W0) := Lib.hid ⟨q0, q1, q2, q3, q4, q5⟩
  have HB0 := Lib.hid hb0
  have HT : Hid (W0.there (w.heap.size + 1) 0 6) := Lib.hid hT
  have HW0 := Lib.hid hW0
  clear h1 h2 h3 h4 hd hT hb0 hW0
  go_enter Try.func15, Try.ntmps15
  go_upto_region 1 with fail
  rw [HW0.out]
  clear HW0
  go_cut [4] (fun s4 wx => ∃ go vo, s4 = .pointer (some ⟨go, 0, none⟩) ∧ FldsFit L ∧ rightF L = true ∧ GSt w go src (.slice fa fl.length fc) lv c fr til vo L src lv 0 0 wx)
  case first =>
    refine wp_region_held_drew (S := (fun W => W.cell? ⟨w.heap.size, 0, none⟩ = some (.string src) ∧ W.cell? ⟨w.heap.size, 1, none⟩ = some (.slice fa fl.length fc) ∧ W.cell? ⟨w.heap.size, 2, none⟩ = some (.int .i64 lv) ∧ W.cell? ⟨w.heap.size, 3, none⟩ = some (.int .u32 c) ∧ W.cell? ⟨w.heap.size, 4, none⟩ = some (.int .i64 fr) ∧ W.cell? ⟨w.heap.size, 5, none⟩ = some (.int .i64 til))) (by kernel_rfl) ⟨q0, q1, q2, q3, q4, q5⟩ (fun hHeld => ?_)
    have hd : Below W0.heap.size W0 W0.drew := (Below.refl _ _).drew
    have hds : W0.heap.size ≤ W0.drew.heap.size := Nat.le_refl _
    generalize W0.drew = wd at *
    refine held_take (i := 0) (v := ?_) rfl rfl (by kernel_rfl) (by kernel_rfl) (by kernel_rfl) (fun _ _ _ h => h) (by rfl) hHeld ?_ ?_
    rotate_left
    · rintro wh ⟨z0, z1, z2, z3, z4, z5⟩
      go_simp
      (try with_reducible rfl)
    simp only [Act.put, List.setIfInBounds_toArray, List.set_cons_zero, List.set_cons_succ]
    refine held_take (i := 1) (v := ?_) rfl rfl (by kernel_rfl) (by kernel_rfl) (by kernel_rfl) (fun _ _ _ h => h) (by rfl) hHeld ?_ ?_
    rotate_left
    · rintro wh ⟨z0, z1, z2, z3, z4, z5⟩
      go_simp
      (try with_reducible rfl)
    simp only [Act.put, List.setIfInBounds_toArray, List.set_cons_zero, List.set_cons_succ]
    refine held_take (i := 2) (v := ?_) rfl rfl (by kernel_rfl) (by kernel_rfl) (by kernel_rfl) (fun _ _ _ h => h) (by rfl) hHeld ?_ ?_
    rotate_left
    · rintro wh ⟨z0, z1, z2, z3, z4, z5⟩
      go_simp
      (try with_reducible rfl)
    simp only [Act.put, List.setIfInBounds_toArray, List.set_cons_zero, List.set_cons_succ]
    refine held_take (i := 3) (v := ?_) rfl rfl (by kernel_rfl) (by kernel_rfl) (by kernel_rfl) (fun _ _ _ h => h) (by rfl) hHeld ?_ ?_
    rotate_left
    · rintro wh ⟨z0, z1, z2, z3, z4, z5⟩
      go_simp
      (try with_reducible rfl)
    simp only [Act.put, List.setIfInBounds_toArray, List.set_cons_zero, List.set_cons_succ]
    refine held_take (i := 5) (v := ?_) rfl rfl (by kernel_rfl) (by kernel_rfl) (by kernel_rfl) (fun _ _ _ h => h) (by rfl) hHeld ?_ ?_
    rotate_left
    · rintro wh ⟨z0, z1, z2, z3, z4, z5⟩
      go_simp
      (try with_reducible rfl)
    simp only [Act.put, List.setIfInBounds_toArray, List.set_cons_zero, List.set_cons_succ]
    refine held_take (i := 6) (v := ?_) rfl rfl (by kernel_rfl) (by kernel_rfl) (by kernel_rfl) (fun _ _ _ h => h) (by rfl) hHeld ?_ ?_
    rotate_left
    · rintro wh ⟨z0, z1, z2, z3, z4, z5⟩
      go_simp
      (try with_reducible rfl)
    simp only [Act.put, List.setIfInBounds_toArray, List.set_cons_zero, List.set_cons_succ]
    refine held_two (i := 4) (j := 8) rfl rfl (by kernel_rfl) (fun K hK => ?_) (fun K hK => ?_)
    · go_simp; go_at_call 39; refine (K1.out _ (HB0.out.trans (hd.mono HB0.out.size))).mono ?_; rintro e wc ⟨vz, rfl, hFz, hfit, hright, hOz, hbc⟩
      obtain ⟨va, vc, rfl, _, _⟩ := RdAt.shape hFz
      have hBc := hd.trans (hbc.mono hd.size)
      refine hK.out _ _ ⟨keep_cell q0 hBc (by omega), keep_cell q1 hBc (by omega), keep_cell q2 hBc (by omega), keep_cell q3 hBc (by omega), keep_cell q4 hBc (by omega), keep_cell q5 hBc (by omega)⟩ (fun hHeld => ?_)
      clear hK K
      (try simp only [Act.put, List.setIfInBounds_toArray, List.set_cons_zero, List.set_cons_succ])
      refine held_take (i := 7) (v := ?_) rfl rfl (by kernel_rfl) (by kernel_rfl) (by kernel_rfl) (fun _ _ _ h => h) (by rfl) hHeld ?_ ?_
      rotate_left
      · rintro wh ⟨z0, z1, z2, z3, z4, z5⟩
        go_simp
        (try with_reducible rfl)
      simp only [Act.put, List.setIfInBounds_toArray, List.set_cons_zero, List.set_cons_succ]
      refine held_step (i := 8) rfl (by kernel_rfl) (fun K hK => ?_)
      have haa := alloc_below wc (.cells #[.string ⟨#[]⟩, .slice none 0 0, .int .i64 0, .int .u32 0, .int .i64 0, .int .i64 0] 38)
      have hBa := hBc.trans (haa.mono hBc.size)
      have hTa := box_there (Below.refl (wc.alloc (.cells #[.string ⟨#[]⟩, .slice none 0 0, .int .i64 0, .int .u32 0, .int .i64 0, .int .i64 0] 38)).heap.size (wc.alloc (.cells #[.string ⟨#[]⟩, .slice none 0 0, .int .i64 0, .int .u32 0, .int .i64 0, .int .i64 0] 38)))
      have hlta : wc.heap.size < (wc.alloc (.cells #[.string ⟨#[]⟩, .slice none 0 0, .int .i64 0, .int .u32 0, .int .i64 0, .int .i64 0] 38)).heap.size := by rw [World.size_alloc]; omega
      go_simp
      refine hK.out _ _ ⟨keep_cell q0 hBa (by omega), keep_cell q1 hBa (by omega), keep_cell q2 hBa (by omega), keep_cell q3 hBa (by omega), keep_cell q4 hBa (by omega), keep_cell q5 hBa (by omega)⟩ (fun hHeld => ?_)
      clear hK K
      (try simp only [Act.put, List.setIfInBounds_toArray, List.set_cons_zero, List.set_cons_succ])
      have hFl := hFz.later (below_puts (g := wc.heap.size) (o := 0) haa (Nat.le_refl _) [.string src, .slice va L.length vc, .int .i64 lv, .int .u32 c, .int .i64 0, .int .i64 0])
      have hT : (wc.alloc (.cells #[.string ⟨#[]⟩, .slice none 0 0, .int .i64 0, .int .u32 0, .int .i64 0, .int .i64 0] 38)).there wc.heap.size 0 6 := hTa
      clear hTa
      have hcs := hBc.size
      have hfar : 0 < L.length → ∀ q, (Value.slice va L.length vc).ownBlock = some q → q ≠ wc.heap.size ∧ q ≠ w.heap.size + 1 ∧ w.heap.size ≤ q := fun h0 q hq => ⟨by obtain ⟨b, o, c, he, _, hlt, _⟩ := RdAt.some hFz h0; rw [he] at hq; simp only [Value.ownBlock, Option.some.injEq] at hq; omega, by have := hOz q hq; omega, by have := hOz q hq; omega⟩
      generalize wc.alloc (.cells #[.string ⟨#[]⟩, .slice none 0 0, .int .i64 0, .int .u32 0, .int .i64 0, .int .i64 0] 38) = wa at *
      have f0 := there_free hT 0 (by decide)
      have f1 := there_free hT 1 (by decide)
      have f2 := there_free hT 2 (by decide)
      have f3 := there_free hT 3 (by decide)
      have f4 := there_free hT 4 (by decide)
      have f5 := there_free hT 5 (by decide)
      obtain ⟨y0, hy0⟩ := there_cell hT 0 (by decide)
      obtain ⟨y1, hy1⟩ := there_cell hT 1 (by decide)
      obtain ⟨y2, hy2⟩ := there_cell hT 2 (by decide)
      obtain ⟨y3, hy3⟩ := there_cell hT 3 (by decide)
      obtain ⟨y4, hy4⟩ := there_cell hT 4 (by decide)
      obtain ⟨y5, hy5⟩ := there_cell hT 5 (by decide)
      have hB9 : Below W0.heap.size W0 (wa.setCells wc.heap.size 0 [.string src, .slice va L.length vc, .int .i64 lv, .int .u32 c, .int .i64 0, .int .i64 0]) := below_puts (g := wc.heap.size) (o := 0) hBa (by omega) [.string src, .slice va L.length vc, .int .i64 lv, .int .u32 c, .int .i64 0, .int .i64 0]
      have hF9 : FldsAt (wa.setCells wc.heap.size 0 [.string src, .slice va L.length vc, .int .i64 lv, .int .u32 c, .int .i64 0, .int .i64 0]) (.slice va L.length vc) L := hFl
      have hZ9 := c6_puts wa wc.heap.size (.string src) (.slice va L.length vc) (.int .i64 lv) (.int .u32 c) (.int .i64 0) (.int .i64 0) hT
      have hL9 : wc.heap.size < (wa.setCells wc.heap.size 0 [.string src, .slice va L.length vc, .int .i64 lv, .int .u32 c, .int .i64 0, .int .i64 0]).heap.size := Nat.lt_of_lt_of_le hlta (below_puts_base (g := wc.heap.size) (o := 0) (Below.refl 0 wa) (Nat.zero_le _) [.string src, .slice va L.length vc, .int .i64 lv, .int .u32 c, .int .i64 0, .int .i64 0]).size
      have HG : Hid (GSt w wc.heap.size src (.slice fa fl.length fc) lv c fr til (.slice va L.length vc) L src lv 0 0 (wa.setCells wc.heap.size 0 [.string src, .slice va L.length vc, .int .i64 lv, .int .u32 c, .int .i64 0, .int .i64 0])) := Lib.hid ⟨HA.out.later hB9 (by omega), hZ9, World.there_setCells hT wc.heap.size 0 [.string src, .slice va L.length vc, .int .i64 lv, .int .u32 c, .int .i64 0, .int .i64 0], there_later HT.out hB9 (by omega), hF9, hfar, by omega, hL9, HB0.out.trans (hB9.mono HB0.out.size)⟩
      have HB9 := Lib.hid hB9
      clear hB9 hF9 hZ9 hL9
      refine held_step (i := 9) rfl (by kernel_rfl) (fun K hK => ?_)
      go_simp
      refine hK.out _ _ ⟨keep_cell q0 HB9.out (by omega), keep_cell q1 HB9.out (by omega), keep_cell q2 HB9.out (by omega), keep_cell q3 HB9.out (by omega), keep_cell q4 HB9.out (by omega), keep_cell q5 HB9.out (by omega)⟩ (fun hHeld => ?_)
      clear hK K
      (try simp only [Act.put, List.setIfInBounds_toArray, List.set_cons_zero, List.set_cons_succ])
      refine wpAnyH_done (by kernel_rfl) ?_ _
      go_wp2
      go_meet
      exact ⟨wc.heap.size, _, rfl, hfit, hright, HG.out⟩
    · have haa := alloc_below wd (.cells #[.string ⟨#[]⟩, .slice none 0 0, .int .i64 0, .int .u32 0, .int .i64 0, .int .i64 0] 38)
      have hBa := hd.trans (haa.mono hd.size)
      have hTa := box_there (Below.refl (wd.alloc (.cells #[.string ⟨#[]⟩, .slice none 0 0, .int .i64 0, .int .u32 0, .int .i64 0, .int .i64 0] 38)).heap.size (wd.alloc (.cells #[.string ⟨#[]⟩, .slice none 0 0, .int .i64 0, .int .u32 0, .int .i64 0, .int .i64 0] 38)))
      have hlta : wd.heap.size < (wd.alloc (.cells #[.string ⟨#[]⟩, .slice none 0 0, .int .i64 0, .int .u32 0, .int .i64 0, .int .i64 0] 38)).heap.size := by rw [World.size_alloc]; omega
      go_simp
      refine hK.out _ _ ⟨keep_cell q0 hBa (by omega), keep_cell q1 hBa (by omega), keep_cell q2 hBa (by omega), keep_cell q3 hBa (by omega), keep_cell q4 hBa (by omega), keep_cell q5 hBa (by omega)⟩ (fun hHeld => ?_)
      clear hK K
      (try simp only [Act.put, List.setIfInBounds_toArray, List.set_cons_zero, List.set_cons_succ])
      have hT : (wd.alloc (.cells #[.string ⟨#[]⟩, .slice none 0 0, .int .i64 0, .int .u32 0, .int .i64 0, .int .i64 0] 38)).there wd.heap.size 0 6 := hTa
      clear hTa
      generalize wd.alloc (.cells #[.string ⟨#[]⟩, .slice none 0 0, .int .i64 0, .int .u32 0, .int .i64 0, .int .i64 0] 38) = wa at *
      refine held_call (i := 4) rfl (by kernel_rfl) (by rfl) (fun K hK => ?_)
      go_simp; go_at_call 39; refine (K1.out _ (HB0.out.trans (hBa.mono HB0.out.size))).mono ?_; rintro e wc ⟨vz, rfl, hFz, hfit, hright, hOz, hbc⟩
      obtain ⟨va, vc, rfl, _, _⟩ := RdAt.shape hFz
      have hBc := hBa.trans (hbc.mono hBa.size)
      refine hK.out _ _ ⟨keep_cell q0 hBc (by omega), keep_cell q1 hBc (by omega), keep_cell q2 hBc (by omega), keep_cell q3 hBc (by omega), keep_cell q4 hBc (by omega), keep_cell q5 hBc (by omega)⟩ (fun hHeld => ?_)
      clear hK K
      (try simp only [Act.put, List.setIfInBounds_toArray, List.set_cons_zero, List.set_cons_succ])
      refine held_take (i := 7) (v := ?_) rfl rfl (by kernel_rfl) (by kernel_rfl) (by kernel_rfl) (fun _ _ _ h => h) (by rfl) hHeld ?_ ?_
      rotate_left
      · rintro wh ⟨z0, z1, z2, z3, z4, z5⟩
        go_simp
        (try with_reducible rfl)
      simp only [Act.put, List.setIfInBounds_toArray, List.set_cons_zero, List.set_cons_succ]
      have hT := there_later hT hbc hlta
      have hfar : 0 < L.length → ∀ q, (Value.slice va L.length vc).ownBlock = some q → q ≠ wd.heap.size ∧ q ≠ w.heap.size + 1 ∧ w.heap.size ≤ q := fun _ q hq => by have := hOz q hq; omega
      have f0 := there_free hT 0 (by decide)
      have f1 := there_free hT 1 (by decide)
      have f2 := there_free hT 2 (by decide)
      have f3 := there_free hT 3 (by decide)
      have f4 := there_free hT 4 (by decide)
      have f5 := there_free hT 5 (by decide)
      obtain ⟨y0, hy0⟩ := there_cell hT 0 (by decide)
      obtain ⟨y1, hy1⟩ := there_cell hT 1 (by decide)
      obtain ⟨y2, hy2⟩ := there_cell hT 2 (by decide)
      obtain ⟨y3, hy3⟩ := there_cell hT 3 (by decide)
      obtain ⟨y4, hy4⟩ := there_cell hT 4 (by decide)
      obtain ⟨y5, hy5⟩ := there_cell hT 5 (by decide)
      have hB9 : Below W0.heap.size W0 (wc.setCells wd.heap.size 0 [.string src, .slice va L.length vc, .int .i64 lv, .int .u32 c, .int .i64 0, .int .i64 0]) := below_puts (g := wd.heap.size) (o := 0) hBc (by omega) [.string src, .slice va L.length vc, .int .i64 lv, .int .u32 c, .int .i64 0, .int .i64 0]
      have hF9 : FldsAt (wc.setCells wd.heap.size 0 [.string src, .slice va L.length vc, .int .i64 lv, .int .u32 c, .int .i64 0, .int .i64 0]) (.slice va L.length vc) L := rd_puts' (g := wd.heap.size) (o := 0) hFz (fun h0 q hq => (hfar h0 q hq).1) [.string src, .slice va L.length vc, .int .i64 lv, .int .u32 c, .int .i64 0, .int .i64 0]
      have hZ9 := c6_puts wc wd.heap.size (.string src) (.slice va L.length vc) (.int .i64 lv) (.int .u32 c) (.int .i64 0) (.int .i64 0) hT
      have hL9 : wd.heap.size < (wc.setCells wd.heap.size 0 [.string src, .slice va L.length vc, .int .i64 lv, .int .u32 c, .int .i64 0, .int .i64 0]).heap.size := Nat.lt_of_lt_of_le (Nat.lt_of_lt_of_le hlta hbc.size) (below_puts_base (g := wd.heap.size) (o := 0) (Below.refl 0 wc) (Nat.zero_le _) [.string src, .slice va L.length vc, .int .i64 lv, .int .u32 c, .int .i64 0, .int .i64 0]).size
      have HG : Hid (GSt w wd.heap.size src (.slice fa fl.length fc) lv c fr til (.slice va L.length vc) L src lv 0 0 (wc.setCells wd.heap.size 0 [.string src, .slice va L.length vc, .int .i64 lv, .int .u32 c, .int .i64 0, .int .i64 0])) := Lib.hid ⟨HA.out.later hB9 (by omega), hZ9, World.there_setCells hT wd.heap.size 0 [.string src, .slice va L.length vc, .int .i64 lv, .int .u32 c, .int .i64 0, .int .i64 0], there_later HT.out hB9 (by omega), hF9, hfar, by omega, hL9, HB0.out.trans (hB9.mono HB0.out.size)⟩
      have HB9 := Lib.hid hB9
      clear hB9 hF9 hZ9 hL9
      refine held_step (i := 9) rfl (by kernel_rfl) (fun K hK => ?_)
      go_simp
      refine hK.out _ _ ⟨keep_cell q0 HB9.out (by omega), keep_cell q1 HB9.out (by omega), keep_cell q2 HB9.out (by omega), keep_cell q3 HB9.out (by omega), keep_cell q4 HB9.out (by omega), keep_cell q5 HB9.out (by omega)⟩ (fun hHeld => ?_)
      clear hK K
      (try simp only [Act.put, List.setIfInBounds_toArray, List.set_cons_zero, List.set_cons_succ])
      refine wpAnyH_done (by kernel_rfl) ?_ _
      go_wp2
      go_meet
      exact ⟨wd.heap.size, _, rfl, hfit, hright, HG.out⟩
  case rest =>
    obtain ⟨go, vo, rfl, hfit, hright, hG⟩ := hcut
    clear q0 q1 q2 q3 q4 q5 HA HB0 HT hz
    have HFT := Lib.hid hfit
    have HRT := Lib.hid hright
    have k2 := K2.out
    obtain ⟨nb, hnb⟩ : ∃ nb, nameL (B src) = nb := ⟨_, rfl⟩
    simp only [hnb] at k2
    have HS : Hid (gSrc src = if nb then src else ⟨#[112, 114, 111, 109]⟩) := by show _ = _; unfold gSrc; rw [hnb]
    have HG := Lib.hid hG
    obtain ⟨o0, o1, o2, o3, o4, o5⟩ := hG.o
    have f0 := there_free hG.oth 0 (by decide)
    clear hfit hright hnb K1 K2 hG
    go_upto_if 16 with (go_at_call 35; refine (k2 _).mono ?_; rintro e w2 ⟨rfl, rfl⟩)
    go_cut [] (fun wx => GSt w go src (.slice fa fl.length fc) lv c fr til vo L (gSrc src) lv 0 0 wx)
    case first =>
      clear k2
      cases nb
      · go_wp2
        go_meet
        rw [HS.out]
        exact HG.out.put0 _
      · go_wp2
        go_meet
        rw [HS.out]
        exact HG.out
    case rest =>
      have HG := Lib.hid hcut
      have k3 := K3.out
      obtain ⟨nb, hnb⟩ : ∃ nb, rightL lv = nb := ⟨_, rfl⟩
      simp only [hnb] at k3
      have HSL : Hid (gLv lv = if nb then lv else 1) := by show _ = _; unfold gLv; rw [hnb]
      clear o0 o1 o2 o3 o4 o5 f0 HS k2 hcut hnb K3
      obtain ⟨o0, o1, o2, o3, o4, o5⟩ := HG.out.o
      go_wp2_with fail
      refine (k3 _).mono ?_
      rintro e w3 ⟨rfl, hb3⟩
      have HG3 := Lib.hid (HG.out.later hb3)
      clear o0 o1 o2 o3 o4 o5 HG hb3 k3
      obtain ⟨o0, o1, o2, o3, o4, o5⟩ := HG3.out.o
      have f2 := there_free HG3.out.oth 2 (by decide)
      go_upto_if 21 with fail
      go_cut [] (fun wx => GSt w go src (.slice fa fl.length fc) lv c fr til vo L (gSrc src) (gLv lv) 0 0 wx)
      case first =>
        cases nb
        · go_wp2
          go_meet
          rw [HSL.out]
          exact HG3.out.put2 _
        · go_wp2
          go_meet
          rw [HSL.out]
          exact HG3.out
      case rest =>
        have HG4 := Lib.hid hcut
        clear o0 o1 o2 o3 o4 o5 f2 HG3 hcut HSL
        obtain ⟨a0, a1, a2, a3, a4, a5⟩ := HG4.out.a
        have f4 := there_free HG4.out.oth 4 (by decide)
        obtain ⟨u, hu⟩ : ∃ u, IntKind.u64.wrap fr = u := ⟨_, rfl⟩
        obtain ⟨f', hf'⟩ : ∃ f', u.tmod 1000 = f' := ⟨_, rfl⟩
        have hgf : gFr fr = f' := by unfold gFr; rw [hu, hf']
        have hfin := gFr_in fr
        rw [hgf] at hfin
        have hf1 : IntKind.i64.wrap f' = f' := IntWalk.i64_in _ ⟨by omega, by omega⟩
        obtain ⟨_, _, _, _, o4, _⟩ := HG4.out.o
        go_upto_region 7 with fail
        change Code.wp _ _ _ _ (wc.setCells go 4 [.int .i64 f'])
        have HG5 := Lib.hid (HG4.out.put4 f')
        generalize wc.setCells go 4 [.int .i64 f'] = w5 at *
        clear a0 a1 a2 a3 a4 a5 o4 f4 HG4 hu hf' hf1
        have HGF := Lib.hid hgf
        clear hgf
        obtain ⟨a0, a1, a2, a3, a4, a5⟩ := HG5.out.a
        obtain ⟨o0, o1, o2, o3, o4, o5⟩ := HG5.out.o
        have f5 := there_free HG5.out.oth 5 (by decide)
        go_upto_if 32 with fail
        go_cut [] (fun wx => GSt w go src (.slice fa fl.length fc) lv c fr til vo L (gSrc src) (gLv lv) (gFr fr) (gTil fr til) wx)
        case first =>
          by_cases h0 : til = 0
          · have hb : (til != 0) = false := by rw [h0]; rfl
            have HE : Hid (gTil fr til = 0) := by show _ = _; unfold gTil; rw [if_pos h0]
            clear h0
            go_wp2
            go_meet
            rw [HE.out, HGF.out]
            exact HG5.out
          · have hb : (til != 0) = true := by rw [bne_iff_ne]; exact h0
            have hu0 : 0 ≤ IntKind.u64.wrap til := by simp only [IntKind.wrap, IntKind.bits, IntKind.signed]; simp; omega
            obtain ⟨u2, hu2⟩ : ∃ u2, IntKind.u64.wrap til = u2 := ⟨_, rfl⟩
            obtain ⟨t2, ht2⟩ : ∃ t2, u2.tmod 1000 = t2 := ⟨_, rfl⟩
            have ht3 : 0 ≤ t2 ∧ t2 < 1000 := by
              rw [← ht2, Int.tmod_eq_emod_of_nonneg (by rw [← hu2]; exact hu0)]; omega
            have HE : Hid (gTil fr til = f' + 1 + t2) := by show _ = _; unfold gTil; rw [if_neg h0, HGF.out, hu2, ht2]
            have w1 : IntKind.i64.wrap t2 = t2 := IntWalk.i64_in _ ⟨by omega, by omega⟩
            have w2 : IntKind.i64.wrap (f' + 1) = f' + 1 := IntWalk.i64_in _ ⟨by omega, by omega⟩
            have w3 : IntKind.i64.wrap (f' + 1 + t2) = f' + 1 + t2 := IntWalk.i64_in _ ⟨by omega, by omega⟩
            have e5 := there_cell HG5.out.oth 5 (by decide)
            clear h0 hu0 ht3
            go_wp2
            go_meet
            rw [HE.out, HGF.out]
            exact HG5.out.put5 _
        case rest =>
          have HG6 := Lib.hid hcut
          clear a0 a1 a2 a3 a4 a5 o0 o1 o2 o3 o4 o5 f5 HG5 hcut HGF
          obtain ⟨va, vc, rfl, _, _⟩ := RdAt.shape HG6.out.f
          obtain ⟨o0, o1, o2, o3, o4, o5⟩ := HG6.out.o
          have hp : ∀ o v, wc.drew.cell? ⟨go, o, none⟩ = some v → (wc.drew.setCells (w.heap.size + 1) 0 [.string (gSrc src), .slice va L.length vc, .int .i64 (gLv lv), .int .u32 c, .int .i64 (gFr fr), .int .i64 (gTil fr til)]).cell? ⟨go, o, none⟩ = some v := fun o v h => by
            rw [World.cell?_setCells_out _ _ _ _ _ (fun hb _ => by have := HG6.out.ge; simp at hb; omega)]
            exact h
          go_upto_region 9 with fail
          refine wp_region_held_drew (S := (fun W => W.cell? ⟨go, 0, none⟩ = some (.string (gSrc src)) ∧ W.cell? ⟨go, 1, none⟩ = some (.slice va L.length vc) ∧ W.cell? ⟨go, 2, none⟩ = some (.int .i64 (gLv lv)) ∧ W.cell? ⟨go, 3, none⟩ = some (.int .u32 c) ∧ W.cell? ⟨go, 4, none⟩ = some (.int .i64 (gFr fr)) ∧ W.cell? ⟨go, 5, none⟩ = some (.int .i64 (gTil fr til)))) (by kernel_rfl) ⟨o0, o1, o2, o3, o4, o5⟩ (fun hHeld => ?_)
          have HG7 := Lib.hid (HG6.out.later (Below.refl _ wc).drew)
          clear HG6
          generalize wc.drew = wd at *
          have f0 := there_free HG7.out.rth 0 (by decide)
          obtain ⟨y0, hy0⟩ := there_cell HG7.out.rth 0 (by decide)
          have f1 := there_free HG7.out.rth 1 (by decide)
          obtain ⟨y1, hy1⟩ := there_cell HG7.out.rth 1 (by decide)
          have f2 := there_free HG7.out.rth 2 (by decide)
          obtain ⟨y2, hy2⟩ := there_cell HG7.out.rth 2 (by decide)
          have f3 := there_free HG7.out.rth 3 (by decide)
          obtain ⟨y3, hy3⟩ := there_cell HG7.out.rth 3 (by decide)
          have f4 := there_free HG7.out.rth 4 (by decide)
          obtain ⟨y4, hy4⟩ := there_cell HG7.out.rth 4 (by decide)
          have f5 := there_free HG7.out.rth 5 (by decide)
          obtain ⟨y5, hy5⟩ := there_cell HG7.out.rth 5 (by decide)
          refine held_take (i := 0) (v := ?_) rfl rfl (by kernel_rfl) (by kernel_rfl) (by kernel_rfl) (fun _ _ _ h => h) (by rfl) hHeld ?_ ?_
          rotate_left
          · rintro wh ⟨z0, z1, z2, z3, z4, z5⟩
            go_simp
            (try with_reducible rfl)
          simp only [Act.put, List.setIfInBounds_toArray, List.set_cons_zero, List.set_cons_succ]
          refine held_take (i := 1) (v := ?_) rfl rfl (by kernel_rfl) (by kernel_rfl) (by kernel_rfl) (fun _ _ _ h => h) (by rfl) hHeld ?_ ?_
          rotate_left
          · rintro wh ⟨z0, z1, z2, z3, z4, z5⟩
            go_simp
            (try with_reducible rfl)
          simp only [Act.put, List.setIfInBounds_toArray, List.set_cons_zero, List.set_cons_succ]
          refine held_take (i := 2) (v := ?_) rfl rfl (by kernel_rfl) (by kernel_rfl) (by kernel_rfl) (fun _ _ _ h => h) (by rfl) hHeld ?_ ?_
          rotate_left
          · rintro wh ⟨z0, z1, z2, z3, z4, z5⟩
            go_simp
            (try with_reducible rfl)
          simp only [Act.put, List.setIfInBounds_toArray, List.set_cons_zero, List.set_cons_succ]
          refine held_take (i := 3) (v := ?_) rfl rfl (by kernel_rfl) (by kernel_rfl) (by kernel_rfl) (fun _ _ _ h => h) (by rfl) hHeld ?_ ?_
          rotate_left
          · rintro wh ⟨z0, z1, z2, z3, z4, z5⟩
            go_simp
            (try with_reducible rfl)
          simp only [Act.put, List.setIfInBounds_toArray, List.set_cons_zero, List.set_cons_succ]
          refine held_take (i := 4) (v := ?_) rfl rfl (by kernel_rfl) (by kernel_rfl) (by kernel_rfl) (fun _ _ _ h => h) (by rfl) hHeld ?_ ?_
          rotate_left
          · rintro wh ⟨z0, z1, z2, z3, z4, z5⟩
            go_simp
            (try with_reducible rfl)
          simp only [Act.put, List.setIfInBounds_toArray, List.set_cons_zero, List.set_cons_succ]
          refine held_step (i := 5) rfl (by kernel_rfl) (fun K hK => ?_)
          go_simp
          refine hK.out _ _ ⟨hp _ _ HG7.out.o.1, hp _ _ HG7.out.o.2.1, hp _ _ HG7.out.o.2.2.1, hp _ _ HG7.out.o.2.2.2.1, hp _ _ HG7.out.o.2.2.2.2.1, hp _ _ HG7.out.o.2.2.2.2.2⟩ (fun hHeld => ?_)
          clear hK K
          (try simp only [Act.put, List.setIfInBounds_toArray])
          refine held_take (i := 6) (v := ?_) rfl rfl (by kernel_rfl) (by kernel_rfl) (by kernel_rfl) (fun _ _ _ h => h) (by rfl) hHeld ?_ ?_
          rotate_left
          · rintro wh ⟨z0, z1, z2, z3, z4, z5⟩
            go_simp
            (try with_reducible rfl)
          simp only [Act.put, List.setIfInBounds_toArray, List.set_cons_zero, List.set_cons_succ]
          refine wpAnyH_done (by kernel_rfl) ?_ _
          go_wp2
          refine bodyPost_ret (results_agg2 rfl _ _ (w.heap.size + 1) [.string (gSrc src), .slice va L.length vc, .int .i64 (gLv lv), .int .u32 c, .int .i64 (gFr fr), .int .i64 (gTil fr til)] (.struct _) rfl (World.rangeAt_setCells_same wd (w.heap.size + 1) 0 [.string (gSrc src), .slice va L.length vc, .int .i64 (gLv lv), .int .u32 c, .int .i64 (gFr fr), .int .i64 (gTil fr til)] HG7.out.rth) Try.underlying38 rfl (by kernel_rfl)) rfl ?_
          have hbb := below_puts (g := w.heap.size + 1) (o := 0) HG7.out.below (by omega) [.string (gSrc src), .slice va L.length vc, .int .i64 (gLv lv), .int .u32 c, .int .i64 (gFr fr), .int .i64 (gTil fr til)]
          have hF3 := rd_puts' (g := w.heap.size + 1) (o := 0) HG7.out.f (fun h0 q hq => (HG7.out.far h0 q hq).2.1) [.string (gSrc src), .slice va L.length vc, .int .i64 (gLv lv), .int .u32 c, .int .i64 (gFr fr), .int .i64 (gTil fr til)]
          exact ⟨_, by simp, hF3, HFT.out, HRT.out, fun h0 q hq => (HG7.out.far h0 q hq).2.2, hbb⟩
end Go.Proofs.Ytipnhpfpppblhaa
