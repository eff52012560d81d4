/- SilenceLow: the card: whatever the arguments, the law returns true and its arguments read as they did. No condition. -/
import Derived.Test.YtcfococinllcmaaGreatTopSilenceLowCardP0
import Derived.Test.YtcfococinllcmaaGreatHeldT
import Derived.Test.YtcfococinllcmaaGreatHeld
import Derived.Test.YtcfococinllcmaaGreatFrame12

/- Several parts in one: lychgateref06.With: a contract. lychgateref06.Good: a contract: fields that may be. lychgateref09.Good: a contract. -/
namespace Go.Proofs.YtcfococinllcmaaGreat
open Go.RowKit

theorem fit_snoc {L : List Fld} {x y : ByteArray} (h : FldsFit L) (hx : x.size ≤ maxLen) (hy : y.size ≤ maxLen) : FldsFit (L ++ [(x, y)]) := fun f hf => by
  rcases List.mem_append.1 hf with h' | h'
  · exact h f h'
  · simp only [List.mem_singleton] at h'
    subst h'
    exact ⟨hx, hy⟩
/-- one round of With -/
def withS (nm val : ByteArray) (s : List Fld × Bool) (f : Fld) : List Fld × Bool :=
  let s1 := if !s.2 && !ltS f.1 nm then (s.1 ++ [(nm, val)], true) else s
  if f.1 = nm then s1 else (s1.1 ++ [f], s1.2)
def withK (l : List Fld) (nm val : ByteArray) (k : Nat) : List Fld × Bool := (l.take k).foldl (withS nm val) ([], false)
def withL (l : List Fld) (nm val : ByteArray) : List Fld := if (withK l nm val l.length).2 then (withK l nm val l.length).1 else (withK l nm val l.length).1 ++ [(nm, val)]
theorem withK_step {l : List Fld} {nm val : ByteArray} {k : Nat} (h : k < l.length) : withK l nm val (k + 1) = withS nm val (withK l nm val k) l[k] := by
  unfold withK
  rw [List.take_succ_eq_append_getElem h, List.foldl_append]
  rfl
theorem rd_fld (w : World) (x y : ByteArray) (t : TypeId) : RdAt (w.alloc (.cells #[.string x, .string y] t)) (.slice (some ⟨w.heap.size, 0, none⟩) 1 1) 1 2 [.string x, .string y] := by
  refine RdAt.mk rfl (Nat.le_refl _) (by simp) (fun j v hj => ?_)
  rw [Nat.zero_add]
  exact (World.cell?_alloc_at _ _ _ _ rfl).trans (by
    match j, hj with
    | 0, hj => exact hj
    | 1, hj => exact hj
    | j + 2, hj => simp at hj)
set_option maxHeartbeats 1600000 in
set_option maxRecDepth 100000 in
theorem rwith_any (l : List Fld) (nm val : ByteArray) (w : World) (v : Value) (hv : FldsAt w v l) (hf : FldsFit l) (hl : l.length ≤ 1000) (hnm : nm.size ≤ maxLen) (hval : val.size ≤ maxLen) :
    Calls Tryz.prog 111 #[v, .string nm, .string val] w fun e w' => ∃ v', e = .returned v' ∧ FldsAt w' v' (withL l nm val) ∧ FldsFit (withL l nm val) ∧ (withL l nm val).length ≤ 2 * l.length + 1 ∧ (∀ q, v'.ownBlock = some q → w.heap.size ≤ q) ∧ Below w.heap.size w w' := by
  obtain ⟨i0, hi, hz0, hz1, hz2⟩ := info_parts info_fld
  obtain ⟨a, c, rfl, hc, hr⟩ := RdAt.shape hv
  have HR := Lib.hid hr
  have HF := Lib.hid hf
  clear hr hv hf
  go_enter Tryz.func111, Tryz.ntmps111
  go_wp2
  go_loopw [7, 8, 9] (fun s7 s8 i wr => ∃ (k : Nat) (L : List Fld) (d : Bool), s8 = .bool d ∧ i = .int .i64 k ∧ k ≤ l.length ∧ wr.ownsRow w.heap.size 103 2 s7 L.length (fldCells L) ∧ FldsFit L ∧ L.length ≤ 2 * k ∧ Hid (withK l nm val k = (L, d)) ∧ Below w.heap.size w wr) (fun _ _ i _ => l.length - (intOf i).toNat)
  case atStart => exact ⟨0, [], false, rfl, rfl, Nat.zero_le _, World.ownsRow_nil _ _ _ _, (fun _ h => by cases h), Nat.zero_le _, Lib.hid rfl, Below.refl _ _⟩
  case round =>
    obtain ⟨k, L, d, rfl, rfl, hk, hown, hfit, hlen, HWK, hbr⟩ := hrel
    obtain ⟨va, vc, rfl, _, _⟩ := RdAt.shape (RdAt.own hown)
    by_cases hkl : k < l.length
    · obtain ⟨b, o, rfl, hb, hcell⟩ := HR.out (by omega)
      obtain ⟨x, hxe⟩ : ∃ x, l[k].1 = x := ⟨_, rfl⟩
      obtain ⟨y, hye⟩ : ∃ y, l[k].2 = y := ⟨_, rfl⟩
      have hfs := HF.out _ (List.getElem_mem hkl)
      rw [hxe, hye] at hfs
      obtain ⟨hx0, hy0⟩ := fldCells_at l k hkl
      rw [hxe] at hx0
      rw [hye] at hy0
      have hq0 : ∀ W, Below w.heap.size w W → W.cell? ⟨b, o + k * 2, none⟩ = some (.string x) := fun W h => keep_cell (hcell _ _ hx0) h hb
      have hq1 : ∀ W, Below w.heap.size w W → W.cell? ⟨b, o + k * 2 + 1, none⟩ = some (.string y) := fun W h => keep_cell (by have := hcell _ _ hy0; rwa [← Nat.add_assoc] at this) h hb
      have HQ0 := Lib.hid hq0
      have HQ1 := Lib.hid hq1
      have HFX := Lib.hid hfs
      have hws := withK_step (nm := nm) (val := val) hkl
      rw [show l[k] = (x, y) by rw [← hxe, ← hye], HWK.out] at hws
      have HWS := Lib.hid hws
      clear hcell hx0 hy0 hxe hye hq0 hq1 hfs hws
      have hah := fun W => rahead_any x nm W HFX.out.1
      obtain ⟨lt, hlt⟩ : ∃ lt, ltS x nm = lt := ⟨_, rfl⟩
      simp only [hlt] at hah
      have HLT := Lib.hid hlt
      have a0 := HQ0.out wr hbr
      have HO := Lib.hid hown
      have HB := Lib.hid hbr
      clear hlt hown hbr
      go_upto_region 6 with fail
      go_cut [27] (fun s27 wx => s27 = .bool (!d && !lt) ∧ wx.ownsRow w.heap.size 103 2 (.slice va L.length vc) L.length (fldCells L) ∧ Below w.heap.size w wx)
      case first =>
        cases d
        · go_wp2_with fail
          refine (hah _).mono ?_
          rintro e w1 ⟨rfl, hb1⟩
          cases lt
          · go_wp2
            go_meet
            exact ⟨rfl, own_later HO.out hb1, HB.out.trans (hb1.mono HB.out.size)⟩
          · go_wp2
            go_meet
            exact ⟨rfl, own_later HO.out hb1, HB.out.trans (hb1.mono HB.out.size)⟩
        · clear hah
          go_wp2
          go_meet
          exact ⟨rfl, HO.out, HB.out⟩
      case rest =>
        obtain ⟨rfl, hown, hbr⟩ := hcut
        clear a0 hah HO HB
        obtain ⟨q, hq⟩ : ∃ q, (!d && !lt) = q := ⟨_, rfl⟩
        have HQQ := Lib.hid hq
        rw [hq]
        clear hq
        have HO := Lib.hid hown
        have HB := Lib.hid hbr
        clear hown hbr
        go_upto_if 27 with fail
        go_cut [7, 8] (fun s7 s8 wx => ∃ (L2 : List Fld) (d2 : Bool), s8 = .bool d2 ∧ wx.ownsRow w.heap.size 103 2 s7 L2.length (fldCells L2) ∧ FldsFit L2 ∧ L2.length ≤ L.length + 1 ∧ Hid ((if q then (L ++ [(nm, val)], true) else (L, d)) = (L2, d2)) ∧ Below w.heap.size w wx)
        case first =>
          cases q
          · go_wp2
            go_meet
            exact ⟨L, d, rfl, HO.out, hfit, Nat.le_succ _, Lib.hid rfl, HB.out⟩
          · have hown9 := HO.out.alloc (.cells #[.string nm, .string val] 103)
            have hrd := rd_fld wc nm val 103
            go_wp2_with (at_builtin; (refine wpList_append_rd rfl (.tmp 28) (.tmp 32) 48 rfl w.heap.size 103 i0 (.agg #[.string ⟨#[]⟩, .string ⟨#[]⟩]) 2 32 Tryz.underlying48 hi hz0 hz1 hz2 rfl (by decide) _ _ _ rfl hown9 _ 1 [.string nm, .string val] rfl hrd (by simp [Value.oneCell']) (by unfold maxLen; omega) (by omega) (by have := HB.out.size; simp; omega) ?_); intro v' w8 hown' hg8)
            have hB8 : Below w.heap.size w w8 := (HB.out.alloc HB.out.size _).grown hg8 (by have := HB.out.size; simp; omega) (fun j e => (hown9.lt j e).1)
            go_wp2
            go_meet
            exact ⟨L ++ [(nm, val)], true, rfl, by rw [List.length_append, fldCells_append]; exact hown', fit_snoc hfit hnm hval, by simp, Lib.hid rfl, hB8⟩
        case rest =>
          obtain ⟨L2, d2, rfl, hown, hfit2, hlen2, HIF, hbr⟩ := hcut
          have HWN : Hid (withK l nm val (k + 1) = (if x = nm then (L2, d2) else (L2 ++ [(x, y)], d2))) := by
            show _ = _
            rw [HWS.out]
            unfold withS
            simp only [HLT.out, HQQ.out, HIF.out]
          clear HIF HWS
          clear HO HB
          obtain ⟨vb, vd, rfl, _, _⟩ := RdAt.shape (RdAt.own hown)
          have a0 := HQ0.out _ hbr
          have a1 := HQ1.out _ hbr
          have HO := Lib.hid hown
          have HB := Lib.hid hbr
          clear hown hbr
          by_cases hxn : x = nm
          · have hbq : (x.toList == nm.toList) = true := bytes_eq_iff.2 hxn
            rw [if_pos hxn] at HWN
            clear hxn
            go_wp2
            go_roundw
            case rel => exact ⟨k + 1, L2, d2, rfl, by go_num, by omega, HO.out, hfit2, by omega, HWN, HB.out⟩
            case measure => (simp [intOf]; try omega)
          · have hbq : (x.toList == nm.toList) = false := by rw [bytes_beq]; exact decide_eq_false hxn
            rw [if_neg hxn] at HWN
            clear hxn
            have hown9 := HO.out.alloc (.cells #[.string x, .string y] 103)
            have hrd := rd_fld wc x y 103
            go_wp2_with (at_builtin; (refine wpList_append_rd rfl (.tmp 41) (.tmp 46) 48 rfl w.heap.size 103 i0 (.agg #[.string ⟨#[]⟩, .string ⟨#[]⟩]) 2 32 Tryz.underlying48 hi hz0 hz1 hz2 rfl (by decide) _ _ _ rfl hown9 _ 1 [.string x, .string y] rfl hrd (by simp [Value.oneCell']) (by unfold maxLen; omega) (by omega) (by have := HB.out.size; simp; omega) ?_); intro v' w8 hown' hg8)
            have hB8 : Below w.heap.size w w8 := (HB.out.alloc HB.out.size _).grown hg8 (by have := HB.out.size; simp; omega) (fun j e => (hown9.lt j e).1)
            go_wp2
            go_roundw
            case rel => exact ⟨k + 1, L2 ++ [(x, y)], d2, rfl, by go_num, by omega, by rw [List.length_append, fldCells_append]; exact hown', fit_snoc hfit2 HFX.out.1 HFX.out.2, by simp; omega, HWN, hB8⟩
            case measure => (simp [intOf]; try omega)
    · obtain rfl : k = l.length := by omega
      have HWL : Hid (withL l nm val = (if d then L else L ++ [(nm, val)])) := by show _ = _; unfold withL; rw [HWK.out]
      have HO := Lib.hid hown
      have HB := Lib.hid hbr
      clear hown hbr
      cases d
      · have hown9 := HO.out.alloc (.cells #[.string nm, .string val] 103)
        have hrd := rd_fld wr nm val 103
        go_wp2_with (at_builtin; (refine wpList_append_rd rfl (.tmp 50) (.tmp 54) 48 rfl w.heap.size 103 i0 (.agg #[.string ⟨#[]⟩, .string ⟨#[]⟩]) 2 32 Tryz.underlying48 hi hz0 hz1 hz2 rfl (by decide) _ _ _ rfl hown9 _ 1 [.string nm, .string val] rfl hrd (by simp [Value.oneCell']) (by unfold maxLen; omega) (by omega) (by have := HB.out.size; simp; omega) ?_); intro v' w8 hown' hg8)
        have hB8 : Below w.heap.size w w8 := (HB.out.alloc HB.out.size _).grown hg8 (by have := HB.out.size; simp; omega) (fun j e => (hown9.lt j e).1)
        go_wp2
        go_ret
        have hr8 := RdAt.own hown'
        rw [show (1 : Nat) = [(nm, val)].length from rfl, ← List.length_append] at hr8
        refine ⟨_, rfl, ?_⟩
        rw [HWL.out]
        exact ⟨by simp only [Bool.false_eq_true, if_false]; unfold FldsAt; rw [fldCells_append]; exact hr8, fit_snoc hfit hnm hval, by simp; omega, fun q hq => (hown'.lt q hq).1, hB8⟩
      · go_wp2
        go_ret
        refine ⟨_, rfl, ?_⟩
        rw [HWL.out]
        exact ⟨RdAt.own HO.out, hfit, by simp; omega, fun q hq => (HO.out.lt q hq).1, HB.out⟩
end Go.Proofs.YtcfococinllcmaaGreat
namespace Go.Proofs.YtcfococinllcmaaGreat
open Go.RowKit

theorem rightF_nil : rightF [] = true := by decide
theorem rightF_len {L : List Fld} (h : rightF L = true) : L.length ≤ 8 := by
  unfold rightF at h
  simp only [Bool.and_eq_true, decide_eq_true_eq] at h
  exact h.1
/-- one round of Good -/
def goodS (out : List Fld) (f : Fld) : List Fld := if rightF (withL out f.1 (f.2.extract 0 (min f.2.size 30))) then withL out f.1 (f.2.extract 0 (min f.2.size 30)) else out
def goodK (l : List Fld) (k : Nat) : List Fld := (l.take k).foldl goodS []
def goodF (l : List Fld) : List Fld := goodK l 12
theorem goodK_step {l : List Fld} {k : Nat} (h : k < l.length) : goodK l (k + 1) = goodS (goodK l k) l[k] := by
  unfold goodK
  rw [List.take_succ_eq_append_getElem h, List.foldl_append]
  rfl
theorem goodK_end {l : List Fld} {k : Nat} (h : k ≤ 12) (h2 : 12 ≤ k ∨ l.length ≤ k) : goodF l = goodK l k := by
  unfold goodF goodK
  rcases h2 with h2 | h2
  · rw [show k = 12 by omega]
  · rw [List.take_of_length_le h2, List.take_of_length_le (Nat.le_trans h2 h)]
set_option maxHeartbeats 1600000 in
set_option maxRecDepth 100000 in
theorem rgood6_any (l : List Fld) (w : World) (v : Value) (hv : FldsAt w v l) (hf : FldsFit l) (hl : l.length ≤ maxLen) :
    Calls Tryz.prog 90 #[v] w fun e w' => ∃ v', e = .returned v' ∧ FldsAt w' v' (goodF l) ∧ FldsFit (goodF l) ∧ rightF (goodF l) = true ∧ (∀ q, v'.ownBlock = some q → w.heap.size ≤ q) ∧ Below w.heap.size w w' := by
  obtain ⟨a, c, rfl, hc, hr⟩ := RdAt.shape hv
  have HR := Lib.hid hr
  have HF := Lib.hid hf
  have hl63 : l.length < 9223372036854775808 := by unfold maxLen at hl; omega
  clear hr hv hf hl
  go_enter Tryz.func90, Tryz.ntmps90
  go_wp2
  go_loopw [3, 4] (fun s3 i wr => ∃ (k : Nat) (L : List Fld), i = .int .i64 k ∧ k ≤ l.length ∧ k ≤ 12 ∧ Hid (goodK l k = L) ∧ FldsAt wr s3 L ∧ FldsFit L ∧ rightF L = true ∧ (∀ q, s3.ownBlock = some q → w.heap.size ≤ q) ∧ Below w.heap.size w wr) (fun _ i _ => l.length - (intOf i).toNat)
  case atStart => exact ⟨0, [], rfl, Nat.zero_le _, Nat.zero_le _, Lib.hid rfl, RdAt.nil _ _, (fun _ h => by cases h), rightF_nil, (fun q hq => by simp [Value.ownBlock] at hq), Below.refl _ _⟩
  case round =>
    obtain ⟨k, L, rfl, hk, hk12, HGK, hL, hfit, hright, hown, hbr⟩ := hrel
    obtain ⟨va, vc, rfl, _, _⟩ := RdAt.shape hL
    have HL := Lib.hid hL
    have HRT := Lib.hid hright
    have HFT := Lib.hid hfit
    have HOW := Lib.hid hown
    clear hL hright hfit hown
    by_cases hkl : k < l.length
    · by_cases h12 : k < 12
      · obtain ⟨b, o, rfl, hb, hcell⟩ := HR.out (by omega)
        obtain ⟨x, hxe⟩ : ∃ x, l[k].1 = x := ⟨_, rfl⟩
        obtain ⟨y, hye⟩ : ∃ y, l[k].2 = y := ⟨_, rfl⟩
        have hfs := HF.out _ (List.getElem_mem hkl)
        rw [hxe, hye] at hfs
        obtain ⟨hx0, hy0⟩ := fldCells_at l k hkl
        rw [hxe] at hx0
        rw [hye] at hy0
        have a0 : wr.cell? ⟨b, o + k * 2, none⟩ = some (.string x) := keep_cell (hcell _ _ hx0) hbr hb
        have a1 : wr.cell? ⟨b, o + k * 2 + 1, none⟩ = some (.string y) := keep_cell (by have := hcell _ _ hy0; rwa [← Nat.add_assoc] at this) hbr hb
        have hwb : b < wr.heap.size := Nat.lt_of_lt_of_le hb hbr.size
        have HFX := Lib.hid hfs
        have hys : y.size ≤ 9223372036854775807 := by have := hfs.2; unfold maxLen at this; omega
        obtain ⟨m, hm, hm1, hm2, hm3⟩ : ∃ m : Nat, min y.size 30 = m ∧ m ≤ 30 ∧ m ≤ y.size ∧ min (y.size : Int) 30 = (m : Int) := ⟨min y.size 30, rfl, by omega, by omega, by omega⟩
        have HGS : Hid (goodK l (k + 1) = if rightF (withL L x (y.extract 0 m)) then withL L x (y.extract 0 m) else L) := by
          show _ = _
          rw [goodK_step hkl, HGK.out, show l[k] = (x, y) by rw [← hxe, ← hye]]
          unfold goodS
          simp only [hm]
        clear hm HGK
        have hwith : ∀ (val : ByteArray) W, val.size ≤ maxLen → Below wr.heap.size wr W → Calls Tryz.prog 111 #[.slice va L.length vc, .string x, .string val] W fun e w' => ∃ v', e = .returned v' ∧ FldsAt w' v' (withL L x val) ∧ FldsFit (withL L x val) ∧ (withL L x val).length ≤ 2 * L.length + 1 ∧ (∀ q, v'.ownBlock = some q → W.heap.size ≤ q) ∧ Below W.heap.size W w' := fun val W hval h =>
          rwith_any L x val W _ (HL.out.later h) HFT.out (by have := rightF_len HRT.out; omega) HFX.out.1 hval
        have HWI := Lib.hid hwith
        have HB := Lib.hid hbr
        clear hcell hx0 hy0 hxe hye hfs hwith hbr
        go_upto_region 5 with fail
        refine wp_region_held_drew (S := (fun W => W.cell? ⟨b, o + k * 2, none⟩ = some (.string x) ∧ W.cell? ⟨b, o + k * 2 + 1, none⟩ = some (.string y))) (by kernel_rfl) ⟨a0, a1⟩ (fun hHeld => ?_)
        refine held_take (i := 0) (v := ?_) rfl rfl (by kernel_rfl) (by kernel_rfl) (by kernel_rfl) (fun _ _ _ h => h) (by rfl) hHeld ?_ ?_
        rotate_left
        · rintro wh ⟨z0, z1⟩
          go_simp
          (try with_reducible rfl)
        simp only [Act.put, List.setIfInBounds_toArray, List.set_cons_zero, List.set_cons_succ]
        refine held_take (i := 1) (v := ?_) rfl rfl (by kernel_rfl) (by kernel_rfl) (by kernel_rfl) (fun _ _ _ h => h) (by rfl) hHeld ?_ ?_
        rotate_left
        · rintro wh ⟨z0, z1⟩
          go_simp
          (try with_reducible rfl)
        simp only [Act.put, List.setIfInBounds_toArray, List.set_cons_zero, List.set_cons_succ]
        refine held_take (i := 2) (v := ?_) rfl rfl (by kernel_rfl) (by kernel_rfl) (by kernel_rfl) (fun _ _ _ h => h) (by rfl) hHeld ?_ ?_
        rotate_left
        · rintro wh ⟨z0, z1⟩
          go_simp
          (try with_reducible rfl)
        simp only [Act.put, List.setIfInBounds_toArray, List.set_cons_zero, List.set_cons_succ]
        refine held_take (i := 3) (v := ?_) rfl rfl (by kernel_rfl) (by kernel_rfl) (by kernel_rfl) (fun _ _ _ h => h) (by rfl) hHeld ?_ ?_
        rotate_left
        · rintro wh ⟨z0, z1⟩
          go_simp
          (try with_reducible rfl)
        simp only [Act.put, List.setIfInBounds_toArray, List.set_cons_zero, List.set_cons_succ]
        refine held_take (i := 4) (v := ?_) rfl rfl (by kernel_rfl) (by kernel_rfl) (by kernel_rfl) (fun _ _ _ h => h) (by rfl) hHeld ?_ ?_
        rotate_left
        · rintro wh ⟨z0, z1⟩
          go_simp
          (try with_reducible rfl)
        simp only [Act.put, List.setIfInBounds_toArray, List.set_cons_zero, List.set_cons_succ]
        refine held_take (i := 5) (v := ?_) rfl rfl (by kernel_rfl) (by kernel_rfl) (by kernel_rfl) (fun _ _ _ h => h) (by rfl) hHeld ?_ ?_
        rotate_left
        · rintro wh ⟨z0, z1⟩
          go_simp
          (try with_reducible rfl)
        simp only [Act.put, List.setIfInBounds_toArray, List.set_cons_zero, List.set_cons_succ]
        refine held_take (i := 6) (v := ?_) rfl rfl (by kernel_rfl) (by kernel_rfl) (by kernel_rfl) (fun _ _ _ h => h) (by rfl) hHeld ?_ ?_
        rotate_left
        · rintro wh ⟨z0, z1⟩
          go_simp
          (try with_reducible rfl)
        simp only [Act.put, List.setIfInBounds_toArray, List.set_cons_zero, List.set_cons_succ]
        refine held_take (i := 7) (v := ?_) rfl rfl (by kernel_rfl) (by kernel_rfl) (by kernel_rfl) (fun _ _ _ h => h) (by rfl) hHeld ?_ ?_
        rotate_left
        · rintro wh ⟨z0, z1⟩
          go_simp
          (try with_reducible rfl)
        simp only [Act.put, List.setIfInBounds_toArray, List.set_cons_zero, List.set_cons_succ]
        refine held_take (i := 8) (v := ?_) rfl rfl (by kernel_rfl) (by kernel_rfl) (by kernel_rfl) (fun _ _ _ h => h) (by rfl) hHeld ?_ ?_
        rotate_left
        · rintro wh ⟨z0, z1⟩
          go_simp
          (try with_reducible rfl)
        simp only [Act.put, List.setIfInBounds_toArray, List.set_cons_zero, List.set_cons_succ]
        refine held_take (i := 9) (v := ?_) rfl rfl (by kernel_rfl) (by kernel_rfl) (by kernel_rfl) (fun _ _ _ h => h) (by rfl) hHeld ?_ ?_
        rotate_left
        · rintro wh ⟨z0, z1⟩
          go_simp
          (try with_reducible rfl)
        simp only [Act.put, List.setIfInBounds_toArray, List.set_cons_zero, List.set_cons_succ]
        refine held_take (i := 10) (v := ?_) rfl rfl (by kernel_rfl) (by kernel_rfl) (by kernel_rfl) (fun _ _ _ h => h) (by rfl) hHeld ?_ ?_
        rotate_left
        · rintro wh ⟨z0, z1⟩
          go_simp
          (try with_reducible rfl)
        simp only [Act.put, List.setIfInBounds_toArray, List.set_cons_zero, List.set_cons_succ]
        refine held_take (i := 11) (v := ?_) rfl rfl (by kernel_rfl) (by kernel_rfl) (by kernel_rfl) (fun _ _ _ h => h) (by rfl) hHeld ?_ ?_
        rotate_left
        · rintro wh ⟨z0, z1⟩
          go_simp
          (try with_reducible rfl)
        simp only [Act.put, List.setIfInBounds_toArray, List.set_cons_zero, List.set_cons_succ]
        refine held_take (i := 12) (v := ?_) rfl rfl (by kernel_rfl) (by kernel_rfl) (by kernel_rfl) (fun _ _ _ h => h) (by rfl) hHeld ?_ ?_
        rotate_left
        · rintro wh ⟨z0, z1⟩
          go_simp
          (try with_reducible rfl)
        simp only [Act.put, List.setIfInBounds_toArray, List.set_cons_zero, List.set_cons_succ]
        refine held_take (i := 13) (v := ?_) rfl rfl (by kernel_rfl) (by kernel_rfl) (by kernel_rfl) (fun _ _ _ h => h) (by rfl) hHeld ?_ ?_
        rotate_left
        · rintro wh ⟨z0, z1⟩
          go_simp
          (try with_reducible rfl)
        simp only [Act.put, List.setIfInBounds_toArray, List.set_cons_zero, List.set_cons_succ]
        refine held_take (i := 14) (v := ?_) rfl rfl (by kernel_rfl) (by kernel_rfl) (by kernel_rfl) (fun _ _ _ h => h) (by rfl) hHeld ?_ ?_
        rotate_left
        · rintro wh ⟨z0, z1⟩
          go_simp
          (try with_reducible rfl)
        simp only [Act.put, List.setIfInBounds_toArray, List.set_cons_zero, List.set_cons_succ]
        refine held_take (i := 15) (v := ?_) rfl rfl (by kernel_rfl) (by kernel_rfl) (by kernel_rfl) (fun _ _ _ h => h) (by rfl) hHeld ?_ ?_
        rotate_left
        · rintro wh ⟨z0, z1⟩
          go_simp
          (try with_reducible rfl)
        simp only [Act.put, List.setIfInBounds_toArray, List.set_cons_zero, List.set_cons_succ]
        refine held_take (i := 16) (v := ?_) rfl rfl (by kernel_rfl) (by kernel_rfl) (by kernel_rfl) (fun _ _ _ h => h) (by rfl) hHeld ?_ ?_
        rotate_left
        · rintro wh ⟨z0, z1⟩
          go_simp
          (try with_reducible rfl)
        simp only [Act.put, List.setIfInBounds_toArray, List.set_cons_zero, List.set_cons_succ]
        refine held_take (i := 17) (v := ?_) rfl rfl (by kernel_rfl) (by kernel_rfl) (by kernel_rfl) (fun _ _ _ h => h) (by rfl) hHeld ?_ ?_
        rotate_left
        · rintro wh ⟨z0, z1⟩
          go_simp
          (try with_reducible rfl)
        simp only [Act.put, List.setIfInBounds_toArray, List.set_cons_zero, List.set_cons_succ]
        refine held_take (i := 18) (v := ?_) rfl rfl (by kernel_rfl) (by kernel_rfl) (by kernel_rfl) (fun _ _ _ h => h) (by rfl) hHeld ?_ ?_
        rotate_left
        · rintro wh ⟨z0, z1⟩
          go_simp
          (try with_reducible rfl)
        simp only [Act.put, List.setIfInBounds_toArray, List.set_cons_zero, List.set_cons_succ]
        refine held_call (i := 19) rfl (by kernel_rfl) (by rfl) (fun K hK => ?_)
        (go_simp; go_at_call 111; refine (HWI.out _ _ ?_ (Below.refl _ wr).drew).mono ?_; (· rw [ByteArray.size_extract]; unfold maxLen; omega); rintro e w1 ⟨v1, rfl, hF1, hfit1, hlen1, hown1, hb1⟩; have hB1 : Below wr.heap.size wr w1 := ((Below.refl _ _).drew).trans hb1)
        refine hK.out _ _ ⟨keep_cell a0 hB1 hwb, keep_cell a1 hB1 hwb⟩ (fun hHeld => ?_)
        clear hK K
        (try simp only [Act.put, List.setIfInBounds_toArray, List.set_cons_zero, List.set_cons_succ])
        refine held_take (i := 20) (v := ?_) rfl rfl (by kernel_rfl) (by kernel_rfl) (by kernel_rfl) (fun _ _ _ h => h) (by rfl) hHeld ?_ ?_
        rotate_left
        · rintro wh ⟨z0, z1⟩
          go_simp
          (try with_reducible rfl)
        simp only [Act.put, List.setIfInBounds_toArray, List.set_cons_zero, List.set_cons_succ]
        refine wpAnyH_done (by kernel_rfl) ?_ _
        have HB1 := Lib.hid (HB.out.trans (hB1.mono HB.out.size))
        generalize withL L x (y.extract 0 m) = L1 at *
        have hL1 := HL.out.later hB1
        have hlen17 := rightF_len HRT.out
        have kr := rright6_any L1 w1 v1 hF1 hfit1 (by unfold maxLen; omega)
        obtain ⟨q, hq⟩ : ∃ q, rightF L1 = q := ⟨_, rfl⟩
        rw [hq] at kr
        obtain ⟨vb, vd, rfl, _, _⟩ := RdAt.shape hF1
        have HF1 := Lib.hid hF1
        have HO1 : Hid (∀ q, (Value.slice vb L1.length vd).ownBlock = some q → w.heap.size ≤ q) := Lib.hid (fun q hq => Nat.le_trans HB.out.size (hown1 q hq))
        clear hown1
        have HFT1 := Lib.hid hfit1
        have HQ := Lib.hid hq
        have HL1 := Lib.hid hL1
        clear hB1 hb1 hF1 hfit1 hlen1 hq hL1 hlen17 a0 a1 HWI HB hm1 hm2 hm3 hys
        go_wp2_with fail
        refine kr.mono ?_
        rintro e w2 ⟨rfl, hb2⟩
        have HF2 := Lib.hid (HF1.out.later hb2)
        have HL2 := Lib.hid (HL1.out.later hb2)
        have HB2 := Lib.hid (HB1.out.trans (hb2.mono HB1.out.size))
        clear kr hb2 HF1 HL1 HB1
        cases q
        · go_wp2
          go_roundw
          case rel => exact ⟨k + 1, L, by go_num, by omega, by omega, Lib.hid (by rw [HGS.out, HQ.out]; rfl), HL2.out, HFT.out, HRT.out, HOW.out, HB2.out⟩
          case measure => (simp [intOf]; try omega)
        · go_wp2
          go_roundw
          case rel => exact ⟨k + 1, L1, by go_num, by omega, by omega, Lib.hid (by rw [HGS.out, HQ.out]; rfl), HF2.out, HFT1.out, HQ.out, HO1.out, HB2.out⟩
          case measure => (simp [intOf]; try omega)
      · have h12' : (12 : Int) ≤ (k : Int) := by omega
        have HE : Hid (goodF l = L) := by show _ = _; rw [goodK_end hk12 (.inl (by omega)), HGK.out]
        go_wp2
        go_ret
        exact ⟨_, rfl, by rw [HE.out]; exact HL.out, by rw [HE.out]; exact HFT.out, by rw [HE.out]; exact HRT.out, HOW.out, hbr⟩
    · obtain rfl : k = l.length := by omega
      have HE : Hid (goodF l = L) := by show _ = _; rw [goodK_end hk12 (.inr (Nat.le_refl _)), HGK.out]
      go_wp2
      go_ret
      exact ⟨_, rfl, by rw [HE.out]; exact HL.out, by rw [HE.out]; exact HFT.out, by rw [HE.out]; exact HRT.out, HOW.out, hbr⟩
end Go.Proofs.YtcfococinllcmaaGreat
namespace Go.Proofs.YtcfococinllcmaaGreat
open Go.RowKit

theorem rd_puts' {w : World} {v : Value} {n k : Nat} {xs : List Value} (h : RdAt w v n k xs) {g o : Nat} (hg : 0 < n → ∀ q, v.ownBlock = some q → q ≠ g) (vs : List Value) : RdAt (w.setCells g o vs) v n k xs := by
  refine ⟨h.1, ?_⟩
  rcases h.2 with h | ⟨a, c, rfl, hc, hr⟩
  · exact .inl h
  · refine .inr ⟨a, c, rfl, hc, fun hn => ?_⟩
    obtain ⟨b, o', rfl, hlt, hcell⟩ := hr hn
    have hne := hg hn b rfl
    refine ⟨b, o', rfl, Nat.lt_of_lt_of_le hlt (below_puts_base (g := g) (o := o) (Below.refl 0 w) (Nat.zero_le _) vs).size, fun j x hx => ?_⟩
    rw [World.cell?_setCells_out _ _ _ _ _ (fun hb _ => absurd hb hne)]
    exact hcell j x hx
/-- a good alert, made of any -/
def gSrc (s : ByteArray) : ByteArray := if nameL (B s) then s else ⟨#[112, 114, 111, 109]⟩
def gLv (l : Int) : Int := if rightL l then l else 1
def gFr (f : Int) : Int := (IntKind.u64.wrap f).tmod 1000
def gTil (f t : Int) : Int := if t = 0 then 0 else gFr f + 1 + (IntKind.u64.wrap t).tmod 1000
theorem gFr_in (f : Int) : 0 ≤ gFr f ∧ gFr f < 1000 := by
  have h : 0 ≤ IntKind.u64.wrap f := by simp only [IntKind.wrap, IntKind.bits, IntKind.signed]; simp; omega
  unfold gFr
  rw [Int.tmod_eq_emod_of_nonneg h]
  omega
/-- the call's boxes, in the midst -/
structure GSt (w : World) (go : Nat) (src : ByteArray) (fa : Value) (lv : Int) (c : Nat) (fr til : Int) (vo : Value) (L : List Fld) (s' : ByteArray) (l' f' t' : Int) (W : World) : Prop where
  a : C6 w.heap.size (.string src) fa (.int .i64 lv) (.int .u32 c) (.int .i64 fr) (.int .i64 til) W
  o : C6 go (.string s') vo (.int .i64 l') (.int .u32 c) (.int .i64 f') (.int .i64 t') W
  oth : W.there go 0 6
  rth : W.there (w.heap.size + 1) 0 6
  f : FldsAt W vo L
  far : 0 < L.length → ∀ q, vo.ownBlock = some q → q ≠ go ∧ q ≠ w.heap.size + 1 ∧ w.heap.size ≤ q
  ge : w.heap.size + 2 ≤ go
  lt : go < W.heap.size
  below : Below w.heap.size w W
theorem GSt.later {w W W' : World} {go : Nat} {src : ByteArray} {fa : Value} {lv : Int} {c : Nat} {fr til : Int} {vo : Value} {L : List Fld} {s' : ByteArray} {l' f' t' : Int} (h : GSt w go src fa lv c fr til vo L s' l' f' t' W) (hb : Below W.heap.size W W') : GSt w go src fa lv c fr til vo L s' l' f' t' W' := by
  have h1 := h.lt
  have h2 := h.ge
  exact ⟨h.a.later hb (by omega), h.o.later hb h1, there_later h.oth hb h1, there_later h.rth hb (by omega), h.f.later hb, h.far, h2, Nat.lt_of_lt_of_le h1 hb.size, h.below.trans (hb.mono h.below.size)⟩
theorem c6_set {w : World} {g : Nat} {v0 v1 v2 v3 v4 v5 : Value} (h : C6 g v0 v1 v2 v3 v4 v5 w) (x : Value) :
    C6 g x v1 v2 v3 v4 v5 (w.setCells g 0 [x]) ∧ C6 g v0 v1 x v3 v4 v5 (w.setCells g 2 [x]) ∧ C6 g v0 v1 v2 v3 x v5 (w.setCells g 4 [x]) ∧ C6 g v0 v1 v2 v3 v4 x (w.setCells g 5 [x]) := by
  obtain ⟨h0, h1, h2, h3, h4, h5⟩ := h
  have hs : ∀ j v, w.cell? ⟨g, j, none⟩ = some v → (w.setCells g j [x]).cell? ⟨g, j, none⟩ = some x := fun j v h => World.cell?_setCell_same' w ⟨g, j, none⟩ x (by rw [h]; rfl)
  have ho : ∀ i j v, j ≠ i → w.cell? ⟨g, j, none⟩ = some v → (w.setCells g i [x]).cell? ⟨g, j, none⟩ = some v := fun i j v hne h => by
    rw [World.cell?_setCells_out _ _ _ _ _ (fun _ _ => by simp; omega)]
    exact h
  exact ⟨⟨hs _ _ h0, ho _ _ _ (by decide) h1, ho _ _ _ (by decide) h2, ho _ _ _ (by decide) h3, ho _ _ _ (by decide) h4, ho _ _ _ (by decide) h5⟩,
    ⟨ho _ _ _ (by decide) h0, ho _ _ _ (by decide) h1, hs _ _ h2, ho _ _ _ (by decide) h3, ho _ _ _ (by decide) h4, ho _ _ _ (by decide) h5⟩,
    ⟨ho _ _ _ (by decide) h0, ho _ _ _ (by decide) h1, ho _ _ _ (by decide) h2, ho _ _ _ (by decide) h3, hs _ _ h4, ho _ _ _ (by decide) h5⟩,
    ⟨ho _ _ _ (by decide) h0, ho _ _ _ (by decide) h1, ho _ _ _ (by decide) h2, ho _ _ _ (by decide) h3, ho _ _ _ (by decide) h4, hs _ _ h5⟩⟩
section
variable {w W : World} {go : Nat} {src : ByteArray} {fa : Value} {lv : Int} {c : Nat} {fr til : Int} {vo : Value} {L : List Fld} {s' : ByteArray} {l' f' t' : Int}
theorem GSt.put (h : GSt w go src fa lv c fr til vo L s' l' f' t' W) (j : Nat) (x : Value) {s2 : ByteArray} {l2 f2 t2 : Int} (ho : C6 go (.string s2) vo (.int .i64 l2) (.int .u32 c) (.int .i64 f2) (.int .i64 t2) (W.setCells go j [x])) : GSt w go src fa lv c fr til vo L s2 l2 f2 t2 (W.setCells go j [x]) := by
  have h2 := h.ge
  exact ⟨c6_out h.a (by omega) j [x], ho, World.there_setCells h.oth go j [x], World.there_setCells h.rth go j [x], rd_puts' h.f (fun h0 q hq => (h.far h0 q hq).1) [x], h.far, h2,
    Nat.lt_of_lt_of_le h.lt (below_puts_base (g := go) (o := j) (Below.refl 0 W) (Nat.zero_le _) [x]).size, below_puts h.below (by omega) [x]⟩
theorem GSt.put0 (h : GSt w go src fa lv c fr til vo L s' l' f' t' W) (x : ByteArray) : GSt w go src fa lv c fr til vo L x l' f' t' (W.setCells go 0 [.string x]) := h.put 0 _ (c6_set h.o _).1
theorem GSt.put2 (h : GSt w go src fa lv c fr til vo L s' l' f' t' W) (x : Int) : GSt w go src fa lv c fr til vo L s' x f' t' (W.setCells go 2 [.int .i64 x]) := h.put 2 _ (c6_set h.o _).2.1
theorem GSt.put4 (h : GSt w go src fa lv c fr til vo L s' l' f' t' W) (x : Int) : GSt w go src fa lv c fr til vo L s' l' x t' (W.setCells go 4 [.int .i64 x]) := h.put 4 _ (c6_set h.o _).2.2.1
theorem GSt.put5 (h : GSt w go src fa lv c fr til vo L s' l' f' t' W) (x : Int) : GSt w go src fa lv c fr til vo L s' l' f' x (W.setCells go 5 [.int .i64 x]) := h.put 5 _ (c6_set h.o _).2.2.2
end
set_option maxHeartbeats 1600000 in
set_option maxRecDepth 100000 in
theorem rgood9_any (src : ByteArray) (fl : List Fld) (fv : Value) (lv : Int) (c : Nat) (fr til : Int) (w : World) (hs : src.size ≤ maxLen) (hv : FldsAt w fv fl) (hfit : FldsFit fl) (hl : fl.length ≤ maxLen) :
    Calls Tryz.prog 59 #[.agg #[.string src, fv, .int .i64 lv, .int .u32 c, .int .i64 fr, .int .i64 til]] w fun e w' =>
      ∃ v', e = .returned (.tuple #[.agg #[.string (gSrc src), v', .int .i64 (gLv lv), .int .u32 c, .int .i64 (gFr fr), .int .i64 (gTil fr til)], .bool (decide (0 < (goodF fl).length))]) ∧ FldsAt w' v' (goodF fl) ∧ FldsFit (goodF fl) ∧ rightF (goodF fl) = true ∧ (0 < (goodF fl).length → ∀ q, v'.ownBlock = some q → w.heap.size ≤ q) ∧ Below w.heap.size w w' := by
  have k1 := fun W (h : Below w.heap.size w W) => rgood6_any fl W fv (hv.later h) hfit hl
  have k2 := fun W => refName.name_any src W hs
  have k3 := rright_any lv c
  obtain ⟨fa, fc, rfl, _, _⟩ := RdAt.shape hv
  obtain ⟨L, hL⟩ : ∃ z, goodF fl = z := ⟨_, rfl⟩
  rw [hL] at k1 ⊢
  have K1 := Lib.hid k1
  have K2 := Lib.hid k2
  have K3 := Lib.hid k3
  clear hL hv hfit hl hs k1 k2 k3
  obtain ⟨W0, hW0⟩ : ∃ z, (w.alloc (.cells #[.string src, .slice fa fl.length fc, .int .i64 lv, .int .u32 c, .int .i64 fr, .int .i64 til] 50)).alloc (.cells #[.string ⟨#[]⟩, .slice none 0 0, .int .i64 0, .int .u32 0, .int .i64 0, .int .i64 0] 50) = z := ⟨_, rfl⟩
  have hb0 : Below w.heap.size w W0 := by rw [← hW0]; exact (alloc_below _ _).trans ((alloc_below _ _).mono (by simp))
  have hz : w.heap.size + 2 ≤ W0.heap.size := by rw [← hW0]; simp
  have hd := (Below.refl W0.heap.size W0)
  rw [← hW0] at hd
  obtain ⟨h1, h2, h3⟩ := box_cells hd
  have hT := box_there hd
  obtain ⟨h4, _, _⟩ := box_cells h3
  rw [World.size_alloc] at h1 hT
  rw [hW0] at h1 h4 hT
  have q0 := h4 0 _ rfl
  have q1 := h4 1 _ rfl
  have q2 := h4 2 _ rfl
  have q3 := h4 3 _ rfl
  have q4 := h4 4 _ rfl
  have q5 := h4 5 _ rfl
  have HA : Hid (C6 w.heap.size (.string src) (.slice fa fl.length fc) (.int .i64 lv) (.int .u32 c) (.int .i64 fr) (.int .i64 til) W0) := Lib.hid ⟨q0, q1, q2, q3, q4, q5⟩
  have HB0 := Lib.hid hb0
  have HT : Hid (W0.there (w.heap.size + 1) 0 6) := Lib.hid hT
  have HW0 := Lib.hid hW0
  clear h1 h2 h3 h4 hd hT hb0 hW0
  go_enter Tryz.func59, Tryz.ntmps59
  go_upto_region 1 with fail
  rw [HW0.out]
  clear HW0
  go_cut [4] (fun s4 wx => ∃ go vo, s4 = .pointer (some ⟨go, 0, none⟩) ∧ FldsFit L ∧ rightF L = true ∧ GSt w go src (.slice fa fl.length fc) lv c fr til vo L src lv 0 0 wx)
  case first =>
    refine wp_region_held_drew (S := (fun W => W.cell? ⟨w.heap.size, 0, none⟩ = some (.string src) ∧ W.cell? ⟨w.heap.size, 1, none⟩ = some (.slice fa fl.length fc) ∧ W.cell? ⟨w.heap.size, 2, none⟩ = some (.int .i64 lv) ∧ W.cell? ⟨w.heap.size, 3, none⟩ = some (.int .u32 c) ∧ W.cell? ⟨w.heap.size, 4, none⟩ = some (.int .i64 fr) ∧ W.cell? ⟨w.heap.size, 5, none⟩ = some (.int .i64 til))) (by kernel_rfl) ⟨q0, q1, q2, q3, q4, q5⟩ (fun hHeld => ?_)
    have hd : Below W0.heap.size W0 W0.drew := (Below.refl _ _).drew
    have hds : W0.heap.size ≤ W0.drew.heap.size := Nat.le_refl _
    generalize W0.drew = wd at *
    refine held_take (i := 0) (v := ?_) rfl rfl (by kernel_rfl) (by kernel_rfl) (by kernel_rfl) (fun _ _ _ h => h) (by rfl) hHeld ?_ ?_
    rotate_left
    · rintro wh ⟨z0, z1, z2, z3, z4, z5⟩
      go_simp
      (try with_reducible rfl)
    simp only [Act.put, List.setIfInBounds_toArray, List.set_cons_zero, List.set_cons_succ]
    refine held_take (i := 1) (v := ?_) rfl rfl (by kernel_rfl) (by kernel_rfl) (by kernel_rfl) (fun _ _ _ h => h) (by rfl) hHeld ?_ ?_
    rotate_left
    · rintro wh ⟨z0, z1, z2, z3, z4, z5⟩
      go_simp
      (try with_reducible rfl)
    simp only [Act.put, List.setIfInBounds_toArray, List.set_cons_zero, List.set_cons_succ]
    refine held_take (i := 2) (v := ?_) rfl rfl (by kernel_rfl) (by kernel_rfl) (by kernel_rfl) (fun _ _ _ h => h) (by rfl) hHeld ?_ ?_
    rotate_left
    · rintro wh ⟨z0, z1, z2, z3, z4, z5⟩
      go_simp
      (try with_reducible rfl)
    simp only [Act.put, List.setIfInBounds_toArray, List.set_cons_zero, List.set_cons_succ]
    refine held_take (i := 3) (v := ?_) rfl rfl (by kernel_rfl) (by kernel_rfl) (by kernel_rfl) (fun _ _ _ h => h) (by rfl) hHeld ?_ ?_
    rotate_left
    · rintro wh ⟨z0, z1, z2, z3, z4, z5⟩
      go_simp
      (try with_reducible rfl)
    simp only [Act.put, List.setIfInBounds_toArray, List.set_cons_zero, List.set_cons_succ]
    refine held_take (i := 5) (v := ?_) rfl rfl (by kernel_rfl) (by kernel_rfl) (by kernel_rfl) (fun _ _ _ h => h) (by rfl) hHeld ?_ ?_
    rotate_left
    · rintro wh ⟨z0, z1, z2, z3, z4, z5⟩
      go_simp
      (try with_reducible rfl)
    simp only [Act.put, List.setIfInBounds_toArray, List.set_cons_zero, List.set_cons_succ]
    refine held_take (i := 6) (v := ?_) rfl rfl (by kernel_rfl) (by kernel_rfl) (by kernel_rfl) (fun _ _ _ h => h) (by rfl) hHeld ?_ ?_
    rotate_left
    · rintro wh ⟨z0, z1, z2, z3, z4, z5⟩
      go_simp
      (try with_reducible rfl)
    simp only [Act.put, List.setIfInBounds_toArray, List.set_cons_zero, List.set_cons_succ]
    refine held_two (i := 4) (j := 8) rfl rfl (by kernel_rfl) (fun K hK => ?_) (fun K hK => ?_)
    · go_simp; go_at_call 90; refine (K1.out _ (HB0.out.trans (hd.mono HB0.out.size))).mono ?_; rintro e wc ⟨vz, rfl, hFz, hfit, hright, hOz, hbc⟩
      obtain ⟨va, vc, rfl, _, _⟩ := RdAt.shape hFz
      have hBc := hd.trans (hbc.mono hd.size)
      refine hK.out _ _ ⟨keep_cell q0 hBc (by omega), keep_cell q1 hBc (by omega), keep_cell q2 hBc (by omega), keep_cell q3 hBc (by omega), keep_cell q4 hBc (by omega), keep_cell q5 hBc (by omega)⟩ (fun hHeld => ?_)
      clear hK K
      (try simp only [Act.put, List.setIfInBounds_toArray, List.set_cons_zero, List.set_cons_succ])
      refine held_take (i := 7) (v := ?_) rfl rfl (by kernel_rfl) (by kernel_rfl) (by kernel_rfl) (fun _ _ _ h => h) (by rfl) hHeld ?_ ?_
      rotate_left
      · rintro wh ⟨z0, z1, z2, z3, z4, z5⟩
        go_simp
        (try with_reducible rfl)
      simp only [Act.put, List.setIfInBounds_toArray, List.set_cons_zero, List.set_cons_succ]
      refine held_step (i := 8) rfl (by kernel_rfl) (fun K hK => ?_)
      have haa := alloc_below wc (.cells #[.string ⟨#[]⟩, .slice none 0 0, .int .i64 0, .int .u32 0, .int .i64 0, .int .i64 0] 50)
      have hBa := hBc.trans (haa.mono hBc.size)
      have hTa := box_there (Below.refl (wc.alloc (.cells #[.string ⟨#[]⟩, .slice none 0 0, .int .i64 0, .int .u32 0, .int .i64 0, .int .i64 0] 50)).heap.size (wc.alloc (.cells #[.string ⟨#[]⟩, .slice none 0 0, .int .i64 0, .int .u32 0, .int .i64 0, .int .i64 0] 50)))
      have hlta : wc.heap.size < (wc.alloc (.cells #[.string ⟨#[]⟩, .slice none 0 0, .int .i64 0, .int .u32 0, .int .i64 0, .int .i64 0] 50)).heap.size := by rw [World.size_alloc]; omega
      go_simp
      refine hK.out _ _ ⟨keep_cell q0 hBa (by omega), keep_cell q1 hBa (by omega), keep_cell q2 hBa (by omega), keep_cell q3 hBa (by omega), keep_cell q4 hBa (by omega), keep_cell q5 hBa (by omega)⟩ (fun hHeld => ?_)
      clear hK K
      (try simp only [Act.put, List.setIfInBounds_toArray, List.set_cons_zero, List.set_cons_succ])
      have hFl := hFz.later (below_puts (g := wc.heap.size) (o := 0) haa (Nat.le_refl _) [.string src, .slice va L.length vc, .int .i64 lv, .int .u32 c, .int .i64 0, .int .i64 0])
      have hT : (wc.alloc (.cells #[.string ⟨#[]⟩, .slice none 0 0, .int .i64 0, .int .u32 0, .int .i64 0, .int .i64 0] 50)).there wc.heap.size 0 6 := hTa
      clear hTa
      have hcs := hBc.size
      have hfar : 0 < L.length → ∀ q, (Value.slice va L.length vc).ownBlock = some q → q ≠ wc.heap.size ∧ q ≠ w.heap.size + 1 ∧ w.heap.size ≤ q := fun h0 q hq => ⟨by obtain ⟨b, o, c, he, _, hlt, _⟩ := RdAt.some hFz h0; rw [he] at hq; simp only [Value.ownBlock, Option.some.injEq] at hq; omega, by have := hOz q hq; omega, by have := hOz q hq; omega⟩
      generalize wc.alloc (.cells #[.string ⟨#[]⟩, .slice none 0 0, .int .i64 0, .int .u32 0, .int .i64 0, .int .i64 0] 50) = wa at *
      have f0 := there_free hT 0 (by decide)
      have f1 := there_free hT 1 (by decide)
      have f2 := there_free hT 2 (by decide)
      have f3 := there_free hT 3 (by decide)
      have f4 := there_free hT 4 (by decide)
      have f5 := there_free hT 5 (by decide)
      obtain ⟨y0, hy0⟩ := there_cell hT 0 (by decide)
      obtain ⟨y1, hy1⟩ := there_cell hT 1 (by decide)
      obtain ⟨y2, hy2⟩ := there_cell hT 2 (by decide)
      obtain ⟨y3, hy3⟩ := there_cell hT 3 (by decide)
      obtain ⟨y4, hy4⟩ := there_cell hT 4 (by decide)
      obtain ⟨y5, hy5⟩ := there_cell hT 5 (by decide)
      have hB9 : Below W0.heap.size W0 (wa.setCells wc.heap.size 0 [.string src, .slice va L.length vc, .int .i64 lv, .int .u32 c, .int .i64 0, .int .i64 0]) := below_puts (g := wc.heap.size) (o := 0) hBa (by omega) [.string src, .slice va L.length vc, .int .i64 lv, .int .u32 c, .int .i64 0, .int .i64 0]
      have hF9 : FldsAt (wa.setCells wc.heap.size 0 [.string src, .slice va L.length vc, .int .i64 lv, .int .u32 c, .int .i64 0, .int .i64 0]) (.slice va L.length vc) L := hFl
      have hZ9 := c6_puts wa wc.heap.size (.string src) (.slice va L.length vc) (.int .i64 lv) (.int .u32 c) (.int .i64 0) (.int .i64 0) hT
      have hL9 : wc.heap.size < (wa.setCells wc.heap.size 0 [.string src, .slice va L.length vc, .int .i64 lv, .int .u32 c, .int .i64 0, .int .i64 0]).heap.size := Nat.lt_of_lt_of_le hlta (below_puts_base (g := wc.heap.size) (o := 0) (Below.refl 0 wa) (Nat.zero_le _) [.string src, .slice va L.length vc, .int .i64 lv, .int .u32 c, .int .i64 0, .int .i64 0]).size
      have HG : Hid (GSt w wc.heap.size src (.slice fa fl.length fc) lv c fr til (.slice va L.length vc) L src lv 0 0 (wa.setCells wc.heap.size 0 [.string src, .slice va L.length vc, .int .i64 lv, .int .u32 c, .int .i64 0, .int .i64 0])) := Lib.hid ⟨HA.out.later hB9 (by omega), hZ9, World.there_setCells hT wc.heap.size 0 [.string src, .slice va L.length vc, .int .i64 lv, .int .u32 c, .int .i64 0, .int .i64 0], there_later HT.out hB9 (by omega), hF9, hfar, by omega, hL9, HB0.out.trans (hB9.mono HB0.out.size)⟩
      have HB9 := Lib.hid hB9
      clear hB9 hF9 hZ9 hL9
      refine held_step (i := 9) rfl (by kernel_rfl) (fun K hK => ?_)
      go_simp
      refine hK.out _ _ ⟨keep_cell q0 HB9.out (by omega), keep_cell q1 HB9.out (by omega), keep_cell q2 HB9.out (by omega), keep_cell q3 HB9.out (by omega), keep_cell q4 HB9.out (by omega), keep_cell q5 HB9.out (by omega)⟩ (fun hHeld => ?_)
      clear hK K
      (try simp only [Act.put, List.setIfInBounds_toArray, List.set_cons_zero, List.set_cons_succ])
      refine wpAnyH_done (by kernel_rfl) ?_ _
      go_wp2
      go_meet
      exact ⟨wc.heap.size, _, rfl, hfit, hright, HG.out⟩
    · have haa := alloc_below wd (.cells #[.string ⟨#[]⟩, .slice none 0 0, .int .i64 0, .int .u32 0, .int .i64 0, .int .i64 0] 50)
      have hBa := hd.trans (haa.mono hd.size)
      have hTa := box_there (Below.refl (wd.alloc (.cells #[.string ⟨#[]⟩, .slice none 0 0, .int .i64 0, .int .u32 0, .int .i64 0, .int .i64 0] 50)).heap.size (wd.alloc (.cells #[.string ⟨#[]⟩, .slice none 0 0, .int .i64 0, .int .u32 0, .int .i64 0, .int .i64 0] 50)))
      have hlta : wd.heap.size < (wd.alloc (.cells #[.string ⟨#[]⟩, .slice none 0 0, .int .i64 0, .int .u32 0, .int .i64 0, .int .i64 0] 50)).heap.size := by rw [World.size_alloc]; omega
      go_simp
      refine hK.out _ _ ⟨keep_cell q0 hBa (by omega), keep_cell q1 hBa (by omega), keep_cell q2 hBa (by omega), keep_cell q3 hBa (by omega), keep_cell q4 hBa (by omega), keep_cell q5 hBa (by omega)⟩ (fun hHeld => ?_)
      clear hK K
      (try simp only [Act.put, List.setIfInBounds_toArray, List.set_cons_zero, List.set_cons_succ])
      have hT : (wd.alloc (.cells #[.string ⟨#[]⟩, .slice none 0 0, .int .i64 0, .int .u32 0, .int .i64 0, .int .i64 0] 50)).there wd.heap.size 0 6 := hTa
      clear hTa
      generalize wd.alloc (.cells #[.string ⟨#[]⟩, .slice none 0 0, .int .i64 0, .int .u32 0, .int .i64 0, .int .i64 0] 50) = wa at *
      refine held_call (i := 4) rfl (by kernel_rfl) (by rfl) (fun K hK => ?_)
      go_simp; go_at_call 90; refine (K1.out _ (HB0.out.trans (hBa.mono HB0.out.size))).mono ?_; rintro e wc ⟨vz, rfl, hFz, hfit, hright, hOz, hbc⟩
      obtain ⟨va, vc, rfl, _, _⟩ := RdAt.shape hFz
      have hBc := hBa.trans (hbc.mono hBa.size)
      refine hK.out _ _ ⟨keep_cell q0 hBc (by omega), keep_cell q1 hBc (by omega), keep_cell q2 hBc (by omega), keep_cell q3 hBc (by omega), keep_cell q4 hBc (by omega), keep_cell q5 hBc (by omega)⟩ (fun hHeld => ?_)
      clear hK K
      (try simp only [Act.put, List.setIfInBounds_toArray, List.set_cons_zero, List.set_cons_succ])
      refine held_take (i := 7) (v := ?_) rfl rfl (by kernel_rfl) (by kernel_rfl) (by kernel_rfl) (fun _ _ _ h => h) (by rfl) hHeld ?_ ?_
      rotate_left
      · rintro wh ⟨z0, z1, z2, z3, z4, z5⟩
        go_simp
        (try with_reducible rfl)
      simp only [Act.put, List.setIfInBounds_toArray, List.set_cons_zero, List.set_cons_succ]
      have hT := there_later hT hbc hlta
      have hfar : 0 < L.length → ∀ q, (Value.slice va L.length vc).ownBlock = some q → q ≠ wd.heap.size ∧ q ≠ w.heap.size + 1 ∧ w.heap.size ≤ q := fun _ q hq => by have := hOz q hq; omega
      have f0 := there_free hT 0 (by decide)
      have f1 := there_free hT 1 (by decide)
      have f2 := there_free hT 2 (by decide)
      have f3 := there_free hT 3 (by decide)
      have f4 := there_free hT 4 (by decide)
      have f5 := there_free hT 5 (by decide)
      obtain ⟨y0, hy0⟩ := there_cell hT 0 (by decide)
      obtain ⟨y1, hy1⟩ := there_cell hT 1 (by decide)
      obtain ⟨y2, hy2⟩ := there_cell hT 2 (by decide)
      obtain ⟨y3, hy3⟩ := there_cell hT 3 (by decide)
      obtain ⟨y4, hy4⟩ := there_cell hT 4 (by decide)
      obtain ⟨y5, hy5⟩ := there_cell hT 5 (by decide)
      have hB9 : Below W0.heap.size W0 (wc.setCells wd.heap.size 0 [.string src, .slice va L.length vc, .int .i64 lv, .int .u32 c, .int .i64 0, .int .i64 0]) := below_puts (g := wd.heap.size) (o := 0) hBc (by omega) [.string src, .slice va L.length vc, .int .i64 lv, .int .u32 c, .int .i64 0, .int .i64 0]
      have hF9 : FldsAt (wc.setCells wd.heap.size 0 [.string src, .slice va L.length vc, .int .i64 lv, .int .u32 c, .int .i64 0, .int .i64 0]) (.slice va L.length vc) L := rd_puts' (g := wd.heap.size) (o := 0) hFz (fun h0 q hq => (hfar h0 q hq).1) [.string src, .slice va L.length vc, .int .i64 lv, .int .u32 c, .int .i64 0, .int .i64 0]
      have hZ9 := c6_puts wc wd.heap.size (.string src) (.slice va L.length vc) (.int .i64 lv) (.int .u32 c) (.int .i64 0) (.int .i64 0) hT
      have hL9 : wd.heap.size < (wc.setCells wd.heap.size 0 [.string src, .slice va L.length vc, .int .i64 lv, .int .u32 c, .int .i64 0, .int .i64 0]).heap.size := Nat.lt_of_lt_of_le (Nat.lt_of_lt_of_le hlta hbc.size) (below_puts_base (g := wd.heap.size) (o := 0) (Below.refl 0 wc) (Nat.zero_le _) [.string src, .slice va L.length vc, .int .i64 lv, .int .u32 c, .int .i64 0, .int .i64 0]).size
      have HG : Hid (GSt w wd.heap.size src (.slice fa fl.length fc) lv c fr til (.slice va L.length vc) L src lv 0 0 (wc.setCells wd.heap.size 0 [.string src, .slice va L.length vc, .int .i64 lv, .int .u32 c, .int .i64 0, .int .i64 0])) := Lib.hid ⟨HA.out.later hB9 (by omega), hZ9, World.there_setCells hT wd.heap.size 0 [.string src, .slice va L.length vc, .int .i64 lv, .int .u32 c, .int .i64 0, .int .i64 0], there_later HT.out hB9 (by omega), hF9, hfar, by omega, hL9, HB0.out.trans (hB9.mono HB0.out.size)⟩
      have HB9 := Lib.hid hB9
      clear hB9 hF9 hZ9 hL9
      refine held_step (i := 9) rfl (by kernel_rfl) (fun K hK => ?_)
      go_simp
      refine hK.out _ _ ⟨keep_cell q0 HB9.out (by omega), keep_cell q1 HB9.out (by omega), keep_cell q2 HB9.out (by omega), keep_cell q3 HB9.out (by omega), keep_cell q4 HB9.out (by omega), keep_cell q5 HB9.out (by omega)⟩ (fun hHeld => ?_)
      clear hK K
      (try simp only [Act.put, List.setIfInBounds_toArray, List.set_cons_zero, List.set_cons_succ])
      refine wpAnyH_done (by kernel_rfl) ?_ _
      go_wp2
      go_meet
      exact ⟨wd.heap.size, _, rfl, hfit, hright, HG.out⟩
  case rest =>
    obtain ⟨go, vo, rfl, hfit, hright, hG⟩ := hcut
    clear q0 q1 q2 q3 q4 q5 HA HB0 HT hz
    have HFT := Lib.hid hfit
    have HRT := Lib.hid hright
    have k2 := K2.out
    obtain ⟨nb, hnb⟩ : ∃ nb, nameL (B src) = nb := ⟨_, rfl⟩
    simp only [hnb] at k2
    have HS : Hid (gSrc src = if nb then src else ⟨#[112, 114, 111, 109]⟩) := by show _ = _; unfold gSrc; rw [hnb]
    have HG := Lib.hid hG
    obtain ⟨o0, o1, o2, o3, o4, o5⟩ := hG.o
    have f0 := there_free hG.oth 0 (by decide)
    clear hfit hright hnb K1 K2 hG
    go_upto_if 16 with (go_at_call 55; refine (k2 _).mono ?_; rintro e w2 ⟨rfl, rfl⟩)
    go_cut [] (fun wx => GSt w go src (.slice fa fl.length fc) lv c fr til vo L (gSrc src) lv 0 0 wx)
    case first =>
      clear k2
      cases nb
      · go_wp2
        go_meet
        rw [HS.out]
        exact HG.out.put0 _
      · go_wp2
        go_meet
        rw [HS.out]
        exact HG.out
    case rest =>
      have HG := Lib.hid hcut
      have k3 := K3.out
      obtain ⟨nb, hnb⟩ : ∃ nb, rightL lv = nb := ⟨_, rfl⟩
      simp only [hnb] at k3
      have HSL : Hid (gLv lv = if nb then lv else 1) := by show _ = _; unfold gLv; rw [hnb]
      clear o0 o1 o2 o3 o4 o5 f0 HS k2 hcut hnb K3
      obtain ⟨o0, o1, o2, o3, o4, o5⟩ := HG.out.o
      go_wp2_with fail
      refine (k3 _).mono ?_
      rintro e w3 ⟨rfl, hb3⟩
      have HG3 := Lib.hid (HG.out.later hb3)
      clear o0 o1 o2 o3 o4 o5 HG hb3 k3
      obtain ⟨o0, o1, o2, o3, o4, o5⟩ := HG3.out.o
      have f2 := there_free HG3.out.oth 2 (by decide)
      go_upto_if 21 with fail
      go_cut [] (fun wx => GSt w go src (.slice fa fl.length fc) lv c fr til vo L (gSrc src) (gLv lv) 0 0 wx)
      case first =>
        cases nb
        · go_wp2
          go_meet
          rw [HSL.out]
          exact HG3.out.put2 _
        · go_wp2
          go_meet
          rw [HSL.out]
          exact HG3.out
      case rest =>
        have HG4 := Lib.hid hcut
        clear o0 o1 o2 o3 o4 o5 f2 HG3 hcut HSL
        obtain ⟨a0, a1, a2, a3, a4, a5⟩ := HG4.out.a
        have f4 := there_free HG4.out.oth 4 (by decide)
        obtain ⟨u, hu⟩ : ∃ u, IntKind.u64.wrap fr = u := ⟨_, rfl⟩
        obtain ⟨f', hf'⟩ : ∃ f', u.tmod 1000 = f' := ⟨_, rfl⟩
        have hgf : gFr fr = f' := by unfold gFr; rw [hu, hf']
        have hfin := gFr_in fr
        rw [hgf] at hfin
        have hf1 : IntKind.i64.wrap f' = f' := IntWalk.i64_in _ ⟨by omega, by omega⟩
        obtain ⟨_, _, _, _, o4, _⟩ := HG4.out.o
        go_upto_region 7 with fail
        change Code.wp _ _ _ _ (wc.setCells go 4 [.int .i64 f'])
        have HG5 := Lib.hid (HG4.out.put4 f')
        generalize wc.setCells go 4 [.int .i64 f'] = w5 at *
        clear a0 a1 a2 a3 a4 a5 o4 f4 HG4 hu hf' hf1
        have HGF := Lib.hid hgf
        clear hgf
        obtain ⟨a0, a1, a2, a3, a4, a5⟩ := HG5.out.a
        obtain ⟨o0, o1, o2, o3, o4, o5⟩ := HG5.out.o
        have f5 := there_free HG5.out.oth 5 (by decide)
        go_upto_if 32 with fail
        go_cut [] (fun wx => GSt w go src (.slice fa fl.length fc) lv c fr til vo L (gSrc src) (gLv lv) (gFr fr) (gTil fr til) wx)
        case first =>
          by_cases h0 : til = 0
          · have hb : (til != 0) = false := by rw [h0]; rfl
            have HE : Hid (gTil fr til = 0) := by show _ = _; unfold gTil; rw [if_pos h0]
            clear h0
            go_wp2
            go_meet
            rw [HE.out, HGF.out]
            exact HG5.out
          · have hb : (til != 0) = true := by rw [bne_iff_ne]; exact h0
            have hu0 : 0 ≤ IntKind.u64.wrap til := by simp only [IntKind.wrap, IntKind.bits, IntKind.signed]; simp; omega
            obtain ⟨u2, hu2⟩ : ∃ u2, IntKind.u64.wrap til = u2 := ⟨_, rfl⟩
            obtain ⟨t2, ht2⟩ : ∃ t2, u2.tmod 1000 = t2 := ⟨_, rfl⟩
            have ht3 : 0 ≤ t2 ∧ t2 < 1000 := by
              rw [← ht2, Int.tmod_eq_emod_of_nonneg (by rw [← hu2]; exact hu0)]; omega
            have HE : Hid (gTil fr til = f' + 1 + t2) := by show _ = _; unfold gTil; rw [if_neg h0, HGF.out, hu2, ht2]
            have w1 : IntKind.i64.wrap t2 = t2 := IntWalk.i64_in _ ⟨by omega, by omega⟩
            have w2 : IntKind.i64.wrap (f' + 1) = f' + 1 := IntWalk.i64_in _ ⟨by omega, by omega⟩
            have w3 : IntKind.i64.wrap (f' + 1 + t2) = f' + 1 + t2 := IntWalk.i64_in _ ⟨by omega, by omega⟩
            have e5 := there_cell HG5.out.oth 5 (by decide)
            clear h0 hu0 ht3
            go_wp2
            go_meet
            rw [HE.out, HGF.out]
            exact HG5.out.put5 _
        case rest =>
          have HG6 := Lib.hid hcut
          clear a0 a1 a2 a3 a4 a5 o0 o1 o2 o3 o4 o5 f5 HG5 hcut HGF
          obtain ⟨va, vc, rfl, _, _⟩ := RdAt.shape HG6.out.f
          obtain ⟨o0, o1, o2, o3, o4, o5⟩ := HG6.out.o
          have hp : ∀ o v, wc.drew.cell? ⟨go, o, none⟩ = some v → (wc.drew.setCells (w.heap.size + 1) 0 [.string (gSrc src), .slice va L.length vc, .int .i64 (gLv lv), .int .u32 c, .int .i64 (gFr fr), .int .i64 (gTil fr til)]).cell? ⟨go, o, none⟩ = some v := fun o v h => by
            rw [World.cell?_setCells_out _ _ _ _ _ (fun hb _ => by have := HG6.out.ge; simp at hb; omega)]
            exact h
          go_upto_region 9 with fail
          refine wp_region_held_drew (S := (fun W => W.cell? ⟨go, 0, none⟩ = some (.string (gSrc src)) ∧ W.cell? ⟨go, 1, none⟩ = some (.slice va L.length vc) ∧ W.cell? ⟨go, 2, none⟩ = some (.int .i64 (gLv lv)) ∧ W.cell? ⟨go, 3, none⟩ = some (.int .u32 c) ∧ W.cell? ⟨go, 4, none⟩ = some (.int .i64 (gFr fr)) ∧ W.cell? ⟨go, 5, none⟩ = some (.int .i64 (gTil fr til)))) (by kernel_rfl) ⟨o0, o1, o2, o3, o4, o5⟩ (fun hHeld => ?_)
          have HG7 := Lib.hid (HG6.out.later (Below.refl _ wc).drew)
          clear HG6
          generalize wc.drew = wd at *
          have f0 := there_free HG7.out.rth 0 (by decide)
          obtain ⟨y0, hy0⟩ := there_cell HG7.out.rth 0 (by decide)
          have f1 := there_free HG7.out.rth 1 (by decide)
          obtain ⟨y1, hy1⟩ := there_cell HG7.out.rth 1 (by decide)
          have f2 := there_free HG7.out.rth 2 (by decide)
          obtain ⟨y2, hy2⟩ := there_cell HG7.out.rth 2 (by decide)
          have f3 := there_free HG7.out.rth 3 (by decide)
          obtain ⟨y3, hy3⟩ := there_cell HG7.out.rth 3 (by decide)
          have f4 := there_free HG7.out.rth 4 (by decide)
          obtain ⟨y4, hy4⟩ := there_cell HG7.out.rth 4 (by decide)
          have f5 := there_free HG7.out.rth 5 (by decide)
          obtain ⟨y5, hy5⟩ := there_cell HG7.out.rth 5 (by decide)
          refine held_take (i := 0) (v := ?_) rfl rfl (by kernel_rfl) (by kernel_rfl) (by kernel_rfl) (fun _ _ _ h => h) (by rfl) hHeld ?_ ?_
          rotate_left
          · rintro wh ⟨z0, z1, z2, z3, z4, z5⟩
            go_simp
            (try with_reducible rfl)
          simp only [Act.put, List.setIfInBounds_toArray, List.set_cons_zero, List.set_cons_succ]
          refine held_take (i := 1) (v := ?_) rfl rfl (by kernel_rfl) (by kernel_rfl) (by kernel_rfl) (fun _ _ _ h => h) (by rfl) hHeld ?_ ?_
          rotate_left
          · rintro wh ⟨z0, z1, z2, z3, z4, z5⟩
            go_simp
            (try with_reducible rfl)
          simp only [Act.put, List.setIfInBounds_toArray, List.set_cons_zero, List.set_cons_succ]
          refine held_take (i := 2) (v := ?_) rfl rfl (by kernel_rfl) (by kernel_rfl) (by kernel_rfl) (fun _ _ _ h => h) (by rfl) hHeld ?_ ?_
          rotate_left
          · rintro wh ⟨z0, z1, z2, z3, z4, z5⟩
            go_simp
            (try with_reducible rfl)
          simp only [Act.put, List.setIfInBounds_toArray, List.set_cons_zero, List.set_cons_succ]
          refine held_take (i := 3) (v := ?_) rfl rfl (by kernel_rfl) (by kernel_rfl) (by kernel_rfl) (fun _ _ _ h => h) (by rfl) hHeld ?_ ?_
          rotate_left
          · rintro wh ⟨z0, z1, z2, z3, z4, z5⟩
            go_simp
            (try with_reducible rfl)
          simp only [Act.put, List.setIfInBounds_toArray, List.set_cons_zero, List.set_cons_succ]
          refine held_take (i := 4) (v := ?_) rfl rfl (by kernel_rfl) (by kernel_rfl) (by kernel_rfl) (fun _ _ _ h => h) (by rfl) hHeld ?_ ?_
          rotate_left
          · rintro wh ⟨z0, z1, z2, z3, z4, z5⟩
            go_simp
            (try with_reducible rfl)
          simp only [Act.put, List.setIfInBounds_toArray, List.set_cons_zero, List.set_cons_succ]
          refine held_step (i := 5) rfl (by kernel_rfl) (fun K hK => ?_)
          go_simp
          refine hK.out _ _ ⟨hp _ _ HG7.out.o.1, hp _ _ HG7.out.o.2.1, hp _ _ HG7.out.o.2.2.1, hp _ _ HG7.out.o.2.2.2.1, hp _ _ HG7.out.o.2.2.2.2.1, hp _ _ HG7.out.o.2.2.2.2.2⟩ (fun hHeld => ?_)
          clear hK K
          (try simp only [Act.put, List.setIfInBounds_toArray])
          refine held_take (i := 6) (v := ?_) rfl rfl (by kernel_rfl) (by kernel_rfl) (by kernel_rfl) (fun _ _ _ h => h) (by rfl) hHeld ?_ ?_
          rotate_left
          · rintro wh ⟨z0, z1, z2, z3, z4, z5⟩
            go_simp
            (try with_reducible rfl)
          simp only [Act.put, List.setIfInBounds_toArray, List.set_cons_zero, List.set_cons_succ]
          refine wpAnyH_done (by kernel_rfl) ?_ _
          go_wp2
          refine bodyPost_ret (results_agg2 rfl _ _ (w.heap.size + 1) [.string (gSrc src), .slice va L.length vc, .int .i64 (gLv lv), .int .u32 c, .int .i64 (gFr fr), .int .i64 (gTil fr til)] (.struct _) rfl (World.rangeAt_setCells_same wd (w.heap.size + 1) 0 [.string (gSrc src), .slice va L.length vc, .int .i64 (gLv lv), .int .u32 c, .int .i64 (gFr fr), .int .i64 (gTil fr til)] HG7.out.rth) Tryz.underlying50 rfl (by kernel_rfl)) rfl ?_
          have hbb := below_puts (g := w.heap.size + 1) (o := 0) HG7.out.below (by omega) [.string (gSrc src), .slice va L.length vc, .int .i64 (gLv lv), .int .u32 c, .int .i64 (gFr fr), .int .i64 (gTil fr til)]
          have hF3 := rd_puts' (g := w.heap.size + 1) (o := 0) HG7.out.f (fun h0 q hq => (HG7.out.far h0 q hq).2.1) [.string (gSrc src), .slice va L.length vc, .int .i64 (gLv lv), .int .u32 c, .int .i64 (gFr fr), .int .i64 (gTil fr til)]
          exact ⟨_, by simp, hF3, HFT.out, HRT.out, fun h0 q hq => (HG7.out.far h0 q hq).2.2, hbb⟩
end Go.Proofs.YtcfococinllcmaaGreat

/- the law's alert: good. -/
namespace Go.Proofs.YtcfococinllcmaaGreat
open Go.RowKit

/-- results of two structs -/
theorem results_agg22 {P : Program} {fn : Func} {p u : Tmp} {t1 t2 : TypeId} (h : fn.results = #[.cell p t1, .cell u t2]) (tmps : Array Value) (w : World) (g k : Nat) (cs ds : List Value) (d1 d2 : TypeDesc)
    (hp : tmps.getD p undef = .pointer (some ⟨g, 0, none⟩)) (hc : w.rangeAt g 0 cs) (hu : P.underlying t1 = some d1) (hd : d1.isRow = true) (hi : (P.info? t1).map (·.size) = some cs.length)
    (hp2 : tmps.getD u undef = .pointer (some ⟨k, 0, none⟩)) (hc2 : w.rangeAt k 0 ds) (hu2 : P.underlying t2 = some d2) (hd2 : d2.isRow = true) (hi2 : (P.info? t2).map (·.size) = some ds.length) :
    (results fn tmps).run P w = .ok (.tuple #[.agg cs.toArray, .agg ds.toArray]) w := by
  have hp' : tmps[p]?.getD undef = .pointer (some ⟨g, 0, none⟩) := by simpa using hp
  have hp2' : tmps[u]?.getD undef = .pointer (some ⟨k, 0, none⟩) := by simpa using hp2
  simp [results, h, hp', hp2', asAddr, run_loadVar_mid (P := P) w g 0 t1 cs d1 hc hu hd hi, run_loadVar_mid (P := P) w k 0 t2 ds d2 hc2 hu2 hd2 hi2]
theorem alc6 (W : World) (a b c d e f : Value) (t : TypeId) : C6 W.heap.size a b c d e f (W.alloc (.cells #[a, b, c, d, e, f] t)) := by
  have hc : ∀ (j : Nat), (W.alloc (.cells #[a, b, c, d, e, f] t)).cell? ⟨W.heap.size, j, none⟩ = _ := fun j => World.cell?_alloc_at _ _ _ _ rfl
  exact ⟨hc 0, hc 1, hc 2, hc 3, hc 4, hc 5⟩
set_option maxHeartbeats 3200000 in
set_option maxRecDepth 100000 in
theorem good_any (src : ByteArray) (fl : List Fld) (fv : Value) (lv : Int) (c : Nat) (fr til : Int) (w : World) (hs : src.size ≤ maxLen) (hv : FldsAt w fv fl) (hfit : FldsFit fl) (hl : fl.length ≤ maxLen) :
    Calls Tryz.prog 22 #[.agg #[.string src, fv, .int .i64 lv, .int .u32 c, .int .i64 fr, .int .i64 til]] w fun e w' =>
      ∃ v', e = .returned (.tuple #[.agg #[.string (gSrc src), v', .int .i64 (gLv lv), .int .u32 c, .int .i64 (gFr fr), .int .i64 (gTil fr til)], .agg #[.string (gSrc src), v', .int .i64 (gLv lv), .int .u32 c, .int .i64 (gFr fr), .int .i64 (gTil fr til)]]) ∧ FldsAt w' v' (goodF fl) ∧ FldsFit (goodF fl) ∧ rightF (goodF fl) = true ∧ Below w.heap.size w w' := by
  have k9 := fun W (hW : Below w.heap.size w W) => rgood9_any src fl fv lv c fr til W hs (hv.later hW) hfit hl
  obtain ⟨fa, fc, rfl, _, _⟩ := RdAt.shape hv
  obtain ⟨W1, h1⟩ : ∃ z, w.alloc (.cells #[.string src, .slice fa fl.length fc, .int .i64 lv, .int .u32 c, .int .i64 fr, .int .i64 til] 50) = z := ⟨_, rfl⟩
  obtain ⟨W2, h2⟩ : ∃ z, W1.alloc (.cells #[.string ⟨#[]⟩, .slice none 0 0, .int .i64 0, .int .u32 0, .int .i64 0, .int .i64 0] 53) = z := ⟨_, rfl⟩
  obtain ⟨W3, h3⟩ : ∃ z, W2.alloc (.cells #[.string ⟨#[]⟩, .slice none 0 0, .int .i64 0, .int .u32 0, .int .i64 0, .int .i64 0] 50) = z := ⟨_, rfl⟩
  have s1 : W1.heap.size = w.heap.size + 1 := by rw [← h1, World.size_alloc]
  have s2 : W2.heap.size = w.heap.size + 1 + 1 := by rw [← h2, World.size_alloc, s1]
  have s3 : W3.heap.size = w.heap.size + 1 + 1 + 1 := by rw [← h3, World.size_alloc, s2]
  have b1 : Below w.heap.size w W1 := by rw [← h1]; exact alloc_below _ _
  have b2 : Below W1.heap.size W1 W2 := by rw [← h2]; exact alloc_below _ _
  have b3 : Below W2.heap.size W2 W3 := by rw [← h3]; exact alloc_below _ _
  have x1 := alc6 w (.string src) (.slice fa fl.length fc) (.int .i64 lv) (.int .u32 c) (.int .i64 fr) (.int .i64 til) 50
  have x2 := alc6 W1 (.string ⟨#[]⟩) (.slice none 0 0) (.int .i64 0) (.int .u32 0) (.int .i64 0) (.int .i64 0) 53
  have x3 := alc6 W2 (.string ⟨#[]⟩) (.slice none 0 0) (.int .i64 0) (.int .u32 0) (.int .i64 0) (.int .i64 0) 50
  have t2 := box_there (Below.refl _ (W1.alloc (.cells #[.string ⟨#[]⟩, .slice none 0 0, .int .i64 0, .int .u32 0, .int .i64 0, .int .i64 0] 53)))
  have t3 := box_there (Below.refl _ (W2.alloc (.cells #[.string ⟨#[]⟩, .slice none 0 0, .int .i64 0, .int .u32 0, .int .i64 0, .int .i64 0] 50)))
  rw [h1] at x1
  rw [h2] at x2 t2
  rw [h3] at x3 t3
  change W2.there W1.heap.size 0 6 at t2
  change W3.there W2.heap.size 0 6 at t3
  rw [s1] at x2 t2
  rw [s2] at x3 t3
  have x1 := (x1.later b2 (by omega)).later b3 (by omega)
  have x2 := x2.later b3 (by omega)
  have t2 := there_later t2 b3 (by omega)
  have hB3 : Below w.heap.size w W3 := (b1.trans (b2.mono (by omega))).trans (b3.mono (by omega))
  have k9 := k9 W3 hB3
  have HB3 := Lib.hid hB3
  have HX2 := Lib.hid x2
  have HX3 := Lib.hid x3
  have HT2 := Lib.hid t2
  have HT3 := Lib.hid t3
  generalize goodF fl = G at *
  generalize gSrc src = s' at *
  generalize gLv lv = l' at *
  generalize gFr fr = f' at *
  generalize gTil fr til = t' at *
  obtain ⟨y0, y1, y2, y3, y4, y5⟩ := x1
  clear x2 x3 t2 t3 b1 b2 b3 hB3 hv hfit hl hs
  go_enter Tryz.func22, Tryz.ntmps22
  go_upto_region 1 with fail
  try rw [h1]
  try rw [h2]
  try rw [h3]
  try rw [s1]
  try rw [s2]
  clear h1 h2 h3
  go_wp2_with fail
  refine k9.mono ?_
  rintro e w4 ⟨v', rfl, hF, hff, hrf, hfar, hb4⟩
  rw [s3] at hfar
  obtain ⟨va, vc, rfl, _, _⟩ := RdAt.shape hF
  have HF := Lib.hid hF
  have HFAR := Lib.hid hfar
  have HFF := Lib.hid hff
  have HRF := Lib.hid hrf
  have HB4 := Lib.hid (HB3.out.trans (hb4.mono HB3.out.size))
  have HX4 := Lib.hid (HX2.out.later hb4 (by omega))
  have HX5 := Lib.hid (HX3.out.later hb4 (by omega))
  have HT4 := Lib.hid (there_later HT2.out hb4 (by omega))
  have HT5 := Lib.hid (there_later HT3.out hb4 (by omega))
  have hs4 : w.heap.size + 1 + 1 + 1 ≤ w4.heap.size := by have := hb4.size; omega
  clear k9 hF hff hrf hfar hb4 HB3 HX2 HX3 HT2 HT3 y0 y1 y2 y3 y4 y5
  have hba := alloc_below w4 (.cells #[.string s', .slice va G.length vc, .int .i64 l', .int .u32 c, .int .i64 f', .int .i64 t'] 50)
  have x6 := alc6 w4 (.string s') (.slice va G.length vc) (.int .i64 l') (.int .u32 c) (.int .i64 f') (.int .i64 t') 50
  obtain ⟨W5, h5⟩ : ∃ z, w4.alloc (.cells #[.string s', .slice va G.length vc, .int .i64 l', .int .u32 c, .int .i64 f', .int .i64 t'] 50) = z := ⟨_, rfl⟩
  rw [h5] at hba x6
  have HX6 := Lib.hid x6
  have HF5 := Lib.hid (HF.out.later hba)
  have HB5 := Lib.hid (HB4.out.trans (hba.mono HB4.out.size))
  have x4 := HX4.out.later hba (by omega)
  have x5 := HX5.out.later hba (by omega)
  have t4 := there_later HT4.out hba (by omega)
  have t5 := there_later HT5.out hba (by omega)
  have HX4 := Lib.hid x4
  have HX5 := Lib.hid x5
  have HT4 := Lib.hid t4
  have HT5 := Lib.hid t5
  clear hba x6 x4 x5 t4 t5 HF HB4
  go_upto_region 2 with fail
  try rw [h5]
  clear h5
  obtain ⟨z0, z1, z2, z3, z4, z5⟩ := HX6.out
  obtain ⟨p0, p1, p2, p3, p4, p5⟩ := HX4.out
  obtain ⟨q0, q1, q2, q3, q4, q5⟩ := HX5.out
  have f0 := there_free HT4.out 0 (by omega)
  have f1 := there_free HT4.out 1 (by omega)
  have f2 := there_free HT4.out 2 (by omega)
  have f3 := there_free HT4.out 3 (by omega)
  have f4 := there_free HT4.out 4 (by omega)
  have f5 := there_free HT4.out 5 (by omega)
  have e0 := there_free HT5.out 0 (by omega)
  have e1 := there_free HT5.out 1 (by omega)
  have e2 := there_free HT5.out 2 (by omega)
  have e3 := there_free HT5.out 3 (by omega)
  have e4 := there_free HT5.out 4 (by omega)
  have e5 := there_free HT5.out 5 (by omega)
  go_region
  clear z0 z1 z2 z3 z4 z5 p0 p1 p2 p3 p4 p5 q0 q1 q2 q3 q4 q5 f0 f1 f2 f3 f4 f5 e0 e1 e2 e3 e4 e5
  have hx : (W5.setCells (w.heap.size + 1) 0 [.string s', .slice va G.length vc, .int .i64 l', .int .u32 c, .int .i64 f', .int .i64 t']).rangeAt (w.heap.size + 1) 0 [.string s', .slice va G.length vc, .int .i64 l', .int .u32 c, .int .i64 f', .int .i64 t'] := World.rangeAt_setCells_same _ _ 0 _ HT4.out
  have hT := World.there_setCells HT5.out (w.heap.size + 1) 0 [.string s', .slice va G.length vc, .int .i64 l', .int .u32 c, .int .i64 f', .int .i64 t']
  have hy := World.rangeAt_setCells_same (W5.setCells (w.heap.size + 1) 0 [.string s', .slice va G.length vc, .int .i64 l', .int .u32 c, .int .i64 f', .int .i64 t']) (w.heap.size + 1 + 1) 0 [.string s', .slice va G.length vc, .int .i64 l', .int .u32 c, .int .i64 f', .int .i64 t'] hT
  have hx2 : ((W5.setCells (w.heap.size + 1) 0 [.string s', .slice va G.length vc, .int .i64 l', .int .u32 c, .int .i64 f', .int .i64 t']).setCells (w.heap.size + 1 + 1) 0 [.string s', .slice va G.length vc, .int .i64 l', .int .u32 c, .int .i64 f', .int .i64 t']).rangeAt (w.heap.size + 1) 0 [.string s', .slice va G.length vc, .int .i64 l', .int .u32 c, .int .i64 f', .int .i64 t'] := fun j v hv => by
    rw [World.cell?_setCells_out _ _ _ _ _ (fun h _ => by simp at h)]
    exact hx j v hv
  have hba := below_puts (g := w.heap.size + 1) (o := 0) HB5.out (by omega) [.string s', .slice va G.length vc, .int .i64 l', .int .u32 c, .int .i64 f', .int .i64 t']
  have hbb := below_puts (g := w.heap.size + 1 + 1) (o := 0) hba (by omega) [.string s', .slice va G.length vc, .int .i64 l', .int .u32 c, .int .i64 f', .int .i64 t']
  have hsz : W5.heap.size ≤ ((W5.setCells (w.heap.size + 1) 0 [.string s', .slice va G.length vc, .int .i64 l', .int .u32 c, .int .i64 f', .int .i64 t']).setCells (w.heap.size + 1 + 1) 0 [.string s', .slice va G.length vc, .int .i64 l', .int .u32 c, .int .i64 f', .int .i64 t']).heap.size := ((Below.refl 0 W5).trans (below_puts_base (below_puts_base (Below.refl 0 W5) (Nat.zero_le _) [.string s', .slice va G.length vc, .int .i64 l', .int .u32 c, .int .i64 f', .int .i64 t']) (Nat.zero_le _) [.string s', .slice va G.length vc, .int .i64 l', .int .u32 c, .int .i64 f', .int .i64 t'])).size
  have HX := Lib.hid hx2
  have HY := Lib.hid hy
  have hF8 := rd_puts' (g := w.heap.size + 1) (o := 0) HF5.out (fun h0 q hq => by have := HFAR.out h0 q hq; omega) [.string s', .slice va G.length vc, .int .i64 l', .int .u32 c, .int .i64 f', .int .i64 t']
  have hF9 := rd_puts' (g := w.heap.size + 1 + 1) (o := 0) hF8 (fun h0 q hq => by have := HFAR.out h0 q hq; omega) [.string s', .slice va G.length vc, .int .i64 l', .int .u32 c, .int .i64 f', .int .i64 t']
  have HF9 : Hid (FldsAt _ _ G) := Lib.hid hF9
  have HBB := Lib.hid hbb
  clear hx hT hy hx2 hba hbb hF8 hF9
  change Exit.then _ _ _ _ (World.drew ((W5.setCells (w.heap.size + 1) 0 [.string s', .slice va G.length vc, .int .i64 l', .int .u32 c, .int .i64 f', .int .i64 t']).setCells (w.heap.size + 1 + 1) 0 [.string s', .slice va G.length vc, .int .i64 l', .int .u32 c, .int .i64 f', .int .i64 t']))
  generalize (W5.setCells (w.heap.size + 1) 0 [.string s', .slice va G.length vc, .int .i64 l', .int .u32 c, .int .i64 f', .int .i64 t']).setCells (w.heap.size + 1 + 1) 0 [.string s', .slice va G.length vc, .int .i64 l', .int .u32 c, .int .i64 f', .int .i64 t'] = WX at *
  have HX2 : Hid (WX.drew.rangeAt (w.heap.size + 1) 0 [.string s', .slice va G.length vc, .int .i64 l', .int .u32 c, .int .i64 f', .int .i64 t']) := HX
  have HY2 : Hid (WX.drew.rangeAt (w.heap.size + 1 + 1) 0 [.string s', .slice va G.length vc, .int .i64 l', .int .u32 c, .int .i64 f', .int .i64 t']) := HY
  have HBD := Lib.hid HBB.out.drew
  have HFD : Hid (FldsAt WX.drew (.slice va G.length vc) G) := HF9
  clear HX HY HBB HF9
  generalize WX.drew = WD at *
  go_wp2
  refine bodyPost_ret (results_agg22 rfl _ _ (w.heap.size + 1) (w.heap.size + 1 + 1) [.string s', .slice va G.length vc, .int .i64 l', .int .u32 c, .int .i64 f', .int .i64 t'] [.string s', .slice va G.length vc, .int .i64 l', .int .u32 c, .int .i64 f', .int .i64 t'] (.struct _) (.struct _) rfl HX2.out Tryz.underlying53 rfl (by kernel_rfl) rfl HY2.out Tryz.underlying50 rfl (by kernel_rfl)) rfl ?_
  exact ⟨_, rfl, HFD.out, HFF.out, HRF.out, HBD.out⟩
end Go.Proofs.YtcfococinllcmaaGreat

/- the law's lives is true. -/
namespace Go.Proofs.YtcfococinllcmaaGreat
open Go.RowKit

theorem quo_nil (s : Sil) : quoS [] s ≠ 10 := by simp [quoS]
/-- what lives has laid: the matcher, the silence, the field, the alert -/
structure LifeAt (w1 W : World) : Prop where
  m : MtsAt W (.slice (some ⟨w1.heap.size, 0, none⟩) 1 1) [mtL]
  s : C5 (w1.heap.size + 1) (.slice (some ⟨w1.heap.size, 0, none⟩) 1 1) (.int .i64 0) (.int .i64 9) (.int .i64 5) (.int .u32 0) W
  f : FldsAt W (.slice (some ⟨w1.heap.size + 1 + 1, 0, none⟩) 1 1) flL
  a : C6 (w1.heap.size + 1 + 1 + 1) (.string ⟨#[112, 114, 111, 109]⟩) (.slice (some ⟨w1.heap.size + 1 + 1, 0, none⟩) 1 1) (.int .i64 0) (.int .u32 0) (.int .i64 0) (.int .i64 0) W
  lt : w1.heap.size + 1 + 1 + 1 < W.heap.size
theorem LifeAt.later {w1 W W' : World} (h : LifeAt w1 W) (hb : Below W.heap.size W W') : LifeAt w1 W' := by
  have hl := h.lt
  exact ⟨RdAt.later h.m hb, h.s.later hb, RdAt.later h.f hb, h.a.later hb (by omega), Nat.lt_of_lt_of_le hl hb.size⟩
theorem LifeAt.keep {w1 W W' : World} {lp m : Nat} (h : LifeAt w1 W) (hk : Kp lp m W W') (h1 : lp < w1.heap.size) (h2 : m < w1.heap.size) : LifeAt w1 W' := by
  have hl := h.lt
  have q : ∀ b o v, w1.heap.size ≤ b → W.cell? ⟨b, o, none⟩ = some v → W'.cell? ⟨b, o, none⟩ = some v := fun b o v hb hv => hk.cell hv (by omega) (by omega)
  obtain ⟨s0, s1, s2, s3, s4⟩ := h.s
  obtain ⟨a0, a1, a2, a3, a4, a5⟩ := h.a
  refine ⟨hk.rd h.m (fun q hq => ?_), ⟨q _ _ _ (by omega) s0, q _ _ _ (by omega) s1, q _ _ _ (by omega) s2, q _ _ _ (by omega) s3, q _ _ _ (by omega) s4⟩, hk.rd h.f (fun q hq => ?_),
    ⟨q _ _ _ (by omega) a0, q _ _ _ (by omega) a1, q _ _ _ (by omega) a2, q _ _ _ (by omega) a3, q _ _ _ (by omega) a4, q _ _ _ (by omega) a5⟩, Nat.lt_of_lt_of_le hl hk.size⟩
  all_goals
    simp only [Value.ownBlock, Option.some.injEq] at hq
    omega
theorem lifeAt (w1 : World) : LifeAt w1 ((((w1.alloc (.cells #[.string teamB, .int .i64 0, .string tB] 108)).alloc (.cells #[.slice (some ⟨w1.heap.size, 0, none⟩) 1 1, .int .i64 0, .int .i64 9, .int .i64 5, .int .u32 0] 67)).alloc (.cells #[.string teamB, .string tB] 103)).alloc (.cells #[.string ⟨#[112, 114, 111, 109]⟩, .slice (some ⟨w1.heap.size + 1 + 1, 0, none⟩) 1 1, .int .i64 0, .int .u32 0, .int .i64 0, .int .i64 0] 53)) ∧ Below w1.heap.size w1 ((((w1.alloc (.cells #[.string teamB, .int .i64 0, .string tB] 108)).alloc (.cells #[.slice (some ⟨w1.heap.size, 0, none⟩) 1 1, .int .i64 0, .int .i64 9, .int .i64 5, .int .u32 0] 67)).alloc (.cells #[.string teamB, .string tB] 103)).alloc (.cells #[.string ⟨#[112, 114, 111, 109]⟩, .slice (some ⟨w1.heap.size + 1 + 1, 0, none⟩) 1 1, .int .i64 0, .int .u32 0, .int .i64 0, .int .i64 0] 53)) := by
  obtain ⟨V1, h1⟩ : ∃ z, w1.alloc (.cells #[.string teamB, .int .i64 0, .string tB] 108) = z := ⟨_, rfl⟩
  obtain ⟨V2, h2⟩ : ∃ z, V1.alloc (.cells #[.slice (some ⟨w1.heap.size, 0, none⟩) 1 1, .int .i64 0, .int .i64 9, .int .i64 5, .int .u32 0] 67) = z := ⟨_, rfl⟩
  obtain ⟨V3, h3⟩ : ∃ z, V2.alloc (.cells #[.string teamB, .string tB] 103) = z := ⟨_, rfl⟩
  obtain ⟨V4, h4⟩ : ∃ z, V3.alloc (.cells #[.string ⟨#[112, 114, 111, 109]⟩, .slice (some ⟨w1.heap.size + 1 + 1, 0, none⟩) 1 1, .int .i64 0, .int .u32 0, .int .i64 0, .int .i64 0] 53) = z := ⟨_, rfl⟩
  rw [h1, h2, h3, h4]
  have s1 : V1.heap.size = w1.heap.size + 1 := by rw [← h1, World.size_alloc]
  have s2 : V2.heap.size = w1.heap.size + 1 + 1 := by rw [← h2, World.size_alloc, s1]
  have s3 : V3.heap.size = w1.heap.size + 1 + 1 + 1 := by rw [← h3, World.size_alloc, s2]
  have s4 : V4.heap.size = w1.heap.size + 1 + 1 + 1 + 1 := by rw [← h4, World.size_alloc, s3]
  have b1 : Below w1.heap.size w1 V1 := by rw [← h1]; exact alloc_below _ _
  have b2 : Below V1.heap.size V1 V2 := by rw [← h2]; exact alloc_below _ _
  have b3 : Below V2.heap.size V2 V3 := by rw [← h3]; exact alloc_below _ _
  have b4 : Below V3.heap.size V3 V4 := by rw [← h4]; exact alloc_below _ _
  have c34 : Below V3.heap.size V3 V4 := b4
  have c24 : Below V2.heap.size V2 V4 := b3.trans (c34.mono (by omega))
  have c14 : Below V1.heap.size V1 V4 := b2.trans (c24.mono (by omega))
  have g1 : Below (w1.alloc (.cells #[.string teamB, .int .i64 0, .string tB] 108)).heap.size (w1.alloc (.cells #[.string teamB, .int .i64 0, .string tB] 108)) V4 := by rw [h1]; exact c14
  have g3 : Below (V2.alloc (.cells #[.string teamB, .string tB] 103)).heap.size (V2.alloc (.cells #[.string teamB, .string tB] 103)) V4 := by rw [h3]; exact c34
  have x2 := alc5 V1 (.slice (some ⟨w1.heap.size, 0, none⟩) 1 1) (.int .i64 0) (.int .i64 9) (.int .i64 5) (.int .u32 0) 67
  rw [h2, s1] at x2
  have m0 := box_later g1 (i := 0) rfl
  have m1 := box_later g1 (i := 1) rfl
  have m2 := box_later g1 (i := 2) rfl
  have f0 := box_later g3 (i := 0) rfl
  have f1 := box_later g3 (i := 1) rfl
  have x4 := alc6 V3 (.string ⟨#[112, 114, 111, 109]⟩) (.slice (some ⟨w1.heap.size + 1 + 1, 0, none⟩) 1 1) (.int .i64 0) (.int .u32 0) (.int .i64 0) (.int .i64 0) 53
  rw [h4, s3] at x4
  rw [s2] at f0 f1
  refine ⟨⟨RdAt.mk rfl (Nat.le_refl _) (by omega) (fun j x hj => ?_), x2.later c24, RdAt.mk rfl (Nat.le_refl _) (by omega) (fun j x hj => ?_), x4, by omega⟩, b1.trans (c14.mono (by omega))⟩
  · rw [Nat.zero_add]
    match j, hj with
    | 0, hj => rw [← Option.some.inj hj]; exact m0
    | 1, hj => rw [← Option.some.inj hj]; exact m1
    | 2, hj => rw [← Option.some.inj hj]; exact m2
    | j + 3, hj => simp [mtCells] at hj
  · rw [Nat.zero_add]
    match j, hj with
    | 0, hj => rw [← Option.some.inj hj]; exact f0
    | 1, hj => rw [← Option.some.inj hj]; exact f1
    | j + 2, hj => simp [fldCells] at hj
theorem quiet_is (s0 s1 s2 s4 s5 : Option Addr × Nat × Nat) (rs : List Nmd) (rv : Value) (src : ByteArray) (fl : List Fld) (fv : Value) (lv : Int) (c : Nat) (fr til : Int) (tl : Int) (tc : Nat) (now : Int) (lp m n : Nat) (S : List Sil) (last : Int) (w : World) (L : List Int)
    (hL : quietL rs S fl (lv, c) (tl, tc) now = L) (h : SlAt w lp m n S last) (hv : NmdsAt w rv rs) (hl : rs.length ≤ maxLen) (hf : FldsAt w fv fl) (hfl : fl.length ≤ 1000000000000) (hfit : FldsFit fl) :
    Calls Tryz.prog 29 #[.pointer (some ⟨lp, 0, none⟩), .agg #[SV s0, SV s1, SV s2, rv, SV s4, SV s5], .agg #[.string src, fv, .int .i64 lv, .int .u32 c, .int .i64 fr, .int .i64 til], Lab tl tc, .int .i64 now] w fun e w' =>
      ∃ v', e = .returned v' ∧ IntsAt w' v' L ∧ Below w.heap.size w w' := by
  subst hL
  exact quiet_any s0 s1 s2 s4 s5 rs rv src fl fv lv c fr til tl tc now lp m n S last w h hv hl hf hfl hfit
set_option maxHeartbeats 6400000 in
set_option maxRecDepth 100000 in
theorem lives_any (w : World) : Calls Tryz.prog 20 #[] w fun e w' => e = .returned (.bool true) ∧ Below w.heap.size w w' := by
  have kn := new_any w
  go_enter Tryz.func20, Tryz.ntmps20
  go_wp2_with fail
  refine kn.mono ?_
  rintro e w1 ⟨lp, m, rfl, hS, hlp, hm, hb1⟩
  have HS1 := Lib.hid hS
  have HB1 := Lib.hid hb1
  clear kn hS hb1
  go_upto_region 4 with fail
  obtain ⟨hL, hLb⟩ := lifeAt w1
  change Code.wp _ _ _ _ ((((w1.alloc (.cells #[.string teamB, .int .i64 0, .string tB] 108)).alloc (.cells #[.slice (some ⟨w1.heap.size, 0, none⟩) 1 1, .int .i64 0, .int .i64 9, .int .i64 5, .int .u32 0] 67)).alloc (.cells #[.string teamB, .string tB] 103)).alloc (.cells #[.string ⟨#[112, 114, 111, 109]⟩, .slice (some ⟨w1.heap.size + 1 + 1, 0, none⟩) 1 1, .int .i64 0, .int .u32 0, .int .i64 0, .int .i64 0] 53))
  generalize (((w1.alloc (.cells #[.string teamB, .int .i64 0, .string tB] 108)).alloc (.cells #[.slice (some ⟨w1.heap.size, 0, none⟩) 1 1, .int .i64 0, .int .i64 9, .int .i64 5, .int .u32 0] 67)).alloc (.cells #[.string teamB, .string tB] 103)).alloc (.cells #[.string ⟨#[112, 114, 111, 109]⟩, .slice (some ⟨w1.heap.size + 1 + 1, 0, none⟩) 1 1, .int .i64 0, .int .u32 0, .int .i64 0, .int .i64 0] 53) = W2 at *
  have HL := Lib.hid hL
  have H2 := Lib.hid (HS1.out.later hLb)
  have HB2 := Lib.hid (HB1.out.trans (hLb.mono HB1.out.size))
  have hlp1 : lp < w1.heap.size := cell_lt HS1.out.h0
  have hm1 : m < w1.heap.size := HS1.out.own.lt
  obtain ⟨p0, p1, p2, p3, p4⟩ := hL.s
  have hf1 : MtsFit [mtL] := fun m hm => by rw [List.mem_singleton.1 hm]; exact ⟨by decide, by decide⟩
  have kl := lay_any lp m 0 [] 0 (silL (some ⟨w1.heap.size, 0, none⟩, 1, 1)) W2 H2.out hL.m hf1 (Nat.le_of_lt (Nat.lt_of_le_of_lt (Nat.le_refl 1) (by omega))) (by omega) (by omega) (by omega)
  rw [(layE_ok (right_silL _) (quo_nil _)).1] at kl
  unfold Sil.v silL at kl
  dsimp only at kl
  clear hL hLb
  go_wp2_with fail
  refine kl.mono ?_
  rintro e w3 ⟨rfl, S', last', n', hS, hLay, hn', hk, _⟩
  have hys := (layE_ok (S := []) (last := 0) (right_silL (some ⟨w1.heap.size, 0, none⟩, 1, 1)) (quo_nil _)).2
  cases hLay with
  | no h => rw [hys] at h; cases h
  | yes _ mv =>
  change SlAt w3 lp m n' [{ silL mv with id := 1 }] 1 at hS
  have HS3 := Lib.hid hS
  have HL3 := Lib.hid (HL.out.keep hk hlp1 hm1)
  have HB3 := Lib.hid (HB2.out.trans (hk.below hlp hm HB2.out.size))
  have hff : FldsFit flL := fun f hf => by rw [List.mem_singleton.1 hf]; exact ⟨by decide, by decide⟩
  have HFF := Lib.hid hff
  clear kl hys hk hf1 H2 HL HB2 HS1 HB1 p0 p1 p2 p3 p4 hS hff
  have kq := quiet_is (none, 0, 0) (none, 0, 0) (none, 0, 0) (none, 0, 0) (none, 0, 0) [] (.slice none 0 0) ⟨#[112, 114, 111, 109]⟩ flL (.slice (some ⟨w1.heap.size + 1 + 1, 0, none⟩) 1 1) 0 0 0 0 3 0 4 lp m n' _ 1 w3 [] (quietL_low mv) HS3.out (RdAt.nil _ _) (by decide) HL3.out.f (by decide) HFF.out
  unfold SV at kq
  dsimp only at kq
  obtain ⟨a0, a1, a2, a3, a4, a5⟩ := HL3.out.a
  go_wp2_with fail
  refine kq.mono ?_
  rintro e w4 ⟨v4, rfl, hI, hb⟩
  obtain ⟨xa, xc, rfl, _, _⟩ := RdAt.shape hI
  have HS4 := Lib.hid (HS3.out.later hb)
  have HL4 := Lib.hid (HL3.out.later hb)
  have HB4 := Lib.hid (HB3.out.trans (hb.mono HB3.out.size))
  clear kq hI hb a0 a1 a2 a3 a4 a5 HS3 HL3 HB3
  have kq := quiet_is (none, 0, 0) (none, 0, 0) (none, 0, 0) (none, 0, 0) (none, 0, 0) [] (.slice none 0 0) ⟨#[112, 114, 111, 109]⟩ flL (.slice (some ⟨w1.heap.size + 1 + 1, 0, none⟩) 1 1) 0 0 0 0 5 0 4 lp m n' _ 1 w4 [1] (quietL_high mv) HS4.out (RdAt.nil _ _) (by decide) HL4.out.f (by decide) HFF.out
  unfold SV at kq
  dsimp only at kq
  obtain ⟨a0, a1, a2, a3, a4, a5⟩ := HL4.out.a
  go_wp2_with fail
  refine kq.mono ?_
  rintro e w5 ⟨v5, rfl, hI, hb⟩
  obtain ⟨yb, yo, yc, rfl, _, hyl, hyc⟩ := hI.cells (by simp)
  have y0 := hyc 0 1 rfl
  rw [Nat.add_zero] at y0
  have HS5 := Lib.hid (HS4.out.later hb)
  have HB5 := Lib.hid (HB4.out.trans (hb.mono HB4.out.size))
  clear kq hI hb a0 a1 a2 a3 a4 a5 HS4 HL4 HB4 hyc hyl HFF
  have ke := end_any lp m n' _ 1 1 5 w5 HS5.out (by decide) (by omega)
  rw [(end_one mv).1, (end_one mv).2] at ke
  go_wp2_with fail
  refine ke.mono ?_
  rintro e w6 ⟨rfl, n6, hS6, hn6, hk6⟩
  have kf := forget_any lp m n6 _ 1 5 w6 hS6
  rw [forget_one] at kf
  have HB6 := Lib.hid (HB5.out.trans (hk6.below hlp hm HB5.out.size))
  clear ke hS6 hk6 HS5 HB5 y0
  go_wp2_with fail
  refine kf.mono ?_
  rintro e w7 ⟨rfl, hS7, hk7⟩
  have HB7 := Lib.hid (HB6.out.trans (hk7.below hlp hm HB6.out.size))
  clear kf hS7 hk7 HB6
  go_wp2
  go_ret
  exact ⟨rfl, HB7.out⟩
end Go.Proofs.YtcfococinllcmaaGreat

/- silences: lemmas of the laws on scripts. -/
namespace Go.Proofs.YtcfococinllcmaaGreat
open Go.RowKit

/-- a script's steps, by their cells -/
theorem ops_cells {w : World} {v : Value} {l : List SOp} (h : OpsAt w v l) : ∃ a c, v = .slice a l.length c ∧ l.length ≤ c ∧ (0 < l.length → ∃ b o, a = some ⟨b, o, none⟩ ∧ b < w.heap.size ∧ ∀ k (hk : k < l.length) r z, (opC l[k])[r]? = some z → w.cell? ⟨b, o + k * 9 + r, none⟩ = some z) := by
  obtain ⟨a, c, rfl, hc, hr⟩ := RdAt.shape h.row
  refine ⟨a, c, rfl, hc, fun hn => ?_⟩
  obtain ⟨b, o, rfl, hb, hcell⟩ := hr hn
  exact ⟨b, o, rfl, hb, fun k hk r z hz => by rw [Nat.add_assoc]; exact hcell _ _ (opCells_at l k hk r z hz)⟩
theorem ids_at {S : List Sil} {j : Nat} (hj : j < S.length) : (S.map (·.id))[j]? = some (S[j]).id := by
  rw [List.getElem?_map, List.getElem?_eq_getElem hj]; rfl
theorem get_at {S : List Sil} (hu : UpS S) {j : Nat} (hj : j < S.length) : (S.find? fun s => s.id == S[j].id) = some S[j] := find_self hu (List.getElem_mem hj)
theorem getS_at {S : List Sil} (hu : UpS S) {j : Nat} (hj : j < S.length) : getS S S[j].id = S[j] := by unfold getS; rw [get_at hu hj]; rfl
theorem up_at {S : List Sil} (hu : UpS S) {j : Nat} (hj : j + 1 < S.length) : S[j].id < S[j + 1].id := List.pairwise_iff_getElem.1 hu j (j + 1) (by omega) hj (by omega)
theorem quo_take {S : List Sil} {s : Sil} {j : Nat} (hj : j < S.length) : quoS (S.take (j + 1)) s = quoS (S.take j) s + (if sameL S[j] s = true then 1 else 0) := by
  rw [List.take_add_one, List.getElem?_eq_getElem hj]
  exact quo_snoc _ _ _
theorem quo_le (S : List Sil) (s : Sil) : quoS S s ≤ S.length := List.countP_le_length
theorem ids_cells {w : World} {v : Value} {S : List Sil} (h : IntsAt w v (S.map (·.id))) : ∃ a c, v = .slice a S.length c ∧ S.length ≤ c ∧ (0 < S.length → ∃ b o, a = some ⟨b, o, none⟩ ∧ b < w.heap.size ∧ ∀ j (hj : j < S.length), w.cell? ⟨b, o + j, none⟩ = some (.int .i64 S[j].id)) := by
  obtain ⟨a, c, e, hc, hr⟩ := RdAt.shape h
  rw [List.length_map] at e hc hr
  refine ⟨a, c, e, hc, fun h0 => ?_⟩
  obtain ⟨b, o, e1, hb, hcell⟩ := hr h0
  exact ⟨b, o, e1, hb, fun j hj => hcell j _ (by rw [List.getElem?_map, ids_at hj]; rfl)⟩
theorem get_is (lp m n : Nat) (S : List Sil) (last : Int) (w : World) (h : SlAt w lp m n S last) (j : Nat) (hj : j < S.length) :
    Calls Tryz.prog 38 #[.pointer (some ⟨lp, 0, none⟩), .int .i64 S[j].id] w fun e w' =>
      ∃ mv : Option Addr × Nat × Nat, e = .returned (.tuple #[.agg #[.slice mv.1 mv.2.1 mv.2.2, .int .i64 S[j].fr, .int .i64 S[j].til, .int .i64 S[j].lv, .int .u32 S[j].c], .bool true]) ∧ Below w.heap.size w w' := by
  have k := get_any lp m n S last S[j].id w h (h.wf (List.getElem_mem hj))
  rw [getS_at h.up hj, get_at h.up hj] at k
  refine k.mono ?_
  rintro e w' ⟨mv, rfl, _, hb⟩
  exact ⟨mv, rfl, hb⟩
end Go.Proofs.YtcfococinllcmaaGreat

/- the law's alert: good: where its fields lie. -/
namespace Go.Proofs.YtcfococinllcmaaGreat
open Go.RowKit

set_option maxHeartbeats 3200000 in
set_option maxRecDepth 100000 in
theorem good_own (src : ByteArray) (fl : List Fld) (fv : Value) (lv : Int) (c : Nat) (fr til : Int) (w : World) (hs : src.size ≤ maxLen) (hv : FldsAt w fv fl) (hfit : FldsFit fl) (hl : fl.length ≤ maxLen) :
    Calls Tryz.prog 22 #[.agg #[.string src, fv, .int .i64 lv, .int .u32 c, .int .i64 fr, .int .i64 til]] w fun e w' =>
      ∃ v', e = .returned (.tuple #[.agg #[.string (gSrc src), v', .int .i64 (gLv lv), .int .u32 c, .int .i64 (gFr fr), .int .i64 (gTil fr til)], .agg #[.string (gSrc src), v', .int .i64 (gLv lv), .int .u32 c, .int .i64 (gFr fr), .int .i64 (gTil fr til)]]) ∧ FldsAt w' v' (goodF fl) ∧ FldsFit (goodF fl) ∧ rightF (goodF fl) = true ∧ (0 < (goodF fl).length → ∀ q, v'.ownBlock = some q → w.heap.size ≤ q) ∧ Below w.heap.size w w' := by
  have k9 := fun W (hW : Below w.heap.size w W) => rgood9_any src fl fv lv c fr til W hs (hv.later hW) hfit hl
  obtain ⟨fa, fc, rfl, _, _⟩ := RdAt.shape hv
  obtain ⟨W1, h1⟩ : ∃ z, w.alloc (.cells #[.string src, .slice fa fl.length fc, .int .i64 lv, .int .u32 c, .int .i64 fr, .int .i64 til] 50) = z := ⟨_, rfl⟩
  obtain ⟨W2, h2⟩ : ∃ z, W1.alloc (.cells #[.string ⟨#[]⟩, .slice none 0 0, .int .i64 0, .int .u32 0, .int .i64 0, .int .i64 0] 53) = z := ⟨_, rfl⟩
  obtain ⟨W3, h3⟩ : ∃ z, W2.alloc (.cells #[.string ⟨#[]⟩, .slice none 0 0, .int .i64 0, .int .u32 0, .int .i64 0, .int .i64 0] 50) = z := ⟨_, rfl⟩
  have s1 : W1.heap.size = w.heap.size + 1 := by rw [← h1, World.size_alloc]
  have s2 : W2.heap.size = w.heap.size + 1 + 1 := by rw [← h2, World.size_alloc, s1]
  have s3 : W3.heap.size = w.heap.size + 1 + 1 + 1 := by rw [← h3, World.size_alloc, s2]
  have b1 : Below w.heap.size w W1 := by rw [← h1]; exact alloc_below _ _
  have b2 : Below W1.heap.size W1 W2 := by rw [← h2]; exact alloc_below _ _
  have b3 : Below W2.heap.size W2 W3 := by rw [← h3]; exact alloc_below _ _
  have x1 := alc6 w (.string src) (.slice fa fl.length fc) (.int .i64 lv) (.int .u32 c) (.int .i64 fr) (.int .i64 til) 50
  have x2 := alc6 W1 (.string ⟨#[]⟩) (.slice none 0 0) (.int .i64 0) (.int .u32 0) (.int .i64 0) (.int .i64 0) 53
  have x3 := alc6 W2 (.string ⟨#[]⟩) (.slice none 0 0) (.int .i64 0) (.int .u32 0) (.int .i64 0) (.int .i64 0) 50
  have t2 := box_there (Below.refl _ (W1.alloc (.cells #[.string ⟨#[]⟩, .slice none 0 0, .int .i64 0, .int .u32 0, .int .i64 0, .int .i64 0] 53)))
  have t3 := box_there (Below.refl _ (W2.alloc (.cells #[.string ⟨#[]⟩, .slice none 0 0, .int .i64 0, .int .u32 0, .int .i64 0, .int .i64 0] 50)))
  rw [h1] at x1
  rw [h2] at x2 t2
  rw [h3] at x3 t3
  change W2.there W1.heap.size 0 6 at t2
  change W3.there W2.heap.size 0 6 at t3
  rw [s1] at x2 t2
  rw [s2] at x3 t3
  have x1 := (x1.later b2 (by omega)).later b3 (by omega)
  have x2 := x2.later b3 (by omega)
  have t2 := there_later t2 b3 (by omega)
  have hB3 : Below w.heap.size w W3 := (b1.trans (b2.mono (by omega))).trans (b3.mono (by omega))
  have k9 := k9 W3 hB3
  have HB3 := Lib.hid hB3
  have HX2 := Lib.hid x2
  have HX3 := Lib.hid x3
  have HT2 := Lib.hid t2
  have HT3 := Lib.hid t3
  generalize goodF fl = G at *
  generalize gSrc src = s' at *
  generalize gLv lv = l' at *
  generalize gFr fr = f' at *
  generalize gTil fr til = t' at *
  obtain ⟨y0, y1, y2, y3, y4, y5⟩ := x1
  clear x2 x3 t2 t3 b1 b2 b3 hB3 hv hfit hl hs
  go_enter Tryz.func22, Tryz.ntmps22
  go_upto_region 1 with fail
  try rw [h1]
  try rw [h2]
  try rw [h3]
  try rw [s1]
  try rw [s2]
  clear h1 h2 h3
  go_wp2_with fail
  refine k9.mono ?_
  rintro e w4 ⟨v', rfl, hF, hff, hrf, hfar, hb4⟩
  rw [s3] at hfar
  obtain ⟨va, vc, rfl, _, _⟩ := RdAt.shape hF
  have HF := Lib.hid hF
  have HFAR := Lib.hid hfar
  have HFF := Lib.hid hff
  have HRF := Lib.hid hrf
  have HB4 := Lib.hid (HB3.out.trans (hb4.mono HB3.out.size))
  have HX4 := Lib.hid (HX2.out.later hb4 (by omega))
  have HX5 := Lib.hid (HX3.out.later hb4 (by omega))
  have HT4 := Lib.hid (there_later HT2.out hb4 (by omega))
  have HT5 := Lib.hid (there_later HT3.out hb4 (by omega))
  have hs4 : w.heap.size + 1 + 1 + 1 ≤ w4.heap.size := by have := hb4.size; omega
  clear k9 hF hff hrf hfar hb4 HB3 HX2 HX3 HT2 HT3 y0 y1 y2 y3 y4 y5
  have hba := alloc_below w4 (.cells #[.string s', .slice va G.length vc, .int .i64 l', .int .u32 c, .int .i64 f', .int .i64 t'] 50)
  have x6 := alc6 w4 (.string s') (.slice va G.length vc) (.int .i64 l') (.int .u32 c) (.int .i64 f') (.int .i64 t') 50
  obtain ⟨W5, h5⟩ : ∃ z, w4.alloc (.cells #[.string s', .slice va G.length vc, .int .i64 l', .int .u32 c, .int .i64 f', .int .i64 t'] 50) = z := ⟨_, rfl⟩
  rw [h5] at hba x6
  have HX6 := Lib.hid x6
  have HF5 := Lib.hid (HF.out.later hba)
  have HB5 := Lib.hid (HB4.out.trans (hba.mono HB4.out.size))
  have x4 := HX4.out.later hba (by omega)
  have x5 := HX5.out.later hba (by omega)
  have t4 := there_later HT4.out hba (by omega)
  have t5 := there_later HT5.out hba (by omega)
  have HX4 := Lib.hid x4
  have HX5 := Lib.hid x5
  have HT4 := Lib.hid t4
  have HT5 := Lib.hid t5
  clear hba x6 x4 x5 t4 t5 HF HB4
  go_upto_region 2 with fail
  try rw [h5]
  clear h5
  obtain ⟨z0, z1, z2, z3, z4, z5⟩ := HX6.out
  obtain ⟨p0, p1, p2, p3, p4, p5⟩ := HX4.out
  obtain ⟨q0, q1, q2, q3, q4, q5⟩ := HX5.out
  have f0 := there_free HT4.out 0 (by omega)
  have f1 := there_free HT4.out 1 (by omega)
  have f2 := there_free HT4.out 2 (by omega)
  have f3 := there_free HT4.out 3 (by omega)
  have f4 := there_free HT4.out 4 (by omega)
  have f5 := there_free HT4.out 5 (by omega)
  have e0 := there_free HT5.out 0 (by omega)
  have e1 := there_free HT5.out 1 (by omega)
  have e2 := there_free HT5.out 2 (by omega)
  have e3 := there_free HT5.out 3 (by omega)
  have e4 := there_free HT5.out 4 (by omega)
  have e5 := there_free HT5.out 5 (by omega)
  go_region
  clear z0 z1 z2 z3 z4 z5 p0 p1 p2 p3 p4 p5 q0 q1 q2 q3 q4 q5 f0 f1 f2 f3 f4 f5 e0 e1 e2 e3 e4 e5
  have hx : (W5.setCells (w.heap.size + 1) 0 [.string s', .slice va G.length vc, .int .i64 l', .int .u32 c, .int .i64 f', .int .i64 t']).rangeAt (w.heap.size + 1) 0 [.string s', .slice va G.length vc, .int .i64 l', .int .u32 c, .int .i64 f', .int .i64 t'] := World.rangeAt_setCells_same _ _ 0 _ HT4.out
  have hT := World.there_setCells HT5.out (w.heap.size + 1) 0 [.string s', .slice va G.length vc, .int .i64 l', .int .u32 c, .int .i64 f', .int .i64 t']
  have hy := World.rangeAt_setCells_same (W5.setCells (w.heap.size + 1) 0 [.string s', .slice va G.length vc, .int .i64 l', .int .u32 c, .int .i64 f', .int .i64 t']) (w.heap.size + 1 + 1) 0 [.string s', .slice va G.length vc, .int .i64 l', .int .u32 c, .int .i64 f', .int .i64 t'] hT
  have hx2 : ((W5.setCells (w.heap.size + 1) 0 [.string s', .slice va G.length vc, .int .i64 l', .int .u32 c, .int .i64 f', .int .i64 t']).setCells (w.heap.size + 1 + 1) 0 [.string s', .slice va G.length vc, .int .i64 l', .int .u32 c, .int .i64 f', .int .i64 t']).rangeAt (w.heap.size + 1) 0 [.string s', .slice va G.length vc, .int .i64 l', .int .u32 c, .int .i64 f', .int .i64 t'] := fun j v hv => by
    rw [World.cell?_setCells_out _ _ _ _ _ (fun h _ => by simp at h)]
    exact hx j v hv
  have hba := below_puts (g := w.heap.size + 1) (o := 0) HB5.out (by omega) [.string s', .slice va G.length vc, .int .i64 l', .int .u32 c, .int .i64 f', .int .i64 t']
  have hbb := below_puts (g := w.heap.size + 1 + 1) (o := 0) hba (by omega) [.string s', .slice va G.length vc, .int .i64 l', .int .u32 c, .int .i64 f', .int .i64 t']
  have hsz : W5.heap.size ≤ ((W5.setCells (w.heap.size + 1) 0 [.string s', .slice va G.length vc, .int .i64 l', .int .u32 c, .int .i64 f', .int .i64 t']).setCells (w.heap.size + 1 + 1) 0 [.string s', .slice va G.length vc, .int .i64 l', .int .u32 c, .int .i64 f', .int .i64 t']).heap.size := ((Below.refl 0 W5).trans (below_puts_base (below_puts_base (Below.refl 0 W5) (Nat.zero_le _) [.string s', .slice va G.length vc, .int .i64 l', .int .u32 c, .int .i64 f', .int .i64 t']) (Nat.zero_le _) [.string s', .slice va G.length vc, .int .i64 l', .int .u32 c, .int .i64 f', .int .i64 t'])).size
  have HX := Lib.hid hx2
  have HY := Lib.hid hy
  have hF8 := rd_puts' (g := w.heap.size + 1) (o := 0) HF5.out (fun h0 q hq => by have := HFAR.out h0 q hq; omega) [.string s', .slice va G.length vc, .int .i64 l', .int .u32 c, .int .i64 f', .int .i64 t']
  have hF9 := rd_puts' (g := w.heap.size + 1 + 1) (o := 0) hF8 (fun h0 q hq => by have := HFAR.out h0 q hq; omega) [.string s', .slice va G.length vc, .int .i64 l', .int .u32 c, .int .i64 f', .int .i64 t']
  have HF9 : Hid (FldsAt _ _ G) := Lib.hid hF9
  have HBB := Lib.hid hbb
  clear hx hT hy hx2 hba hbb hF8 hF9
  change Exit.then _ _ _ _ (World.drew ((W5.setCells (w.heap.size + 1) 0 [.string s', .slice va G.length vc, .int .i64 l', .int .u32 c, .int .i64 f', .int .i64 t']).setCells (w.heap.size + 1 + 1) 0 [.string s', .slice va G.length vc, .int .i64 l', .int .u32 c, .int .i64 f', .int .i64 t']))
  generalize (W5.setCells (w.heap.size + 1) 0 [.string s', .slice va G.length vc, .int .i64 l', .int .u32 c, .int .i64 f', .int .i64 t']).setCells (w.heap.size + 1 + 1) 0 [.string s', .slice va G.length vc, .int .i64 l', .int .u32 c, .int .i64 f', .int .i64 t'] = WX at *
  have HX2 : Hid (WX.drew.rangeAt (w.heap.size + 1) 0 [.string s', .slice va G.length vc, .int .i64 l', .int .u32 c, .int .i64 f', .int .i64 t']) := HX
  have HY2 : Hid (WX.drew.rangeAt (w.heap.size + 1 + 1) 0 [.string s', .slice va G.length vc, .int .i64 l', .int .u32 c, .int .i64 f', .int .i64 t']) := HY
  have HBD := Lib.hid HBB.out.drew
  have HFD : Hid (FldsAt WX.drew (.slice va G.length vc) G) := HF9
  clear HX HY HBB HF9
  generalize WX.drew = WD at *
  go_wp2
  refine bodyPost_ret (results_agg22 rfl _ _ (w.heap.size + 1) (w.heap.size + 1 + 1) [.string s', .slice va G.length vc, .int .i64 l', .int .u32 c, .int .i64 f', .int .i64 t'] [.string s', .slice va G.length vc, .int .i64 l', .int .u32 c, .int .i64 f', .int .i64 t'] (.struct _) (.struct _) rfl HX2.out Tryz.underlying53 rfl (by kernel_rfl) rfl HY2.out Tryz.underlying50 rfl (by kernel_rfl)) rfl ?_
  exact ⟨_, rfl, HFD.out, HFF.out, HRF.out, fun h0 q hq => by have := HFAR.out h0 q hq; omega, HBD.out⟩
end Go.Proofs.YtcfococinllcmaaGreat

/- silences: two lists in memory. -/
namespace Go.Proofs.YtcfococinllcmaaGreat
open Go.RowKit

def tenO (k : Int) : Nat := ((k % 18446744073709551616) % 10).toNat
theorem tenO_lt (k : Int) : tenO k < 10 := by
  unfold tenO
  have := Int.emod_lt_of_pos (k % 18446744073709551616) (by decide : (0 : Int) < 10)
  have := Int.emod_nonneg (k % 18446744073709551616) (by decide : (10 : Int) ≠ 0)
  omega
theorem tenO_eq (k : Int) : wrap64 ((IntKind.u64.wrap k).tmod 10) = (tenO k : Int) := by
  have h1 : 0 ≤ k % 18446744073709551616 := Int.emod_nonneg _ (by omega)
  rw [IntKind.wrap_u64, Int.tmod_eq_emod_of_nonneg h1]
  have h2 := Int.emod_nonneg (k % 18446744073709551616) (by decide : (10 : Int) ≠ 0)
  have h3 := Int.emod_lt_of_pos (k % 18446744073709551616) (by decide : (0 : Int) < 10)
  rw [IntWalk.wrap64_in _ ⟨by omega, by omega⟩]
  unfold tenO
  omega
theorem tenO_sum (N k : Int) (h0 : 0 ≤ N) (h1 : N ≤ 1000000) : wrap64 (N + wrap64 ((IntKind.u64.wrap k).tmod 10)) = N + (tenO k : Int) := by
  rw [tenO_eq]
  have := tenO_lt k
  exact IntWalk.wrap64_in _ ⟨by omega, by omega⟩
theorem c9_kp {w w' : World} {lp m p : Nat} {a b c d e f g h i : Value} (x : C9 p a b c d e f g h i w) (hk : Kp lp m w w') (h1 : p ≠ lp) (h2 : p ≠ m) : C9 p a b c d e f g h i w' := by
  obtain ⟨x0, x1, x2, x3, x4, x5, x6, x7, x8⟩ := x
  exact ⟨hk.cell x0 h1 h2, hk.cell x1 h1 h2, hk.cell x2 h1 h2, hk.cell x3 h1 h2, hk.cell x4 h1 h2, hk.cell x5 h1 h2, hk.cell x6 h1 h2, hk.cell x7 h1 h2, hk.cell x8 h1 h2⟩
/-- the law's state -/
structure LoSt (w wr : World) (bx : Nat) (y0 y1 y2 y3 y4 y5 : Value) (t : Int × Nat) (fv : Value) (G : List Fld) (lp1 m1 lp2 m2 n1 n2 : Nat) (S T : List Sil) (l1 l2 : Int) : Prop where
  a : SlAt wr lp1 m1 n1 S l1
  b : SlAt wr lp2 m2 n2 T l2
  sa : ∀ s ∈ S, ∀ q, (SV s.mv).ownBlock = some q → q ≠ lp2 ∧ q ≠ m2
  sb : ∀ s ∈ T, ∀ q, (SV s.mv).ownBlock = some q → q ≠ lp1 ∧ q ≠ m1
  y : C6 bx y0 y1 y2 y3 y4 y5 wr
  t0 : wr.cell? ⟨w.heap.size + 1, 0, none⟩ = some (.int .i64 t.1)
  t1 : wr.cell? ⟨w.heap.size + 1, 1, none⟩ = some (.int .u32 t.2)
  f : FldsAt wr fv G
  ff : 0 < G.length → ∀ q, fv.ownBlock = some q → q ≠ lp1 ∧ q ≠ m1 ∧ q ≠ lp2 ∧ q ≠ m2
  ne : lp1 ≠ lp2 ∧ lp1 ≠ m2 ∧ m1 ≠ lp2 ∧ m1 ≠ m2
  lo : w.heap.size + 1 < lp1 ∧ w.heap.size + 1 < m1 ∧ w.heap.size + 1 < lp2 ∧ w.heap.size + 1 < m2
  hi : lp1 < bx ∧ m1 < bx ∧ lp2 < bx ∧ m2 < bx
  bl : Below w.heap.size w wr
section
variable {w wr W : World} {bx : Nat} {y0 y1 y2 y3 y4 y5 : Value} {t : Int × Nat} {fv : Value} {G : List Fld} {lp1 m1 lp2 m2 n1 n2 : Nat} {S T : List Sil} {l1 l2 : Int}
theorem LoSt.lt (h : LoSt w wr bx y0 y1 y2 y3 y4 y5 t fv G lp1 m1 lp2 m2 n1 n2 S T l1 l2) : bx < wr.heap.size := cell_lt h.y.1
theorem LoSt.below (h : LoSt w wr bx y0 y1 y2 y3 y4 y5 t fv G lp1 m1 lp2 m2 n1 n2 S T l1 l2) (hb : Below wr.heap.size wr W) : LoSt w W bx y0 y1 y2 y3 y4 y5 t fv G lp1 m1 lp2 m2 n1 n2 S T l1 l2 :=
  ⟨h.a.later hb, h.b.later hb, h.sa, h.sb, h.y.later hb h.lt, keep_cell h.t0 hb (cell_lt h.t0), keep_cell h.t1 hb (cell_lt h.t1), h.f.later hb, h.ff, h.ne, h.lo, h.hi, h.bl.trans (hb.mono h.bl.size)⟩
theorem LoSt.lay1 (h : LoSt w wr bx y0 y1 y2 y3 y4 y5 t fv G lp1 m1 lp2 m2 n1 n2 S T l1 l2) {n1' : Nat} {S' : List Sil} {l1' : Int} (hS : SlAt W lp1 m1 n1' S' l1') (hk : Kp lp1 m1 wr W)
    (hown : ∀ s' ∈ S', s' ∈ S ∨ ∀ q, (SV s'.mv).ownBlock = some q → wr.heap.size ≤ q) : LoSt w W bx y0 y1 y2 y3 y4 y5 t fv G lp1 m1 lp2 m2 n1' n2 S' T l1' l2 := by
  obtain ⟨e1, e2, e3, e4⟩ := h.ne
  obtain ⟨o1, o2, o3, o4⟩ := h.lo
  obtain ⟨i1, i2, i3, i4⟩ := h.hi
  have hlt := h.lt
  refine ⟨hS, h.b.other hk (by omega) (by omega) (by omega) (by omega) h.sb, fun s hs q hq => ?_, h.sb, c6_kp h.y hk (by omega) (by omega), hk.cell h.t0 (by omega) (by omega), hk.cell h.t1 (by omega) (by omega), rd_kp h.f hk (fun h0 q hq => ⟨(h.ff h0 q hq).1, (h.ff h0 q hq).2.1⟩), h.ff, h.ne, h.lo, h.hi,
    h.bl.trans (hk.below (by omega) (by omega) h.bl.size)⟩
  rcases hown s hs with h1 | h1
  · exact h.sa s h1 q hq
  · have := h1 q hq; omega
theorem LoSt.lay2 (h : LoSt w wr bx y0 y1 y2 y3 y4 y5 t fv G lp1 m1 lp2 m2 n1 n2 S T l1 l2) {n2' : Nat} {T' : List Sil} {l2' : Int} (hS : SlAt W lp2 m2 n2' T' l2') (hk : Kp lp2 m2 wr W)
    (hown : ∀ s' ∈ T', s' ∈ T ∨ ∀ q, (SV s'.mv).ownBlock = some q → wr.heap.size ≤ q) : LoSt w W bx y0 y1 y2 y3 y4 y5 t fv G lp1 m1 lp2 m2 n1 n2' S T' l1 l2' := by
  obtain ⟨e1, e2, e3, e4⟩ := h.ne
  obtain ⟨o1, o2, o3, o4⟩ := h.lo
  obtain ⟨i1, i2, i3, i4⟩ := h.hi
  have hlt := h.lt
  refine ⟨h.a.other hk (by omega) (by omega) (by omega) (by omega) h.sa, hS, h.sa, fun s hs q hq => ?_, c6_kp h.y hk (by omega) (by omega), hk.cell h.t0 (by omega) (by omega), hk.cell h.t1 (by omega) (by omega), rd_kp h.f hk (fun h0 q hq => ⟨(h.ff h0 q hq).2.2.1, (h.ff h0 q hq).2.2.2⟩), h.ff, h.ne, h.lo, h.hi,
    h.bl.trans (hk.below (by omega) (by omega) h.bl.size)⟩
  rcases hown s hs with h1 | h1
  · exact h.sb s h1 q hq
  · have := h1 q hq; omega
end
/-- a label of an argument -/
def ArgLab (v : Value) (x : Int × Nat) : Prop := v = Lab x.1 x.2 ∧ x.2 < 4294967296
set_option maxRecDepth 100000 in
open Go.WideShapes Go.ChangeShapes Go.Deep in
theorem lab_of_arg {H : Type} {enc : TypeId × Value → H} {W : World} {base : Nat} {v : Value} {d : DataW H} {p : List MemPlace} (hval : Value.okWide Tryz.prog W .any base 26 v) (h : DataW.Trod enc Tryz.prog W 0 (fun _ => true) true 26 v d p) : ∃ x, ArgLab v x := by
  obtain ⟨cs, rfl, hsz, _⟩ : ∃ cs, v = .agg cs ∧ cs.size = Tryz.prog.cellsOf 26 ∧ Row.okWide Tryz.prog W .any base 26 cs := by
    simpa [Value.okWide, Tryz.underlying26] using hval
  rw [show Tryz.prog.cellsOf 26 = 2 by kernel_rfl] at hsz
  obtain ⟨fuel, hf⟩ := h
  obtain ⟨l⟩ := cs
  match l, hsz with
  | [c0, c1], _ =>
    obtain ⟨l, c, rfl, rfl, hc⟩ := lab_of_trod hf
    exact ⟨(l, c), rfl, hc⟩
end Go.Proofs.YtcfococinllcmaaGreat

/- SilenceLow: the walk. -/
namespace Go.Proofs.YtcfococinllcmaaGreat
open Go.RowKit

namespace lawLow
set_option maxHeartbeats 6400000 in
set_option maxRecDepth 100000 in
theorem walk (lv : Value) (l : List SOp) (av : Value) (x : Al) (fv : Value) (tv : Value) (t : Int × Nat) (w : World) (hl : ArgOps w lv l) (hx : ArgAl w av x fv) (ht : ArgLab tv t) :
    Calls Tryz.prog 4 #[lv, av, tv] w fun e w' => e = .returned (.bool true) ∧ Below w.heap.size w w' := by
  obtain ⟨hl1, hl2, hlc⟩ := hl
  obtain ⟨rfl, hfl, hfit⟩ := hx
  obtain ⟨rfl, htc⟩ := ht
  obtain ⟨tl, tc⟩ := t
  obtain ⟨src, fl, alv, ac, afr, atil⟩ := x
  dsimp only at hfl hfit htc ⊢
  obtain ⟨hf0, hf1, hf2, hf3⟩ := hfit
  dsimp only at hf0 hf1 hf2 hf3
  have KG := Lib.hid (fun W (hW : Below w.heap.size w W) => good_own src fl fv alv ac afr atil W hf0 (hfl.later hW) hf1 hf2)
  have KE := Lib.hid (fun W => early_any l lv w W hl1 hl2)
  have HLC : Hid (∀ o ∈ l.take 60, o.s.c < 4294967296) := Lib.hid (fun o ho => hlc o (List.mem_of_mem_take ho))
  obtain ⟨a0, c0, rfl, -, -⟩ := RdAt.shape hl1.row
  obtain ⟨fa, fc, rfl, -, -⟩ := RdAt.shape hfl
  clear hl1 hl2 hlc hfl hf0 hf1 hf2 hf3
  obtain ⟨W1, h1⟩ : ∃ z, w.alloc (.cells #[.string src, .slice fa fl.length fc, .int .i64 alv, .int .u32 ac, .int .i64 afr, .int .i64 atil] 50) = z := ⟨_, rfl⟩
  obtain ⟨W2, h2⟩ : ∃ z, W1.alloc (.cells #[.int .i64 tl, .int .u32 tc] 26) = z := ⟨_, rfl⟩
  have b1 : Below w.heap.size w W1 := by rw [← h1]; exact alloc_below _ _
  have b2 : Below W1.heap.size W1 W2 := by rw [← h2]; exact alloc_below _ _
  have s1 : W1.heap.size = w.heap.size + 1 := by rw [← h1, World.size_alloc]
  have s2 : W2.heap.size = w.heap.size + 1 + 1 := by rw [← h2, World.size_alloc, s1]
  have y := alc6 w (.string src) (.slice fa fl.length fc) (.int .i64 alv) (.int .u32 ac) (.int .i64 afr) (.int .i64 atil) 50
  have hr2 := Below.refl (W1.alloc (.cells #[.int .i64 tl, .int .u32 tc] 26)).heap.size (W1.alloc (.cells #[.int .i64 tl, .int .u32 tc] 26))
  have t0 := box_later hr2 (i := 0) rfl
  have t1 := box_later hr2 (i := 1) rfl
  rw [h1] at y
  rw [h2, s1] at t0 t1
  have HY := Lib.hid (y.later b2 (by omega))
  have HT := Lib.hid (And.intro t0 t1)
  have HB := Lib.hid (b1.trans (b2.mono b1.size))
  clear y b1 b2 t0 t1 hr2
  have kl := lives_any W2
  unfold Lab
  go_enter Tryz.func4, Tryz.ntmps4
  go_upto_region 1 with fail
  try rw [h1]
  try rw [h2]
  try rw [s1]
  clear h1 h2
  go_wp2_with fail
  refine kl.mono ?_
  rintro e w1 ⟨rfl, hb⟩
  have HY1 := Lib.hid (HY.out.later hb (by omega))
  have HT1 := Lib.hid (And.intro (keep_cell HT.out.1 hb (by omega)) (keep_cell HT.out.2 hb (by omega)))
  have HB1 := Lib.hid (HB.out.trans (hb.mono HB.out.size))
  have hs1 : w.heap.size + 1 < w1.heap.size := by have := hb.size; omega
  clear kl hb HY HB HT s1 s2
  have kn := new_any w1
  go_wp2_with fail
  refine kn.mono ?_
  rintro e w2 ⟨lp1, m1, rfl, hS, hlp1, hm1, hb⟩
  have HS2 := Lib.hid hS
  have HY2 := Lib.hid (HY1.out.later hb (by omega))
  have HT2 := Lib.hid (And.intro (keep_cell HT1.out.1 hb hs1) (keep_cell HT1.out.2 hb hs1))
  have HB2 := Lib.hid (HB1.out.trans (hb.mono HB1.out.size))
  have hlp1h : lp1 < w2.heap.size := cell_lt hS.h0
  have hm1h : m1 < w2.heap.size := hS.own.lt
  have hs2 : w.heap.size + 1 < w2.heap.size := by have := hb.size; omega
  clear kn hS hb HB1 HY1 HT1
  have kn := new_any w2
  go_wp2_with fail
  refine kn.mono ?_
  rintro e w3 ⟨lp2, m2, rfl, hS, hlp2, hm2, hb⟩
  have HSA := Lib.hid (HS2.out.later hb)
  have HSB := Lib.hid hS
  have HY3 := Lib.hid (HY2.out.later hb (by omega))
  have HT3 := Lib.hid (And.intro (keep_cell HT2.out.1 hb hs2) (keep_cell HT2.out.2 hb hs2))
  have HB3 := Lib.hid (HB2.out.trans (hb.mono HB2.out.size))
  have hlp2h : lp2 < w3.heap.size := cell_lt hS.h0
  have hm2h : m2 < w3.heap.size := hS.own.lt
  have hs3 : w2.heap.size ≤ w3.heap.size := hb.size
  clear kn hS hb HB2 HY2 HT2 HS2
  have kg := KG.out w3 HB3.out
  obtain ⟨y0, y1, y2, y3, y4, y5⟩ := HY3.out
  go_wp2_with fail
  refine kg.mono ?_
  rintro e w4 ⟨v', rfl, hF, hFF, hRF, hfar, hb⟩
  have HSA4 := Lib.hid (HSA.out.later hb)
  have HSB4 := Lib.hid (HSB.out.later hb)
  have HT4 := Lib.hid (And.intro (keep_cell HT3.out.1 hb (by omega)) (keep_cell HT3.out.2 hb (by omega)))
  have HB4 := Lib.hid (HB3.out.trans (hb.mono HB3.out.size))
  have hln : (goodF fl).length ≤ 8 := rightF_len hRF
  have HF4 := Lib.hid hF
  have HFF := Lib.hid hFF
  have HFAR : Hid (0 < (goodF fl).length → ∀ q, v'.ownBlock = some q → q ≠ lp1 ∧ q ≠ m1 ∧ q ≠ lp2 ∧ q ≠ m2) := Lib.hid (fun h0 q hq => by have := hfar h0 q hq; omega)
  have hs4 := hb.size
  generalize goodF fl = G at *
  generalize gSrc src = s' at *
  generalize gLv alv = l' at *
  generalize gFr afr = f' at *
  generalize gTil afr atil = t' at *
  obtain ⟨ga, gc, rfl, -, -⟩ := RdAt.shape hF
  clear kg hb HSA HSB HY3 HT3 HB3 KG y0 y1 y2 y3 y4 y5 hF hFF hRF hfar
  obtain ⟨V1, h1⟩ : ∃ z, w4.alloc (.cells #[.string s', .slice ga G.length gc, .int .i64 l', .int .u32 ac, .int .i64 f', .int .i64 t'] 53) = z := ⟨_, rfl⟩
  obtain ⟨V2, h2⟩ : ∃ z, V1.alloc (.cells #[.string s', .slice ga G.length gc, .int .i64 l', .int .u32 ac, .int .i64 f', .int .i64 t'] 50) = z := ⟨_, rfl⟩
  have b1 : Below w4.heap.size w4 V1 := by rw [← h1]; exact alloc_below _ _
  have b2 : Below V1.heap.size V1 V2 := by rw [← h2]; exact alloc_below _ _
  have y := alc6 w4 (.string s') (.slice ga G.length gc) (.int .i64 l') (.int .u32 ac) (.int .i64 f') (.int .i64 t') 53
  rw [h1] at y
  have s1 : V1.heap.size = w4.heap.size + 1 := by rw [← h1, World.size_alloc]
  have b12 : Below w4.heap.size w4 V2 := b1.trans (b2.mono b1.size)
  have hlo : LoSt w V2 w4.heap.size (.string s') (.slice ga G.length gc) (.int .i64 l') (.int .u32 ac) (.int .i64 f') (.int .i64 t') (tl, tc) (.slice ga G.length gc) G lp1 m1 lp2 m2 0 0 [] [] 0 0 :=
    ⟨HSA4.out.later b12, HSB4.out.later b12, fun s h => (by cases h), fun s h => (by cases h), y.later b2 (by omega), keep_cell HT4.out.1 b12 (by omega), keep_cell HT4.out.2 b12 (by omega), HF4.out.later b12, HFAR.out,
      by omega, by omega, by omega, HB4.out.trans (b12.mono HB4.out.size)⟩
  have HLO := Lib.hid hlo
  clear y b1 b2 b12 hlo HSA4 HSB4 HT4 HB4 HF4 HFAR
  go_upto_region 5 with fail
  try rw [h1]
  try rw [h2]
  try rw [s1]
  clear h1 h2 s1
  generalize w4.heap.size = bx at *
  clear hs1 hs2 hs3 hs4 hlp1 hm1 hlp2 hm2 hlp1h hm1h hlp2h hm2h
  have ke := KE.out V2
  go_wp2_with fail
  refine ke.mono ?_
  rintro e w5 ⟨v, rfl, hO, hb⟩
  have HLO5 := Lib.hid (HLO.out.below hb)
  have hL60 : (l.take 60).length ≤ 60 := by rw [List.length_take]; omega
  have HO := Lib.hid hO
  clear ke hb HLO KE
  generalize l.take 60 = L at *
  obtain ⟨a, c, rfl, hcl, hcell⟩ := ops_cells hO
  have HCELL := Lib.hid hcell
  clear hO hcell
  go_wp2
  go_loopw [11, 12] (fun vn vi wr => ∃ (k : Nat) (N : Int) (n1 n2 : Nat) (S T : List Sil) (l1 l2 : Int), k ≤ L.length ∧ vi = .int .i64 k ∧ vn = .int .i64 N ∧ 0 ≤ N ∧ N ≤ 9 * k ∧ 0 ≤ l1 ∧ l1 ≤ k ∧ 0 ≤ l2 ∧ l2 ≤ k ∧ n1 ≤ k ∧ n2 ≤ k ∧ Hid (LowR (tl, tc) S T) ∧
    Hid (LoSt w wr bx (.string s') (.slice ga G.length gc) (.int .i64 l') (.int .u32 ac) (.int .i64 f') (.int .i64 t') (tl, tc) (.slice ga G.length gc) G lp1 m1 lp2 m2 n1 n2 S T l1 l2)) (fun _ vi _ => L.length - (intOf vi).toNat)
  case atStart => exact ⟨0, 0, 0, 0, [], [], 0, 0, Nat.zero_le _, rfl, rfl, by decide, by decide, by decide, by decide, by decide, by decide, Nat.le_refl _, Nat.le_refl _, Lib.hid (low_nil _), HLO5⟩
  case round =>
    obtain ⟨k, N, n1, n2, S, T, l1, l2, hk, rfl, rfl, hN0, hN1, hl10, hl1k, hl20, hl2k, hn1, hn2, HR, HL⟩ := hrel
    clear HLO5
    by_cases hkl : k < L.length
    case neg =>
      obtain rfl : k = L.length := by omega
      clear HCELL HO
      go_wp2
      go_ret
      exact ⟨rfl, HL.out.bl⟩
    obtain ⟨b, o, rfl, hbl, hcell⟩ := HCELL.out (by omega)
    have hcell := hcell k hkl
    have HBR := Lib.hid HL.out.bl
    have hop := HO.out.each L[k] (List.getElem_mem hkl)
    have hoc := HLC.out L[k] (List.getElem_mem hkl)
    have q0 := keep_cell (hcell 0 _ rfl) HBR.out hbl
    have q1 := keep_cell (hcell 1 _ rfl) HBR.out hbl
    have q2 := keep_cell (hcell 2 _ rfl) HBR.out hbl
    have q3 := keep_cell (hcell 3 _ rfl) HBR.out hbl
    have q4 := keep_cell (hcell 4 _ rfl) HBR.out hbl
    have q5 := keep_cell (hcell 5 _ rfl) HBR.out hbl
    have q6 := keep_cell (hcell 6 _ rfl) HBR.out hbl
    have q7 := keep_cell (hcell 7 _ rfl) HBR.out hbl
    have q8 := keep_cell (hcell 8 _ rfl) HBR.out hbl
    rw [Nat.add_zero] at q0
    clear hcell HCELL HO HLC
    generalize L[k] = op at *
    have HOP := Lib.hid hop
    have hk0 : (0 : Int) ≤ (k : Int) := by omega
    have hk1 : (k : Int) < (L.length : Int) := by omega
    have hba := alloc_below wr (.cells #[.int .i64 op.kd, .int .i64 op.id, .int .i64 op.now, .int .i64 op.sid, .slice op.s.mv.1 op.s.mv.2.1 op.s.mv.2.2, .int .i64 op.s.fr, .int .i64 op.s.til, .int .i64 op.s.lv, .int .u32 op.s.c] 60)
    have z := alc9 wr (.int .i64 op.kd) (.int .i64 op.id) (.int .i64 op.now) (.int .i64 op.sid) (.slice op.s.mv.1 op.s.mv.2.1 op.s.mv.2.2) (.int .i64 op.s.fr) (.int .i64 op.s.til) (.int .i64 op.s.lv) (.int .u32 op.s.c) 60
    have hltb := HL.out.lt
    clear hbl hop HBR
    go_upto_region 11 with fail
    change Code.wp _ _ _ _ (wr.alloc (.cells #[.int .i64 op.kd, .int .i64 op.id, .int .i64 op.now, .int .i64 op.sid, .slice op.s.mv.1 op.s.mv.2.1 op.s.mv.2.2, .int .i64 op.s.fr, .int .i64 op.s.til, .int .i64 op.s.lv, .int .u32 op.s.c] 60))
    generalize wr.alloc (.cells #[.int .i64 op.kd, .int .i64 op.id, .int .i64 op.now, .int .i64 op.sid, .slice op.s.mv.1 op.s.mv.2.1 op.s.mv.2.2, .int .i64 op.s.fr, .int .i64 op.s.til, .int .i64 op.s.lv, .int .u32 op.s.c] 60) = V at *
    have HLV := Lib.hid (HL.out.below hba)
    have HZ := Lib.hid z
    generalize wr.heap.size = ox at *
    clear hba z HL q0 q1 q2 q3 q4 q5 q6 q7 q8
    obtain ⟨z0, z1, z2, z3, z4, z5, z6, z7, z8⟩ := HZ.out
    have HTS := Lib.hid (tenO_sum N op.now hN0 (by omega))
    have htl := tenO_lt op.now
    go_cut [11] from 25 to 74 (fun s11 wx => s11 = .int .i64 (N + (tenO op.now : Int)) ∧ wx = V)
    case first =>
      go_wp2
      go_meet
      refine ⟨?_, rfl⟩
      rw [← HTS.out]
    case rest =>
    obtain ⟨rfl, rfl⟩ := hcut
    obtain ⟨N', hN'⟩ : ∃ N' : Int, N + (tenO op.now : Int) = N' := ⟨_, rfl⟩
    have hN'0 : 0 ≤ N' ∧ N' ≤ 9 * ((k : Int) + 1) := by omega
    rw [hN']
    clear hN' HTS htl
    have kk := kind_any op wc
    have ks := short_any op wc (RdAt.later HOP.out.ms HLV.out.bl) HOP.out.len
    unfold SOp.v at kk ks
    obtain ⟨K, hK⟩ : ∃ K, kindO op.kd = K := ⟨_, rfl⟩
    rw [hK] at kk
    clear hK
    have hbxz := HLV.out.hi
    go_wp2_with fail
    refine kk.mono ?_
    rintro e V1 ⟨rfl, hb⟩
    have HLA := Lib.hid (HLV.out.below hb)
    have HZA := Lib.hid (HZ.out.later hb)
    clear kk ks hb HLV HZ z0 z1 z2 z3 z4 z5 z6 z7 z8
    go_upto_if 44 with fail
    go_cut [] from 25 to 74 (fun wx => ∃ (n1' n2' : Nat) (S' T' : List Sil) (l1' l2' : Int), n1' ≤ k + 1 ∧ n2' ≤ k + 1 ∧ 0 ≤ l1' ∧ l1' ≤ (k : Int) + 1 ∧ 0 ≤ l2' ∧ l2' ≤ (k : Int) + 1 ∧ Hid (LowR (tl, tc) S' T') ∧
      Hid (LoSt w wx bx (.string s') (.slice ga G.length gc) (.int .i64 l') (.int .u32 ac) (.int .i64 f') (.int .i64 t') (tl, tc) (.slice ga G.length gc) G lp1 m1 lp2 m2 n1' n2' S' T' l1' l2'))
    case first =>
      by_cases hK0 : K = 0
      case neg =>
        have hKb : ((K : Int) == 0) = false := by rw [beq_eq_false_iff_ne]; omega
        go_wp2
        go_meet
        exact ⟨n1, n2, S, T, l1, l2, by omega, by omega, hl10, by omega, hl20, by omega, HR, HLA⟩
      subst hK0
      have ks := short_any op V1 (RdAt.later HOP.out.ms HLA.out.bl) HOP.out.len
      unfold SOp.v at ks
      obtain ⟨z0, z1, z2, z3, z4, z5, z6, z7, z8⟩ := HZA.out
      go_wp2_with fail
      refine ks.mono ?_
      rintro e V2 ⟨mv, rfl, hmv, hb⟩
      have kb := sback_any op.sid { cutS op.s with mv := mv } V2
      have HLB := Lib.hid (HLA.out.below hb)
      have HZB := Lib.hid (HZA.out.later hb)
      have HMB := Lib.hid (RdAt.later hmv hb)
      clear ks hmv hb HLA HZA z0 z1 z2 z3 z4 z5 z6 z7 z8
      go_wp2_with fail
      refine kb.mono ?_
      rintro e V3 ⟨rfl, hb⟩
      have HLC' := Lib.hid (HLB.out.below hb)
      have HZC := Lib.hid (HZB.out.later hb)
      have kl := lay_any lp1 m1 n1 S l1 { cutS op.s with mv := mv } V3 HLC'.out.a (RdAt.later HMB.out hb) (cutS_fit HOP.out.fit) (by have := cutS_len op.s; show (cutS op.s).ms.length ≤ _; omega) (by omega) (by omega) hl10
      clear kb hb HLB HZB HMB
      go_wp2_with fail
      refine kl.mono ?_
      rintro e V4 ⟨rfl, S', l1', n1', hS, hLy, hn', hk4, hown⟩
      have hll : 0 ≤ l1' ∧ l1' ≤ l1 + 1 := by
        cases hLy with
        | no _ => omega
        | yes _ _ => omega
      have HLD := Lib.hid (HLC'.out.lay1 hS hk4 hown)
      have HZD := Lib.hid (c9_kp HZC.out hk4 (by omega) (by omega))
      have HLY := Lib.hid hLy
      have kf := rflows_any op.s.lv op.s.c tl tc V4 hoc htc
      unfold Lab at kf
      obtain ⟨z0, z1, z2, z3, z4, z5, z6, z7, z8⟩ := HZD.out
      have t0 := HLD.out.t0
      have t1 := HLD.out.t1
      dsimp only at t0 t1
      clear kl hS hLy hk4 hown HLC' HZC
      unfold layE
      generalize (if laysS S { cutS op.s with mv := mv } = true then l1 + 1 else 0) = e1
      generalize (if rightS { cutS op.s with mv := mv } = true then (if quoS S { cutS op.s with mv := mv } = 10 then (7 : Int) else 0) else 1) = e2
      go_wp2_with fail
      refine kf.mono ?_
      rintro e V5 ⟨rfl, hb⟩
      have HLE := Lib.hid (HLD.out.below hb)
      have HZE := Lib.hid (HZD.out.later hb)
      clear kf hb HLD HZD z0 z1 z2 z3 z4 z5 z6 z7 z8 t0 t1
      obtain ⟨F, hF⟩ : ∃ F, flowsL op.s.lv op.s.c tl tc = F := ⟨_, rfl⟩
      have HFE := Lib.hid hF
      rw [hF]
      clear hF
      cases F with
      | false =>
        have hlow := low_out HR.out (s := { cutS op.s with mv := mv }) HFE.out HLY.out
        have HLW := Lib.hid hlow
        clear hlow
        go_wp2
        go_meet
        exact ⟨n1', n2, S', T, l1', l2, by omega, by omega, hll.1, by omega, hl20, by omega, HLW, HLE⟩
      | true =>
        have ks := short_any op V5 (RdAt.later HOP.out.ms HLE.out.bl) HOP.out.len
        unfold SOp.v at ks
        obtain ⟨z0, z1, z2, z3, z4, z5, z6, z7, z8⟩ := HZE.out
        go_wp2_with fail
        refine ks.mono ?_
        rintro e V6 ⟨mv2, rfl, hmv, hb⟩
        have kb := sback_any op.sid { cutS op.s with mv := mv2 } V6
        have HLF := Lib.hid (HLE.out.below hb)
        have HMB := Lib.hid (RdAt.later hmv hb)
        clear ks hmv hb HLE HZE z0 z1 z2 z3 z4 z5 z6 z7 z8
        go_wp2_with fail
        refine kb.mono ?_
        rintro e V7 ⟨rfl, hb⟩
        have HLG := Lib.hid (HLF.out.below hb)
        have kl := lay_any lp2 m2 n2 T l2 { cutS op.s with mv := mv2 } V7 HLG.out.b (RdAt.later HMB.out hb) (cutS_fit HOP.out.fit) (by have := cutS_len op.s; show (cutS op.s).ms.length ≤ _; omega) (by omega) (by omega) hl20
        clear kb hb HLF HMB
        go_wp2_with fail
        refine kl.mono ?_
        rintro e V8 ⟨rfl, T', l2', n2', hT, hLz, hn2', hk8, hown⟩
        have hll2 : 0 ≤ l2' ∧ l2' ≤ l2 + 1 := by
          cases hLz with
          | no _ => omega
          | yes _ _ => omega
        have HLH := Lib.hid (HLG.out.lay2 hT hk8 hown)
        have HLW := Lib.hid (low_in HR.out (s := { cutS op.s with mv := mv }) (u := { cutS op.s with mv := mv2 }) rfl HFE.out HLY.out hLz)
        clear kl hT hLz hk8 hown HLG
        unfold layE
        generalize (if laysS T { cutS op.s with mv := mv2 } = true then l2 + 1 else 0) = e3
        generalize (if rightS { cutS op.s with mv := mv2 } = true then (if quoS T { cutS op.s with mv := mv2 } = 10 then (7 : Int) else 0) else 1) = e4
        go_wp2
        go_meet
        exact ⟨n1', n2', S', T', l1', l2', by omega, by omega, hll.1, by omega, hll2.1, by omega, HLW, HLH⟩
    case rest =>
    obtain ⟨n1', n2', S', T', l1', l2', hn1', hn2', h1a, h1b, h2a, h2b, HR', HL'⟩ := hcut
    clear HLA HZA HR HOP
    have HN := Lib.hid (low_len HR'.out G (l', ac) N' (rs := []))
    have hqn : (quietL [] S' G (l', ac) (tl, tc) N').length ≤ 1000000 := by
      have h1 := HL'.out.a.own.size_le
      rw [DS_size] at h1
      have := quiet_len [] S' G (l', ac) (tl, tc) N'
      have := HL'.out.a.len
      omega
    have KQ1 : Hid (∀ W, Below wc.heap.size wc W → Calls Tryz.prog 29 #[.pointer (some ⟨lp1, 0, none⟩), .agg #[.slice none 0 0, .slice none 0 0, .slice none 0 0, .slice none 0 0, .slice none 0 0, .slice none 0 0], .agg #[.string s', .slice ga G.length gc, .int .i64 l', .int .u32 ac, .int .i64 f', .int .i64 t'], .agg #[.int .i64 tl, .int .u32 tc], .int .i64 N'] W
        fun e w' => ∃ qa qc, e = .returned (.slice qa (quietL [] S' G (l', ac) (tl, tc) N').length qc) ∧ Below W.heap.size W w') := Lib.hid (fun W hW => by
      have hx := HL'.out.below hW
      refine (quiet_any (none, 0, 0) (none, 0, 0) (none, 0, 0) (none, 0, 0) (none, 0, 0) [] (.slice none 0 0) s' G (.slice ga G.length gc) l' ac f' t' tl tc N' lp1 m1 n1' S' l1' W hx.a (RdAt.nil _ _) (by decide) hx.f (by omega) HFF.out).mono ?_
      rintro e w' ⟨v', rfl, hI, hb⟩
      obtain ⟨qa, qc, rfl, -, -⟩ := RdAt.shape hI
      exact ⟨qa, qc, rfl, hb⟩)
    have KQ2 : Hid (∀ W, Below wc.heap.size wc W → Calls Tryz.prog 29 #[.pointer (some ⟨lp2, 0, none⟩), .agg #[.slice none 0 0, .slice none 0 0, .slice none 0 0, .slice none 0 0, .slice none 0 0, .slice none 0 0], .agg #[.string s', .slice ga G.length gc, .int .i64 l', .int .u32 ac, .int .i64 f', .int .i64 t'], .agg #[.int .i64 tl, .int .u32 tc], .int .i64 N'] W
        fun e w' => ∃ qa qc, e = .returned (.slice qa (quietL [] S' G (l', ac) (tl, tc) N').length qc) ∧ Below W.heap.size W w') := Lib.hid (fun W hW => by
      have hx := HL'.out.below hW
      rw [HN.out]
      refine (quiet_any (none, 0, 0) (none, 0, 0) (none, 0, 0) (none, 0, 0) (none, 0, 0) [] (.slice none 0 0) s' G (.slice ga G.length gc) l' ac f' t' tl tc N' lp2 m2 n2' T' l2' W hx.b (RdAt.nil _ _) (by decide) hx.f (by omega) HFF.out).mono ?_
      rintro e w' ⟨v', rfl, hI, hb⟩
      obtain ⟨qa, qc, rfl, -, -⟩ := RdAt.shape hI
      exact ⟨qa, qc, rfl, hb⟩)
    generalize (quietL [] S' G (l', ac) (tl, tc) N').length = qn at *
    have SK : Hid (∀ W', Below wc.heap.size wc W' → W'.cell? ⟨bx, 0, none⟩ = some (.string s') ∧ W'.cell? ⟨bx, 1, none⟩ = some (.slice ga G.length gc) ∧ W'.cell? ⟨bx, 2, none⟩ = some (.int .i64 l') ∧ W'.cell? ⟨bx, 3, none⟩ = some (.int .u32 ac) ∧ W'.cell? ⟨bx, 4, none⟩ = some (.int .i64 f') ∧ W'.cell? ⟨bx, 5, none⟩ = some (.int .i64 t') ∧ W'.cell? ⟨w.heap.size + 1, 0, none⟩ = some (.int .i64 tl) ∧ W'.cell? ⟨w.heap.size + 1, 1, none⟩ = some (.int .u32 tc)) := Lib.hid (fun W' hW => by
      have hx := HL'.out.below hW
      obtain ⟨y0, y1, y2, y3, y4, y5⟩ := hx.y
      exact ⟨y0, y1, y2, y3, y4, y5, hx.t0, hx.t1⟩)
    clear HN
    go_upto_region 16 with fail
    refine wp_region_held_drew (S := (fun W' => W'.cell? ⟨bx, 0, none⟩ = some (.string s') ∧ W'.cell? ⟨bx, 1, none⟩ = some (.slice ga G.length gc) ∧ W'.cell? ⟨bx, 2, none⟩ = some (.int .i64 l') ∧ W'.cell? ⟨bx, 3, none⟩ = some (.int .u32 ac) ∧ W'.cell? ⟨bx, 4, none⟩ = some (.int .i64 f') ∧ W'.cell? ⟨bx, 5, none⟩ = some (.int .i64 t') ∧ W'.cell? ⟨w.heap.size + 1, 0, none⟩ = some (.int .i64 tl) ∧ W'.cell? ⟨w.heap.size + 1, 1, none⟩ = some (.int .u32 tc))) (by kernel_rfl) (SK.out _ ((Below.refl wc.heap.size wc).drew)) (fun hHeld => ?_)
    refine held_take (i := 0) (v := ?_) rfl rfl (by kernel_rfl) (by kernel_rfl) (by kernel_rfl) (fun _ _ _ h => h) (by rfl) hHeld ?_ ?_
    rotate_left
    · rintro wh ⟨z0, z1, z2, z3, z4, z5, z6, z7⟩
      go_simp
      (try with_reducible rfl)
    simp only [Act.put, List.setIfInBounds_toArray, List.set_cons_zero, List.set_cons_succ]
    refine held_take (i := 1) (v := ?_) rfl rfl (by kernel_rfl) (by kernel_rfl) (by kernel_rfl) (fun _ _ _ h => h) (by rfl) hHeld ?_ ?_
    rotate_left
    · rintro wh ⟨z0, z1, z2, z3, z4, z5, z6, z7⟩
      go_simp
      (try with_reducible rfl)
    simp only [Act.put, List.setIfInBounds_toArray, List.set_cons_zero, List.set_cons_succ]
    refine held_take (i := 2) (v := ?_) rfl rfl (by kernel_rfl) (by kernel_rfl) (by kernel_rfl) (fun _ _ _ h => h) (by rfl) hHeld ?_ ?_
    rotate_left
    · rintro wh ⟨z0, z1, z2, z3, z4, z5, z6, z7⟩
      go_simp
      (try with_reducible rfl)
    simp only [Act.put, List.setIfInBounds_toArray, List.set_cons_zero, List.set_cons_succ]
    refine held_take (i := 3) (v := ?_) rfl rfl (by kernel_rfl) (by kernel_rfl) (by kernel_rfl) (fun _ _ _ h => h) (by rfl) hHeld ?_ ?_
    rotate_left
    · rintro wh ⟨z0, z1, z2, z3, z4, z5, z6, z7⟩
      go_simp
      (try with_reducible rfl)
    simp only [Act.put, List.setIfInBounds_toArray, List.set_cons_zero, List.set_cons_succ]
    refine held_take (i := 4) (v := ?_) rfl rfl (by kernel_rfl) (by kernel_rfl) (by kernel_rfl) (fun _ _ _ h => h) (by rfl) hHeld ?_ ?_
    rotate_left
    · rintro wh ⟨z0, z1, z2, z3, z4, z5, z6, z7⟩
      go_simp
      (try with_reducible rfl)
    simp only [Act.put, List.setIfInBounds_toArray, List.set_cons_zero, List.set_cons_succ]
    refine held_take (i := 7) (v := ?_) rfl rfl (by kernel_rfl) (by kernel_rfl) (by kernel_rfl) (fun _ _ _ h => h) (by rfl) hHeld ?_ ?_
    rotate_left
    · rintro wh ⟨z0, z1, z2, z3, z4, z5, z6, z7⟩
      go_simp
      (try with_reducible rfl)
    simp only [Act.put, List.setIfInBounds_toArray, List.set_cons_zero, List.set_cons_succ]
    refine held_take (i := 8) (v := ?_) rfl rfl (by kernel_rfl) (by kernel_rfl) (by kernel_rfl) (fun _ _ _ h => h) (by rfl) hHeld ?_ ?_
    rotate_left
    · rintro wh ⟨z0, z1, z2, z3, z4, z5, z6, z7⟩
      go_simp
      (try with_reducible rfl)
    simp only [Act.put, List.setIfInBounds_toArray, List.set_cons_zero, List.set_cons_succ]
    refine held_take (i := 9) (v := ?_) rfl rfl (by kernel_rfl) (by kernel_rfl) (by kernel_rfl) (fun _ _ _ h => h) (by rfl) hHeld ?_ ?_
    rotate_left
    · rintro wh ⟨z0, z1, z2, z3, z4, z5, z6, z7⟩
      go_simp
      (try with_reducible rfl)
    simp only [Act.put, List.setIfInBounds_toArray, List.set_cons_zero, List.set_cons_succ]
    refine held_take (i := 10) (v := ?_) rfl rfl (by kernel_rfl) (by kernel_rfl) (by kernel_rfl) (fun _ _ _ h => h) (by rfl) hHeld ?_ ?_
    rotate_left
    · rintro wh ⟨z0, z1, z2, z3, z4, z5, z6, z7⟩
      go_simp
      (try with_reducible rfl)
    simp only [Act.put, List.setIfInBounds_toArray, List.set_cons_zero, List.set_cons_succ]
    refine held_take (i := 11) (v := ?_) rfl rfl (by kernel_rfl) (by kernel_rfl) (by kernel_rfl) (fun _ _ _ h => h) (by rfl) hHeld ?_ ?_
    rotate_left
    · rintro wh ⟨z0, z1, z2, z3, z4, z5, z6, z7⟩
      go_simp
      (try with_reducible rfl)
    simp only [Act.put, List.setIfInBounds_toArray, List.set_cons_zero, List.set_cons_succ]
    refine held_step (i := 5) rfl (by kernel_rfl) (fun K hK => ?_)
    go_simp; refine (KQ1.out _ ((Below.refl wc.heap.size wc).drew)).mono ?_; rintro e wq1 ⟨qa1, qc1, rfl, hb1⟩; have hb1' : Below wc.heap.size wc wq1 := ((Below.refl wc.heap.size wc).drew).trans (hb1.mono ((Below.refl wc.heap.size wc).drew).size); have HB1' := Lib.hid hb1'; clear hb1 hb1'
    refine hK.out _ _ (SK.out _ HB1'.out) (fun hHeld => ?_)
    clear hK K
    (try simp only [Act.put, List.setIfInBounds_toArray])
    refine held_take (i := 6) (v := ?_) rfl rfl (by kernel_rfl) (by kernel_rfl) (by kernel_rfl) (fun _ _ _ h => h) (by rfl) hHeld ?_ ?_
    rotate_left
    · rintro wh ⟨z0, z1, z2, z3, z4, z5, z6, z7⟩
      go_simp
      (try with_reducible rfl)
    simp only [Act.put, List.setIfInBounds_toArray, List.set_cons_zero, List.set_cons_succ]
    refine held_step (i := 12) rfl (by kernel_rfl) (fun K hK => ?_)
    go_simp; refine (KQ2.out _ HB1'.out).mono ?_; rintro e wq2 ⟨qa2, qc2, rfl, hb2⟩; have hb2' : Below wc.heap.size wc wq2 := HB1'.out.trans (hb2.mono HB1'.out.size); have HB2' := Lib.hid hb2'; clear hb2 hb2'
    refine hK.out _ _ (SK.out _ HB2'.out) (fun hHeld => ?_)
    clear hK K
    (try simp only [Act.put, List.setIfInBounds_toArray])
    refine held_take (i := 13) (v := ?_) rfl rfl (by kernel_rfl) (by kernel_rfl) (by kernel_rfl) (fun _ _ _ h => h) (by rfl) hHeld ?_ ?_
    rotate_left
    · rintro wh ⟨z0, z1, z2, z3, z4, z5, z6, z7⟩
      go_simp
      (try with_reducible rfl)
    simp only [Act.put, List.setIfInBounds_toArray, List.set_cons_zero, List.set_cons_succ]
    refine held_take (i := 14) (v := ?_) rfl rfl (by kernel_rfl) (by kernel_rfl) (by kernel_rfl) (fun _ _ _ h => h) (by rfl) hHeld ?_ ?_
    rotate_left
    · rintro wh ⟨z0, z1, z2, z3, z4, z5, z6, z7⟩
      go_simp
      (try with_reducible rfl)
    simp only [Act.put, List.setIfInBounds_toArray, List.set_cons_zero, List.set_cons_succ]
    refine wpAnyH_done (by kernel_rfl) ?_ _
    have HLZ := Lib.hid (HL'.out.below HB2'.out)
    clear HB1' HB2' SK KQ1 KQ2 HL' hHeld
    go_wp2
    go_roundw
    case rel => exact ⟨k + 1, N', n1', n2', S', T', l1', l2', by omega, by go_num, rfl, hN'0.1, by omega, h1a, by omega, h2a, by omega, by omega, by omega, HR', HLZ⟩
    case measure => (simp [intOf]; try omega)
end lawLow
end Go.Proofs.YtcfococinllcmaaGreat

/- SilenceLow: the card: whatever the arguments, the law returns true and its arguments read as they did. No condition. -/
namespace Go.Proofs.YtcfococinllcmaaGreat.lawLow
open Go.ChangeShapes Go.WideShapes Go.ChangeAt Go.RowKit
open Go.ChangeMaps (open_string)

set_option maxRecDepth 100000 in
theorem contract (H : Type) (enc : TypeId × Value → H) (W : World) (base : Nat) (args : Array Value) (ds gs : List (DataW H)) (before : List MemPlace)
    (hval : ∀ (j : Nat) t v, Tryz.f4.params[j]? = some t → args[j]? = some v → Value.okWide Tryz.prog W .any base t v)
    (hW : DataW.Whole enc Tryz.prog Tryz.f4.params.toList Rows.silenceLowSpec.vars false W args.toList ds gs before) :
    Calls Tryz.prog 4 args W fun e W' => ∃ v, e = .returned v ∧ Rows.silenceLowSpec.post enc Tryz.prog Tryz.f4 false true false false W args v W' := by
  have hW' := hW
  obtain ⟨p, q, hA0, hV, rfl, hfz, hnd⟩ := hW
  have hA : DataW.TrodAll enc Tryz.prog W 0 (fun _ => true) true Tryz.f4.params.toList args.toList ds p := hA0
  rw [Tryz.params4] at hA hval
  obtain ⟨v0, vs0, d0, ds0, p0, q0, hargs, rfl, rfl, h0, r0⟩ := trodAll_cons hA
  obtain ⟨v1, vs1, d1, ds1, p1, q1, rfl, rfl, rfl, h1, r1⟩ := trodAll_cons r0
  obtain ⟨v2, vs2, d2, ds2, p2, q2, rfl, rfl, rfl, h2, r2⟩ := trodAll_cons r1
  obtain ⟨rfl, rfl, rfl⟩ := trodAll_nil r2
  obtain rfl : args = #[v0, v1, v2] := by cases args; simp_all
  obtain ⟨rfl, rfl⟩ := trodVars_none hV
  obtain ⟨x0, hx0⟩ := ops_of_arg (hval 0 47 v0 rfl rfl) h0
  obtain ⟨x1, y1, hx1⟩ := al_of_arg (hval 1 50 v1 rfl rfl) h1
  obtain ⟨x2, hx2⟩ := lab_of_arg (hval 2 26 v2 rfl rfl) h2
  clear hA0
  refine (walk v0 x0 v1 x1 y1 v2 x2 W hx0 hx1 hx2).mono ?_
  rintro e W' ⟨rfl, hb⟩
  exact ⟨_, rfl, law_post laidOut Tryz.underlying4 rfl rfl (by kernel_rfl) hW' rfl rfl rfl hb⟩

theorem laid_met (os : Os) : laidMet Tryz.prog Rows.silenceLowRow.laid ((laidWorld os).forCall (fun _ _ => 0) ⟨#[], #[.slice none 0 0, .agg #[.string ⟨#[]⟩, .slice none 0 0, .int .i64 0, .int .u32 0, .int .i64 0, .int .i64 0], .agg #[.int .i64 0, .int .u32 0]], []⟩).memory :=
  ⟨[], rfl, List.nodup_nil, fun _ _ h => by cases h⟩
theorem reads (os : Os) {H : Type} (enc : TypeId × Value → H) : ∃ places, DataW.whole enc Tryz.prog ((laidWorld os).forCall (fun _ _ => 0) ⟨#[], #[.slice none 0 0, .agg #[.string ⟨#[]⟩, .slice none 0 0, .int .i64 0, .int .u32 0, .int .i64 0, .int .i64 0], .agg #[.int .i64 0, .int .u32 0]], []⟩).memory Tryz.f4.params.toList Rows.silenceLowSpec.vars false (#[.slice none 0 0, .agg #[.string ⟨#[]⟩, .slice none 0 0, .int .i64 0, .int .u32 0, .int .i64 0, .int .i64 0], .agg #[.int .i64 0, .int .u32 0]] : Array Value).toList 8 = some ([.nil, .agg [.lit (.string []), .nil, .agg [.lit (.int .i64 0), .lit (.int .u32 0)], .lit (.int .i64 0), .lit (.int .i64 0)], .agg [.lit (.int .i64 0), .lit (.int .u32 0)]], [], places) :=
  ⟨[], by kernel_rfl⟩

set_option maxRecDepth 100000 in
theorem lifted (os : Os) (started : os.Started) (H : Type) (enc : TypeId × Value → H) (F : Stop.Interp) :
    ReturnsInHanded {} Tryz.checked os 4 .any ((OpenSpec.ofChange Rows.silenceLowSpec).preRow enc Tryz.prog Tryz.f4 Rows.silenceLowRow.domain false Rows.silenceLowRow.laid) (((OpenSpec.ofChange Rows.silenceLowSpec).at F).post enc Tryz.prog Tryz.f4 false true false false) := by
  obtain ⟨places, hx⟩ := reads os enc
  refine returnsInHanded_of_row (C := Tryz.checked) (s := OpenSpec.ofChange Rows.silenceLowSpec) ownNone started (by kernel_rfl) Tryz.func4
    (witness_row_at (enc := enc) (C := Tryz.checked) false (laidWorld os) #[.slice none 0 0, .agg #[.string ⟨#[]⟩, .slice none 0 0, .int .i64 0, .int .u32 0, .int .i64 0, .int .i64 0], .agg #[.int .i64 0, .int .u32 0]] rfl (by kernel_rfl) (by kernel_rfl) (by kernel_rfl)
      (OpenSpec.preRow_of_cond 8 hx (by kernel_rfl) (fun k hk => by cases hk) (by kernel_rfl) (laid_met os))) ?_
  intro W base args ds gs before hval hW _ _ _ _ _ _
  exact contract H enc W base args ds gs before hval hW

theorem said : Rows.SilenceLowSaid :=
  OpenClaim.holds_of_cond 4 Tryz.f4 rfl rfl rfl rfl rfl rfl rfl ⟨rfl, rfl, rfl, rfl, rfl⟩ rfl rfl rfl rfl rfl (by kernel_rfl) Tryz.func4 (by kernel_rfl)
    (of_decide_eq_true (by kernel_rfl)) (by unfold Func.isWrapper; first | (rw [if_pos (by decide +kernel)]; kernel_rfl) | (rw [if_neg (by decide +kernel)]; exact ⟨rfl, rfl⟩))
    (fun os started H enc _ F => by rw [OpenClaim.pre_eq_preRow]; exact lifted os started H enc F)

end Go.Proofs.YtcfococinllcmaaGreat.lawLow

