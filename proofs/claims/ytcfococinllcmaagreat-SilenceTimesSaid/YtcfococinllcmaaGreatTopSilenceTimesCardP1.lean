/- SilenceTimes: the card: whatever the arguments, the law returns true and its arguments read as they did. No condition. -/
import Derived.Test.YtcfococinllcmaaGreatTopSilenceTimesCardP0
import Derived.Test.YtcfococinllcmaaGreatHeldT
import Derived.Test.YtcfococinllcmaaGreatPatG
import Derived.Test.YtcfococinllcmaaGreatRd
import Derived.Deep.MidRow
import Derived.Test.YtcfococinllcmaaGreatRows
import Derived.Test.YtcfococinllcmaaGreatPatB
import Derived.Test.YtcfococinllcmaaGreatBox3
import Derived.WalkKit
import Derived.WalkSpells
import Derived.WalkLawsBesides
import Derived.BigQuiet
import Derived.Deep.QuietTactic
import Derived.Lib.Hide
import Derived.Deep.DeepCutAuto
import Derived.Laws.Tables
import Derived.Test.YtcfococinllcmaaGreatAppRd
import Derived.Test.YtcfococinllcmaaGreatHeldS
import Derived.Great.BuildSlice

/- Several parts in one: lychgateref06.With: a contract. lychgateref06.Good: a contract: fields that may be. lychgateref09.Good: a contract. -/
namespace Go.Proofs.YtcfococinllcmaaGreat
open Go.RowKit

theorem fit_snoc {L : List Fld} {x y : ByteArray} (h : FldsFit L) (hx : x.size ≤ maxLen) (hy : y.size ≤ maxLen) : FldsFit (L ++ [(x, y)]) := fun f hf => by
  rcases List.mem_append.1 hf with h' | h'
  · exact h f h'
  · simp only [List.mem_singleton] at h'
    subst h'
    exact ⟨hx, hy⟩
/-- one round of With -/
def withS (nm val : ByteArray) (s : List Fld × Bool) (f : Fld) : List Fld × Bool :=
  let s1 := if !s.2 && !ltS f.1 nm then (s.1 ++ [(nm, val)], true) else s
  if f.1 = nm then s1 else (s1.1 ++ [f], s1.2)
def withK (l : List Fld) (nm val : ByteArray) (k : Nat) : List Fld × Bool := (l.take k).foldl (withS nm val) ([], false)
def withL (l : List Fld) (nm val : ByteArray) : List Fld := if (withK l nm val l.length).2 then (withK l nm val l.length).1 else (withK l nm val l.length).1 ++ [(nm, val)]
theorem withK_step {l : List Fld} {nm val : ByteArray} {k : Nat} (h : k < l.length) : withK l nm val (k + 1) = withS nm val (withK l nm val k) l[k] := by
  unfold withK
  rw [List.take_succ_eq_append_getElem h, List.foldl_append]
  rfl
theorem rd_fld (w : World) (x y : ByteArray) (t : TypeId) : RdAt (w.alloc (.cells #[.string x, .string y] t)) (.slice (some ⟨w.heap.size, 0, none⟩) 1 1) 1 2 [.string x, .string y] := by
  refine RdAt.mk rfl (Nat.le_refl _) (by simp) (fun j v hj => ?_)
  rw [Nat.zero_add]
  exact (World.cell?_alloc_at _ _ _ _ rfl).trans (by
    match j, hj with
    | 0, hj => exact hj
    | 1, hj => exact hj
    | j + 2, hj => simp at hj)
set_option maxHeartbeats 1600000 in
set_option maxRecDepth 100000 in
theorem rwith_any (l : List Fld) (nm val : ByteArray) (w : World) (v : Value) (hv : FldsAt w v l) (hf : FldsFit l) (hl : l.length ≤ 1000) (hnm : nm.size ≤ maxLen) (hval : val.size ≤ maxLen) :
    Calls Tryz.prog 111 #[v, .string nm, .string val] w fun e w' => ∃ v', e = .returned v' ∧ FldsAt w' v' (withL l nm val) ∧ FldsFit (withL l nm val) ∧ (withL l nm val).length ≤ 2 * l.length + 1 ∧ (∀ q, v'.ownBlock = some q → w.heap.size ≤ q) ∧ Below w.heap.size w w' := by
  obtain ⟨i0, hi, hz0, hz1, hz2⟩ := info_parts info_fld
  obtain ⟨a, c, rfl, hc, hr⟩ := RdAt.shape hv
  have HR := Lib.hid hr
  have HF := Lib.hid hf
  clear hr hv hf
  go_enter Tryz.func111, Tryz.ntmps111
  go_wp2
  go_loopw [7, 8, 9] (fun s7 s8 i wr => ∃ (k : Nat) (L : List Fld) (d : Bool), s8 = .bool d ∧ i = .int .i64 k ∧ k ≤ l.length ∧ wr.ownsRow w.heap.size 103 2 s7 L.length (fldCells L) ∧ FldsFit L ∧ L.length ≤ 2 * k ∧ Hid (withK l nm val k = (L, d)) ∧ Below w.heap.size w wr) (fun _ _ i _ => l.length - (intOf i).toNat)
  case atStart => exact ⟨0, [], false, rfl, rfl, Nat.zero_le _, World.ownsRow_nil _ _ _ _, (fun _ h => by cases h), Nat.zero_le _, Lib.hid rfl, Below.refl _ _⟩
  case round =>
    obtain ⟨k, L, d, rfl, rfl, hk, hown, hfit, hlen, HWK, hbr⟩ := hrel
    obtain ⟨va, vc, rfl, _, _⟩ := RdAt.shape (RdAt.own hown)
    by_cases hkl : k < l.length
    · obtain ⟨b, o, rfl, hb, hcell⟩ := HR.out (by omega)
      obtain ⟨x, hxe⟩ : ∃ x, l[k].1 = x := ⟨_, rfl⟩
      obtain ⟨y, hye⟩ : ∃ y, l[k].2 = y := ⟨_, rfl⟩
      have hfs := HF.out _ (List.getElem_mem hkl)
      rw [hxe, hye] at hfs
      obtain ⟨hx0, hy0⟩ := fldCells_at l k hkl
      rw [hxe] at hx0
      rw [hye] at hy0
      have hq0 : ∀ W, Below w.heap.size w W → W.cell? ⟨b, o + k * 2, none⟩ = some (.string x) := fun W h => keep_cell (hcell _ _ hx0) h hb
      have hq1 : ∀ W, Below w.heap.size w W → W.cell? ⟨b, o + k * 2 + 1, none⟩ = some (.string y) := fun W h => keep_cell (by have := hcell _ _ hy0; rwa [← Nat.add_assoc] at this) h hb
      have HQ0 := Lib.hid hq0
      have HQ1 := Lib.hid hq1
      have HFX := Lib.hid hfs
      have hws := withK_step (nm := nm) (val := val) hkl
      rw [show l[k] = (x, y) by rw [← hxe, ← hye], HWK.out] at hws
      have HWS := Lib.hid hws
      clear hcell hx0 hy0 hxe hye hq0 hq1 hfs hws
      have hah := fun W => rahead_any x nm W HFX.out.1
      obtain ⟨lt, hlt⟩ : ∃ lt, ltS x nm = lt := ⟨_, rfl⟩
      simp only [hlt] at hah
      have HLT := Lib.hid hlt
      have a0 := HQ0.out wr hbr
      have HO := Lib.hid hown
      have HB := Lib.hid hbr
      clear hlt hown hbr
      go_upto_region 6 with fail
      go_cut [27] (fun s27 wx => s27 = .bool (!d && !lt) ∧ wx.ownsRow w.heap.size 103 2 (.slice va L.length vc) L.length (fldCells L) ∧ Below w.heap.size w wx)
      case first =>
        cases d
        · go_wp2_with fail
          refine (hah _).mono ?_
          rintro e w1 ⟨rfl, hb1⟩
          cases lt
          · go_wp2
            go_meet
            exact ⟨rfl, own_later HO.out hb1, HB.out.trans (hb1.mono HB.out.size)⟩
          · go_wp2
            go_meet
            exact ⟨rfl, own_later HO.out hb1, HB.out.trans (hb1.mono HB.out.size)⟩
        · clear hah
          go_wp2
          go_meet
          exact ⟨rfl, HO.out, HB.out⟩
      case rest =>
        obtain ⟨rfl, hown, hbr⟩ := hcut
        clear a0 hah HO HB
        obtain ⟨q, hq⟩ : ∃ q, (!d && !lt) = q := ⟨_, rfl⟩
        have HQQ := Lib.hid hq
        rw [hq]
        clear hq
        have HO := Lib.hid hown
        have HB := Lib.hid hbr
        clear hown hbr
        go_upto_if 27 with fail
        go_cut [7, 8] (fun s7 s8 wx => ∃ (L2 : List Fld) (d2 : Bool), s8 = .bool d2 ∧ wx.ownsRow w.heap.size 103 2 s7 L2.length (fldCells L2) ∧ FldsFit L2 ∧ L2.length ≤ L.length + 1 ∧ Hid ((if q then (L ++ [(nm, val)], true) else (L, d)) = (L2, d2)) ∧ Below w.heap.size w wx)
        case first =>
          cases q
          · go_wp2
            go_meet
            exact ⟨L, d, rfl, HO.out, hfit, Nat.le_succ _, Lib.hid rfl, HB.out⟩
          · have hown9 := HO.out.alloc (.cells #[.string nm, .string val] 103)
            have hrd := rd_fld wc nm val 103
            go_wp2_with (at_builtin; (refine wpList_append_rd rfl (.tmp 28) (.tmp 32) 48 rfl w.heap.size 103 i0 (.agg #[.string ⟨#[]⟩, .string ⟨#[]⟩]) 2 32 Tryz.underlying48 hi hz0 hz1 hz2 rfl (by decide) _ _ _ rfl hown9 _ 1 [.string nm, .string val] rfl hrd (by simp [Value.oneCell']) (by unfold maxLen; omega) (by omega) (by have := HB.out.size; simp; omega) ?_); intro v' w8 hown' hg8)
            have hB8 : Below w.heap.size w w8 := (HB.out.alloc HB.out.size _).grown hg8 (by have := HB.out.size; simp; omega) (fun j e => (hown9.lt j e).1)
            go_wp2
            go_meet
            exact ⟨L ++ [(nm, val)], true, rfl, by rw [List.length_append, fldCells_append]; exact hown', fit_snoc hfit hnm hval, by simp, Lib.hid rfl, hB8⟩
        case rest =>
          obtain ⟨L2, d2, rfl, hown, hfit2, hlen2, HIF, hbr⟩ := hcut
          have HWN : Hid (withK l nm val (k + 1) = (if x = nm then (L2, d2) else (L2 ++ [(x, y)], d2))) := by
            show _ = _
            rw [HWS.out]
            unfold withS
            simp only [HLT.out, HQQ.out, HIF.out]
          clear HIF HWS
          clear HO HB
          obtain ⟨vb, vd, rfl, _, _⟩ := RdAt.shape (RdAt.own hown)
          have a0 := HQ0.out _ hbr
          have a1 := HQ1.out _ hbr
          have HO := Lib.hid hown
          have HB := Lib.hid hbr
          clear hown hbr
          by_cases hxn : x = nm
          · have hbq : (x.toList == nm.toList) = true := bytes_eq_iff.2 hxn
            rw [if_pos hxn] at HWN
            clear hxn
            go_wp2
            go_roundw
            case rel => exact ⟨k + 1, L2, d2, rfl, by go_num, by omega, HO.out, hfit2, by omega, HWN, HB.out⟩
            case measure => (simp [intOf]; try omega)
          · have hbq : (x.toList == nm.toList) = false := by rw [bytes_beq]; exact decide_eq_false hxn
            rw [if_neg hxn] at HWN
            clear hxn
            have hown9 := HO.out.alloc (.cells #[.string x, .string y] 103)
            have hrd := rd_fld wc x y 103
            go_wp2_with (at_builtin; (refine wpList_append_rd rfl (.tmp 41) (.tmp 46) 48 rfl w.heap.size 103 i0 (.agg #[.string ⟨#[]⟩, .string ⟨#[]⟩]) 2 32 Tryz.underlying48 hi hz0 hz1 hz2 rfl (by decide) _ _ _ rfl hown9 _ 1 [.string x, .string y] rfl hrd (by simp [Value.oneCell']) (by unfold maxLen; omega) (by omega) (by have := HB.out.size; simp; omega) ?_); intro v' w8 hown' hg8)
            have hB8 : Below w.heap.size w w8 := (HB.out.alloc HB.out.size _).grown hg8 (by have := HB.out.size; simp; omega) (fun j e => (hown9.lt j e).1)
            go_wp2
            go_roundw
            case rel => exact ⟨k + 1, L2 ++ [(x, y)], d2, rfl, by go_num, by omega, by rw [List.length_append, fldCells_append]; exact hown', fit_snoc hfit2 HFX.out.1 HFX.out.2, by simp; omega, HWN, hB8⟩
            case measure => (simp [intOf]; try omega)
    · obtain rfl : k = l.length := by omega
      have HWL : Hid (withL l nm val = (if d then L else L ++ [(nm, val)])) := by show _ = _; unfold withL; rw [HWK.out]
      have HO := Lib.hid hown
      have HB := Lib.hid hbr
      clear hown hbr
      cases d
      · have hown9 := HO.out.alloc (.cells #[.string nm, .string val] 103)
        have hrd := rd_fld wr nm val 103
        go_wp2_with (at_builtin; (refine wpList_append_rd rfl (.tmp 50) (.tmp 54) 48 rfl w.heap.size 103 i0 (.agg #[.string ⟨#[]⟩, .string ⟨#[]⟩]) 2 32 Tryz.underlying48 hi hz0 hz1 hz2 rfl (by decide) _ _ _ rfl hown9 _ 1 [.string nm, .string val] rfl hrd (by simp [Value.oneCell']) (by unfold maxLen; omega) (by omega) (by have := HB.out.size; simp; omega) ?_); intro v' w8 hown' hg8)
        have hB8 : Below w.heap.size w w8 := (HB.out.alloc HB.out.size _).grown hg8 (by have := HB.out.size; simp; omega) (fun j e => (hown9.lt j e).1)
        go_wp2
        go_ret
        have hr8 := RdAt.own hown'
        rw [show (1 : Nat) = [(nm, val)].length from rfl, ← List.length_append] at hr8
        refine ⟨_, rfl, ?_⟩
        rw [HWL.out]
        exact ⟨by simp only [Bool.false_eq_true, if_false]; unfold FldsAt; rw [fldCells_append]; exact hr8, fit_snoc hfit hnm hval, by simp; omega, fun q hq => (hown'.lt q hq).1, hB8⟩
      · go_wp2
        go_ret
        refine ⟨_, rfl, ?_⟩
        rw [HWL.out]
        exact ⟨RdAt.own HO.out, hfit, by simp; omega, fun q hq => (HO.out.lt q hq).1, HB.out⟩
end Go.Proofs.YtcfococinllcmaaGreat
namespace Go.Proofs.YtcfococinllcmaaGreat
open Go.RowKit

theorem rightF_nil : rightF [] = true := by decide
theorem rightF_len {L : List Fld} (h : rightF L = true) : L.length ≤ 8 := by
  unfold rightF at h
  simp only [Bool.and_eq_true, decide_eq_true_eq] at h
  exact h.1
/-- one round of Good -/
def goodS (out : List Fld) (f : Fld) : List Fld := if rightF (withL out f.1 (f.2.extract 0 (min f.2.size 30))) then withL out f.1 (f.2.extract 0 (min f.2.size 30)) else out
def goodK (l : List Fld) (k : Nat) : List Fld := (l.take k).foldl goodS []
def goodF (l : List Fld) : List Fld := goodK l 12
theorem goodK_step {l : List Fld} {k : Nat} (h : k < l.length) : goodK l (k + 1) = goodS (goodK l k) l[k] := by
  unfold goodK
  rw [List.take_succ_eq_append_getElem h, List.foldl_append]
  rfl
theorem goodK_end {l : List Fld} {k : Nat} (h : k ≤ 12) (h2 : 12 ≤ k ∨ l.length ≤ k) : goodF l = goodK l k := by
  unfold goodF goodK
  rcases h2 with h2 | h2
  · rw [show k = 12 by omega]
  · rw [List.take_of_length_le h2, List.take_of_length_le (Nat.le_trans h2 h)]
set_option maxHeartbeats 1600000 in
set_option maxRecDepth 100000 in
theorem rgood6_any (l : List Fld) (w : World) (v : Value) (hv : FldsAt w v l) (hf : FldsFit l) (hl : l.length ≤ maxLen) :
    Calls Tryz.prog 90 #[v] w fun e w' => ∃ v', e = .returned v' ∧ FldsAt w' v' (goodF l) ∧ FldsFit (goodF l) ∧ rightF (goodF l) = true ∧ (∀ q, v'.ownBlock = some q → w.heap.size ≤ q) ∧ Below w.heap.size w w' := by
  obtain ⟨a, c, rfl, hc, hr⟩ := RdAt.shape hv
  have HR := Lib.hid hr
  have HF := Lib.hid hf
  have hl63 : l.length < 9223372036854775808 := by unfold maxLen at hl; omega
  clear hr hv hf hl
  go_enter Tryz.func90, Tryz.ntmps90
  go_wp2
  go_loopw [3, 4] (fun s3 i wr => ∃ (k : Nat) (L : List Fld), i = .int .i64 k ∧ k ≤ l.length ∧ k ≤ 12 ∧ Hid (goodK l k = L) ∧ FldsAt wr s3 L ∧ FldsFit L ∧ rightF L = true ∧ (∀ q, s3.ownBlock = some q → w.heap.size ≤ q) ∧ Below w.heap.size w wr) (fun _ i _ => l.length - (intOf i).toNat)
  case atStart => exact ⟨0, [], rfl, Nat.zero_le _, Nat.zero_le _, Lib.hid rfl, RdAt.nil _ _, (fun _ h => by cases h), rightF_nil, (fun q hq => by simp [Value.ownBlock] at hq), Below.refl _ _⟩
  case round =>
    obtain ⟨k, L, rfl, hk, hk12, HGK, hL, hfit, hright, hown, hbr⟩ := hrel
    obtain ⟨va, vc, rfl, _, _⟩ := RdAt.shape hL
    have HL := Lib.hid hL
    have HRT := Lib.hid hright
    have HFT := Lib.hid hfit
    have HOW := Lib.hid hown
    clear hL hright hfit hown
    by_cases hkl : k < l.length
    · by_cases h12 : k < 12
      · obtain ⟨b, o, rfl, hb, hcell⟩ := HR.out (by omega)
        obtain ⟨x, hxe⟩ : ∃ x, l[k].1 = x := ⟨_, rfl⟩
        obtain ⟨y, hye⟩ : ∃ y, l[k].2 = y := ⟨_, rfl⟩
        have hfs := HF.out _ (List.getElem_mem hkl)
        rw [hxe, hye] at hfs
        obtain ⟨hx0, hy0⟩ := fldCells_at l k hkl
        rw [hxe] at hx0
        rw [hye] at hy0
        have a0 : wr.cell? ⟨b, o + k * 2, none⟩ = some (.string x) := keep_cell (hcell _ _ hx0) hbr hb
        have a1 : wr.cell? ⟨b, o + k * 2 + 1, none⟩ = some (.string y) := keep_cell (by have := hcell _ _ hy0; rwa [← Nat.add_assoc] at this) hbr hb
        have hwb : b < wr.heap.size := Nat.lt_of_lt_of_le hb hbr.size
        have HFX := Lib.hid hfs
        have hys : y.size ≤ 9223372036854775807 := by have := hfs.2; unfold maxLen at this; omega
        obtain ⟨m, hm, hm1, hm2, hm3⟩ : ∃ m : Nat, min y.size 30 = m ∧ m ≤ 30 ∧ m ≤ y.size ∧ min (y.size : Int) 30 = (m : Int) := ⟨min y.size 30, rfl, by omega, by omega, by omega⟩
        have HGS : Hid (goodK l (k + 1) = if rightF (withL L x (y.extract 0 m)) then withL L x (y.extract 0 m) else L) := by
          show _ = _
          rw [goodK_step hkl, HGK.out, show l[k] = (x, y) by rw [← hxe, ← hye]]
          unfold goodS
          simp only [hm]
        clear hm HGK
        have hwith : ∀ (val : ByteArray) W, val.size ≤ maxLen → Below wr.heap.size wr W → Calls Tryz.prog 111 #[.slice va L.length vc, .string x, .string val] W fun e w' => ∃ v', e = .returned v' ∧ FldsAt w' v' (withL L x val) ∧ FldsFit (withL L x val) ∧ (withL L x val).length ≤ 2 * L.length + 1 ∧ (∀ q, v'.ownBlock = some q → W.heap.size ≤ q) ∧ Below W.heap.size W w' := fun val W hval h =>
          rwith_any L x val W _ (HL.out.later h) HFT.out (by have := rightF_len HRT.out; omega) HFX.out.1 hval
        have HWI := Lib.hid hwith
        have HB := Lib.hid hbr
        clear hcell hx0 hy0 hxe hye hfs hwith hbr
        go_upto_region 5 with fail
        refine wp_region_held_drew (S := (fun W => W.cell? ⟨b, o + k * 2, none⟩ = some (.string x) ∧ W.cell? ⟨b, o + k * 2 + 1, none⟩ = some (.string y))) (by kernel_rfl) ⟨a0, a1⟩ (fun hHeld => ?_)
        refine held_take (i := 0) (v := ?_) rfl rfl (by kernel_rfl) (by kernel_rfl) (by kernel_rfl) (fun _ _ _ h => h) (by rfl) hHeld ?_ ?_
        rotate_left
        · rintro wh ⟨z0, z1⟩
          go_simp
          (try with_reducible rfl)
        simp only [Act.put, List.setIfInBounds_toArray, List.set_cons_zero, List.set_cons_succ]
        refine held_take (i := 1) (v := ?_) rfl rfl (by kernel_rfl) (by kernel_rfl) (by kernel_rfl) (fun _ _ _ h => h) (by rfl) hHeld ?_ ?_
        rotate_left
        · rintro wh ⟨z0, z1⟩
          go_simp
          (try with_reducible rfl)
        simp only [Act.put, List.setIfInBounds_toArray, List.set_cons_zero, List.set_cons_succ]
        refine held_take (i := 2) (v := ?_) rfl rfl (by kernel_rfl) (by kernel_rfl) (by kernel_rfl) (fun _ _ _ h => h) (by rfl) hHeld ?_ ?_
        rotate_left
        · rintro wh ⟨z0, z1⟩
          go_simp
          (try with_reducible rfl)
        simp only [Act.put, List.setIfInBounds_toArray, List.set_cons_zero, List.set_cons_succ]
        refine held_take (i := 3) (v := ?_) rfl rfl (by kernel_rfl) (by kernel_rfl) (by kernel_rfl) (fun _ _ _ h => h) (by rfl) hHeld ?_ ?_
        rotate_left
        · rintro wh ⟨z0, z1⟩
          go_simp
          (try with_reducible rfl)
        simp only [Act.put, List.setIfInBounds_toArray, List.set_cons_zero, List.set_cons_succ]
        refine held_take (i := 4) (v := ?_) rfl rfl (by kernel_rfl) (by kernel_rfl) (by kernel_rfl) (fun _ _ _ h => h) (by rfl) hHeld ?_ ?_
        rotate_left
        · rintro wh ⟨z0, z1⟩
          go_simp
          (try with_reducible rfl)
        simp only [Act.put, List.setIfInBounds_toArray, List.set_cons_zero, List.set_cons_succ]
        refine held_take (i := 5) (v := ?_) rfl rfl (by kernel_rfl) (by kernel_rfl) (by kernel_rfl) (fun _ _ _ h => h) (by rfl) hHeld ?_ ?_
        rotate_left
        · rintro wh ⟨z0, z1⟩
          go_simp
          (try with_reducible rfl)
        simp only [Act.put, List.setIfInBounds_toArray, List.set_cons_zero, List.set_cons_succ]
        refine held_take (i := 6) (v := ?_) rfl rfl (by kernel_rfl) (by kernel_rfl) (by kernel_rfl) (fun _ _ _ h => h) (by rfl) hHeld ?_ ?_
        rotate_left
        · rintro wh ⟨z0, z1⟩
          go_simp
          (try with_reducible rfl)
        simp only [Act.put, List.setIfInBounds_toArray, List.set_cons_zero, List.set_cons_succ]
        refine held_take (i := 7) (v := ?_) rfl rfl (by kernel_rfl) (by kernel_rfl) (by kernel_rfl) (fun _ _ _ h => h) (by rfl) hHeld ?_ ?_
        rotate_left
        · rintro wh ⟨z0, z1⟩
          go_simp
          (try with_reducible rfl)
        simp only [Act.put, List.setIfInBounds_toArray, List.set_cons_zero, List.set_cons_succ]
        refine held_take (i := 8) (v := ?_) rfl rfl (by kernel_rfl) (by kernel_rfl) (by kernel_rfl) (fun _ _ _ h => h) (by rfl) hHeld ?_ ?_
        rotate_left
        · rintro wh ⟨z0, z1⟩
          go_simp
          (try with_reducible rfl)
        simp only [Act.put, List.setIfInBounds_toArray, List.set_cons_zero, List.set_cons_succ]
        refine held_take (i := 9) (v := ?_) rfl rfl (by kernel_rfl) (by kernel_rfl) (by kernel_rfl) (fun _ _ _ h => h) (by rfl) hHeld ?_ ?_
        rotate_left
        · rintro wh ⟨z0, z1⟩
          go_simp
          (try with_reducible rfl)
        simp only [Act.put, List.setIfInBounds_toArray, List.set_cons_zero, List.set_cons_succ]
        refine held_take (i := 10) (v := ?_) rfl rfl (by kernel_rfl) (by kernel_rfl) (by kernel_rfl) (fun _ _ _ h => h) (by rfl) hHeld ?_ ?_
        rotate_left
        · rintro wh ⟨z0, z1⟩
          go_simp
          (try with_reducible rfl)
        simp only [Act.put, List.setIfInBounds_toArray, List.set_cons_zero, List.set_cons_succ]
        refine held_take (i := 11) (v := ?_) rfl rfl (by kernel_rfl) (by kernel_rfl) (by kernel_rfl) (fun _ _ _ h => h) (by rfl) hHeld ?_ ?_
        rotate_left
        · rintro wh ⟨z0, z1⟩
          go_simp
          (try with_reducible rfl)
        simp only [Act.put, List.setIfInBounds_toArray, List.set_cons_zero, List.set_cons_succ]
        refine held_take (i := 12) (v := ?_) rfl rfl (by kernel_rfl) (by kernel_rfl) (by kernel_rfl) (fun _ _ _ h => h) (by rfl) hHeld ?_ ?_
        rotate_left
        · rintro wh ⟨z0, z1⟩
          go_simp
          (try with_reducible rfl)
        simp only [Act.put, List.setIfInBounds_toArray, List.set_cons_zero, List.set_cons_succ]
        refine held_take (i := 13) (v := ?_) rfl rfl (by kernel_rfl) (by kernel_rfl) (by kernel_rfl) (fun _ _ _ h => h) (by rfl) hHeld ?_ ?_
        rotate_left
        · rintro wh ⟨z0, z1⟩
          go_simp
          (try with_reducible rfl)
        simp only [Act.put, List.setIfInBounds_toArray, List.set_cons_zero, List.set_cons_succ]
        refine held_take (i := 14) (v := ?_) rfl rfl (by kernel_rfl) (by kernel_rfl) (by kernel_rfl) (fun _ _ _ h => h) (by rfl) hHeld ?_ ?_
        rotate_left
        · rintro wh ⟨z0, z1⟩
          go_simp
          (try with_reducible rfl)
        simp only [Act.put, List.setIfInBounds_toArray, List.set_cons_zero, List.set_cons_succ]
        refine held_take (i := 15) (v := ?_) rfl rfl (by kernel_rfl) (by kernel_rfl) (by kernel_rfl) (fun _ _ _ h => h) (by rfl) hHeld ?_ ?_
        rotate_left
        · rintro wh ⟨z0, z1⟩
          go_simp
          (try with_reducible rfl)
        simp only [Act.put, List.setIfInBounds_toArray, List.set_cons_zero, List.set_cons_succ]
        refine held_take (i := 16) (v := ?_) rfl rfl (by kernel_rfl) (by kernel_rfl) (by kernel_rfl) (fun _ _ _ h => h) (by rfl) hHeld ?_ ?_
        rotate_left
        · rintro wh ⟨z0, z1⟩
          go_simp
          (try with_reducible rfl)
        simp only [Act.put, List.setIfInBounds_toArray, List.set_cons_zero, List.set_cons_succ]
        refine held_take (i := 17) (v := ?_) rfl rfl (by kernel_rfl) (by kernel_rfl) (by kernel_rfl) (fun _ _ _ h => h) (by rfl) hHeld ?_ ?_
        rotate_left
        · rintro wh ⟨z0, z1⟩
          go_simp
          (try with_reducible rfl)
        simp only [Act.put, List.setIfInBounds_toArray, List.set_cons_zero, List.set_cons_succ]
        refine held_take (i := 18) (v := ?_) rfl rfl (by kernel_rfl) (by kernel_rfl) (by kernel_rfl) (fun _ _ _ h => h) (by rfl) hHeld ?_ ?_
        rotate_left
        · rintro wh ⟨z0, z1⟩
          go_simp
          (try with_reducible rfl)
        simp only [Act.put, List.setIfInBounds_toArray, List.set_cons_zero, List.set_cons_succ]
        refine held_call (i := 19) rfl (by kernel_rfl) (by rfl) (fun K hK => ?_)
        (go_simp; go_at_call 111; refine (HWI.out _ _ ?_ (Below.refl _ wr).drew).mono ?_; (· rw [ByteArray.size_extract]; unfold maxLen; omega); rintro e w1 ⟨v1, rfl, hF1, hfit1, hlen1, hown1, hb1⟩; have hB1 : Below wr.heap.size wr w1 := ((Below.refl _ _).drew).trans hb1)
        refine hK.out _ _ ⟨keep_cell a0 hB1 hwb, keep_cell a1 hB1 hwb⟩ (fun hHeld => ?_)
        clear hK K
        (try simp only [Act.put, List.setIfInBounds_toArray, List.set_cons_zero, List.set_cons_succ])
        refine held_take (i := 20) (v := ?_) rfl rfl (by kernel_rfl) (by kernel_rfl) (by kernel_rfl) (fun _ _ _ h => h) (by rfl) hHeld ?_ ?_
        rotate_left
        · rintro wh ⟨z0, z1⟩
          go_simp
          (try with_reducible rfl)
        simp only [Act.put, List.setIfInBounds_toArray, List.set_cons_zero, List.set_cons_succ]
        refine wpAnyH_done (by kernel_rfl) ?_ _
        have HB1 := Lib.hid (HB.out.trans (hB1.mono HB.out.size))
        generalize withL L x (y.extract 0 m) = L1 at *
        have hL1 := HL.out.later hB1
        have hlen17 := rightF_len HRT.out
        have kr := rright6_any L1 w1 v1 hF1 hfit1 (by unfold maxLen; omega)
        obtain ⟨q, hq⟩ : ∃ q, rightF L1 = q := ⟨_, rfl⟩
        rw [hq] at kr
        obtain ⟨vb, vd, rfl, _, _⟩ := RdAt.shape hF1
        have HF1 := Lib.hid hF1
        have HO1 : Hid (∀ q, (Value.slice vb L1.length vd).ownBlock = some q → w.heap.size ≤ q) := Lib.hid (fun q hq => Nat.le_trans HB.out.size (hown1 q hq))
        clear hown1
        have HFT1 := Lib.hid hfit1
        have HQ := Lib.hid hq
        have HL1 := Lib.hid hL1
        clear hB1 hb1 hF1 hfit1 hlen1 hq hL1 hlen17 a0 a1 HWI HB hm1 hm2 hm3 hys
        go_wp2_with fail
        refine kr.mono ?_
        rintro e w2 ⟨rfl, hb2⟩
        have HF2 := Lib.hid (HF1.out.later hb2)
        have HL2 := Lib.hid (HL1.out.later hb2)
        have HB2 := Lib.hid (HB1.out.trans (hb2.mono HB1.out.size))
        clear kr hb2 HF1 HL1 HB1
        cases q
        · go_wp2
          go_roundw
          case rel => exact ⟨k + 1, L, by go_num, by omega, by omega, Lib.hid (by rw [HGS.out, HQ.out]; rfl), HL2.out, HFT.out, HRT.out, HOW.out, HB2.out⟩
          case measure => (simp [intOf]; try omega)
        · go_wp2
          go_roundw
          case rel => exact ⟨k + 1, L1, by go_num, by omega, by omega, Lib.hid (by rw [HGS.out, HQ.out]; rfl), HF2.out, HFT1.out, HQ.out, HO1.out, HB2.out⟩
          case measure => (simp [intOf]; try omega)
      · have h12' : (12 : Int) ≤ (k : Int) := by omega
        have HE : Hid (goodF l = L) := by show _ = _; rw [goodK_end hk12 (.inl (by omega)), HGK.out]
        go_wp2
        go_ret
        exact ⟨_, rfl, by rw [HE.out]; exact HL.out, by rw [HE.out]; exact HFT.out, by rw [HE.out]; exact HRT.out, HOW.out, hbr⟩
    · obtain rfl : k = l.length := by omega
      have HE : Hid (goodF l = L) := by show _ = _; rw [goodK_end hk12 (.inr (Nat.le_refl _)), HGK.out]
      go_wp2
      go_ret
      exact ⟨_, rfl, by rw [HE.out]; exact HL.out, by rw [HE.out]; exact HFT.out, by rw [HE.out]; exact HRT.out, HOW.out, hbr⟩
end Go.Proofs.YtcfococinllcmaaGreat
namespace Go.Proofs.YtcfococinllcmaaGreat
open Go.RowKit

theorem rd_puts' {w : World} {v : Value} {n k : Nat} {xs : List Value} (h : RdAt w v n k xs) {g o : Nat} (hg : 0 < n → ∀ q, v.ownBlock = some q → q ≠ g) (vs : List Value) : RdAt (w.setCells g o vs) v n k xs := by
  refine ⟨h.1, ?_⟩
  rcases h.2 with h | ⟨a, c, rfl, hc, hr⟩
  · exact .inl h
  · refine .inr ⟨a, c, rfl, hc, fun hn => ?_⟩
    obtain ⟨b, o', rfl, hlt, hcell⟩ := hr hn
    have hne := hg hn b rfl
    refine ⟨b, o', rfl, Nat.lt_of_lt_of_le hlt (below_puts_base (g := g) (o := o) (Below.refl 0 w) (Nat.zero_le _) vs).size, fun j x hx => ?_⟩
    rw [World.cell?_setCells_out _ _ _ _ _ (fun hb _ => absurd hb hne)]
    exact hcell j x hx
/-- a good alert, made of any -/
def gSrc (s : ByteArray) : ByteArray := if nameL (B s) then s else ⟨#[112, 114, 111, 109]⟩
def gLv (l : Int) : Int := if rightL l then l else 1
def gFr (f : Int) : Int := (IntKind.u64.wrap f).tmod 1000
def gTil (f t : Int) : Int := if t = 0 then 0 else gFr f + 1 + (IntKind.u64.wrap t).tmod 1000
theorem gFr_in (f : Int) : 0 ≤ gFr f ∧ gFr f < 1000 := by
  have h : 0 ≤ IntKind.u64.wrap f := by simp only [IntKind.wrap, IntKind.bits, IntKind.signed]; simp; omega
  unfold gFr
  rw [Int.tmod_eq_emod_of_nonneg h]
  omega
/-- the call's boxes, in the midst -/
structure GSt (w : World) (go : Nat) (src : ByteArray) (fa : Value) (lv : Int) (c : Nat) (fr til : Int) (vo : Value) (L : List Fld) (s' : ByteArray) (l' f' t' : Int) (W : World) : Prop where
  a : C6 w.heap.size (.string src) fa (.int .i64 lv) (.int .u32 c) (.int .i64 fr) (.int .i64 til) W
  o : C6 go (.string s') vo (.int .i64 l') (.int .u32 c) (.int .i64 f') (.int .i64 t') W
  oth : W.there go 0 6
  rth : W.there (w.heap.size + 1) 0 6
  f : FldsAt W vo L
  far : 0 < L.length → ∀ q, vo.ownBlock = some q → q ≠ go ∧ q ≠ w.heap.size + 1 ∧ w.heap.size ≤ q
  ge : w.heap.size + 2 ≤ go
  lt : go < W.heap.size
  below : Below w.heap.size w W
theorem GSt.later {w W W' : World} {go : Nat} {src : ByteArray} {fa : Value} {lv : Int} {c : Nat} {fr til : Int} {vo : Value} {L : List Fld} {s' : ByteArray} {l' f' t' : Int} (h : GSt w go src fa lv c fr til vo L s' l' f' t' W) (hb : Below W.heap.size W W') : GSt w go src fa lv c fr til vo L s' l' f' t' W' := by
  have h1 := h.lt
  have h2 := h.ge
  exact ⟨h.a.later hb (by omega), h.o.later hb h1, there_later h.oth hb h1, there_later h.rth hb (by omega), h.f.later hb, h.far, h2, Nat.lt_of_lt_of_le h1 hb.size, h.below.trans (hb.mono h.below.size)⟩
theorem c6_set {w : World} {g : Nat} {v0 v1 v2 v3 v4 v5 : Value} (h : C6 g v0 v1 v2 v3 v4 v5 w) (x : Value) :
    C6 g x v1 v2 v3 v4 v5 (w.setCells g 0 [x]) ∧ C6 g v0 v1 x v3 v4 v5 (w.setCells g 2 [x]) ∧ C6 g v0 v1 v2 v3 x v5 (w.setCells g 4 [x]) ∧ C6 g v0 v1 v2 v3 v4 x (w.setCells g 5 [x]) := by
  obtain ⟨h0, h1, h2, h3, h4, h5⟩ := h
  have hs : ∀ j v, w.cell? ⟨g, j, none⟩ = some v → (w.setCells g j [x]).cell? ⟨g, j, none⟩ = some x := fun j v h => World.cell?_setCell_same' w ⟨g, j, none⟩ x (by rw [h]; rfl)
  have ho : ∀ i j v, j ≠ i → w.cell? ⟨g, j, none⟩ = some v → (w.setCells g i [x]).cell? ⟨g, j, none⟩ = some v := fun i j v hne h => by
    rw [World.cell?_setCells_out _ _ _ _ _ (fun _ _ => by simp; omega)]
    exact h
  exact ⟨⟨hs _ _ h0, ho _ _ _ (by decide) h1, ho _ _ _ (by decide) h2, ho _ _ _ (by decide) h3, ho _ _ _ (by decide) h4, ho _ _ _ (by decide) h5⟩,
    ⟨ho _ _ _ (by decide) h0, ho _ _ _ (by decide) h1, hs _ _ h2, ho _ _ _ (by decide) h3, ho _ _ _ (by decide) h4, ho _ _ _ (by decide) h5⟩,
    ⟨ho _ _ _ (by decide) h0, ho _ _ _ (by decide) h1, ho _ _ _ (by decide) h2, ho _ _ _ (by decide) h3, hs _ _ h4, ho _ _ _ (by decide) h5⟩,
    ⟨ho _ _ _ (by decide) h0, ho _ _ _ (by decide) h1, ho _ _ _ (by decide) h2, ho _ _ _ (by decide) h3, ho _ _ _ (by decide) h4, hs _ _ h5⟩⟩
section
variable {w W : World} {go : Nat} {src : ByteArray} {fa : Value} {lv : Int} {c : Nat} {fr til : Int} {vo : Value} {L : List Fld} {s' : ByteArray} {l' f' t' : Int}
theorem GSt.put (h : GSt w go src fa lv c fr til vo L s' l' f' t' W) (j : Nat) (x : Value) {s2 : ByteArray} {l2 f2 t2 : Int} (ho : C6 go (.string s2) vo (.int .i64 l2) (.int .u32 c) (.int .i64 f2) (.int .i64 t2) (W.setCells go j [x])) : GSt w go src fa lv c fr til vo L s2 l2 f2 t2 (W.setCells go j [x]) := by
  have h2 := h.ge
  exact ⟨c6_out h.a (by omega) j [x], ho, World.there_setCells h.oth go j [x], World.there_setCells h.rth go j [x], rd_puts' h.f (fun h0 q hq => (h.far h0 q hq).1) [x], h.far, h2,
    Nat.lt_of_lt_of_le h.lt (below_puts_base (g := go) (o := j) (Below.refl 0 W) (Nat.zero_le _) [x]).size, below_puts h.below (by omega) [x]⟩
theorem GSt.put0 (h : GSt w go src fa lv c fr til vo L s' l' f' t' W) (x : ByteArray) : GSt w go src fa lv c fr til vo L x l' f' t' (W.setCells go 0 [.string x]) := h.put 0 _ (c6_set h.o _).1
theorem GSt.put2 (h : GSt w go src fa lv c fr til vo L s' l' f' t' W) (x : Int) : GSt w go src fa lv c fr til vo L s' x f' t' (W.setCells go 2 [.int .i64 x]) := h.put 2 _ (c6_set h.o _).2.1
theorem GSt.put4 (h : GSt w go src fa lv c fr til vo L s' l' f' t' W) (x : Int) : GSt w go src fa lv c fr til vo L s' l' x t' (W.setCells go 4 [.int .i64 x]) := h.put 4 _ (c6_set h.o _).2.2.1
theorem GSt.put5 (h : GSt w go src fa lv c fr til vo L s' l' f' t' W) (x : Int) : GSt w go src fa lv c fr til vo L s' l' f' x (W.setCells go 5 [.int .i64 x]) := h.put 5 _ (c6_set h.o _).2.2.2
end
set_option maxHeartbeats 1600000 in
set_option maxRecDepth 100000 in
theorem rgood9_any (src : ByteArray) (fl : List Fld) (fv : Value) (lv : Int) (c : Nat) (fr til : Int) (w : World) (hs : src.size ≤ maxLen) (hv : FldsAt w fv fl) (hfit : FldsFit fl) (hl : fl.length ≤ maxLen) :
    Calls Tryz.prog 59 #[.agg #[.string src, fv, .int .i64 lv, .int .u32 c, .int .i64 fr, .int .i64 til]] w fun e w' =>
      ∃ v', e = .returned (.tuple #[.agg #[.string (gSrc src), v', .int .i64 (gLv lv), .int .u32 c, .int .i64 (gFr fr), .int .i64 (gTil fr til)], .bool (decide (0 < (goodF fl).length))]) ∧ FldsAt w' v' (goodF fl) ∧ FldsFit (goodF fl) ∧ rightF (goodF fl) = true ∧ (0 < (goodF fl).length → ∀ q, v'.ownBlock = some q → w.heap.size ≤ q) ∧ Below w.heap.size w w' := by
  have k1 := fun W (h : Below w.heap.size w W) => rgood6_any fl W fv (hv.later h) hfit hl
  have k2 := fun W => refName.name_any src W hs
  have k3 := rright_any lv c
  obtain ⟨fa, fc, rfl, _, _⟩ := RdAt.shape hv
  obtain ⟨L, hL⟩ : ∃ z, goodF fl = z := ⟨_, rfl⟩
  rw [hL] at k1 ⊢
  have K1 := Lib.hid k1
  have K2 := Lib.hid k2
  have K3 := Lib.hid k3
  clear hL hv hfit hl hs k1 k2 k3
  obtain ⟨W0, hW0⟩ : ∃ z, (w.alloc (.cells #[.string src, .slice fa fl.length fc, .int .i64 lv, .int .u32 c, .int .i64 fr, .int .i64 til] 50)).alloc (.cells #[.string ⟨#[]⟩, .slice none 0 0, .int .i64 0, .int .u32 0, .int .i64 0, .int .i64 0] 50) = z := ⟨_, rfl⟩
  have hb0 : Below w.heap.size w W0 := by rw [← hW0]; exact (alloc_below _ _).trans ((alloc_below _ _).mono (by simp))
  have hz : w.heap.size + 2 ≤ W0.heap.size := by rw [← hW0]; simp
  have hd := (Below.refl W0.heap.size W0)
  rw [← hW0] at hd
  obtain ⟨h1, h2, h3⟩ := box_cells hd
  have hT := box_there hd
  obtain ⟨h4, _, _⟩ := box_cells h3
  rw [World.size_alloc] at h1 hT
  rw [hW0] at h1 h4 hT
  have q0 := h4 0 _ rfl
  have q1 := h4 1 _ rfl
  have q2 := h4 2 _ rfl
  have q3 := h4 3 _ rfl
  have q4 := h4 4 _ rfl
  have q5 := h4 5 _ rfl
  have HA : Hid (C6 w.heap.size (.string src) (.slice fa fl.length fc) (.int .i64 lv) (.int .u32 c) (.int .i64 fr) (.int .i64 til) W0) := Lib.hid ⟨q0, q1, q2, q3, q4, q5⟩
  have HB0 := Lib.hid hb0
  have HT : Hid (W0.there (w.heap.size + 1) 0 6) := Lib.hid hT
  have HW0 := Lib.hid hW0
  clear h1 h2 h3 h4 hd hT hb0 hW0
  go_enter Tryz.func59, Tryz.ntmps59
  go_upto_region 1 with fail
  rw [HW0.out]
  clear HW0
  go_cut [4] (fun s4 wx => ∃ go vo, s4 = .pointer (some ⟨go, 0, none⟩) ∧ FldsFit L ∧ rightF L = true ∧ GSt w go src (.slice fa fl.length fc) lv c fr til vo L src lv 0 0 wx)
  case first =>
    refine wp_region_held_drew (S := (fun W => W.cell? ⟨w.heap.size, 0, none⟩ = some (.string src) ∧ W.cell? ⟨w.heap.size, 1, none⟩ = some (.slice fa fl.length fc) ∧ W.cell? ⟨w.heap.size, 2, none⟩ = some (.int .i64 lv) ∧ W.cell? ⟨w.heap.size, 3, none⟩ = some (.int .u32 c) ∧ W.cell? ⟨w.heap.size, 4, none⟩ = some (.int .i64 fr) ∧ W.cell? ⟨w.heap.size, 5, none⟩ = some (.int .i64 til))) (by kernel_rfl) ⟨q0, q1, q2, q3, q4, q5⟩ (fun hHeld => ?_)
    have hd : Below W0.heap.size W0 W0.drew := (Below.refl _ _).drew
    have hds : W0.heap.size ≤ W0.drew.heap.size := Nat.le_refl _
    generalize W0.drew = wd at *
    refine held_take (i := 0) (v := ?_) rfl rfl (by kernel_rfl) (by kernel_rfl) (by kernel_rfl) (fun _ _ _ h => h) (by rfl) hHeld ?_ ?_
    rotate_left
    · rintro wh ⟨z0, z1, z2, z3, z4, z5⟩
      go_simp
      (try with_reducible rfl)
    simp only [Act.put, List.setIfInBounds_toArray, List.set_cons_zero, List.set_cons_succ]
    refine held_take (i := 1) (v := ?_) rfl rfl (by kernel_rfl) (by kernel_rfl) (by kernel_rfl) (fun _ _ _ h => h) (by rfl) hHeld ?_ ?_
    rotate_left
    · rintro wh ⟨z0, z1, z2, z3, z4, z5⟩
      go_simp
      (try with_reducible rfl)
    simp only [Act.put, List.setIfInBounds_toArray, List.set_cons_zero, List.set_cons_succ]
    refine held_take (i := 2) (v := ?_) rfl rfl (by kernel_rfl) (by kernel_rfl) (by kernel_rfl) (fun _ _ _ h => h) (by rfl) hHeld ?_ ?_
    rotate_left
    · rintro wh ⟨z0, z1, z2, z3, z4, z5⟩
      go_simp
      (try with_reducible rfl)
    simp only [Act.put, List.setIfInBounds_toArray, List.set_cons_zero, List.set_cons_succ]
    refine held_take (i := 3) (v := ?_) rfl rfl (by kernel_rfl) (by kernel_rfl) (by kernel_rfl) (fun _ _ _ h => h) (by rfl) hHeld ?_ ?_
    rotate_left
    · rintro wh ⟨z0, z1, z2, z3, z4, z5⟩
      go_simp
      (try with_reducible rfl)
    simp only [Act.put, List.setIfInBounds_toArray, List.set_cons_zero, List.set_cons_succ]
    refine held_take (i := 5) (v := ?_) rfl rfl (by kernel_rfl) (by kernel_rfl) (by kernel_rfl) (fun _ _ _ h => h) (by rfl) hHeld ?_ ?_
    rotate_left
    · rintro wh ⟨z0, z1, z2, z3, z4, z5⟩
      go_simp
      (try with_reducible rfl)
    simp only [Act.put, List.setIfInBounds_toArray, List.set_cons_zero, List.set_cons_succ]
    refine held_take (i := 6) (v := ?_) rfl rfl (by kernel_rfl) (by kernel_rfl) (by kernel_rfl) (fun _ _ _ h => h) (by rfl) hHeld ?_ ?_
    rotate_left
    · rintro wh ⟨z0, z1, z2, z3, z4, z5⟩
      go_simp
      (try with_reducible rfl)
    simp only [Act.put, List.setIfInBounds_toArray, List.set_cons_zero, List.set_cons_succ]
    refine held_two (i := 4) (j := 8) rfl rfl (by kernel_rfl) (fun K hK => ?_) (fun K hK => ?_)
    · go_simp; go_at_call 90; refine (K1.out _ (HB0.out.trans (hd.mono HB0.out.size))).mono ?_; rintro e wc ⟨vz, rfl, hFz, hfit, hright, hOz, hbc⟩
      obtain ⟨va, vc, rfl, _, _⟩ := RdAt.shape hFz
      have hBc := hd.trans (hbc.mono hd.size)
      refine hK.out _ _ ⟨keep_cell q0 hBc (by omega), keep_cell q1 hBc (by omega), keep_cell q2 hBc (by omega), keep_cell q3 hBc (by omega), keep_cell q4 hBc (by omega), keep_cell q5 hBc (by omega)⟩ (fun hHeld => ?_)
      clear hK K
      (try simp only [Act.put, List.setIfInBounds_toArray, List.set_cons_zero, List.set_cons_succ])
      refine held_take (i := 7) (v := ?_) rfl rfl (by kernel_rfl) (by kernel_rfl) (by kernel_rfl) (fun _ _ _ h => h) (by rfl) hHeld ?_ ?_
      rotate_left
      · rintro wh ⟨z0, z1, z2, z3, z4, z5⟩
        go_simp
        (try with_reducible rfl)
      simp only [Act.put, List.setIfInBounds_toArray, List.set_cons_zero, List.set_cons_succ]
      refine held_step (i := 8) rfl (by kernel_rfl) (fun K hK => ?_)
      have haa := alloc_below wc (.cells #[.string ⟨#[]⟩, .slice none 0 0, .int .i64 0, .int .u32 0, .int .i64 0, .int .i64 0] 50)
      have hBa := hBc.trans (haa.mono hBc.size)
      have hTa := box_there (Below.refl (wc.alloc (.cells #[.string ⟨#[]⟩, .slice none 0 0, .int .i64 0, .int .u32 0, .int .i64 0, .int .i64 0] 50)).heap.size (wc.alloc (.cells #[.string ⟨#[]⟩, .slice none 0 0, .int .i64 0, .int .u32 0, .int .i64 0, .int .i64 0] 50)))
      have hlta : wc.heap.size < (wc.alloc (.cells #[.string ⟨#[]⟩, .slice none 0 0, .int .i64 0, .int .u32 0, .int .i64 0, .int .i64 0] 50)).heap.size := by rw [World.size_alloc]; omega
      go_simp
      refine hK.out _ _ ⟨keep_cell q0 hBa (by omega), keep_cell q1 hBa (by omega), keep_cell q2 hBa (by omega), keep_cell q3 hBa (by omega), keep_cell q4 hBa (by omega), keep_cell q5 hBa (by omega)⟩ (fun hHeld => ?_)
      clear hK K
      (try simp only [Act.put, List.setIfInBounds_toArray, List.set_cons_zero, List.set_cons_succ])
      have hFl := hFz.later (below_puts (g := wc.heap.size) (o := 0) haa (Nat.le_refl _) [.string src, .slice va L.length vc, .int .i64 lv, .int .u32 c, .int .i64 0, .int .i64 0])
      have hT : (wc.alloc (.cells #[.string ⟨#[]⟩, .slice none 0 0, .int .i64 0, .int .u32 0, .int .i64 0, .int .i64 0] 50)).there wc.heap.size 0 6 := hTa
      clear hTa
      have hcs := hBc.size
      have hfar : 0 < L.length → ∀ q, (Value.slice va L.length vc).ownBlock = some q → q ≠ wc.heap.size ∧ q ≠ w.heap.size + 1 ∧ w.heap.size ≤ q := fun h0 q hq => ⟨by obtain ⟨b, o, c, he, _, hlt, _⟩ := RdAt.some hFz h0; rw [he] at hq; simp only [Value.ownBlock, Option.some.injEq] at hq; omega, by have := hOz q hq; omega, by have := hOz q hq; omega⟩
      generalize wc.alloc (.cells #[.string ⟨#[]⟩, .slice none 0 0, .int .i64 0, .int .u32 0, .int .i64 0, .int .i64 0] 50) = wa at *
      have f0 := there_free hT 0 (by decide)
      have f1 := there_free hT 1 (by decide)
      have f2 := there_free hT 2 (by decide)
      have f3 := there_free hT 3 (by decide)
      have f4 := there_free hT 4 (by decide)
      have f5 := there_free hT 5 (by decide)
      obtain ⟨y0, hy0⟩ := there_cell hT 0 (by decide)
      obtain ⟨y1, hy1⟩ := there_cell hT 1 (by decide)
      obtain ⟨y2, hy2⟩ := there_cell hT 2 (by decide)
      obtain ⟨y3, hy3⟩ := there_cell hT 3 (by decide)
      obtain ⟨y4, hy4⟩ := there_cell hT 4 (by decide)
      obtain ⟨y5, hy5⟩ := there_cell hT 5 (by decide)
      have hB9 : Below W0.heap.size W0 (wa.setCells wc.heap.size 0 [.string src, .slice va L.length vc, .int .i64 lv, .int .u32 c, .int .i64 0, .int .i64 0]) := below_puts (g := wc.heap.size) (o := 0) hBa (by omega) [.string src, .slice va L.length vc, .int .i64 lv, .int .u32 c, .int .i64 0, .int .i64 0]
      have hF9 : FldsAt (wa.setCells wc.heap.size 0 [.string src, .slice va L.length vc, .int .i64 lv, .int .u32 c, .int .i64 0, .int .i64 0]) (.slice va L.length vc) L := hFl
      have hZ9 := c6_puts wa wc.heap.size (.string src) (.slice va L.length vc) (.int .i64 lv) (.int .u32 c) (.int .i64 0) (.int .i64 0) hT
      have hL9 : wc.heap.size < (wa.setCells wc.heap.size 0 [.string src, .slice va L.length vc, .int .i64 lv, .int .u32 c, .int .i64 0, .int .i64 0]).heap.size := Nat.lt_of_lt_of_le hlta (below_puts_base (g := wc.heap.size) (o := 0) (Below.refl 0 wa) (Nat.zero_le _) [.string src, .slice va L.length vc, .int .i64 lv, .int .u32 c, .int .i64 0, .int .i64 0]).size
      have HG : Hid (GSt w wc.heap.size src (.slice fa fl.length fc) lv c fr til (.slice va L.length vc) L src lv 0 0 (wa.setCells wc.heap.size 0 [.string src, .slice va L.length vc, .int .i64 lv, .int .u32 c, .int .i64 0, .int .i64 0])) := Lib.hid ⟨HA.out.later hB9 (by omega), hZ9, World.there_setCells hT wc.heap.size 0 [.string src, .slice va L.length vc, .int .i64 lv, .int .u32 c, .int .i64 0, .int .i64 0], there_later HT.out hB9 (by omega), hF9, hfar, by omega, hL9, HB0.out.trans (hB9.mono HB0.out.size)⟩
      have HB9 := Lib.hid hB9
      clear hB9 hF9 hZ9 hL9
      refine held_step (i := 9) rfl (by kernel_rfl) (fun K hK => ?_)
      go_simp
      refine hK.out _ _ ⟨keep_cell q0 HB9.out (by omega), keep_cell q1 HB9.out (by omega), keep_cell q2 HB9.out (by omega), keep_cell q3 HB9.out (by omega), keep_cell q4 HB9.out (by omega), keep_cell q5 HB9.out (by omega)⟩ (fun hHeld => ?_)
      clear hK K
      (try simp only [Act.put, List.setIfInBounds_toArray, List.set_cons_zero, List.set_cons_succ])
      refine wpAnyH_done (by kernel_rfl) ?_ _
      go_wp2
      go_meet
      exact ⟨wc.heap.size, _, rfl, hfit, hright, HG.out⟩
    · have haa := alloc_below wd (.cells #[.string ⟨#[]⟩, .slice none 0 0, .int .i64 0, .int .u32 0, .int .i64 0, .int .i64 0] 50)
      have hBa := hd.trans (haa.mono hd.size)
      have hTa := box_there (Below.refl (wd.alloc (.cells #[.string ⟨#[]⟩, .slice none 0 0, .int .i64 0, .int .u32 0, .int .i64 0, .int .i64 0] 50)).heap.size (wd.alloc (.cells #[.string ⟨#[]⟩, .slice none 0 0, .int .i64 0, .int .u32 0, .int .i64 0, .int .i64 0] 50)))
      have hlta : wd.heap.size < (wd.alloc (.cells #[.string ⟨#[]⟩, .slice none 0 0, .int .i64 0, .int .u32 0, .int .i64 0, .int .i64 0] 50)).heap.size := by rw [World.size_alloc]; omega
      go_simp
      refine hK.out _ _ ⟨keep_cell q0 hBa (by omega), keep_cell q1 hBa (by omega), keep_cell q2 hBa (by omega), keep_cell q3 hBa (by omega), keep_cell q4 hBa (by omega), keep_cell q5 hBa (by omega)⟩ (fun hHeld => ?_)
      clear hK K
      (try simp only [Act.put, List.setIfInBounds_toArray, List.set_cons_zero, List.set_cons_succ])
      have hT : (wd.alloc (.cells #[.string ⟨#[]⟩, .slice none 0 0, .int .i64 0, .int .u32 0, .int .i64 0, .int .i64 0] 50)).there wd.heap.size 0 6 := hTa
      clear hTa
      generalize wd.alloc (.cells #[.string ⟨#[]⟩, .slice none 0 0, .int .i64 0, .int .u32 0, .int .i64 0, .int .i64 0] 50) = wa at *
      refine held_call (i := 4) rfl (by kernel_rfl) (by rfl) (fun K hK => ?_)
      go_simp; go_at_call 90; refine (K1.out _ (HB0.out.trans (hBa.mono HB0.out.size))).mono ?_; rintro e wc ⟨vz, rfl, hFz, hfit, hright, hOz, hbc⟩
      obtain ⟨va, vc, rfl, _, _⟩ := RdAt.shape hFz
      have hBc := hBa.trans (hbc.mono hBa.size)
      refine hK.out _ _ ⟨keep_cell q0 hBc (by omega), keep_cell q1 hBc (by omega), keep_cell q2 hBc (by omega), keep_cell q3 hBc (by omega), keep_cell q4 hBc (by omega), keep_cell q5 hBc (by omega)⟩ (fun hHeld => ?_)
      clear hK K
      (try simp only [Act.put, List.setIfInBounds_toArray, List.set_cons_zero, List.set_cons_succ])
      refine held_take (i := 7) (v := ?_) rfl rfl (by kernel_rfl) (by kernel_rfl) (by kernel_rfl) (fun _ _ _ h => h) (by rfl) hHeld ?_ ?_
      rotate_left
      · rintro wh ⟨z0, z1, z2, z3, z4, z5⟩
        go_simp
        (try with_reducible rfl)
      simp only [Act.put, List.setIfInBounds_toArray, List.set_cons_zero, List.set_cons_succ]
      have hT := there_later hT hbc hlta
      have hfar : 0 < L.length → ∀ q, (Value.slice va L.length vc).ownBlock = some q → q ≠ wd.heap.size ∧ q ≠ w.heap.size + 1 ∧ w.heap.size ≤ q := fun _ q hq => by have := hOz q hq; omega
      have f0 := there_free hT 0 (by decide)
      have f1 := there_free hT 1 (by decide)
      have f2 := there_free hT 2 (by decide)
      have f3 := there_free hT 3 (by decide)
      have f4 := there_free hT 4 (by decide)
      have f5 := there_free hT 5 (by decide)
      obtain ⟨y0, hy0⟩ := there_cell hT 0 (by decide)
      obtain ⟨y1, hy1⟩ := there_cell hT 1 (by decide)
      obtain ⟨y2, hy2⟩ := there_cell hT 2 (by decide)
      obtain ⟨y3, hy3⟩ := there_cell hT 3 (by decide)
      obtain ⟨y4, hy4⟩ := there_cell hT 4 (by decide)
      obtain ⟨y5, hy5⟩ := there_cell hT 5 (by decide)
      have hB9 : Below W0.heap.size W0 (wc.setCells wd.heap.size 0 [.string src, .slice va L.length vc, .int .i64 lv, .int .u32 c, .int .i64 0, .int .i64 0]) := below_puts (g := wd.heap.size) (o := 0) hBc (by omega) [.string src, .slice va L.length vc, .int .i64 lv, .int .u32 c, .int .i64 0, .int .i64 0]
      have hF9 : FldsAt (wc.setCells wd.heap.size 0 [.string src, .slice va L.length vc, .int .i64 lv, .int .u32 c, .int .i64 0, .int .i64 0]) (.slice va L.length vc) L := rd_puts' (g := wd.heap.size) (o := 0) hFz (fun h0 q hq => (hfar h0 q hq).1) [.string src, .slice va L.length vc, .int .i64 lv, .int .u32 c, .int .i64 0, .int .i64 0]
      have hZ9 := c6_puts wc wd.heap.size (.string src) (.slice va L.length vc) (.int .i64 lv) (.int .u32 c) (.int .i64 0) (.int .i64 0) hT
      have hL9 : wd.heap.size < (wc.setCells wd.heap.size 0 [.string src, .slice va L.length vc, .int .i64 lv, .int .u32 c, .int .i64 0, .int .i64 0]).heap.size := Nat.lt_of_lt_of_le (Nat.lt_of_lt_of_le hlta hbc.size) (below_puts_base (g := wd.heap.size) (o := 0) (Below.refl 0 wc) (Nat.zero_le _) [.string src, .slice va L.length vc, .int .i64 lv, .int .u32 c, .int .i64 0, .int .i64 0]).size
      have HG : Hid (GSt w wd.heap.size src (.slice fa fl.length fc) lv c fr til (.slice va L.length vc) L src lv 0 0 (wc.setCells wd.heap.size 0 [.string src, .slice va L.length vc, .int .i64 lv, .int .u32 c, .int .i64 0, .int .i64 0])) := Lib.hid ⟨HA.out.later hB9 (by omega), hZ9, World.there_setCells hT wd.heap.size 0 [.string src, .slice va L.length vc, .int .i64 lv, .int .u32 c, .int .i64 0, .int .i64 0], there_later HT.out hB9 (by omega), hF9, hfar, by omega, hL9, HB0.out.trans (hB9.mono HB0.out.size)⟩
      have HB9 := Lib.hid hB9
      clear hB9 hF9 hZ9 hL9
      refine held_step (i := 9) rfl (by kernel_rfl) (fun K hK => ?_)
      go_simp
      refine hK.out _ _ ⟨keep_cell q0 HB9.out (by omega), keep_cell q1 HB9.out (by omega), keep_cell q2 HB9.out (by omega), keep_cell q3 HB9.out (by omega), keep_cell q4 HB9.out (by omega), keep_cell q5 HB9.out (by omega)⟩ (fun hHeld => ?_)
      clear hK K
      (try simp only [Act.put, List.setIfInBounds_toArray, List.set_cons_zero, List.set_cons_succ])
      refine wpAnyH_done (by kernel_rfl) ?_ _
      go_wp2
      go_meet
      exact ⟨wd.heap.size, _, rfl, hfit, hright, HG.out⟩
  case rest =>
    obtain ⟨go, vo, rfl, hfit, hright, hG⟩ := hcut
    clear q0 q1 q2 q3 q4 q5 HA HB0 HT hz
    have HFT := Lib.hid hfit
    have HRT := Lib.hid hright
    have k2 := K2.out
    obtain ⟨nb, hnb⟩ : ∃ nb, nameL (B src) = nb := ⟨_, rfl⟩
    simp only [hnb] at k2
    have HS : Hid (gSrc src = if nb then src else ⟨#[112, 114, 111, 109]⟩) := by show _ = _; unfold gSrc; rw [hnb]
    have HG := Lib.hid hG
    obtain ⟨o0, o1, o2, o3, o4, o5⟩ := hG.o
    have f0 := there_free hG.oth 0 (by decide)
    clear hfit hright hnb K1 K2 hG
    go_upto_if 16 with (go_at_call 55; refine (k2 _).mono ?_; rintro e w2 ⟨rfl, rfl⟩)
    go_cut [] (fun wx => GSt w go src (.slice fa fl.length fc) lv c fr til vo L (gSrc src) lv 0 0 wx)
    case first =>
      clear k2
      cases nb
      · go_wp2
        go_meet
        rw [HS.out]
        exact HG.out.put0 _
      · go_wp2
        go_meet
        rw [HS.out]
        exact HG.out
    case rest =>
      have HG := Lib.hid hcut
      have k3 := K3.out
      obtain ⟨nb, hnb⟩ : ∃ nb, rightL lv = nb := ⟨_, rfl⟩
      simp only [hnb] at k3
      have HSL : Hid (gLv lv = if nb then lv else 1) := by show _ = _; unfold gLv; rw [hnb]
      clear o0 o1 o2 o3 o4 o5 f0 HS k2 hcut hnb K3
      obtain ⟨o0, o1, o2, o3, o4, o5⟩ := HG.out.o
      go_wp2_with fail
      refine (k3 _).mono ?_
      rintro e w3 ⟨rfl, hb3⟩
      have HG3 := Lib.hid (HG.out.later hb3)
      clear o0 o1 o2 o3 o4 o5 HG hb3 k3
      obtain ⟨o0, o1, o2, o3, o4, o5⟩ := HG3.out.o
      have f2 := there_free HG3.out.oth 2 (by decide)
      go_upto_if 21 with fail
      go_cut [] (fun wx => GSt w go src (.slice fa fl.length fc) lv c fr til vo L (gSrc src) (gLv lv) 0 0 wx)
      case first =>
        cases nb
        · go_wp2
          go_meet
          rw [HSL.out]
          exact HG3.out.put2 _
        · go_wp2
          go_meet
          rw [HSL.out]
          exact HG3.out
      case rest =>
        have HG4 := Lib.hid hcut
        clear o0 o1 o2 o3 o4 o5 f2 HG3 hcut HSL
        obtain ⟨a0, a1, a2, a3, a4, a5⟩ := HG4.out.a
        have f4 := there_free HG4.out.oth 4 (by decide)
        obtain ⟨u, hu⟩ : ∃ u, IntKind.u64.wrap fr = u := ⟨_, rfl⟩
        obtain ⟨f', hf'⟩ : ∃ f', u.tmod 1000 = f' := ⟨_, rfl⟩
        have hgf : gFr fr = f' := by unfold gFr; rw [hu, hf']
        have hfin := gFr_in fr
        rw [hgf] at hfin
        have hf1 : IntKind.i64.wrap f' = f' := IntWalk.i64_in _ ⟨by omega, by omega⟩
        obtain ⟨_, _, _, _, o4, _⟩ := HG4.out.o
        go_upto_region 7 with fail
        change Code.wp _ _ _ _ (wc.setCells go 4 [.int .i64 f'])
        have HG5 := Lib.hid (HG4.out.put4 f')
        generalize wc.setCells go 4 [.int .i64 f'] = w5 at *
        clear a0 a1 a2 a3 a4 a5 o4 f4 HG4 hu hf' hf1
        have HGF := Lib.hid hgf
        clear hgf
        obtain ⟨a0, a1, a2, a3, a4, a5⟩ := HG5.out.a
        obtain ⟨o0, o1, o2, o3, o4, o5⟩ := HG5.out.o
        have f5 := there_free HG5.out.oth 5 (by decide)
        go_upto_if 32 with fail
        go_cut [] (fun wx => GSt w go src (.slice fa fl.length fc) lv c fr til vo L (gSrc src) (gLv lv) (gFr fr) (gTil fr til) wx)
        case first =>
          by_cases h0 : til = 0
          · have hb : (til != 0) = false := by rw [h0]; rfl
            have HE : Hid (gTil fr til = 0) := by show _ = _; unfold gTil; rw [if_pos h0]
            clear h0
            go_wp2
            go_meet
            rw [HE.out, HGF.out]
            exact HG5.out
          · have hb : (til != 0) = true := by rw [bne_iff_ne]; exact h0
            have hu0 : 0 ≤ IntKind.u64.wrap til := by simp only [IntKind.wrap, IntKind.bits, IntKind.signed]; simp; omega
            obtain ⟨u2, hu2⟩ : ∃ u2, IntKind.u64.wrap til = u2 := ⟨_, rfl⟩
            obtain ⟨t2, ht2⟩ : ∃ t2, u2.tmod 1000 = t2 := ⟨_, rfl⟩
            have ht3 : 0 ≤ t2 ∧ t2 < 1000 := by
              rw [← ht2, Int.tmod_eq_emod_of_nonneg (by rw [← hu2]; exact hu0)]; omega
            have HE : Hid (gTil fr til = f' + 1 + t2) := by show _ = _; unfold gTil; rw [if_neg h0, HGF.out, hu2, ht2]
            have w1 : IntKind.i64.wrap t2 = t2 := IntWalk.i64_in _ ⟨by omega, by omega⟩
            have w2 : IntKind.i64.wrap (f' + 1) = f' + 1 := IntWalk.i64_in _ ⟨by omega, by omega⟩
            have w3 : IntKind.i64.wrap (f' + 1 + t2) = f' + 1 + t2 := IntWalk.i64_in _ ⟨by omega, by omega⟩
            have e5 := there_cell HG5.out.oth 5 (by decide)
            clear h0 hu0 ht3
            go_wp2
            go_meet
            rw [HE.out, HGF.out]
            exact HG5.out.put5 _
        case rest =>
          have HG6 := Lib.hid hcut
          clear a0 a1 a2 a3 a4 a5 o0 o1 o2 o3 o4 o5 f5 HG5 hcut HGF
          obtain ⟨va, vc, rfl, _, _⟩ := RdAt.shape HG6.out.f
          obtain ⟨o0, o1, o2, o3, o4, o5⟩ := HG6.out.o
          have hp : ∀ o v, wc.drew.cell? ⟨go, o, none⟩ = some v → (wc.drew.setCells (w.heap.size + 1) 0 [.string (gSrc src), .slice va L.length vc, .int .i64 (gLv lv), .int .u32 c, .int .i64 (gFr fr), .int .i64 (gTil fr til)]).cell? ⟨go, o, none⟩ = some v := fun o v h => by
            rw [World.cell?_setCells_out _ _ _ _ _ (fun hb _ => by have := HG6.out.ge; simp at hb; omega)]
            exact h
          go_upto_region 9 with fail
          refine wp_region_held_drew (S := (fun W => W.cell? ⟨go, 0, none⟩ = some (.string (gSrc src)) ∧ W.cell? ⟨go, 1, none⟩ = some (.slice va L.length vc) ∧ W.cell? ⟨go, 2, none⟩ = some (.int .i64 (gLv lv)) ∧ W.cell? ⟨go, 3, none⟩ = some (.int .u32 c) ∧ W.cell? ⟨go, 4, none⟩ = some (.int .i64 (gFr fr)) ∧ W.cell? ⟨go, 5, none⟩ = some (.int .i64 (gTil fr til)))) (by kernel_rfl) ⟨o0, o1, o2, o3, o4, o5⟩ (fun hHeld => ?_)
          have HG7 := Lib.hid (HG6.out.later (Below.refl _ wc).drew)
          clear HG6
          generalize wc.drew = wd at *
          have f0 := there_free HG7.out.rth 0 (by decide)
          obtain ⟨y0, hy0⟩ := there_cell HG7.out.rth 0 (by decide)
          have f1 := there_free HG7.out.rth 1 (by decide)
          obtain ⟨y1, hy1⟩ := there_cell HG7.out.rth 1 (by decide)
          have f2 := there_free HG7.out.rth 2 (by decide)
          obtain ⟨y2, hy2⟩ := there_cell HG7.out.rth 2 (by decide)
          have f3 := there_free HG7.out.rth 3 (by decide)
          obtain ⟨y3, hy3⟩ := there_cell HG7.out.rth 3 (by decide)
          have f4 := there_free HG7.out.rth 4 (by decide)
          obtain ⟨y4, hy4⟩ := there_cell HG7.out.rth 4 (by decide)
          have f5 := there_free HG7.out.rth 5 (by decide)
          obtain ⟨y5, hy5⟩ := there_cell HG7.out.rth 5 (by decide)
          refine held_take (i := 0) (v := ?_) rfl rfl (by kernel_rfl) (by kernel_rfl) (by kernel_rfl) (fun _ _ _ h => h) (by rfl) hHeld ?_ ?_
          rotate_left
          · rintro wh ⟨z0, z1, z2, z3, z4, z5⟩
            go_simp
            (try with_reducible rfl)
          simp only [Act.put, List.setIfInBounds_toArray, List.set_cons_zero, List.set_cons_succ]
          refine held_take (i := 1) (v := ?_) rfl rfl (by kernel_rfl) (by kernel_rfl) (by kernel_rfl) (fun _ _ _ h => h) (by rfl) hHeld ?_ ?_
          rotate_left
          · rintro wh ⟨z0, z1, z2, z3, z4, z5⟩
            go_simp
            (try with_reducible rfl)
          simp only [Act.put, List.setIfInBounds_toArray, List.set_cons_zero, List.set_cons_succ]
          refine held_take (i := 2) (v := ?_) rfl rfl (by kernel_rfl) (by kernel_rfl) (by kernel_rfl) (fun _ _ _ h => h) (by rfl) hHeld ?_ ?_
          rotate_left
          · rintro wh ⟨z0, z1, z2, z3, z4, z5⟩
            go_simp
            (try with_reducible rfl)
          simp only [Act.put, List.setIfInBounds_toArray, List.set_cons_zero, List.set_cons_succ]
          refine held_take (i := 3) (v := ?_) rfl rfl (by kernel_rfl) (by kernel_rfl) (by kernel_rfl) (fun _ _ _ h => h) (by rfl) hHeld ?_ ?_
          rotate_left
          · rintro wh ⟨z0, z1, z2, z3, z4, z5⟩
            go_simp
            (try with_reducible rfl)
          simp only [Act.put, List.setIfInBounds_toArray, List.set_cons_zero, List.set_cons_succ]
          refine held_take (i := 4) (v := ?_) rfl rfl (by kernel_rfl) (by kernel_rfl) (by kernel_rfl) (fun _ _ _ h => h) (by rfl) hHeld ?_ ?_
          rotate_left
          · rintro wh ⟨z0, z1, z2, z3, z4, z5⟩
            go_simp
            (try with_reducible rfl)
          simp only [Act.put, List.setIfInBounds_toArray, List.set_cons_zero, List.set_cons_succ]
          refine held_step (i := 5) rfl (by kernel_rfl) (fun K hK => ?_)
          go_simp
          refine hK.out _ _ ⟨hp _ _ HG7.out.o.1, hp _ _ HG7.out.o.2.1, hp _ _ HG7.out.o.2.2.1, hp _ _ HG7.out.o.2.2.2.1, hp _ _ HG7.out.o.2.2.2.2.1, hp _ _ HG7.out.o.2.2.2.2.2⟩ (fun hHeld => ?_)
          clear hK K
          (try simp only [Act.put, List.setIfInBounds_toArray])
          refine held_take (i := 6) (v := ?_) rfl rfl (by kernel_rfl) (by kernel_rfl) (by kernel_rfl) (fun _ _ _ h => h) (by rfl) hHeld ?_ ?_
          rotate_left
          · rintro wh ⟨z0, z1, z2, z3, z4, z5⟩
            go_simp
            (try with_reducible rfl)
          simp only [Act.put, List.setIfInBounds_toArray, List.set_cons_zero, List.set_cons_succ]
          refine wpAnyH_done (by kernel_rfl) ?_ _
          go_wp2
          refine bodyPost_ret (results_agg2 rfl _ _ (w.heap.size + 1) [.string (gSrc src), .slice va L.length vc, .int .i64 (gLv lv), .int .u32 c, .int .i64 (gFr fr), .int .i64 (gTil fr til)] (.struct _) rfl (World.rangeAt_setCells_same wd (w.heap.size + 1) 0 [.string (gSrc src), .slice va L.length vc, .int .i64 (gLv lv), .int .u32 c, .int .i64 (gFr fr), .int .i64 (gTil fr til)] HG7.out.rth) Tryz.underlying50 rfl (by kernel_rfl)) rfl ?_
          have hbb := below_puts (g := w.heap.size + 1) (o := 0) HG7.out.below (by omega) [.string (gSrc src), .slice va L.length vc, .int .i64 (gLv lv), .int .u32 c, .int .i64 (gFr fr), .int .i64 (gTil fr til)]
          have hF3 := rd_puts' (g := w.heap.size + 1) (o := 0) HG7.out.f (fun h0 q hq => (HG7.out.far h0 q hq).2.1) [.string (gSrc src), .slice va L.length vc, .int .i64 (gLv lv), .int .u32 c, .int .i64 (gFr fr), .int .i64 (gTil fr til)]
          exact ⟨_, by simp, hF3, HFT.out, HRT.out, fun h0 q hq => (HG7.out.far h0 q hq).2.2, hbb⟩
end Go.Proofs.YtcfococinllcmaaGreat

/- SilenceTimes, plainly; a silence as an argument. -/
namespace Go.Proofs.YtcfococinllcmaaGreat
open Go.RowKit

theorem flows_top {l : Int} {c : Nat} (h1 : rightL l = true) : flowsL l c 7 4294967295 = true := by
  unfold flowsL
  rw [h1]
  unfold rightL at h1
  rw [decide_eq_true_eq] at h1
  have h2 : subB c 4294967295 = true := by
    unfold subB
    rw [List.all_eq_true]
    intro k hk
    have hk' := List.mem_range.1 hk
    have : ∀ k : Fin 32, (4294967295 : Nat).testBit k.val = true := by decide +kernel
    rw [this ⟨k, hk'⟩, Bool.or_true]
  rw [h2]
  simp [rightL]
  omega
theorem rightS_lv {s : Sil} (h : rightS s = true) : rightL s.lv = true := by
  unfold rightS at h
  simp only [Bool.and_eq_true] at h
  exact h.2
theorem gLv_right (l : Int) : rightL (gLv l) = true := by
  unfold gLv
  split
  · assumption
  · rfl
theorem seesL_top (G : List Fld) {lv : Int} {ac : Nat} (hl : rightL lv = true) : visL [] G (lv, ac) (7, 4294967295) = G := by
  have h : ∀ x, seesL [] (lv, ac) (7, 4294967295) x = flowsL lv ac 7 4294967295 := fun x => rfl
  unfold visL
  rw [show seesL [] (lv, ac) (7, 4294967295) = (fun _ => flowsL lv ac 7 4294967295) from funext h, flows_top hl]
  simp
theorem quiet_list (G : List Fld) {lv : Int} {ac : Nat} (S : List Sil) (now : Int) (hl : rightL lv = true) : quietL [] S G (lv, ac) (7, 4294967295) now = if 0 < G.length then (S.filter fun s => quietS G (7, 4294967295) now s).map (·.id) else [] := by
  unfold quietL cutOk
  rw [seesL_top G hl, flows_top hl]
  by_cases h : 0 < G.length <;> simp [h]
/-- one silence keeps quiet, or none -/
noncomputable def keepB (G : List Fld) (t : Sil) (now : Int) : Bool := decide (0 < G.length) && allM G t.ms && (decide (t.fr ≤ now) && decide (now < t.til))
theorem quiet_one (G : List Fld) {lv : Int} {ac : Nat} (t : Sil) (now : Int) (hl : rightL lv = true) (ht : rightL t.lv = true) : (quietL [] [t] G (lv, ac) (7, 4294967295) now).length = if keepB G t now = true then 1 else 0 := by
  rw [quiet_list G [t] now hl]
  unfold keepB
  by_cases h : 0 < G.length
  · rw [if_pos h, decide_eq_true h, List.filter_cons, List.filter_nil]
    have e : quietS G (7, 4294967295) now t = (allM G t.ms && (decide (t.fr ≤ now) && decide (now < t.til))) := by
      unfold quietS
      rw [flows_top ht]
      cases allM G t.ms <;> cases decide (t.fr ≤ now) <;> cases decide (now < t.til) <;> rfl
    rw [e, Bool.true_and]
    split <;> rfl
  · rw [if_neg h, decide_eq_false h]
    rfl
theorem quiet_none (G : List Fld) {lv : Int} {ac : Nat} (now : Int) (hl : rightL lv = true) : (quietL [] [] G (lv, ac) (7, 4294967295) now).length = 0 := by
  rw [quiet_list G [] now hl]
  split <;> rfl
theorem end_known (t : Sil) (now : Int) (h : t.id = 1) : endE [t] 1 now = if t.til ≤ now then 5 else 0 := by
  unfold endE
  rw [List.find?_cons, show (t.id == 1) = true by rw [h]; rfl]
theorem end_after (t : Sil) (now : Int) (h : t.id = 1) (hl : ¬ t.til ≤ now) : endL [t] 1 now = [] ∨ endL [t] 1 now = [{ t with til := now }] := by
  unfold endL
  rw [List.find?_cons, show (t.id == 1) = true by rw [h]; rfl]
  dsimp only
  rw [if_neg hl]
  split
  · left
    rw [List.filter_cons, show (t.id == 1) = true by rw [h]; rfl]
    rfl
  · right
    unfold setS
    simp
theorem end_shut (t : Sil) (now : Int) (h : t.id = 1) : endE [{ t with til := now }] 1 now = 5 := by
  rw [end_known _ _ (by exact h)]
  exact if_pos (Int.le_refl _)
theorem quiet_shut (G : List Fld) {lv : Int} {ac : Nat} (t : Sil) (now : Int) (hl : rightL lv = true) (ht : rightL t.lv = true) : (quietL [] [{ t with til := now }] G (lv, ac) (7, 4294967295) now).length = 0 := by
  rw [quiet_one G { t with til := now } now hl ht]
  unfold keepB
  rw [decide_eq_false (show ¬ now < ({ t with til := now } : Sil).til from Int.lt_irrefl _)]
  simp
/-- behind the end: nothing is kept quiet, and it is over -/
theorem times_after (G : List Fld) {lv : Int} {ac : Nat} (t : Sil) (now : Int) (hl : rightL lv = true) (ht : rightL t.lv = true) (h : t.id = 1) (hn : ¬ t.til ≤ now) : (quietL [] (endL [t] 1 now) G (lv, ac) (7, 4294967295) now).length = 0 ∧ endE (endL [t] 1 now) 1 now = 5 := by
  rcases end_after t now h hn with e | e
  · rw [e]
    exact ⟨quiet_none G now hl, rfl⟩
  · rw [e]
    exact ⟨quiet_shut G t now hl ht, end_shut t now h⟩
/-- a silence of an argument -/
def ArgSil (w : World) (v : Value) (i : Int) (s : Sil) : Prop := v = rsV i s ∧ MtsAt w (SV s.mv) s.ms ∧ MtsFit s.ms ∧ s.ms.length ≤ maxLen ∧ s.c < 4294967296
set_option maxRecDepth 100000 in
theorem sil_of_arg {H : Type} {enc : TypeId × Value → H} {W : World} {base : Nat} {v : Value} {d : DataW H} {p : List MemPlace} (hval : Value.okWide Tryz.prog W .any base 58 v) (h : DataW.Trod enc Tryz.prog W 0 (fun _ => true) true 58 v d p) : ∃ i s, ArgSil W v i s := by
  obtain ⟨cs, rfl, hsz, _⟩ : ∃ cs, v = .agg cs ∧ cs.size = Tryz.prog.cellsOf 58 ∧ Row.okWide Tryz.prog W .any base 58 cs := by
    simpa [Value.okWide, Tryz.underlying58] using hval
  rw [show Tryz.prog.cellsOf 58 = 6 by kernel_rfl] at hsz
  obtain ⟨fuel, hf⟩ := h
  obtain ⟨l⟩ := cs
  match l, hsz with
  | [c0, c1, c2, c3, c4, c5], _ =>
    obtain ⟨i, f, t, l, c, mv, ms, e3, e4, e5, e6, e7, e8, hc, hm, hmf, hml⟩ := sil_of_trod hf
    subst e3 e4 e5 e6 e7 e8
    exact ⟨i, ⟨0, mv, ms, f, t, l, c⟩, rfl, hm, hmf, hml, hc⟩
end Go.Proofs.YtcfococinllcmaaGreat

/- the law's lives: what its values are, plainly. -/
namespace Go.Proofs.YtcfococinllcmaaGreat
open Go.RowKit

abbrev teamB : ByteArray := ⟨#[116, 101, 97, 109]⟩
abbrev tB : ByteArray := ⟨#[116]⟩
/-- the matcher, the silence, the fields of lives -/
abbrev mtL : Mt := ⟨teamB, 0, tB⟩
abbrev silL (mv : Option Addr × Nat × Nat) : Sil := ⟨0, mv, [mtL], 0, 9, 5, 0⟩
abbrev flL : List Fld := [(teamB, tB)]
theorem fine_mtL : fineM mtL = true := by
  unfold fineM
  have h : nameL (B teamB) = true := by kernel_rfl
  rw [h]
  rfl
theorem right_silL (mv : Option Addr × Nat × Nat) : rightS (silL mv) = true := by
  unfold rightS
  have h : ([mtL].any fun m => !fineM m) = false := by simp [fine_mtL]
  show (decide (0 < 1) && decide (1 ≤ 12) && !([mtL].any fun m => !fineM m) && decide ((0 : Int) ≤ 0) && decide ((0 : Int) < 9) && decide ((9 : Int) ≤ 1099511627776) && rightL 5) = true
  rw [h]
  rfl
theorem fit_mtL : fitM flL mtL = true := by
  unfold fitM
  rw [fine_mtL]
  have hv : valueF flL mtL.nm = tB := by kernel_rfl
  rw [hv]
  unfold opM
  rw [if_pos rfl]
  have h : ((tB : ByteArray).toList == mtL.val.toList) = true := by kernel_rfl
  rw [h]; rfl
theorem quiet_high (id : Int) (mv : Option Addr × Nat × Nat) : quietS flL (5, 0) 4 { silL mv with id := id } = true := by
  unfold quietS
  have h1 : allM flL [mtL] = true := by unfold allM; simp [fit_mtL]
  have h2 : flowsL 5 0 5 0 = true := by decide
  show (flowsL 5 0 5 0 && decide ((0 : Int) ≤ 4) && decide ((4 : Int) < 9) && allM flL [mtL]) = true
  rw [h1, h2]; rfl
theorem quiet_low (id : Int) (mv : Option Addr × Nat × Nat) : quietS flL (3, 0) 4 { silL mv with id := id } = false := by
  unfold quietS
  have h2 : flowsL 5 0 3 0 = false := by decide
  show (flowsL 5 0 3 0 && decide ((0 : Int) ≤ 4) && decide ((4 : Int) < 9) && allM flL [mtL]) = false
  rw [h2]; rfl
theorem quietL_low (mv : Option Addr × Nat × Nat) : quietL [] [{ silL mv with id := 1 }] flL (0, 0) (3, 0) 4 = [] := by
  unfold quietL
  have hv : visL [] flL (0, 0) (3, 0) = flL := by kernel_rfl
  rw [hv, List.filter_cons, quiet_low 1 mv]
  simp
theorem quietL_high (mv : Option Addr × Nat × Nat) : quietL [] [{ silL mv with id := 1 }] flL (0, 0) (5, 0) 4 = [1] := by
  unfold quietL
  have hv : visL [] flL (0, 0) (5, 0) = flL := by kernel_rfl
  have hc : cutOk [] flL (0, 0) (5, 0) = true := by kernel_rfl
  rw [hv, hc, List.filter_cons, quiet_high 1 mv]
  simp
theorem end_one (mv : Option Addr × Nat × Nat) : endE [{ silL mv with id := 1 }] 1 5 = 0 ∧ endL [{ silL mv with id := 1 }] 1 5 = [{ silL mv with id := 1, til := 5 }] := by
  constructor <;> rfl
theorem forget_one (mv : Option Addr × Nat × Nat) : [({ silL mv with id := 1, til := 5 } : Sil)].countP (endS 5) = 1 := by rfl
end Go.Proofs.YtcfococinllcmaaGreat

/- the law's alert: good. -/
namespace Go.Proofs.YtcfococinllcmaaGreat
open Go.RowKit

/-- results of two structs -/
theorem results_agg22 {P : Program} {fn : Func} {p u : Tmp} {t1 t2 : TypeId} (h : fn.results = #[.cell p t1, .cell u t2]) (tmps : Array Value) (w : World) (g k : Nat) (cs ds : List Value) (d1 d2 : TypeDesc)
    (hp : tmps.getD p undef = .pointer (some ⟨g, 0, none⟩)) (hc : w.rangeAt g 0 cs) (hu : P.underlying t1 = some d1) (hd : d1.isRow = true) (hi : (P.info? t1).map (·.size) = some cs.length)
    (hp2 : tmps.getD u undef = .pointer (some ⟨k, 0, none⟩)) (hc2 : w.rangeAt k 0 ds) (hu2 : P.underlying t2 = some d2) (hd2 : d2.isRow = true) (hi2 : (P.info? t2).map (·.size) = some ds.length) :
    (results fn tmps).run P w = .ok (.tuple #[.agg cs.toArray, .agg ds.toArray]) w := by
  have hp' : tmps[p]?.getD undef = .pointer (some ⟨g, 0, none⟩) := by simpa using hp
  have hp2' : tmps[u]?.getD undef = .pointer (some ⟨k, 0, none⟩) := by simpa using hp2
  simp [results, h, hp', hp2', asAddr, run_loadVar_mid (P := P) w g 0 t1 cs d1 hc hu hd hi, run_loadVar_mid (P := P) w k 0 t2 ds d2 hc2 hu2 hd2 hi2]
theorem alc6 (W : World) (a b c d e f : Value) (t : TypeId) : C6 W.heap.size a b c d e f (W.alloc (.cells #[a, b, c, d, e, f] t)) := by
  have hc : ∀ (j : Nat), (W.alloc (.cells #[a, b, c, d, e, f] t)).cell? ⟨W.heap.size, j, none⟩ = _ := fun j => World.cell?_alloc_at _ _ _ _ rfl
  exact ⟨hc 0, hc 1, hc 2, hc 3, hc 4, hc 5⟩
set_option maxHeartbeats 3200000 in
set_option maxRecDepth 100000 in
theorem good_any (src : ByteArray) (fl : List Fld) (fv : Value) (lv : Int) (c : Nat) (fr til : Int) (w : World) (hs : src.size ≤ maxLen) (hv : FldsAt w fv fl) (hfit : FldsFit fl) (hl : fl.length ≤ maxLen) :
    Calls Tryz.prog 22 #[.agg #[.string src, fv, .int .i64 lv, .int .u32 c, .int .i64 fr, .int .i64 til]] w fun e w' =>
      ∃ v', e = .returned (.tuple #[.agg #[.string (gSrc src), v', .int .i64 (gLv lv), .int .u32 c, .int .i64 (gFr fr), .int .i64 (gTil fr til)], .agg #[.string (gSrc src), v', .int .i64 (gLv lv), .int .u32 c, .int .i64 (gFr fr), .int .i64 (gTil fr til)]]) ∧ FldsAt w' v' (goodF fl) ∧ FldsFit (goodF fl) ∧ rightF (goodF fl) = true ∧ Below w.heap.size w w' := by
  have k9 := fun W (hW : Below w.heap.size w W) => rgood9_any src fl fv lv c fr til W hs (hv.later hW) hfit hl
  obtain ⟨fa, fc, rfl, _, _⟩ := RdAt.shape hv
  obtain ⟨W1, h1⟩ : ∃ z, w.alloc (.cells #[.string src, .slice fa fl.length fc, .int .i64 lv, .int .u32 c, .int .i64 fr, .int .i64 til] 50) = z := ⟨_, rfl⟩
  obtain ⟨W2, h2⟩ : ∃ z, W1.alloc (.cells #[.string ⟨#[]⟩, .slice none 0 0, .int .i64 0, .int .u32 0, .int .i64 0, .int .i64 0] 53) = z := ⟨_, rfl⟩
  obtain ⟨W3, h3⟩ : ∃ z, W2.alloc (.cells #[.string ⟨#[]⟩, .slice none 0 0, .int .i64 0, .int .u32 0, .int .i64 0, .int .i64 0] 50) = z := ⟨_, rfl⟩
  have s1 : W1.heap.size = w.heap.size + 1 := by rw [← h1, World.size_alloc]
  have s2 : W2.heap.size = w.heap.size + 1 + 1 := by rw [← h2, World.size_alloc, s1]
  have s3 : W3.heap.size = w.heap.size + 1 + 1 + 1 := by rw [← h3, World.size_alloc, s2]
  have b1 : Below w.heap.size w W1 := by rw [← h1]; exact alloc_below _ _
  have b2 : Below W1.heap.size W1 W2 := by rw [← h2]; exact alloc_below _ _
  have b3 : Below W2.heap.size W2 W3 := by rw [← h3]; exact alloc_below _ _
  have x1 := alc6 w (.string src) (.slice fa fl.length fc) (.int .i64 lv) (.int .u32 c) (.int .i64 fr) (.int .i64 til) 50
  have x2 := alc6 W1 (.string ⟨#[]⟩) (.slice none 0 0) (.int .i64 0) (.int .u32 0) (.int .i64 0) (.int .i64 0) 53
  have x3 := alc6 W2 (.string ⟨#[]⟩) (.slice none 0 0) (.int .i64 0) (.int .u32 0) (.int .i64 0) (.int .i64 0) 50
  have t2 := box_there (Below.refl _ (W1.alloc (.cells #[.string ⟨#[]⟩, .slice none 0 0, .int .i64 0, .int .u32 0, .int .i64 0, .int .i64 0] 53)))
  have t3 := box_there (Below.refl _ (W2.alloc (.cells #[.string ⟨#[]⟩, .slice none 0 0, .int .i64 0, .int .u32 0, .int .i64 0, .int .i64 0] 50)))
  rw [h1] at x1
  rw [h2] at x2 t2
  rw [h3] at x3 t3
  change W2.there W1.heap.size 0 6 at t2
  change W3.there W2.heap.size 0 6 at t3
  rw [s1] at x2 t2
  rw [s2] at x3 t3
  have x1 := (x1.later b2 (by omega)).later b3 (by omega)
  have x2 := x2.later b3 (by omega)
  have t2 := there_later t2 b3 (by omega)
  have hB3 : Below w.heap.size w W3 := (b1.trans (b2.mono (by omega))).trans (b3.mono (by omega))
  have k9 := k9 W3 hB3
  have HB3 := Lib.hid hB3
  have HX2 := Lib.hid x2
  have HX3 := Lib.hid x3
  have HT2 := Lib.hid t2
  have HT3 := Lib.hid t3
  generalize goodF fl = G at *
  generalize gSrc src = s' at *
  generalize gLv lv = l' at *
  generalize gFr fr = f' at *
  generalize gTil fr til = t' at *
  obtain ⟨y0, y1, y2, y3, y4, y5⟩ := x1
  clear x2 x3 t2 t3 b1 b2 b3 hB3 hv hfit hl hs
  go_enter Tryz.func22, Tryz.ntmps22
  go_upto_region 1 with fail
  try rw [h1]
  try rw [h2]
  try rw [h3]
  try rw [s1]
  try rw [s2]
  clear h1 h2 h3
  go_wp2_with fail
  refine k9.mono ?_
  rintro e w4 ⟨v', rfl, hF, hff, hrf, hfar, hb4⟩
  rw [s3] at hfar
  obtain ⟨va, vc, rfl, _, _⟩ := RdAt.shape hF
  have HF := Lib.hid hF
  have HFAR := Lib.hid hfar
  have HFF := Lib.hid hff
  have HRF := Lib.hid hrf
  have HB4 := Lib.hid (HB3.out.trans (hb4.mono HB3.out.size))
  have HX4 := Lib.hid (HX2.out.later hb4 (by omega))
  have HX5 := Lib.hid (HX3.out.later hb4 (by omega))
  have HT4 := Lib.hid (there_later HT2.out hb4 (by omega))
  have HT5 := Lib.hid (there_later HT3.out hb4 (by omega))
  have hs4 : w.heap.size + 1 + 1 + 1 ≤ w4.heap.size := by have := hb4.size; omega
  clear k9 hF hff hrf hfar hb4 HB3 HX2 HX3 HT2 HT3 y0 y1 y2 y3 y4 y5
  have hba := alloc_below w4 (.cells #[.string s', .slice va G.length vc, .int .i64 l', .int .u32 c, .int .i64 f', .int .i64 t'] 50)
  have x6 := alc6 w4 (.string s') (.slice va G.length vc) (.int .i64 l') (.int .u32 c) (.int .i64 f') (.int .i64 t') 50
  obtain ⟨W5, h5⟩ : ∃ z, w4.alloc (.cells #[.string s', .slice va G.length vc, .int .i64 l', .int .u32 c, .int .i64 f', .int .i64 t'] 50) = z := ⟨_, rfl⟩
  rw [h5] at hba x6
  have HX6 := Lib.hid x6
  have HF5 := Lib.hid (HF.out.later hba)
  have HB5 := Lib.hid (HB4.out.trans (hba.mono HB4.out.size))
  have x4 := HX4.out.later hba (by omega)
  have x5 := HX5.out.later hba (by omega)
  have t4 := there_later HT4.out hba (by omega)
  have t5 := there_later HT5.out hba (by omega)
  have HX4 := Lib.hid x4
  have HX5 := Lib.hid x5
  have HT4 := Lib.hid t4
  have HT5 := Lib.hid t5
  clear hba x6 x4 x5 t4 t5 HF HB4
  go_upto_region 2 with fail
  try rw [h5]
  clear h5
  obtain ⟨z0, z1, z2, z3, z4, z5⟩ := HX6.out
  obtain ⟨p0, p1, p2, p3, p4, p5⟩ := HX4.out
  obtain ⟨q0, q1, q2, q3, q4, q5⟩ := HX5.out
  have f0 := there_free HT4.out 0 (by omega)
  have f1 := there_free HT4.out 1 (by omega)
  have f2 := there_free HT4.out 2 (by omega)
  have f3 := there_free HT4.out 3 (by omega)
  have f4 := there_free HT4.out 4 (by omega)
  have f5 := there_free HT4.out 5 (by omega)
  have e0 := there_free HT5.out 0 (by omega)
  have e1 := there_free HT5.out 1 (by omega)
  have e2 := there_free HT5.out 2 (by omega)
  have e3 := there_free HT5.out 3 (by omega)
  have e4 := there_free HT5.out 4 (by omega)
  have e5 := there_free HT5.out 5 (by omega)
  go_region
  clear z0 z1 z2 z3 z4 z5 p0 p1 p2 p3 p4 p5 q0 q1 q2 q3 q4 q5 f0 f1 f2 f3 f4 f5 e0 e1 e2 e3 e4 e5
  have hx : (W5.setCells (w.heap.size + 1) 0 [.string s', .slice va G.length vc, .int .i64 l', .int .u32 c, .int .i64 f', .int .i64 t']).rangeAt (w.heap.size + 1) 0 [.string s', .slice va G.length vc, .int .i64 l', .int .u32 c, .int .i64 f', .int .i64 t'] := World.rangeAt_setCells_same _ _ 0 _ HT4.out
  have hT := World.there_setCells HT5.out (w.heap.size + 1) 0 [.string s', .slice va G.length vc, .int .i64 l', .int .u32 c, .int .i64 f', .int .i64 t']
  have hy := World.rangeAt_setCells_same (W5.setCells (w.heap.size + 1) 0 [.string s', .slice va G.length vc, .int .i64 l', .int .u32 c, .int .i64 f', .int .i64 t']) (w.heap.size + 1 + 1) 0 [.string s', .slice va G.length vc, .int .i64 l', .int .u32 c, .int .i64 f', .int .i64 t'] hT
  have hx2 : ((W5.setCells (w.heap.size + 1) 0 [.string s', .slice va G.length vc, .int .i64 l', .int .u32 c, .int .i64 f', .int .i64 t']).setCells (w.heap.size + 1 + 1) 0 [.string s', .slice va G.length vc, .int .i64 l', .int .u32 c, .int .i64 f', .int .i64 t']).rangeAt (w.heap.size + 1) 0 [.string s', .slice va G.length vc, .int .i64 l', .int .u32 c, .int .i64 f', .int .i64 t'] := fun j v hv => by
    rw [World.cell?_setCells_out _ _ _ _ _ (fun h _ => by simp at h)]
    exact hx j v hv
  have hba := below_puts (g := w.heap.size + 1) (o := 0) HB5.out (by omega) [.string s', .slice va G.length vc, .int .i64 l', .int .u32 c, .int .i64 f', .int .i64 t']
  have hbb := below_puts (g := w.heap.size + 1 + 1) (o := 0) hba (by omega) [.string s', .slice va G.length vc, .int .i64 l', .int .u32 c, .int .i64 f', .int .i64 t']
  have hsz : W5.heap.size ≤ ((W5.setCells (w.heap.size + 1) 0 [.string s', .slice va G.length vc, .int .i64 l', .int .u32 c, .int .i64 f', .int .i64 t']).setCells (w.heap.size + 1 + 1) 0 [.string s', .slice va G.length vc, .int .i64 l', .int .u32 c, .int .i64 f', .int .i64 t']).heap.size := ((Below.refl 0 W5).trans (below_puts_base (below_puts_base (Below.refl 0 W5) (Nat.zero_le _) [.string s', .slice va G.length vc, .int .i64 l', .int .u32 c, .int .i64 f', .int .i64 t']) (Nat.zero_le _) [.string s', .slice va G.length vc, .int .i64 l', .int .u32 c, .int .i64 f', .int .i64 t'])).size
  have HX := Lib.hid hx2
  have HY := Lib.hid hy
  have hF8 := rd_puts' (g := w.heap.size + 1) (o := 0) HF5.out (fun h0 q hq => by have := HFAR.out h0 q hq; omega) [.string s', .slice va G.length vc, .int .i64 l', .int .u32 c, .int .i64 f', .int .i64 t']
  have hF9 := rd_puts' (g := w.heap.size + 1 + 1) (o := 0) hF8 (fun h0 q hq => by have := HFAR.out h0 q hq; omega) [.string s', .slice va G.length vc, .int .i64 l', .int .u32 c, .int .i64 f', .int .i64 t']
  have HF9 : Hid (FldsAt _ _ G) := Lib.hid hF9
  have HBB := Lib.hid hbb
  clear hx hT hy hx2 hba hbb hF8 hF9
  change Exit.then _ _ _ _ (World.drew ((W5.setCells (w.heap.size + 1) 0 [.string s', .slice va G.length vc, .int .i64 l', .int .u32 c, .int .i64 f', .int .i64 t']).setCells (w.heap.size + 1 + 1) 0 [.string s', .slice va G.length vc, .int .i64 l', .int .u32 c, .int .i64 f', .int .i64 t']))
  generalize (W5.setCells (w.heap.size + 1) 0 [.string s', .slice va G.length vc, .int .i64 l', .int .u32 c, .int .i64 f', .int .i64 t']).setCells (w.heap.size + 1 + 1) 0 [.string s', .slice va G.length vc, .int .i64 l', .int .u32 c, .int .i64 f', .int .i64 t'] = WX at *
  have HX2 : Hid (WX.drew.rangeAt (w.heap.size + 1) 0 [.string s', .slice va G.length vc, .int .i64 l', .int .u32 c, .int .i64 f', .int .i64 t']) := HX
  have HY2 : Hid (WX.drew.rangeAt (w.heap.size + 1 + 1) 0 [.string s', .slice va G.length vc, .int .i64 l', .int .u32 c, .int .i64 f', .int .i64 t']) := HY
  have HBD := Lib.hid HBB.out.drew
  have HFD : Hid (FldsAt WX.drew (.slice va G.length vc) G) := HF9
  clear HX HY HBB HF9
  generalize WX.drew = WD at *
  go_wp2
  refine bodyPost_ret (results_agg22 rfl _ _ (w.heap.size + 1) (w.heap.size + 1 + 1) [.string s', .slice va G.length vc, .int .i64 l', .int .u32 c, .int .i64 f', .int .i64 t'] [.string s', .slice va G.length vc, .int .i64 l', .int .u32 c, .int .i64 f', .int .i64 t'] (.struct _) (.struct _) rfl HX2.out Tryz.underlying53 rfl (by kernel_rfl) rfl HY2.out Tryz.underlying50 rfl (by kernel_rfl)) rfl ?_
  exact ⟨_, rfl, HFD.out, HFF.out, HRF.out, HBD.out⟩
end Go.Proofs.YtcfococinllcmaaGreat

/- the law's lives is true. -/
namespace Go.Proofs.YtcfococinllcmaaGreat
open Go.RowKit

theorem quo_nil (s : Sil) : quoS [] s ≠ 10 := by simp [quoS]
/-- what lives has laid: the matcher, the silence, the field, the alert -/
structure LifeAt (w1 W : World) : Prop where
  m : MtsAt W (.slice (some ⟨w1.heap.size, 0, none⟩) 1 1) [mtL]
  s : C5 (w1.heap.size + 1) (.slice (some ⟨w1.heap.size, 0, none⟩) 1 1) (.int .i64 0) (.int .i64 9) (.int .i64 5) (.int .u32 0) W
  f : FldsAt W (.slice (some ⟨w1.heap.size + 1 + 1, 0, none⟩) 1 1) flL
  a : C6 (w1.heap.size + 1 + 1 + 1) (.string ⟨#[112, 114, 111, 109]⟩) (.slice (some ⟨w1.heap.size + 1 + 1, 0, none⟩) 1 1) (.int .i64 0) (.int .u32 0) (.int .i64 0) (.int .i64 0) W
  lt : w1.heap.size + 1 + 1 + 1 < W.heap.size
theorem LifeAt.later {w1 W W' : World} (h : LifeAt w1 W) (hb : Below W.heap.size W W') : LifeAt w1 W' := by
  have hl := h.lt
  exact ⟨RdAt.later h.m hb, h.s.later hb, RdAt.later h.f hb, h.a.later hb (by omega), Nat.lt_of_lt_of_le hl hb.size⟩
theorem LifeAt.keep {w1 W W' : World} {lp m : Nat} (h : LifeAt w1 W) (hk : Kp lp m W W') (h1 : lp < w1.heap.size) (h2 : m < w1.heap.size) : LifeAt w1 W' := by
  have hl := h.lt
  have q : ∀ b o v, w1.heap.size ≤ b → W.cell? ⟨b, o, none⟩ = some v → W'.cell? ⟨b, o, none⟩ = some v := fun b o v hb hv => hk.cell hv (by omega) (by omega)
  obtain ⟨s0, s1, s2, s3, s4⟩ := h.s
  obtain ⟨a0, a1, a2, a3, a4, a5⟩ := h.a
  refine ⟨hk.rd h.m (fun q hq => ?_), ⟨q _ _ _ (by omega) s0, q _ _ _ (by omega) s1, q _ _ _ (by omega) s2, q _ _ _ (by omega) s3, q _ _ _ (by omega) s4⟩, hk.rd h.f (fun q hq => ?_),
    ⟨q _ _ _ (by omega) a0, q _ _ _ (by omega) a1, q _ _ _ (by omega) a2, q _ _ _ (by omega) a3, q _ _ _ (by omega) a4, q _ _ _ (by omega) a5⟩, Nat.lt_of_lt_of_le hl hk.size⟩
  all_goals
    simp only [Value.ownBlock, Option.some.injEq] at hq
    omega
theorem lifeAt (w1 : World) : LifeAt w1 ((((w1.alloc (.cells #[.string teamB, .int .i64 0, .string tB] 108)).alloc (.cells #[.slice (some ⟨w1.heap.size, 0, none⟩) 1 1, .int .i64 0, .int .i64 9, .int .i64 5, .int .u32 0] 67)).alloc (.cells #[.string teamB, .string tB] 103)).alloc (.cells #[.string ⟨#[112, 114, 111, 109]⟩, .slice (some ⟨w1.heap.size + 1 + 1, 0, none⟩) 1 1, .int .i64 0, .int .u32 0, .int .i64 0, .int .i64 0] 53)) ∧ Below w1.heap.size w1 ((((w1.alloc (.cells #[.string teamB, .int .i64 0, .string tB] 108)).alloc (.cells #[.slice (some ⟨w1.heap.size, 0, none⟩) 1 1, .int .i64 0, .int .i64 9, .int .i64 5, .int .u32 0] 67)).alloc (.cells #[.string teamB, .string tB] 103)).alloc (.cells #[.string ⟨#[112, 114, 111, 109]⟩, .slice (some ⟨w1.heap.size + 1 + 1, 0, none⟩) 1 1, .int .i64 0, .int .u32 0, .int .i64 0, .int .i64 0] 53)) := by
  obtain ⟨V1, h1⟩ : ∃ z, w1.alloc (.cells #[.string teamB, .int .i64 0, .string tB] 108) = z := ⟨_, rfl⟩
  obtain ⟨V2, h2⟩ : ∃ z, V1.alloc (.cells #[.slice (some ⟨w1.heap.size, 0, none⟩) 1 1, .int .i64 0, .int .i64 9, .int .i64 5, .int .u32 0] 67) = z := ⟨_, rfl⟩
  obtain ⟨V3, h3⟩ : ∃ z, V2.alloc (.cells #[.string teamB, .string tB] 103) = z := ⟨_, rfl⟩
  obtain ⟨V4, h4⟩ : ∃ z, V3.alloc (.cells #[.string ⟨#[112, 114, 111, 109]⟩, .slice (some ⟨w1.heap.size + 1 + 1, 0, none⟩) 1 1, .int .i64 0, .int .u32 0, .int .i64 0, .int .i64 0] 53) = z := ⟨_, rfl⟩
  rw [h1, h2, h3, h4]
  have s1 : V1.heap.size = w1.heap.size + 1 := by rw [← h1, World.size_alloc]
  have s2 : V2.heap.size = w1.heap.size + 1 + 1 := by rw [← h2, World.size_alloc, s1]
  have s3 : V3.heap.size = w1.heap.size + 1 + 1 + 1 := by rw [← h3, World.size_alloc, s2]
  have s4 : V4.heap.size = w1.heap.size + 1 + 1 + 1 + 1 := by rw [← h4, World.size_alloc, s3]
  have b1 : Below w1.heap.size w1 V1 := by rw [← h1]; exact alloc_below _ _
  have b2 : Below V1.heap.size V1 V2 := by rw [← h2]; exact alloc_below _ _
  have b3 : Below V2.heap.size V2 V3 := by rw [← h3]; exact alloc_below _ _
  have b4 : Below V3.heap.size V3 V4 := by rw [← h4]; exact alloc_below _ _
  have c34 : Below V3.heap.size V3 V4 := b4
  have c24 : Below V2.heap.size V2 V4 := b3.trans (c34.mono (by omega))
  have c14 : Below V1.heap.size V1 V4 := b2.trans (c24.mono (by omega))
  have g1 : Below (w1.alloc (.cells #[.string teamB, .int .i64 0, .string tB] 108)).heap.size (w1.alloc (.cells #[.string teamB, .int .i64 0, .string tB] 108)) V4 := by rw [h1]; exact c14
  have g3 : Below (V2.alloc (.cells #[.string teamB, .string tB] 103)).heap.size (V2.alloc (.cells #[.string teamB, .string tB] 103)) V4 := by rw [h3]; exact c34
  have x2 := alc5 V1 (.slice (some ⟨w1.heap.size, 0, none⟩) 1 1) (.int .i64 0) (.int .i64 9) (.int .i64 5) (.int .u32 0) 67
  rw [h2, s1] at x2
  have m0 := box_later g1 (i := 0) rfl
  have m1 := box_later g1 (i := 1) rfl
  have m2 := box_later g1 (i := 2) rfl
  have f0 := box_later g3 (i := 0) rfl
  have f1 := box_later g3 (i := 1) rfl
  have x4 := alc6 V3 (.string ⟨#[112, 114, 111, 109]⟩) (.slice (some ⟨w1.heap.size + 1 + 1, 0, none⟩) 1 1) (.int .i64 0) (.int .u32 0) (.int .i64 0) (.int .i64 0) 53
  rw [h4, s3] at x4
  rw [s2] at f0 f1
  refine ⟨⟨RdAt.mk rfl (Nat.le_refl _) (by omega) (fun j x hj => ?_), x2.later c24, RdAt.mk rfl (Nat.le_refl _) (by omega) (fun j x hj => ?_), x4, by omega⟩, b1.trans (c14.mono (by omega))⟩
  · rw [Nat.zero_add]
    match j, hj with
    | 0, hj => rw [← Option.some.inj hj]; exact m0
    | 1, hj => rw [← Option.some.inj hj]; exact m1
    | 2, hj => rw [← Option.some.inj hj]; exact m2
    | j + 3, hj => simp [mtCells] at hj
  · rw [Nat.zero_add]
    match j, hj with
    | 0, hj => rw [← Option.some.inj hj]; exact f0
    | 1, hj => rw [← Option.some.inj hj]; exact f1
    | j + 2, hj => simp [fldCells] at hj
theorem quiet_is (s0 s1 s2 s4 s5 : Option Addr × Nat × Nat) (rs : List Nmd) (rv : Value) (src : ByteArray) (fl : List Fld) (fv : Value) (lv : Int) (c : Nat) (fr til : Int) (tl : Int) (tc : Nat) (now : Int) (lp m n : Nat) (S : List Sil) (last : Int) (w : World) (L : List Int)
    (hL : quietL rs S fl (lv, c) (tl, tc) now = L) (h : SlAt w lp m n S last) (hv : NmdsAt w rv rs) (hl : rs.length ≤ maxLen) (hf : FldsAt w fv fl) (hfl : fl.length ≤ 1000000000000) (hfit : FldsFit fl) :
    Calls Tryz.prog 29 #[.pointer (some ⟨lp, 0, none⟩), .agg #[SV s0, SV s1, SV s2, rv, SV s4, SV s5], .agg #[.string src, fv, .int .i64 lv, .int .u32 c, .int .i64 fr, .int .i64 til], Lab tl tc, .int .i64 now] w fun e w' =>
      ∃ v', e = .returned v' ∧ IntsAt w' v' L ∧ Below w.heap.size w w' := by
  subst hL
  exact quiet_any s0 s1 s2 s4 s5 rs rv src fl fv lv c fr til tl tc now lp m n S last w h hv hl hf hfl hfit
set_option maxHeartbeats 6400000 in
set_option maxRecDepth 100000 in
theorem lives_any (w : World) : Calls Tryz.prog 20 #[] w fun e w' => e = .returned (.bool true) ∧ Below w.heap.size w w' := by
  have kn := new_any w
  go_enter Tryz.func20, Tryz.ntmps20
  go_wp2_with fail
  refine kn.mono ?_
  rintro e w1 ⟨lp, m, rfl, hS, hlp, hm, hb1⟩
  have HS1 := Lib.hid hS
  have HB1 := Lib.hid hb1
  clear kn hS hb1
  go_upto_region 4 with fail
  obtain ⟨hL, hLb⟩ := lifeAt w1
  change Code.wp _ _ _ _ ((((w1.alloc (.cells #[.string teamB, .int .i64 0, .string tB] 108)).alloc (.cells #[.slice (some ⟨w1.heap.size, 0, none⟩) 1 1, .int .i64 0, .int .i64 9, .int .i64 5, .int .u32 0] 67)).alloc (.cells #[.string teamB, .string tB] 103)).alloc (.cells #[.string ⟨#[112, 114, 111, 109]⟩, .slice (some ⟨w1.heap.size + 1 + 1, 0, none⟩) 1 1, .int .i64 0, .int .u32 0, .int .i64 0, .int .i64 0] 53))
  generalize (((w1.alloc (.cells #[.string teamB, .int .i64 0, .string tB] 108)).alloc (.cells #[.slice (some ⟨w1.heap.size, 0, none⟩) 1 1, .int .i64 0, .int .i64 9, .int .i64 5, .int .u32 0] 67)).alloc (.cells #[.string teamB, .string tB] 103)).alloc (.cells #[.string ⟨#[112, 114, 111, 109]⟩, .slice (some ⟨w1.heap.size + 1 + 1, 0, none⟩) 1 1, .int .i64 0, .int .u32 0, .int .i64 0, .int .i64 0] 53) = W2 at *
  have HL := Lib.hid hL
  have H2 := Lib.hid (HS1.out.later hLb)
  have HB2 := Lib.hid (HB1.out.trans (hLb.mono HB1.out.size))
  have hlp1 : lp < w1.heap.size := cell_lt HS1.out.h0
  have hm1 : m < w1.heap.size := HS1.out.own.lt
  obtain ⟨p0, p1, p2, p3, p4⟩ := hL.s
  have hf1 : MtsFit [mtL] := fun m hm => by rw [List.mem_singleton.1 hm]; exact ⟨by decide, by decide⟩
  have kl := lay_any lp m 0 [] 0 (silL (some ⟨w1.heap.size, 0, none⟩, 1, 1)) W2 H2.out hL.m hf1 (Nat.le_of_lt (Nat.lt_of_le_of_lt (Nat.le_refl 1) (by omega))) (by omega) (by omega) (by omega)
  rw [(layE_ok (right_silL _) (quo_nil _)).1] at kl
  unfold Sil.v silL at kl
  dsimp only at kl
  clear hL hLb
  go_wp2_with fail
  refine kl.mono ?_
  rintro e w3 ⟨rfl, S', last', n', hS, hLay, hn', hk, _⟩
  have hys := (layE_ok (S := []) (last := 0) (right_silL (some ⟨w1.heap.size, 0, none⟩, 1, 1)) (quo_nil _)).2
  cases hLay with
  | no h => rw [hys] at h; cases h
  | yes _ mv =>
  change SlAt w3 lp m n' [{ silL mv with id := 1 }] 1 at hS
  have HS3 := Lib.hid hS
  have HL3 := Lib.hid (HL.out.keep hk hlp1 hm1)
  have HB3 := Lib.hid (HB2.out.trans (hk.below hlp hm HB2.out.size))
  have hff : FldsFit flL := fun f hf => by rw [List.mem_singleton.1 hf]; exact ⟨by decide, by decide⟩
  have HFF := Lib.hid hff
  clear kl hys hk hf1 H2 HL HB2 HS1 HB1 p0 p1 p2 p3 p4 hS hff
  have kq := quiet_is (none, 0, 0) (none, 0, 0) (none, 0, 0) (none, 0, 0) (none, 0, 0) [] (.slice none 0 0) ⟨#[112, 114, 111, 109]⟩ flL (.slice (some ⟨w1.heap.size + 1 + 1, 0, none⟩) 1 1) 0 0 0 0 3 0 4 lp m n' _ 1 w3 [] (quietL_low mv) HS3.out (RdAt.nil _ _) (by decide) HL3.out.f (by decide) HFF.out
  unfold SV at kq
  dsimp only at kq
  obtain ⟨a0, a1, a2, a3, a4, a5⟩ := HL3.out.a
  go_wp2_with fail
  refine kq.mono ?_
  rintro e w4 ⟨v4, rfl, hI, hb⟩
  obtain ⟨xa, xc, rfl, _, _⟩ := RdAt.shape hI
  have HS4 := Lib.hid (HS3.out.later hb)
  have HL4 := Lib.hid (HL3.out.later hb)
  have HB4 := Lib.hid (HB3.out.trans (hb.mono HB3.out.size))
  clear kq hI hb a0 a1 a2 a3 a4 a5 HS3 HL3 HB3
  have kq := quiet_is (none, 0, 0) (none, 0, 0) (none, 0, 0) (none, 0, 0) (none, 0, 0) [] (.slice none 0 0) ⟨#[112, 114, 111, 109]⟩ flL (.slice (some ⟨w1.heap.size + 1 + 1, 0, none⟩) 1 1) 0 0 0 0 5 0 4 lp m n' _ 1 w4 [1] (quietL_high mv) HS4.out (RdAt.nil _ _) (by decide) HL4.out.f (by decide) HFF.out
  unfold SV at kq
  dsimp only at kq
  obtain ⟨a0, a1, a2, a3, a4, a5⟩ := HL4.out.a
  go_wp2_with fail
  refine kq.mono ?_
  rintro e w5 ⟨v5, rfl, hI, hb⟩
  obtain ⟨yb, yo, yc, rfl, _, hyl, hyc⟩ := hI.cells (by simp)
  have y0 := hyc 0 1 rfl
  rw [Nat.add_zero] at y0
  have HS5 := Lib.hid (HS4.out.later hb)
  have HB5 := Lib.hid (HB4.out.trans (hb.mono HB4.out.size))
  clear kq hI hb a0 a1 a2 a3 a4 a5 HS4 HL4 HB4 hyc hyl HFF
  have ke := end_any lp m n' _ 1 1 5 w5 HS5.out (by decide) (by omega)
  rw [(end_one mv).1, (end_one mv).2] at ke
  go_wp2_with fail
  refine ke.mono ?_
  rintro e w6 ⟨rfl, n6, hS6, hn6, hk6⟩
  have kf := forget_any lp m n6 _ 1 5 w6 hS6
  rw [forget_one] at kf
  have HB6 := Lib.hid (HB5.out.trans (hk6.below hlp hm HB5.out.size))
  clear ke hS6 hk6 HS5 HB5 y0
  go_wp2_with fail
  refine kf.mono ?_
  rintro e w7 ⟨rfl, hS7, hk7⟩
  have HB7 := Lib.hid (HB6.out.trans (hk7.below hlp hm HB6.out.size))
  clear kf hS7 hk7 HB6
  go_wp2
  go_ret
  exact ⟨rfl, HB7.out⟩
end Go.Proofs.YtcfococinllcmaaGreat

/- silences, plainly: of one label ten at most; what a step says. -/
namespace Go.Proofs.YtcfococinllcmaaGreat
open Go.RowKit

/-- of one label there are ten at most -/
def TenS (S : List Sil) : Prop := ∀ s : Sil, quoS S s ≤ 10
theorem ten_nil : TenS [] := fun s => by simp [quoS]
theorem quo_snoc (S : List Sil) (x s : Sil) : quoS (S ++ [x]) s = quoS S s + (if sameL x s = true then 1 else 0) := by
  unfold quoS
  rw [List.countP_append, List.countP_cons, List.countP_nil]
  omega
theorem sameL_iff (t s : Sil) : sameL t s = true ↔ t.lv = s.lv ∧ t.c = s.c := by
  unfold sameL
  simp
theorem quo_same {S : List Sil} {s t : Sil} (h : s.lv = t.lv ∧ s.c = t.c) : quoS S s = quoS S t := by
  unfold quoS sameL
  rw [h.1, h.2]
theorem ten_lay {S S' : List Sil} {last last' : Int} {s : Sil} (h : TenS S) (hl : LayS S last s S' last') : TenS S' := by
  cases hl with
  | no _ => exact h
  | yes hy mv =>
    intro t
    rw [quo_snoc]
    split
    · rename_i he
      have he' := (sameL_iff _ _).1 he
      unfold laysS at hy
      simp only [Bool.and_eq_true, decide_eq_true_eq] at hy
      have h1 : quoS S s = quoS S t := quo_same he'
      have := h t
      have := hy.2
      omega
    · exact h t
theorem ten_sub {S T : List Sil} (h : TenS S) (hs : T.Sublist S) : TenS T := fun s => Nat.le_trans (hs.countP_le) (h s)
theorem ten_set {S : List Sil} {x : Sil} (h : TenS S) (hx : ∀ t ∈ S, t.id = x.id → t.lv = x.lv ∧ t.c = x.c) : TenS (setS S x) := by
  intro s
  have e : quoS (setS S x) s = quoS S s := by
    unfold quoS setS
    rw [List.countP_map]
    apply List.countP_congr
    intro t ht
    simp only [Function.comp]
    split
    · rename_i hi
      rw [sameL_iff, sameL_iff, (hx t ht hi).1, (hx t ht hi).2]
    · exact Iff.rfl
  rw [e]
  exact h s
theorem up_eq {S : List Sil} (h : UpS S) {s t : Sil} (hs : s ∈ S) (ht : t ∈ S) (e : s.id = t.id) : s = t := by
  induction S with
  | nil => cases hs
  | cons u S ih =>
    obtain ⟨h1, h2⟩ := List.pairwise_cons.1 h
    rcases List.mem_cons.1 hs with rfl | hs' <;> rcases List.mem_cons.1 ht with rfl | ht'
    · rfl
    · have := h1 t ht'; omega
    · have := h1 s hs'; omega
    · exact ih h2 hs' ht'
theorem ten_end {S : List Sil} (h : TenS S) (hu : UpS S) (id now : Int) : TenS (endL S id now) := by
  cases hf : S.find? fun s => s.id == id with
  | none => rw [(endE_none hf).2]; exact h
  | some s =>
    by_cases h1 : s.til ≤ now
    · rw [(endE_old hf h1).2]; exact h
    · by_cases h2 : now ≤ s.fr
      · rw [(endE_drop hf h1 h2).2]; exact ten_sub h List.filter_sublist
      · rw [(endE_set hf h1 h2).2]
        refine ten_set h fun t ht hi => ?_
        have := up_eq hu ht (List.mem_of_find?_eq_some hf) hi
        rw [this]
        exact ⟨rfl, rfl⟩
theorem ten_does {o : SOp} {S S' : List Sil} {last last' : Int} {r : Value} (h : TenS S) (hu : UpS S) (hd : DoesS o S last r S' last') : TenS S' := by
  cases hd with
  | lay _ mv hl => exact ten_lay h hl
  | fin _ => exact ten_end h hu _ _
  | forget _ => exact ten_sub h List.filter_sublist
/-- what a step says: its number is one more where it laid one, and the numbers go up by that alone -/
theorem does_says {o : SOp} {S S' : List Sil} {last last' : Int} {r : Value} (hd : DoesS o S last r S' last') :
    ∃ n e : Int, r = .tuple #[.int .i64 n, .int .i64 e] ∧ ((kindO o.kd = 0 ∧ e = 0 ∧ n = last + 1 ∧ last' = last + 1) ∨ (¬(kindO o.kd = 0 ∧ e = 0) ∧ last' = last)) := by
  cases hd with
  | lay h mv hl =>
    refine ⟨if laysS S { cutS o.s with mv := mv } = true then last + 1 else 0, if rightS { cutS o.s with mv := mv } = true then (if quoS S { cutS o.s with mv := mv } = 10 then 7 else 0) else 1, rfl, ?_⟩
    cases hl with
    | no hn =>
      right
      refine ⟨fun hh => ?_, rfl⟩
      unfold laysS at hn
      have := hh.2
      by_cases hr : rightS { cutS o.s with mv := mv } = true
      · rw [if_pos hr] at this
        by_cases hq : quoS S { cutS o.s with mv := mv } = 10
        · rw [if_pos hq] at this; exact absurd this (by decide)
        · rw [hr] at hn
          simp [hq] at hn
      · rw [if_neg hr] at this; exact absurd this (by decide)
    | yes hy _ =>
      left
      have hy' := hy
      unfold laysS at hy
      simp only [Bool.and_eq_true, decide_eq_true_eq] at hy
      exact ⟨h, by rw [if_pos hy.1, if_neg hy.2], by rw [if_pos hy'], rfl⟩
  | fin h => exact ⟨0, endE S o.id o.now, rfl, .inr ⟨fun hh => (by rw [hh.1] at h; cases h), rfl⟩⟩
  | forget h => exact ⟨((S.countP (endS o.now) : Nat) : Int), 0, rfl, .inr ⟨fun hh => (by rw [hh.1] at h; cases h), rfl⟩⟩
/-- numbers do not fall, and rise by one at most -/
theorem does_last {o : SOp} {S S' : List Sil} {last last' : Int} {r : Value} (hd : DoesS o S last r S' last') : last ≤ last' ∧ last' ≤ last + 1 := by
  obtain ⟨n, e, _, h⟩ := does_says hd
  rcases h with h | h <;> omega
end Go.Proofs.YtcfococinllcmaaGreat

/- silences: lemmas of the laws on scripts. -/
namespace Go.Proofs.YtcfococinllcmaaGreat
open Go.RowKit

/-- a script's steps, by their cells -/
theorem ops_cells {w : World} {v : Value} {l : List SOp} (h : OpsAt w v l) : ∃ a c, v = .slice a l.length c ∧ l.length ≤ c ∧ (0 < l.length → ∃ b o, a = some ⟨b, o, none⟩ ∧ b < w.heap.size ∧ ∀ k (hk : k < l.length) r z, (opC l[k])[r]? = some z → w.cell? ⟨b, o + k * 9 + r, none⟩ = some z) := by
  obtain ⟨a, c, rfl, hc, hr⟩ := RdAt.shape h.row
  refine ⟨a, c, rfl, hc, fun hn => ?_⟩
  obtain ⟨b, o, rfl, hb, hcell⟩ := hr hn
  exact ⟨b, o, rfl, hb, fun k hk r z hz => by rw [Nat.add_assoc]; exact hcell _ _ (opCells_at l k hk r z hz)⟩
theorem ids_at {S : List Sil} {j : Nat} (hj : j < S.length) : (S.map (·.id))[j]? = some (S[j]).id := by
  rw [List.getElem?_map, List.getElem?_eq_getElem hj]; rfl
theorem get_at {S : List Sil} (hu : UpS S) {j : Nat} (hj : j < S.length) : (S.find? fun s => s.id == S[j].id) = some S[j] := find_self hu (List.getElem_mem hj)
theorem getS_at {S : List Sil} (hu : UpS S) {j : Nat} (hj : j < S.length) : getS S S[j].id = S[j] := by unfold getS; rw [get_at hu hj]; rfl
theorem up_at {S : List Sil} (hu : UpS S) {j : Nat} (hj : j + 1 < S.length) : S[j].id < S[j + 1].id := List.pairwise_iff_getElem.1 hu j (j + 1) (by omega) hj (by omega)
theorem quo_take {S : List Sil} {s : Sil} {j : Nat} (hj : j < S.length) : quoS (S.take (j + 1)) s = quoS (S.take j) s + (if sameL S[j] s = true then 1 else 0) := by
  rw [List.take_add_one, List.getElem?_eq_getElem hj]
  exact quo_snoc _ _ _
theorem quo_le (S : List Sil) (s : Sil) : quoS S s ≤ S.length := List.countP_le_length
theorem ids_cells {w : World} {v : Value} {S : List Sil} (h : IntsAt w v (S.map (·.id))) : ∃ a c, v = .slice a S.length c ∧ S.length ≤ c ∧ (0 < S.length → ∃ b o, a = some ⟨b, o, none⟩ ∧ b < w.heap.size ∧ ∀ j (hj : j < S.length), w.cell? ⟨b, o + j, none⟩ = some (.int .i64 S[j].id)) := by
  obtain ⟨a, c, e, hc, hr⟩ := RdAt.shape h
  rw [List.length_map] at e hc hr
  refine ⟨a, c, e, hc, fun h0 => ?_⟩
  obtain ⟨b, o, e1, hb, hcell⟩ := hr h0
  exact ⟨b, o, e1, hb, fun j hj => hcell j _ (by rw [List.getElem?_map, ids_at hj]; rfl)⟩
theorem get_is (lp m n : Nat) (S : List Sil) (last : Int) (w : World) (h : SlAt w lp m n S last) (j : Nat) (hj : j < S.length) :
    Calls Tryz.prog 38 #[.pointer (some ⟨lp, 0, none⟩), .int .i64 S[j].id] w fun e w' =>
      ∃ mv : Option Addr × Nat × Nat, e = .returned (.tuple #[.agg #[.slice mv.1 mv.2.1 mv.2.2, .int .i64 S[j].fr, .int .i64 S[j].til, .int .i64 S[j].lv, .int .u32 S[j].c], .bool true]) ∧ Below w.heap.size w w' := by
  have k := get_any lp m n S last S[j].id w h (h.wf (List.getElem_mem hj))
  rw [getS_at h.up hj, get_at h.up hj] at k
  refine k.mono ?_
  rintro e w' ⟨mv, rfl, _, hb⟩
  exact ⟨mv, rfl, hb⟩
end Go.Proofs.YtcfococinllcmaaGreat

/- the law's alert: good: where its fields lie. -/
namespace Go.Proofs.YtcfococinllcmaaGreat
open Go.RowKit

set_option maxHeartbeats 3200000 in
set_option maxRecDepth 100000 in
theorem good_own (src : ByteArray) (fl : List Fld) (fv : Value) (lv : Int) (c : Nat) (fr til : Int) (w : World) (hs : src.size ≤ maxLen) (hv : FldsAt w fv fl) (hfit : FldsFit fl) (hl : fl.length ≤ maxLen) :
    Calls Tryz.prog 22 #[.agg #[.string src, fv, .int .i64 lv, .int .u32 c, .int .i64 fr, .int .i64 til]] w fun e w' =>
      ∃ v', e = .returned (.tuple #[.agg #[.string (gSrc src), v', .int .i64 (gLv lv), .int .u32 c, .int .i64 (gFr fr), .int .i64 (gTil fr til)], .agg #[.string (gSrc src), v', .int .i64 (gLv lv), .int .u32 c, .int .i64 (gFr fr), .int .i64 (gTil fr til)]]) ∧ FldsAt w' v' (goodF fl) ∧ FldsFit (goodF fl) ∧ rightF (goodF fl) = true ∧ (0 < (goodF fl).length → ∀ q, v'.ownBlock = some q → w.heap.size ≤ q) ∧ Below w.heap.size w w' := by
  have k9 := fun W (hW : Below w.heap.size w W) => rgood9_any src fl fv lv c fr til W hs (hv.later hW) hfit hl
  obtain ⟨fa, fc, rfl, _, _⟩ := RdAt.shape hv
  obtain ⟨W1, h1⟩ : ∃ z, w.alloc (.cells #[.string src, .slice fa fl.length fc, .int .i64 lv, .int .u32 c, .int .i64 fr, .int .i64 til] 50) = z := ⟨_, rfl⟩
  obtain ⟨W2, h2⟩ : ∃ z, W1.alloc (.cells #[.string ⟨#[]⟩, .slice none 0 0, .int .i64 0, .int .u32 0, .int .i64 0, .int .i64 0] 53) = z := ⟨_, rfl⟩
  obtain ⟨W3, h3⟩ : ∃ z, W2.alloc (.cells #[.string ⟨#[]⟩, .slice none 0 0, .int .i64 0, .int .u32 0, .int .i64 0, .int .i64 0] 50) = z := ⟨_, rfl⟩
  have s1 : W1.heap.size = w.heap.size + 1 := by rw [← h1, World.size_alloc]
  have s2 : W2.heap.size = w.heap.size + 1 + 1 := by rw [← h2, World.size_alloc, s1]
  have s3 : W3.heap.size = w.heap.size + 1 + 1 + 1 := by rw [← h3, World.size_alloc, s2]
  have b1 : Below w.heap.size w W1 := by rw [← h1]; exact alloc_below _ _
  have b2 : Below W1.heap.size W1 W2 := by rw [← h2]; exact alloc_below _ _
  have b3 : Below W2.heap.size W2 W3 := by rw [← h3]; exact alloc_below _ _
  have x1 := alc6 w (.string src) (.slice fa fl.length fc) (.int .i64 lv) (.int .u32 c) (.int .i64 fr) (.int .i64 til) 50
  have x2 := alc6 W1 (.string ⟨#[]⟩) (.slice none 0 0) (.int .i64 0) (.int .u32 0) (.int .i64 0) (.int .i64 0) 53
  have x3 := alc6 W2 (.string ⟨#[]⟩) (.slice none 0 0) (.int .i64 0) (.int .u32 0) (.int .i64 0) (.int .i64 0) 50
  have t2 := box_there (Below.refl _ (W1.alloc (.cells #[.string ⟨#[]⟩, .slice none 0 0, .int .i64 0, .int .u32 0, .int .i64 0, .int .i64 0] 53)))
  have t3 := box_there (Below.refl _ (W2.alloc (.cells #[.string ⟨#[]⟩, .slice none 0 0, .int .i64 0, .int .u32 0, .int .i64 0, .int .i64 0] 50)))
  rw [h1] at x1
  rw [h2] at x2 t2
  rw [h3] at x3 t3
  change W2.there W1.heap.size 0 6 at t2
  change W3.there W2.heap.size 0 6 at t3
  rw [s1] at x2 t2
  rw [s2] at x3 t3
  have x1 := (x1.later b2 (by omega)).later b3 (by omega)
  have x2 := x2.later b3 (by omega)
  have t2 := there_later t2 b3 (by omega)
  have hB3 : Below w.heap.size w W3 := (b1.trans (b2.mono (by omega))).trans (b3.mono (by omega))
  have k9 := k9 W3 hB3
  have HB3 := Lib.hid hB3
  have HX2 := Lib.hid x2
  have HX3 := Lib.hid x3
  have HT2 := Lib.hid t2
  have HT3 := Lib.hid t3
  generalize goodF fl = G at *
  generalize gSrc src = s' at *
  generalize gLv lv = l' at *
  generalize gFr fr = f' at *
  generalize gTil fr til = t' at *
  obtain ⟨y0, y1, y2, y3, y4, y5⟩ := x1
  clear x2 x3 t2 t3 b1 b2 b3 hB3 hv hfit hl hs
  go_enter Tryz.func22, Tryz.ntmps22
  go_upto_region 1 with fail
  try rw [h1]
  try rw [h2]
  try rw [h3]
  try rw [s1]
  try rw [s2]
  clear h1 h2 h3
  go_wp2_with fail
  refine k9.mono ?_
  rintro e w4 ⟨v', rfl, hF, hff, hrf, hfar, hb4⟩
  rw [s3] at hfar
  obtain ⟨va, vc, rfl, _, _⟩ := RdAt.shape hF
  have HF := Lib.hid hF
  have HFAR := Lib.hid hfar
  have HFF := Lib.hid hff
  have HRF := Lib.hid hrf
  have HB4 := Lib.hid (HB3.out.trans (hb4.mono HB3.out.size))
  have HX4 := Lib.hid (HX2.out.later hb4 (by omega))
  have HX5 := Lib.hid (HX3.out.later hb4 (by omega))
  have HT4 := Lib.hid (there_later HT2.out hb4 (by omega))
  have HT5 := Lib.hid (there_later HT3.out hb4 (by omega))
  have hs4 : w.heap.size + 1 + 1 + 1 ≤ w4.heap.size := by have := hb4.size; omega
  clear k9 hF hff hrf hfar hb4 HB3 HX2 HX3 HT2 HT3 y0 y1 y2 y3 y4 y5
  have hba := alloc_below w4 (.cells #[.string s', .slice va G.length vc, .int .i64 l', .int .u32 c, .int .i64 f', .int .i64 t'] 50)
  have x6 := alc6 w4 (.string s') (.slice va G.length vc) (.int .i64 l') (.int .u32 c) (.int .i64 f') (.int .i64 t') 50
  obtain ⟨W5, h5⟩ : ∃ z, w4.alloc (.cells #[.string s', .slice va G.length vc, .int .i64 l', .int .u32 c, .int .i64 f', .int .i64 t'] 50) = z := ⟨_, rfl⟩
  rw [h5] at hba x6
  have HX6 := Lib.hid x6
  have HF5 := Lib.hid (HF.out.later hba)
  have HB5 := Lib.hid (HB4.out.trans (hba.mono HB4.out.size))
  have x4 := HX4.out.later hba (by omega)
  have x5 := HX5.out.later hba (by omega)
  have t4 := there_later HT4.out hba (by omega)
  have t5 := there_later HT5.out hba (by omega)
  have HX4 := Lib.hid x4
  have HX5 := Lib.hid x5
  have HT4 := Lib.hid t4
  have HT5 := Lib.hid t5
  clear hba x6 x4 x5 t4 t5 HF HB4
  go_upto_region 2 with fail
  try rw [h5]
  clear h5
  obtain ⟨z0, z1, z2, z3, z4, z5⟩ := HX6.out
  obtain ⟨p0, p1, p2, p3, p4, p5⟩ := HX4.out
  obtain ⟨q0, q1, q2, q3, q4, q5⟩ := HX5.out
  have f0 := there_free HT4.out 0 (by omega)
  have f1 := there_free HT4.out 1 (by omega)
  have f2 := there_free HT4.out 2 (by omega)
  have f3 := there_free HT4.out 3 (by omega)
  have f4 := there_free HT4.out 4 (by omega)
  have f5 := there_free HT4.out 5 (by omega)
  have e0 := there_free HT5.out 0 (by omega)
  have e1 := there_free HT5.out 1 (by omega)
  have e2 := there_free HT5.out 2 (by omega)
  have e3 := there_free HT5.out 3 (by omega)
  have e4 := there_free HT5.out 4 (by omega)
  have e5 := there_free HT5.out 5 (by omega)
  go_region
  clear z0 z1 z2 z3 z4 z5 p0 p1 p2 p3 p4 p5 q0 q1 q2 q3 q4 q5 f0 f1 f2 f3 f4 f5 e0 e1 e2 e3 e4 e5
  have hx : (W5.setCells (w.heap.size + 1) 0 [.string s', .slice va G.length vc, .int .i64 l', .int .u32 c, .int .i64 f', .int .i64 t']).rangeAt (w.heap.size + 1) 0 [.string s', .slice va G.length vc, .int .i64 l', .int .u32 c, .int .i64 f', .int .i64 t'] := World.rangeAt_setCells_same _ _ 0 _ HT4.out
  have hT := World.there_setCells HT5.out (w.heap.size + 1) 0 [.string s', .slice va G.length vc, .int .i64 l', .int .u32 c, .int .i64 f', .int .i64 t']
  have hy := World.rangeAt_setCells_same (W5.setCells (w.heap.size + 1) 0 [.string s', .slice va G.length vc, .int .i64 l', .int .u32 c, .int .i64 f', .int .i64 t']) (w.heap.size + 1 + 1) 0 [.string s', .slice va G.length vc, .int .i64 l', .int .u32 c, .int .i64 f', .int .i64 t'] hT
  have hx2 : ((W5.setCells (w.heap.size + 1) 0 [.string s', .slice va G.length vc, .int .i64 l', .int .u32 c, .int .i64 f', .int .i64 t']).setCells (w.heap.size + 1 + 1) 0 [.string s', .slice va G.length vc, .int .i64 l', .int .u32 c, .int .i64 f', .int .i64 t']).rangeAt (w.heap.size + 1) 0 [.string s', .slice va G.length vc, .int .i64 l', .int .u32 c, .int .i64 f', .int .i64 t'] := fun j v hv => by
    rw [World.cell?_setCells_out _ _ _ _ _ (fun h _ => by simp at h)]
    exact hx j v hv
  have hba := below_puts (g := w.heap.size + 1) (o := 0) HB5.out (by omega) [.string s', .slice va G.length vc, .int .i64 l', .int .u32 c, .int .i64 f', .int .i64 t']
  have hbb := below_puts (g := w.heap.size + 1 + 1) (o := 0) hba (by omega) [.string s', .slice va G.length vc, .int .i64 l', .int .u32 c, .int .i64 f', .int .i64 t']
  have hsz : W5.heap.size ≤ ((W5.setCells (w.heap.size + 1) 0 [.string s', .slice va G.length vc, .int .i64 l', .int .u32 c, .int .i64 f', .int .i64 t']).setCells (w.heap.size + 1 + 1) 0 [.string s', .slice va G.length vc, .int .i64 l', .int .u32 c, .int .i64 f', .int .i64 t']).heap.size := ((Below.refl 0 W5).trans (below_puts_base (below_puts_base (Below.refl 0 W5) (Nat.zero_le _) [.string s', .slice va G.length vc, .int .i64 l', .int .u32 c, .int .i64 f', .int .i64 t']) (Nat.zero_le _) [.string s', .slice va G.length vc, .int .i64 l', .int .u32 c, .int .i64 f', .int .i64 t'])).size
  have HX := Lib.hid hx2
  have HY := Lib.hid hy
  have hF8 := rd_puts' (g := w.heap.size + 1) (o := 0) HF5.out (fun h0 q hq => by have := HFAR.out h0 q hq; omega) [.string s', .slice va G.length vc, .int .i64 l', .int .u32 c, .int .i64 f', .int .i64 t']
  have hF9 := rd_puts' (g := w.heap.size + 1 + 1) (o := 0) hF8 (fun h0 q hq => by have := HFAR.out h0 q hq; omega) [.string s', .slice va G.length vc, .int .i64 l', .int .u32 c, .int .i64 f', .int .i64 t']
  have HF9 : Hid (FldsAt _ _ G) := Lib.hid hF9
  have HBB := Lib.hid hbb
  clear hx hT hy hx2 hba hbb hF8 hF9
  change Exit.then _ _ _ _ (World.drew ((W5.setCells (w.heap.size + 1) 0 [.string s', .slice va G.length vc, .int .i64 l', .int .u32 c, .int .i64 f', .int .i64 t']).setCells (w.heap.size + 1 + 1) 0 [.string s', .slice va G.length vc, .int .i64 l', .int .u32 c, .int .i64 f', .int .i64 t']))
  generalize (W5.setCells (w.heap.size + 1) 0 [.string s', .slice va G.length vc, .int .i64 l', .int .u32 c, .int .i64 f', .int .i64 t']).setCells (w.heap.size + 1 + 1) 0 [.string s', .slice va G.length vc, .int .i64 l', .int .u32 c, .int .i64 f', .int .i64 t'] = WX at *
  have HX2 : Hid (WX.drew.rangeAt (w.heap.size + 1) 0 [.string s', .slice va G.length vc, .int .i64 l', .int .u32 c, .int .i64 f', .int .i64 t']) := HX
  have HY2 : Hid (WX.drew.rangeAt (w.heap.size + 1 + 1) 0 [.string s', .slice va G.length vc, .int .i64 l', .int .u32 c, .int .i64 f', .int .i64 t']) := HY
  have HBD := Lib.hid HBB.out.drew
  have HFD : Hid (FldsAt WX.drew (.slice va G.length vc) G) := HF9
  clear HX HY HBB HF9
  generalize WX.drew = WD at *
  go_wp2
  refine bodyPost_ret (results_agg22 rfl _ _ (w.heap.size + 1) (w.heap.size + 1 + 1) [.string s', .slice va G.length vc, .int .i64 l', .int .u32 c, .int .i64 f', .int .i64 t'] [.string s', .slice va G.length vc, .int .i64 l', .int .u32 c, .int .i64 f', .int .i64 t'] (.struct _) (.struct _) rfl HX2.out Tryz.underlying53 rfl (by kernel_rfl) rfl HY2.out Tryz.underlying50 rfl (by kernel_rfl)) rfl ?_
  exact ⟨_, rfl, HFD.out, HFF.out, HRF.out, fun h0 q hq => by have := HFAR.out h0 q hq; omega, HBD.out⟩
end Go.Proofs.YtcfococinllcmaaGreat

/- What a pattern says: a tree, and the texts of a tree; the builder's states say the same. No program in sight. -/
namespace Go.Proofs.YtcfococinllcmaaGreat

inductive Re where
  | no
  | eps
  | set (S : Nat → Bool)
  | cat (a b : Re)
  | alt (a b : Re)
  | star (a : Re)
  | plus (a : Re)
  | opt (a : Re)
/-- the texts of a tree -/
inductive Lr : Re → List Nat → Prop
  | eps : Lr .eps []
  | set {S : Nat → Bool} {c : Nat} : S c = true → Lr (.set S) [c]
  | cat {a b : Re} {x y : List Nat} : Lr a x → Lr b y → Lr (.cat a b) (x ++ y)
  | altl {a b : Re} {x : List Nat} : Lr a x → Lr (.alt a b) x
  | altr {a b : Re} {x : List Nat} : Lr b x → Lr (.alt a b) x
  | star0 {a : Re} : Lr (.star a) []
  | star1 {a : Re} {x y : List Nat} : Lr a x → Lr (.star a) y → Lr (.star a) (x ++ y)
  | plus {a : Re} {x y : List Nat} : Lr a x → Lr (.star a) y → Lr (.plus a) (x ++ y)
  | opt0 {a : Re} : Lr (.opt a) []
  | opt1 {a : Re} {x : List Nat} : Lr a x → Lr (.opt a) x
/-- a way, its bytes, its length -/
inductive Pa (sts : List St) : Nat → List Nat → Nat → Nat → Prop
  | refl (k : Nat) : Pa sts k [] k 0
  | free {j f k n : Nat} {cs : List Nat} {x : St} : sts[j]? = some x → f ∈ x.free → Pa sts f cs k n → Pa sts j cs k (n + 1)
  | byte {j k c n : Nat} {cs : List Nat} {x : St} : sts[j]? = some x → goB x c = true → Pa sts x.next cs k n → Pa sts j (c :: cs) k (n + 1)
theorem Pa.trans {sts : List St} {j k l n m : Nat} {x y : List Nat} (h : Pa sts j x k n) (h' : Pa sts k y l m) : Pa sts j (x ++ y) l (n + m) := by
  induction h with
  | refl => simpa using h'
  | free h1 h2 _ ih => rw [Nat.add_right_comm]; exact Pa.free h1 h2 (ih h')
  | byte h1 h2 _ ih => rw [Nat.add_right_comm]; exact Pa.byte h1 h2 (ih h')
theorem Pa.inv {sts : List St} {j g n : Nat} {cs : List Nat} (h : Pa sts j cs g n) : (cs = [] ∧ j = g) ∨ (∃ x f m, sts[j]? = some x ∧ f ∈ x.free ∧ Pa sts f cs g m) ∨ ∃ x c cs' m, cs = c :: cs' ∧ sts[j]? = some x ∧ goB x c = true ∧ Pa sts x.next cs' g m := by
  cases h with
  | refl => exact .inl ⟨rfl, rfl⟩
  | free h1 h2 h3 => exact .inr (.inl ⟨_, _, _, h1, h2, h3⟩)
  | byte h1 h2 h3 => exact .inr (.inr ⟨_, _, _, _, rfl, h1, h2, h3⟩)
/-- no way leads out of a region -/
def Shut (sts : List St) (R : Nat → Prop) : Prop := ∀ k, R k → ∀ x, sts[k]? = some x → (∀ g ∈ x.free, R g) ∧ (x.set.isSome = true → R x.next)
theorem goB_some {x : St} {c : Nat} (h : goB x c = true) : x.set.isSome = true := by
  unfold goB at h
  split at h
  · rename_i f hf; rw [hf]; rfl
  · cases h
theorem Pa.same {sts sts' : List St} {R : Nat → Prop} (hs : Shut sts R) (he : ∀ k, R k → sts'[k]? = sts[k]?) {j g n : Nat} {cs : List Nat} (h : Pa sts' j cs g n) (hj : R j) : Pa sts j cs g n := by
  induction h with
  | refl => exact .refl _
  | free h1 h2 _ ih => rw [he _ hj] at h1; exact .free h1 h2 (ih ((hs _ hj _ h1).1 _ h2))
  | byte h1 h2 _ ih => rw [he _ hj] at h1; exact .byte h1 h2 (ih ((hs _ hj _ h1).2 (goB_some h2)))
/-- more ways -/
theorem Pa.more {sts sts' : List St} {R : Nat → Prop} (hs : Shut sts R) (he : ∀ k, R k → ∀ x, sts[k]? = some x → ∃ x', sts'[k]? = some x' ∧ (∀ g ∈ x.free, g ∈ x'.free) ∧ x'.set = x.set ∧ x'.next = x.next) {j g n : Nat} {cs : List Nat} (h : Pa sts j cs g n) (hj : R j) : Pa sts' j cs g n := by
  induction h with
  | refl => exact .refl _
  | free h1 h2 _ ih =>
    obtain ⟨x', e1, e2, _, _⟩ := he _ hj _ h1
    exact .free e1 (e2 _ h2) (ih ((hs _ hj _ h1).1 _ h2))
  | byte h1 h2 _ ih =>
    obtain ⟨x', e1, _, e3, e4⟩ := he _ hj _ h1
    refine .byte e1 (by unfold goB at h2 ⊢; rw [e3]; exact h2) ?_
    rw [e4]
    exact ih ((hs _ hj _ h1).2 (goB_some h2))
/-- a region has one way out alone -/
theorem Pa.exit {sts sts' : List St} {R : Nat → Prop} {t g : Nat} (hs : Shut sts R) (he : ∀ k, R k → k ≠ t → sts'[k]? = sts[k]?) (hg : R g → g = t) {j n : Nat} {cs : List Nat} (h : Pa sts' j cs g n) (hj : R j) :
    ∃ x y n1 n2, cs = x ++ y ∧ Pa sts j x t n1 ∧ Pa sts' t y g n2 ∧ n2 ≤ n := by
  induction h with
  | refl => 
    have := hg hj
    subst this
    exact ⟨[], [], 0, 0, rfl, .refl _, .refl _, Nat.le_refl _⟩
  | free h1 h2 h3 ih =>
    rename_i j f k n cs x
    by_cases hjt : j = t
    · subst hjt
      exact ⟨[], cs, 0, n + 1, rfl, .refl _, .free h1 h2 h3, Nat.le_refl _⟩
    · rw [he _ hj hjt] at h1
      obtain ⟨x1, y1, n1, n2, e1, e2, e3, e4⟩ := ih hg ((hs _ hj _ h1).1 _ h2)
      exact ⟨x1, y1, n1 + 1, n2, e1, .free h1 h2 e2, e3, by omega⟩
  | byte h1 h2 h3 ih =>
    rename_i j k c n cs x
    by_cases hjt : j = t
    · subst hjt
      exact ⟨[], c :: cs, 0, n + 1, rfl, .refl _, .byte h1 h2 h3, Nat.le_refl _⟩
    · rw [he _ hj hjt] at h1
      obtain ⟨x1, y1, n1, n2, e1, e2, e3, e4⟩ := ih hg ((hs _ hj _ h1).2 (goB_some h2))
      exact ⟨c :: x1, y1, n1 + 1, n2, by rw [e1]; rfl, .byte h1 h2 e2, e3, by omega⟩
/-- from a state that has ways without a byte alone -/
theorem Pa.first {sts : List St} {t g n nx : Nat} {l cs : List Nat} (h : Pa sts t cs g n) (ht : sts[t]? = some ⟨none, nx, l⟩) : (cs = [] ∧ t = g) ∨ ∃ f ∈ l, ∃ m, m < n ∧ Pa sts f cs g m := by
  cases h with
  | refl => exact .inl ⟨rfl, rfl⟩
  | free h1 h2 h3 =>
    rw [ht] at h1
    obtain rfl := Option.some.inj h1
    exact .inr ⟨_, h2, _, Nat.lt_succ_self _, h3⟩
  | byte h1 h2 h3 =>
    rw [ht] at h1
    obtain rfl := Option.some.inj h1
    cases goB_some h2
theorem addF_look (l : List St) (f t j : Nat) : (addF l f t)[j]? = if j = f then (l[j]?).map (fun x => { x with free := x.free ++ [t] }) else l[j]? := by
  induction l generalizing f j with
  | nil => simp [addF]
  | cons x l ih =>
    cases f with
    | zero => cases j <;> simp [addF]
    | succ f => cases j with
      | zero => simp [addF]
      | succ j => simp only [addF, List.getElem?_cons_succ, ih]; simp
theorem addF_ne {l : List St} {f t j : Nat} (h : j ≠ f) : (addF l f t)[j]? = l[j]? := by rw [addF_look, if_neg h]
theorem addF_eq {l : List St} {f t : Nat} {x : St} (h : l[f]? = some x) : (addF l f t)[f]? = some { x with free := x.free ++ [t] } := by rw [addF_look, if_pos rfl, h]; rfl
/-- a part of the states, from f to t: its texts -/
structure Frg (sts : List St) (lo hi f t : Nat) (a : Re) : Prop where
  f0 : lo ≤ f
  f1 : f < hi
  t0 : lo ≤ t
  t1 : t < hi
  hl : hi ≤ sts.length
  shut : Shut sts (fun k => lo ≤ k ∧ k < hi)
  sink : sts[t]? = some ⟨none, 0, []⟩
  noin : ∀ k, lo ≤ k → k < hi → ∀ x, sts[k]? = some x → (∀ g ∈ x.free, g ≠ f) ∧ (x.set.isSome = true → x.next ≠ f)
  lang : ∀ cs, (∃ n, Pa sts f cs t n) ↔ Lr a cs
def nd : St := ⟨none, 0, []⟩
theorem Pa.sink {sts : List St} {t g n : Nat} {cs : List Nat} (h : Pa sts t cs g n) (ht : sts[t]? = some ⟨none, 0, []⟩) : cs = [] ∧ t = g := by
  rcases h.first ht with h1 | ⟨f, hf, _⟩
  · exact h1
  · cases hf
theorem frg_no (l : List St) : Frg (l ++ [nd, nd]) l.length (l.length + 2) l.length (l.length + 1) .no := by
  have g0 : (l ++ [nd, nd])[l.length]? = some ⟨none, 0, []⟩ := by rw [List.getElem?_append_right (Nat.le_refl _)]; simp [nd]
  have g1 : (l ++ [nd, nd])[l.length + 1]? = some ⟨none, 0, []⟩ := by rw [List.getElem?_append_right (by omega)]; simp [nd]
  have ge : ∀ k, l.length ≤ k → k < l.length + 2 → ∀ x, (l ++ [nd, nd])[k]? = some x → x = nd := fun k h1 h2 x hx => by
    rcases (show k = l.length ∨ k = l.length + 1 by omega) with rfl | rfl
    · rw [g0] at hx; exact (Option.some.inj hx).symm
    · rw [g1] at hx; exact (Option.some.inj hx).symm
  refine ⟨Nat.le_refl _, by omega, by omega, by omega, by simp, ?_, g1, ?_, ?_⟩
  · rintro k ⟨h1, h2⟩ x hx
    rw [ge k h1 h2 x hx]
    exact ⟨(fun _ h => by cases h), (fun h => by cases h)⟩
  · intro k h1 h2 x hx
    rw [ge k h1 h2 x hx]
    exact ⟨(fun _ h => by cases h), (fun h => by cases h)⟩
  · intro cs
    constructor
    · rintro ⟨n, h⟩
      have := (h.sink g0).2
      omega
    · intro h; cases h
theorem frg_eps (l : List St) : Frg (l ++ [nd]) l.length (l.length + 1) l.length l.length .eps := by
  have g0 : (l ++ [nd])[l.length]? = some ⟨none, 0, []⟩ := by rw [List.getElem?_append_right (Nat.le_refl _)]; simp [nd]
  have ge : ∀ k, l.length ≤ k → k < l.length + 1 → ∀ x, (l ++ [nd])[k]? = some x → x = nd := fun k h1 h2 x hx => by
    obtain rfl : k = l.length := by omega
    rw [g0] at hx; exact (Option.some.inj hx).symm
  refine ⟨Nat.le_refl _, by omega, by omega, by omega, by simp, ?_, g0, ?_, ?_⟩
  · rintro k ⟨h1, h2⟩ x hx
    rw [ge k h1 h2 x hx]
    exact ⟨(fun _ h => by cases h), (fun h => by cases h)⟩
  · intro k h1 h2 x hx
    rw [ge k h1 h2 x hx]
    exact ⟨(fun _ h => by cases h), (fun h => by cases h)⟩
  · intro cs
    constructor
    · rintro ⟨n, h⟩
      rw [(h.sink g0).1]
      exact .eps
    · intro h
      cases h
      exact ⟨0, .refl _⟩
theorem frg_set (l : List St) (S : Nat → Bool) : Frg (l ++ [⟨some S, l.length + 1, []⟩, nd]) l.length (l.length + 2) l.length (l.length + 1) (.set S) := by
  have g0 : (l ++ [⟨some S, l.length + 1, []⟩, nd])[l.length]? = some ⟨some S, l.length + 1, []⟩ := by rw [List.getElem?_append_right (Nat.le_refl _)]; simp
  have g1 : (l ++ [⟨some S, l.length + 1, []⟩, nd])[l.length + 1]? = some ⟨none, 0, []⟩ := by rw [List.getElem?_append_right (by omega)]; simp [nd]
  have ge : ∀ k, l.length ≤ k → k < l.length + 2 → ∀ x, (l ++ [⟨some S, l.length + 1, []⟩, nd])[k]? = some x → x = ⟨some S, l.length + 1, []⟩ ∨ x = nd := fun k h1 h2 x hx => by
    rcases (show k = l.length ∨ k = l.length + 1 by omega) with rfl | rfl
    · rw [g0] at hx; exact .inl (Option.some.inj hx).symm
    · rw [g1] at hx; exact .inr (Option.some.inj hx).symm
  refine ⟨Nat.le_refl _, by omega, by omega, by omega, by simp, ?_, g1, ?_, ?_⟩
  · rintro k ⟨h1, h2⟩ x hx
    rcases ge k h1 h2 x hx with rfl | rfl
    · exact ⟨(fun _ h => by cases h), fun _ => ⟨by simp, by simp⟩⟩
    · exact ⟨(fun _ h => by cases h), (fun h => by cases h)⟩
  · intro k h1 h2 x hx
    rcases ge k h1 h2 x hx with rfl | rfl
    · exact ⟨(fun _ h => by cases h), fun _ => by simp⟩
    · exact ⟨(fun _ h => by cases h), (fun h => by cases h)⟩
  · intro cs
    constructor
    · rintro ⟨n, h⟩
      rcases h.inv with ⟨_, e⟩ | ⟨x, f, m, h1, h2, _⟩ | ⟨x, c, cs', m, rfl, h1, h2, h3⟩
      · omega
      · rw [g0] at h1; obtain rfl := Option.some.inj h1; cases h2
      · rw [g0] at h1
        obtain rfl := Option.some.inj h1
        rw [(h3.sink g1).1]
        exact .set h2
    · intro h
      cases h with
      | set h => exact ⟨1, .byte g0 h (.refl _)⟩
/-- one behind the other -/
theorem Frg.cat {sts0 sts1 : List St} {lo f t hi xf xt : Nat} {a b : Re} (h : Frg sts0 lo sts0.length f t a) (he : ∀ k, k < sts0.length → sts1[k]? = sts0[k]?) (hx : Frg sts1 sts0.length hi xf xt b) :
    Frg (addF sts1 t xf) lo hi f xt (.cat a b) := by
  have ht1 := h.t1
  have hf1 := h.f1
  have hf0 := h.f0
  have xf0 := hx.f0
  have xf1 := hx.f1
  have xt0 := hx.t0
  have gt : (addF sts1 t xf)[t]? = some ⟨none, 0, [xf]⟩ := by rw [addF_eq ((he t ht1).trans h.sink)]; rfl
  have go : ∀ k, k < sts0.length → k ≠ t → (addF sts1 t xf)[k]? = sts0[k]? := fun k hk hne => (addF_ne hne).trans (he k hk)
  have gx : ∀ k, sts0.length ≤ k → (addF sts1 t xf)[k]? = sts1[k]? := fun k hk => addF_ne (by omega)
  refine ⟨hf0, by omega, by have := h.f0; omega, hx.t1, by rw [addF_len]; exact hx.hl, ?_, by rw [gx _ xt0]; exact hx.sink, ?_, ?_⟩
  · rintro k ⟨h1, h2⟩ x hxk
    by_cases hk : k < sts0.length
    · by_cases hkt : k = t
      · subst hkt
        rw [gt] at hxk
        obtain rfl := Option.some.inj hxk
        refine ⟨fun g hg => ?_, (fun h => by cases h)⟩
        rw [List.mem_singleton.1 hg]
        exact ⟨by omega, by omega⟩
      · rw [go k hk hkt] at hxk
        obtain ⟨q1, q2⟩ := h.shut k ⟨h1, hk⟩ x hxk
        exact ⟨fun g hg => ⟨(q1 g hg).1, by have := (q1 g hg).2; omega⟩, fun hs => ⟨(q2 hs).1, by have := (q2 hs).2; omega⟩⟩
    · rw [gx k (by omega)] at hxk
      obtain ⟨q1, q2⟩ := hx.shut k ⟨by omega, h2⟩ x hxk
      exact ⟨fun g hg => ⟨by have := (q1 g hg).1; omega, (q1 g hg).2⟩, fun hs => ⟨by have := (q2 hs).1; omega, (q2 hs).2⟩⟩
  · intro k h1 h2 x hxk
    by_cases hk : k < sts0.length
    · by_cases hkt : k = t
      · subst hkt
        rw [gt] at hxk
        obtain rfl := Option.some.inj hxk
        refine ⟨fun g hg => ?_, (fun h => by cases h)⟩
        rw [List.mem_singleton.1 hg]
        omega
      · rw [go k hk hkt] at hxk
        exact h.noin k h1 hk x hxk
    · rw [gx k (by omega)] at hxk
      obtain ⟨q1, q2⟩ := hx.shut k ⟨by omega, h2⟩ x hxk
      exact ⟨fun g hg => by have := (q1 g hg).1; omega, fun hs => by have := (q2 hs).1; omega⟩
  · intro cs
    constructor
    · rintro ⟨n, hp⟩
      obtain ⟨x, y, n1, n2, rfl, p1, p2, _⟩ := hp.exit h.shut (fun k hk hne => go k hk.2 hne) (fun hg => absurd hg.2 (by omega)) ⟨hf0, hf1⟩
      rcases p2.first gt with ⟨_, e⟩ | ⟨g, hg, m, _, p3⟩
      · omega
      · rw [List.mem_singleton.1 hg] at p3
        exact .cat ((h.lang x).1 ⟨_, p1⟩) ((hx.lang y).1 ⟨_, p3.same hx.shut (fun k hk => gx k hk.1) ⟨xf0, xf1⟩⟩)
    · intro hl
      cases hl with
      | cat l1 l2 =>
        obtain ⟨n1, p1⟩ := (h.lang _).2 l1
        obtain ⟨n2, p2⟩ := (hx.lang _).2 l2
        have q1 := p1.more (sts' := addF sts1 t xf) h.shut (fun k hk x hxk => by
          by_cases hkt : k = t
          · subst hkt
            rw [h.sink] at hxk
            obtain rfl := Option.some.inj hxk
            exact ⟨_, gt, (fun _ h => by cases h), rfl, rfl⟩
          · exact ⟨x, (go k hk.2 hkt).trans hxk, fun _ h => h, rfl, rfl⟩) ⟨hf0, hf1⟩
        have q2 := p2.same (sts := addF sts1 t xf) (sts' := sts1) (R := fun k => sts0.length ≤ k ∧ k < hi) (fun k hk x hxk => hx.shut k hk x ((gx k hk.1).symm.trans hxk)) (fun k hk => (gx k hk.1).symm) ⟨xf0, xf1⟩
        exact ⟨_, q1.trans (.free gt (List.mem_singleton.2 rfl) q2)⟩
/-- one more alternative -/
theorem Frg.alt {sts0 sts1 : List St} {lo f t hi xf xt : Nat} {a b : Re} (h : Frg sts0 lo sts0.length f t a) (hft : f ≠ t) (he : ∀ k, k < sts0.length → sts1[k]? = sts0[k]?) (hx : Frg sts1 sts0.length hi xf xt b) :
    Frg (addF (addF sts1 f xf) xt t) lo hi f t (.alt a b) := by
  have ht1 := h.t1
  have hf1 := h.f1
  have hf0 := h.f0
  have ht0 := h.t0
  have xf0 := hx.f0
  have xf1 := hx.f1
  have xt0 := hx.t0
  have xt1 := hx.t1
  obtain ⟨z, hz⟩ : ∃ z, sts0[f]? = some z := ⟨_, List.getElem?_eq_getElem hf1⟩
  obtain ⟨zs, zn, zf⟩ := z
  have gf : (addF (addF sts1 f xf) xt t)[f]? = some ⟨zs, zn, zf ++ [xf]⟩ := by rw [addF_ne (by omega), addF_eq ((he f hf1).trans hz)]
  have gxt : (addF (addF sts1 f xf) xt t)[xt]? = some ⟨none, 0, [t]⟩ := by
    rw [addF_eq (x := ⟨none, 0, []⟩) (by rw [addF_ne (by omega)]; exact hx.sink)]; rfl
  have go : ∀ k, k < sts0.length → k ≠ f → (addF (addF sts1 f xf) xt t)[k]? = sts0[k]? := fun k hk hne => by rw [addF_ne (by omega), addF_ne hne, he k hk]
  have gx : ∀ k, sts0.length ≤ k → k ≠ xt → (addF (addF sts1 f xf) xt t)[k]? = sts1[k]? := fun k hk hne => by rw [addF_ne hne, addF_ne (by omega)]
  have gt : (addF (addF sts1 f xf) xt t)[t]? = some ⟨none, 0, []⟩ := (go t ht1 (Ne.symm hft)).trans h.sink
  obtain ⟨sf1, sf2⟩ := h.shut f ⟨hf0, hf1⟩ _ hz
  obtain ⟨nf1, nf2⟩ := h.noin f hf0 hf1 _ hz
  refine ⟨hf0, by omega, ht0, by omega, by rw [addF_len, addF_len]; exact hx.hl, ?_, gt, ?_, ?_⟩
  · rintro k ⟨h1, h2⟩ x hxk
    by_cases hk : k < sts0.length
    · by_cases hkf : k = f
      · subst hkf
        rw [gf] at hxk
        obtain rfl := Option.some.inj hxk
        refine ⟨fun g hg => ?_, fun hs => ⟨(sf2 hs).1, by have := (sf2 hs).2; dsimp only at this ⊢; omega⟩⟩
        rcases List.mem_append.1 hg with hg | hg
        · exact ⟨(sf1 g hg).1, by have := (sf1 g hg).2; omega⟩
        · rw [List.mem_singleton.1 hg]
          exact ⟨by omega, by omega⟩
      · rw [go k hk hkf] at hxk
        obtain ⟨q1, q2⟩ := h.shut k ⟨h1, hk⟩ x hxk
        exact ⟨fun g hg => ⟨(q1 g hg).1, by have := (q1 g hg).2; omega⟩, fun hs => ⟨(q2 hs).1, by have := (q2 hs).2; omega⟩⟩
    · by_cases hkx : k = xt
      · subst hkx
        rw [gxt] at hxk
        obtain rfl := Option.some.inj hxk
        refine ⟨fun g hg => ?_, (fun h => by cases h)⟩
        rw [List.mem_singleton.1 hg]
        exact ⟨ht0, by omega⟩
      · rw [gx k (by omega) hkx] at hxk
        obtain ⟨q1, q2⟩ := hx.shut k ⟨by omega, h2⟩ x hxk
        exact ⟨fun g hg => ⟨by have := (q1 g hg).1; omega, (q1 g hg).2⟩, fun hs => ⟨by have := (q2 hs).1; omega, (q2 hs).2⟩⟩
  · intro k h1 h2 x hxk
    by_cases hk : k < sts0.length
    · by_cases hkf : k = f
      · subst hkf
        rw [gf] at hxk
        obtain rfl := Option.some.inj hxk
        refine ⟨fun g hg => ?_, nf2⟩
        rcases List.mem_append.1 hg with hg | hg
        · exact nf1 g hg
        · rw [List.mem_singleton.1 hg]; omega
      · rw [go k hk hkf] at hxk
        exact h.noin k h1 hk x hxk
    · by_cases hkx : k = xt
      · subst hkx
        rw [gxt] at hxk
        obtain rfl := Option.some.inj hxk
        refine ⟨fun g hg => ?_, (fun h => by cases h)⟩
        rw [List.mem_singleton.1 hg]
        exact Ne.symm hft
      · rw [gx k (by omega) hkx] at hxk
        obtain ⟨q1, q2⟩ := hx.shut k ⟨by omega, h2⟩ x hxk
        exact ⟨fun g hg => by have := (q1 g hg).1; omega, fun hs => by have := (q2 hs).1; omega⟩
  · intro cs
    have shutF : Shut sts0 (fun k => (lo ≤ k ∧ k < sts0.length) ∧ k ≠ f) := fun k hk x hxk => by
      obtain ⟨q1, q2⟩ := h.shut k hk.1 x hxk
      obtain ⟨q3, q4⟩ := h.noin k hk.1.1 hk.1.2 x hxk
      exact ⟨fun g hg => ⟨q1 g hg, q3 g hg⟩, fun hs => ⟨q2 hs, q4 hs⟩⟩
    constructor
    · rintro ⟨n, hp⟩
      cases hp with
      | refl => exact absurd rfl hft
      | free h1 h2 h3 =>
        rw [gf] at h1
        obtain rfl := Option.some.inj h1
        rcases List.mem_append.1 h2 with hg | hg
        · exact .altl ((h.lang cs).1 ⟨_, .free hz hg (h3.same shutF (fun k hk => go k hk.1.2 hk.2) ⟨sf1 _ hg, nf1 _ hg⟩)⟩)
        · rw [List.mem_singleton.1 hg] at h3
          obtain ⟨x, y, n1, n2, rfl, p1, p2, _⟩ := h3.exit hx.shut (fun k hk hne => gx k hk.1 hne) (fun hg => absurd hg.1 (by omega)) ⟨xf0, xf1⟩
          rcases p2.first gxt with ⟨_, e⟩ | ⟨g, hg, m, _, p3⟩
          · omega
          · rw [List.mem_singleton.1 hg] at p3
            rw [(p3.sink gt).1, List.append_nil]
            exact .altr ((hx.lang x).1 ⟨_, p1⟩)
      | byte h1 h2 h3 =>
        rw [gf] at h1
        obtain rfl := Option.some.inj h1
        have hs := goB_some h2
        exact .altl ((h.lang _).1 ⟨_, .byte hz h2 (h3.same shutF (fun k hk => go k hk.1.2 hk.2) ⟨sf2 hs, nf2 hs⟩)⟩)
    · intro hl
      cases hl with
      | altl l1 =>
        obtain ⟨n1, p1⟩ := (h.lang _).2 l1
        exact ⟨_, p1.more (sts' := addF (addF sts1 f xf) xt t) h.shut (fun k hk x hxk => by
          by_cases hkt : k = f
          · subst hkt
            rw [hz] at hxk
            obtain rfl := Option.some.inj hxk
            exact ⟨_, gf, fun _ h => List.mem_append_left _ h, rfl, rfl⟩
          · exact ⟨x, (go k hk.2 hkt).trans hxk, fun _ h => h, rfl, rfl⟩) ⟨hf0, hf1⟩⟩
      | altr l2 =>
        obtain ⟨n2, p2⟩ := (hx.lang _).2 l2
        have q2 := p2.more (sts' := addF (addF sts1 f xf) xt t) hx.shut (fun k hk x hxk => by
          by_cases hkt : k = xt
          · subst hkt
            rw [hx.sink] at hxk
            obtain rfl := Option.some.inj hxk
            exact ⟨_, gxt, (fun _ h => by cases h), rfl, rfl⟩
          · exact ⟨x, (gx k hk.1 hkt).trans hxk, fun _ h => h, rfl, rfl⟩) ⟨xf0, xf1⟩
        have q3 := Pa.free gf (List.mem_append_right _ (List.mem_singleton.2 rfl)) (q2.trans (.free gxt (List.mem_singleton.2 rfl) (.refl t)))
        rw [List.append_nil] at q3
        exact ⟨_, q3⟩
def postR : Bool → Bool → Re → Re
  | true, true, a => .star a
  | false, true, a => .plus a
  | true, false, a => .opt a
  | false, false, a => a
/-- with a postfix -/
theorem Frg.post {sts0 sts' : List St} {lo xf xt : Nat} {a : Re} (h : Frg sts0 lo sts0.length xf xt a) (skip again : Bool)
    (hlen : sts'.length = sts0.length + 2) (go : ∀ k, k < sts0.length → k ≠ xt → sts'[k]? = sts0[k]?)
    (gF : sts'[sts0.length]? = some ⟨none, 0, [xf] ++ (if skip = true then [sts0.length + 1] else [])⟩)
    (gx : sts'[xt]? = some ⟨none, 0, [sts0.length + 1] ++ (if again = true then [xf] else [])⟩)
    (gT : sts'[sts0.length + 1]? = some ⟨none, 0, []⟩) (r : Re)
    (hr : r = postR skip again a) :
    Frg sts' lo (sts0.length + 2) sts0.length (sts0.length + 1) r := by
  have f0 := h.f0
  have f1 := h.f1
  have t0 := h.t0
  have t1 := h.t1
  have one : ∀ {cs n}, Pa sts' xf cs (sts0.length + 1) n → ∃ x y, cs = x ++ y ∧ Lr a x ∧ (y = [] ∨ (again = true ∧ ∃ m, m < n ∧ Pa sts' xf y (sts0.length + 1) m)) := by
    intro cs n hp
    obtain ⟨x, y, n1, n2, rfl, p1, p2, hn⟩ := hp.exit h.shut (fun k hk hne => go k hk.2 hne) (fun hg => absurd hg.2 (by omega)) ⟨f0, f1⟩
    refine ⟨x, y, rfl, (h.lang x).1 ⟨_, p1⟩, ?_⟩
    rcases p2.first gx with ⟨_, e⟩ | ⟨g, hg, m, hm, p3⟩
    · omega
    · rcases List.mem_append.1 hg with hg | hg
      · rw [List.mem_singleton.1 hg] at p3
        exact .inl (p3.sink gT).1
      · split at hg
        · rename_i ha
          rw [List.mem_singleton.1 hg] at p3
          exact .inr ⟨ha, m, by omega, p3⟩
        · cases hg
  have many : ∀ n, ∀ cs, Pa sts' xf cs (sts0.length + 1) n → ∃ x y, cs = x ++ y ∧ Lr a x ∧ (again = false → y = []) ∧ Lr (.star a) y := by
    intro n
    induction n using Nat.strongRecOn with
    | ind n ih =>
      intro cs hp
      obtain ⟨x, y, e, l1, h1 | ⟨h1, m, hm, p3⟩⟩ := one hp
      · subst h1; exact ⟨x, [], e, l1, fun _ => rfl, .star0⟩
      · obtain ⟨x', y', e', l1', _, l3⟩ := ih m hm y p3
        exact ⟨x, y, e, l1, (fun h => by rw [h1] at h; cases h), by rw [e']; exact .star1 l1' l3⟩
  have up : ∀ {x n}, Pa sts0 xf x xt n → Pa sts' xf x xt n := fun p => p.more h.shut (fun k hk x hxk => by
    by_cases hkt : k = xt
    · subst hkt
      rw [h.sink] at hxk
      obtain rfl := Option.some.inj hxk
      exact ⟨_, gx, (fun _ h => by cases h), rfl, rfl⟩
    · exact ⟨x, (go k hk.2 hkt).trans hxk, fun _ h => h, rfl, rfl⟩) ⟨f0, f1⟩
  have out : ∀ {x}, Lr a x → ∃ n, Pa sts' xf x (sts0.length + 1) n := fun {x} l => by
    obtain ⟨n, p⟩ := (h.lang x).2 l
    have := (up p).trans (.free gx (List.mem_append_left _ (List.mem_singleton.2 rfl)) (.refl _))
    rw [List.append_nil] at this
    exact ⟨_, this⟩
  have loop : ∀ {x y n}, again = true → Lr a x → Pa sts' xf y (sts0.length + 1) n → ∃ n, Pa sts' xf (x ++ y) (sts0.length + 1) n := fun {x y n} ha l p2 => by
    obtain ⟨n, p⟩ := (h.lang x).2 l
    exact ⟨_, (up p).trans (.free gx (List.mem_append_right _ (by rw [ha]; exact List.mem_singleton.2 rfl)) p2)⟩
  have loops : again = true → ∀ {r y}, Lr r y → r = .star a → ∀ {x}, Lr a x → ∃ n, Pa sts' xf (x ++ y) (sts0.length + 1) n := fun ha r y l => by
    induction l with
    | star0 => intro _ x lx; rw [List.append_nil]; exact out lx
    | star1 l1 _ _ ih2 =>
      intro e x lx
      cases e
      obtain ⟨n, p⟩ := ih2 rfl l1
      exact loop ha lx p
    | _ => intro e; cases e
  refine ⟨by omega, by omega, by omega, by omega, by omega, ?_, gT, ?_, ?_⟩
  · rintro k ⟨h1, h2⟩ x hxk
    rcases (show (k < sts0.length ∧ k ≠ xt) ∨ k = xt ∨ k = sts0.length ∨ k = sts0.length + 1 by omega) with ⟨hk, hkt⟩ | rfl | rfl | rfl
    · rw [go k hk hkt] at hxk
      obtain ⟨q1, q2⟩ := h.shut k ⟨h1, hk⟩ x hxk
      exact ⟨fun g hg => ⟨(q1 g hg).1, by have := (q1 g hg).2; omega⟩, fun hs => ⟨(q2 hs).1, by have := (q2 hs).2; omega⟩⟩
    · rw [gx] at hxk
      obtain rfl := Option.some.inj hxk
      refine ⟨fun g hg => ?_, (fun h => by cases h)⟩
      rcases List.mem_append.1 hg with hg | hg
      · rw [List.mem_singleton.1 hg]; exact ⟨by omega, by omega⟩
      · split at hg
        · rw [List.mem_singleton.1 hg]; exact ⟨by omega, by omega⟩
        · cases hg
    · rw [gF] at hxk
      obtain rfl := Option.some.inj hxk
      refine ⟨fun g hg => ?_, (fun h => by cases h)⟩
      rcases List.mem_append.1 hg with hg | hg
      · rw [List.mem_singleton.1 hg]; exact ⟨by omega, by omega⟩
      · split at hg
        · rw [List.mem_singleton.1 hg]; exact ⟨by omega, by omega⟩
        · cases hg
    · rw [gT] at hxk
      obtain rfl := Option.some.inj hxk
      exact ⟨(fun _ h => by cases h), (fun h => by cases h)⟩
  · intro k h1 h2 x hxk
    rcases (show (k < sts0.length ∧ k ≠ xt) ∨ k = xt ∨ k = sts0.length ∨ k = sts0.length + 1 by omega) with ⟨hk, hkt⟩ | rfl | rfl | rfl
    · rw [go k hk hkt] at hxk
      obtain ⟨q1, q2⟩ := h.shut k ⟨h1, hk⟩ x hxk
      exact ⟨fun g hg => by have := (q1 g hg).2; omega, fun hs => by have := (q2 hs).2; omega⟩
    · rw [gx] at hxk
      obtain rfl := Option.some.inj hxk
      refine ⟨fun g hg => ?_, (fun h => by cases h)⟩
      rcases List.mem_append.1 hg with hg | hg
      · rw [List.mem_singleton.1 hg]; omega
      · split at hg
        · rw [List.mem_singleton.1 hg]; omega
        · cases hg
    · rw [gF] at hxk
      obtain rfl := Option.some.inj hxk
      refine ⟨fun g hg => ?_, (fun h => by cases h)⟩
      rcases List.mem_append.1 hg with hg | hg
      · rw [List.mem_singleton.1 hg]; omega
      · split at hg
        · rw [List.mem_singleton.1 hg]; omega
        · cases hg
    · rw [gT] at hxk
      obtain rfl := Option.some.inj hxk
      exact ⟨(fun _ h => by cases h), (fun h => by cases h)⟩
  · intro cs
    have hin : ∀ {n}, Pa sts' xf cs (sts0.length + 1) n → ∃ n, Pa sts' sts0.length cs (sts0.length + 1) n := fun p => ⟨_, .free gF (List.mem_append_left _ (List.mem_singleton.2 rfl)) p⟩
    constructor
    · rintro ⟨n, hp⟩
      rcases hp.first gF with ⟨_, e⟩ | ⟨g, hg, m, _, p3⟩
      · omega
      · rcases List.mem_append.1 hg with hg | hg
        · rw [List.mem_singleton.1 hg] at p3
          obtain ⟨x, y, rfl, l1, l2, l3⟩ := many _ _ p3
          subst hr
          cases skip <;> cases again
          · rw [l2 rfl, List.append_nil]; exact l1
          · exact .plus l1 l3
          · rw [l2 rfl, List.append_nil]; exact .opt1 l1
          · exact .star1 l1 l3
        · split at hg
          · rename_i hs
            rw [List.mem_singleton.1 hg] at p3
            rw [(p3.sink gT).1]
            subst hr
            rw [hs]
            cases again
            · exact .opt0
            · exact .star0
          · cases hg
    · intro hl
      subst hr
      have hskip : skip = true → ∃ n, Pa sts' sts0.length [] (sts0.length + 1) n := fun hs => ⟨_, .free gF (List.mem_append_right _ (by rw [hs]; exact List.mem_singleton.2 rfl)) (.refl _)⟩
      cases skip <;> cases again
      · obtain ⟨n, p⟩ := out hl; exact hin p
      · cases hl with
        | plus l1 l2 => obtain ⟨n, p⟩ := loops rfl l2 rfl l1; exact hin p
      · cases hl with
        | opt0 => exact hskip rfl
        | opt1 l => obtain ⟨n, p⟩ := out l; exact hin p
      · cases hl with
        | star0 => exact hskip rfl
        | star1 l1 l2 => obtain ⟨n, p⟩ := loops rfl l2 rfl l1; exact hin p
end Go.Proofs.YtcfococinllcmaaGreat

/- The reference's ends, plainly: of each tree the places at which a text of it may end. No program in sight. -/
namespace Go.Proofs.YtcfococinllcmaaGreat

/-- a part of a text -/
def sl (B : List Nat) (i j : Nat) : List Nat := (B.drop i).take (j - i)
theorem sl_len {B : List Nat} {i j : Nat} (h : i ≤ j) (hj : j ≤ B.length) : (sl B i j).length = j - i := by
  unfold sl; rw [List.length_take, List.length_drop]; omega
theorem sl_self (B : List Nat) (i : Nat) : sl B i i = [] := by unfold sl; simp
theorem sl_app {B : List Nat} {i k j : Nat} (h1 : i ≤ k) (h2 : k ≤ j) : sl B i k ++ sl B k j = sl B i j := by
  unfold sl
  have e1 : j - i = (k - i) + (j - k) := by omega
  rw [e1, List.take_add, List.drop_drop, show i + (k - i) = k by omega]
theorem sl_split {B u v : List Nat} {i j : Nat} (h : i ≤ j) (hj : j ≤ B.length) (e : sl B i j = u ++ v) : ∃ k, i ≤ k ∧ k ≤ j ∧ u = sl B i k ∧ v = sl B k j := by
  have hl := congrArg List.length e
  rw [sl_len h hj, List.length_append] at hl
  refine ⟨i + u.length, by omega, by omega, ?_⟩
  rw [← sl_app (k := i + u.length) (by omega) (by omega)] at e
  have := List.append_inj e (by rw [sl_len (by omega) (by omega)]; omega)
  exact ⟨this.1.symm, this.2.symm⟩
theorem sl_one {B : List Nat} {i : Nat} (h : i < B.length) : sl B i (i + 1) = [B[i]] := by
  unfold sl
  rw [show i + 1 - i = 1 by omega, List.drop_eq_getElem_cons h]
  rfl
/-- the places at which a text of a tree may end that begins at one of some -/
def En (B : List Nat) (a : Re) (X : Nat → Prop) (j : Nat) : Prop := j ≤ B.length ∧ ∃ i, i ≤ j ∧ X i ∧ Lr a (sl B i j)
theorem En.congr {B : List Nat} {a : Re} {X Y : Nat → Prop} {j : Nat} (h : ∀ i, i ≤ B.length → (X i ↔ Y i)) : En B a X j ↔ En B a Y j := by
  unfold En
  constructor
  · rintro ⟨h1, i, h2, h3, h4⟩
    exact ⟨h1, i, h2, (h i (by omega)).1 h3, h4⟩
  · rintro ⟨h1, i, h2, h3, h4⟩
    exact ⟨h1, i, h2, (h i (by omega)).2 h3, h4⟩
theorem En_no (B : List Nat) (X : Nat → Prop) (j : Nat) : ¬ En B .no X j := by
  rintro ⟨_, i, _, _, h⟩
  cases h
theorem En_eps (B : List Nat) (X : Nat → Prop) (j : Nat) : En B .eps X j ↔ j ≤ B.length ∧ X j := by
  constructor
  · rintro ⟨h1, i, h2, h3, h4⟩
    have hl : (sl B i j).length = 0 := by
      generalize sl B i j = z at h4
      cases h4
      rfl
    rw [sl_len h2 h1] at hl
    obtain rfl : i = j := by omega
    exact ⟨h1, h3⟩
  · rintro ⟨h1, h3⟩
    exact ⟨h1, j, Nat.le_refl _, h3, by rw [sl_self]; exact .eps⟩
theorem En_set0 (B : List Nat) (S : Nat → Bool) (X : Nat → Prop) : ¬ En B (.set S) X 0 := by
  rintro ⟨h1, i, h2, h3, h4⟩
  obtain rfl : i = 0 := by omega
  rw [sl_self] at h4
  cases h4
theorem En_set (B : List Nat) (S : Nat → Bool) (X : Nat → Prop) (j : Nat) (hj : j < B.length) : En B (.set S) X (j + 1) ↔ X j ∧ S B[j] = true := by
  constructor
  · rintro ⟨h1, i, h2, h3, h4⟩
    have hl : (sl B i (j + 1)).length = 1 := by
      generalize sl B i (j + 1) = z at h4
      cases h4
      rfl
    rw [sl_len h2 h1] at hl
    obtain rfl : i = j := by omega
    rw [sl_one hj] at h4
    cases h4 with
    | set hs => exact ⟨h3, hs⟩
  · rintro ⟨h1, h2⟩
    exact ⟨hj, j, by omega, h1, by rw [sl_one hj]; exact .set h2⟩
theorem En_alt (B : List Nat) (a b : Re) (X : Nat → Prop) (j : Nat) : En B (.alt a b) X j ↔ En B a X j ∨ En B b X j := by
  constructor
  · rintro ⟨h1, i, h2, h3, h4⟩
    cases h4 with
    | altl h => exact .inl ⟨h1, i, h2, h3, h⟩
    | altr h => exact .inr ⟨h1, i, h2, h3, h⟩
  · rintro (⟨h1, i, h2, h3, h4⟩ | ⟨h1, i, h2, h3, h4⟩)
    · exact ⟨h1, i, h2, h3, .altl h4⟩
    · exact ⟨h1, i, h2, h3, .altr h4⟩
theorem En_cat (B : List Nat) (a b : Re) (X : Nat → Prop) (j : Nat) : En B (.cat a b) X j ↔ En B b (En B a X) j := by
  constructor
  · rintro ⟨h1, i, h2, h3, h4⟩
    generalize hz : sl B i j = z at h4
    cases h4 with
    | cat ha hb =>
      obtain ⟨k, k1, k2, rfl, rfl⟩ := sl_split h2 h1 hz
      exact ⟨h1, k, k2, ⟨by omega, i, k1, h3, ha⟩, hb⟩
  · rintro ⟨h1, k, k2, ⟨_, i, k1, h3, ha⟩, hb⟩
    exact ⟨h1, i, by omega, h3, by rw [← sl_app k1 k2]; exact .cat ha hb⟩
theorem En_opt (B : List Nat) (a : Re) (X : Nat → Prop) (j : Nat) : En B (.opt a) X j ↔ (j ≤ B.length ∧ X j) ∨ En B a X j := by
  constructor
  · rintro ⟨h1, i, h2, h3, h4⟩
    generalize hz : sl B i j = z at h4
    cases h4 with
    | opt0 =>
      have hl := congrArg List.length hz
      rw [sl_len h2 h1] at hl
      simp at hl
      obtain rfl : i = j := by omega
      exact .inl ⟨h1, h3⟩
    | opt1 h => exact .inr ⟨h1, i, h2, h3, by rw [hz]; exact h⟩
  · rintro (⟨h1, h3⟩ | ⟨h1, i, h2, h3, h4⟩)
    · exact ⟨h1, j, Nat.le_refl _, h3, by rw [sl_self]; exact .opt0⟩
    · exact ⟨h1, i, h2, h3, .opt1 h4⟩
/-- so often -/
def Ei (B : List Nat) (a : Re) (X : Nat → Prop) : Nat → Nat → Prop
  | 0, j => j ≤ B.length ∧ X j
  | m + 1, j => En B a (Ei B a X m) j
theorem En_mono {B : List Nat} {a : Re} {X Y : Nat → Prop} (h : ∀ i, X i → Y i) {j : Nat} (he : En B a X j) : En B a Y j := by
  obtain ⟨h1, i, h2, h3, h4⟩ := he
  exact ⟨h1, i, h2, h _ h3, h4⟩
theorem Ei_le {B : List Nat} {a : Re} {X : Nat → Prop} {m j : Nat} (h : Ei B a X m j) : j ≤ B.length := by
  cases m with
  | zero => exact h.1
  | succ m => exact h.1
theorem Lr_star {a : Re} {z : List Nat} (h : Lr (.star a) z) : ∀ (B : List Nat) (X : Nat → Prop) (i j : Nat), i ≤ j → j ≤ B.length → sl B i j = z → X i → ∃ m, Ei B a X m j := by
  generalize hr : Re.star a = r at h
  induction h with
  | star0 =>
    intro B X i j h1 h2 hz hx
    have hl := congrArg List.length hz
    rw [sl_len h1 h2] at hl
    simp at hl
    obtain rfl : i = j := by omega
    exact ⟨0, h2, hx⟩
  | star1 ha hs iha ihs =>
    cases hr
    intro B X i j h1 h2 hz hx
    obtain ⟨k, k1, k2, rfl, rfl⟩ := sl_split h1 h2 hz
    obtain ⟨m, hm⟩ := ihs rfl B (En B a X) k j k2 h2 rfl ⟨by omega, i, k1, hx, ha⟩
    refine ⟨m + 1, ?_⟩
    have key : ∀ m j, Ei B a (En B a X) m j → Ei B a X (m + 1) j := by
      intro m
      induction m with
      | zero => intro j h; exact En_mono (fun i hi => hi) (show En B a (Ei B a X 0) j from ⟨h.1, by
          obtain ⟨_, i, p, q, r⟩ := h.2
          exact ⟨i, p, ⟨by omega, q⟩, r⟩⟩)
      | succ m ih => intro j h; exact En_mono (fun i hi => ih i hi) h
    exact key m j hm
  | eps => cases hr
  | set => cases hr
  | cat => cases hr
  | altl => cases hr
  | altr => cases hr
  | plus => cases hr
  | opt0 => cases hr
  | opt1 => cases hr
theorem Ei_app {B : List Nat} {a : Re} {X : Nat → Prop} : ∀ (m j : Nat), Ei B a X m j → ∃ i, i ≤ j ∧ X i ∧ i ≤ B.length ∧ Lr (.star a) (sl B i j) := by
  have snoc : ∀ (x : List Nat), Lr (.star a) x → ∀ y, Lr a y → Lr (.star a) (x ++ y) := by
    intro x hx
    generalize hr : Re.star a = r at hx
    induction hx with
    | star0 => intro y hy; cases hr; have := Lr.star1 hy .star0; simpa using this
    | star1 h1 h2 _ ih => intro y hy; cases hr; rw [List.append_assoc]; exact .star1 h1 (ih rfl y hy)
    | eps => cases hr
    | set => cases hr
    | cat => cases hr
    | altl => cases hr
    | altr => cases hr
    | plus => cases hr
    | opt0 => cases hr
    | opt1 => cases hr
  intro m
  induction m with
  | zero => intro j h; exact ⟨j, Nat.le_refl _, h.2, h.1, by rw [sl_self]; exact .star0⟩
  | succ m ih =>
    rintro j ⟨h1, k, h2, h3, h4⟩
    obtain ⟨i, i1, i2, i3, i4⟩ := ih k h3
    exact ⟨i, by omega, i2, i3, by rw [← sl_app i1 h2]; exact snoc _ i4 _ h4⟩
theorem En_star (B : List Nat) (a : Re) (X : Nat → Prop) (j : Nat) : En B (.star a) X j ↔ ∃ m, Ei B a X m j := by
  constructor
  · rintro ⟨h1, i, h2, h3, h4⟩
    exact Lr_star h4 B X i j h2 h1 rfl h3
  · rintro ⟨m, hm⟩
    obtain ⟨i, i1, i2, _, i4⟩ := Ei_app m j hm
    exact ⟨Ei_le hm, i, i1, i2, i4⟩
theorem En_plus (B : List Nat) (a : Re) (X : Nat → Prop) (j : Nat) : En B (.plus a) X j ↔ ∃ m, Ei B a X (m + 1) j := by
  constructor
  · rintro ⟨h1, i, h2, h3, h4⟩
    generalize hz : sl B i j = z at h4
    cases h4 with
    | plus ha hs =>
      obtain ⟨k, k1, k2, rfl, rfl⟩ := sl_split h2 h1 hz
      obtain ⟨m, hm⟩ := Lr_star (.star1 ha hs) B X i j h2 h1 (by rw [sl_app k1 k2]) h3
      cases m with
      | succ m => exact ⟨m, hm⟩
      | zero =>
        -- then the text lies from i to j, with a first part: begin with it
        obtain ⟨m, hm⟩ := Lr_star hs B (En B a X) k j k2 h1 rfl ⟨by omega, i, k1, h3, ha⟩
        refine ⟨m, ?_⟩
        have key : ∀ m j, Ei B a (En B a X) m j → Ei B a X (m + 1) j := by
          intro m
          induction m with
          | zero => intro j h; exact ⟨h.1, by
              obtain ⟨_, i, p, q, r⟩ := h.2
              exact ⟨i, p, ⟨by have := h.1; omega, q⟩, r⟩⟩
          | succ m ih => intro j h; exact En_mono (fun i hi => ih i hi) h
        exact key m j hm
  · rintro ⟨m, h1, k, h2, h3, h4⟩
    -- the last part moves to the front: by the star's texts
    obtain ⟨i, i1, i2, i3, i4⟩ := Ei_app m k h3
    have fr : ∀ (x : List Nat), Lr (.star a) x → ∀ y, Lr a y → Lr (.plus a) (x ++ y) := by
      intro x hx
      generalize hr : Re.star a = r at hx
      induction hx with
      | star0 => intro y hy; cases hr; have := Lr.plus hy .star0; simpa using this
      | star1 h1 h2 _ ih =>
        intro y hy; cases hr
        rw [List.append_assoc]
        have h3 := ih rfl y hy
        generalize (_ ++ y : List Nat) = z at h3 ⊢
        cases h3 with
        | plus p q => exact .plus h1 (.star1 p q)
      | eps => cases hr
      | set => cases hr
      | cat => cases hr
      | altl => cases hr
      | altr => cases hr
      | plus => cases hr
      | opt0 => cases hr
      | opt1 => cases hr
    exact ⟨h1, i, by omega, i2, by rw [← sl_app i1 h2]; exact fr _ i4 _ h4⟩
/-- the rounds end: what is new no more stays so -/
theorem Ei_shut {B : List Nat} {a : Re} {X : Nat → Prop} {lo k : Nat} (hlo : lo ≤ k) (h : ∀ j, Ei B a X (k + 1) j → ∃ m, lo ≤ m ∧ m ≤ k ∧ Ei B a X m j) : ∀ m j, lo ≤ m → Ei B a X m j → ∃ m', lo ≤ m' ∧ m' ≤ k ∧ Ei B a X m' j := by
  intro m
  induction m with
  | zero => intro j h0 hj; exact ⟨0, h0, by omega, hj⟩
  | succ m ih =>
    intro j h0 hj
    by_cases hm : m + 1 ≤ k
    · exact ⟨m + 1, h0, hm, hj⟩
    · by_cases hlm : lo ≤ m
      · obtain ⟨h1, i, h2, h3, h4⟩ := hj
        obtain ⟨m', a1, a2, a3⟩ := ih i hlm h3
        by_cases e : m' = k
        · subst e
          exact h j ⟨h1, i, h2, a3, h4⟩
        · exact ⟨m' + 1, by omega, by omega, h1, i, h2, a3, h4⟩
      · obtain rfl : m = k := by omega
        exact h j hj
end Go.Proofs.YtcfococinllcmaaGreat

/- The reference's tree in memory: a node has 258 cells. -/
namespace Go.Proofs.YtcfococinllcmaaGreat
open Go.RowKit

def boolC (S : Nat → Bool) : List Value := (List.range 256).map fun c => .bool (S c)
/-- the cells of a node -/
def nodeC (k : Int) (S : Nat → Bool) (kv : Value) : List Value := .int .i64 k :: (boolC S ++ [kv])
theorem boolC_len (S : Nat → Bool) : (boolC S).length = 256 := by unfold boolC; simp
theorem nodeC_len (k : Int) (S : Nat → Bool) (kv : Value) : (nodeC k S kv).length = 258 := by
  unfold nodeC; rw [List.length_cons, List.length_append, boolC_len]; rfl
theorem nodeC_0 (k : Int) (S : Nat → Bool) (kv : Value) : (nodeC k S kv)[0]? = some (.int .i64 k) := rfl
theorem nodeC_set (k : Int) (S : Nat → Bool) (kv : Value) (c : Nat) (hc : c < 256) : (nodeC k S kv)[1 + c]? = some (.bool (S c)) := by
  unfold nodeC
  rw [Nat.add_comm, List.getElem?_cons_succ, List.getElem?_append_left (by rw [boolC_len]; exact hc)]
  unfold boolC
  rw [List.getElem?_map, List.getElem?_range hc]
  rfl
theorem nodeC_kids (k : Int) (S : Nat → Bool) (kv : Value) : (nodeC k S kv)[257]? = some kv := by
  unfold nodeC
  rw [show (257 : Nat) = 256 + 1 by rfl, List.getElem?_cons_succ, List.getElem?_append_right (by rw [boolC_len]; exact Nat.le_refl _), boolC_len]
  rfl
theorem nodeC_one (k : Int) (S : Nat → Bool) (kv : Value) (h : kv.oneCell' = true) : ∀ y ∈ nodeC k S kv, y.oneCell' = true := by
  intro y hy
  unfold nodeC boolC at hy
  rcases List.mem_cons.1 hy with rfl | hy
  · rfl
  · rcases List.mem_append.1 hy with hy | hy
    · obtain ⟨c, _, rfl⟩ := List.mem_map.1 hy
      rfl
    · rw [List.mem_singleton.1 hy]; exact h
/-- the kids of a node -/
structure KidsAt (w : World) (P : Nat → Prop) (kv : Value) (l : List (List Value)) : Prop where
  row : RdAt w kv l.length 258 l.flatten
  each : ∀ x ∈ l, x.length = 258
  own : ∀ q, kv.ownBlock = some q → P q
  few : l.length ≤ 1000000
/-- a tree in memory, its blocks among some: 0 a node, 1 alternatives, 2 a row -/
inductive NA (w : World) (P : Nat → Prop) : Nat → List (List Value) → Re → Prop
  | set (S : Nat → Bool) (kv : Value) : NA w P 0 [nodeC 0 S kv] (.set S)
  | alts {l : List (List Value)} {a : Re} {S : Nat → Bool} {kv : Value} : NA w P 1 l a → KidsAt w P kv l → NA w P 0 [nodeC 1 S kv] a
  | row {l : List (List Value)} {a : Re} {S : Nat → Bool} {kv : Value} : NA w P 2 l a → KidsAt w P kv l → NA w P 0 [nodeC 2 S kv] a
  | star {x : List Value} {a : Re} {S : Nat → Bool} {kv : Value} : NA w P 0 [x] a → KidsAt w P kv [x] → NA w P 0 [nodeC 3 S kv] (.star a)
  | plus {x : List Value} {a : Re} {S : Nat → Bool} {kv : Value} : NA w P 0 [x] a → KidsAt w P kv [x] → NA w P 0 [nodeC 4 S kv] (.plus a)
  | opt {x : List Value} {a : Re} {S : Nat → Bool} {kv : Value} : NA w P 0 [x] a → KidsAt w P kv [x] → NA w P 0 [nodeC 5 S kv] (.opt a)
  | a0 : NA w P 1 [] .no
  | a1 {l : List (List Value)} {x : List Value} {a b : Re} : NA w P 1 l a → NA w P 0 [x] b → NA w P 1 (l ++ [x]) (.alt a b)
  | r0 : NA w P 2 [] .eps
  | r1 {l : List (List Value)} {x : List Value} {a b : Re} : NA w P 2 l a → NA w P 0 [x] b → NA w P 2 (l ++ [x]) (.cat a b)
theorem rd_keepB {w w' : World} {v : Value} {n k : Nat} {xs : List Value} (h : RdAt w v n k xs) (hs : w.heap.size ≤ w'.heap.size) (hk : ∀ q, v.ownBlock = some q → q < w.heap.size → w'.heap[q]? = w.heap[q]?) : RdAt w' v n k xs := by
  refine ⟨h.1, ?_⟩
  rcases h.2 with h1 | ⟨a, c, rfl, hc, hr⟩
  · exact .inl h1
  · refine .inr ⟨a, c, rfl, hc, fun hn => ?_⟩
    obtain ⟨b, o, rfl, hlt, hcell⟩ := hr hn
    exact ⟨b, o, rfl, Nat.lt_of_lt_of_le hlt hs, fun j x hx => (World.cell?_of_block (a := ⟨b, o + j, none⟩) (hk b rfl hlt)).trans (hcell j x hx)⟩
theorem KidsAt.keep {w w' : World} {P : Nat → Prop} {kv : Value} {l : List (List Value)} (h : KidsAt w P kv l) (hs : w.heap.size ≤ w'.heap.size) (hk : ∀ q, P q → q < w.heap.size → w'.heap[q]? = w.heap[q]?) : KidsAt w' P kv l :=
  ⟨rd_keepB h.row hs fun q hq hlt => hk q (h.own q hq) hlt, h.each, h.own, h.few⟩
theorem NA.keep {w w' : World} {P : Nat → Prop} {i : Nat} {l : List (List Value)} {a : Re} (h : NA w P i l a) (hs : w.heap.size ≤ w'.heap.size) (hk : ∀ q, P q → q < w.heap.size → w'.heap[q]? = w.heap[q]?) : NA w' P i l a := by
  induction h with
  | set S kv => exact .set S kv
  | alts _ h2 ih => exact .alts ih (h2.keep hs hk)
  | row _ h2 ih => exact .row ih (h2.keep hs hk)
  | star _ h2 ih => exact .star ih (h2.keep hs hk)
  | plus _ h2 ih => exact .plus ih (h2.keep hs hk)
  | opt _ h2 ih => exact .opt ih (h2.keep hs hk)
  | a0 => exact .a0
  | a1 _ _ ih1 ih2 => exact .a1 ih1 ih2
  | r0 => exact .r0
  | r1 _ _ ih1 ih2 => exact .r1 ih1 ih2
theorem KidsAt.mono {w : World} {P Q : Nat → Prop} {kv : Value} {l : List (List Value)} (h : KidsAt w P kv l) (hq : ∀ q, P q → Q q) : KidsAt w Q kv l := ⟨h.row, h.each, fun q hh => hq q (h.own q hh), h.few⟩
theorem NA.mono {w : World} {P Q : Nat → Prop} {i : Nat} {l : List (List Value)} {a : Re} (h : NA w P i l a) (hq : ∀ q, P q → Q q) : NA w Q i l a := by
  induction h with
  | set S kv => exact .set S kv
  | alts _ h2 ih => exact .alts ih (h2.mono hq)
  | row _ h2 ih => exact .row ih (h2.mono hq)
  | star _ h2 ih => exact .star ih (h2.mono hq)
  | plus _ h2 ih => exact .plus ih (h2.mono hq)
  | opt _ h2 ih => exact .opt ih (h2.mono hq)
  | a0 => exact .a0
  | a1 _ _ ih1 ih2 => exact .a1 ih1 ih2
  | r0 => exact .r0
  | r1 _ _ ih1 ih2 => exact .r1 ih1 ih2
theorem NA.later {w w' : World} {P : Nat → Prop} {i : Nat} {l : List (List Value)} {a : Re} (h : NA w P i l a) (hb : Below w.heap.size w w') : NA w' P i l a := h.keep hb.size fun q _ hq => hb.block q hq
/-- a node is one of six -/
theorem NA.len {w : World} {P : Nat → Prop} {x : List Value} {a : Re} (h : NA w P 0 [x] a) : ∃ k S kv, x = nodeC k S kv := by
  generalize hi : 0 = i at h
  generalize hl : [x] = l at h
  cases h <;> first | (cases hl; exact ⟨_, _, _, rfl⟩) | cases hi
end Go.Proofs.YtcfococinllcmaaGreat

/- The reference's reader: next, fail, sign: contracts. -/
namespace Go.Proofs.YtcfococinllcmaaGreat
open Go.RowKit

theorem rpeek_of {s : ByteArray} {b : Bs} (he : b.err = 0) (hp : b.pos < s.size) : peekM s b = some (byteM s b.pos) := by unfold peekM; rw [if_pos ⟨he, hp⟩]
theorem rbyte_at (s : ByteArray) (k : Nat) (h : k < s.size) : ((s[k]'h).toNat : Int) = (byteM s k : Int) := by unfold byteM; rw [dif_pos h]
theorem rsign_none {s : ByteArray} {b : Bs} (h : peekM s b = none) : signM s b = (failM (stepM b) 2, 0) := by unfold signM; rw [h]
theorem rsign_plain {s : ByteArray} {b : Bs} {c : Nat} (h : peekM s b = some c) (hc : c ≠ 92) : signM s b = (stepM b, c) := by unfold signM; rw [h]; simp [hc]
theorem rsign_end {s : ByteArray} {b : Bs} (h : peekM s b = some 92) (h' : peekM s (stepM b) = none) : signM s b = (failM (stepM (stepM b)) 2, 0) := by unfold signM; rw [h]; simp [h']
theorem rsign_esc {s : ByteArray} {b : Bs} {d : Nat} (h : peekM s b = some 92) (h' : peekM s (stepM b) = some d) : signM s b = (stepM (stepM b), d) := by unfold signM; rw [h]; simp [h']
/-- a reader in memory -/
structure RdrAt (w : World) (g : Nat) (s : ByteArray) (b : Bs) : Prop where
  c0 : w.cell? ⟨g, 0, none⟩ = some (.string s)
  c1 : w.cell? ⟨g, 1, none⟩ = some (.int .i64 b.pos)
  c2 : w.cell? ⟨g, 2, none⟩ = some (.int .i64 b.err)
  th : w.there g 0 3
  lt : g < w.heap.size
theorem RdrAt.below {w w' : World} {g : Nat} {s : ByteArray} {b : Bs} (h : RdrAt w g s b) (hb : Below w.heap.size w w') : RdrAt w' g s b :=
  ⟨keep_cell h.c0 hb h.lt, keep_cell h.c1 hb h.lt, keep_cell h.c2 hb h.lt, there_later h.th hb h.lt, Nat.lt_of_lt_of_le h.lt hb.size⟩
theorem rfar {w : World} {p i b j : Nat} {v : Value} (h : ¬(p = b ∧ i = j)) : (w.setCell ⟨p, i, none⟩ v).cell? ⟨b, j, none⟩ = w.cell? ⟨b, j, none⟩ := by
  apply World.cell?_setCell_other
  intro e
  simp only [Addr.mk.injEq] at e
  exact h ⟨e.1, e.2.1⟩
theorem rthere_set {w : World} {g o n : Nat} (h : w.there g o n) (p i : Nat) (v : Value) : (w.setCell ⟨p, i, none⟩ v).there g o n := World.there_setCells h p i [v]
theorem RdrAt.setPos {w : World} {g : Nat} {s : ByteArray} {b : Bs} (h : RdrAt w g s b) (k : Nat) : RdrAt (w.setCell ⟨g, 1, none⟩ (.int .i64 k)) g s { b with pos := k } :=
  ⟨by rw [rfar (by omega)]; exact h.c0, World.cell?_setCell_same _ _ _ h.c1, by rw [rfar (by omega)]; exact h.c2, rthere_set h.th _ _ _, by simpa using h.lt⟩
theorem RdrAt.step {w : World} {g : Nat} {s : ByteArray} {b : Bs} (h : RdrAt w g s b) : RdrAt (w.setCell ⟨g, 1, none⟩ (.int .i64 ((b.pos : Int) + 1))) g s (stepM b) := h.setPos (b.pos + 1)
theorem RdrAt.setErr {w : World} {g : Nat} {s : ByteArray} {b : Bs} (h : RdrAt w g s b) (e : Int) : RdrAt (w.setCell ⟨g, 2, none⟩ (.int .i64 e)) g s { b with err := e } :=
  ⟨by rw [rfar (by omega)]; exact h.c0, by rw [rfar (by omega)]; exact h.c1, World.cell?_setCell_same _ _ _ h.c2, rthere_set h.th _ _ _, by simpa using h.lt⟩
/-- what is kept but for one block -/
abbrev Kr (g : Nat) (w w' : World) : Prop := Keep (fun k => k = g) w w'
theorem Kr.refl (g : Nat) (w : World) : Kr g w w := Keep.refl _ w
theorem Kr.trans {g : Nat} {a b c : World} (h : Kr g a b) (h' : Kr g b c) : Kr g a c := Keep.trans h h' (fun _ hk => .inl hk)
theorem Kr.of_below {g : Nat} {w w' : World} (h : Below w.heap.size w w') : Kr g w w' := Keep.of_below h
theorem Kr.set (g : Nat) (w : World) (i : Nat) (v : Value) : Kr g w (w.setCell ⟨g, i, none⟩ v) := Keep.setCell (Keep.refl (fun k => k = g) w) (p := ⟨g, i, none⟩) rfl v
theorem Kr.cell {g : Nat} {w w' : World} (h : Kr g w w') {b o : Nat} {v : Value} (hv : w.cell? ⟨b, o, none⟩ = some v) (h1 : b ≠ g) : w'.cell? ⟨b, o, none⟩ = some v :=
  (World.cell?_of_block (a := ⟨b, o, none⟩) (h.block b (World.block_lt_of_cell? w _ hv) h1)).trans hv
set_option maxHeartbeats 1600000 in
set_option maxRecDepth 100000 in
theorem next_is (w : World) (g : Nat) (s : ByteArray) (b : Bs) (o : Option Nat) (ho : peekM s b = o) (h : RdrAt w g s b) (hp : b.pos ≤ 2000000) :
    Calls Tryz.prog 130 #[.pointer (some ⟨g, 0, none⟩)] w fun e w' => e = .returned (.tuple #[.int .u8 ((o.getD 0 : Nat) : Int), .bool o.isSome]) ∧ Below w.heap.size w w' := by
  obtain ⟨c0, c1, c2, _, _⟩ := h
  obtain ⟨pos, err, sts⟩ := b
  dsimp only at c1 c2 hp
  by_cases he : err = 0
  · subst he
    by_cases hps : pos < s.size
    · have hb : peekM s ⟨pos, 0, sts⟩ = some (byteM s pos) := rpeek_of rfl hps
      rw [hb] at ho
      subst ho
      have hn : decide ((pos : Int) < (s.size : Int)) = true := by simpa using hps
      have hn2 : decide ((s.size : Int) ≤ (pos : Int)) = false := by simpa using hps
      have hn3 : decide (s.size ≤ pos) = false := by simpa using hps
      have hi : (0 : Int) ≤ (pos : Int) := by omega
      have hi2 : (pos : Int) < (s.size : Int) := by omega
      have HB := rbyte_at s pos hps
      have HB' := Lib.hid HB
      clear hb HB
      go_enter Tryz.func130, Tryz.ntmps130
      go_wp2
      go_quiet (fail)
      go_wp2
      go_quiet (fail)
      go_wp2
      go_ret2
      refine ⟨?_, ?_⟩
      · simp only [Option.getD_some, Option.isSome_some]
        rw [← HB'.out]
        rfl
      · exact bl_drewN (bl_drewN (Below.refl _ _) _) _
    · have hb : peekM s ⟨pos, 0, sts⟩ = none := by unfold peekM; rw [if_neg (fun h => hps h.2)]
      rw [hb] at ho
      subst ho
      have hn : decide ((pos : Int) < (s.size : Int)) = false := by simpa using hps
      have hn2 : decide ((s.size : Int) ≤ (pos : Int)) = true := by simp; omega
      have hn3 : decide (s.size ≤ pos) = true := by simp; omega
      clear hb
      go_enter Tryz.func130, Tryz.ntmps130
      go_wp2
      go_quiet (fail)
      go_wp2
      go_ret2
      exact ⟨rfl, bl_drewN (Below.refl _ _) _⟩
  · have hb : peekM s ⟨pos, err, sts⟩ = none := by unfold peekM; rw [if_neg (fun h => he h.1)]
    rw [hb] at ho
    subst ho
    have hd : (err != 0) = true := by simpa using he
    have hd2 : (err == 0) = false := by simpa using he
    clear hb
    go_enter Tryz.func130, Tryz.ntmps130
    go_wp2
    go_quiet (fail)
    go_wp2
    go_ret2
    exact ⟨rfl, bl_drewN (Below.refl _ _) _⟩
set_option maxHeartbeats 800000 in
set_option maxRecDepth 100000 in
theorem rfail_is (w : World) (g : Nat) (s : ByteArray) (b : Bs) (e0 : Int) (h : RdrAt w g s b) :
    Calls Tryz.prog 108 #[.pointer (some ⟨g, 0, none⟩), .int .i64 e0] w fun e w' => e = .returned (.tuple #[]) ∧ RdrAt w' g s (failM b e0) ∧ Kr g w w' := by
  have h' := h
  obtain ⟨c0, c1, c2, th, _⟩ := h
  have f2 := there_free th 2 (by omega)
  obtain ⟨pos, err, sts⟩ := b
  dsimp only at c1 c2
  clear th
  by_cases he : err = 0
  · subst he
    have HN := Lib.hid (h'.setErr e0)
    have HF : Hid (failM ⟨pos, 0, sts⟩ e0 = ⟨pos, e0, sts⟩) := Lib.hid rfl
    clear h'
    go_enter Tryz.func108, Tryz.ntmps108
    go_wp2
    go_end0
    refine ⟨rfl, ?_, Kr.set g _ _ _⟩
    rw [HF.out]
    exact HN.out
  · have hd2 : (err == 0) = false := by simpa using he
    have HF : Hid (failM ⟨pos, err, sts⟩ e0 = ⟨pos, err, sts⟩) := Lib.hid (by unfold failM; rw [if_neg he])
    have HN := Lib.hid h'
    clear h'
    go_enter Tryz.func108, Tryz.ntmps108
    go_wp2
    go_end0
    refine ⟨rfl, ?_, Kr.refl _ _⟩
    rw [HF.out]
    exact HN.out
set_option maxHeartbeats 1600000 in
set_option maxRecDepth 100000 in
theorem rsign_is (w : World) (g : Nat) (s : ByteArray) (b : Bs) (h : RdrAt w g s b) (hp : b.pos ≤ 1000000) :
    Calls Tryz.prog 180 #[.pointer (some ⟨g, 0, none⟩)] w fun e w' => e = .returned (.int .u8 ((signM s b).2 : Nat)) ∧ RdrAt w' g s (signM s b).1 ∧ Kr g w w' := by
  obtain ⟨o, ho⟩ : ∃ o, peekM s b = o := ⟨_, rfl⟩
  have k1 := next_is w g s b o ho h (by omega)
  have HO := Lib.hid ho
  have HB := Lib.hid h
  clear ho h
  go_enter Tryz.func180, Tryz.ntmps180
  go_wp2_with fail
  refine k1.mono ?_
  rintro e w1 ⟨rfl, hb1⟩
  have HB1 := Lib.hid (HB.out.below hb1)
  have HS1 := Lib.hid (Kr.of_below (g := g) hb1)
  have c1 := HB1.out.c1
  have f1 := there_free HB1.out.th 1 (by omega)
  clear k1 hb1
  go_upto_region 3 with fail
  change Code.wp _ _ _ _ (w1.setCell ⟨g, 1, none⟩ (.int .i64 ((b.pos : Int) + 1)))
  have HB2 := Lib.hid HB1.out.step
  have HS2 := Lib.hid (HS1.out.trans (Kr.set g w1 1 (.int .i64 ((b.pos : Int) + 1))))
  clear c1 f1 HB1 HS1 HB
  generalize w1.setCell ⟨g, 1, none⟩ (.int .i64 ((b.pos : Int) + 1)) = w2 at *
  have kf := fun W b (h : RdrAt W g s b) => rfail_is W g s b 2 h
  have KF := Lib.hid kf
  clear kf
  cases o
  · have k2 := KF.out _ _ HB2.out
    go_wp2_with fail
    refine k2.mono ?_
    rintro e w3 ⟨rfl, hB3, hs3⟩
    have HB3 := Lib.hid hB3
    have HS3 := Lib.hid (HS2.out.trans hs3)
    clear k2 hB3 hs3
    go_wp2
    go_ret
    rw [rsign_none HO.out]
    exact ⟨rfl, HB3.out, HS3.out⟩
  · rename_i c
    by_cases hc : c = 92
    · subst hc
      obtain ⟨o, ho⟩ : ∃ o, peekM s (stepM b) = o := ⟨_, rfl⟩
      have k2 := next_is w2 g s (stepM b) o ho HB2.out (by simp only [stepM]; omega)
      have HO2 := Lib.hid ho
      clear ho
      go_wp2_with fail
      refine k2.mono ?_
      rintro e w3 ⟨rfl, hb3⟩
      have HB3 := Lib.hid (HB2.out.below hb3)
      have HS3 := Lib.hid (HS2.out.trans (Kr.of_below (g := g) hb3))
      have c1 := HB3.out.c1
      have f1 := there_free HB3.out.th 1 (by omega)
      have hps : (stepM b).pos ≤ 1000001 := by simp only [stepM]; omega
      clear k2 hb3 HB2 HS2
      go_upto_region 6 with fail
      change Code.wp _ _ _ _ (w3.setCell ⟨g, 1, none⟩ (.int .i64 (((stepM b).pos : Int) + 1)))
      have HB4 := Lib.hid HB3.out.step
      have HS4 := Lib.hid (HS3.out.trans (Kr.set g w3 1 (.int .i64 (((stepM b).pos : Int) + 1))))
      clear c1 f1 HB3 HS3
      generalize w3.setCell ⟨g, 1, none⟩ (.int .i64 (((stepM b).pos : Int) + 1)) = w4 at *
      cases o
      · have k2 := KF.out _ _ HB4.out
        go_wp2_with fail
        refine k2.mono ?_
        rintro e w5 ⟨rfl, hB5, hs5⟩
        have HB5 := Lib.hid hB5
        have HS5 := Lib.hid (HS4.out.trans hs5)
        clear k2 hB5 hs5
        go_wp2
        go_ret
        rw [rsign_end HO.out HO2.out]
        exact ⟨rfl, HB5.out, HS5.out⟩
      · rename_i d
        go_wp2
        go_ret
        rw [rsign_esc HO.out HO2.out]
        exact ⟨rfl, HB4.out, HS4.out⟩
    · have hcb : ((c : Int) == 92) = false := by rw [beq_eq_false_iff_ne]; omega
      have HC := Lib.hid hc
      clear hc
      go_wp2
      go_ret
      rw [rsign_plain HO.out HC.out]
      exact ⟨rfl, HB2.out, HS2.out⟩
end Go.Proofs.YtcfococinllcmaaGreat

/- The reference's tree: operations on a whole node (258 cells), one law each. -/
namespace Go.Proofs.YtcfococinllcmaaGreat
open Go.RowKit

def noB : Nat → Bool := fun _ => false
/-- a node as it is made: kind k, no bytes, no kids -/
def zeroN (k : Int) : Array Value := (nodeC k noB (.slice none 0 0)).toArray
theorem zeroN_size (k : Int) : (zeroN k).size = 258 := by unfold zeroN; rw [List.size_toArray, nodeC_len]
theorem zeroN_list (k : Int) : (zeroN k).toList = nodeC k noB (.slice none 0 0) := by unfold zeroN; simp
set_option maxRecDepth 100000 in
theorem node_zero : (Tryz.prog.info? 148).map (fun i => (i.zero, i.size, i.bytes)) = some (some (.agg (zeroN 0)), 258, 288) := by kernel_rfl
theorem node_size : (Tryz.prog.info? 148).map (·.size) = some 258 := by
  have h := node_zero
  cases hq : Tryz.prog.info? 148 with
  | none => rw [hq] at h; cases h
  | some i =>
    rw [hq] at h
    simp only [Option.map_some, Option.some.injEq, Prod.mk.injEq] at h ⊢
    exact h.2.1
set_option maxRecDepth 100000 in
theorem node_built0 : Tryz.prog.built 148 [] = some (zeroN 0) := by kernel_rfl
set_option maxRecDepth 100000 in
theorem node_built1 : Tryz.prog.built 148 [(0, .int .i64 1)] = some (zeroN 1) := by kernel_rfl
set_option maxRecDepth 100000 in
theorem node_built2 : Tryz.prog.built 148 [(0, .int .i64 2)] = some (zeroN 2) := by kernel_rfl
set_option maxRecDepth 100000 in
theorem node_built3 (k : Int) (a : Option Addr) (n c : Nat) : Tryz.prog.built 148 [(0, .int .i64 k), (2, .slice a n c)] = some (nodeC k noB (.slice a n c)).toArray := by kernel_rfl
theorem node_run_zero (w : World) : (zeroValue 148).run Tryz.prog w = .ok (.agg (zeroN 0)) w := by
  have h := node_zero
  cases hq : Tryz.prog.info? 148 with
  | none => rw [hq] at h; cases h
  | some i =>
    rw [hq] at h
    simp only [Option.map_some, Option.some.injEq, Prod.mk.injEq] at h
    simp [zeroValue, typeInfo, hq, h.1]
section
variable {ops : Array Oper} {rest : List Oper} {o : Oper} {a : Act} {w : World} {Q : Exit → Act → World → Prop}
/-- a new node -/
theorem wpList_allocN (hg : o.guard = none) (ho : o.op = .alloc 148) (dst : Option Tmp) (hdst : o.dst = dst) (N : Nat) (hN : w.heap.size = N)
    (h : wpList Tryz.prog ops Q rest (a.put dst (.pointer (some ⟨N, 0, none⟩))) (w.alloc (.cells (zeroN 0) 148))) : wpList Tryz.prog ops Q (o :: rest) a w := by
  subst hdst hN
  refine wpList_plain hg fun K hK => ?_
  unfold Oper.wp execOp
  simp only [ho, Sem.run_bind, Instr.alloc, newVar, newRow, node_run_zero, run_newObj_alloc, Sem.run_pure, Result.andThen_ok, Value.cells]
  exact hK _ _ h
/-- a node is built -/
theorem wpList_buildN (hg : o.guard = none) (parts : Array (Nat × Operand)) (ho : o.op = .build 148 parts) (dst : Option Tmp) (hdst : o.dst = dst) (cells : Array Value)
    (hf : Tryz.prog.built 148 (parts.map fun (i, x) => (i, a.eval x)).toList = some cells)
    (h : wpList Tryz.prog ops Q rest (a.put dst (.agg cells)) w) : wpList Tryz.prog ops Q (o :: rest) a w := by
  subst hdst
  refine wpList_build hg 148 parts ho (by rw [hf]; rfl) ?_
  rw [hf]
  exact h
/-- a node is read -/
theorem wpList_loadN (hg : o.guard = none) (x : Operand) (ho : o.op = .load 148 x) (dst : Option Tmp) (hdst : o.dst = dst) (b i : Nat) (hx : a.eval x = .pointer (some ⟨b, i, none⟩)) (cs : List Value) (hc : w.rangeAt b i cs) (hl : cs.length = 258)
    (h : wpList Tryz.prog ops Q rest (a.put dst (.agg cs.toArray)) w) : wpList Tryz.prog ops Q (o :: rest) a w := by
  subst hdst
  exact wpList_load_mid hg 148 x ho b i hx cs _ hc Tryz.underlying148 rfl (by rw [hl]; exact node_size) h
/-- a node is laid -/
theorem wpList_storeN (hg : o.guard = none) (x y : Operand) (ho : o.op = .store 148 x y) (dst : Option Tmp) (hdst : o.dst = dst) (b i : Nat) (cs : List Value) (hx : a.eval x = .pointer (some ⟨b, i, none⟩)) (hy : a.eval y = .agg cs.toArray)
    (ht : w.there b i 258) (hl : cs.length = 258) (h1 : ∀ y ∈ cs, y.oneCell' = true)
    (h : wpList Tryz.prog ops Q rest (a.put dst undef) (w.setCells b i cs)) : wpList Tryz.prog ops Q (o :: rest) a w := by
  subst hdst
  refine wpList_store_mid hg 148 x y ho b i cs.toArray hx hy (by simpa [hl] using ht) (by simpa [hl] using node_size) (all_oneCell_toArray h1) ?_
  simpa using h
end
/-- a node in a block of its own -/
structure NdAt (w : World) (p : Nat) (cs : List Value) : Prop where
  at_ : w.rangeAt p 0 cs
  th : w.there p 0 258
  len : cs.length = 258
  lt : p < w.heap.size
theorem NdAt.keep {w w' : World} {p : Nat} {cs : List Value} (h : NdAt w p cs) (hs : w.heap.size ≤ w'.heap.size) (hk : w'.heap[p]? = w.heap[p]?) : NdAt w' p cs :=
  ⟨fun j v hv => (World.cell?_of_block (a := ⟨p, 0 + j, none⟩) hk).trans (h.at_ j v hv), fun j hj => by
    obtain ⟨h1, h2⟩ := h.th j hj
    exact ⟨by rw [World.cell?_of_block (a := ⟨p, 0 + j, none⟩) hk]; exact h1, by rw [World.frozen?_of_block (a := ⟨p, 0 + j, none⟩) hk]; exact h2⟩, h.len, Nat.lt_of_lt_of_le h.lt hs⟩
theorem NdAt.later {w w' : World} {p : Nat} {cs : List Value} (h : NdAt w p cs) (hb : Below w.heap.size w w') : NdAt w' p cs := h.keep hb.size (hb.block p h.lt)
theorem NdAt.kr {w w' : World} {g p : Nat} {cs : List Value} (h : NdAt w p cs) (hk : Kr g w w') (hne : p ≠ g) : NdAt w' p cs := h.keep hk.size (hk.block p h.lt hne)
theorem NdAt.cell {w : World} {p : Nat} {cs : List Value} (h : NdAt w p cs) {j : Nat} {v : Value} (hv : cs[j]? = some v) : w.cell? ⟨p, j, none⟩ = some v := by
  have := h.at_ j v hv
  rwa [Nat.zero_add] at this
theorem NdAt.free {w : World} {p : Nat} {cs : List Value} (h : NdAt w p cs) {j : Nat} (hj : j < 258) : w.frozen? ⟨p, j, none⟩ = false := by
  have := (h.th j hj).2
  rwa [Nat.zero_add] at this
theorem there_new (w : World) (k : Int) (t : TypeId) : (w.alloc (.cells (zeroN k) t)).there w.heap.size 0 258 := by
  have h := box_there (xs := zeroN k) (t := t) (Below.refl _ (w.alloc (.cells (zeroN k) t)))
  rwa [zeroN_size] at h
theorem NdAt.new (w : World) (k : Int) (t : TypeId) : NdAt (w.alloc (.cells (zeroN k) t)) w.heap.size (nodeC k noB (.slice none 0 0)) :=
  ⟨fun j v hv => by
    rw [Nat.zero_add]
    refine (box_cells (Below.refl _ (w.alloc (.cells (zeroN k) t)))).1 j v ?_
    rw [← Array.getElem?_toList, zeroN_list]
    exact hv, there_new w k t, nodeC_len _ _ _, by rw [World.size_alloc]; omega⟩
theorem size_setCells (w : World) (g o : Nat) (vs : List Value) : (w.setCells g o vs).heap.size = w.heap.size := by
  induction vs generalizing w o with
  | nil => rfl
  | cons v r ih => rw [World.setCells, ih]; simp
/-- behind a store of a whole node -/
theorem NdAt.stored {w : World} {p : Nat} {old cs : List Value} (h : NdAt w p old) (hl : cs.length = 258) : NdAt (w.setCells p 0 cs) p cs :=
  ⟨World.rangeAt_setCells_same w p 0 cs (by rw [hl]; exact h.th), World.there_setCells h.th p 0 cs, hl, by rw [size_setCells]; exact h.lt⟩
/-- behind a store of one cell -/
theorem NdAt.set {w : World} {p : Nat} {cs : List Value} (h : NdAt w p cs) (j : Nat) (v : Value) (hj : j < 258) : NdAt (w.setCell ⟨p, j, none⟩ v) p (cs.set j v) :=
  ⟨fun i u hu => by
    rw [Nat.zero_add]
    rw [List.getElem?_set] at hu
    split at hu
    · rename_i e
      subst e
      split at hu
      · rw [← Option.some.inj hu]
        exact World.cell?_setCell_same _ _ _ (h.cell (List.getElem?_eq_getElem (by rw [h.len]; exact hj)))
      · cases hu
    · rename_i e
      rw [rfar (by omega)]
      exact h.cell hu, rthere_set h.th _ _ _, by simpa using h.len, by simpa using h.lt⟩
theorem nodeC_setK (k : Int) (S : Nat → Bool) (kv kv' : Value) : (nodeC k S kv).set 257 kv' = nodeC k S kv' := by
  unfold nodeC
  rw [show (257 : Nat) = 256 + 1 by rfl, List.set_cons_succ, List.set_append_right _ _ (by rw [boolC_len]; exact Nat.le_refl _), boolC_len]
  rfl
theorem nodeC_setB (k : Int) (S : Nat → Bool) (kv : Value) (c : Nat) (hc : c < 256) (v : Bool) : (nodeC k S kv).set (1 + c) (.bool v) = nodeC k (fun x => if x = c then v else S x) kv := by
  unfold nodeC
  rw [Nat.add_comm, List.set_cons_succ, List.set_append_left _ _ (by rw [boolC_len]; exact hc)]
  congr 2
  unfold boolC
  apply List.ext_getElem?
  intro i
  rw [List.getElem?_set]
  by_cases hi : i < 256
  · simp only [List.getElem?_map, List.getElem?_range hi, List.length_map, List.length_range, Option.map_some]
    by_cases e : c = i
    · subst e
      simp [hi]
    · simp [e, Ne.symm e]
  · have h1 : ((List.range 256).map fun c => Value.bool (S c))[i]? = none := List.getElem?_eq_none (by simp; omega)
    have h2 : ((List.range 256).map fun x => Value.bool (if x = c then v else S x))[i]? = none := List.getElem?_eq_none (by simp; omega)
    rw [h1, h2, if_neg (by omega)]
end Go.Proofs.YtcfococinllcmaaGreat

/- The reference's reader under way: what its functions carry. -/
namespace Go.Proofs.YtcfococinllcmaaGreat
open Go.RowKit

abbrev nilS : Value := .slice none 0 0
theorem Kr.new {g : Nat} {w0 w : World} (h : Kr g w0 w) (p i : Nat) (v : Value) (hp : w0.heap.size ≤ p) : Kr g w0 (w.setCell ⟨p, i, none⟩ v) :=
  ⟨h.os, h.tape, h.output, by rw [World.size_setCell]; exact h.size, fun k hk hn => by rw [Below.heap_setCell w ⟨p, i, none⟩ v k (by show k ≠ p; omega)]; exact h.block k hk hn⟩
theorem Kr.news {g : Nat} {w0 w : World} (h : Kr g w0 w) (p : Nat) (hp : w0.heap.size ≤ p) : ∀ (vs : List Value) (o : Nat), Kr g w0 (w.setCells p o vs) := by
  intro vs
  induction vs generalizing w with
  | nil => intro o; exact h
  | cons v r ih => intro o; exact ih (h.new p o v hp) (o + 1)
theorem RdrAt.kept {w w' : World} {g : Nat} {s : ByteArray} {b : Bs} (h : RdrAt w g s b) (hs : w.heap.size ≤ w'.heap.size) (hk : w'.heap[g]? = w.heap[g]?) : RdrAt w' g s b :=
  ⟨(World.cell?_of_block (a := ⟨g, 0, none⟩) hk).trans h.c0, (World.cell?_of_block (a := ⟨g, 1, none⟩) hk).trans h.c1, (World.cell?_of_block (a := ⟨g, 2, none⟩) hk).trans h.c2,
    fun j hj => by
      obtain ⟨h1, h2⟩ := h.th j hj
      exact ⟨by rw [World.cell?_of_block (a := ⟨g, 0 + j, none⟩) hk]; exact h1, by rw [World.frozen?_of_block (a := ⟨g, 0 + j, none⟩) hk]; exact h2⟩, Nat.lt_of_lt_of_le h.lt hs⟩
theorem there_kept {w w' : World} {p n : Nat} (h : w.there p 0 n) (hk : w'.heap[p]? = w.heap[p]?) : w'.there p 0 n := fun j hj => by
  obtain ⟨h1, h2⟩ := h j hj
  exact ⟨by rw [World.cell?_of_block (a := ⟨p, 0 + j, none⟩) hk]; exact h1, by rw [World.frozen?_of_block (a := ⟨p, 0 + j, none⟩) hk]; exact h2⟩
theorem heap_setCells (w : World) (p k : Nat) (hk : k ≠ p) : ∀ (vs : List Value) (o : Nat), (w.setCells p o vs).heap[k]? = w.heap[k]? := by
  intro vs
  induction vs generalizing w with
  | nil => intro o; rfl
  | cons v r ih => intro o; exact (ih (w.setCell ⟨p, o, none⟩ v) (o + 1)).trans (Below.heap_setCell w ⟨p, o, none⟩ v k hk)
/-- where a reader stands, read out of memory -/
def rposAt (w : World) (g : Nat) : Nat := match w.cell? ⟨g, 1, none⟩ with
  | some (.int _ n) => n.toNat
  | _ => 0
theorem RdrAt.posAt {w : World} {g : Nat} {s : ByteArray} {b : Bs} (h : RdrAt w g s b) : rposAt w g = b.pos := by
  unfold rposAt
  rw [h.c1]
  simp
/-- what a function of the reader carries: the reader, its result's block, its own node's block -/
structure Clr (w0 w : World) (g : Nat) (s : ByteArray) (b : Bs) (cs : List Value) : Prop where
  rdr : RdrAt w g s b
  nd : NdAt w (w0.heap.size + 1) cs
  res : w.there w0.heap.size 0 258
  kr : Kr g w0 w
  gl : g < w0.heap.size
theorem Clr.new {w : World} {g : Nat} {s : ByteArray} {b : Bs} (h : RdrAt w g s b) (k : Int) (t : TypeId) : Clr w (((w.alloc (.cells (zeroN 0) t)).alloc (.cells (zeroN 0) t)).setCells (w.heap.size + 1) 0 (nodeC k noB nilS)) g s b (nodeC k noB nilS) := by
  have b1 : Below w.heap.size w (w.alloc (.cells (zeroN 0) t)) := alloc_below _ _
  have b2 : Below w.heap.size w ((w.alloc (.cells (zeroN 0) t)).alloc (.cells (zeroN 0) t)) := b1.trans ((alloc_below _ _).mono b1.size)
  have n2 := NdAt.new (w.alloc (.cells (zeroN 0) t)) 0 t
  have r2 := there_later (there_new w 0 t) (alloc_below (w.alloc (.cells (zeroN 0) t)) (.cells (zeroN 0) t)) (by rw [World.size_alloc]; omega)
  rw [World.size_alloc] at n2
  refine ⟨(h.below b2).kept (by rw [size_setCells]; exact Nat.le_refl _) (heap_setCells _ _ _ (by have := h.lt; omega) _ _), n2.stored (nodeC_len _ _ _), there_kept r2 (heap_setCells _ _ _ (by omega) _ _), (Kr.of_below b2).news _ (by omega) _ _, h.lt⟩
theorem Clr.below {w0 w w' : World} {g : Nat} {s : ByteArray} {b : Bs} {cs : List Value} (h : Clr w0 w g s b cs) (hb : Below w.heap.size w w') : Clr w0 w' g s b cs :=
  ⟨h.rdr.below hb, h.nd.later hb, there_later h.res hb (by have := h.nd.lt; omega), h.kr.trans (Kr.of_below hb), h.gl⟩
theorem Clr.stp {w0 w w' : World} {g : Nat} {s : ByteArray} {b b' : Bs} {cs : List Value} (h : Clr w0 w g s b cs) (hr : RdrAt w' g s b') (hk : Kr g w w') : Clr w0 w' g s b' cs :=
  ⟨hr, h.nd.kr hk (by have := h.gl; omega), there_kept h.res (hk.block _ (by have := h.nd.lt; omega) (by have := h.gl; omega)), h.kr.trans hk, h.gl⟩
theorem Clr.step {w0 w : World} {g : Nat} {s : ByteArray} {b : Bs} {cs : List Value} (h : Clr w0 w g s b cs) : Clr w0 (w.setCell ⟨g, 1, none⟩ (.int .i64 ((b.pos : Int) + 1))) g s (stepM b) cs :=
  h.stp h.rdr.step (Kr.set g w 1 _)
/-- a cell of the own node is written -/
theorem Clr.put {w0 w : World} {g : Nat} {s : ByteArray} {b : Bs} {cs : List Value} (h : Clr w0 w g s b cs) (j : Nat) (v : Value) (hj : j < 258) : Clr w0 (w.setCell ⟨w0.heap.size + 1, j, none⟩ v) g s b (cs.set j v) :=
  ⟨h.rdr.kept (by simp) (Below.heap_setCell w _ v g (by show g ≠ w0.heap.size + 1; have := h.gl; omega)), h.nd.set j v hj, rthere_set h.res _ _ _, h.kr.new _ _ _ (by omega), h.gl⟩
/-- the own node is written anew -/
theorem Clr.all {w0 w : World} {g : Nat} {s : ByteArray} {b : Bs} {cs : List Value} (h : Clr w0 w g s b cs) (cs' : List Value) (hl : cs'.length = 258) : Clr w0 (w.setCells (w0.heap.size + 1) 0 cs') g s b cs' :=
  ⟨h.rdr.kept (by rw [size_setCells]; exact Nat.le_refl _) (heap_setCells _ _ _ (by have := h.gl; omega) _ _), h.nd.stored hl, World.there_setCells h.res _ _ _, h.kr.news _ (by omega) _ _, h.gl⟩
/-- at the return: the result's block is written -/
theorem Clr.done {w0 w : World} {g : Nat} {s : ByteArray} {b : Bs} {cs : List Value} (h : Clr w0 w g s b cs) (vs : List Value) : RdrAt (w.setCells w0.heap.size 0 vs) g s b ∧ Kr g w0 (w.setCells w0.heap.size 0 vs) :=
  ⟨h.rdr.kept (by rw [size_setCells]; exact Nat.le_refl _) (heap_setCells _ _ _ (by have := h.gl; omega) _ _), h.kr.news _ (Nat.le_refl _) _ _⟩
theorem oneN (k : Int) (S : Nat → Bool) : ∀ y ∈ nodeC k S nilS, y.oneCell' = true := nodeC_one k S nilS rfl
/-- the first of some bytes are added -/
def addU (S : Nat → Bool) (lo k : Nat) : Nat → Bool := fun c => S c || (decide (lo ≤ c) && decide (c < k))
theorem addU_start (S : Nat → Bool) (lo : Nat) : addU S lo lo = S := by
  funext c
  have : (decide (lo ≤ c) && decide (c < lo)) = false := by
    by_cases h : lo ≤ c
    · rw [decide_eq_false (show ¬ c < lo by omega), Bool.and_false]
    · rw [decide_eq_false h, Bool.false_and]
  unfold addU
  rw [this, Bool.or_false]
theorem addU_end {S : Nat → Bool} {lo hi k : Nat} (h1 : hi < k) (h2 : k ≤ hi + 1 ∨ k = lo) : addU S lo k = addS S lo hi := by
  funext c
  unfold addU addS
  congr 1
  by_cases h : lo ≤ c
  · rw [decide_eq_true h, Bool.true_and, Bool.true_and]
    by_cases h3 : c ≤ hi
    · rw [decide_eq_true h3, decide_eq_true (by omega)]
    · rw [decide_eq_false h3, decide_eq_false (by omega)]
  · rw [decide_eq_false h, Bool.false_and, Bool.false_and]
theorem addU_succ {S : Nat → Bool} {lo k : Nat} (h : lo ≤ k) : (fun x => if x = k then true else addU S lo k x) = addU S lo (k + 1) := by
  funext c
  unfold addU
  by_cases e : c = k
  · subst e
    rw [if_pos rfl, decide_eq_true h, decide_eq_true (Nat.lt_succ_self c)]
    simp
  · rw [if_neg e]
    congr 2
    exact decide_eq_decide.2 (by omega)
/-- the first k bytes are turned -/
def turnU (S : Nat → Bool) (k : Nat) : Nat → Bool := fun c => if c < k then !S c else S c
theorem turnU_zero (S : Nat → Bool) : turnU S 0 = S := by funext c; unfold turnU; rw [if_neg (by omega)]
theorem turnU_at (S : Nat → Bool) (k : Nat) : turnU S k k = S k := by unfold turnU; rw [if_neg (by omega)]
theorem turnU_succ (S : Nat → Bool) (k : Nat) : (fun x => if x = k then !S k else turnU S k x) = turnU S (k + 1) := by
  funext c
  unfold turnU
  by_cases e : c = k
  · subst e
    rw [if_pos rfl, if_pos (by omega)]
  · rw [if_neg e]
    have : (c < k) = (c < k + 1) := propext (by omega)
    simp only [this]
theorem nodeC_congr {k : Int} {S T : Nat → Bool} (h : ∀ c, c < 256 → S c = T c) (kv : Value) : nodeC k S kv = nodeC k T kv := by
  unfold nodeC boolC
  congr 2
  exact List.map_congr_left (fun c hc => by rw [h c (List.mem_range.1 hc)])
theorem turnU_all (S : Nat → Bool) (k : Int) (kv : Value) : nodeC k (turnU S 256) kv = nodeC k (turnS S) kv :=
  nodeC_congr (fun c hc => by unfold turnU turnS; rw [if_pos hc]) kv
end Go.Proofs.YtcfococinllcmaaGreat

/- The tree of a pattern; the builder's states fit its texts. No program in sight. -/
namespace Go.Proofs.YtcfococinllcmaaGreat

/-- with what stands behind it -/
def timesR (s : ByteArray) (b : Bs) (a : Re) : Re := match peekM s b with
  | none => a
  | some c => if c = 42 then .star a else if c = 43 then .plus a else if c = 63 then .opt a else a
/-- the tree that is read -/
def reM (s : ByteArray) : Nat → Md → Re → Nat → Bs → Re
  | 0, _, acc, _, _ => acc
  | n + 1, .either, _, d, b => reM s n (.alts (b.sts.length, b.sts.length + 1)) .no d (nodeM (nodeM b))
  | n + 1, .alts p, acc, d, b =>
    let r := runM s n .row d b
    let a := Re.alt acc (reM s n .row .no d b)
    let b2 := freeM (freeM r.1 p.1 r.2.1) r.2.2 p.2
    if peekM s b2 = some 124 then reM s n (.alts p) a d (stepM b2) else a
  | n + 1, .row, _, d, b => reM s n (.parts (b.sts.length, b.sts.length)) .eps d (nodeM b)
  | n + 1, .parts p, acc, d, b =>
    match peekM s b with
    | none => acc
    | some c => if c = 124 ∨ c = 41 then acc else
      let r := runM s n .atom d b
      let t := timesM s r.1 r.2
      reM s n (.parts (p.1, t.2.2)) (.cat acc (timesR s r.1 (reM s n .atom .no d b))) d (freeM t.1 p.2 t.2.1)
  | n + 1, .atom, _, d, b =>
    let c := byteM s b.pos
    let b1 := stepM b
    if c = 40 then
      (if d = 8 then .set noS else reM s n .either .no (d + 1) b1)
    else if c = 91 then .set (classM s b1).2
    else if c = 46 then .set (turnS noS)
    else if c = 92 then
      (match peekM s b1 with
       | none => .set (oneS 0)
       | some e => .set (oneS e))
    else if oddB c = true then .set noS
    else .set (oneS c)
/-- what is under way -/
def Und : Md → Re → Bs → Nat → Prop
  | .alts p, acc, b, lo => Frg b.sts lo b.sts.length p.1 p.2 acc ∧ p.1 ≠ p.2
  | .parts p, acc, b, lo => Frg b.sts lo b.sts.length p.1 p.2 acc
  | _, _, b, lo => lo = b.sts.length
structure Made (b : Bs) (lo : Nat) (r : Bs × (Nat × Nat)) (a : Re) : Prop where
  old : ∀ k, k < lo → r.1.sts[k]? = b.sts[k]?
  frg : Frg r.1.sts lo r.1.sts.length r.2.1 r.2.2 a
theorem node_sts (b : Bs) : (nodeM b).sts = b.sts ++ [nd] := rfl
theorem node2_sts (b : Bs) : (nodeM (nodeM b)).sts = b.sts ++ [nd, nd] := by rw [node_sts, node_sts, List.append_assoc]; rfl
theorem one_made (b0 b : Bs) (S : Nat → Bool) (h : b.sts = b0.sts) : Made b0 b0.sts.length (oneM b S) (.set S) := by
  rw [← h]
  refine ⟨fun k hk => ?_, ?_⟩
  · rw [← h]; exact List.getElem?_append_left hk
  · have := frg_set b.sts S
    have hl : (oneM b S).1.sts.length = b.sts.length + 2 := by simp [oneM]
    rw [hl]
    exact this
theorem app2_old {l : List St} {x y : St} {k : Nat} (h : k < l.length) : (l ++ [x, y])[k]? = l[k]? := List.getElem?_append_left h
theorem app2_0 (l : List St) (x y : St) : (l ++ [x, y])[l.length]? = some x := by rw [List.getElem?_append_right (Nat.le_refl _)]; simp
theorem app2_1 (l : List St) (x y : St) : (l ++ [x, y])[l.length + 1]? = some y := by rw [List.getElem?_append_right (by omega)]; simp
/-- with a postfix, or none -/
theorem times_made {s : ByteArray} {b0 : Bs} {r : Bs × (Nat × Nat)} {a : Re} (h : Made b0 b0.sts.length r a) : Made b0 b0.sts.length (timesM s r.1 r.2) (timesR s r.1 a) := by
  obtain ⟨b, x⟩ := r
  obtain ⟨old, frg⟩ := h
  dsimp only at old frg ⊢
  unfold timesM timesR
  cases hp : peekM s b with
  | none => exact ⟨old, frg⟩
  | some c =>
    dsimp only
    by_cases hpo : postB c = true
    · rw [if_pos hpo]
      have x0 := frg.f0
      have x1 := frg.f1
      have y0 := frg.t0
      have y1 := frg.t1
      have hsx : (stepM b).sts = b.sts := rfl
      -- the states behind the steps
      have key : ∀ (skip again : Bool) (B : Bs), B.sts = (let l1 := addF (addF (b.sts ++ [nd, nd]) b.sts.length x.1) x.2 (b.sts.length + 1)
          let l2 := if skip = true then addF l1 b.sts.length (b.sts.length + 1) else l1
          if again = true then addF l2 x.2 x.1 else l2) →
          Made b0 b0.sts.length (B, (b.sts.length, b.sts.length + 1)) (postR skip again a) := by
        intro skip again B hB
        dsimp only at hB
        have hne : b.sts.length ≠ x.2 := by omega
        have hold : ∀ k, k < b.sts.length → k ≠ x.2 → B.sts[k]? = b.sts[k]? := by
          intro k hk hkx
          rw [hB]
          cases skip <;> cases again <;> simp only [Bool.false_eq_true, if_false, if_true] <;> (repeat rw [addF_ne (by omega)]) <;> exact app2_old hk
        refine ⟨fun k hk => ?_, ?_⟩
        · exact (hold k (by omega) (by omega)).trans (old k hk)
        · have hlen : B.sts.length = b.sts.length + 2 := by
            rw [hB]
            cases skip <;> cases again <;> simp [addF_len]
          rw [hlen]
          refine Frg.post frg skip again hlen hold ?_ ?_ ?_ _ rfl
          · rw [hB]
            have g0 := addF_eq (t := x.1) (app2_0 b.sts nd nd)
            cases skip <;> cases again <;> simp only [Bool.false_eq_true, if_false, if_true]
            · rw [addF_ne hne]; exact g0
            · rw [addF_ne hne, addF_ne hne]; exact g0
            · rw [addF_eq (x := ⟨none, 0, [x.1]⟩) (by rw [addF_ne hne]; exact g0)]
            · rw [addF_ne hne, addF_eq (x := ⟨none, 0, [x.1]⟩) (by rw [addF_ne hne]; exact g0)]
          · rw [hB]
            have g0 : (addF (addF (b.sts ++ [nd, nd]) b.sts.length x.1) x.2 (b.sts.length + 1))[x.2]? = some ⟨none, 0, [b.sts.length + 1]⟩ := by
              rw [addF_eq (x := ⟨none, 0, []⟩) (by rw [addF_ne (Ne.symm hne), app2_old y1]; exact frg.sink)]; rfl
            cases skip <;> cases again <;> simp only [Bool.false_eq_true, if_false, if_true]
            · exact g0
            · rw [addF_eq g0]
            · rw [addF_ne (Ne.symm hne)]; exact g0
            · rw [addF_eq (by rw [addF_ne (Ne.symm hne)]; exact g0)]
          · rw [hB]
            cases skip <;> cases again <;> simp only [Bool.false_eq_true, if_false, if_true] <;> (repeat rw [addF_ne (by omega)]) <;> exact app2_1 _ _ _
      rcases (show c = 42 ∨ c = 43 ∨ c = 63 by simp only [postB, Bool.or_eq_true, decide_eq_true_eq] at hpo; omega) with rfl | rfl | rfl
      · exact key true true _ (by simp [freeM, node2_sts, stepM])
      · exact key false true _ (by simp [freeM, node2_sts, stepM])
      · exact key true false _ (by simp [freeM, node2_sts, stepM])
    · rw [if_neg hpo]
      have : c ≠ 42 ∧ c ≠ 43 ∧ c ≠ 63 := by simp only [postB, Bool.or_eq_true, decide_eq_true_eq] at hpo; omega
      rw [if_neg this.1, if_neg this.2.1, if_neg this.2.2]
      exact ⟨old, frg⟩
theorem reM_made (s : ByteArray) (n : Nat) : ∀ (md : Md) (acc : Re) (d : Nat) (b : Bs) (lo : Nat), d ≤ 8 → b.pos ≤ s.size + 12 - d → (md = .atom → b.pos < s.size) → partOk md b → fuelM s b md ≤ n → Und md acc b lo → Made b lo (runM s n md d b) (reM s n md acc d b) := by
  induction n with
  | zero => intro md acc d b lo _ _ _ _ hn; cases md <;> simp [fuelM] at hn
  | succ n ih =>
    intro md acc d b lo hd hp ha hk hn hu
    cases md with
    | either =>
      simp only [fuelM] at hn
      obtain rfl : lo = b.sts.length := hu
      rw [runM, reM]
      have h := ih (.alts (b.sts.length, b.sts.length + 1)) .no d (nodeM (nodeM b)) b.sts.length hd hp (fun h => by cases h) ⟨by simp [nodeM], by simp [nodeM]⟩ (by simp only [fuelM, nodeM]; omega)
        ⟨by rw [node2_sts]; have := frg_no b.sts; simpa using this, by simp⟩
      exact ⟨fun k hk => by rw [h.old k hk, node2_sts]; exact app2_old hk, h.frg⟩
    | alts p =>
      simp only [fuelM] at hn
      obtain ⟨hp1, hp2⟩ := hk
      obtain ⟨hf, hne⟩ := hu
      have ok := runM_ok s n .row d b hd hp (fun h => by cases h) trivial (by simp only [fuelM]; omega)
      have h1 := ih .row .no d b b.sts.length hd hp (fun h => by cases h) trivial (by simp only [fuelM]; omega) rfl
      obtain ⟨g1, q1, q2, q3, _⟩ := ok
      have e : ∀ b f t, (freeM b f t).sts.length = b.sts.length := fun b f t => by simp [freeM, addF_len]
      have hgl := g1.len
      have hgp := g1.pos
      have hpp : (freeM (freeM (runM s n .row d b).1 p.1 (runM s n .row d b).2.1) (runM s n .row d b).2.2 p.2).pos = (runM s n .row d b).1.pos := rfl
      have hl2 : (freeM (freeM (runM s n .row d b).1 p.1 (runM s n .row d b).2.1) (runM s n .row d b).2.2 p.2).sts.length = (runM s n .row d b).1.sts.length := by rw [e, e]
      have h2 := hf.alt hne h1.old h1.frg
      have hfs : (freeM (freeM (runM s n .row d b).1 p.1 (runM s n .row d b).2.1) (runM s n .row d b).2.2 p.2).sts = addF (addF (runM s n .row d b).1.sts p.1 (runM s n .row d b).2.1) (runM s n .row d b).2.2 p.2 := rfl
      rw [← hfs] at h2
      have hold : ∀ k, k < lo → (freeM (freeM (runM s n .row d b).1 p.1 (runM s n .row d b).2.1) (runM s n .row d b).2.2 p.2).sts[k]? = b.sts[k]? := fun k hk => by
        have a1 := h1.frg.t0
        have a2 := hf.f0
        have a3 := hf.f1
        rw [hfs, addF_ne (by omega), addF_ne (by omega)]
        exact h1.old k (by omega)
      rw [runM, reM]
      generalize (freeM (freeM (runM s n .row d b).1 p.1 (runM s n .row d b).2.1) (runM s n .row d b).2.2 p.2) = b2 at *
      rw [← hl2] at h2
      split
      · rename_i hpk
        have hps := (peekM_some hpk).2.1
        have h3 := ih (.alts p) (.alt acc (reM s n .row .no d b)) d (stepM b2) lo hd (by simp only [stepM]; omega) (fun h => by cases h) ⟨by simp only [stepM]; omega, by simp only [stepM]; omega⟩ (by simp only [fuelM, stepM]; omega) ⟨h2, hne⟩
        exact ⟨fun k hk => (h3.old k hk).trans (hold k hk), h3.frg⟩
      · exact ⟨hold, h2⟩
    | row =>
      simp only [fuelM] at hn
      obtain rfl : lo = b.sts.length := hu
      rw [runM, reM]
      have h := ih (.parts (b.sts.length, b.sts.length)) .eps d (nodeM b) b.sts.length hd hp (fun h => by cases h) ⟨by simp [nodeM], by simp [nodeM]⟩ (by simp only [fuelM, nodeM]; omega)
        (by show Frg _ _ _ _ _ _; rw [node_sts]; have := frg_eps b.sts; simpa using this)
      exact ⟨fun k hk => by rw [h.old k hk, node_sts]; exact List.getElem?_append_left hk, h.frg⟩
    | parts p =>
      simp only [fuelM] at hn
      obtain ⟨hp1, hp2⟩ := hk
      have hf : Frg b.sts lo b.sts.length p.1 p.2 acc := hu
      rw [runM, reM]
      cases hc : peekM s b with
      | none => exact ⟨fun _ _ => rfl, hf⟩
      | some c =>
        dsimp only
        split
        · exact ⟨fun _ _ => rfl, hf⟩
        · have hps := (peekM_some hc).2.1
          have ok := runM_ok s n .atom d b hd hp (fun _ => hps) trivial (by simp only [fuelM]; omega)
          have h1 := ih .atom .no d b b.sts.length hd hp (fun _ => hps) trivial (by simp only [fuelM]; omega) rfl
          obtain ⟨g1, q1, q2, q3, q4⟩ := ok
          obtain ⟨q5, q6⟩ := q4 rfl
          have gt := gd_times s (runM s n .atom d b).1 (runM s n .atom d b).2
          have pt := times_part s (runM s n .atom d b).1 (runM s n .atom d b).2 ⟨q1, q2⟩
          have h2 := times_made (s := s) h1
          have tp : (timesM s (runM s n .atom d b).1 (runM s n .atom d b).2).1.pos ≤ s.size + 12 - d := by
            unfold timesM
            split
            · exact q3
            · rename_i c' hc'
              have := (peekM_some hc').2.1
              split
              · have e : ∀ b f t, (freeM b f t).pos = b.pos := fun _ _ _ => rfl
                dsimp only
                split <;> split <;> simp only [e, nodeM, stepM] <;> omega
              · exact q3
          generalize timesR s (runM s n .atom d b).1 (reM s n .atom .no d b) = a at *
          generalize hr : runM s n .atom d b = r at *
          generalize ht : timesM s r.1 r.2 = t at *
          have hfl : (freeM t.1 p.2 t.2.1).sts.length = t.1.sts.length := by simp [freeM, addF_len]
          have hgl := gt.len
          have hgp := gt.pos
          have h1l := g1.len
          have h3 := hf.cat h2.old h2.frg
          have hfs : (freeM t.1 p.2 t.2.1).sts = addF t.1.sts p.2 t.2.1 := rfl
          rw [← hfs, ← hfl] at h3
          have h4 := ih (.parts (p.1, t.2.2)) (.cat acc a) d (freeM t.1 p.2 t.2.1) lo hd tp (fun h => by cases h) ⟨by rw [hfl]; show p.1 < _; omega, by rw [hfl]; exact pt.2⟩ (by simp only [fuelM, freeM]; omega) h3
          refine ⟨fun k hk => ?_, h4.frg⟩
          have a2 := hf.t0
          have a3 := hf.t1
          rw [h4.old k hk, hfs, addF_ne (by omega)]
          exact h2.old k (by omega)
    | atom =>
      simp only [fuelM] at hn
      obtain rfl : lo = b.sts.length := hu
      have hps := ha rfl
      rw [runM, reM]
      dsimp only
      split
      · split
        · exact one_made _ _ _ (by rw [failM_sts]; rfl)
        · have h := ih .either .no (d + 1) (stepM b) b.sts.length (by omega) (by simp only [stepM]; omega) (fun h => by cases h) trivial (by simp only [fuelM, stepM]; omega) rfl
          exact ⟨fun k hk => by dsimp only; rw [closeM_sts]; exact h.old k hk, by dsimp only; rw [closeM_sts]; exact h.frg⟩
      · split
        · exact one_made _ _ _ (by rw [classM_len]; rfl)
        · split
          · exact one_made _ _ _ rfl
          · split
            · cases hc : peekM s (stepM b) with
              | none => exact one_made b _ _ (by show (failM (stepM b) 2).sts = _; rw [failM_sts]; rfl)
              | some e => exact one_made b _ _ rfl
            · split
              · exact one_made _ _ _ (by rw [failM_sts]; rfl)
              · exact one_made _ _ _ rfl
/-- the tree of a pattern -/
def reT (p : ByteArray) : Re := reM p (8 * p.size + 5) .either .no 0 bs0
theorem FR_pa {sts : List St} {j k : Nat} (h : FR sts j k) : ∃ n, Pa sts j [] k n := by
  induction h with
  | refl => exact ⟨0, .refl _⟩
  | step h1 h2 ih =>
    obtain ⟨n, p⟩ := ih
    unfold frees at h2
    split at h2
    · rename_i x hx
      exact ⟨_, p.trans (.free hx h2 (.refl _))⟩
    · cases h2
theorem Rn_pa {sts : List St} {st k : Nat} {cs : List Nat} (h : Rn sts st cs k) : ∃ n, Pa sts st cs k n := by
  induction h with
  | start h => exact FR_pa h
  | byte h1 h2 h3 h4 ih =>
    obtain ⟨n, p⟩ := ih
    obtain ⟨m, q⟩ := FR_pa h4
    have := p.trans (.byte h2 h3 q)
    exact ⟨_, this⟩
theorem Rn_free {sts : List St} {st j f : Nat} {cs : List Nat} (h : Rn sts st cs j) (hf : f ∈ frees sts j) : Rn sts st cs f := by
  cases h with
  | start h => exact .start (.step h hf)
  | byte h1 h2 h3 h4 => exact .byte h1 h2 h3 (.step h4 hf)
theorem pa_Rn {sts : List St} {st j k n : Nat} {cs : List Nat} (h : Pa sts j cs k n) : ∀ {c0}, Rn sts st c0 j → Rn sts st (c0 ++ cs) k := by
  induction h with
  | refl => intro c0 h; simpa using h
  | free h1 h2 _ ih => intro c0 h; exact ih (Rn_free h (by unfold frees; rw [h1]; exact h2))
  | byte h1 h2 _ ih =>
    intro c0 h
    have := ih (Rn.byte h h1 h2 (.refl _))
    rw [List.append_assoc] at this
    exact this
theorem Rn_iff {sts : List St} {st k : Nat} {cs : List Nat} : Rn sts st cs k ↔ ∃ n, Pa sts st cs k n :=
  ⟨Rn_pa, fun ⟨_, p⟩ => by have := pa_Rn (c0 := []) p (.start (.refl _)); simpa using this⟩
theorem reT_made (p : ByteArray) : Made bs0 0 (runR p) (reT p) :=
  reM_made p _ .either .no 0 bs0 0 (by omega) (by simp [bs0]) (fun h => by cases h) trivial (by simp [fuelM, bs0]) rfl
/-- which texts fit: those of the tree -/
theorem fits_re (p t : ByteArray) : FitsP p t ↔ errM p = 0 ∧ Lr (reT p) (bytesN t) := by
  unfold FitsP
  rw [Rn_iff, endR_sts, (reT_made p).frg.lang]
end Go.Proofs.YtcfococinllcmaaGreat

/- The reference's class: a contract. -/
namespace Go.Proofs.YtcfococinllcmaaGreat
open Go.RowKit

/-- what class's loop carries -/
def RLoop (w0 : World) (g : Nat) (s : ByteArray) (r : Bs × (Nat → Bool)) (v : Value) (w : World) : Prop :=
  ∃ (n i : Nat) (b : Bs) (S : Nat → Bool), v = .int .i64 (i : Nat) ∧ loopM s (n + 1) (decide (i = 0)) b S = r ∧ s.size - b.pos ≤ n ∧ b.pos ≤ s.size + 1 ∧ i ≤ b.pos ∧ Clr w0 w g s b (nodeC 0 S nilS)
theorem rloop_none {s : ByteArray} {n : Nat} {first : Bool} {b : Bs} {S : Nat → Bool} (h : peekM s b = none) : loopM s (n + 1) first b S = (failM b 2, S) := by rw [loopM, h]
theorem rloop_first {s : ByteArray} {n : Nat} {b : Bs} {S : Nat → Bool} (h : peekM s b = some 93) : loopM s (n + 1) true b S = (failM b 2, S) := by rw [loopM, h]; rfl
theorem rloop_end {s : ByteArray} {n : Nat} {b : Bs} {S : Nat → Bool} (h : peekM s b = some 93) : loopM s (n + 1) false b S = (stepM b, S) := by rw [loopM, h]; rfl
theorem rloop_on {s : ByteArray} {n d : Nat} {first : Bool} {b : Bs} {S : Nat → Bool} (h : peekM s b = some d) (hd : d ≠ 93) {x : Bs × Nat} (hx : signM s b = x) {y : Bs × Nat} (hy : rangeM s x.1 x.2 = y) : loopM s (n + 1) first b S = loopM s n false (if y.2 < x.2 then failM y.1 2 else y.1) (addS S x.2 y.2) := by
  rw [loopM, h]
  dsimp only
  rw [if_neg hd, hx, hy]
theorem rrange_false {s : ByteArray} {b : Bs} (h : peekM s b ≠ some 45) : rangeB s b = false := by unfold rangeB; rw [decide_eq_false h]; rfl
theorem rrange_at {s : ByteArray} {b : Bs} (h : peekM s b = some 45) : rangeB s b = (decide (b.pos + 1 < s.size) && !decide (byteM s (b.pos + 1) = 93)) := by unfold rangeB; rw [decide_eq_true h]; rfl
theorem rpeek_lt {s : ByteArray} {b : Bs} {c : Nat} (h : peekM s b = some c) : c < 256 := by rw [(peekM_some h).2.2]; exact byteM_lt _ _
/-- what is known of a world is all that is kept of it -/
theorem wp_forget2 {Pr : Program} {Q : Exit → Act → World → Prop} {c : Code} {a : Act} {W : World} (P : World → Prop) (h : P W) (k : ∀ W', P W' → Code.wp Pr c Q a W') : Code.wp Pr c Q a W := k W h
theorem is_94 (o : Option Nat) : (((o.getD 0 : Nat) : Int) == 94) = decide (o = some 94) := by
  cases o with
  | none => rfl
  | some c =>
    by_cases h : c = 94
    · subst h; rfl
    · rw [decide_eq_false (by simpa using h), beq_eq_false_iff_ne]
      show (c : Int) ≠ 94
      omega
set_option maxHeartbeats 12800000 in
set_option maxRecDepth 100000 in
theorem rclass_is (w : World) (g : Nat) (s : ByteArray) (b1 : Bs) (h : RdrAt w g s b1) (hp : b1.pos ≤ s.size) (hs : s.size ≤ 1000) :
    Calls Tryz.prog 170 #[.pointer (some ⟨g, 0, none⟩)] w fun e w' => ∃ S' b', e = .returned (.agg (nodeC 0 S' nilS).toArray) ∧ RdrAt w' g s b' ∧ b'.err = (classM s b1).1.err ∧ b'.pos ≤ s.size + 1 ∧
      (b'.err = 0 → b'.pos = (classM s b1).1.pos ∧ nodeC 0 S' nilS = nodeC 0 (classM s b1).2 nilS) ∧ Kr g w w' := by
  have hc := Clr.new h 0 148
  have kf := fun W b (h : RdrAt W g s b) => rfail_is W g s b 2 h
  have KF := Lib.hid kf
  have HC0 := Lib.hid hc
  clear kf hc h
  go_enter Tryz.func170, Tryz.ntmps170
  go_upto_region 2 with (first
    | (with_reducible refine wpList_allocN rfl rfl _ rfl w.heap.size rfl ?_)
    | (with_reducible refine wpList_allocN rfl rfl _ rfl (w.heap.size + 1) (World.size_alloc _ _) ?_)
    | ((with_reducible refine wpList_buildN rfl _ rfl _ rfl (zeroN 0) ?hf ?_); (case hf => exact node_built0))
    | ((with_reducible refine wpList_storeN rfl _ _ rfl _ rfl (w.heap.size + 1) 0 (nodeC 0 noB nilS) ?hx ?hy ?ht (nodeC_len _ _ _) (oneN _ _) ?_); (case hx => rfl); (case hy => rfl); (case ht => exact (by have := there_new (w.alloc (.cells (zeroN 0) 148)) 0 148; rwa [World.size_alloc] at this))))
  refine wp_forget2 (fun W => Clr w W g s b1 (nodeC 0 noB nilS)) HC0.out (fun w1 hw1 => ?_)
  have H1 := Lib.hid hw1
  obtain ⟨o, ho⟩ : ∃ o, peekM s b1 = o := ⟨_, rfl⟩
  have k1 := next_is w1 g s b1 o ho H1.out.rdr (by omega)
  have HO := Lib.hid ho
  clear ho hw1 HC0
  go_wp2_with fail
  refine k1.mono ?_
  rintro e w2 ⟨rfl, hb⟩
  have H2 := Lib.hid (H1.out.below hb)
  clear k1 hb H1
  obtain ⟨nt, hnt⟩ : ∃ nt, decide (o = some 94) = nt := ⟨_, rfl⟩
  have hv : (((o.getD 0 : Nat) : Int) == 94) = nt := (is_94 o).trans hnt
  have HNT := Lib.hid hnt
  clear hnt
  go_upto_if 22 with fail
  clear hv
  go_cut [] from 23 (fun wx => Hid (Clr w wx g s (if nt = true then stepM b1 else b1) (nodeC 0 noB nilS)))
  case first =>
    cases nt with
    | true =>
      have c1 := H2.out.rdr.c1
      have f1 := there_free H2.out.rdr.th 1 (by omega)
      go_wp2
      go_meet
      exact Lib.hid (by rw [if_pos (by simp)]; exact H2.out.step)
    | false =>
      go_wp2
      go_meet
      exact Lib.hid (by rw [if_neg (by simp)]; exact H2.out)
  case rest =>
  obtain ⟨b0, hb0⟩ : ∃ b0, (if nt = true then stepM b1 else b1) = b0 := ⟨_, rfl⟩
  rw [hb0] at hcut
  have HX := hcut
  have hp0 : b0.pos ≤ s.size + 1 := by rw [← hb0]; split <;> (try simp only [stepM]) <;> omega
  obtain ⟨r0, hr0⟩ : ∃ r0, loopM s (s.size + 1) true b0 noS = r0 := ⟨_, rfl⟩
  have HR0 := Lib.hid hr0
  have HCM : Hid (classM s b1 = (r0.1, if nt = true then turnS r0.2 else r0.2)) := Lib.hid (by
    have h1 := HNT.out
    unfold classM
    cases nt with
    | true =>
      have h2 : o = some 94 := of_decide_eq_true h1
      rw [if_pos (HO.out.trans h2), if_pos rfl]
      rw [if_pos rfl] at hb0
      rw [hb0, hr0]
    | false =>
      have h2 : ¬ o = some 94 := of_decide_eq_false h1
      rw [if_neg (by rw [HO.out]; exact h2), if_neg (by decide)]
      rw [if_neg (by decide)] at hb0
      rw [hb0, hr0])
  clear hr0 hb0 hcut H2 HO HNT hp
  go_wp2
  go_loopw [7] (fun v wr => RLoop w g s r0 v wr) (fun _ wr => s.size + 5 - rposAt wr g)
  case atStart => exact ⟨s.size, 0, b0, noS, rfl, HR0.out, by omega, hp0, by omega, HX.out⟩
  case round =>
    clear HX HR0 hp0 b0
    obtain ⟨n, i, b, S, rfl, he, hn, hp, hip, hC⟩ := hrel
    have HE := Lib.hid he
    have HC := Lib.hid hC
    obtain ⟨o, ho⟩ : ∃ o, peekM s b = o := ⟨_, rfl⟩
    have k1 := next_is wr g s b o ho HC.out.rdr (by omega)
    have HO := Lib.hid ho
    clear he hC ho
    go_wp2_with fail
    refine k1.mono ?_
    rintro e wa ⟨rfl, hba⟩
    have HA := Lib.hid (HC.out.below hba)
    clear k1 hba
    rcases o with _ | d
    · have kq := KF.out _ _ HA.out.rdr
      go_wp2_with fail
      refine kq.mono ?_
      rintro e w1 ⟨rfl, hB1, hs1⟩
      have H1 := Lib.hid (HA.out.stp hB1 hs1)
      clear kq hB1 hs1
      go_wp2_with (first
      | ((with_reducible refine wpList_loadN rfl _ rfl _ rfl (w.heap.size + 1) 0 ?hx (nodeC 0 S nilS) ?hc (nodeC_len _ _ _) ?_); (case hx => rfl); (case hc => exact H1.out.nd.at_))
      | ((with_reducible refine wpList_storeN rfl _ _ rfl _ rfl w.heap.size 0 (nodeC 0 S nilS) ?hx ?hy ?ht (nodeC_len _ _ _) (oneN _ _) ?_); (case hx => rfl); (case hy => rfl); (case ht => exact H1.out.res)))
      refine bodyPost_ret (results_agg1 rfl _ _ w.heap.size (nodeC 0 S nilS) (.struct _) rfl (World.rangeAt_setCells_same _ _ _ _ (by rw [nodeC_len]; exact H1.out.res)) Tryz.underlying148 rfl (by rw [nodeC_len]; exact node_size)) rfl ?_
      have he := HE.out
      rw [rloop_none HO.out] at he
      subst he
      refine ⟨S, _, rfl, (H1.out.done _).1, ?_, ?_, ?_, (H1.out.done _).2⟩
      · rw [HCM.out]
      · rw [failM_pos]; exact hp
      · intro h0; exact absurd h0 (failM_err (by decide))
    · by_cases hd : d = 93
      · subst hd
        have c1 := HA.out.rdr.c1
        have f1 := there_free HA.out.rdr.th 1 (by omega)
        have hps := (peekM_some HO.out).2.1
        have hi0 : (((i : Nat) : Int) == 0) = decide (i = 0) := by
          by_cases h : i = 0
          · subst h; rfl
          · rw [decide_eq_false h, beq_eq_false_iff_ne]; omega
        obtain ⟨B, hB⟩ : ∃ B, decide (i = 0) = B := ⟨_, rfl⟩
        rw [hB] at hi0
        have HBI := Lib.hid hB
        clear hB
        go_upto_region 14 with fail
        refine wp_forget2 (fun W => Clr w W g s (stepM b) (nodeC 0 S nilS)) HA.out.step (fun w2 hw2 => ?_)
        have H2 := Lib.hid hw2
        clear hw2 c1 f1 HA HC
        go_upto_if 52 with fail
        clear hi0
        go_cut [] from 30 to 118 (fun wx => ∃ b' : Bs, b'.err = r0.1.err ∧ b'.pos ≤ s.size + 1 ∧ (b'.err = 0 → b'.pos = r0.1.pos) ∧ r0.2 = S ∧ Hid (Clr w wx g s b' (nodeC 0 S nilS)))
        case first =>
          have he := HE.out
          rw [HBI.out] at he
          cases B with
          | true =>
            rw [rloop_first HO.out] at he
            subst he
            have kq := KF.out _ _ H2.out.rdr
            go_wp2_with fail
            refine kq.mono ?_
            rintro e w3 ⟨rfl, hB3, hs3⟩
            have H3 := Lib.hid (H2.out.stp hB3 hs3)
            clear kq hB3 hs3
            go_wp2
            go_meet
            have he0 := (peekM_some HO.out).1
            refine ⟨_, ?_, ?_, ?_, by trivial, H3⟩
            · unfold failM stepM; simp [he0]
            · rw [failM_pos]; simp only [stepM]; omega
            · intro h0; exact absurd h0 (failM_err (by decide))
          | false =>
            rw [rloop_end HO.out] at he
            subst he
            go_wp2
            go_meet
            exact ⟨stepM b, rfl, by simp only [stepM]; omega, fun _ => rfl, by trivial, H2⟩
        case rest =>
        obtain ⟨b', he1, he2, he3, he4, H4⟩ := hcut
        subst he4
        have HF := Lib.hid (And.intro he1 (And.intro he2 he3))
        clear he1 he2 he3 H2 HE HO HBI hps hip hp hn
        generalize r0.2 = S at *
        cases nt with
        | true =>
          go_wp2
          go_loopw [13] (fun v wr => ∃ k : Nat, v = .int .i64 (k : Nat) ∧ k ≤ 256 ∧ Hid (Clr w wr g s b' (nodeC 0 (turnU S k) nilS))) (fun v _ => 257 - (intOf v).toNat)
          case atStart => exact ⟨0, rfl, by omega, Lib.hid (by rw [turnU_zero]; exact H4.out)⟩
          case round =>
            clear H4
            obtain ⟨k, rfl, hk, HT⟩ := hrel
            by_cases hk2 : k < 256
            · have n1 := HT.out.nd.cell (nodeC_set 0 (turnU S k) nilS k hk2)
              have f1 := HT.out.nd.free (j := 1 + k) (by omega)
              have hk0 : (0 : Int) ≤ (k : Int) := by omega
              have hk1 : (k : Int) < 256 := by omega
              go_wp2
              go_roundw
              case rel => exact ⟨k + 1, by go_num, by omega, Lib.hid (by
                have := HT.out.put (1 + k) (.bool (!(turnU S k k))) (by omega)
                rw [nodeC_setB 0 _ _ k hk2, turnU_at, turnU_succ] at this
                rw [turnU_at]
                exact this)⟩
              case measure => (simp [intOf]; try omega)
            · obtain rfl : k = 256 := by omega
              go_wp2_with (first
      | ((with_reducible refine wpList_loadN rfl _ rfl _ rfl (w.heap.size + 1) 0 ?hx (nodeC 0 (turnU S 256) nilS) ?hc (nodeC_len _ _ _) ?_); (case hx => rfl); (case hc => exact HT.out.nd.at_))
      | ((with_reducible refine wpList_storeN rfl _ _ rfl _ rfl w.heap.size 0 (nodeC 0 (turnU S 256) nilS) ?hx ?hy ?ht (nodeC_len _ _ _) (oneN _ _) ?_); (case hx => rfl); (case hy => rfl); (case ht => exact HT.out.res)))
              refine bodyPost_ret (results_agg1 rfl _ _ w.heap.size (nodeC 0 (turnU S 256) nilS) (.struct _) rfl (World.rangeAt_setCells_same _ _ _ _ (by rw [nodeC_len]; exact HT.out.res)) Tryz.underlying148 rfl (by rw [nodeC_len]; exact node_size)) rfl ?_
              refine ⟨turnU S 256, _, rfl, (HT.out.done _).1, ?_, HF.out.2.1, ?_, (HT.out.done _).2⟩
              · rw [HCM.out]; exact HF.out.1
              · intro h0
                refine ⟨?_, ?_⟩
                · rw [HCM.out]; exact HF.out.2.2 h0
                · rw [HCM.out, if_pos (by simp)]; exact turnU_all S 0 nilS
        | false =>
          go_wp2
          go_loopw [13] (fun v wr => v = .int .i64 ((0 : Nat) : Int) ∧ Hid (Clr w wr g s b' (nodeC 0 S nilS))) (fun v _ => 0)
          case atStart => exact ⟨rfl, H4⟩
          case round =>
            clear H4
            obtain ⟨rfl, HT⟩ := hrel
            go_wp2_with (first
      | ((with_reducible refine wpList_loadN rfl _ rfl _ rfl (w.heap.size + 1) 0 ?hx (nodeC 0 S nilS) ?hc (nodeC_len _ _ _) ?_); (case hx => rfl); (case hc => exact HT.out.nd.at_))
      | ((with_reducible refine wpList_storeN rfl _ _ rfl _ rfl w.heap.size 0 (nodeC 0 S nilS) ?hx ?hy ?ht (nodeC_len _ _ _) (oneN _ _) ?_); (case hx => rfl); (case hy => rfl); (case ht => exact HT.out.res)))
            refine bodyPost_ret (results_agg1 rfl _ _ w.heap.size (nodeC 0 S nilS) (.struct _) rfl (World.rangeAt_setCells_same _ _ _ _ (by rw [nodeC_len]; exact HT.out.res)) Tryz.underlying148 rfl (by rw [nodeC_len]; exact node_size)) rfl ?_
            refine ⟨S, _, rfl, (HT.out.done _).1, ?_, HF.out.2.1, ?_, (HT.out.done _).2⟩
            · rw [HCM.out]; exact HF.out.1
            · intro h0
              refine ⟨?_, ?_⟩
              · rw [HCM.out]; exact HF.out.2.2 h0
              · rw [HCM.out, if_neg (by simp)]
      · have hdb : ((d : Int) == 93) = false := by rw [beq_eq_false_iff_ne]; omega
        have HD := Lib.hid hd
        have hps := (peekM_some HO.out).2.1
        obtain ⟨xb, lo, hx⟩ : ∃ xb lo, signM s b = (xb, lo) := ⟨_, _, rfl⟩
        have k2 := rsign_is wa g s b HA.out.rdr (by omega)
        have hsp := signM_pos s b hps
        have hlo := signM_lt s b
        rw [hx] at k2 hsp hlo
        dsimp only at k2 hsp hlo
        have HX := Lib.hid hx
        clear hd hx
        go_wp2_with fail
        refine k2.mono ?_
        rintro e wb ⟨rfl, hBb, hsb⟩
        have HB := Lib.hid (HA.out.stp hBb hsb)
        clear k2 hBb hsb HA
        obtain ⟨o2, ho2⟩ : ∃ o2, peekM s xb = o2 := ⟨_, rfl⟩
        have k3 := next_is wb g s xb o2 ho2 HB.out.rdr (by omega)
        have HO2 := Lib.hid ho2
        clear ho2
        go_wp2_with fail
        refine k3.mono ?_
        rintro e wc ⟨rfl, hbc⟩
        have HCC := Lib.hid (HB.out.below hbc)
        clear k3 hbc HB
        go_upto_region 19 with fail
        go_cut [93] from 30 to 118 (fun v wx => v = .bool (rangeB s xb) ∧ Hid (Clr w wx g s xb (nodeC 0 S nilS)))
        case first =>
          have c0 := HCC.out.rdr.c0
          have c1 := HCC.out.rdr.c1
          rcases o2 with _ | e2
          · simp only [Option.getD_none, Option.isSome_none]
            go_big_quiet (fail)
            go_wp2
            go_meet
            exact ⟨by rw [rrange_false (by rw [HO2.out]; simp)], Lib.hid (HCC.out.below (bl_drewN (Below.refl _ _) _))⟩
          · simp only [Option.getD_some, Option.isSome_some]
            by_cases h45 : e2 = 45
            · subst h45
              have hwr : IntKind.i64.wrap ((xb.pos : Int) + 1) = (xb.pos : Int) + 1 := IntWalk.i64_in _ ⟨by omega, by omega⟩
              by_cases hin : xb.pos + 1 < s.size
              · have hi0 : (0 : Int) ≤ (xb.pos : Int) + 1 := by omega
                have hi1 : (xb.pos : Int) + 1 < (s.size : Int) := by omega
                have hnt : ((xb.pos : Int) + 1).toNat = xb.pos + 1 := by omega
                have hd1 : decide ((xb.pos : Int) + 1 < (s.size : Int)) = true := decide_eq_true hi1
                have hba := rbyte_at s (xb.pos + 1) hin
                have h9 : (((s[xb.pos + 1]'hin).toNat : Int) != 93) = !decide (byteM s (xb.pos + 1) = 93) := by
                  rw [hba]
                  by_cases h : byteM s (xb.pos + 1) = 93
                  · rw [h]; rfl
                  · rw [decide_eq_false h]; simp; omega
                clear hba
                go_big_quiet (fail)
                go_wp2
                go_meet
                exact ⟨by rw [rrange_at HO2.out, decide_eq_true hin, Bool.true_and], Lib.hid (HCC.out.below (bl_drewN (Below.refl _ _) _))⟩
              · have hd1 : decide ((xb.pos : Int) + 1 < (s.size : Int)) = false := decide_eq_false (by omega)
                go_big_quiet (fail)
                go_wp2
                go_meet
                exact ⟨by rw [rrange_at HO2.out, decide_eq_false hin, Bool.false_and], Lib.hid (HCC.out.below (bl_drewN (Below.refl _ _) _))⟩
            · have hb45 : ((e2 : Int) == 45) = false := by rw [beq_eq_false_iff_ne]; omega
              go_big_quiet (fail)
              go_wp2
              go_meet
              exact ⟨by rw [rrange_false (by rw [HO2.out]; simpa using h45)], Lib.hid (HCC.out.below (bl_drewN (Below.refl _ _) _))⟩
        case rest =>
        obtain ⟨rfl, HQ⟩ := hcut
        clear HCC HO2
        obtain ⟨R, hR⟩ : ∃ R, rangeB s xb = R := ⟨_, rfl⟩
        have HRB := Lib.hid hR
        rw [hR]
        clear hR
        go_upto_if 93 with fail
        go_cut [11] from 30 to 118 (fun v wx => ∃ (yb : Bs) (hi : Nat), v = .int .u8 (hi : Nat) ∧ hi < 256 ∧ b.pos < yb.pos ∧ yb.pos ≤ s.size + 1 ∧ Hid (rangeM s xb lo = (yb, hi)) ∧ Hid (Clr w wx g s yb (nodeC 0 S nilS)))
        case first =>
          cases R with
          | true =>
            have hin := rangeB_pos HRB.out
            have c1 := HQ.out.rdr.c1
            have f1 := there_free HQ.out.rdr.th 1 (by omega)
            go_upto_region 21 with fail
            refine wp_forget2 (fun W => Clr w W g s (stepM xb) (nodeC 0 S nilS)) HQ.out.step (fun w2 hw2 => ?_)
            have H2 := Lib.hid hw2
            clear hw2 c1 f1 HQ
            obtain ⟨yb, hi, hye⟩ : ∃ yb hi, signM s (stepM xb) = (yb, hi) := ⟨_, _, rfl⟩
            have k4 := rsign_is w2 g s (stepM xb) H2.out.rdr (by simp only [stepM]; omega)
            have hsp2 := signM_pos s (stepM xb) hin
            have hhi := signM_lt s (stepM xb)
            rw [hye] at k4 hsp2 hhi
            dsimp only at k4 hsp2 hhi
            simp only [stepM] at hsp2
            have HY := Lib.hid hye
            clear hye
            go_wp2_with fail
            refine k4.mono ?_
            rintro e wd ⟨rfl, hBd, hsd⟩
            have HDD := Lib.hid (H2.out.stp hBd hsd)
            clear k4 hBd hsd H2
            go_wp2
            go_meet
            exact ⟨yb, hi, rfl, hhi, by omega, hsp2.2, Lib.hid (by unfold rangeM; rw [if_pos HRB.out]; exact HY.out), HDD⟩
          | false =>
            go_wp2
            go_meet
            exact ⟨xb, lo, rfl, hlo, hsp.1, hsp.2, Lib.hid (by unfold rangeM; rw [if_neg (by rw [HRB.out]; decide)]), HQ⟩
        case rest =>
        obtain ⟨yb, hi, rfl, hhi, hyp1, hyp2, HY, HDD⟩ := hcut
        clear HQ HRB
        obtain ⟨B, hB⟩ : ∃ B, decide ((hi : Int) < (lo : Int)) = B := ⟨_, rfl⟩
        go_upto_if 105 with fail
        go_cut [] from 30 to 118 (fun wx => Hid (Clr w wx g s (if hi < lo then failM yb 2 else yb) (nodeC 0 S nilS)))
        case first =>
          cases B with
          | true =>
            have hlt : hi < lo := by have := of_decide_eq_true hB; omega
            have kq := KF.out _ _ HDD.out.rdr
            go_wp2_with fail
            refine kq.mono ?_
            rintro e w3 ⟨rfl, hB3, hs3⟩
            have H3 := Lib.hid (HDD.out.stp hB3 hs3)
            clear kq hB3 hs3
            go_wp2
            go_meet
            exact Lib.hid (by rw [if_pos hlt]; exact H3.out)
          | false =>
            have hlt : ¬ hi < lo := by have := of_decide_eq_false hB; omega
            go_wp2
            go_meet
            exact Lib.hid (by rw [if_neg hlt]; exact HDD.out)
        case rest =>
        clear hB HDD
        obtain ⟨zb, hz⟩ : ∃ zb, (if hi < lo then failM yb 2 else yb) = zb := ⟨_, rfl⟩
        rw [hz] at hcut
        have hzp : zb.pos = yb.pos := by rw [← hz]; split <;> simp only [failM_pos]
        have HZ := Lib.hid hz
        have HG := hcut
        clear hz hcut
        go_wp2
        go_loopw [12] (fun v wr => ∃ k : Nat, v = .int .i64 (k : Nat) ∧ lo ≤ k ∧ (k ≤ hi + 1 ∨ k = lo) ∧ Hid (Clr w wr g s zb (nodeC 0 (addU S lo k) nilS))) (fun v _ => 257 - (intOf v).toNat)
        case atStart => exact ⟨lo, rfl, Nat.le_refl _, .inr rfl, Lib.hid (by rw [addU_start]; exact HG.out)⟩
        case round =>
          clear HG
          obtain ⟨k, rfl, hk1, hk2, HT⟩ := hrel
          by_cases hk : k ≤ hi
          · have hk256 : k < 256 := by omega
            have n1 := HT.out.nd.cell (nodeC_set 0 (addU S lo k) nilS k hk256)
            have f1 := HT.out.nd.free (j := 1 + k) (by omega)
            have hkh : (k : Int) ≤ (hi : Int) := by omega
            have hki0 : (0 : Int) ≤ (k : Int) := by omega
            have hki1 : (k : Int) < 256 := by omega
            go_wp2
            go_roundw
            case rel => exact ⟨k + 1, by go_num, by omega, by omega, Lib.hid (by
              have := HT.out.put (1 + k) (.bool true) (by omega)
              rw [nodeC_setB 0 _ _ k hk256, addU_succ hk1] at this
              exact this)⟩
            case measure => (simp [intOf]; try omega)
          · have hkh : ¬ (k : Int) ≤ (hi : Int) := by omega
            have hkh2 : (hi : Int) < (k : Int) := by omega
            go_wp2
            go_roundw
            case rel =>
              refine ⟨n - 1, i + 1, zb, addS S lo hi, by go_num, ?_, by omega, by omega, by omega, ?_⟩
              · have he := HE.out
                rw [rloop_on HO.out HD.out HX.out HY.out] at he
                dsimp only at he
                rw [HZ.out] at he
                have hn1 : n - 1 + 1 = n := by omega
                rw [hn1]
                exact he
              · rw [← addU_end (show hi < k by omega) hk2]; exact HT.out
            case measure =>
              rw [HT.out.rdr.posAt, HC.out.rdr.posAt]
              omega
end Go.Proofs.YtcfococinllcmaaGreat

/- The reference's tree: kids under way; what a function of the reader gives back. -/
namespace Go.Proofs.YtcfococinllcmaaGreat
open Go.RowKit

/-- the kids of the node that is being made: their row lies behind the two boxes -/
structure Un (w0 w : World) (kv : Value) (md : Nat) (l : List (List Value)) (a : Re) (ok : Prop) : Prop where
  own : w.ownsRow (w0.heap.size + 2) 148 258 kv l.length l.flatten
  each : ∀ x ∈ l, x.length = 258 ∧ ∀ y ∈ x, y.oneCell' = true
  tree : ok → NA w (fun q => w0.heap.size + 2 ≤ q ∧ q < w.heap.size ∧ kv.ownBlock ≠ some q) md l a
theorem ownsRow_keep {w w' : World} {base : Nat} {e : TypeId} {size n : Nat} {v : Value} {xs : List Value} (h : w.ownsRow base e size v n xs) (hk : ∀ q, v.ownBlock = some q → w'.heap[q]? = w.heap[q]?) : w'.ownsRow base e size v n xs := by
  obtain ⟨h1, h2 | ⟨g, cap, cur, rfl, hb, hg, hr⟩⟩ := h
  · exact ⟨h1, .inl h2⟩
  · exact ⟨h1, .inr ⟨g, cap, cur, rfl, hb, (hk g rfl).trans hg, hr⟩⟩
theorem ownsRow_at {w : World} {base : Nat} {e : TypeId} {size n : Nat} {v : Value} {xs : List Value} (h : w.ownsRow base e size v n xs) : ∀ q, v.ownBlock = some q → base ≤ q ∧ q < w.heap.size := by
  obtain ⟨h1, ⟨rfl, _⟩ | ⟨g, cap, cur, rfl, hb, hg, hr⟩⟩ := h
  · intro q hq; cases hq
  · intro q hq
    cases hq
    exact ⟨hb, (Array.getElem?_eq_some_iff.1 hg).1⟩
theorem ownsRow_one {w : World} {base : Nat} {e : TypeId} {size n : Nat} {v : Value} {xs : List Value} (h : w.ownsRow base e size v n xs) : v.oneCell' = true := by
  obtain ⟨h1, ⟨rfl, _⟩ | ⟨g, cap, cur, rfl, hb, hg, hr⟩⟩ := h <;> rfl
theorem Un.nil (w0 w : World) {md : Nat} {a : Re} (h : ∀ P, NA w P md [] a) (ok : Prop) : Un w0 w nilS md [] a ok := ⟨World.ownsRow_nil _ _ _ _, fun x hx => (by cases hx), fun _ => h _⟩
theorem Un.keep {w0 w w' : World} {kv : Value} {md : Nat} {l : List (List Value)} {a : Re} {ok : Prop} (h : Un w0 w kv md l a ok) (hs : w.heap.size ≤ w'.heap.size) (hk : ∀ q, w0.heap.size + 2 ≤ q → q < w.heap.size → w'.heap[q]? = w.heap[q]?) : Un w0 w' kv md l a ok :=
  ⟨ownsRow_keep h.own fun q hq => (let ⟨h1, h2⟩ := ownsRow_at h.own q hq; hk q h1 h2), h.each, fun o => ((h.tree o).keep hs fun q hq hlt => hk q hq.1 hlt).mono fun _ hq => ⟨hq.1, Nat.lt_of_lt_of_le hq.2.1 hs, hq.2.2⟩⟩
theorem Un.kr {g : Nat} {w0 w w' : World} {kv : Value} {md : Nat} {l : List (List Value)} {a : Re} {ok : Prop} (h : Un w0 w kv md l a ok) (hk : Kr g w w') (hg : g < w0.heap.size) : Un w0 w' kv md l a ok :=
  h.keep hk.size fun q h1 h2 => hk.block q h2 (by omega)
theorem Un.below {w0 w w' : World} {kv : Value} {md : Nat} {l : List (List Value)} {a : Re} {ok : Prop} (h : Un w0 w kv md l a ok) (hb : Below w.heap.size w w') : Un w0 w' kv md l a ok :=
  h.keep hb.size fun q _ h2 => hb.block q h2
theorem Un.put {w0 w : World} {kv : Value} {md : Nat} {l : List (List Value)} {a : Re} {ok : Prop} (h : Un w0 w kv md l a ok) (p i : Nat) (v : Value) (hp : p < w0.heap.size + 2) : Un w0 (w.setCell ⟨p, i, none⟩ v) kv md l a ok :=
  h.keep (by simp) fun q h1 _ => Below.heap_setCell w ⟨p, i, none⟩ v q (by show q ≠ p; omega)
theorem Un.puts {w0 w : World} {kv : Value} {md : Nat} {l : List (List Value)} {a : Re} {ok : Prop} (h : Un w0 w kv md l a ok) (p i : Nat) (vs : List Value) (hp : p < w0.heap.size + 2) : Un w0 (w.setCells p i vs) kv md l a ok :=
  h.keep (by rw [size_setCells]; exact Nat.le_refl _) fun q h1 _ => heap_setCells w p q (by omega) vs i
theorem Un.kids {w0 w : World} {kv : Value} {md : Nat} {l : List (List Value)} {a : Re} {ok : Prop} (h : Un w0 w kv md l a ok) (hl : l.length ≤ 1000000) : KidsAt w (fun q => w0.heap.size ≤ q ∧ q < w.heap.size) kv l :=
  ⟨RdAt.own h.own, fun x hx => (h.each x hx).1, fun q hq => (let ⟨h1, h2⟩ := ownsRow_at h.own q hq; ⟨by omega, h2⟩), hl⟩
theorem Un.all {w0 w : World} {kv : Value} {md : Nat} {l : List (List Value)} {a : Re} {ok : Prop} (h : Un w0 w kv md l a ok) (o : ok) : NA w (fun q => w0.heap.size ≤ q ∧ q < w.heap.size) md l a :=
  (h.tree o).mono fun q hq => ⟨by omega, hq.2.1⟩
/-- one more -/
theorem Un.app {w0 w w' : World} {kv kv' : Value} {md : Nat} {l : List (List Value)} {a b c : Re} {ok ok' : Prop} {cs : List Value} (h : Un w0 w kv md l a ok) (hown : w'.ownsRow (w0.heap.size + 2) 148 258 kv' (l.length + 1) (l.flatten ++ cs))
    (hg : w.grownBy w' kv.ownBlock) (ho : kv'.ownBlock = kv.ownBlock ∨ kv'.ownBlock = some w.heap.size) (hcs : cs.length = 258 ∧ ∀ y ∈ cs, y.oneCell' = true) (hk : ok' → ok)
    (ht : ok' → NA w (fun q => w0.heap.size + 2 ≤ q ∧ q < w.heap.size ∧ kv.ownBlock ≠ some q) 0 [cs] b) (hf : ∀ (W : World) (P : Nat → Prop), NA W P md l a → NA W P 0 [cs] b → NA W P md (l ++ [cs]) c) : Un w0 w' kv' md (l ++ [cs]) c ok' := by
  have hsz : w.heap.size ≤ w'.heap.size := hg.size
  have hkeep : ∀ q, (w0.heap.size + 2 ≤ q ∧ q < w.heap.size ∧ kv.ownBlock ≠ some q) → q < w.heap.size → w'.heap[q]? = w.heap[q]? := fun q hq hlt => hg.block q hlt (fun e => hq.2.2 e.symm)
  refine ⟨by rw [List.length_append, List.flatten_append, List.flatten_singleton]; exact hown, fun x hx => ?_, fun o => ?_⟩
  · rcases List.mem_append.1 hx with hx | hx
    · exact h.each x hx
    · rw [List.mem_singleton.1 hx]; exact hcs
  · refine NA.mono (hf w' _ ((h.tree (hk o)).keep hsz hkeep) ((ht o).keep hsz hkeep)) ?_
    rintro q ⟨h1, h2, h3⟩
    refine ⟨h1, by omega, fun e => ?_⟩
    rcases ho with ho | ho
    · rw [ho] at e; exact h3 e
    · rw [ho] at e; cases e; omega
theorem RdrAt.congr {w : World} {g : Nat} {s : ByteArray} {b c : Bs} (h : RdrAt w g s b) (hp : b.pos = c.pos) (he : b.err = c.err) : RdrAt w g s c := ⟨h.c0, by rw [← hp]; exact h.c1, by rw [← he]; exact h.c2, h.th, h.lt⟩
theorem Clr.congr {w0 w : World} {g : Nat} {s : ByteArray} {b c : Bs} {cs : List Value} (h : Clr w0 w g s b cs) (hp : b.pos = c.pos) (he : b.err = c.err) : Clr w0 w g s c cs := ⟨h.rdr.congr hp he, h.nd, h.res, h.kr, h.gl⟩
theorem peek_congr {s : ByteArray} {b c : Bs} (he : b.err = c.err) (hp : b.err = 0 → b.pos = c.pos) : peekM s b = peekM s c := by
  unfold peekM
  by_cases h : b.err = 0
  · have h2 := hp h
    rw [he, h2]
  · rw [if_neg (fun x => h x.1), if_neg (fun x => h (he.trans x.1))]
theorem Clr.grown {w0 w w' : World} {g : Nat} {s : ByteArray} {b : Bs} {cs : List Value} {row : Option Nat} (h : Clr w0 w g s b cs) (hg : w.grownBy w' row) (hr : ∀ q, row = some q → w0.heap.size + 2 ≤ q) : Clr w0 w' g s b cs := by
  have hk : ∀ k, k < w.heap.size → k < w0.heap.size + 2 → w'.heap[k]? = w.heap[k]? := fun k hk hk2 => hg.block k hk (fun e => by have := hr k e.symm; omega)
  have hsz : w.heap.size ≤ w'.heap.size := hg.size
  have hlt := h.nd.lt
  have hgl := h.gl
  exact ⟨h.rdr.kept hsz (hk g h.rdr.lt (by omega)), h.nd.keep hsz (hk _ hlt (by omega)), there_kept h.res (hk _ (by omega) (by omega)), Keep.grown h.kr hg (fun k e => .inr (by have := hr k e; omega)), h.gl⟩
theorem Un.ok {w0 w : World} {kv : Value} {md : Nat} {l : List (List Value)} {a : Re} {ok ok' : Prop} (h : Un w0 w kv md l a ok) (o : ok' → ok) : Un w0 w kv md l a ok' := ⟨h.own, h.each, fun x => h.tree (o x)⟩
/-- what a function of the reader gives back -/
structure Back (w w' : World) (g : Nat) (s : ByteArray) (d : Nat) (r : Bs × (Nat × Nat)) (a : Re) (cs : List Value) (b' : Bs) : Prop where
  len : cs.length = 258
  one : ∀ y ∈ cs, y.oneCell' = true
  rdr : RdrAt w' g s b'
  err : b'.err = r.1.err
  pos : b'.pos ≤ s.size + 12 - d
  tree : b'.err = 0 → b'.pos = r.1.pos ∧ NA w' (fun q => w.heap.size ≤ q ∧ q < w'.heap.size) 0 [cs] a
  kr : Kr g w w'
/-- a function of the reader does what the model says, with so much fuel -/
def NdK (f : FuncId) (md : Md) (n : Nat) : Prop := ∀ (m : Nat), m ≤ n → ∀ (w : World) (g : Nat) (s : ByteArray) (d : Nat) (b : Bs), RdrAt w g s b → b.err = 0 → d ≤ 8 → b.pos ≤ s.size + 12 - d → (md = .atom → b.pos < s.size ∧ byteM s b.pos ≠ 124 ∧ byteM s b.pos ≠ 41) → s.size ≤ 100 → fuelM s b md ≤ m →
  Calls Tryz.prog f #[.pointer (some ⟨g, 0, none⟩), .int .i64 (d : Nat)] w fun e w' => ∃ cs b', e = .returned (.agg cs.toArray) ∧ Back w w' g s d (runM s m md d b) (reM s m md .no d b) cs b'
/-- a row of one node, filled -/
theorem fill_node (cs : List Value) (hl : cs.length = 258) (z : Array Value) (hz : z.size = 258) : Instr.fill (fun i => some (i * 258, 258)) z [(0, .agg cs.toArray)] = some cs.toArray := by
  obtain ⟨r, hr, hsz, hk⟩ := Great.fill_dense (s := 258) (by decide) [.agg cs.toArray] 0 z (fun v hv => by rw [List.mem_singleton.1 hv]; show cs.toArray.size = 258; simpa using hl) (by simp [hz])
  have e : r = cs.toArray := by
    apply Array.ext_getElem?
    intro k
    rw [hk k]
    by_cases h : k < 258
    · rw [if_pos ⟨by omega, by simpa using h⟩, show k / 258 - 0 = 0 by omega, Nat.mod_eq_of_lt h]
      rfl
    · rw [if_neg (by simp; omega), Array.getElem?_eq_none (by omega), Array.getElem?_eq_none (by simp; omega)]
  rw [e] at hr
  exact hr
theorem fill_one (a : Act) (x : Operand) (cs : List Value) (hl : cs.length = 258) (hx : a.eval x = .agg cs.toArray) : Instr.fill (fun i => some (i * 258, 258)) ((Array.range (1 * 258)).map ((Value.agg (zeroN 0)).cells[· % (Value.agg (zeroN 0)).cells.size]!)) ((#[(0, x)] : Array (Nat × Operand)).map fun (i, x) => (i, a.eval x)).toList = some cs.toArray := by
  simp only [List.map_toArray, List.map_cons, List.map_nil, hx]
  exact fill_node cs hl _ (by rw [Array.size_map, Array.size_range])
/-- a node with kids is built -/
theorem built_kids (a : Act) (x y : Operand) (k : Int) (ad : Option Addr) (n c : Nat) (hx : a.eval x = .int .i64 k) (hy : a.eval y = .slice ad n c) : Tryz.prog.built 148 ((#[(0, x), (2, y)] : Array (Nat × Operand)).map fun (i, x) => (i, a.eval x)).toList = some (nodeC k noB (.slice ad n c)).toArray := by
  simp only [List.map_toArray, List.map_cons, List.map_nil, hx, hy]
  exact node_built3 k ad n c
theorem info_node : (Tryz.prog.info? 148).map (fun i => (i.zero, i.size, i.bytes)) = some (some (.agg (zeroN 0)), 258, 288) := node_zero
/-- a row of one node, as it is read -/
theorem rd_node {w : World} {cs : List Value} (hl : cs.length = 258) (t : TypeId) : RdAt (w.alloc (.cells cs.toArray t)) (.slice (some ⟨w.heap.size, 0, none⟩) 1 1) 1 258 cs := by
  refine ⟨by rw [hl], .inr ⟨_, 1, rfl, Nat.le_refl _, fun _ => ⟨w.heap.size, 0, rfl, by rw [World.size_alloc]; omega, fun j x hx => ?_⟩⟩⟩
  rw [Nat.zero_add]
  exact (box_cells (Below.refl _ (w.alloc (.cells cs.toArray t)))).1 j x (by simpa using hx)
end Go.Proofs.YtcfococinllcmaaGreat

/- The reference's either: a contract (with row's for less fuel). -/
namespace Go.Proofs.YtcfococinllcmaaGreat
open Go.RowKit

/-- what either's loop carries -/
def ELoop (w0 : World) (g : Nat) (s : ByteArray) (d N : Nat) (r : Bs × (Nat × Nat)) (a : Re) (w : World) : Prop :=
  ∃ (m : Nat) (b : Bs) (p : Nat × Nat) (l : List (List Value)) (acc : Re) (kv : Value), m ≤ N ∧ b.err = 0 ∧ b.pos ≤ s.size + 12 - d ∧ fuelM s b (.alts p) ≤ m ∧ l.length ≤ b.pos ∧
    Hid (runM s m (.alts p) d b = r) ∧ Hid (reM s m (.alts p) acc d b = a) ∧ Hid (Clr w0 w g s b (nodeC 1 noB kv)) ∧ Hid (Un w0 w kv 1 l acc True)
set_option maxHeartbeats 12800000 in
set_option maxRecDepth 100000 in
theorem either_is (n : Nat) (hrow : NdK 129 .row n) : NdK 107 .either (n + 1) := by
  intro m hm w g s d b h he hd hp _ hs hf
  simp only [fuelM] at hf
  obtain ⟨m, rfl⟩ : ∃ m', m = m' + 2 := ⟨m - 2, by omega⟩
  obtain ⟨r, hr⟩ : ∃ r, runM s (m + 1) (.alts (b.sts.length, b.sts.length + 1)) d (nodeM (nodeM b)) = r := ⟨_, rfl⟩
  obtain ⟨a, ha⟩ : ∃ a, reM s (m + 1) (.alts (b.sts.length, b.sts.length + 1)) .no d (nodeM (nodeM b)) = a := ⟨_, rfl⟩
  have e1 : runM s (m + 2) .either d b = r := by rw [runM]; exact hr
  have e2 : reM s (m + 2) .either .no d b = a := by rw [reM]; exact ha
  rw [e1, e2]
  have HR0 := Lib.hid hr
  have HA0 := Lib.hid ha
  obtain ⟨b0, hb0⟩ : ∃ b0, nodeM (nodeM b) = b0 := ⟨_, rfl⟩
  have hbp : b0.pos = b.pos := by rw [← hb0]; rfl
  have hbe : b0.err = 0 := by rw [← hb0]; exact he
  have h0 : RdrAt w g s b0 := h.congr hbp.symm (by rw [hbe]; exact he)
  rw [hb0] at HR0 HA0
  have hc := Clr.new h0 1 148
  have HC0 := Lib.hid hc
  have HROW := Lib.hid hrow
  obtain ⟨i0, hi, hz0, hz1, hz2⟩ := info_parts info_node
  clear hrow hr ha e1 e2 hb0 hc h h0
  go_enter Tryz.func107, Tryz.ntmps107
  go_wp2_with (first
    | (with_reducible refine wpList_allocN rfl rfl _ rfl w.heap.size rfl ?_)
    | (with_reducible refine wpList_allocN rfl rfl _ rfl (w.heap.size + 1) (World.size_alloc _ _) ?_)
    | ((with_reducible refine wpList_buildN rfl _ rfl _ rfl (zeroN 1) ?hf ?_); (case hf => exact node_built1))
    | ((with_reducible refine wpList_storeN rfl _ _ rfl _ rfl (w.heap.size + 1) 0 (nodeC 1 noB nilS) ?hx ?hy ?ht (nodeC_len _ _ _) (oneN _ _) ?_); (case hx => rfl); (case hy => rfl); (case ht => exact (by have := there_new (w.alloc (.cells (zeroN 0) 148)) 0 148; rwa [World.size_alloc] at this))))
  refine wp_forget2 (fun W => Clr w W g s b0 (nodeC 1 noB nilS)) HC0.out (fun w1 hw1 => ?_)
  have H1 := Lib.hid hw1
  clear hw1 HC0
  simp only [Act.put, List.setIfInBounds_toArray, List.set_cons_zero, List.set_cons_succ]
  go_loopw [] (fun wr => ELoop w g s d (m + 1) r a wr) (fun wr => s.size + 15 - rposAt wr g)
  case atStart => exact ⟨m + 1, b0, _, [], .no, nilS, Nat.le_refl _, hbe, by omega, by simp only [fuelM]; omega, by simp, HR0, HA0, H1, Lib.hid (Un.nil w w1 (fun P => .a0) True)⟩
  case round =>
    clear H1 HR0 HA0 hbp hbe b0
    obtain ⟨k, b, p, l, acc, kv, hk, he, hp, hf, hl, HR, HA, HC, HU⟩ := hrel
    simp only [fuelM] at hf
    obtain ⟨k, rfl⟩ : ∃ k', k = k' + 1 := ⟨k - 1, by omega⟩
    have ok := runM_ok s k .row d b hd hp (fun h => by cases h) trivial (by simp only [fuelM]; omega)
    obtain ⟨g1, _, _, q3, _⟩ := ok
    have hgp := g1.pos
    clear g1
    have HR' := HR.out
    have HA' := HA.out
    rw [runM] at HR'
    rw [reM] at HA'
    (try dsimp only at HR' HA')
    have hkr := fun W (h : RdrAt W g s b) => HROW.out k (by omega) W g s d b h he hd hp (fun h => by cases h) hs (by simp only [fuelM]; omega)
    obtain ⟨rr, hrr⟩ : ∃ rr, runM s k .row d b = rr := ⟨_, rfl⟩
    obtain ⟨ra, hra⟩ : ∃ ra, reM s k .row .no d b = ra := ⟨_, rfl⟩
    rw [hrr] at HR' HA' hkr q3 hgp
    rw [hra] at HA' hkr
    obtain ⟨b2, hb2⟩ : ∃ b2, freeM (freeM rr.1 p.1 rr.2.1) rr.2.2 p.2 = b2 := ⟨_, rfl⟩
    have hp2 : b2.pos = rr.1.pos := by rw [← hb2]; rfl
    have he2 : b2.err = rr.1.err := by rw [← hb2]; rfl
    rw [hb2] at HR' HA'
    have HR1 := Lib.hid HR'
    have HA1 := Lib.hid HA'
    have KR := Lib.hid hkr
    clear HR' HA' hrr hra hb2 hkr HR HA
    have hl60 : l.length ≤ 200 := by omega
    have hRP : Hid (rposAt wr g = b.pos) := Lib.hid HC.out.rdr.posAt
    go_upto_region 2 with fail
    refine wp_region_heldS 8 (S := (fun W => W.cell? ⟨w.heap.size + 1, 257, none⟩ = some kv)) (by kernel_rfl) (HC.out.nd.cell (nodeC_kids _ _ _)) (fun hHeld => ?_)
    refine heldS_take (i := 0) (v := ?_) rfl rfl (by kernel_rfl) (by kernel_rfl) (by kernel_rfl) (by kernel_rfl) (by kernel_rfl) (fun _ _ _ h => h) (by rfl) hHeld ?_ ?_
    rotate_left
    · rintro wh hS
      go_simp
      (try with_reducible rfl)
    simp only [Act.put, List.setIfInBounds_toArray, List.set_cons_zero, List.set_cons_succ]
    refine heldS_take (i := 1) (v := ?_) rfl rfl (by kernel_rfl) (by kernel_rfl) (by kernel_rfl) (by kernel_rfl) (by kernel_rfl) (fun _ _ _ h => h) (by rfl) hHeld ?_ ?_
    rotate_left
    · rintro wh hS
      go_simp
      (try with_reducible rfl)
    simp only [Act.put, List.setIfInBounds_toArray, List.set_cons_zero, List.set_cons_succ]
    refine heldS_take (i := 2) (v := ?_) rfl rfl (by kernel_rfl) (by kernel_rfl) (by kernel_rfl) (by kernel_rfl) (by kernel_rfl) (fun _ _ _ h => h) (by rfl) hHeld ?_ ?_
    rotate_left
    · rintro wh hS
      go_simp
      (try with_reducible rfl)
    simp only [Act.put, List.setIfInBounds_toArray, List.set_cons_zero, List.set_cons_succ]
    refine heldS_take (i := 3) (v := ?_) rfl rfl (by kernel_rfl) (by kernel_rfl) (by kernel_rfl) (by kernel_rfl) (by kernel_rfl) (fun _ _ _ h => h) (by rfl) hHeld ?_ ?_
    rotate_left
    · rintro wh hS
      go_simp
      (try with_reducible rfl)
    simp only [Act.put, List.setIfInBounds_toArray, List.set_cons_zero, List.set_cons_succ]
    refine heldS_step (i := 4) rfl (by kernel_rfl) (fun K hK => ?_)
    go_simp; refine (KR.out _ (HC.out.below (Below.refl _ _).drew).rdr).mono ?_; rintro e w4 ⟨cs, b', rfl, hbk⟩; have hc4 := (HC.out.below (Below.refl _ _).drew).stp hbk.rdr hbk.kr; have hu4 := (HU.out.below (Below.refl _ _).drew).kr hbk.kr HC.out.gl; have HBK := Lib.hid hbk; have HC4 := Lib.hid hc4; have HU4 := Lib.hid hu4; clear hbk hc4 hu4
    refine hK.out _ _ (HC4.out.nd.cell (nodeC_kids _ _ _)) (fun hHeld => ?_)
    clear hK K
    (try simp only [Act.put, List.setIfInBounds_toArray])
    have h5 := HC4.out.below (alloc_below w4 (.cells cs.toArray 148))
    refine heldS_step (i := 5) rfl (by kernel_rfl) (fun K hK => ?_)
    rw [if_pos (by rfl)]; refine wp_buildSlice 146 148 1 _ rfl cs.toArray i0 (.agg (zeroN 0)) Tryz.underlying146 hi hz0 (by rw [hz1]; decide) (by rw [hz1]; decide) (by rw [hz1]; exact fill_one _ _ cs HBK.out.len rfl) ?_
    refine hK.out _ _ (h5.nd.cell (nodeC_kids _ _ _)) (fun hHeld => ?_)
    clear hK K
    (try simp only [Act.put, List.setIfInBounds_toArray])
    have HC5 := Lib.hid h5
    have HU5 := Lib.hid (HU4.out.below (alloc_below w4 (.cells cs.toArray 148)))
    have HRD := Lib.hid (rd_node (w := w4) HBK.out.len 148)
    have HT5 : Hid (b'.err = 0 → NA (w4.alloc (.cells cs.toArray 148)) (fun q => w.heap.size + 2 ≤ q ∧ q < (w4.alloc (.cells cs.toArray 148)).heap.size ∧ kv.ownBlock ≠ some q) 0 [cs] ra) := Lib.hid (fun h0 => (((HBK.out.tree h0).2).later (alloc_below w4 (.cells cs.toArray 148))).mono (by
      rintro q ⟨h1, h2⟩
      have hlt := HC.out.nd.lt
      have h1 : wr.heap.size ≤ q := h1
      refine ⟨by omega, by rw [World.size_alloc]; omega, fun e => ?_⟩
      have := (ownsRow_at HU.out.own q e).2
      omega))
    have HB5 : Hid (w.heap.size + 2 ≤ (w4.alloc (.cells cs.toArray 148)).heap.size) := Lib.hid (by have := HC5.out.nd.lt; omega)
    clear h5
    generalize (w4.alloc (.cells cs.toArray 148)) = w5 at *
    refine heldS_step (i := 6) rfl (by kernel_rfl) (fun K hK => ?_)
    refine step_append_rd rfl (.tmp 10) (.tmp 14) 146 rfl (w.heap.size + 2) 148 i0 (.agg (zeroN 0)) 258 288 Tryz.underlying146 hi hz0 hz1 hz2 (zeroN_size 0) (by decide) kv l.length l.flatten rfl HU5.out.own _ 1 cs rfl HRD.out HBK.out.one (by unfold maxLen; omega) (by omega) HB5.out ?_; intro kv' w6 hown hgrow hor; obtain ⟨ka, kc, rfl, -, -⟩ := RdAt.shape (RdAt.own hown); have hc6 := HC5.out.grown hgrow (fun q hq => (ownsRow_at HU5.out.own q hq).1); have f6 := hc6.nd.free (j := 257) (by omega); have HC6 := Lib.hid hc6; clear hc6; have HOWN := Lib.hid hown; have HGROW := Lib.hid hgrow; have HOR := Lib.hid hor; clear hown hgrow hor
    refine hK.out _ _ (HC6.out.nd.cell (nodeC_kids _ _ _)) (fun hHeld => ?_)
    clear hK K
    (try simp only [Act.put])
    refine heldS_step (i := 7) rfl (by kernel_rfl) (fun K hK => ?_)
    go_simp
    refine hK.out _ _ (HC6.out.nd.cell (nodeC_kids _ _ _)) (fun hHeld => ?_)
    clear hK K
    (try simp only [Act.put, List.setIfInBounds_toArray])
    refine heldS_last (i := 8) rfl (by kernel_rfl) (by kernel_rfl) (fun K hK => ?_)
    go_simp
    refine hK.out _ _ ?_
    clear hK K
    (try simp only [Act.put, List.setIfInBounds_toArray])
    refine wpAnyEnd_done (by kernel_rfl) ?_ _
    go_upto_region 3 with fail
    refine wp_forget2 (fun W => Clr w W g s b' (nodeC 1 noB (.slice ka (l.length + 1) kc)) ∧ Un w W (.slice ka (l.length + 1) kc) 1 (l ++ [cs]) (.alt acc ra) (b'.err = 0)) ⟨by
        have := HC6.out.put 257 (.slice ka (l.length + 1) kc) (by omega)
        rwa [nodeC_setK] at this, (HU5.out.app HOWN.out HGROW.out HOR.out ⟨HBK.out.len, HBK.out.one⟩ (fun _ => trivial) HT5.out (fun W P h1 h2 => .a1 h1 h2)).put _ _ _ (by omega)⟩ (fun w7 hw7 => ?_)
    have HC7 := Lib.hid hw7.1
    have HU7 := Lib.hid hw7.2
    clear hw7 HOWN HGROW HOR HC6 HU5 HC5 HT5 HB5 HRD HC HU HC4 HU4 KR f6 hHeld
    have hpk := peek_congr (s := s) (b := b') (c := b2) (HBK.out.err.trans he2.symm) (fun h0 => ((HBK.out.tree h0).1).trans hp2.symm)
    have hbp := HBK.out.pos
    have HPE : Hid (b'.err = b2.err ∧ (b'.err = 0 → b'.pos = b2.pos)) := Lib.hid ⟨HBK.out.err.trans he2.symm, fun h0 => ((HBK.out.tree h0).1).trans hp2.symm⟩
    obtain ⟨o, ho⟩ : ∃ o, peekM s b' = o := ⟨_, rfl⟩
    have k1 := next_is w7 g s b' o ho HC7.out.rdr (by omega)
    have HPK := Lib.hid (hpk.symm.trans ho)
    have HO := Lib.hid ho
    clear hpk ho HBK
    go_wp2_with fail
    refine k1.mono ?_
    rintro e w8 ⟨rfl, hb8⟩
    have HC8 := Lib.hid (HC7.out.below hb8)
    have HU8 := Lib.hid (HU7.out.below hb8)
    clear k1 hb8 HC7 HU7
    have HEND : Hid (peekM s b2 ≠ some 124 → ∃ cs' b'', Value.agg (nodeC 1 noB (.slice ka (l.length + 1) kc)).toArray = .agg cs'.toArray ∧ Back w (w8.setCells w.heap.size 0 (nodeC 1 noB (.slice ka (l.length + 1) kc))) g s d r a cs' b'') := Lib.hid (fun hne => by
      have h1 := HR1.out
      have h2 := HA1.out
      rw [if_neg hne] at h1 h2
      subst h1 h2
      have hu := HU8.out.puts w.heap.size 0 (nodeC 1 noB (.slice ka (l.length + 1) kc)) (by omega)
      exact ⟨_, b', rfl, nodeC_len _ _ _, nodeC_one _ _ _ (ownsRow_one hu.own), (HC8.out.done _).1, HPE.out.1, hbp, fun h0 => ⟨HPE.out.2 h0, .alts (hu.all h0) (hu.kids (by rw [List.length_append, List.length_singleton]; omega))⟩, (HC8.out.done _).2⟩)
    have HONE : Hid (∀ y ∈ nodeC 1 noB (.slice ka (l.length + 1) kc), y.oneCell' = true) := Lib.hid (nodeC_one _ _ _ (ownsRow_one HU8.out.own))
    rcases o with _ | c
    · go_wp2_with (first
      | ((with_reducible refine wpList_loadN rfl _ rfl _ rfl (w.heap.size + 1) 0 ?hx (nodeC 1 noB (.slice ka (l.length + 1) kc)) ?hc (nodeC_len _ _ _) ?_); (case hx => rfl); (case hc => exact HC8.out.nd.at_))
      | ((with_reducible refine wpList_storeN rfl _ _ rfl _ rfl w.heap.size 0 (nodeC 1 noB (.slice ka (l.length + 1) kc)) ?hx ?hy ?ht (nodeC_len _ _ _) HONE.out ?_); (case hx => rfl); (case hy => rfl); (case ht => exact HC8.out.res)))
      refine bodyPost_ret (results_agg1 rfl _ _ w.heap.size (nodeC 1 noB (.slice ka (l.length + 1) kc)) (.struct _) rfl (World.rangeAt_setCells_same _ _ _ _ (by rw [nodeC_len]; exact HC8.out.res)) Tryz.underlying148 rfl (by rw [nodeC_len]; exact node_size)) rfl ?_
      obtain ⟨cs', b'', e1, e2⟩ := HEND.out (by rw [HPK.out]; simp)
      exact ⟨cs', b'', by rw [e1], e2⟩
    · by_cases hc : c = 124
      · subst hc
        have c1 := HC8.out.rdr.c1
        have f1 := there_free HC8.out.rdr.th 1 (by omega)
        obtain ⟨hb0, hbs, -⟩ := peekM_some HO.out
        have hq1 : b'.pos ≤ b2.pos := Nat.le_of_eq (HPE.out.2 hb0)
        have hq2 : b2.pos ≤ b'.pos := Nat.le_of_eq (HPE.out.2 hb0).symm
        have hq3 : b.pos ≤ b2.pos := by omega
        clear hp2 he2
        go_wp2
        go_roundw
        case rel =>
          refine ⟨k, stepM b2, p, l ++ [cs], .alt acc ra, (.slice ka (l.length + 1) kc), by omega, ?_, ?_, ?_, ?_, ?_, ?_, ?_, ?_⟩
          · show b2.err = 0
            rw [← HPE.out.1]; exact hb0
          · simp only [stepM]; omega
          · simp only [fuelM, stepM]; omega
          · rw [List.length_append]; simp only [stepM, List.length_singleton]; omega
          · have h1 := HR1.out
            rw [if_pos HPK.out] at h1
            exact Lib.hid h1
          · have h2 := HA1.out
            rw [if_pos HPK.out] at h2
            exact Lib.hid h2
          · exact Lib.hid (HC8.out.step.congr (by simp only [stepM]; omega) (by show b'.err = b2.err; exact HPE.out.1))
          · exact Lib.hid ((HU8.out.kr (Kr.set g w8 1 _) HC8.out.gl).ok (fun _ => hb0))
        case measure =>
          rw [HC8.out.step.rdr.posAt, hRP.out]
          simp only [stepM]
          omega
      · have hcb : ((c : Int) != 124) = true := by simp; omega
        go_wp2_with (first
      | ((with_reducible refine wpList_loadN rfl _ rfl _ rfl (w.heap.size + 1) 0 ?hx (nodeC 1 noB (.slice ka (l.length + 1) kc)) ?hc (nodeC_len _ _ _) ?_); (case hx => rfl); (case hc => exact HC8.out.nd.at_))
      | ((with_reducible refine wpList_storeN rfl _ _ rfl _ rfl w.heap.size 0 (nodeC 1 noB (.slice ka (l.length + 1) kc)) ?hx ?hy ?ht (nodeC_len _ _ _) HONE.out ?_); (case hx => rfl); (case hy => rfl); (case ht => exact HC8.out.res)))
        refine bodyPost_ret (results_agg1 rfl _ _ w.heap.size (nodeC 1 noB (.slice ka (l.length + 1) kc)) (.struct _) rfl (World.rangeAt_setCells_same _ _ _ _ (by rw [nodeC_len]; exact HC8.out.res)) Tryz.underlying148 rfl (by rw [nodeC_len]; exact node_size)) rfl ?_
        obtain ⟨cs', b'', e1, e2⟩ := HEND.out (by rw [HPK.out]; simpa using hc)
        exact ⟨cs', b'', by rw [e1], e2⟩
end Go.Proofs.YtcfococinllcmaaGreat

