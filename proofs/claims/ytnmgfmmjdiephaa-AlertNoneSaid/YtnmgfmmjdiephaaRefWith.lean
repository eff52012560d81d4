/- lychgateref06.With: a contract. -/
import Derived.Test.YtnmgfmmjdiephaaRefRight6
namespace Go.Proofs.Ytnmgfmmjdiephaa
open Go.RowKit

theorem fit_snoc {L : List Fld} {x y : ByteArray} (h : FldsFit L) (hx : x.size ≤ maxLen) (hy : y.size ≤ maxLen) : FldsFit (L ++ [(x, y)]) := fun f hf => by
  rcases List.mem_append.1 hf with h' | h'
  · exact h f h'
  · simp only [List.mem_singleton] at h'
    subst h'
    exact ⟨hx, hy⟩
/-- one round of With -/
def withS (nm val : ByteArray) (s : List Fld × Bool) (f : Fld) : List Fld × Bool :=
  let s1 := if !s.2 && !ltS f.1 nm then (s.1 ++ [(nm, val)], true) else s
  if f.1 = nm then s1 else (s1.1 ++ [f], s1.2)
def withK (l : List Fld) (nm val : ByteArray) (k : Nat) : List Fld × Bool := (l.take k).foldl (withS nm val) ([], false)
def withL (l : List Fld) (nm val : ByteArray) : List Fld := if (withK l nm val l.length).2 then (withK l nm val l.length).1 else (withK l nm val l.length).1 ++ [(nm, val)]
theorem withK_step {l : List Fld} {nm val : ByteArray} {k : Nat} (h : k < l.length) : withK l nm val (k + 1) = withS nm val (withK l nm val k) l[k] := by
  unfold withK
  rw [List.take_succ_eq_append_getElem h, List.foldl_append]
  rfl
theorem rd_fld (w : World) (x y : ByteArray) (t : TypeId) : RdAt (w.alloc (.cells #[.string x, .string y] t)) (.slice (some ⟨w.heap.size, 0, none⟩) 1 1) 1 2 [.string x, .string y] := by
  refine RdAt.mk rfl (Nat.le_refl _) (by simp) (fun j v hj => ?_)
  rw [Nat.zero_add]
  exact (World.cell?_alloc_at _ _ _ _ rfl).trans (by
    match j, hj with
    | 0, hj => exact hj
    | 1, hj => exact hj
    | j + 2, hj => simp at hj)
set_option maxHeartbeats 1600000 in
set_option maxRecDepth 100000 in
theorem rwith_any (l : List Fld) (nm val : ByteArray) (w : World) (v : Value) (hv : FldsAt w v l) (hf : FldsFit l) (hl : l.length ≤ 1000) (hnm : nm.size ≤ maxLen) (hval : val.size ≤ maxLen) :
    Calls Try.prog 74 #[v, .string nm, .string val] w fun e w' => ∃ v', e = .returned v' ∧ FldsAt w' v' (withL l nm val) ∧ FldsFit (withL l nm val) ∧ (withL l nm val).length ≤ 2 * l.length + 1 ∧ (∀ q, v'.ownBlock = some q → w.heap.size ≤ q) ∧ Below w.heap.size w w' := by
  obtain ⟨i0, hi, hz0, hz1, hz2⟩ := info_parts info_fld
  obtain ⟨a, c, rfl, hc, hr⟩ := RdAt.shape hv
  have HR := Lib.hid hr
  have HF := Lib.hid hf
  clear hr hv hf
  go_enter Try.func74, Try.ntmps74
  go_wp2
  go_loopw [7, 8, 9] (fun s7 s8 i wr => ∃ (k : Nat) (L : List Fld) (d : Bool), s8 = .bool d ∧ i = .int .i64 k ∧ k ≤ l.length ∧ wr.ownsRow w.heap.size 54 2 s7 L.length (fldCells L) ∧ FldsFit L ∧ L.length ≤ 2 * k ∧ Hid (withK l nm val k = (L, d)) ∧ Below w.heap.size w wr) (fun _ _ i _ => l.length - (intOf i).toNat)
  case atStart => exact ⟨0, [], false, rfl, rfl, Nat.zero_le _, World.ownsRow_nil _ _ _ _, (fun _ h => by cases h), Nat.zero_le _, Lib.hid rfl, Below.refl _ _⟩
  case round =>
    obtain ⟨k, L, d, rfl, rfl, hk, hown, hfit, hlen, HWK, hbr⟩ := hrel
    obtain ⟨va, vc, rfl, _, _⟩ := RdAt.shape (RdAt.own hown)
    by_cases hkl : k < l.length
    · obtain ⟨b, o, rfl, hb, hcell⟩ := HR.out (by omega)
      obtain ⟨x, hxe⟩ : ∃ x, l[k].1 = x := ⟨_, rfl⟩
      obtain ⟨y, hye⟩ : ∃ y, l[k].2 = y := ⟨_, rfl⟩
      have hfs := HF.out _ (List.getElem_mem hkl)
      rw [hxe, hye] at hfs
      obtain ⟨hx0, hy0⟩ := fldCells_at l k hkl
      rw [hxe] at hx0
      rw [hye] at hy0
      have hq0 : ∀ W, Below w.heap.size w W → W.cell? ⟨b, o + k * 2, none⟩ = some (.string x) := fun W h => keep_cell (hcell _ _ hx0) h hb
      have hq1 : ∀ W, Below w.heap.size w W → W.cell? ⟨b, o + k * 2 + 1, none⟩ = some (.string y) := fun W h => keep_cell (by have := hcell _ _ hy0; rwa [← Nat.add_assoc] at this) h hb
      have HQ0 := Lib.hid hq0
      have HQ1 := Lib.hid hq1
      have HFX := Lib.hid hfs
      have hws := withK_step (nm := nm) (val := val) hkl
      rw [show l[k] = (x, y) by rw [← hxe, ← hye], HWK.out] at hws
      have HWS := Lib.hid hws
      clear hcell hx0 hy0 hxe hye hq0 hq1 hfs hws
      have hah := fun W => rahead_any x nm W HFX.out.1
      obtain ⟨lt, hlt⟩ : ∃ lt, ltS x nm = lt := ⟨_, rfl⟩
      simp only [hlt] at hah
      have HLT := Lib.hid hlt
      have a0 := HQ0.out wr hbr
      have HO := Lib.hid hown
      have HB := Lib.hid hbr
      clear hlt hown hbr
      go_upto_region 6 with fail
      go_cut [27] (fun s27 wx => s27 = .bool (!d && !lt) ∧ wx.ownsRow w.heap.size 54 2 (.slice va L.length vc) L.length (fldCells L) ∧ Below w.heap.size w wx)
      case first =>
        cases d
        · go_wp2_with fail
          refine (hah _).mono ?_
          rintro e w1 ⟨rfl, hb1⟩
          cases lt
          · go_wp2
            go_meet
            exact ⟨rfl, own_later HO.out hb1, HB.out.trans (hb1.mono HB.out.size)⟩
          · go_wp2
            go_meet
            exact ⟨rfl, own_later HO.out hb1, HB.out.trans (hb1.mono HB.out.size)⟩
        · clear hah
          go_wp2
          go_meet
          exact ⟨rfl, HO.out, HB.out⟩
      case rest =>
        obtain ⟨rfl, hown, hbr⟩ := hcut
        clear a0 hah HO HB
        obtain ⟨q, hq⟩ : ∃ q, (!d && !lt) = q := ⟨_, rfl⟩
        have HQQ := Lib.hid hq
        rw [hq]
        clear hq
        have HO := Lib.hid hown
        have HB := Lib.hid hbr
        clear hown hbr
        go_upto_if 27 with fail
        go_cut [7, 8] (fun s7 s8 wx => ∃ (L2 : List Fld) (d2 : Bool), s8 = .bool d2 ∧ wx.ownsRow w.heap.size 54 2 s7 L2.length (fldCells L2) ∧ FldsFit L2 ∧ L2.length ≤ L.length + 1 ∧ Hid ((if q then (L ++ [(nm, val)], true) else (L, d)) = (L2, d2)) ∧ Below w.heap.size w wx)
        case first =>
          cases q
          · go_wp2
            go_meet
            exact ⟨L, d, rfl, HO.out, hfit, Nat.le_succ _, Lib.hid rfl, HB.out⟩
          · have hown9 := HO.out.alloc (.cells #[.string nm, .string val] 54)
            have hrd := rd_fld wc nm val 54
            go_wp2_with (at_builtin; (refine wpList_append_rd rfl (.tmp 28) (.tmp 32) 27 rfl w.heap.size 54 i0 (.agg #[.string ⟨#[]⟩, .string ⟨#[]⟩]) 2 32 Try.underlying27 hi hz0 hz1 hz2 rfl (by decide) _ _ _ rfl hown9 _ 1 [.string nm, .string val] rfl hrd (by simp [Value.oneCell']) (by unfold maxLen; omega) (by omega) (by have := HB.out.size; simp; omega) ?_); intro v' w8 hown' hg8)
            have hB8 : Below w.heap.size w w8 := (HB.out.alloc HB.out.size _).grown hg8 (by have := HB.out.size; simp; omega) (fun j e => (hown9.lt j e).1)
            go_wp2
            go_meet
            exact ⟨L ++ [(nm, val)], true, rfl, by rw [List.length_append, fldCells_append]; exact hown', fit_snoc hfit hnm hval, by simp, Lib.hid rfl, hB8⟩
        case rest =>
          obtain ⟨L2, d2, rfl, hown, hfit2, hlen2, HIF, hbr⟩ := hcut
          have HWN : Hid (withK l nm val (k + 1) = (if x = nm then (L2, d2) else (L2 ++ [(x, y)], d2))) := by
            show _ = _
            rw [HWS.out]
            unfold withS
            simp only [HLT.out, HQQ.out, HIF.out]
          clear HIF HWS
          clear HO HB
          obtain ⟨vb, vd, rfl, _, _⟩ := RdAt.shape (RdAt.own hown)
          have a0 := HQ0.out _ hbr
          have a1 := HQ1.out _ hbr
          have HO := Lib.hid hown
          have HB := Lib.hid hbr
          clear hown hbr
          by_cases hxn : x = nm
          · have hbq : (x.toList == nm.toList) = true := bytes_eq_iff.2 hxn
            rw [if_pos hxn] at HWN
            clear hxn
            go_wp2
            go_roundw
            case rel => exact ⟨k + 1, L2, d2, rfl, by go_num, by omega, HO.out, hfit2, by omega, HWN, HB.out⟩
            case measure => (simp [intOf]; try omega)
          · have hbq : (x.toList == nm.toList) = false := by rw [bytes_beq]; exact decide_eq_false hxn
            rw [if_neg hxn] at HWN
            clear hxn
            have hown9 := HO.out.alloc (.cells #[.string x, .string y] 54)
            have hrd := rd_fld wc x y 54
            go_wp2_with (at_builtin; (refine wpList_append_rd rfl (.tmp 41) (.tmp 46) 27 rfl w.heap.size 54 i0 (.agg #[.string ⟨#[]⟩, .string ⟨#[]⟩]) 2 32 Try.underlying27 hi hz0 hz1 hz2 rfl (by decide) _ _ _ rfl hown9 _ 1 [.string x, .string y] rfl hrd (by simp [Value.oneCell']) (by unfold maxLen; omega) (by omega) (by have := HB.out.size; simp; omega) ?_); intro v' w8 hown' hg8)
            have hB8 : Below w.heap.size w w8 := (HB.out.alloc HB.out.size _).grown hg8 (by have := HB.out.size; simp; omega) (fun j e => (hown9.lt j e).1)
            go_wp2
            go_roundw
            case rel => exact ⟨k + 1, L2 ++ [(x, y)], d2, rfl, by go_num, by omega, by rw [List.length_append, fldCells_append]; exact hown', fit_snoc hfit2 HFX.out.1 HFX.out.2, by simp; omega, HWN, hB8⟩
            case measure => (simp [intOf]; try omega)
    · obtain rfl : k = l.length := by omega
      have HWL : Hid (withL l nm val = (if d then L else L ++ [(nm, val)])) := by show _ = _; unfold withL; rw [HWK.out]
      have HO := Lib.hid hown
      have HB := Lib.hid hbr
      clear hown hbr
      cases d
      · have hown9 := HO.out.alloc (.cells #[.string nm, .string val] 54)
        have hrd := rd_fld wr nm val 54
        go_wp2_with (at_builtin; (refine wpList_append_rd rfl (.tmp 50) (.tmp 54) 27 rfl w.heap.size 54 i0 (.agg #[.string ⟨#[]⟩, .string ⟨#[]⟩]) 2 32 Try.underlying27 hi hz0 hz1 hz2 rfl (by decide) _ _ _ rfl hown9 _ 1 [.string nm, .string val] rfl hrd (by simp [Value.oneCell']) (by unfold maxLen; omega) (by omega) (by have := HB.out.size; simp; omega) ?_); intro v' w8 hown' hg8)
        have hB8 : Below w.heap.size w w8 := (HB.out.alloc HB.out.size _).grown hg8 (by have := HB.out.size; simp; omega) (fun j e => (hown9.lt j e).1)
        go_wp2
        go_ret
        have hr8 := RdAt.own hown'
        rw [show (1 : Nat) = [(nm, val)].length from rfl, ← List.length_append] at hr8
        refine ⟨_, rfl, ?_⟩
        rw [HWL.out]
        exact ⟨by simp only [Bool.false_eq_true, if_false]; unfold FldsAt; rw [fldCells_append]; exact hr8, fit_snoc hfit hnm hval, by simp; omega, fun q hq => (hown'.lt q hq).1, hB8⟩
      · go_wp2
        go_ret
        refine ⟨_, rfl, ?_⟩
        rw [HWL.out]
        exact ⟨RdAt.own HO.out, hfit, by simp; omega, fun q hq => (HO.out.lt q hq).1, HB.out⟩
end Go.Proofs.Ytnmgfmmjdiephaa
