/- lychgateref07.Lines: a contract. -/
import Derived.Test.YtpoaoicehoihdaaDoorRefSplit
import Derived.Test.YtpoaoicehoihdaaDoorLinesLaw
import Derived.Maps.AppendAt
namespace Go.Proofs.YtpoaoicehoihdaaDoor
open Go.RowKit

theorem info27 : (Tryd.prog.info? 27).map (fun i => (i.zero, i.size, i.bytes)) = some (some (.slice none 0 0), 1, 24) := by kernel_rfl
/-- what the lines of a text leave -/
def LinesPost (s : ByteArray) (w : World) (e : Ending) (w' : World) : Prop :=
  ∃ v ls, e = .returned (.tuple #[v, .int .i64 (linesL (B s)).2.1, .int .i64 (linesL (B s)).2.2]) ∧ LB ls = (linesL (B s)).1 ∧ LinesAt w' v ls ∧ ls.length ≤ s.size + 1 ∧ Below w.heap.size w w'
namespace refLines
theorem u8_eq {c : UInt8} (h : ((c.toNat : Int) != 10) = false) : c = 10 := by
  have : (c.toNat : Int) = 10 := by simpa using h
  exact UInt8.toNat_inj.1 (by show c.toNat = 10; omega)
theorem u8_ne {c : UInt8} (h : ((c.toNat : Int) != 10) = true) : c ≠ 10 := by
  rintro rfl; cases h
theorem map_snoc {ps : List (List UInt8)} {ls : List (List ByteArray)} {x : List UInt8} {us : List ByteArray} (h : ps.map splitL = (LB ls).map some) (hx : splitL x = some (us.map B)) : (ps ++ [x]).map splitL = (LB (ls ++ [us])).map some := by
  rw [List.map_append, h]
  simp [LB, hx]

set_option maxHeartbeats 3200000 in
set_option maxRecDepth 100000 in
theorem lines_any (s : ByteArray) (w : World) (hs : s.size ≤ 1048576) : Calls Tryd.prog 18 #[.string s] w (LinesPost s w) := by
  obtain ⟨i0, hi, hz0, hz1, hz2⟩ := info_parts info27
  go_enter Tryd.func18, Tryd.ntmps18
  go_wp2
  go_loopw [5, 6, 7] (fun v f i wr => ∃ (p q : Nat) (ps : List (List UInt8)) (vs : List Value) (ls : List (List ByteArray)), q ≤ s.size + 1 ∧ f = .int .i64 p ∧ i = .int .i64 q ∧ ls.length ≤ q ∧ p ≤ s.size + 1 ∧ Hid (CutSt 10 (B s) ps p q) ∧ Hid (ps.map splitL = (LB ls).map some) ∧
      Hid (OwnLines wr w.heap.size 27 v vs ls) ∧ Below w.heap.size w wr) (fun _ _ i _ => s.size + 1 - (intOf i).toNat)
  case atStart => exact ⟨0, 0, [], [], [], Nat.zero_le _, rfl, rfl, Nat.zero_le _, Nat.zero_le _, CutSt.start _ _, rfl, OwnLines.nil _ _ _, Below.refl _ _⟩
  case round =>
    obtain ⟨p, q, ps, vs, ls, hq, rfl, rfl, hwl, hpS, HS, HP, HO, hbr⟩ := hrel
    by_cases hlt : q < s.size
    · cases h44 : ((s[q].toNat : Int) != 10)
      · have hc : (B s)[q]'(by rw [len_B]; exact hlt) = 10 := u8_eq h44
        have hW := HS.out.word (by rw [len_B]; exact hlt) hc
        clear hc
        obtain ⟨hpq, hS2, hBad⟩ := hW
        rw [← B_piece] at hS2 hBad
        obtain ⟨x, hxe⟩ : ∃ x, s.extract p q = x := ⟨_, rfl⟩
        rw [hxe] at hS2 hBad
        have hxs : x.size ≤ 1048576 := by
          rw [← hxe, ByteArray.size_extract]; omega
        have HS2 := Lib.hid hS2
        have HBad := Lib.hid hBad
        have hsp := refSplit.split_any x wr (by omega)
        obtain ⟨a5, c5, rfl, hc5, _⟩ := (RdAt.own HO.out.2.1).shape
        clear hS2 hBad
        go_wp2_with fail
        refine hsp.mono ?_
        rintro e w2 (⟨v2, us, rfl, h2, hv2, hb2⟩ | ⟨rfl, h2, hb2⟩)
        · have hS : StrsAt w2 v2 us := StrsAt.own hv2 (by have := splitL_len h2; rw [List.length_map, len_B] at this; omega)
          have hOL := HO.out.later hb2
          have hub : ∀ b, v2.ownBlock = some b → b < w2.heap.size ∧ (Value.slice a5 ls.length c5).ownBlock ≠ some b := fun b hb => ⟨(hv2.lt b hb).2, fun e => by have h1 := (hv2.lt b hb).1; have h3 := (HO.out.2.1.lt b e).2; omega⟩
          have HP2 := Lib.hid (map_snoc HP.out h2)
          have hbw : Below w.heap.size w w2 := hbr.trans (hb2.mono hbr.size)
          obtain ⟨a2, c2, rfl, hc2, _⟩ := hS.shape
          have HSS := Lib.hid hS
          have HOL := Lib.hid hOL
          have HUB := Lib.hid hub
          clear h2 hv2 hS hOL hub hsp hb2
          go_wp2_with (first
            | (at_builtin; refine wpList_append_own_at _ rfl _ _ 36 rfl w.heap.size 27 i0 (.slice none 0 0) 1 24 Tryd.underlying36 hi hz0 hz1 hz2 rfl (by decide) _ _ _ rfl (HOL.out.2.1.alloc _) ⟨w2.heap.size, 0, none⟩ 1 1 [.slice a2 us.length c2] rfl rfl (cell_one_new _ _ _) (by simp [Value.oneCell']) (by unfold maxLen; omega) (by omega) (by have := hbw.size; simp; omega) ?_; intro v' w4 hown4 hg4 _ hat4)
            | fail)
          have R : OwnLines w4 w.heap.size 27 v' (vs ++ [.slice a2 us.length c2]) (ls ++ [us]) ∧ Below w.heap.size w w4 := by
            have hA := (Below.refl w2.heap.size w2).alloc (Nat.le_refl _) (.cells #[.slice a2 us.length c2] 27)
            refine ⟨OwnLines.snoc (HOL.out.later hA) (HSS.out.later hA) (fun b hb => ⟨Nat.lt_of_lt_of_le (HUB.out b hb).1 hA.size, (HUB.out b hb).2⟩) hown4 hg4 (hat4.imp id fun h => ⟨_, h, Nat.le_refl _⟩), ?_⟩
            exact (hbw.trans (hA.mono hbw.size)).grown hg4 (Nat.le_trans hbw.size hA.size) (fun m hm => (HOL.out.2.1.lt m hm).1)
          clear hown4 hg4 hat4
          go_wp2
          go_roundw
          case rel => exact ⟨q + 1, q + 1, _, _, _, by omega, by go_num, by go_num, by rw [List.length_append, List.length_singleton]; omega, by omega, HS2, HP2, R.1, R.2⟩
          case measure => simp [intOf] <;> omega
        · have HR : Hid (linesL (B s) = ([], (ls.length : Int) + 1, 2)) := by
            obtain ⟨r, hr⟩ := HBad.out
            have := linesL_stop hr HP.out h2
            show _ = _
            rw [this, LB, List.length_map]
          have hbw : Below w.heap.size w w2 := hbr.trans (hb2.mono hbr.size)
          clear h2 hsp hb2
          go_wp2
          go_ret3
          exact ⟨_, [], by rw [HR.out]; go_num, by rw [HR.out]; rfl, LinesAt.nil _, Nat.zero_le _, hbw⟩
      · have HN : Hid (CutSt 10 (B s) ps p (q + 1)) := HS.out.on (by rw [len_B]; exact hlt) (u8_ne h44)
        go_wp2
        go_roundw
        case rel => exact ⟨p, q + 1, ps, vs, ls, by omega, rfl, by go_num, by omega, hpS, HN, HP, HO, hbr⟩
        case measure => simp [intOf] <;> omega
    · by_cases hqe : q = s.size
      · subst hqe
        have hW := HS.out.last (by rw [len_B])
        obtain ⟨hpq, hS2, hBad⟩ := hW
        rw [← B_piece] at hS2 hBad
        obtain ⟨x, hxe⟩ : ∃ x, s.extract p s.size = x := ⟨_, rfl⟩
        rw [hxe] at hS2 hBad
        have hxs : x.size ≤ 1048576 := by
          rw [← hxe, ByteArray.size_extract]; omega
        have HS2 := Lib.hid hS2
        have HBad := Lib.hid hBad
        have hsp := refSplit.split_any x wr (by omega)
        obtain ⟨a5, c5, rfl, hc5, _⟩ := (RdAt.own HO.out.2.1).shape
        clear hS2 hBad
        go_wp2_with fail
        refine hsp.mono ?_
        rintro e w2 (⟨v2, us, rfl, h2, hv2, hb2⟩ | ⟨rfl, h2, hb2⟩)
        · have hS : StrsAt w2 v2 us := StrsAt.own hv2 (by have := splitL_len h2; rw [List.length_map, len_B] at this; omega)
          have hOL := HO.out.later hb2
          have hub : ∀ b, v2.ownBlock = some b → b < w2.heap.size ∧ (Value.slice a5 ls.length c5).ownBlock ≠ some b := fun b hb => ⟨(hv2.lt b hb).2, fun e => by have h1 := (hv2.lt b hb).1; have h3 := (HO.out.2.1.lt b e).2; omega⟩
          have HP2 := Lib.hid (map_snoc HP.out h2)
          have hbw : Below w.heap.size w w2 := hbr.trans (hb2.mono hbr.size)
          obtain ⟨a2, c2, rfl, hc2, _⟩ := hS.shape
          have HSS := Lib.hid hS
          have HOL := Lib.hid hOL
          have HUB := Lib.hid hub
          clear h2 hv2 hS hOL hub hsp hb2
          go_wp2_with (first
            | (at_builtin; refine wpList_append_own_at _ rfl _ _ 36 rfl w.heap.size 27 i0 (.slice none 0 0) 1 24 Tryd.underlying36 hi hz0 hz1 hz2 rfl (by decide) _ _ _ rfl (HOL.out.2.1.alloc _) ⟨w2.heap.size, 0, none⟩ 1 1 [.slice a2 us.length c2] rfl rfl (cell_one_new _ _ _) (by simp [Value.oneCell']) (by unfold maxLen; omega) (by omega) (by have := hbw.size; simp; omega) ?_; intro v' w4 hown4 hg4 _ hat4)
            | fail)
          have R : OwnLines w4 w.heap.size 27 v' (vs ++ [.slice a2 us.length c2]) (ls ++ [us]) ∧ Below w.heap.size w w4 := by
            have hA := (Below.refl w2.heap.size w2).alloc (Nat.le_refl _) (.cells #[.slice a2 us.length c2] 27)
            refine ⟨OwnLines.snoc (HOL.out.later hA) (HSS.out.later hA) (fun b hb => ⟨Nat.lt_of_lt_of_le (HUB.out b hb).1 hA.size, (HUB.out b hb).2⟩) hown4 hg4 (hat4.imp id fun h => ⟨_, h, Nat.le_refl _⟩), ?_⟩
            exact (hbw.trans (hA.mono hbw.size)).grown hg4 (Nat.le_trans hbw.size hA.size) (fun m hm => (HOL.out.2.1.lt m hm).1)
          clear hown4 hg4 hat4
          go_wp2
          go_roundw
          case rel => exact ⟨s.size + 1, s.size + 1, _, _, _, by omega, by go_num, by go_num, by rw [List.length_append, List.length_singleton]; omega, by omega, HS2, HP2, R.1, R.2⟩
          case measure => simp [intOf] <;> omega
        · have HR : Hid (linesL (B s) = ([], (ls.length : Int) + 1, 2)) := by
            obtain ⟨r, hr⟩ := HBad.out
            have := linesL_stop hr HP.out h2
            show _ = _
            rw [this, LB, List.length_map]
          have hbw : Below w.heap.size w w2 := hbr.trans (hb2.mono hbr.size)
          clear h2 hsp hb2
          go_wp2
          go_ret3
          exact ⟨_, [], by rw [HR.out]; go_num, by rw [HR.out]; rfl, LinesAt.nil _, Nat.zero_le _, hbw⟩
      · obtain rfl : q = s.size + 1 := by omega
        have HR : Hid (linesL (B s) = (LB ls, 0, 0)) := linesL_done (HS.out.done (by rw [len_B])) HP.out
        have hL := HO.out.lines (by omega)
        go_wp2
        go_ret3
        exact ⟨_, ls, by rw [HR.out]; rfl, by rw [HR.out], hL, hwl, hbr⟩
end refLines
end Go.Proofs.YtpoaoicehoihdaaDoor
