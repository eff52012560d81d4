/- lychgateref07.Split: a contract, the same as word.Split's. -/
import Derived.Test.YtpoaoicehoihdaaDoorSplit
import Derived.Deep.LoopGhost
namespace Go.Proofs.YtpoaoicehoihdaaDoor.refSplit
open Go.RowKit

/-- the walk within a word: from byte p on, within quotes or not -/
def InW (w0 : List UInt8) (l : List UInt8) (from' p : Nat) (i : Bool) : Prop :=
  (p ≤ l.length ∧ (endF false false w0).1 = (p - from') + (endF i false (l.drop p)).1 ∧ (endF false false w0).2 = (endF i false (l.drop p)).2) ∨
  (p = l.length + 1 ∧ i = true ∧ (endF false false w0).2 = true)
theorem InW.start {l : List UInt8} {p : Nat} (h : p ≤ l.length) : InW (l.drop p) l p p false := .inl ⟨h, by simp, rfl⟩
theorem drop_at {l : List UInt8} {p : Nat} (h : p < l.length) : l.drop p = l[p] :: l.drop (p + 1) := List.drop_eq_getElem_cons h
theorem InW.skip {w0 l : List UInt8} {f p : Nat} (h : InW w0 l f p true) (hp : p < l.length) (hf : f ≤ p) (hc : isB l[p] 92 = true) : InW w0 l f (p + 2) true := by
  rcases h with ⟨_, h1, h2⟩ | ⟨h, _, _⟩
  · have e1 : stepE true false l[p] = (true, true) := by simp [stepE, hc]
    have s1 : stopE true false l[p] = false := by simp [stopE, e1]
    rw [drop_at hp, endF, if_neg (by rw [s1]; decide), e1] at h1 h2
    by_cases hq : p + 1 < l.length
    · have e2 : stepE true true l[p + 1] = (true, false) := by simp [stepE]
      have s2 : stopE true true l[p + 1] = false := by simp [stopE, e2]
      rw [drop_at hq] at h1 h2
      simp only at h1 h2
      rw [endF, if_neg (by rw [s2]; decide), e2] at h1 h2
      have e3 : p + 1 + 1 = p + 2 := rfl
      rw [e3] at h1 h2
      exact .inl ⟨by omega, by rw [h1]; simp only; omega, h2⟩
    · refine .inr ⟨by omega, rfl, ?_⟩
      rw [h2, List.drop_of_length_le (by omega)]
      rfl
  · omega
theorem InW.quote {w0 l : List UInt8} {f p : Nat} {i : Bool} (h : InW w0 l f p i) (hp : p < l.length) (hf : f ≤ p) (h92 : (i && isB l[p] 92) = false) (hc : isB l[p] 34 = true) : InW w0 l f (p + 1) (!i) := by
  rcases h with ⟨_, h1, h2⟩ | ⟨h, _, _⟩
  · have e1 : stepE i false l[p] = (!i, false) := by simp [stepE, h92, hc]
    have hb : blankB l[p] = false := by
      have : (l[p].toNat : Int) = 34 := by simpa [isB] using hc
      simp [blankB, isB, this]
    have s1 : stopE i false l[p] = false := by simp [stopE, hb]
    rw [drop_at hp, endF, if_neg (by rw [s1]; decide), e1] at h1 h2
    exact .inl ⟨by omega, by rw [h1]; simp only; omega, h2⟩
  · omega
theorem InW.plain {w0 l : List UInt8} {f p : Nat} {i : Bool} (h : InW w0 l f p i) (hp : p < l.length) (hf : f ≤ p) (h92 : (i && isB l[p] 92) = false) (hc : isB l[p] 34 = false) (hb : i = true ∨ blankB l[p] = false) : InW w0 l f (p + 1) i := by
  rcases h with ⟨_, h1, h2⟩ | ⟨h, _, _⟩
  · have e1 : stepE i false l[p] = (i, false) := by simp [stepE, h92, hc]
    have s1 : stopE i false l[p] = false := by
      rcases hb with rfl | hb
      · simp [stopE, e1]
      · simp [stopE, hb]
    rw [drop_at hp, endF, if_neg (by rw [s1]; decide), e1] at h1 h2
    exact .inl ⟨by omega, by rw [h1]; simp only; omega, h2⟩
  · omega
theorem InW.bad {w0 l : List UInt8} {f p : Nat} (h : InW w0 l f p true) (hp : l.length ≤ p) : (endF false false w0).2 = true := by
  rcases h with ⟨h0, _, h2⟩ | ⟨_, _, h⟩
  · rw [h2, List.drop_of_length_le hp]; rfl
  · exact h
theorem InW.good {w0 l : List UInt8} {f p : Nat} (h : InW w0 l f p false) (hp : ∀ h : p < l.length, blankB l[p] = true) : p ≤ l.length ∧ (endF false false w0).1 = p - f ∧ (endF false false w0).2 = false := by
  rcases h with ⟨h0, h1, h2⟩ | ⟨_, h, _⟩
  · refine ⟨h0, ?_⟩
    by_cases hlt : p < l.length
    · have hb := hp hlt
      have hbI : (l[p].toNat : Int) = 32 ∨ (l[p].toNat : Int) = 9 := by simpa [blankB, isB] using hb
      have e34 : isB l[p] 34 = false := by simp [isB]; omega
      have s1 : stopE false false l[p] = true := by simp [stopE, stepE, e34, hb]
      rw [drop_at hlt, endF, if_pos s1] at h1 h2
      exact ⟨by simpa using h1, h2⟩
    · rw [List.drop_of_length_le (by omega)] at h1 h2
      exact ⟨by simpa [endF] using h1, by simpa [endF] using h2⟩
  · cases h

theorem getB (s : ByteArray) (k : Nat) (h : k < s.size) : (B s)[k]'(by rw [len_B]; exact h) = s[k] := rfl

theorem word_step {s : ByteArray} {p q r : Nat} {ws : List ByteArray} {c : UInt8} (hF : splitF (s.size + 1) (B s) = (splitF (s.size - p + 1) ((B s).drop p)).map (ws.map B ++ ·))
    (hdw : ((B s).drop p).dropWhile blankB = c :: (B s).drop (q + 1)) (hdq : (B s).drop q = c :: (B s).drop (q + 1)) (h35 : isB c 35 = false) (h1 : (endF false false ((B s).drop q)).1 = r - q) (h2 : (endF false false ((B s).drop q)).2 = false)
    (hpq : p ≤ q) (hqr : q ≤ r) (hr : r ≤ s.size) :
    splitF (s.size + 1) (B s) = (splitF (s.size - r + 1) ((B s).drop r)).map ((ws ++ [s.extract q r]).map B ++ ·) ∧ p + 1 ≤ r := by
  have he : endR ((B s).drop q) = ((r - q : Nat) : Int) := by rw [endR, h2, h1]; rfl
  rw [hdq] at he
  obtain ⟨hw1, hw2, hw3⟩ := splitF_word (f := s.size - p) hdw h35 (by omega)
  rw [he, Int.toNat_natCast] at hw1 hw2 hw3
  rw [← hdq, List.drop_drop, show q + (r - q) = r by omega] at hw1
  refine ⟨?_, by omega⟩
  have e1 : B (s.extract q r) = ((B s).drop q).take (r - q) := by show (s.extract q r).data.toList = _; rw [Lib.extract_data]
  rw [hF, hw1, splitF_more (s.size - p) (s.size - r + 1) _ (by rw [List.length_drop, len_B]; omega) (by rw [List.length_drop, len_B]; omega), List.map_append, List.map_singleton, e1, Option.map_map]
  simp
  rfl
set_option maxHeartbeats 3200000 in
set_option maxRecDepth 100000 in
theorem split_any (s : ByteArray) (w : World) (hs : s.size ≤ 1073741824) : Calls Tryd.prog 16 #[.string s] w (SplitPost s w) := by
  obtain ⟨i0, hi, hz0, hz1, hz2⟩ := info_parts info9
  go_enter Tryd.func16, Tryd.ntmps16
  go_wp2
  go_loop [5] (fun x => ∃ k : Nat, k ≤ s.size ∧ x = .int .i64 k ∧ Hid (((B s).take k).any ctlB = false)) (fun x => s.size - (intOf x).toNat)
  case atStart => exact ⟨0, Nat.zero_le _, rfl, rfl⟩
  case round =>
    obtain ⟨k, hk, rfl, HT⟩ := hrel
    by_cases hlt : k < s.size
    · have HT1 : Hid ((B s).take (k + 1) = (B s).take k ++ [s[k]]) := take_succ_B s k hlt
      by_cases h32 : (s[k].toNat : Int) < 32
      · cases h9 : ((s[k].toNat : Int) == 9)
        · have h9' : ((s[k].toNat : Int) != 9) = true := by rw [bne, h9]; rfl
          have HR : Hid (splitL (B s) = none) := by
            show _ = _
            have : (B s).any ctlB = true := by
              rw [List.any_eq_true]
              refine ⟨s[k], Array.mem_toList_iff.2 (Array.getElem_mem hlt), ?_⟩
              simp [ctlB, isB, h9, h32]
            simp [splitL, this]
          go_wp2
          go_ret2
          exact .inr ⟨rfl, HR.out, Below.refl _ _⟩
        · have h9' : ((s[k].toNat : Int) != 9) = false := by rw [bne, h9]; rfl
          have HN : Hid (((B s).take (k + 1)).any ctlB = false) := by
            show _ = _
            rw [HT1.out, List.any_append, HT.out]
            simp [ctlB, isB, h9]
          go_wp2
          go_round
          case rel => exact ⟨k + 1, by omega, by go_num, HN⟩
          case measure => simp [intOf]; omega
      · have HN : Hid (((B s).take (k + 1)).any ctlB = false) := by
          show _ = _
          rw [HT1.out, List.any_append, HT.out]
          simp [ctlB]; omega
        go_wp2
        go_round
        case rel => exact ⟨k + 1, by omega, by go_num, HN⟩
        case measure => simp [intOf]; omega
    · obtain rfl : k = s.size := by omega
      have HS : Hid (splitL (B s) = splitF (s.size + 1) (B s)) := by
        show _ = _
        have := HT.out
        rw [take_all_B] at this
        rw [splitL, this, len_B]; rfl
      clear HT
      go_wp2
      go_loopw [4, 6] (fun v x wr => ∃ (p : Nat) (ws : List ByteArray), p ≤ s.size ∧ x = .int .i64 p ∧ ws.length ≤ p ∧ wr.ownsRow w.heap.size 9 1 v ws.length (ws.map Value.string) ∧ Below w.heap.size w wr ∧
          Hid (splitF (s.size + 1) (B s) = (splitF (s.size - p + 1) ((B s).drop p)).map (ws.map B ++ ·))) (fun _ x _ => s.size - (intOf x).toNat)
      case atStart => exact ⟨0, [], Nat.zero_le _, rfl, Nat.zero_le _, World.ownsRow_nil _ _ _ _, Below.refl _ _, by show _ = _; simp⟩
      case round =>
        obtain ⟨p, ws, hp, rfl, hwl, hown, hb, HF⟩ := hrel
        go_wp2
        go_loop [6] (fun x => ∃ q : Nat, p ≤ q ∧ q ≤ s.size ∧ x = .int .i64 q ∧ Hid (((B s).drop q).dropWhile blankB = ((B s).drop p).dropWhile blankB)) (fun x => s.size - (intOf x).toNat)
        case atStart => exact ⟨p, Nat.le_refl _, hp, rfl, rfl⟩
        case round =>
          obtain ⟨q, hpq, hqs, rfl, HD⟩ := hrel
          by_cases hlt : q < s.size
          · have hdq := drop_B s q hlt
            have HDQ := Lib.hid hdq
            clear hdq
            cases h32 : ((s[q].toNat : Int) == 32)
            · cases h9 : ((s[q].toNat : Int) == 9)
              · have hnb : blankB s[q] = false := by simp [blankB, isB, h32, h9]
                have HNB := Lib.hid hnb
                clear hnb
                have hdw : ((B s).drop p).dropWhile blankB = s[q] :: (B s).drop (q + 1) := by
                  rw [← HD.out, HDQ.out, List.dropWhile_cons_of_neg (by rw [HNB.out]; decide)]
                have HDW := Lib.hid hdw
                clear hdw HD
                cases h35 : ((s[q].toNat : Int) == 35)
                · go_wp2
                  go_loop [6, 8] (fun x y => ∃ (r : Nat) (i : Bool), q ≤ r ∧ r ≤ s.size + 1 ∧ x = .int .i64 r ∧ y = .bool i ∧ Hid (InW ((B s).drop q) (B s) q r i)) (fun x _ => s.size + 1 - (intOf x).toNat)
                  case atStart => exact ⟨q, false, Nat.le_refl _, by omega, rfl, rfl, InW.start (by rw [len_B]; omega)⟩
                  case round =>
                    obtain ⟨r, i, hqr, hrs, rfl, rfl, HI⟩ := hrel
                    by_cases hrl : r < s.size
                    · have hrl' : r < (B s).length := by rw [len_B]; exact hrl
                      cases i
                      · cases h32 : ((s[r].toNat : Int) == 32)
                        · have h32' : ((s[r].toNat : Int) != 32) = true := by rw [bne, h32]; rfl
                          cases h9 : ((s[r].toNat : Int) == 9)
                          · have h9' : ((s[r].toNat : Int) != 9) = true := by rw [bne, h9]; rfl
                            have hnb : blankB s[r] = false := by simp [blankB, isB, h32, h9]
                            cases h34 : ((s[r].toNat : Int) == 34)
                            · have HN := Lib.hid (HI.out.plain hrl' hqr rfl h34 (.inr hnb))
                              clear hnb
                              go_wp2
                              go_round
                              case rel => exact ⟨r + 1, false, by omega, by omega, by go_num, rfl, HN.out⟩
                              case measure => simp [intOf]; omega
                            · have HN := Lib.hid (HI.out.quote hrl' hqr rfl h34)
                              clear hnb
                              go_wp2
                              go_round
                              case rel => exact ⟨r + 1, true, by omega, by omega, by go_num, rfl, HN.out⟩
                              case measure => simp [intOf]; omega
                          · have h9' : ((s[r].toNat : Int) != 9) = false := by rw [bne, h9]; rfl
                            have hG := HI.out.good (fun _ => by show blankB s[r] = true; simp [blankB, isB, h9])
                            obtain ⟨hg1, hg2, hg3⟩ := hG
                            have HW := Lib.hid (word_step HF.out HDW.out (HDQ.out) (by simpa [isB] using h35) hg2 hg3 hpq hqr (by rw [← len_B]; exact hg1))
                            clear hg1 hg2 hg3
                            go_wp2_with (first
                              | (at_builtin; refine wpList_append_own _ rfl _ _ 27 rfl w.heap.size 9 i0 (.string ⟨#[]⟩) 1 16 Tryd.underlying27 hi hz0 hz1 hz2 rfl (by decide) _ _ _ rfl (hown.alloc _) ⟨wr.heap.size, 0, none⟩ 1 1 [.string (s.extract q r)] rfl rfl (cell_one_new _ _ _) (by simp [Value.oneCell']) (by unfold maxLen; omega) (by omega) (by have := hb.size; simp; omega) ?_; intro v' w4 hown4 hg4 _)
                              | fail)
                            have R : w4.ownsRow w.heap.size 9 1 v' (ws ++ [s.extract q r]).length ((ws ++ [s.extract q r]).map Value.string) ∧ Below w.heap.size w w4 :=
                              ⟨by rw [List.length_append, List.map_append]; exact hown4, (hb.alloc hb.size _).grown hg4 (by have := hb.size; simp; omega) (fun m hm => (hown.lt m hm).1)⟩
                            clear hown4 hg4 hown
                            go_wp2
                            go_roundw
                            case rel => exact ⟨r, _, by omega, rfl, by have := HW.out.2; rw [List.length_append, List.length_singleton]; omega, R.1, R.2, HW.out.1⟩
                            case measure => have := HW.out.2; simp [intOf]; omega
                        · have h32' : ((s[r].toNat : Int) != 32) = false := by rw [bne, h32]; rfl
                          have hG := HI.out.good (fun _ => by show blankB s[r] = true; simp [blankB, isB, h32])
                          obtain ⟨hg1, hg2, hg3⟩ := hG
                          have HW := Lib.hid (word_step HF.out HDW.out (HDQ.out) (by simpa [isB] using h35) hg2 hg3 hpq hqr (by rw [← len_B]; exact hg1))
                          clear hg1 hg2 hg3
                          go_wp2_with (first
                            | (at_builtin; refine wpList_append_own _ rfl _ _ 27 rfl w.heap.size 9 i0 (.string ⟨#[]⟩) 1 16 Tryd.underlying27 hi hz0 hz1 hz2 rfl (by decide) _ _ _ rfl (hown.alloc _) ⟨wr.heap.size, 0, none⟩ 1 1 [.string (s.extract q r)] rfl rfl (cell_one_new _ _ _) (by simp [Value.oneCell']) (by unfold maxLen; omega) (by omega) (by have := hb.size; simp; omega) ?_; intro v' w4 hown4 hg4 _)
                            | fail)
                          have R : w4.ownsRow w.heap.size 9 1 v' (ws ++ [s.extract q r]).length ((ws ++ [s.extract q r]).map Value.string) ∧ Below w.heap.size w w4 :=
                            ⟨by rw [List.length_append, List.map_append]; exact hown4, (hb.alloc hb.size _).grown hg4 (by have := hb.size; simp; omega) (fun m hm => (hown.lt m hm).1)⟩
                          clear hown4 hg4 hown
                          go_wp2
                          go_roundw
                          case rel => exact ⟨r, _, by omega, rfl, by have := HW.out.2; rw [List.length_append, List.length_singleton]; omega, R.1, R.2, HW.out.1⟩
                          case measure => have := HW.out.2; simp [intOf]; omega
                      · cases h92 : ((s[r].toNat : Int) == 92)
                        · cases h34 : ((s[r].toNat : Int) == 34)
                          · have HN := Lib.hid (HI.out.plain hrl' hqr h92 h34 (.inl rfl))
                            go_wp2
                            go_round
                            case rel => exact ⟨r + 1, true, by omega, by omega, by go_num, rfl, HN.out⟩
                            case measure => simp [intOf]; omega
                          · have HN := Lib.hid (HI.out.quote hrl' hqr h92 h34)
                            go_wp2
                            go_round
                            case rel => exact ⟨r + 1, false, by omega, by omega, by go_num, rfl, HN.out⟩
                            case measure => simp [intOf]; omega
                        · have HN := Lib.hid (HI.out.skip hrl' hqr h92)
                          go_wp2
                          go_round
                          case rel => exact ⟨r + 2, true, by omega, by omega, by go_num, rfl, HN.out⟩
                          case measure => simp [intOf]; omega
                    · cases i
                      · have hG := HI.out.good (fun h => absurd h (by rw [len_B]; omega))
                        obtain ⟨hg1, hg2, hg3⟩ := hG
                        have HW := Lib.hid (word_step HF.out HDW.out (HDQ.out) (by simpa [isB] using h35) hg2 hg3 hpq hqr (by rw [← len_B]; exact hg1))
                        rw [len_B] at hg1
                        obtain rfl : r = s.size := by omega
                        clear hg1 hg2 hg3
                        go_wp2_with (first
                          | (at_builtin; refine wpList_append_own _ rfl _ _ 27 rfl w.heap.size 9 i0 (.string ⟨#[]⟩) 1 16 Tryd.underlying27 hi hz0 hz1 hz2 rfl (by decide) _ _ _ rfl (hown.alloc _) ⟨wr.heap.size, 0, none⟩ 1 1 [.string (s.extract q s.size)] rfl rfl (cell_one_new _ _ _) (by simp [Value.oneCell']) (by unfold maxLen; omega) (by omega) (by have := hb.size; simp; omega) ?_; intro v' w4 hown4 hg4 _)
                          | fail)
                        have R : w4.ownsRow w.heap.size 9 1 v' (ws ++ [s.extract q s.size]).length ((ws ++ [s.extract q s.size]).map Value.string) ∧ Below w.heap.size w w4 :=
                          ⟨by rw [List.length_append, List.map_append]; exact hown4, (hb.alloc hb.size _).grown hg4 (by have := hb.size; simp; omega) (fun m hm => (hown.lt m hm).1)⟩
                        clear hown4 hg4 hown
                        go_wp2
                        go_roundw
                        case rel => exact ⟨s.size, _, by omega, rfl, by have := HW.out.2; rw [List.length_append, List.length_singleton]; omega, R.1, R.2, HW.out.1⟩
                        case measure => have := HW.out.2; simp [intOf]; omega
                      · have hbad := HI.out.bad (by rw [len_B]; omega)
                        have HR : Hid (splitL (B s) = none) := by
                          show _ = _
                          have hdq := HDQ.out
                          rw [HS.out, HF.out, splitF_bad HDW.out (by simpa [isB] using h35) (by rw [← hdq, endR, if_pos hbad]; decide)]
                          rfl
                        clear hbad
                        go_wp2
                        go_ret2
                        exact .inr ⟨rfl, HR.out, hb⟩
                · have HR : Hid (splitL (B s) = some (ws.map B)) := by
                    show _ = _
                    rw [HS.out, HF.out, splitF_hash HDW.out (by simpa [isB] using h35)]
                    simp
                  go_wp2
                  go_ret2
                  exact .inl ⟨_, ws, rfl, HR.out, hown, hb⟩
              · have HN : Hid (((B s).drop (q + 1)).dropWhile blankB = ((B s).drop p).dropWhile blankB) := by
                  show _ = _
                  rw [← HD.out, HDQ.out, List.dropWhile_cons_of_pos (by simp [blankB, isB, h9])]
                go_wp2
                go_round
                case rel => exact ⟨q + 1, by omega, by omega, by go_num, HN⟩
                case measure => simp [intOf]; omega
            · have HN : Hid (((B s).drop (q + 1)).dropWhile blankB = ((B s).drop p).dropWhile blankB) := by
                show _ = _
                rw [← HD.out, HDQ.out, List.dropWhile_cons_of_pos (by simp [blankB, isB, h32])]
              go_wp2
              go_round
              case rel => exact ⟨q + 1, by omega, by omega, by go_num, HN⟩
              case measure => simp [intOf]; omega
          · obtain rfl : q = s.size := by omega
            have HR : Hid (splitL (B s) = some (ws.map B)) := by
              show _ = _
              rw [HS.out, HF.out, splitF_nil (by rw [← HD.out, drop_all_B]; rfl)]
              simp
            go_wp2
            go_ret2
            exact .inl ⟨_, ws, rfl, HR.out, hown, hb⟩
end Go.Proofs.YtpoaoicehoihdaaDoor.refSplit
