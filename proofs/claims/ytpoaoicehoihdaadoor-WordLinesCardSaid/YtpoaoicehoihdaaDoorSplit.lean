/- word.Split: a contract. -/
import Derived.Test.YtpoaoicehoihdaaDoorSplitLaw
import Derived.Test.YtpoaoicehoihdaaDoorRunes
import Derived.Test.YtpoaoicehoihdaaDoorShelf
import Derived.Shelf.Strings.SlTrimAscii
namespace Go.Proofs.YtpoaoicehoihdaaDoor
open Go.RowKit

def ctlN (x : Nat) : Bool := decide ((x : Int) < 32) && !((x : Int) == 9)

set_option maxHeartbeats 400000 in
theorem odd_any (x : Nat) (hx : x ≤ 1114111) (w : World) :
    Calls Tryd.prog 26 #[.int .i32 x] w fun e w' => e = .returned (.bool (ctlN x)) ∧ ∃ q, w' = w.drewN q := by
  have H : Hid (ctlN x = (decide ((x : Int) < 32) && !((x : Int) == 9))) := rfl
  by_cases h1 : (x : Int) < 32
  · cases h2 : ((x : Int) == 9)
    all_goals
      have h2' : ((x : Int) != 9) = !((x : Int) == 9) := rfl
      rw [h2] at h2'
      go_enter Tryd.func26, Tryd.ntmps26
      go_wp2
      go_ret
      exact ⟨by rw [H.out, h2, decide_eq_true h1]; rfl, 0, rfl⟩
  · go_enter Tryd.func26, Tryd.ntmps26
    go_wp2
    go_ret
    exact ⟨by rw [H.out, decide_eq_false (by omega)]; rfl, 0, rfl⟩

theorem odd_pays (w : World) : PredAtRunes Tryd.prog 26 #[] ctlN w := fun W x hx _ => odd_any x hx W
theorem ctl_any (s : ByteArray) (w : World) :
    Calls Tryd.prog 27 #[.string s, .func (.func 26) #[] #[]] w fun e w' => e = .returned (.bool ((B s).any ctlB)) ∧ Below w.heap.size w w' := by
  have h := Tryd.strings_ContainsFunc_runes 26 #[] (enters_of Tryd.func26 (by kernel_rfl) rfl) ctlN s w (odd_pays w)
  rw [idxFunc_bytes ctlN false (fun x hx => by simp [ctlN]; omega) s] at h
  exact h
theorem trim_blank (s : ByteArray) (w : World) :
    Calls Tryd.prog 28 #[.string s, .string ⟨#[32, 9]⟩] w fun e w' => ∃ t : ByteArray, e = .returned (.string t) ∧ B t = (B s).dropWhile blankB ∧ Below w.heap.size w w' := by
  refine (Any.strings_TrimLeft_laid Tryd.lays161 (by kernel_rfl) s ⟨#[32, 9]⟩ w (by decide) (ascii_of_all (by decide))).mono ?_
  rintro e w' ⟨rfl, hb⟩
  refine ⟨_, rfl, ?_, hb⟩
  have : (fun c : UInt8 => ([32, 9] : List UInt8).contains c) = blankB := by
    funext c
    have h1 := isB_eq c 32
    have h2 := isB_eq c 9
    simp only [List.contains_cons, List.contains_nil, Bool.or_false]
    rw [← h1, ← h2]
    rfl
  rw [← this]
  rfl

/-- how long a string in a slot is -/
def strLen : Value → Nat | .string s => s.size | _ => 0

theorem info9 : (Tryd.prog.info? 9).map (fun i => (i.zero, i.size, i.bytes)) = some (some (.string ⟨#[]⟩), 1, 16) := by kernel_rfl

/-- the words that v holds -/
def WordsAt (w : World) (base : Nat) (v : Value) (ws : List ByteArray) : Prop := w.ownsRow base 9 1 v ws.length (ws.map Value.string)

set_option maxHeartbeats 400000 in
theorem split_no (s : ByteArray) (w : World) (h : (B s).any ctlB = true) :
    Calls Tryd.prog 12 #[.string s] w fun e w' => e = .returned (.tuple #[.slice none 0 0, .int .i64 2]) ∧ Below w.heap.size w w' := by
  have hc := ctl_any s
  rw [h] at hc
  clear h
  go_enter Tryd.func12, Tryd.ntmps12
  go_wp2_with (go_at_call 27; refine (hc _).mono ?_; rintro e w' ⟨rfl, hb⟩)
  go_ret2
  exact ⟨rfl, hb⟩

set_option maxHeartbeats 800000 in
theorem split_any (s : ByteArray) (w : World) (hs : s.size ≤ 1073741824) (h : (B s).any ctlB = false) :
    Calls Tryd.prog 12 #[.string s] w fun e w' => (∃ v ws, e = .returned (.tuple #[v, .int .i64 0]) ∧ splitL (B s) = some (ws.map B) ∧ WordsAt w' w.heap.size v ws ∧ Below w.heap.size w w') ∨
      (e = .returned (.tuple #[.slice none 0 0, .int .i64 2]) ∧ splitL (B s) = none ∧ Below w.heap.size w w') := by
  have hc := ctl_any s
  rw [h] at hc
  have HS : Hid (splitL (B s) = splitF ((B s).length + 1) (B s)) := by unfold splitL; rw [h]; rfl
  clear h
  go_enter Tryd.func12, Tryd.ntmps12
  go_wp2_with (go_at_call 27; refine (hc _).mono ?_; rintro e w1 ⟨rfl, hb⟩)
  clear hc
  obtain ⟨i0, hi, hz0, hz1, hz2⟩ := info_parts info9
  go_loopw [0, 5] (fun ln v wr => ∃ (r : ByteArray) (ws : List ByteArray), ln = .string r ∧ ws.length + r.size ≤ s.size ∧ WordsAt wr w.heap.size v ws ∧ Below w.heap.size w wr ∧ Hid (splitF ((B s).length + 1) (B s) = (splitF (r.size + 1) (B r)).map (ws.map B ++ ·))) (fun ln _ _ => strLen ln)
  case atStart => 
    refine ⟨s, [], rfl, by simp, World.ownsRow_nil _ _ _ _, hb, ?_⟩
    show _ = _
    rw [len_B]; simp
  case round =>
    obtain ⟨r, ws, rfl, hlen, hown, hbr, HL⟩ := hrel
    clear hb
    go_wp2_with fail
    refine (trim_blank _ _).mono ?_
    rintro e w2 ⟨t, rfl, ht, hb2⟩
    have hbw := hbr.trans (hb2.mono hbr.size)
    have hle : t.size ≤ r.size := by rw [← len_B, ← len_B, ht]; exact dropWhile_len _
    have hown2 : WordsAt w2 w.heap.size u5 ws := own_later hown hb2
    clear hown hbr hb2
    by_cases h0 : t.toList = []
    · have HR : Hid (splitL (B s) = some (ws.map B)) := by
        show _ = _
        rw [HS.out, len_B, ← len_B, HL.out, splitF_nil (by rw [← ht, ← toList_B, h0])]
        simp
      go_wp2
      go_ret2
      exact .inl ⟨u5, ws, rfl, HR.out, hown2, hbw⟩
    have h0' : t.toList.isEmpty = false := by simpa using h0
    have hpos : 0 < t.size := by rw [← len_B, ← toList_B]; exact List.length_pos_iff.2 h0
    have hcons : B t = t[0] :: (B t).drop 1 := by
      have := drop_B t 0 hpos
      simpa using this
    have ht' := ht.symm
    rw [hcons] at ht'
    have HT := Lib.hid ht'
    have HC := Lib.hid hcons
    clear ht ht' hcons h0
    by_cases h35 : isB t[0] 35 = true
    · have HR : Hid (splitL (B s) = some (ws.map B)) := by
        show _ = _
        rw [HS.out, HL.out, splitF_hash HT.out h35]
        simp
      go_wp2
      go_ret2
      exact .inl ⟨u5, ws, rfl, HR.out, hown2, hbw⟩
    · have h35' : ((t[0].toNat : Int) == 35) = false := by simpa using h35
      clear h35
      have hend := end_any t w2 (by unfold maxLen; omega)
      by_cases hneg : endR (B t) < 0
      · have HR : Hid (splitL (B s) = none) := by
          show _ = _
          have := HC.out
          rw [HS.out, HL.out, splitF_bad HT.out h35' (by rw [← HC.out]; exact hneg)]
          rfl
        generalize endR (B t) = n at *
        go_wp2_with (go_at_call 29; refine hend.mono ?_; rintro e w3 ⟨rfl, hb3⟩)
        go_ret2
        exact .inr ⟨rfl, HR.out, hbw.trans (hb3.mono (by have := hbw.size; omega))⟩
      · obtain ⟨hw1, hw2, hw3⟩ := splitF_word (f := r.size) HT.out h35' (by rw [← HC.out]; omega)
        rw [← HC.out] at hw1 hw2 hw3
        obtain ⟨n, hn⟩ : ∃ n : Nat, endR (B t) = (n : Int) := ⟨(endR (B t)).toNat, by omega⟩
        rw [hn] at hend hw1 hw2 hw3
        rw [Int.toNat_natCast] at hw1 hw2 hw3
        rw [len_B] at hw3
        have HW := Lib.hid hw1
        clear hw1 hn hneg
        go_wp2_with (first
          | (go_at_call 29; refine hend.mono ?_; rintro e w3 ⟨rfl, hb3⟩; have hown3 : w3.ownsRow w.heap.size 9 1 u5 ws.length (ws.map Value.string) := own_later hown2 hb3; have hb13 : Below w.heap.size w w3 := hbw.trans (hb3.mono hbw.size))
          | (at_builtin; refine wpList_append_own _ rfl _ _ 27 rfl w.heap.size 9 i0 (.string ⟨#[]⟩) 1 16 Tryd.underlying27 hi hz0 hz1 hz2 rfl (by decide) _ _ _ rfl (hown3.alloc _) ⟨w3.heap.size, 0, none⟩ 1 1 [.string (t.extract 0 n)] rfl rfl ?c1 ?c2 ?c3 ?c4 ?c5 ?_)
          | fail)
        case c1 =>
          intro j u hj
          match j, hj with
          | 0, hj => simp at hj; subst hj; simp [Addr.add]
        case c2 => intro u hu; simp at hu; subst hu; rfl
        case c3 => unfold maxLen; omega
        case c4 => omega
        case c5 => have := hb13.size; simp; omega
        intro v' w4 hown4 hgrow _
        have R : WordsAt w4 w.heap.size v' (ws ++ [t.extract 0 n]) ∧ Below w.heap.size w w4 := by
          refine ⟨?_, (hb13.alloc hb13.size _).grown hgrow (by have := hb13.size; simp; omega) (fun k hk => (hown3.lt k hk).1)⟩
          have := hown4
          simp only [WordsAt, List.length_append, List.map_append, List.length_singleton, List.map_cons, List.map_nil]
          exact this
        clear hown4 hgrow hown3 hown2 hb13 hbw
        go_wp2
        go_roundw
        case rel => 
          refine ⟨_, _, rfl, ?_, R.1, R.2, ?_⟩
          · rw [ByteArray.size_extract, List.length_append, List.length_singleton]; omega
          · show _ = _
            have e1 : B (t.extract 0 n) = (B t).take n := by rw [B, Lib.extract_data]; simp [B]
            have e2 : B (t.extract n t.size) = (B t).drop n := Lib.extract_to_end t n
            have e3 : (t.extract n t.size).size = t.size - n := by rw [ByteArray.size_extract]; omega
            rw [HL.out, HW.out, e2, e3, splitF_more r.size (t.size - n + 1) _ (by rw [List.length_drop, len_B]; omega) (by rw [List.length_drop, len_B]; omega), List.map_append, List.map_singleton, e1, Option.map_map]
            simp
            rfl
        case measure => simp [strLen, ByteArray.size_extract]; omega

/-- what word.Split leaves -/
def SplitPost (s : ByteArray) (w : World) (e : Ending) (w' : World) : Prop :=
  (∃ v ws, e = .returned (.tuple #[v, .int .i64 0]) ∧ splitL (B s) = some (ws.map B) ∧ WordsAt w' w.heap.size v ws ∧ Below w.heap.size w w') ∨
      (e = .returned (.tuple #[.slice none 0 0, .int .i64 2]) ∧ splitL (B s) = none ∧ Below w.heap.size w w')
theorem split_calls (s : ByteArray) (w : World) (hs : s.size ≤ 1073741824) : Calls Tryd.prog 12 #[.string s] w (SplitPost s w) := by
  cases h : (B s).any ctlB
  · exact split_any s w hs h
  · exact (split_no s w h).mono fun e w' ⟨h1, h2⟩ => .inr ⟨h1, by simp [splitL, h], h2⟩
theorem split_some (s : ByteArray) (w : World) (hs : s.size ≤ 1073741824) {l : List (List UInt8)} (h : splitL (B s) = some l) :
    Calls Tryd.prog 12 #[.string s] w fun e w' => ∃ v ws, e = .returned (.tuple #[v, .int .i64 0]) ∧ ws.map B = l ∧ WordsAt w' w.heap.size v ws ∧ Below w.heap.size w w' := by
  refine (split_calls s w hs).mono ?_
  rintro e w' (⟨v, ws, h1, h2, h3, h4⟩ | ⟨_, h2, _⟩)
  · exact ⟨v, ws, h1, by rw [h] at h2; exact (Option.some.inj h2).symm, h3, h4⟩
  · rw [h] at h2; cases h2
theorem split_none (s : ByteArray) (w : World) (hs : s.size ≤ 1073741824) (h : splitL (B s) = none) :
    Calls Tryd.prog 12 #[.string s] w fun e w' => e = .returned (.tuple #[.slice none 0 0, .int .i64 2]) ∧ Below w.heap.size w w' := by
  refine (split_calls s w hs).mono ?_
  rintro e w' (⟨v, ws, h1, h2, h3, h4⟩ | ⟨h1, h2, h3⟩)
  · rw [h] at h2; cases h2
  · exact ⟨h1, h3⟩
end Go.Proofs.YtpoaoicehoihdaaDoor
