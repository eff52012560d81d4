/- alert.Right and alert.Fires: contracts. -/
import Derived.Test.YtipnhpfpppblhaaGreatBox2
import Derived.Test.YtipnhpfpppblhaaGreatLabelB
import Derived.Test.YtipnhpfpppblhaaGreatFields
import Derived.Deep.DeepCutAuto
namespace Go.Proofs.YtipnhpfpppblhaaGreat
open Go.RowKit

/-- an alert, said plainly -/
structure Al where
  src : ByteArray
  fl : List Fld
  lv : Int
  c : Nat
  fr : Int
  til : Int
/-- when an alert begins -/
def beginsA (f : Int) : Bool := decide (0 ≤ f) && decide (f ≤ 1099511627776)
/-- and when it ends -/
def endsA (f t : Int) : Bool := decide (t = 0) || (decide (f < t) && decide (t ≤ 1099511627776))
def whoA (src : ByteArray) (fl : List Fld) (lv : Int) : Bool := nameL (B src) && decide (0 < fl.length) && rightF fl && rightL lv
/-- an alert may be -/
def rightA (x : Al) : Bool := whoA x.src x.fl x.lv && beginsA x.fr && endsA x.fr x.til
/-- an alert fires -/
def firesA (x : Al) (now : Int) : Bool := decide (x.fr ≤ now) && (decide (x.til = 0) || decide (now < x.til))
/-- an alert as a value, its fields at v -/
abbrev AlV (x : Al) (v : Value) : Value := .agg #[.string x.src, v, .int .i64 x.lv, .int .u32 x.c, .int .i64 x.fr, .int .i64 x.til]

set_option maxHeartbeats 3200000 in
set_option maxRecDepth 100000 in
theorem aright_any (src : ByteArray) (fl : List Fld) (lv : Int) (c : Nat) (fr til : Int) (v : Value) (w : World) (hs : src.size ≤ maxLen) (hv : FldsAt w v fl) (hfit : FldsFit fl) (hl : fl.length ≤ maxLen) :
    Calls Tryz.prog 26 #[.agg #[.string src, v, .int .i64 lv, .int .u32 c, .int .i64 fr, .int .i64 til]] w fun e w' => e = .returned (.bool (whoA src fl lv && beginsA fr && endsA fr til)) ∧ Below w.heap.size w w' := by
  have k1 := fun W => name_any src W hs
  have k2 := fun W (hb : Below w.heap.size w W) => rightf_any fl W v (hv.later hb) hfit hl
  have k3 := right_any lv c
  obtain ⟨fa, fc, rfl, hfc, _⟩ := RdAt.shape hv
  have K2 := Lib.hid k2
  have hl63 : fl.length ≤ 9223372036854775807 := by unfold maxLen at hl; omega
  clear hv hfit k2
  go_enter Tryz.func26, Tryz.ntmps26
  go_upto_region 1 with fail
  go_cut [3] (fun s3 wx => s3 = .bool (whoA src fl lv) ∧ C6 w.heap.size (.string src) (.slice fa fl.length fc) (.int .i64 lv) (.int .u32 c) (.int .i64 fr) (.int .i64 til) wx ∧ w.heap.size < wx.heap.size ∧ Below w.heap.size w wx)
  case first =>
    cases hn : nameL (B src)
    · have HW : Hid (whoA src fl lv = false) := by show _ = _; unfold whoA; rw [hn]; rfl
      rw [hn] at k1
      clear hn
      go_wp2_with fail
      refine (k1 _).mono ?_
      rintro e w1 ⟨rfl, hb1⟩
      obtain ⟨X, hlt, hB1⟩ := box6 hb1
      go_wp2
      go_meet
      exact ⟨by rw [HW.out], X, hlt, hB1⟩
    rw [hn] at k1
    by_cases h0 : 0 < fl.length
    · have h0' : (0 : Int) < (fl.length : Int) := by omega
      cases hr : rightF fl
      · have HW : Hid (whoA src fl lv = false) := by show _ = _; unfold whoA; rw [hr, Bool.and_false]; rfl
        rw [hr] at K2
        clear hn hr
        go_wp2_with fail
        refine (k1 _).mono ?_
        rintro e w1 ⟨rfl, hb1⟩
        obtain ⟨X, hlt, hB1⟩ := box6 hb1
        have X1 : Hid (C6 w.heap.size _ _ _ _ _ _ w1) := Lib.hid X
        obtain ⟨x0, x1, x2, x3, x4, x5⟩ := X
        clear hb1 k1
        have k2 := K2.out w1 hB1
        clear K2
        go_wp2_with fail
        refine k2.mono ?_
        rintro e w2 ⟨rfl, hb2⟩
        have X2 := X1.out.later hb2 hlt
        have hB2 := hB1.trans (hb2.mono hB1.size)
        have hlt2 := Nat.lt_of_lt_of_le hlt hb2.size
        clear x0 x1 x2 x3 x4 x5 X1 k2 hb2 hB1 hlt
        go_wp2
        go_meet
        exact ⟨by rw [HW.out], X2, hlt2, hB2⟩
      · have HW : Hid (whoA src fl lv = rightL lv) := by show _ = _; unfold whoA; rw [hn, hr, decide_eq_true h0]; rfl
        rw [hr] at K2
        clear hn hr
        go_wp2_with fail
        refine (k1 _).mono ?_
        rintro e w1 ⟨rfl, hb1⟩
        obtain ⟨X, hlt, hB1⟩ := box6 hb1
        have X1 : Hid (C6 w.heap.size _ _ _ _ _ _ w1) := Lib.hid X
        obtain ⟨x0, x1, x2, x3, x4, x5⟩ := X
        clear hb1 k1
        have k2 := K2.out w1 hB1
        clear K2
        go_wp2_with fail
        refine k2.mono ?_
        rintro e w2 ⟨rfl, hb2⟩
        have X := X1.out.later hb2 hlt
        have X2 := Lib.hid X
        have hB2 := hB1.trans (hb2.mono hB1.size)
        have hlt2 := Nat.lt_of_lt_of_le hlt hb2.size
        clear x0 x1 x2 x3 x4 x5 X1 k2 hb2 hB1 hlt
        obtain ⟨x0, x1, x2, x3, x4, x5⟩ := X
        go_wp2_with fail
        refine (k3 _).mono ?_
        rintro e w3 ⟨rfl, hb3⟩
        have X3 := X2.out.later hb3 hlt2
        have hB3 := hB2.trans (hb3.mono hB2.size)
        have hlt3 := Nat.lt_of_lt_of_le hlt2 hb3.size
        clear x0 x1 x2 x3 x4 x5 X2 k3 hb3 hB2 hlt2
        go_wp2
        go_meet
        exact ⟨by rw [HW.out], X3, hlt3, hB3⟩
    · have HW : Hid (whoA src fl lv = false) := by show _ = _; unfold whoA; rw [decide_eq_false h0, Bool.and_false]; rfl
      have hnil : fl = [] := List.length_eq_zero_iff.1 (by omega)
      subst hnil
      clear hn h0
      go_wp2_with fail
      refine (k1 _).mono ?_
      rintro e w1 ⟨rfl, hb1⟩
      obtain ⟨X, hlt, hB1⟩ := box6 hb1
      have X1 : Hid (C6 w.heap.size _ _ _ _ _ _ w1) := Lib.hid X
      obtain ⟨x0, x1, x2, x3, x4, x5⟩ := X
      clear hb1 k1
      go_wp2
      go_meet
      exact ⟨by rw [HW.out], X1.out, hlt, hB1⟩
  case rest =>
    obtain ⟨rfl, X, hlt, hB⟩ := hcut
    obtain ⟨who, hwho⟩ : ∃ z, whoA src fl lv = z := ⟨_, rfl⟩
    rw [hwho]
    have HWHO := Lib.hid hwho
    clear hwho
    clear k1 k3 K2
    have X1 : Hid (C6 w.heap.size _ _ _ _ _ _ wc) := Lib.hid X
    clear X
    go_upto_region 2 with fail
    go_cut [4] (fun s4 wx => s4 = .bool (beginsA fr) ∧ C6 w.heap.size (.string src) (.slice fa fl.length fc) (.int .i64 lv) (.int .u32 c) (.int .i64 fr) (.int .i64 til) wx ∧ w.heap.size < wx.heap.size ∧ Below w.heap.size w wx)
    case first =>
      obtain ⟨x0, x1, x2, x3, x4, x5⟩ := X1.out
      by_cases h1 : 0 ≤ fr
      · by_cases h2 : fr ≤ 1099511627776
        · go_wp2
          go_meet
          exact ⟨by unfold beginsA; rw [decide_eq_true h1, decide_eq_true h2]; rfl, X1.out, hlt, hB⟩
        · have HW : Hid (beginsA fr = false) := by show _ = _; unfold beginsA; rw [decide_eq_false h2, Bool.and_false]
          have h2' : (1099511627776 : Int) < fr := by omega
          clear h2
          go_wp2
          go_meet
          exact ⟨by rw [HW.out]; try (simp; omega), X1.out, hlt, hB⟩
      · have HW : Hid (beginsA fr = false) := by show _ = _; unfold beginsA; rw [decide_eq_false h1, Bool.false_and]
        have h1' : fr < 0 := by omega
        clear h1
        go_wp2
        go_meet
        exact ⟨by rw [HW.out]; try (simp; omega), X1.out, hlt, hB⟩
    case rest =>
      obtain ⟨rfl, X, hlt2, hB2⟩ := hcut
      obtain ⟨x0, x1, x2, x3, x4, x5⟩ := X
      clear X1 hlt hB
      cases who
      · go_wp2
        go_ret
        exact ⟨by rw [HWHO.out]; rfl, hB2⟩
      obtain ⟨bg, hbg⟩ : ∃ z, beginsA fr = z := ⟨_, rfl⟩
      rw [hbg]
      have HBG := Lib.hid hbg
      clear hbg
      cases bg
      · go_wp2
        go_ret
        exact ⟨by rw [HWHO.out, HBG.out]; rfl, hB2⟩
      by_cases h1 : til = 0
      · subst h1
        go_wp2
        go_ret
        exact ⟨by rw [HWHO.out, HBG.out]; rfl, hB2⟩
      · have hz : (til == 0) = false := by rw [beq_eq_false_iff_ne]; exact h1
        by_cases h2 : fr < til
        · by_cases h3 : til ≤ 1099511627776
          · have HW : Hid (endsA fr til = true) := by show _ = _; unfold endsA; rw [decide_eq_true h2, decide_eq_true h3]; simp
            go_wp2
            go_ret
            exact ⟨by rw [HWHO.out, HBG.out, HW.out]; first | rfl | (simp; omega), hB2⟩
          · have HW : Hid (endsA fr til = false) := by show _ = _; unfold endsA; rw [decide_eq_false h1, decide_eq_false h3]; simp
            have h3' : (1099511627776 : Int) < til := by omega
            clear h3
            go_wp2
            go_ret
            exact ⟨by rw [HWHO.out, HBG.out, HW.out]; first | rfl | (simp; omega), hB2⟩
        · have HW : Hid (endsA fr til = false) := by show _ = _; unfold endsA; rw [decide_eq_false h1, decide_eq_false h2]; simp
          have h2' : til ≤ fr := by omega
          clear h2
          go_wp2
          go_ret
          exact ⟨by rw [HWHO.out, HBG.out, HW.out]; first | rfl | (simp; omega), hB2⟩
set_option maxHeartbeats 800000 in
theorem fires_any (src : ByteArray) (a : Option Addr) (n m : Nat) (lv : Int) (c : Nat) (fr til now : Int) (w : World) :
    Calls Tryz.prog 22 #[.agg #[.string src, .slice a n m, .int .i64 lv, .int .u32 c, .int .i64 fr, .int .i64 til], .int .i64 now] w fun e w' => e = .returned (.bool (decide (fr ≤ now) && (decide (til = 0) || decide (now < til)))) ∧ Below w.heap.size w w' := by
  by_cases h1 : fr ≤ now
  · by_cases h2 : til = 0
    · subst h2
      go_enter Tryz.func22, Tryz.ntmps22
      go_wp2
      go_ret
      exact ⟨by first | rfl | (simp; omega), (Below.refl _ _).alloc (Nat.le_refl _) _⟩
    · have hz : (til == 0) = false := by rw [beq_eq_false_iff_ne]; exact h2
      have hz2 := h2
      clear h2
      by_cases h3 : now < til
      · go_enter Tryz.func22, Tryz.ntmps22
        go_wp2
        go_ret
        exact ⟨by first | rfl | (simp; omega) | (simp [*]), (Below.refl _ _).alloc (Nat.le_refl _) _⟩
      · have h3' : til ≤ now := by omega
        go_enter Tryz.func22, Tryz.ntmps22
        go_wp2
        go_ret
        exact ⟨by first | rfl | (simp; omega) | (simp [*]), (Below.refl _ _).alloc (Nat.le_refl _) _⟩
  · have h1' : now < fr := by omega
    go_enter Tryz.func22, Tryz.ntmps22
    go_wp2
    go_ret
    exact ⟨by first | rfl | (simp; omega) | (simp [*]), (Below.refl _ _).alloc (Nat.le_refl _) _⟩
end Go.Proofs.YtipnhpfpppblhaaGreat
