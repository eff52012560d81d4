/- PatternLeast: the walk. -/
import Derived.Test.YtlepnnbgecneeaaPatNil
import Derived.Test.YtlepnnbgecneeaaArgs
namespace Go.Proofs.Ytlepnnbgecneeaa
open Go.RowKit

theorem bless_irrefl : ∀ (a : List UInt8), Op.bytesLess a a = false
  | [] => rfl
  | x :: a => by simp [Op.bytesLess, bless_irrefl a]
theorem bless_lex : ∀ (p : List UInt8) (x y : UInt8) (r s : List UInt8), x.toNat < y.toNat → Op.bytesLess (p ++ y :: s) (p ++ x :: r) = false
  | [], x, y, r, s, h => by
    have h1 : ¬ y < x := by rw [UInt8.lt_iff_toNat_lt]; omega
    have h2 : ¬ y = x := fun e => by subst e; omega
    simp [Op.bytesLess, h1, h2]
  | q :: p, x, y, r, s, h => by
    rw [List.cons_append, List.cons_append]
    have := bless_lex p x y r s h
    simp [Op.bytesLess, this]
theorem lex_bytes {s t : ByteArray} (h : LexLe (bytesN s) (bytesN t)) : Op.bytesLess t.toList s.toList = false := by
  rw [toList_B, toList_B]
  rcases h with h | ⟨p, x, y, r, q, h1, h2, h3⟩
  · rw [bytesN_inj h]; exact bless_irrefl _
  · unfold bytesN at h1 h2
    obtain ⟨p1, r1, e1, f1, f2⟩ := List.map_eq_append_iff.1 h1
    obtain ⟨x1, r2, e2, f3, f4⟩ := List.map_eq_cons_iff.1 f2
    obtain ⟨p2, r3, e3, f5, f6⟩ := List.map_eq_append_iff.1 h2
    obtain ⟨y1, r4, e4, f7, f8⟩ := List.map_eq_cons_iff.1 f6
    have hp : p1 = p2 := mapNat_inj (f1.trans f5.symm)
    rw [e1, e2, e3, e4, hp]
    exact bless_lex p2 x1 y1 r2 r4 (by rw [f3, f7]; exact h3)
namespace lawLeast
set_option maxHeartbeats 6400000 in
set_option maxRecDepth 100000 in
theorem walk (p : ByteArray) (v : Value) (xs : List ByteArray) (w : World) (hp : p.size ≤ maxLen) (hA : ArgStrs w v xs) :
    Calls Try.prog 3 #[.string p, v] w fun e w' => e = .returned (.bool true) ∧ Below w.heap.size w w' := by
  unfold maxLen at hp
  obtain ⟨av, cv, rfl, hcv, hrv⟩ := RdAt.shape hA.1
  have hxl : xs.length ≤ 2 ^ 63 - 1 := hA.2.1
  have HX := Lib.hid hA.2.2
  have HRV := Lib.hid hrv
  have kl := lives_is w
  have HE : Hid (∀ W (s : ByteArray), s.size ≤ maxLen → Calls Try.prog 13 #[.string s] W fun e w' => e = .returned (.string (cutB s 60)) ∧ w' = W) := Lib.hid (fun W s h => early5_is s W h)
  have HR : Hid (∀ W (q : ByteArray), Calls Try.prog 10 #[.string q] W (ReadPost q W)) := Lib.hid (fun W q => read_is q W)
  have hm0 : (0 : Int) ≤ min (p.size : Int) 60 := by omega
  have hm1 : min (p.size : Int) 60 ≤ (p.size : Int) := by omega
  clear hA hrv
  go_enter Try.func3, Try.ntmps3
  go_wp2_with fail
  refine kl.mono ?_
  rintro e w1 ⟨rfl, hb1⟩
  have kr := HR.out w1 (p.extract 0 (min (p.size : Int) 60).toNat)
  clear kl
  go_wp2_with fail
  refine kr.mono ?_
  generalize p.extract 0 (min (p.size : Int) 60).toNat = q at *
  rintro e w2 ⟨hb2, ⟨hne, rfl⟩ | ⟨he, a, rfl, hpa, _⟩⟩
  · have B2 := hb1.trans (hb2.mono hb1.size)
    obtain ⟨E, hE⟩ : ∃ E, errM q = E := ⟨_, rfl⟩
    rw [hE] at hne ⊢
    have hbe : (E != 0) = true := by simpa using hne
    clear kr hb1 hb2 hne hE
    go_wp2
    go_ret
    exact ⟨rfl, B2⟩
  · have B2 := Lib.hid (hb1.trans (hb2.mono hb1.size))
    have HP := Lib.hid hpa
    have HQ := Lib.hid he
    have kL := rleast_is w2 a q he hpa
    clear kr hb1 hb2 hpa he
    go_wp2_with fail
    refine kL.mono ?_
    rintro e w3 ⟨ok, t, rfl, hb3, ht3, hL⟩
    have HL := Lib.hid hL
    have B3 := Lib.hid (B2.out.trans (hb3.mono B2.out.size))
    have HP3 := Lib.hid (HP.out.below hb3)
    have hts : t.size ≤ maxLen := by unfold maxLen; omega
    have kF := rfits_is w3 a q t HQ.out HP3.out hts
    clear kL hb3 hL HP B2
    go_wp2_with fail
    refine kF.mono ?_
    rintro e w4 ⟨b, rfl, hbiff, hb4⟩
    have B4 := Lib.hid (B3.out.trans (hb4.mono B3.out.size))
    have HP4 := Lib.hid (HP3.out.below hb4)
    have HBI := Lib.hid hbiff
    clear kF hb4 hbiff HP3 B3
    have hstart : ∃ b2 : Bool, (ok = true → b = true) ∧ (ok = false → t = ⟨#[]⟩) := ⟨true, fun h => HBI.out.2 (by
      rcases HL.out with ⟨_, h1⟩ | ⟨h1, _⟩
      · exact h1.1
      · rw [h] at h1; cases h1), fun h => by
      rcases HL.out with ⟨h1, _⟩ | ⟨_, h1, _⟩
      · rw [h] at h1; cases h1
      · exact h1⟩
    obtain ⟨_, hok1, hok2⟩ := hstart
    have hbad : ∀ (x : ByteArray) (bx : Bool), x.size ≤ 60 → (bx = true ↔ Rn (endR q).sts (runR q).2.1 (bytesN x) (runR q).2.2) → bx = true → ok = true ∧ t.size ≤ x.size ∧ (x.size = t.size → Op.bytesLess x.toList t.toList = false) := fun x bx hx hi hbx => by
      have hr := hi.1 hbx
      have hby : ∀ c ∈ bytesN x, c < 256 := fun c hc => bytesN_lt hc
      rcases HL.out with ⟨h1, _, h2⟩ | ⟨_, _, h2⟩
      · obtain ⟨h3, h4⟩ := h2 _ hby hr
        rw [bytesN_len, bytesN_len] at h3
        exact ⟨h1, h3, fun h => lex_bytes (h4 (by rw [bytesN_len, bytesN_len]; exact h))⟩
      · exact absurd hr (h2 _ hby (by rw [bytesN_len]; omega))
    have HBAD := Lib.hid hbad
    clear hbad
    cases ok with
    | true =>
      have hb := hok1 rfl
      subst hb
      clear hok1 hok2
      go_wp2_with fail
      go_loopw [9] (fun vi wr => ∃ k : Nat, k ≤ xs.length ∧ k ≤ 20 ∧ vi = .int .i64 k ∧ Hid (Below w.heap.size w wr) ∧ Hid (PatAt wr a q (endR q).sts (runR q).2.1 (runR q).2.2)) (fun vi _ => 20 - (intOf vi).toNat)
      case atStart => exact ⟨0, Nat.zero_le _, by omega, rfl, B4, HP4⟩
      case round =>
        clear B4 HP4
        obtain ⟨k, hk1, hk2, rfl, HB, HPW⟩ := hrel
        by_cases hkl : k < xs.length
        · by_cases hk20 : k < 20
          · obtain ⟨bb, o, rfl, hblt, hcell⟩ := HRV.out (by omega)
            obtain ⟨x, hxe⟩ : ∃ x, xs[k] = x := ⟨_, rfl⟩
            have hc := hcell k (.string x) (by rw [List.getElem?_map, List.getElem?_eq_getElem hkl, hxe]; rfl)
            have d1 := keep_cell hc HB.out hblt
            have kE := HE.out wr x (HX.out x (hxe ▸ List.getElem_mem hkl))
            have hts2 := cutB_size x 60
            clear hcell hc
            go_wp2_with fail
            refine kE.mono ?_
            rintro e w6 ⟨rfl, hww⟩
            obtain rfl := hww.symm
            clear kE
            change (cutB x 60).size ≤ 60 at hts2
            generalize cutB x 60 = tt at *
            have kx := rfits_is wr a q tt HQ.out HPW.out (by unfold maxLen; omega)
            go_wp2_with fail
            refine kx.mono ?_
            rintro e w7 ⟨bx, rfl, hbx, hb7⟩
            have HPW7 := Lib.hid (HPW.out.below hb7)
            have HB7 := Lib.hid (HB.out.trans (hb7.mono HB.out.size))
            have HBX := Lib.hid hbx
            clear kx hb7 hbx
            cases bx with
            | false =>
              go_wp2
              go_roundw
              case rel => exact ⟨k + 1, by omega, by omega, by go_num, HB7, HPW7⟩
              case measure => (simp [intOf]; try omega)
            | true =>
              obtain ⟨h0, h1, h2⟩ := HBAD.out tt true hts2 HBX.out rfl
              have hnl : ¬ (tt.size : Int) < (t.size : Int) := by omega
              by_cases heq : tt.size = t.size
              · have h3 := h2 heq
                go_wp2
                go_roundw
                case rel => exact ⟨k + 1, by omega, by omega, by go_num, HB7, HPW7⟩
                case measure => (simp [intOf]; try omega)
              · have hne : ((tt.size : Int) == (t.size : Int)) = false := by rw [beq_eq_false_iff_ne]; omega
                go_wp2
                go_roundw
                case rel => exact ⟨k + 1, by omega, by omega, by go_num, HB7, HPW7⟩
                case measure => (simp [intOf]; try omega)
          · go_wp2
            go_ret
            exact ⟨rfl, HB.out⟩
        · go_wp2
          go_ret
          exact ⟨rfl, HB.out⟩
    | false =>
      have ht := hok2 rfl
      subst ht
      have hbf : b = false := lb_false HBI.out (by
        rcases HL.out with ⟨h1, _⟩ | ⟨_, _, h2⟩
        · cases h1
        · exact h2 _ (fun c hc => by cases hc) (by simp [bytesN, B]))
      subst hbf
      clear hok1 hok2
      go_wp2_with fail
      go_loopw [9] (fun vi wr => ∃ k : Nat, k ≤ xs.length ∧ k ≤ 20 ∧ vi = .int .i64 k ∧ Hid (Below w.heap.size w wr) ∧ Hid (PatAt wr a q (endR q).sts (runR q).2.1 (runR q).2.2)) (fun vi _ => 20 - (intOf vi).toNat)
      case atStart => exact ⟨0, Nat.zero_le _, by omega, rfl, B4, HP4⟩
      case round =>
        clear B4 HP4
        obtain ⟨k, hk1, hk2, rfl, HB, HPW⟩ := hrel
        by_cases hkl : k < xs.length
        · by_cases hk20 : k < 20
          · obtain ⟨bb, o, rfl, hblt, hcell⟩ := HRV.out (by omega)
            obtain ⟨x, hxe⟩ : ∃ x, xs[k] = x := ⟨_, rfl⟩
            have hc := hcell k (.string x) (by rw [List.getElem?_map, List.getElem?_eq_getElem hkl, hxe]; rfl)
            have d1 := keep_cell hc HB.out hblt
            have kE := HE.out wr x (HX.out x (hxe ▸ List.getElem_mem hkl))
            have hts2 := cutB_size x 60
            clear hcell hc
            go_wp2_with fail
            refine kE.mono ?_
            rintro e w6 ⟨rfl, hww⟩
            obtain rfl := hww.symm
            clear kE
            change (cutB x 60).size ≤ 60 at hts2
            generalize cutB x 60 = tt at *
            have kx := rfits_is wr a q tt HQ.out HPW.out (by unfold maxLen; omega)
            go_wp2_with fail
            refine kx.mono ?_
            rintro e w7 ⟨bx, rfl, hbx, hb7⟩
            have HPW7 := Lib.hid (HPW.out.below hb7)
            have HB7 := Lib.hid (HB.out.trans (hb7.mono HB.out.size))
            have HBX := Lib.hid hbx
            clear kx hb7 hbx
            cases bx with
            | false =>
              go_wp2
              go_roundw
              case rel => exact ⟨k + 1, by omega, by omega, by go_num, HB7, HPW7⟩
              case measure => (simp [intOf]; try omega)
            | true =>
              obtain ⟨h0, h1, h2⟩ := HBAD.out tt true hts2 HBX.out rfl
              cases h0
          · go_wp2
            go_ret
            exact ⟨rfl, HB.out⟩
        · go_wp2
          go_ret
          exact ⟨rfl, HB.out⟩
end lawLeast
end Go.Proofs.Ytlepnnbgecneeaa
