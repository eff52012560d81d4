/- MatchNames: the card: whatever the arguments, the law returns true and its arguments read as they did. No condition. -/
import Derived.Test.YtgbapkechngnmaaGreatU6AP2
import Derived.Test.YtgbapkechngnmaaGreatFrame12

/- MatchNames: the law's walk: whatever the arguments, it returns true. No condition. -/
namespace Go.Proofs.YtgbapkechngnmaaGreat
open Go.RowKit

/-! names, plainly -/
theorem nameL_eq (l : List UInt8) : nameL l = (!l.isEmpty && decide (l.length ≤ 12) && !(l.head?.any fun c => digN c.toNat) && !(l.any fun c => oddN c.toNat)) := rfl
theorem nameL_odd {l : List UInt8} (h : l.any (fun c => oddN c.toNat) = true) : nameL l = false := by rw [nameL_eq, h]; simp
theorem nameL_snoc_odd (l : List UInt8) {c : UInt8} (h : oddN c.toNat = true) : nameL (l ++ [c]) = false := nameL_odd (by rw [List.any_append]; simp [h])
theorem nameL_digit (l : List UInt8) : nameL (48 :: l) = false := by rw [nameL_eq]; simp [digN]
theorem nameL_snoc {l : List UInt8} (h : nameL l = true) {c : UInt8} (hc : oddN c.toNat = false) : nameL (l ++ [c]) = decide (l.length < 12) := by
 rw [nameL_eq] at h
 simp only [Bool.and_eq_true, Bool.not_eq_true', decide_eq_true_eq] at h
 obtain ⟨⟨⟨h1, h2⟩, h3⟩, h4⟩ := h
 cases l with
 | nil => simp at h1
 | cons a l =>
  rw [nameL_eq, List.any_append, h4]
  have h3' : ((a :: l ++ [c]).head?.any fun c => digN c.toNat) = false := h3
  rw [h3']
  simp [hc]
  omega
theorem nameL_one {l : List UInt8} (h : nameL l = true) : nameL (l.take 1) = true := by
 rw [nameL_eq] at h
 simp only [Bool.and_eq_true, Bool.not_eq_true', decide_eq_true_eq] at h
 obtain ⟨⟨⟨h1, h2⟩, h3⟩, h4⟩ := h
 cases l with
 | nil => simp at h1
 | cons a l =>
  rw [List.any_cons, Bool.or_eq_false_iff] at h4
  rw [nameL_eq]
  have h3' : digN a.toNat = false := by simpa using h3
  simp [h3', h4.1]
theorem nameL_pos {l : List UInt8} (h : nameL l = true) : 0 < l.length := by
 cases l with
 | nil => simp [nameL] at h
 | cons a l => simp
theorem one_strM (W : World) (c : Nat) (hc : c < 256) : (convert 43 9 (.slice (some ⟨W.heap.size, 0, none⟩) 1 1)).run Tryz.prog (W.alloc (.cells #[.int .u8 c] 5)) = .ok (.string ⟨#[UInt8.ofNat c]⟩) (W.alloc (.cells #[.int .u8 c] 5)) :=
 run_convert_bytes_back (P := Tryz.prog) (W.alloc (.cells #[.int .u8 c] 5)) 43 9 5 ⟨W.heap.size, 0, none⟩ 1 [UInt8.ofNat c] Tryz.underlying43 Tryz.underlying5 Tryz.underlying9 (fun j hj => by
  obtain rfl : j = 0 := by simp at hj; omega
  rw [Addr.add_lit, cell_of_row _ _ _ _ _ _ (heap_alloc_new _ _)]
  have : (UInt8.ofNat c).toNat = c := by simp; omega
  simp [this])
theorem u8_natM {x : Int} (h : (Lit.int .u8 x).wf = true) : ∃ c : Nat, x = (c : Int) ∧ c < 256 := by
 simp [Lit.wf, IntKind.min, IntKind.max, IntKind.signed, IntKind.bits] at h
 exact ⟨x.toNat, by omega, by omega⟩
namespace lawNames
set_option maxHeartbeats 3200000 in
set_option maxRecDepth 100000 in
theorem walk (s : ByteArray) (c : Nat) (w : World) (hs : s.size ≤ maxLen) (hc : c < 256) :
  Calls Tryz.prog 7 #[.string s, .int .u8 c] w fun e w' => e = .returned (.bool true) ∧ Below w.heap.size w w' := by
 have kl := lives6_any w
 unfold maxLen at hs
 have HC := Lib.hid (one_strM · c hc)
 have hmin0 : (0 : Int) ≤ min (s.size : Int) 20 := by omega
 have hmin1 : min (s.size : Int) 20 ≤ (s.size : Int) := by omega
 go_enter Tryz.func7, Tryz.ntmps7
 go_wp2_with fail
 refine kl.mono ?_
 rintro e w1 ⟨rfl, hb1⟩
 have HB1 := Lib.hid hb1
 clear kl hb1
 go_upto_region 4 with fail
 have htz : (s.extract 0 (min (s.size : Int) 20).toNat).size ≤ 20 := by
  rw [ByteArray.size_extract]; omega
 generalize s.extract 0 (min (s.size : Int) 20).toNat = t at *
 clear hmin0 hmin1
 have kn := fun W (x : ByteArray) (h : x.size ≤ 30) => name_any x W (by unfold maxLen; omega)
 cases hN : nameL (B t) with
 | false =>
  have k0 := kn w1 t (by omega)
  have k1 := fun W => kn W (t ++ ⟨#[45]⟩) (by rw [ByteArray.size_append]; show t.size + 1 ≤ _; omega)
  rw [hN] at k0
  simp only [B_append, show B (⟨#[45]⟩ : ByteArray) = [45] from rfl, nameL_snoc_odd (B t) (c := 45) (by decide)] at k1
  have z1 : ¬ 9223372036854775807 < t.size + 1 := by omega
  clear kn
  go_wp2_with fail
  refine k0.mono ?_
  rintro e w2 ⟨rfl, hb2⟩
  have HB2 := Lib.hid (HB1.out.trans (hb2.mono HB1.out.size))
  have k1 := k1 w2
  clear k0 hb2
  go_wp2_with fail
  refine k1.mono ?_
  rintro e w3 ⟨rfl, hb3⟩
  have HB3 := Lib.hid (HB2.out.trans (hb3.mono HB2.out.size))
  clear k1 hb3
  go_wp2
  go_ret
  exact ⟨rfl, HB3.out⟩
 | true =>
  have k0 := kn w1 t (by omega)
  rw [hN] at k0
  have HN := Lib.hid hN
  have hpos : 0 < t.size := by have := nameL_pos hN; rw [len_B] at this; exact this
  have kc := fun W => kn W (t ++ ⟨#[UInt8.ofNat c]⟩) (by rw [ByteArray.size_append]; show t.size + 1 ≤ _; omega)
  have kd := fun W => kn W (⟨#[48]⟩ ++ t) (by rw [ByteArray.size_append]; show 1 + t.size ≤ _; omega)
  have ks := fun W => kn W (t ++ ⟨#[32]⟩) (by rw [ByteArray.size_append]; show t.size + 1 ≤ _; omega)
  have kf := fun W => kn W (t.extract 0 1) (by rw [ByteArray.size_extract]; omega)
  simp only [B_append, show B (⟨#[48]⟩ : ByteArray) = [48] from rfl, List.singleton_append, nameL_digit] at kd
  simp only [B_append, show B (⟨#[32]⟩ : ByteArray) = [32] from rfl, nameL_snoc_odd (B t) (c := 32) (by decide)] at ks
  simp only [B_take, nameL_one hN] at kf
  simp only [B_append, show B (⟨#[UInt8.ofNat c]⟩ : ByteArray) = [UInt8.ofNat c] from rfl] at kc
  have hcn : (UInt8.ofNat c).toNat = c := by simp; omega
  have HODD : Hid (oddN (UInt8.ofNat c).toNat = (((c : Int) != 95) && (decide ((c : Int) < 97) || decide (122 < (c : Int))) && (decide ((c : Int) < 48) || decide (57 < (c : Int))))) := Lib.hid (by rw [hcn]; rfl)
  have HS : Hid (oddN (UInt8.ofNat c).toNat = false → nameL (B t ++ [UInt8.ofNat c]) = decide (t.size < 12)) := Lib.hid (fun h => by rw [nameL_snoc HN.out h, len_B])
  have HO : Hid (oddN (UInt8.ofNat c).toNat = true → nameL (B t ++ [UInt8.ofNat c]) = false) := Lib.hid (fun h => nameL_snoc_odd _ h)
  have hcv := HC.out
  have z1 : ¬ 9223372036854775807 < t.size + 1 := by omega
  have z2 : ¬ 9223372036854775807 < 1 + t.size := by omega
  have hp0 : (0 : Int) < (t.size : Int) := by omega
  have hp1 : (1 : Int) ≤ (t.size : Int) := by omega
  have hp2 : 1 ≤ t.size := hpos
  clear kn hN hcn
  go_wp2_with fail
  refine k0.mono ?_
  rintro e w2 ⟨rfl, hb2⟩
  have HB2 := Lib.hid (HB1.out.trans (hb2.mono HB1.out.size))
  clear k0 hb2
  have HBX := Lib.hid (HB2.out.trans ((alloc_below w2 (.cells #[.int .u8 c] 5)).mono HB2.out.size))
  rcases (show (c : Int) < 48 ∨ (48 ≤ (c : Int) ∧ (c : Int) ≤ 57) ∨ (57 < (c : Int) ∧ (c : Int) < 95) ∨ (c : Int) = 95 ∨ (95 < (c : Int) ∧ (c : Int) < 97) ∨ (97 ≤ (c : Int) ∧ (c : Int) ≤ 122) ∨ 122 < (c : Int) by omega) with h | ⟨h, h'⟩ | ⟨h, h'⟩ | h | ⟨h, h'⟩ | ⟨h, h'⟩ | h
  ·have ho : oddN (UInt8.ofNat c).toNat = true := by rw [HODD.out]; simp; omega
   rw [HO.out ho] at kc
   have g1 : ((c : Int) == 95) = false := by rw [beq_eq_false_iff_ne]; omega
   clear ho
   go_wp2_with fail
   refine (kc _).mono ?_
   rintro e w3 ⟨rfl, hb3⟩
   have HB3 := Lib.hid (HBX.out.trans (hb3.mono HBX.out.size))
   clear kc hb3
   go_wp2_with fail
   refine (kd _).mono ?_
   rintro e w4 ⟨rfl, hb4⟩
   have HB4 := Lib.hid (HB3.out.trans (hb4.mono HB3.out.size))
   clear kd hb4
   go_wp2_with fail
   refine (ks _).mono ?_
   rintro e w5 ⟨rfl, hb5⟩
   have HB5 := Lib.hid (HB4.out.trans (hb5.mono HB4.out.size))
   clear ks hb5
   go_wp2_with fail
   refine (kf _).mono ?_
   rintro e w6 ⟨rfl, hb6⟩
   have HB6 := Lib.hid (HB5.out.trans (hb6.mono HB5.out.size))
   clear kf hb6
   go_wp2
   go_ret
   exact ⟨rfl, HB6.out⟩
  ·have ho : oddN (UInt8.ofNat c).toNat = false := by rw [HODD.out]; simp; omega
   rw [HS.out ho] at kc
   clear ho
   by_cases h12 : t.size < 12
   ·rw [decide_eq_true h12] at kc
    have h13 : (t.size : Int) < 12 := by omega
    clear h12
    go_wp2_with fail
    refine (kc _).mono ?_
    rintro e w3 ⟨rfl, hb3⟩
    have HB3 := Lib.hid (HBX.out.trans (hb3.mono HBX.out.size))
    clear kc hb3
    go_wp2_with fail
    refine (kd _).mono ?_
    rintro e w4 ⟨rfl, hb4⟩
    have HB4 := Lib.hid (HB3.out.trans (hb4.mono HB3.out.size))
    clear kd hb4
    go_wp2_with fail
    refine (ks _).mono ?_
    rintro e w5 ⟨rfl, hb5⟩
    have HB5 := Lib.hid (HB4.out.trans (hb5.mono HB4.out.size))
    clear ks hb5
    go_wp2_with fail
    refine (kf _).mono ?_
    rintro e w6 ⟨rfl, hb6⟩
    have HB6 := Lib.hid (HB5.out.trans (hb6.mono HB5.out.size))
    clear kf hb6
    go_wp2
    go_ret
    exact ⟨rfl, HB6.out⟩
   ·rw [decide_eq_false h12] at kc
    have h13 : decide ((t.size : Int) < 12) = false := decide_eq_false (by omega)
    clear h12
    go_wp2_with fail
    refine (kc _).mono ?_
    rintro e w3 ⟨rfl, hb3⟩
    have HB3 := Lib.hid (HBX.out.trans (hb3.mono HBX.out.size))
    clear kc hb3
    go_wp2_with fail
    refine (kd _).mono ?_
    rintro e w4 ⟨rfl, hb4⟩
    have HB4 := Lib.hid (HB3.out.trans (hb4.mono HB3.out.size))
    clear kd hb4
    go_wp2_with fail
    refine (ks _).mono ?_
    rintro e w5 ⟨rfl, hb5⟩
    have HB5 := Lib.hid (HB4.out.trans (hb5.mono HB4.out.size))
    clear ks hb5
    go_wp2_with fail
    refine (kf _).mono ?_
    rintro e w6 ⟨rfl, hb6⟩
    have HB6 := Lib.hid (HB5.out.trans (hb6.mono HB5.out.size))
    clear kf hb6
    go_wp2
    go_ret
    exact ⟨rfl, HB6.out⟩
  ·have ho : oddN (UInt8.ofNat c).toNat = true := by rw [HODD.out]; simp; omega
   rw [HO.out ho] at kc
   have g1 : ((c : Int) == 95) = false := by rw [beq_eq_false_iff_ne]; omega
   clear ho
   go_wp2_with fail
   refine (kc _).mono ?_
   rintro e w3 ⟨rfl, hb3⟩
   have HB3 := Lib.hid (HBX.out.trans (hb3.mono HBX.out.size))
   clear kc hb3
   go_wp2_with fail
   refine (kd _).mono ?_
   rintro e w4 ⟨rfl, hb4⟩
   have HB4 := Lib.hid (HB3.out.trans (hb4.mono HB3.out.size))
   clear kd hb4
   go_wp2_with fail
   refine (ks _).mono ?_
   rintro e w5 ⟨rfl, hb5⟩
   have HB5 := Lib.hid (HB4.out.trans (hb5.mono HB4.out.size))
   clear ks hb5
   go_wp2_with fail
   refine (kf _).mono ?_
   rintro e w6 ⟨rfl, hb6⟩
   have HB6 := Lib.hid (HB5.out.trans (hb6.mono HB5.out.size))
   clear kf hb6
   go_wp2
   go_ret
   exact ⟨rfl, HB6.out⟩
  ·have ho : oddN (UInt8.ofNat c).toNat = false := by rw [HODD.out]; simp; omega
   rw [HS.out ho] at kc
   clear ho
   have g1 : ((c : Int) == 95) = true := by rw [beq_iff_eq]; exact h
   have g2 : (c : Int) < 96 := by omega
   have g3 : (94 : Int) < (c : Int) := by omega
   clear h
   by_cases h12 : t.size < 12
   ·rw [decide_eq_true h12] at kc
    have h13 : (t.size : Int) < 12 := by omega
    clear h12
    go_wp2_with fail
    refine (kc _).mono ?_
    rintro e w3 ⟨rfl, hb3⟩
    have HB3 := Lib.hid (HBX.out.trans (hb3.mono HBX.out.size))
    clear kc hb3
    go_wp2_with fail
    refine (kd _).mono ?_
    rintro e w4 ⟨rfl, hb4⟩
    have HB4 := Lib.hid (HB3.out.trans (hb4.mono HB3.out.size))
    clear kd hb4
    go_wp2_with fail
    refine (ks _).mono ?_
    rintro e w5 ⟨rfl, hb5⟩
    have HB5 := Lib.hid (HB4.out.trans (hb5.mono HB4.out.size))
    clear ks hb5
    go_wp2_with fail
    refine (kf _).mono ?_
    rintro e w6 ⟨rfl, hb6⟩
    have HB6 := Lib.hid (HB5.out.trans (hb6.mono HB5.out.size))
    clear kf hb6
    go_wp2
    go_ret
    exact ⟨rfl, HB6.out⟩
   ·rw [decide_eq_false h12] at kc
    have h13 : decide ((t.size : Int) < 12) = false := decide_eq_false (by omega)
    clear h12
    go_wp2_with fail
    refine (kc _).mono ?_
    rintro e w3 ⟨rfl, hb3⟩
    have HB3 := Lib.hid (HBX.out.trans (hb3.mono HBX.out.size))
    clear kc hb3
    go_wp2_with fail
    refine (kd _).mono ?_
    rintro e w4 ⟨rfl, hb4⟩
    have HB4 := Lib.hid (HB3.out.trans (hb4.mono HB3.out.size))
    clear kd hb4
    go_wp2_with fail
    refine (ks _).mono ?_
    rintro e w5 ⟨rfl, hb5⟩
    have HB5 := Lib.hid (HB4.out.trans (hb5.mono HB4.out.size))
    clear ks hb5
    go_wp2_with fail
    refine (kf _).mono ?_
    rintro e w6 ⟨rfl, hb6⟩
    have HB6 := Lib.hid (HB5.out.trans (hb6.mono HB5.out.size))
    clear kf hb6
    go_wp2
    go_ret
    exact ⟨rfl, HB6.out⟩
  ·have ho : oddN (UInt8.ofNat c).toNat = true := by rw [HODD.out]; simp; omega
   rw [HO.out ho] at kc
   have g1 : ((c : Int) == 95) = false := by rw [beq_eq_false_iff_ne]; omega
   clear ho
   go_wp2_with fail
   refine (kc _).mono ?_
   rintro e w3 ⟨rfl, hb3⟩
   have HB3 := Lib.hid (HBX.out.trans (hb3.mono HBX.out.size))
   clear kc hb3
   go_wp2_with fail
   refine (kd _).mono ?_
   rintro e w4 ⟨rfl, hb4⟩
   have HB4 := Lib.hid (HB3.out.trans (hb4.mono HB3.out.size))
   clear kd hb4
   go_wp2_with fail
   refine (ks _).mono ?_
   rintro e w5 ⟨rfl, hb5⟩
   have HB5 := Lib.hid (HB4.out.trans (hb5.mono HB4.out.size))
   clear ks hb5
   go_wp2_with fail
   refine (kf _).mono ?_
   rintro e w6 ⟨rfl, hb6⟩
   have HB6 := Lib.hid (HB5.out.trans (hb6.mono HB5.out.size))
   clear kf hb6
   go_wp2
   go_ret
   exact ⟨rfl, HB6.out⟩
  ·have ho : oddN (UInt8.ofNat c).toNat = false := by rw [HODD.out]; simp; omega
   rw [HS.out ho] at kc
   clear ho
   by_cases h12 : t.size < 12
   ·rw [decide_eq_true h12] at kc
    have h13 : (t.size : Int) < 12 := by omega
    clear h12
    go_wp2_with fail
    refine (kc _).mono ?_
    rintro e w3 ⟨rfl, hb3⟩
    have HB3 := Lib.hid (HBX.out.trans (hb3.mono HBX.out.size))
    clear kc hb3
    go_wp2_with fail
    refine (kd _).mono ?_
    rintro e w4 ⟨rfl, hb4⟩
    have HB4 := Lib.hid (HB3.out.trans (hb4.mono HB3.out.size))
    clear kd hb4
    go_wp2_with fail
    refine (ks _).mono ?_
    rintro e w5 ⟨rfl, hb5⟩
    have HB5 := Lib.hid (HB4.out.trans (hb5.mono HB4.out.size))
    clear ks hb5
    go_wp2_with fail
    refine (kf _).mono ?_
    rintro e w6 ⟨rfl, hb6⟩
    have HB6 := Lib.hid (HB5.out.trans (hb6.mono HB5.out.size))
    clear kf hb6
    go_wp2
    go_ret
    exact ⟨rfl, HB6.out⟩
   ·rw [decide_eq_false h12] at kc
    have h13 : decide ((t.size : Int) < 12) = false := decide_eq_false (by omega)
    clear h12
    go_wp2_with fail
    refine (kc _).mono ?_
    rintro e w3 ⟨rfl, hb3⟩
    have HB3 := Lib.hid (HBX.out.trans (hb3.mono HBX.out.size))
    clear kc hb3
    go_wp2_with fail
    refine (kd _).mono ?_
    rintro e w4 ⟨rfl, hb4⟩
    have HB4 := Lib.hid (HB3.out.trans (hb4.mono HB3.out.size))
    clear kd hb4
    go_wp2_with fail
    refine (ks _).mono ?_
    rintro e w5 ⟨rfl, hb5⟩
    have HB5 := Lib.hid (HB4.out.trans (hb5.mono HB4.out.size))
    clear ks hb5
    go_wp2_with fail
    refine (kf _).mono ?_
    rintro e w6 ⟨rfl, hb6⟩
    have HB6 := Lib.hid (HB5.out.trans (hb6.mono HB5.out.size))
    clear kf hb6
    go_wp2
    go_ret
    exact ⟨rfl, HB6.out⟩
  ·have ho : oddN (UInt8.ofNat c).toNat = true := by rw [HODD.out]; simp; omega
   rw [HO.out ho] at kc
   have g1 : ((c : Int) == 95) = false := by rw [beq_eq_false_iff_ne]; omega
   clear ho
   go_wp2_with fail
   refine (kc _).mono ?_
   rintro e w3 ⟨rfl, hb3⟩
   have HB3 := Lib.hid (HBX.out.trans (hb3.mono HBX.out.size))
   clear kc hb3
   go_wp2_with fail
   refine (kd _).mono ?_
   rintro e w4 ⟨rfl, hb4⟩
   have HB4 := Lib.hid (HB3.out.trans (hb4.mono HB3.out.size))
   clear kd hb4
   go_wp2_with fail
   refine (ks _).mono ?_
   rintro e w5 ⟨rfl, hb5⟩
   have HB5 := Lib.hid (HB4.out.trans (hb5.mono HB4.out.size))
   clear ks hb5
   go_wp2_with fail
   refine (kf _).mono ?_
   rintro e w6 ⟨rfl, hb6⟩
   have HB6 := Lib.hid (HB5.out.trans (hb6.mono HB5.out.size))
   clear kf hb6
   go_wp2
   go_ret
   exact ⟨rfl, HB6.out⟩
end lawNames
end Go.Proofs.YtgbapkechngnmaaGreat
/- MatchNames: the card: whatever the arguments, the law returns true and its arguments read as they did. No condition. -/
namespace Go.Proofs.YtgbapkechngnmaaGreat.lawNames
open Go.ChangeShapes Go.WideShapes Go.ChangeAt Go.RowKit
open Go.ChangeMaps (open_string)

set_option maxRecDepth 100000 in
theorem contract (H : Type) (enc : TypeId × Value → H) (W : World) (base : Nat) (args : Array Value) (ds gs : List (DataW H)) (before : List MemPlace)
  (hval : ∀ (j : Nat) t v, Tryz.f7.params[j]? = some t → args[j]? = some v → Value.okWide Tryz.prog W .any base t v)
  (hW : DataW.Whole enc Tryz.prog Tryz.f7.params.toList Rows.matchNamesSpec.vars false W args.toList ds gs before) :
  Calls Tryz.prog 7 args W fun e W' => ∃ v, e = .returned v ∧ Rows.matchNamesSpec.post enc Tryz.prog Tryz.f7 false true false false W args v W' := by
 have hW' := hW
 obtain ⟨p, q, hA0, hV, rfl, hfz, hnd⟩ := hW
 have hA : DataW.TrodAll enc Tryz.prog W 0 (fun _ => true) true Tryz.f7.params.toList args.toList ds p := hA0
 rw [Tryz.params7] at hA hval
 obtain ⟨v0, vs0, d0, ds0, p0, q0, hargs, rfl, rfl, h0, r0⟩ := trodAll_cons hA
 obtain ⟨v1, vs1, d1, ds1, p1, q1, rfl, rfl, rfl, h1, r1⟩ := trodAll_cons r0
 obtain ⟨rfl, rfl, rfl⟩ := trodAll_nil r1
 obtain rfl : args = #[v0, v1] := by cases args; simp_all
 obtain ⟨rfl, rfl⟩ := trodVars_none hV
 obtain ⟨x0, rfl, rfl, rfl, hx0⟩ := open_string Tryz.underlying9 (hval 0 9 v0 rfl rfl) h0
 obtain ⟨z1, rfl, rfl, rfl, wx1⟩ := open_int Tryz.underlying5 (hval 1 5 v1 rfl rfl) h1
 obtain ⟨x1, rfl, hx1⟩ := u8_natM wx1
 clear hA0
 refine (walk x0 x1 W hx0 hx1).mono ?_
 rintro e W' ⟨rfl, hb⟩
 exact ⟨_, rfl, law_post laidOut Tryz.underlying4 rfl rfl (by kernel_rfl) hW' rfl rfl rfl hb⟩

theorem laid_met (os : Os) : laidMet Tryz.prog Rows.matchNamesRow.laid ((laidWorld os).forCall (fun _ _ => 0) ⟨#[], #[.string ⟨#[]⟩, .int .u8 0], []⟩).memory :=
 ⟨[], rfl, List.nodup_nil, fun _ _ h => by cases h⟩
theorem reads (os : Os) {H : Type} (enc : TypeId × Value → H) : ∃ places, DataW.whole enc Tryz.prog ((laidWorld os).forCall (fun _ _ => 0) ⟨#[], #[.string ⟨#[]⟩, .int .u8 0], []⟩).memory Tryz.f7.params.toList Rows.matchNamesSpec.vars false (#[.string ⟨#[]⟩, .int .u8 0] : Array Value).toList 8 = some ([.lit (.string []), .lit (.int .u8 0)], [], places) :=
 ⟨[], by kernel_rfl⟩

set_option maxRecDepth 100000 in
theorem lifted (os : Os) (started : os.Started) (H : Type) (enc : TypeId × Value → H) (F : Stop.Interp) :
  ReturnsInHanded {} Tryz.checked os 7 .any ((OpenSpec.ofChange Rows.matchNamesSpec).preRow enc Tryz.prog Tryz.f7 Rows.matchNamesRow.domain false Rows.matchNamesRow.laid) (((OpenSpec.ofChange Rows.matchNamesSpec).at F).post enc Tryz.prog Tryz.f7 false true false false) := by
 obtain ⟨places, hx⟩ := reads os enc
 refine returnsInHanded_of_row (C := Tryz.checked) (s := OpenSpec.ofChange Rows.matchNamesSpec) ownNone started (by kernel_rfl) Tryz.func7
  (witness_row_at (enc := enc) (C := Tryz.checked) false (laidWorld os) #[.string ⟨#[]⟩, .int .u8 0] rfl (by kernel_rfl) (by kernel_rfl) (by kernel_rfl)
   (OpenSpec.preRow_of_cond 8 hx (by kernel_rfl) (fun k hk => by cases hk) (by kernel_rfl) (laid_met os))) ?_
 intro W base args ds gs before hval hW _ _ _ _ _ _
 exact contract H enc W base args ds gs before hval hW

theorem said : Rows.MatchNamesSaid :=
 OpenClaim.holds_of_cond 7 Tryz.f7 rfl rfl rfl rfl rfl rfl rfl ⟨rfl, rfl, rfl, rfl, rfl⟩ rfl rfl rfl rfl rfl (by kernel_rfl) Tryz.func7 (by kernel_rfl)
  (of_decide_eq_true (by kernel_rfl)) (by unfold Func.isWrapper; first | (rw [if_pos (by decide +kernel)]; kernel_rfl) | (rw [if_neg (by decide +kernel)]; exact ⟨rfl, rfl⟩))
  (fun os started H enc _ F => by rw [OpenClaim.pre_eq_preRow]; exact lifted os started H enc F)

end Go.Proofs.YtgbapkechngnmaaGreat.lawNames
