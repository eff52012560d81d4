/- PatternTimes: the walk. -/
import Derived.Test.YtlepnnbgecneeaaPatTn
import Derived.Test.YtlepnnbgecneeaaPatNil
import Derived.Test.YtlepnnbgecneeaaPatQl
import Derived.Laws.IdiomStrings
namespace Go.Proofs.Ytlepnnbgecneeaa
open Go.RowKit

theorem uintMod5 (n m : Int) (h : 0 < m) (hm : m ≤ 9223372036854775807) : ∃ N : Nat, wrap64 ((IntKind.u64.wrap n).tmod m) = (N : Int) ∧ (N : Int) < m := by
  rw [IntKind.wrap_u64]
  have h1 : 0 ≤ n % 18446744073709551616 := Int.emod_nonneg _ (by omega)
  rw [Int.tmod_eq_emod_of_nonneg h1]
  have h2 := Int.emod_nonneg (n % 18446744073709551616) (Int.ne_of_gt h)
  have h3 := Int.emod_lt_of_pos (n % 18446744073709551616) h
  rw [IntWalk.wrap64_in _ ⟨by omega, by omega⟩]
  exact ⟨_, (Int.toNat_of_nonneg h2).symm, by rw [Int.toNat_of_nonneg h2]; exact h3⟩
theorem u8_nat {x : Int} (h : (Lit.int .u8 x).wf = true) : ∃ c : Nat, x = (c : Int) ∧ c < 256 := by
  simp [Lit.wf, IntKind.min, IntKind.max, IntKind.signed, IntKind.bits] at h
  exact ⟨x.toNat, by omega, by omega⟩
def cB (c : Nat) : ByteArray := ⟨#[UInt8.ofNat c]⟩
def repB (c k : Nat) : ByteArray := ⟨(List.replicate k (UInt8.ofNat c)).toArray⟩
theorem one_str (W : World) (c : Nat) (hc : c < 256) : (convert 46 9 (.slice (some ⟨W.heap.size, 0, none⟩) 1 1)).run Try.prog (W.alloc (.cells #[.int .u8 c] 5)) = .ok (.string (cB c)) (W.alloc (.cells #[.int .u8 c] 5)) := by
  have hb := heap_alloc_new W (.cells #[.int .u8 c] 5)
  have h := run_convert_bytes_back (P := Try.prog) (W.alloc (.cells #[.int .u8 c] 5)) 46 9 5 ⟨W.heap.size, 0, none⟩ 1 [UInt8.ofNat c] Try.underlying46 Try.underlying5 Try.underlying9 (fun j hj => by
    have h0 : j = 0 := by simp at hj; omega
    subst h0
    have e : (⟨W.heap.size, 0, none⟩ : Addr).add 0 = ⟨W.heap.size, 0, none⟩ := by simp [Addr.add]
    rw [e, cell_of_row _ _ _ _ _ _ hb]
    have : (UInt8.ofNat c).toNat = c := by simp; omega
    simp [this])
  exact h
theorem repB_size (c k : Nat) : (repB c k).size = k := by show (List.replicate k (UInt8.ofNat c)).toArray.size = k; simp
theorem repB_succ (c k : Nat) : repB c k ++ cB c = repB c (k + 1) := by
  apply ByteArray.ext
  rw [ByteArray.data_append]
  simp [repB, cB, List.replicate_succ']
  apply Array.toList_inj.1; simp
theorem repB_bytes (c k : Nat) (hc : c < 256) : bytesN (repB c k) = List.replicate k c := by
  have : (UInt8.ofNat c).toNat = c := by simp; omega
  unfold bytesN
  show (List.replicate k (UInt8.ofNat c)).map (fun x => x.toNat) = _
  rw [List.map_replicate, this]
theorem onePat_eq (c pf : Nat) (hc : c < 256) : quoteB (cB c) ++ ⟨#[UInt8.ofNat pf]⟩ = onePat c pf := by
  have hb : bytesN (cB c) = [c] := by
    have := repB_bytes c 1 hc
    exact this
  apply ByteArray.ext
  rw [ByteArray.data_append]
  unfold quoteB onePat
  rw [hb]
  simp
/-- a byte with a postfix, called -/
theorem tfit_one {c pf : Nat} {b0 b1 b2 : Bool} (hc : c < 256) (hck : chkOne pf (pfT pf) (pfA pf) (pfE pf) c = true) (h3 : threeB pf = true ∧ endsB pf = (b0, b1, b2)) (Q : ByteArray) (hQ : quoteB (cB c) = Q) (lit : ByteArray) (hl : lit = ⟨#[UInt8.ofNat pf]⟩) (t : ByteArray) (ht : t.size ≤ maxLen) (v : Bool)
    (hv : ((∀ d ∈ bytesN t, d = c) ∧ pickB b0 b1 b2 t.size = true) ↔ v = true) (W : World) : Calls Try.prog 15 #[.string (Q ++ lit), .string t] W fun e w' => e = .returned (.bool v) ∧ Below W.heap.size W w' := by
  have hq : Q ++ lit = onePat c pf := by rw [← hQ, hl]; exact onePat_eq c pf hc
  rw [hq]
  refine (tfits_is (onePat c pf) t W ht).mono ?_
  rintro e w' ⟨b, rfl, h1, h2⟩
  have h4 : b = v := by rw [Bool.eq_iff_iff]; exact h1.trans ((one_fits hc hck h3 t).trans hv)
  rw [h4]
  exact ⟨rfl, h2⟩
theorem star_rep {c k : Nat} (hc : c < 256) : ((∀ d ∈ bytesN (repB c k), d = c) ∧ pickB true true true (repB c k).size = true) ↔ true = true := by
  rw [repB_bytes c k hc]
  exact ⟨fun _ => rfl, fun _ => ⟨fun d hd => (List.mem_replicate.1 hd).2, pick_star _⟩⟩
theorem plus_rep {c k : Nat} (hc : c < 256) : ((∀ d ∈ bytesN (repB c k), d = c) ∧ pickB false true true (repB c k).size = true) ↔ decide (0 < k) = true := by
  rw [repB_bytes c k hc, pick_plus, repB_size]
  exact ⟨fun h => h.2, fun h => ⟨fun d hd => (List.mem_replicate.1 hd).2, h⟩⟩
theorem ques_rep {c k : Nat} (hc : c < 256) : ((∀ d ∈ bytesN (repB c k), d = c) ∧ pickB true true false (repB c k).size = true) ↔ decide (k < 2) = true := by
  rw [repB_bytes c k hc, pick_ques, repB_size]
  exact ⟨fun h => h.2, fun h => ⟨fun d hd => (List.mem_replicate.1 hd).2, h⟩⟩
theorem star_any {c : Nat} {t : ByteArray} {lk : Bool} (hlk : lk = (bytesN t).all fun d => decide (d = c)) : ((∀ d ∈ bytesN t, d = c) ∧ pickB true true true t.size = true) ↔ lk = true := by
  rw [hlk, List.all_eq_true]
  exact ⟨fun h d hd => decide_eq_true (h.1 d hd), fun h => ⟨fun d hd => of_decide_eq_true (h d hd), pick_star _⟩⟩
theorem plus_any {c : Nat} {t : ByteArray} {lk : Bool} (hlk : lk = (bytesN t).all fun d => decide (d = c)) : ((∀ d ∈ bytesN t, d = c) ∧ pickB false true true t.size = true) ↔ (lk && decide (0 < t.size)) = true := by
  rw [Bool.and_eq_true, hlk, List.all_eq_true, pick_plus]
  exact ⟨fun h => ⟨fun d hd => decide_eq_true (h.1 d hd), h.2⟩, fun h => ⟨fun d hd => of_decide_eq_true (h.1 d hd), h.2⟩⟩
theorem toList_empty (t : ByteArray) : t.toList.isEmpty = decide (t.size = 0) := by
  rw [Lib.toList_data]
  have h : t.data.toList.length = t.size := by simp
  rw [← h]
  cases t.data.toList with
  | nil => rfl
  | cons c l => rfl
theorem size_empty (t : ByteArray) : (decide (0 < t.size) == !t.toList.isEmpty) = true := by
  rw [toList_empty]
  by_cases h : t.size = 0
  · simp [h]
  · have : 0 < t.size := by omega
    simp [h, this]
/-- the five calls -/
structure Five (c k : Nat) (Q t : ByteArray) (lk : Bool) : Prop where
  a1 : ∀ W, Calls Try.prog 15 #[.string (Q ++ ⟨#[42]⟩), .string (repB c k)] W fun e w' => e = .returned (.bool true) ∧ Below W.heap.size W w'
  a2 : ∀ W, Calls Try.prog 15 #[.string (Q ++ ⟨#[43]⟩), .string (repB c k)] W fun e w' => e = .returned (.bool (decide (0 < k))) ∧ Below W.heap.size W w'
  a3 : ∀ W, Calls Try.prog 15 #[.string (Q ++ ⟨#[63]⟩), .string (repB c k)] W fun e w' => e = .returned (.bool (decide (k < 2))) ∧ Below W.heap.size W w'
  a4 : ∀ W, Calls Try.prog 15 #[.string (Q ++ ⟨#[42]⟩), .string t] W fun e w' => e = .returned (.bool lk) ∧ Below W.heap.size W w'
  a5 : ∀ W, Calls Try.prog 15 #[.string (Q ++ ⟨#[43]⟩), .string t] W fun e w' => e = .returned (.bool (lk && decide (0 < t.size))) ∧ Below W.heap.size W w'
theorem five {c k : Nat} {Q t : ByteArray} {lk : Bool} (hc : c < 256) (hk : k < 40) (hQ : quoteB (cB c) = Q) (ht : t.size ≤ 60) (hlk : lk = (bytesN t).all fun d => decide (d = c)) : Five c k Q t lk := by
  have hrs : (repB c k).size ≤ maxLen := by rw [repB_size]; unfold maxLen; omega
  have hts : t.size ≤ maxLen := by unfold maxLen; omega
  have s1 := List.all_eq_true.1 star_all c (List.mem_range.2 hc)
  have s2 := List.all_eq_true.1 plus_all c (List.mem_range.2 hc)
  have s3 := List.all_eq_true.1 ques_all c (List.mem_range.2 hc)
  exact ⟨tfit_one hc s1 star_three Q hQ _ rfl _ hrs _ (star_rep hc), tfit_one hc s2 plus_three Q hQ _ rfl _ hrs _ (plus_rep hc), tfit_one hc s3 ques_three Q hQ _ rfl _ hrs _ (ques_rep hc), tfit_one hc s1 star_three Q hQ _ rfl _ hts _ (star_any hlk), tfit_one hc s2 plus_three Q hQ _ rfl _ hts _ (plus_any hlk)⟩
namespace lawTimes
set_option maxHeartbeats 3200000 in
set_option maxRecDepth 100000 in
theorem walk (c : Nat) (n : Int) (s : ByteArray) (w : World) (hc : c < 256) (hs : s.size ≤ maxLen) :
    Calls Try.prog 8 #[.int .u8 c, .int .i64 n, .string s] w fun e w' => e = .returned (.bool true) ∧ Below w.heap.size w w' := by
  obtain ⟨N, hN, hlt⟩ := uintMod5 n 40 (by omega) (by omega)
  have HN := Lib.hid hN
  have kl := lives_is w
  have hc0 : (0 : Int) ≤ (c : Int) := by omega
  have hc1 : (c : Int) ≤ 255 := by omega
  clear hN
  go_enter Try.func8, Try.ntmps8
  go_wp2_with fail
  refine kl.mono ?_
  rintro e w1 ⟨rfl, hb1⟩
  clear kl
  go_upto_region 4 with fail
  rw [HN.out]
  clear HN
  have hcv := one_str w1 c hc
  have hba := alloc_below w1 (.cells #[.int .u8 c] 5)
  have kq := quote_is (cB c) (w1.alloc (.cells #[.int .u8 c] 5)) (by show (1 : Nat) ≤ 400000; omega)
  have hb2 := hb1.trans (hba.mono hb1.size)
  have H2 := Lib.hid hb2
  clear hb2 hba hb1
  go_wp2_with fail
  refine kq.mono ?_
  rintro e w2 ⟨rfl, hb3⟩
  have H3 := Lib.hid (H2.out.trans (hb3.mono H2.out.size))
  clear kq hcv hb3 H2
  generalize hQ : quoteB (cB c) = Q at *
  have HQ := Lib.hid hQ
  clear hQ
  go_upto_region 7 with fail
  go_loopw [8, 9] (fun vt vi wr => ∃ k : Nat, k ≤ N ∧ vi = .int .i64 k ∧ vt = .string (repB c k) ∧ Hid (Below w.heap.size w wr)) (fun _ vi _ => N - (intOf vi).toNat)
  case atStart => exact ⟨0, Nat.zero_le _, rfl, rfl, H3⟩
  case round =>
    clear H3
    obtain ⟨k, hk, rfl, rfl, HB⟩ := hrel
    by_cases hkN : k < N
    · have hcv := one_str wr c hc
      have HB2 := Lib.hid (HB.out.alloc HB.out.size (.cells #[.int .u8 c] 5))
      have z1 := repB_size c k
      have z2 : (cB c).size = 1 := rfl
      have hk40 : k < 40 := by omega
      go_wp2
      refine ⟨⟨k + 1, by omega, by go_num, by rw [repB_succ], HB2⟩, by simp [intOf]; omega⟩
    · obtain rfl : k = N := by omega
      have ke := early5_is s wr hs
      go_wp2_with fail
      refine ke.mono ?_
      rintro e w4 ⟨rfl, hww⟩
      obtain rfl := hww.symm
      clear ke
      have hts := cutB_size s 60
      change (cutB s 60).size ≤ 60 at hts
      generalize cutB s 60 = t at *
      go_upto_region 13 with fail
      go_loopw [10, 11] (fun vl vi w5 => ∃ j : Nat, j ≤ t.size ∧ vi = .int .i64 j ∧ ∃ lk : Bool, vl = .bool lk ∧ Hid (lk = ((bytesN t).take j).all fun d => decide (d = c)) ∧ w5 = wr) (fun _ vi _ => t.size - (intOf vi).toNat)
      case atStart => exact ⟨0, Nat.zero_le _, rfl, true, rfl, Lib.hid rfl, rfl⟩
      case round =>
        obtain ⟨j, hj, rfl, lk, rfl, HL, rfl⟩ := hrel
        by_cases hjt : j < t.size
        · have hjb : j < (bytesN t).length := by rw [bytesN_len]; exact hjt
          obtain ⟨d, hd⟩ : ∃ d, (bytesN t)[j] = d := ⟨_, rfl⟩
          have hdb : (t[j].toNat : Int) = (d : Int) := by rw [← hd]; simp [bytesN, B]; rfl
          have HT : Hid (((bytesN t).take (j + 1)).all (fun d => decide (d = c)) = (lk && decide (d = c))) := Lib.hid (by rw [List.take_succ_eq_append_getElem hjb, List.all_append, ← HL.out, hd]; simp)
          cases lk with
          | false =>
            go_wp2
            refine ⟨⟨j + 1, by omega, by go_num, false, rfl, Lib.hid (by rw [HT.out]; rfl), trivial⟩, by simp [intOf]; omega⟩
          | true =>
            go_wp2
            refine ⟨⟨j + 1, by omega, by go_num, decide (d = c), by congr 1; rw [Bool.eq_iff_iff]; simp; omega, Lib.hid (by rw [HT.out]; simp), trivial⟩, by simp [intOf]; omega⟩
        · obtain rfl : j = t.size := by omega
          have hlk : lk = (bytesN t).all fun d => decide (d = c) := by rw [HL.out, ← bytesN_len, List.take_length]
          have hqz : Q.size ≤ 2 := by rw [← HQ.out]; exact quote_size (cB c)
          have F5 := Lib.hid (five (k := k) (Q := Q) hc (by omega) HQ.out hts hlk)
          clear HL hlk HQ
          have k1 := F5.out.a1 wr
          go_wp2_with fail
          refine k1.mono ?_
          rintro e w5 ⟨rfl, hb5⟩
          have H5 := Lib.hid (HB.out.trans (hb5.mono HB.out.size))
          have k2 := F5.out.a2 w5
          clear k1 hb5 HB
          go_wp2_with fail
          refine k2.mono ?_
          rintro e w6 ⟨rfl, hb6⟩
          have H6 := Lib.hid (H5.out.trans (hb6.mono H5.out.size))
          have k3 := F5.out.a3 w6
          clear k2 hb6 H5
          go_wp2_with fail
          refine k3.mono ?_
          rintro e w7 ⟨rfl, hb7⟩
          have H7 := Lib.hid (H6.out.trans (hb7.mono H6.out.size))
          have k4 := F5.out.a4 w7
          clear k3 hb7 H6
          go_wp2_with fail
          refine k4.mono ?_
          rintro e w8 ⟨rfl, hb8⟩
          have H8 := Lib.hid (H7.out.trans (hb8.mono H7.out.size))
          have k5 := F5.out.a5 w8
          clear k4 hb8 H7
          go_wp2_with fail
          refine k5.mono ?_
          rintro e w9 ⟨rfl, hb9⟩
          have H9 := Lib.hid (H8.out.trans (hb9.mono H8.out.size))
          clear k5 hb9 H8 F5
          have HTE : Hid ((decide (0 < t.size) == !t.toList.isEmpty) = true) := Lib.hid (size_empty t)
          go_wp2
          all_goals go_ret
          all_goals (first | exact ⟨rfl, H9.out⟩ | exact ⟨congrArg (fun b => Ending.returned (.bool b)) HTE.out, H9.out⟩)
end lawTimes
end Go.Proofs.Ytlepnnbgecneeaa
