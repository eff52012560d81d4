/- lychgateref05.Quote: a contract. -/
import Derived.Test.YtlepnnbgecneeaaPatQuote
import Derived.Deep.QuietTactic
import Derived.BigQuiet
namespace Go.Proofs.Ytlepnnbgecneeaa
open Go.RowKit

def oddL : List Nat := [42, 43, 63, 124, 40, 41, 91, 93, 92, 46]
def chrB (l : List Nat) : ByteArray := ⟨(l.map UInt8.ofNat).toArray⟩
def escN (c k : Nat) : List Nat := ((oddL.take k).filter fun d => decide (d = c)).map fun _ => 92
theorem chrB_app (a b : List Nat) : chrB (a ++ b) = chrB a ++ chrB b := by
  apply ByteArray.ext
  rw [ByteArray.data_append]
  simp [chrB]
theorem quoteB_chr (s : ByteArray) : quoteB s = chrB (quoteM (bytesN s)) := rfl
theorem escN_succ {c k : Nat} (h : k < 10) : escN c (k + 1) = escN c k ++ (if oddL.getD k 0 = c then [92] else []) := by
  have hk : k < oddL.length := h
  unfold escN
  rw [List.take_succ_eq_append_getElem hk, List.filter_append, List.map_append, List.getD_eq_getElem?_getD, List.getElem?_eq_getElem hk]
  congr 1
  simp only [Option.getD_some]
  by_cases h : oddL[k] = c <;> simp [h]
theorem escN_all {c : Nat} (hc : c < 256) : escN c 10 = if oddB c = true then [92] else [] := by
  have : ∀ c : Fin 256, escN c.val 10 = if oddB c.val = true then [92] else [] := by decide +kernel
  exact this ⟨c, hc⟩
theorem odd_at (k : Nat) (h : k < 10) : ((⟨#[42, 43, 63, 124, 40, 41, 91, 93, 92, 46]⟩ : ByteArray)[k]'h).toNat = oddL.getD k 0 := by
  have : ∀ k : Fin 10, ((⟨#[42, 43, 63, 124, 40, 41, 91, 93, 92, 46]⟩ : ByteArray)[k.val]'k.isLt).toNat = oddL.getD k.val 0 := by decide +kernel
  exact this ⟨k, h⟩
theorem one_piece (s : ByteArray) {i : Nat} (h : i < s.size) : s.extract i (i + 1) = chrB [(bytesN s).getD i 0] := by
  apply ByteArray.ext
  apply Array.toList_inj.1
  rw [ByteArray.data_extract, Array.toList_extract, List.extract_eq_take_drop, Nat.add_sub_cancel_left]
  have hb : i < s.data.toList.length := by simpa using h
  rw [List.drop_eq_getElem_cons hb, bytesN_getD s h]
  simp [chrB, List.getD_eq_getElem?_getD, List.getElem?_eq_getElem hb]
theorem chrB_size (l : List Nat) : (chrB l).size = l.length := by
  show (l.map UInt8.ofNat).toArray.size = l.length; simp
theorem chr_le {q : List Nat} {c : Nat} (j : Nat) (h : q.length ≤ 200000) : (chrB (q ++ escN c j)).size ≤ 200010 := by
  rw [chrB_size, List.length_append]
  have h1 : (escN c j).length ≤ 10 := by
    unfold escN
    rw [List.length_map]
    exact Nat.le_trans (List.length_filter_le _ _) (Nat.le_trans (List.length_take_le' _ _) (by decide))
  omega
set_option maxHeartbeats 3200000 in
set_option maxRecDepth 100000 in
theorem refquote_is (s : ByteArray) (w : World) (hs : s.size ≤ 100000) : Calls Try.prog 20 #[.string s] w fun e w' => e = .returned (.string (quoteB s)) ∧ Below w.heap.size w w' := by
  go_enter Try.func20, Try.ntmps20
  go_upto_region 3 with fail
  go_loopw [3, 4, 5, 6] (fun vo vi _ _ wr => ∃ k : Nat, k ≤ s.size ∧ vi = .int .i64 k ∧ vo = .string (chrB (quoteM ((bytesN s).take k))) ∧ Hid (Below w.heap.size w wr)) (fun _ vi _ _ _ => s.size - (intOf vi).toNat)
  case atStart => exact ⟨0, Nat.zero_le _, rfl, rfl, Lib.hid (Below.refl _ _)⟩
  case round =>
    obtain ⟨k, hk, rfl, rfl, HB⟩ := hrel
    by_cases hks : k < s.size
    · have hkb : k < (bytesN s).length := by rw [bytesN_len]; exact hks
      obtain ⟨c, hce⟩ : ∃ c, (bytesN s).getD k 0 = c := ⟨_, rfl⟩
      have hce2 : (bytesN s)[k] = c := by rw [← hce, List.getD_eq_getElem?_getD, List.getElem?_eq_getElem hkb]; rfl
      have hc6 : c < 256 := hce2 ▸ bytesN_lt (List.getElem_mem hkb)
      have HT : Hid (quoteM ((bytesN s).take (k + 1)) = quoteM ((bytesN s).take k) ++ (if oddB c = true then [92, c] else [c])) := Lib.hid (by rw [quoteM_take hkb, hce2])
      have HP : Hid (s.extract k (k + 1) = chrB [c]) := Lib.hid (by rw [one_piece s hks, hce])
      have HC : Hid ((s[k].toNat : Int) = (c : Int)) := Lib.hid (by rw [← hce2]; simp [bytesN, B]; rfl)
      clear hce hce2
      have hqz : (quoteM ((bytesN s).take k)).length ≤ 200000 := by
        have h1 := quoteM_len ((bytesN s).take k)
        have h2 : ((bytesN s).take k).length ≤ k := by simp; omega
        omega
      generalize hq : quoteM ((bytesN s).take k) = q at *
      clear hq
      go_upto_region 7 with fail
      go_loopw [3, 6] (fun vo vj w2 => ∃ j : Nat, j ≤ 10 ∧ vj = .int .i64 j ∧ vo = .string (chrB (q ++ escN c j)) ∧ Hid (Below w.heap.size w w2)) (fun _ vj _ => 10 - (intOf vj).toNat)
      case atStart => exact ⟨0, Nat.zero_le _, rfl, by simp [escN], HB⟩
      case round =>
        obtain ⟨j, hj, rfl, rfl, HB2⟩ := hrel
        by_cases hj10 : j < 10
        · have HO := odd_at j hj10
          have HE := Lib.hid (escN_succ (c := c) hj10)
          have hc0 := HC.out
          have hz := chr_le (c := c) j hqz
          go_upto_region 9 with fail
          obtain ⟨o, ho⟩ : ∃ o, oddL.getD j 0 = o := ⟨_, rfl⟩
          rw [ho] at HO HE
          clear ho
          by_cases hoc : o = c
          · rw [if_pos hoc] at HE
            rw [hoc] at HO
            clear hoc
            go_quiet (fail)
            go_wp2
            go_roundw
            case rel => exact ⟨j + 1, by omega, by go_num, by rw [HE.out, ← List.append_assoc, chrB_app _ [92]]; rfl, Lib.hid (bl_drewN HB2.out _)⟩
            case measure => (simp [intOf]; try omega)
          · rw [if_neg hoc, List.append_nil] at HE
            have hne : ((o : Int) == (c : Int)) = false := by simp; omega
            clear hoc
            go_quiet (fail)
            go_wp2
            go_roundw
            case rel => exact ⟨j + 1, by omega, by go_num, by rw [HE.out], Lib.hid (bl_drewN HB2.out _)⟩
            case measure => (simp [intOf]; try omega)
        · obtain rfl : j = 10 := by omega
          have hpi := HP.out
          have hz := chr_le (c := c) 10 hqz
          have hz2 : (chrB [c]).size = 1 := rfl
          have HN : Hid (chrB (quoteM ((bytesN s).take (k + 1))) = chrB (q ++ escN c 10) ++ chrB [c]) := Lib.hid (by rw [HT.out, escN_all hc6, ← chrB_app]; congr 1; split <;> simp)
          go_wp2
          go_roundw
          case rel => exact ⟨k + 1, by omega, by go_num, by rw [HN.out], HB2⟩
          case measure => (simp [intOf]; try omega)
    · obtain rfl : k = s.size := by omega
      have HQ : Hid (chrB (quoteM ((bytesN s).take s.size)) = quoteB s) := Lib.hid (by rw [← bytesN_len, List.take_length, quoteB_chr])
      rw [HQ.out]
      go_wp2
      go_ret
      exact ⟨rfl, HB.out⟩
end Go.Proofs.Ytlepnnbgecneeaa
