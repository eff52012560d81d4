/- pattern.Quote: a contract. -/
import Derived.Test.YtlepnnbgecneeaaPatA2
import Derived.Test.YtlepnnbgecneeaaPatQ
import Derived.Test.YtlepnnbgecneeaaPatU
namespace Go.Proofs.Ytlepnnbgecneeaa
open Go.RowKit

def quoteM (l : List Nat) : List Nat := l.flatMap fun c => if oddB c = true then [92, c] else [c]
def quoteB (s : ByteArray) : ByteArray := ⟨((quoteM (bytesN s)).map UInt8.ofNat).toArray⟩
theorem quoteM_len : ∀ l : List Nat, (quoteM l).length ≤ 2 * l.length
  | [] => Nat.le_refl _
  | c :: l => by
    have := quoteM_len l
    unfold quoteM at this ⊢
    rw [List.flatMap_cons, List.length_append, List.length_cons]
    split
    · simp only [List.length_cons, List.length_nil]; omega
    · simp only [List.length_cons, List.length_nil]; omega
theorem quoteM_lt {l : List Nat} (h : ∀ c ∈ l, c < 256) : ∀ c ∈ quoteM l, c < 256 := by
  intro c hc
  obtain ⟨x, hx, h1⟩ := List.mem_flatMap.1 hc
  split at h1
  · simp at h1
    rcases h1 with rfl | rfl
    · omega
    · exact h _ hx
  · rw [List.mem_singleton.1 h1]; exact h _ hx
theorem quoteM_take {l : List Nat} {k : Nat} (hk : k < l.length) : quoteM (l.take (k + 1)) = quoteM (l.take k) ++ (if oddB l[k] = true then [92, l[k]] else [l[k]]) := by
  unfold quoteM
  rw [List.take_succ_eq_append_getElem hk, List.flatMap_append]; simp
theorem bytesN_getD (s : ByteArray) {j : Nat} (h : j < s.size) : (bytesN s).getD j 0 = (s.data.toList.getD j 0).toNat := by
  have hb : j < (bytesN s).length := by rw [bytesN_len]; exact h
  have hb2 : j < s.data.toList.length := by simpa using h
  rw [List.getD_eq_getElem?_getD, List.getElem?_eq_getElem hb, List.getD_eq_getElem?_getD, List.getElem?_eq_getElem hb2]
  simp [bytesN, B]
theorem quoteB_bytes (s : ByteArray) : bytesN (quoteB s) = quoteM (bytesN s) := (chr_bytes (quoteM_lt (fun _ hc => bytesN_lt hc))).2
theorem cell_of_same {w w' : World} {b j : Nat} (h : w'.heap[b]? = w.heap[b]?) : w'.cell? ⟨b, j, none⟩ = w.cell? ⟨b, j, none⟩ := by
  unfold World.cell?; rw [h]
theorem chr_app (a b : List Nat) : chr (a ++ b) = chr a ++ chr b := by simp [chr]
set_option maxHeartbeats 3200000 in
set_option maxRecDepth 100000 in
theorem quote_is (s : ByteArray) (w : World) (hs : s.size ≤ 400000) : Calls Try.prog 19 #[.string s] w fun e w' => e = .returned (.string (quoteB s)) ∧ Below w.heap.size w w' := by
  have hcv := fun W => Lib.run_convert_string_bytes (P := Try.prog) W 9 46 5 s Try.underlying9 Try.underlying46 Try.underlying5
  have hba := alloc_below w (.cells #[.pointer none, .slice none 0 0] 62)
  have hsz := World.size_alloc w (.cells #[.pointer none, .slice none 0 0] 62)
  have hBA : BA w.heap.size (w.heap.size + 1) [] (w.alloc (.cells #[.pointer none, .slice none 0 0] 62)) :=
    ⟨_, _, heap_alloc_new w _, .inl rfl, World.ownsRow_nil _ _ _ _, by simp [Value.ownBlock], by simp [Value.ownBlock]⟩
  have hcw := hcv (w.alloc (.cells #[.pointer none, .slice none 0 0] 62))
  have hcell : ∀ j (h : j < s.size), (Lib.bytesWorld (w.alloc (.cells #[.pointer none, .slice none 0 0] 62)) 5 s).cell? ⟨w.heap.size + 1, j, none⟩ = some (.int .u8 ((bytesN s).getD j 0 : Nat)) := by
    intro j h
    rw [← hsz, Lib.bytesWorld_cell _ 5 s j h]
    rw [bytesN_getD s h]
  have hbw : Below (w.alloc (.cells #[.pointer none, .slice none 0 0] 62)).heap.size (w.alloc (.cells #[.pointer none, .slice none 0 0] 62)) (Lib.bytesWorld (w.alloc (.cells #[.pointer none, .slice none 0 0] 62)) 5 s) := ⟨rfl, rfl, rfl, by rw [Lib.bytesWorld_size]; omega, fun k hk => Lib.bytesWorld_at_old _ 5 s k hk⟩
  have hBA2 := hBA.below hbw
  have hB2 : Below w.heap.size w (Lib.bytesWorld (w.alloc (.cells #[.pointer none, .slice none 0 0] 62)) 5 s) := hba.trans (hbw.mono (by omega))
  have hws : w.heap.size + 1 < (Lib.bytesWorld (w.alloc (.cells #[.pointer none, .slice none 0 0] 62)) 5 s).heap.size := by rw [Lib.bytesWorld_size]; omega
  rw [hsz] at hcw
  clear hcv hBA hba hbw
  have HC := Lib.hid hcell
  clear hcell
  go_enter Try.func19, Try.ntmps19
  go_upto_region 3 with fail
  generalize Lib.bytesWorld (w.alloc (.cells #[.pointer none, .slice none 0 0] 62)) 5 s = W at *
  generalize grownCap (w.alloc (.cells #[.pointer none, .slice none 0 0] 62)) s.size 0 5 = gc at *
  have HB2 := Lib.hid hB2
  have HBA := Lib.hid hBA2
  clear hcw hBA2 hB2 hsz
  go_loopw [9] (fun vi wr => ∃ k : Nat, k ≤ s.size ∧ vi = .int .i64 k ∧ Hid (BA w.heap.size (w.heap.size + 1) (chr (quoteM ((bytesN s).take k))) wr) ∧ Hid (Below w.heap.size w wr) ∧ w.heap.size + 1 < wr.heap.size ∧ Hid (wr.heap[w.heap.size + 1]? = W.heap[w.heap.size + 1]?)) (fun vi _ => s.size - (intOf vi).toNat)
  case atStart => exact ⟨0, Nat.zero_le _, rfl, HBA, HB2, hws, Lib.hid rfl⟩
  case round =>
    clear HBA HB2 hws
    obtain ⟨k, hk, rfl, HA, HB, hlt, HS⟩ := hrel
    by_cases hks : k < s.size
    · have hkb : k < (bytesN s).length := by rw [bytesN_len]; exact hks
      have hc0 := (cell_of_same (j := k) HS.out).trans (HC.out k hks)
      obtain ⟨c, hce⟩ : ∃ c, (bytesN s).getD k 0 = c := ⟨_, rfl⟩
      have hce2 : (bytesN s)[k] = c := by rw [← hce, List.getD_eq_getElem?_getD, List.getElem?_eq_getElem hkb]; rfl
      have hc6 : c < 256 := hce2 ▸ bytesN_lt (List.getElem_mem hkb)
      rw [hce] at hc0
      have HT : Hid (quoteM ((bytesN s).take (k + 1)) = quoteM ((bytesN s).take k) ++ (if oddB c = true then [92, c] else [c])) := Lib.hid (by rw [quoteM_take hkb, hce2])
      have hidx := Try.strings_IndexByte ⟨#[42, 43, 63, 124, 40, 41, 91, 93, 92, 46]⟩ (c : Int) wr
      have hlen : (chr (quoteM ((bytesN s).take k))).length ≤ 800000 := by
        have h1 := quoteM_len ((bytesN s).take k)
        have h2 : ((bytesN s).take k).length ≤ k := by simp; omega
        simp only [chr, List.length_map]; omega
      clear hce hce2
      go_wp2_with fail
      refine hidx.mono ?_
      rintro e w1 ⟨rfl, hww⟩
      obtain rfl := hww.symm
      clear hidx
      cases hod : oddB c with
      | true =>
        have hix := odd_out c hc6 hod
        obtain ⟨ix, hixe⟩ : ∃ ix, Lib.indexByte (⟨#[42, 43, 63, 124, 40, 41, 91, 93, 92, 46]⟩ : ByteArray).data.toList ((c : Int).toNat.toUInt8) = ix := ⟨_, rfl⟩
        change 0 ≤ Lib.indexByte (⟨#[42, 43, 63, 124, 40, 41, 91, 93, 92, 46]⟩ : ByteArray).data.toList ((c : Int).toNat.toUInt8) at hix
        rw [hixe] at hix ⊢
        have k1 := wbyte2_is w.heap.size (w.heap.size + 1) _ 92 wr HA.out hlt (by omega) (by omega)
        clear hixe
        go_wp2_with fail
        refine k1.mono ?_
        rintro e w2 ⟨rfl, a2, b2, s2⟩
        have hs2 := b2.size
        have k2 := wbyte2_is w.heap.size (w.heap.size + 1) _ c w2 a2 (by omega) (by omega) (by rw [List.length_append]; simp only [List.length_cons, List.length_nil]; omega)
        have HB2 := Lib.hid (HB.out.trans b2)
        have HS2 := Lib.hid (s2.trans HS.out)
        clear k1 a2 b2 s2
        go_wp2_with fail
        refine k2.mono ?_
        rintro e w3 ⟨rfl, a3, b3, s3⟩
        have hs3 := b3.size
        have HA3 : Hid (BA w.heap.size (w.heap.size + 1) (chr (quoteM ((bytesN s).take (k + 1)))) w3) := Lib.hid (by rw [HT.out, if_pos hod, chr_app]; simpa [chr] using a3)
        have HB3 := Lib.hid (HB2.out.trans b3)
        have HS3 := Lib.hid (s3.trans HS2.out)
        clear k2 a3 b3 s3
        go_wp2
        go_roundw
        case rel => exact ⟨k + 1, by omega, by go_num, HA3, HB3, by omega, HS3⟩
        case measure => (simp [intOf]; try omega)
      | false =>
        have hix : Lib.indexByte (⟨#[42, 43, 63, 124, 40, 41, 91, 93, 92, 46]⟩ : ByteArray).data.toList ((c : Int).toNat.toUInt8) = -1 := odd_in c hc6 hod
        rw [hix]
        have k2 := wbyte2_is w.heap.size (w.heap.size + 1) _ c wr HA.out hlt (by omega) (by omega)
        clear hix
        go_wp2_with fail
        refine k2.mono ?_
        rintro e w3 ⟨rfl, a3, b3, s3⟩
        have hs3 := b3.size
        have HA3 : Hid (BA w.heap.size (w.heap.size + 1) (chr (quoteM ((bytesN s).take (k + 1)))) w3) := Lib.hid (by rw [HT.out, if_neg (by rw [hod]; simp), chr_app]; simpa [chr] using a3)
        have HB3 := Lib.hid (HB.out.trans b3)
        have HS3 := Lib.hid (s3.trans HS.out)
        clear k2 a3 b3 s3
        go_wp2
        go_roundw
        case rel => exact ⟨k + 1, by omega, by go_num, HA3, HB3, by omega, HS3⟩
        case measure => (simp [intOf]; try omega)
    · obtain rfl : k = s.size := by omega
      have hall : (bytesN s).take s.size = bytesN s := by rw [← bytesN_len, List.take_length]
      have hbu := HA.out.is
      rw [hall, (chr_bytes (quoteM_lt (fun _ hc => bytesN_lt hc))).1] at hbu
      have hstr := Try.Builder_String_any w.heap.size w.heap.size ((quoteM (bytesN s)).map UInt8.ofNat) wr hbu (by omega)
      clear hbu hall
      go_wp2_with fail
      refine hstr.mono ?_
      rintro e w6 ⟨rfl, hb6⟩
      clear hstr
      go_wp2
      go_ret
      exact ⟨rfl, HB.out.trans hb6⟩
end Go.Proofs.Ytlepnnbgecneeaa
