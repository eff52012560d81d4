/- slices.Equal and strings.Join at slices that read as strings; word.Join: contracts. -/
import Derived.Test.YtpoaoicehoihdaaDoorStrs
import Derived.Test.YtpoaoicehoihdaaDoorSplit
namespace Go.Proofs.YtpoaoicehoihdaaDoor
open Go.RowKit

theorem equal_any (w : World) {v u : Value} {ws us : List ByteArray} (hv : StrsAt w v ws) (hu : StrsAt w u us) :
    Calls Tryd.prog 31 #[v, u] w fun e w' => e = .returned (.bool (decide (ws = us))) ∧ Below w.heap.size w w' := by
  have hm := hv.2
  have hm' := hu.2
  obtain ⟨a, c, rfl, hc, hr⟩ := hv.shape
  obtain ⟨a', c', rfl, hc', hr'⟩ := hu.shape
  by_cases hl : ws.length = us.length
  · by_cases h0 : ws = []
    · subst h0
      have h0' : us = [] := List.length_eq_zero_iff.1 hl.symm
      subst h0'
      refine (Tryd.slices_Equal_string_empty a a' c 0 c' w (by omega)).mono ?_
      rintro e w' ⟨rfl, rfl⟩
      exact ⟨by simp, Below.refl _ _⟩
    · have h0' : us ≠ [] := fun h => h0 (List.length_eq_zero_iff.1 (by rw [hl, h]; rfl))
      obtain ⟨b, o, rfl, hlt, hcell⟩ := hr h0
      obtain ⟨b', o', rfl, hlt', hcell'⟩ := hr' h0'
      refine (Tryd.slices_Equal_string b o ws.length c b' o' us.length c' ws us w (Nat.le_refl _) (Nat.le_refl _) (by omega) (by omega)
        (fun j hj => hcell j _ (by simp [List.getD, hj])) (fun j hj => hcell' j _ (by simp [List.getD, hj]))).mono ?_
      rintro e w' ⟨rfl, q, rfl⟩
      refine ⟨by simp, ?_⟩
      exact bl_drewN (Below.refl _ _) q
  · refine (Tryd.slices_Equal_string_lens a a' ws.length c us.length c' w hl).mono ?_
    rintro e w' ⟨rfl, rfl⟩
    exact ⟨by rw [decide_eq_false (fun h => hl (by rw [h]))], Below.refl _ _⟩

theorem sjoin_any (w : World) {v : Value} {ws : List ByteArray} (sep : ByteArray) (hv : StrsAt w v ws) (hl : (Lib.join (ws.map B) (B sep)).length ≤ 140737488355328) :
    Calls Tryd.prog 30 #[v, .string sep] w fun e w' => ∃ s : ByteArray, e = .returned (.string s) ∧ B s = Lib.join (ws.map B) (B sep) ∧ Below w.heap.size w w' := by
  have hm := hv.2
  obtain ⟨a, c, rfl, hc, hr⟩ := hv.shape
  by_cases h0 : ws = []
  · subst h0
    refine (Tryd.strings_Join_none a c sep w).mono ?_
    rintro e w' ⟨rfl, rfl⟩
    exact ⟨_, rfl, rfl, Below.refl _ _⟩
  · obtain ⟨b, o, rfl, hlt, hcell⟩ := hr h0
    refine (Tryd.strings_Join b o c ws sep w hcell hlt (by omega) hc hl).mono ?_
    rintro e w' ⟨rfl, hb⟩
    exact ⟨_, rfl, rfl, hb⟩

/-- what word.Join gives -/
def joinR (ws : List (List UInt8)) : List UInt8 × Int :=
  if splitL (Lib.join ws [32]) = some ws then (Lib.join ws [32], 0) else ([], 1)

set_option maxHeartbeats 400000 in
theorem join_any (w : World) {v : Value} {ws : List ByteArray} (hv : StrsAt w v ws) (hl : (Lib.join (ws.map B) [32]).length ≤ 1073741824) :
    Calls Tryd.prog 14 #[v] w fun e w' => ∃ s : ByteArray, e = .returned (.tuple #[.string s, .int .i64 (joinR (ws.map B)).2]) ∧ B s = (joinR (ws.map B)).1 ∧ Below w.heap.size w w' := by
  have hj := sjoin_any w ⟨#[32]⟩ hv (by show (Lib.join _ [32]).length ≤ _; omega)
  go_enter Tryd.func14, Tryd.ntmps14
  go_wp2_with fail
  refine hj.mono ?_
  rintro e w1 ⟨s, rfl, hs, hb1⟩
  have hs' : B s = Lib.join (ws.map B) [32] := hs
  have hv1 := hv.later hb1
  have hsz : s.size ≤ 1073741824 := by rw [← len_B, hs']; exact hl
  have hsp := split_calls s w1 hsz
  clear hs hj hl
  have HJ := Lib.hid hs'
  clear hs'
  have hsz2 := hb1.size
  go_wp2_with fail
  refine hsp.mono ?_
  rintro e w2 (⟨v2, us, rfl, h2, hown, hb2⟩ | ⟨rfl, h2, hb2⟩)
  · have hv2 := hv1.later hb2
    have hu : StrsAt w2 v2 us := StrsAt.own hown (by have := splitL_len h2; rw [List.length_map, len_B] at this; omega)
    have hb12 := hb1.trans (hb2.mono hsz2)
    have he := equal_any w2 hu hv2
    have HR : Hid (joinR (ws.map B) = if us = ws then (B s, 0) else ([], 1)) := by
      show _ = _
      rw [joinR, ← HJ.out, h2]
      by_cases h : us = ws
      · rw [if_pos (by rw [h]), if_pos h]
      · rw [if_neg (fun h' => h (mapB_inj (Option.some.inj h'))), if_neg h]
    clear h2
    by_cases h : us = ws
    · rw [decide_eq_true h] at he
      have HH := Lib.hid h
      clear h
      go_wp2_with (go_at_call 31; refine he.mono ?_; rintro e w3 ⟨rfl, hb3⟩)
      go_ret2
      exact ⟨s, by rw [HR.out, if_pos HH.out]; rfl, by rw [HR.out, if_pos HH.out], hb12.trans (hb3.mono hb12.size)⟩
    · rw [decide_eq_false h] at he
      have HH := Lib.hid h
      clear h
      go_wp2_with (go_at_call 31; refine he.mono ?_; rintro e w3 ⟨rfl, hb3⟩)
      go_ret2
      exact ⟨⟨#[]⟩, by rw [HR.out, if_neg HH.out]; rfl, by rw [HR.out, if_neg HH.out], hb12.trans (hb3.mono hb12.size)⟩
  · have HR : Hid (joinR (ws.map B) = ([], 1)) := by
      show _ = _
      rw [joinR, ← HJ.out, h2]
      rfl
    clear h2
    have hb12 := hb1.trans (hb2.mono hsz2)
    go_wp2
    go_ret2
    exact ⟨⟨#[]⟩, by rw [HR.out]; rfl, by rw [HR.out], hb12⟩
end Go.Proofs.YtpoaoicehoihdaaDoor
