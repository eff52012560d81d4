/- WordApart: the walk. -/
import Derived.Test.YtpoaoicehoihdaaDoorLives
import Derived.Test.YtpoaoicehoihdaaDoorWordLaw
import Derived.Test.YtpoaoicehoihdaaDoorSame
import Derived.Test.YtpoaoicehoihdaaDoorEarly
namespace Go.Proofs.YtpoaoicehoihdaaDoor.lawApart
open Go.RowKit

set_option maxHeartbeats 400000 in
set_option maxRecDepth 100000 in
theorem walk (a b : ByteArray) (w : World) (_hsh : w.ShapedOpen Tryd.prog) (ha : a.size ≤ maxLen) (hb : b.size ≤ maxLen) :
    Calls Tryd.prog 4 #[.string a, .string b] w fun e w' => e = .returned (.bool true) ∧ Below w.heap.size w w' := by
  go_enter Tryd.func4, Tryd.ntmps4
  go_wp2_with (go_at_call 10; refine (lives_any _).mono ?_; rintro e w1 ⟨rfl, hb1⟩)
  refine (early_any a w1 ha).mono ?_
  rintro e w1' ⟨s, rfl, hs, _, rfl⟩
  go_wp2_with fail
  refine (split_calls s w1 (by omega)).mono ?_
  rintro e w2 (⟨v2, l, rfl, hl, hv2, hb2⟩ | ⟨rfl, hl, hb2⟩)
  · have hb12 := hb1.trans (hb2.mono hb1.size)
    go_wp2_with fail
    refine (early_any b w2 hb).mono ?_
    rintro e w2' ⟨t, rfl, ht, _, rfl⟩
    go_wp2_with fail
    refine (split_calls t w2 (by omega)).mono ?_
    rintro e w3 (⟨v3, m, rfl, hm, hv3, hb3⟩ | ⟨rfl, hm, hb3⟩)
    · have hb13 := hb12.trans (hb3.mono hb12.size)
      have r2 : RdAt w3 v2 l.length 1 (l.map Value.string) := (RdAt.own hv2).later hb3
      have r3 : RdAt w3 v3 m.length 1 (m.map Value.string) := RdAt.own hv3
      have hl1 := splitL_len hl
      have hm1 := splitL_len hm
      rw [List.length_map, len_B] at hl1 hm1
      have hok : ∀ x ∈ (l ++ m).map B, WordOk x := by
        intro x hx
        rw [List.map_append, List.mem_append] at hx
        rcases hx with hx | hx
        · exact splitL_ok hl x hx
        · exact splitL_ok hm x hx
      have hlen : (Lib.join ((l ++ m).map B) [32]).length ≤ 2000 := by
        have h1 := splitL_sum hl
        have h2 := splitL_sum hm
        have h3 := join_len ((l ++ m).map B)
        rw [len_B] at h1 h2
        rw [List.map_append, List.map_append, List.sum_append, List.length_append, List.length_map, List.length_map] at h3
        rw [List.map_append]
        omega
      have HOK := Lib.hid hok
      have HLEN := Lib.hid hlen
      clear hl hm hok hlen hv2 hv3 hb2 hb3
      obtain ⟨i0, hi, hz0, hz1, hz2⟩ := info_parts info9
      go_wp2_with (first
        | (at_builtin; refine wpList_append_rd rfl (.const (.slice none 0 0)) (.tmp 34) 27 rfl w3.heap.size 9 i0 (.string ⟨#[]⟩) 1 16 Tryd.underlying27 hi hz0 hz1 hz2 rfl (by decide) (.slice none 0 0) 0 [] rfl (World.ownsRow_nil _ _ _ _) v2 l.length (l.map Value.string) rfl r2 (string_cells l) (by unfold maxLen; omega) (by omega) (Nat.le_refl _) ?_; intro v4 w4 hown4 hg4; rw [Nat.zero_add, List.nil_append] at hown4; have hb4 := below_of_grown hg4 (fun k hk => by cases hk); have r4 := r3.later hb4; have hz4 := hb4.size)
        | (at_builtin; refine wpList_append_rd rfl (.tmp 35) (.tmp 36) 27 rfl w3.heap.size 9 i0 (.string ⟨#[]⟩) 1 16 Tryd.underlying27 hi hz0 hz1 hz2 rfl (by decide) v4 l.length (l.map Value.string) rfl hown4 v3 m.length (m.map Value.string) rfl r4 (string_cells m) (by unfold maxLen; omega) (by omega) hz4 ?_; intro v5 w5 hown5 hg5)
        | fail)
      have hb15 : Below w.heap.size w w5 := (hb13.trans (hb4.mono hb13.size)).grown hg5 (by have := hb13.size; omega) (fun k hk => Nat.le_trans hb13.size (hown4.lt k hk).1)
      have hS : StrsAt w5 v5 (l ++ m) := StrsAt.own (base := w3.heap.size) (e := 9) (by rw [List.length_append, List.map_append]; exact hown5) (by rw [List.length_append]; omega)
      have hJ := join_any w5 hS (by have := HLEN.out; omega)
      have eJ : joinR ((l ++ m).map B) = (Lib.join ((l ++ m).map B) [32], 0) := by rw [joinR, if_pos (splitL_join HOK.out)]
      rw [eJ] at hJ
      clear eJ hown5 hg5 hown4 hg4 hb4 r4 r2 r3
      refine hJ.mono ?_
      rintro e w6 ⟨x, rfl, hx, hb6⟩
      have hx1 : x.size ≤ 2000 := by rw [← len_B, hx]; exact HLEN.out
      have HX := Lib.hid hx
      clear hx hJ
      have hS6 := hS.later hb6
      have hb16 := hb15.trans (hb6.mono hb15.size)
      have hT : splitL (B (⟨#[32, 32]⟩ ++ x ++ ⟨#[32, 9, 32, 35, 32, 105, 116, 39, 115, 32, 34, 113, 117, 111, 116, 101, 100, 34]⟩)) = some ((l ++ m).map B) := by
        rw [B_append, B_append, HX.out, List.append_assoc]
        exact splitL_around HOK.out [32, 32] _ (by decide) (PostOk.hash [32, 9, 32] [32, 105, 116, 39, 115, 32, 34, 113, 117, 111, 116, 101, 100, 34] (by decide) (by decide)) (by decide)
      have hZ : ((⟨#[32, 32]⟩ : ByteArray) ++ x ++ ⟨#[32, 9, 32, 35, 32, 105, 116, 39, 115, 32, 34, 113, 117, 111, 116, 101, 100, 34]⟩).size ≤ 3000 := by
        rw [ByteArray.size_append, ByteArray.size_append]
        show 2 + x.size + 18 ≤ 3000
        omega
      have hsp := fun W => split_some _ W (by omega) hT
      have HSP := Lib.hid hsp
      clear hsp hT hZ
      go_wp2_with fail
      refine (HSP.out _).mono ?_
      rintro e w7 ⟨v7, n, rfl, hn, hv7, hb7⟩
      obtain rfl : n = l ++ m := mapB_inj hn
      have hS7 := hS6.later hb7
      have hb17 := hb16.trans (hb7.mono hb16.size)
      have hq := same_any w7 (StrsAt.own hv7 hS7.2) hS7
      rw [decide_eq_true rfl] at hq
      clear HSP hn hS hS6
      go_wp2_with (go_at_call 15; refine hq.mono ?_; rintro e w8 ⟨rfl, hb8⟩)
      go_ret
      exact ⟨rfl, hb17.trans (hb8.mono hb17.size)⟩
    · go_wp2
      go_ret
      exact ⟨rfl, hb12.trans (hb3.mono hb12.size)⟩
  · go_wp2_with fail
    refine (early_any b w2 hb).mono ?_
    rintro e w2' ⟨t, rfl, ht, _, rfl⟩
    go_wp2_with fail
    have hb12 := hb1.trans (hb2.mono hb1.size)
    refine (split_calls t w2 (by omega)).mono ?_
    rintro e w3 (⟨v3, m, rfl, hm, hv3, hb3⟩ | ⟨rfl, hm, hb3⟩)
    all_goals
      go_wp2
      go_ret
      exact ⟨rfl, hb12.trans (hb3.mono hb12.size)⟩
end Go.Proofs.YtpoaoicehoihdaaDoor.lawApart
