/- WordNames: the walk. -/
import Derived.Test.YtpoaoicehoihdaaDoorLives
import Derived.Test.YtpoaoicehoihdaaDoorEarly
import Derived.Test.YtpoaoicehoihdaaDoorFew
import Derived.Test.YtpoaoicehoihdaaDoorRefNames
import Derived.Test.YtpoaoicehoihdaaDoorRefNumber
import Derived.Test.YtpoaoicehoihdaaDoorRefJoin
namespace Go.Proofs.YtpoaoicehoihdaaDoor.lawNames
open Go.RowKit

/-- the names, or none, and the code -/
def namesC (l : List UInt8) : List (List UInt8) × Int := match namesL l with
  | some ns => (ns, 0)
  | none => ([], 2)
theorem namesU {s : ByteArray} {w : World} {e : Ending} {w' : World} (h : NamesPost s w e w') : ∃ v ws, e = .returned (.tuple #[v, .int .i64 (namesC (B s)).2]) ∧ ws.map B = (namesC (B s)).1 ∧ StrsAt w' v ws ∧ Below w.heap.size w w' := by
  rcases h with ⟨v, ws, rfl, h2, h3, _, h4⟩ | ⟨rfl, h2, h3⟩
  · exact ⟨v, ws, by rw [namesC, h2], by rw [namesC, h2], h3, h4⟩
  · exact ⟨_, [], by rw [namesC, h2], by rw [namesC, h2]; rfl, StrsAt.nil _, h3⟩
theorem few_sum (xs : List ByteArray) (d : UInt8) : (Lib.join ((lawFew.fewL xs).map B) [d]).length ≤ 2000 := by
  have h1 := commas_len ((lawFew.fewL xs).map B) d
  have h2 : ∀ l : List ByteArray, ((l.map fun x => x.extract 0 (min x.size 60)).map B |>.map List.length).sum ≤ 60 * l.length := by
    intro l
    induction l with
    | nil => simp
    | cons x l ih =>
      simp only [List.map_cons, List.sum_cons, List.length_cons]
      have : (B (x.extract 0 (min x.size 60))).length ≤ 60 := by rw [len_B, ByteArray.size_extract]; omega
      omega
  have h3 := h2 (xs.take 30)
  have h4 := lawFew.fewL_len xs
  rw [List.length_map, h4] at h1
  rw [List.length_take] at h3
  have h5 : ((List.map B (lawFew.fewL xs)).map List.length).sum ≤ 60 * min 30 xs.length := h3
  omega

set_option maxHeartbeats 1600000 in
set_option maxRecDepth 100000 in
theorem walk (a : ByteArray) (v0 : Value) (xs : List ByteArray) (w : World) (hsh : w.ShapedOpen Tryd.prog) (ha : a.size ≤ maxLen) (hA : ArgStrs w v0 xs) :
    Calls Tryd.prog 7 #[.string a, v0] w fun e w' => e = .returned (.bool true) ∧ Below w.heap.size w w' := by
  have hM := MaxAt.of_shaped hsh
  clear hsh
  have hj32 := few_sum xs 32
  have hj44 := few_sum xs 44
  obtain ⟨fs, hfs⟩ : ∃ fs, lawFew.fewL xs = fs := ⟨_, rfl⟩
  rw [hfs] at hj32 hj44
  go_enter Tryd.func7, Tryd.ntmps7
  go_wp2_with (go_at_call 10; refine (lives_any _).mono ?_; rintro e w1 ⟨rfl, hb1⟩)
  refine (early_any a w1 ha).mono ?_
  rintro e w1' ⟨s, rfl, hs, _, rfl⟩
  have hF := lawFew.few_any w1 (hA.later hb1)
  rw [hfs] at hF
  clear hA ha hfs
  go_wp2_with fail
  refine hF.mono ?_
  rintro e w2 ⟨vf, rfl, hvf, _, hb2⟩
  have hb12 := hb1.trans (hb2.mono hb1.size)
  have hn := names_any s w2 (hM.later hb12) (by omega)
  obtain ⟨c, hc⟩ : ∃ c, (namesC (B s)).2 = c := ⟨_, rfl⟩
  clear hF hM
  go_wp2_with fail
  refine hn.mono ?_
  rintro e w3 hp3
  obtain ⟨v3, ns, rfl, hns, hS3, hb3⟩ := namesU hp3
  rw [hc]
  have hb13 := hb12.trans (hb3.mono hb12.size)
  have hvf3 := hvf.later hb3
  have hrn := refNames.names_any s w3 (by omega)
  clear hp3 hn hvf
  go_wp2_with fail
  refine hrn.mono ?_
  rintro e w4 hp4
  obtain ⟨v4, ms, rfl, hms, hS4, hb4⟩ := namesU hp4
  rw [hc]
  obtain rfl : ms = ns := mapB_inj (hms.trans hns.symm)
  have hb14 := hb13.trans (hb4.mono hb13.size)
  have hvf4 := hvf3.later hb4
  have hS34 := hS3.later hb4
  have hnu := number_any s w4 (by unfold maxLen; omega)
  obtain ⟨n, hnn⟩ : ∃ n, (numR (B s)).1 = n := ⟨_, rfl⟩
  obtain ⟨d, hd⟩ : ∃ d, (numR (B s)).2 = d := ⟨_, rfl⟩
  rw [hnn, hd] at hnu
  clear hp4 hrn hvf3 hS3 hns hms hc
  go_wp2_with fail
  refine hnu.mono ?_
  rintro e w5 ⟨rfl, hb5⟩
  have hb15 := hb14.trans (hb5.mono hb14.size)
  have hvf5 := hvf4.later hb5
  have hS35 := hS34.later hb5
  have hS45 := hS4.later hb5
  have hrnu := refNumber.number_any s w5 (by unfold maxLen; omega)
  rw [hnn, hd] at hrnu
  clear hnu hvf4 hS34 hS4 hnn hd
  go_wp2_with fail
  refine hrnu.mono ?_
  rintro e w6 ⟨rfl, rfl⟩
  have hj := join_any w5 hvf5 (by omega)
  obtain ⟨jc, hjc⟩ : ∃ jc, (joinR (fs.map B)).2 = jc := ⟨_, rfl⟩
  rw [hjc] at hj
  clear hrnu
  go_wp2_with fail
  refine hj.mono ?_
  rintro e w7 ⟨x, rfl, hx, hb7⟩
  have hb17 := hb15.trans (hb7.mono hb15.size)
  have hvf7 := hvf5.later hb7
  have hS37 := hS35.later hb7
  have hS47 := hS45.later hb7
  have hrj := refJoin.join_any w7 hvf7 (by omega)
  rw [hjc] at hrj
  clear hj hvf5 hS35 hS45 hjc
  go_wp2_with fail
  refine hrj.mono ?_
  rintro e w8 ⟨y, rfl, hy, hb8⟩
  obtain rfl : y = x := B_inj (hy.trans hx.symm)
  have hb18 := hb17.trans (hb8.mono hb17.size)
  have hvf8 := hvf7.later hb8
  have hsm := same_any w8 (hS37.later hb8) (hS47.later hb8)
  rw [decide_eq_true rfl] at hsm
  clear hrj hvf7 hS37 hS47 hx hy
  have hxx : (y.toList == y.toList) = true := beq_self_eq_true _
  go_wp2_with fail
  refine hsm.mono ?_
  rintro e w9 ⟨rfl, hb9⟩
  have hb19 := hb18.trans (hb9.mono hb18.size)
  have hvf9 := hvf8.later hb9
  have hnt := namesText_any w9 hvf9 (by omega)
  clear hsm hvf8
  go_wp2_with fail
  refine hnt.mono ?_
  rintro e w10 ⟨z, rfl, hz, hb10⟩
  have hb110 := hb19.trans (hb10.mono hb19.size)
  have hrnt := refJoin.namesText_any w10 (hvf9.later hb10) (by omega)
  clear hnt hvf9
  go_wp2_with fail
  refine hrnt.mono ?_
  rintro e w11 ⟨z', rfl, hz', rfl⟩
  obtain rfl : z' = z := B_inj (hz'.trans hz.symm)
  have hzz : (z'.toList == z'.toList) = true := beq_self_eq_true _
  clear hrnt hz hz'
  go_wp2
  go_ret
  exact ⟨rfl, hb110⟩
end Go.Proofs.YtpoaoicehoihdaaDoor.lawNames
