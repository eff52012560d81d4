/- lychgatelaw07.lives: it is true. -/
import Derived.Test.YtpoaoicehoihdaaDoorJoin
import Derived.Test.YtpoaoicehoihdaaDoorNum
namespace Go.Proofs.YtpoaoicehoihdaaDoor
open Go.RowKit

/-- int(uint(n) % m) -/
theorem uintMod (n m : Int) (h : 0 < m) (hm : m ≤ 9223372036854775807) : ∃ N : Nat, wrap64 ((IntKind.u64.wrap n).tmod m) = (N : Int) ∧ (N : Int) < m := by
  rw [IntKind.wrap_u64]
  have h1 : 0 ≤ n % 18446744073709551616 := Int.emod_nonneg _ (by omega)
  rw [Int.tmod_eq_emod_of_nonneg h1]
  have h2 := Int.emod_nonneg (n % 18446744073709551616) (Int.ne_of_gt h)
  have h3 := Int.emod_lt_of_pos (n % 18446744073709551616) h
  rw [IntWalk.wrap64_in _ ⟨by omega, by omega⟩]
  exact ⟨_, (Int.toNat_of_nonneg h2).symm, by rw [Int.toNat_of_nonneg h2]; exact h3⟩
def exLine : ByteArray := ⟨#[97, 32, 34, 98, 32, 99, 34, 32, 35, 32, 100]⟩
theorem exSplit : splitL (B exLine) = some [[97], [34, 98, 32, 99, 34]] := by decide +kernel
theorem exJoin : joinR [[97], [34, 98, 32, 99, 34]] = ([97, 32, 34, 98, 32, 99, 34], 0) := by decide +kernel
theorem exNum : numR (B ⟨#[49, 48]⟩) = (10, 0) := by decide +kernel

theorem split_ex (w : World) :
    Calls Tryd.prog 12 #[.string ⟨#[97, 32, 34, 98, 32, 99, 34, 32, 35, 32, 100]⟩] w fun e w' => ∃ b c, e = .returned (.tuple #[.slice (some ⟨b, 0, none⟩) 2 c, .int .i64 0]) ∧ b < w'.heap.size ∧
      w'.cell? ⟨b, 1, none⟩ = some (.string ⟨#[34, 98, 32, 99, 34]⟩) ∧ StrsAt w' (.slice (some ⟨b, 0, none⟩) 2 c) [⟨#[97]⟩, ⟨#[34, 98, 32, 99, 34]⟩] ∧ Below w.heap.size w w' := by
  refine (split_some exLine w (by decide) exSplit).mono ?_
  rintro e w' ⟨v, ws, rfl, hws, hown, hb⟩
  have hws' : ws = [⟨#[97]⟩, ⟨#[34, 98, 32, 99, 34]⟩] := mapB_inj (by rw [hws]; rfl)
  subst hws'
  have hS : StrsAt w' v _ := StrsAt.own hown (by simp)
  rcases hown.2 with ⟨_, hn⟩ | ⟨g, cap, cur, rfl, _, hg, _⟩
  · simp at hn
  · have := hown.cells (g := g) rfl 1 (.string ⟨#[34, 98, 32, 99, 34]⟩) rfl
    exact ⟨g, cap, rfl, (Array.getElem?_eq_some_iff.1 hg).1, by simpa [Addr.add] using this, hS, hb⟩

theorem lives_any (w : World) : Calls Tryd.prog 10 #[] w fun e w' => e = .returned (.bool true) ∧ Below w.heap.size w w' := by
  go_enter Tryd.func10, Tryd.ntmps10
  go_wp2_with fail
  refine (split_ex _).mono ?_
  rintro e w1 ⟨b, c, rfl, hlt, hc1, hS, hb1⟩
  have hj := join_any w1 hS (by decide)
  have e1 : joinR (([⟨#[97]⟩, ⟨#[34, 98, 32, 99, 34]⟩] : List ByteArray).map B) = ([97, 32, 34, 98, 32, 99, 34], 0) := exJoin
  rw [e1] at hj
  clear e1
  go_wp2_with fail
  refine hj.mono ?_
  rintro e w2 ⟨s, rfl, hs, hb2⟩
  obtain rfl : s = ⟨#[97, 32, 34, 98, 32, 99, 34]⟩ := B_inj hs
  have hc2 : w2.cell? ⟨b, 1, none⟩ = some (.string ⟨#[34, 98, 32, 99, 34]⟩) := (hb2.cell (p := ⟨b, 1, none⟩) hlt).trans hc1
  have hlt2 : b < w2.heap.size := Nat.lt_of_lt_of_le hlt hb2.size
  have hb12 := hb1.trans (hb2.mono hb1.size)
  have hn := number_any ⟨#[49, 48]⟩ w2 (by decide)
  rw [exNum] at hn
  clear hj hs
  go_wp2_with fail
  refine hn.mono ?_
  rintro e w3 ⟨rfl, hb3⟩
  have hc3 : w3.cell? ⟨b, 1, none⟩ = some (.string ⟨#[34, 98, 32, 99, 34]⟩) := (hb3.cell (p := ⟨b, 1, none⟩) hlt2).trans hc2
  clear hc1 hc2 hn
  go_wp2
  go_ret
  exact ⟨rfl, hb12.trans (hb3.mono hb12.size)⟩
end Go.Proofs.YtpoaoicehoihdaaDoor
