/- Slices of strings that are read: what lies in memory, said plainly. -/
import Derived.Test.YtpoaoicehoihdaaDoorBase
namespace Go.Proofs.YtpoaoicehoihdaaDoor
open Go.RowKit

/-- v reads as the strings ws -/
def StrsAt (w : World) (v : Value) (ws : List ByteArray) : Prop :=
  ∃ a c, v = .slice a ws.length c ∧ ws.length ≤ c ∧ ws.length ≤ 1073741824 ∧
    (ws ≠ [] → ∃ b o, a = some ⟨b, o, none⟩ ∧ b < w.heap.size ∧ ∀ (j : Nat) x, ws[j]? = some x → w.cell? ⟨b, o + j, none⟩ = some (.string x))
theorem StrsAt.nil (w : World) (a : Option Addr) (c : Nat) : StrsAt w (.slice a 0 c) [] := ⟨a, c, rfl, Nat.zero_le _, Nat.zero_le _, fun h => absurd rfl h⟩
theorem StrsAt.later {w w' : World} {v : Value} {ws : List ByteArray} (h : StrsAt w v ws) (hb : Below w.heap.size w w') : StrsAt w' v ws := by
  obtain ⟨a, c, rfl, hc, hm, hr⟩ := h
  refine ⟨a, c, rfl, hc, hm, fun hne => ?_⟩
  obtain ⟨b, o, rfl, hlt, hcell⟩ := hr hne
  exact ⟨b, o, rfl, Nat.lt_of_lt_of_le hlt hb.size, fun j x hx => (hb.cell (p := ⟨b, o + j, none⟩) hlt).trans (hcell j x hx)⟩
theorem StrsAt.own {w : World} {base : Nat} {e : TypeId} {v : Value} {ws : List ByteArray} (h : w.ownsRow base e 1 v ws.length (ws.map Value.string)) (hm : ws.length ≤ 1073741824) : StrsAt w v ws := by
  rcases h.2 with ⟨rfl, hn⟩ | ⟨g, cap, cur, rfl, hb, hg, hle, hcap, hsz, htk⟩
  · have : ws = [] := List.length_eq_zero_iff.1 hn
    subst this
    exact StrsAt.nil w none 0
  · refine ⟨_, cap, rfl, hle, hm, fun _ => ⟨g, 0, rfl, (Array.getElem?_eq_some_iff.1 hg).1, fun j x hx => ?_⟩⟩
    have := h.cells (g := g) rfl j (.string x) (by rw [List.getElem?_map, hx]; rfl)
    rw [Nat.zero_add]
    by_cases h0 : j = 0
    · subst h0; simpa [Addr.add] using this
    · simpa [Addr.add, h0] using this
theorem B_inj {a b : ByteArray} (h : B a = B b) : a = b := ByteArray.ext (Array.toList_inj.1 h)
theorem mapB_inj {a b : List ByteArray} (h : a.map B = b.map B) : a = b := by
  induction a generalizing b with
  | nil => cases b with
    | nil => rfl
    | cons _ _ => cases h
  | cons x a ih => cases b with
    | nil => cases h
    | cons y b =>
      simp only [List.map_cons, List.cons.injEq] at h
      rw [B_inj h.1, ih h.2]
end Go.Proofs.YtpoaoicehoihdaaDoor
