/- Alerts in memory. -/
import Derived.Test.YtipnhpfpppblhaaGreatAlRight
namespace Go.Proofs.YtipnhpfpppblhaaGreat
open Go.RowKit

theorem fldCells_take (l : List Fld) (i : Nat) : fldCells (l.take i) = (fldCells l).take (i * 2) := by
  induction l generalizing i with
  | nil => simp [fldCells]
  | cons f l ih =>
    cases i with
    | zero => simp [fldCells]
    | succ i => rw [List.take_succ_cons, fldCells, ih, fldCells, show (i + 1) * 2 = i * 2 + 1 + 1 by omega]; rfl
theorem fld_take {w : World} {a : Option Addr} {c : Nat} {fl : List Fld} (h : FldsAt w (.slice a fl.length c) fl) (k : Nat) (hk : k ≤ fl.length) (hn : a = none → fl.length = 0) : FldsAt w (.slice a k c) (fl.take k) := by
  have hl : (fl.take k).length = k := by rw [List.length_take]; omega
  unfold FldsAt at h ⊢
  rw [hl, fldCells_take]
  refine ⟨by rw [List.length_take, fldCells_len]; omega, ?_⟩
  rcases h.2 with ⟨h1, h0⟩ | ⟨ad, c', h1, hc, hr⟩
  · simp only [Value.slice.injEq] at h1
    obtain ⟨rfl, h2, rfl⟩ := h1
    exact .inl ⟨by rw [show k = 0 by omega], by omega⟩
  · simp only [Value.slice.injEq] at h1
    obtain ⟨rfl, _, rfl⟩ := h1
    refine .inr ⟨ad, c, rfl, by omega, fun h0 => ?_⟩
    obtain ⟨b, o, rfl, hlt, hcell⟩ := hr (by omega)
    refine ⟨b, o, rfl, hlt, fun j x hj => hcell j x ?_⟩
    have hjl := (List.getElem?_eq_some_iff.1 hj).1
    rw [List.length_take] at hjl
    rwa [List.getElem?_take_of_lt (by omega)] at hj
/-- alerts in memory -/
def alC (x : Al) (v : Value) : List Value := [.string x.src, v, .int .i64 x.lv, .int .u32 x.c, .int .i64 x.fr, .int .i64 x.til]
def alCells : List (Al × Value) → List Value
  | [] => []
  | p :: l => alC p.1 p.2 ++ alCells l
theorem alCells_len (l : List (Al × Value)) : (alCells l).length = l.length * 6 := by
  induction l with
  | nil => rfl
  | cons x l ih => simp only [alCells, List.length_append, ih, List.length_cons]; simp [alC]; omega
theorem alCells_at : ∀ (l : List (Al × Value)) (j : Nat) (h : j < l.length) (i : Nat) (v : Value), (alC l[j].1 l[j].2)[i]? = some v → (alCells l)[j * 6 + i]? = some v
  | x :: l, 0, _, i, v, hi => by
    have hlt := (List.getElem?_eq_some_iff.1 hi).1
    simp only [alCells]
    rw [List.getElem?_append_left (by simpa using hlt)]
    simpa using hi
  | x :: l, j + 1, h, i, v, hi => by
    simp only [alCells]
    rw [List.getElem?_append_right (by simp [alC]; omega)]
    have := alCells_at l j (by simpa using h) i v (by simpa using hi)
    rw [show (j + 1) * 6 + i - (alC x.1 x.2).length = j * 6 + i by simp [alC]; omega]
    exact this
/-- an alert fits its memory -/
structure AlFit (x : Al) : Prop where
  src : x.src.size ≤ maxLen
  fl : FldsFit x.fl
  len : x.fl.length ≤ maxLen
  c : x.c < 4294967296
structure AlsAt (w : World) (v : Value) (l : List (Al × Value)) : Prop where
  row : RdAt w v l.length 6 (alCells l)
  fld : ∀ p ∈ l, FldsAt w p.2 p.1.fl ∧ AlFit p.1
theorem AlsAt.later {w w' : World} {v : Value} {l : List (Al × Value)} (h : AlsAt w v l) (hb : Below w.heap.size w w') : AlsAt w' v l := ⟨h.row.later hb, fun p hp => ⟨(h.fld p hp).1.later hb, (h.fld p hp).2⟩⟩
end Go.Proofs.YtipnhpfpppblhaaGreat
