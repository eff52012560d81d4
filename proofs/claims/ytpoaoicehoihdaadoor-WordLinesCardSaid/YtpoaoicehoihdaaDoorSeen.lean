/- A map of the strings that were seen: made by the call, written in a loop, looked up. No program in sight. -/
import Derived.Test.YtpoaoicehoihdaaDoorStrs
import Derived.Maps.OwnOps
import Derived.Maps.Views
namespace Go.Proofs.YtpoaoicehoihdaaDoor
open Go.RowKit Go.Maps

def keyS (x : ByteArray) : Lit := .string x.data.toList
theorem keyS_isKey (x : ByteArray) : WideAt.IsKeyLit (keyS x) := by simp [WideAt.IsKeyLit, keyS]
/-- the set of what was seen -/
def seenD (xs : List ByteArray) : DataW Unit := setOf (.lit (.bool true)) (xs.map keyS)
theorem seenD_snoc (xs : List ByteArray) (x : ByteArray) : seenD (xs ++ [x]) = (seenD xs).put (keyS x) (.lit (.bool true)) := by
  rw [seenD, List.map_append, List.map_singleton, setOf_snoc]; rfl
theorem keyS_inj {x y : ByteArray} (h : keyS x = keyS y) : x = y := by
  simp only [keyS, Lit.string.injEq] at h
  exact ByteArray.ext (Array.toList_inj.1 h)
theorem seenD_isMap (xs : List ByteArray) : IsMap (seenD xs) := (tidy_setOf _ _ (fun x hx => by obtain ⟨y, _, rfl⟩ := List.mem_map.1 hx; exact keyS_isKey y)).isMap
def seenB (xs : List ByteArray) (x : ByteArray) : Bool := xs.any fun y => decide (y = x)
theorem seenD_at (xs : List ByteArray) (x : ByteArray) : (seenD xs).atKey (keyS x) (.lit (.bool false)) = .lit (.bool (seenB xs x)) := by
  induction xs using snocInd with
  | h0 => rfl
  | h1 l y ih =>
    rw [seenD_snoc]
    by_cases h : x = y
    · subst h
      rw [atKey_put_same (seenD_isMap l) (keyS_isKey x)]
      simp [seenB]
    · rw [atKey_put_other (fun e => h (keyS_inj e)), ih]
      simp [seenB, Ne.symm h]
theorem plainElem_bool_inv {H : Type} {P : Program} {e : TypeId} (he : P.underlying e = some .bool) {v : Value} {z : DataW H × List MemPlace} (h : plainElem P e v = some z) : ∃ x, v = .bool x ∧ z = (.lit (.bool x), []) := by
  unfold plainElem at h
  rw [he] at h
  cases v <;> simp at h
  subst h
  exact ⟨_, rfl, rfl⟩
/-- seen[x] -/
theorem seen_lookup {P : Program} {t k e : TypeId} {w : World} {b n : Nat} {xs : List ByteArray} (h : w.ownsMap P k (plainElem P e) b n (seenD xs)) (ht : P.underlying t = some (.map k e)) (hk : P.underlying k = some .string)
    (he : P.underlying e = some .bool) (hz : (zeroValue e).run P w = .ok (.bool false) w) (x : ByteArray) (hx : x.size ≤ maxLen) :
    (Instr.lookup t (.map (some b)) (.string x) false).run P w = .ok (.bool (seenB xs x)) w := by
  obtain ⟨v, ps, hrun, hv⟩ := h.lookup (string_keyed hk) ht hz (plainElem_bool he false) (kl := keyS x) (WideMaps.keyOf_string_mk hk hx)
  obtain ⟨c, rfl, hc⟩ := plainElem_bool_inv he hv
  rw [seenD_at] at hc
  simp only [Prod.mk.injEq, DataW.lit.injEq, Lit.bool.injEq] at hc
  rw [hrun, hc.1]
end Go.Proofs.YtpoaoicehoihdaaDoor
