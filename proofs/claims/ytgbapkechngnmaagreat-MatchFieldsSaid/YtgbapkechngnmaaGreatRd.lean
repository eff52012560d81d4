/- Slices that are read: what lies in memory, said plainly; append of what is read onto a row of the call's own. No program in sight. -/
import Derived.Test.YtgbapkechngnmaaGreatBase
import Derived.Laws.AppendOwnNone
namespace Go.Proofs.YtgbapkechngnmaaGreat
open Go.RowKit

/-- v is a slice of n elements of k cells each, whose cells read xs -/
def RdAt (w : World) (v : Value) (n k : Nat) (xs : List Value) : Prop :=
  xs.length = n * k ∧ ((v = .slice none 0 0 ∧ n = 0) ∨
    ∃ a c, v = .slice (some a) n c ∧ n ≤ c ∧ (0 < n → ∃ b o, a = ⟨b, o, none⟩ ∧ b < w.heap.size ∧ ∀ (j : Nat) x, xs[j]? = some x → w.cell? ⟨b, o + j, none⟩ = some x))
theorem RdAt.nil (w : World) (k : Nat) : RdAt w (.slice none 0 0) 0 k [] := ⟨by simp, .inl ⟨rfl, rfl⟩⟩
theorem RdAt.later {w w' : World} {v : Value} {n k : Nat} {xs : List Value} (h : RdAt w v n k xs) (hb : Below w.heap.size w w') : RdAt w' v n k xs := by
  refine ⟨h.1, ?_⟩
  rcases h.2 with h | ⟨a, c, rfl, hc, hr⟩
  · exact .inl h
  · refine .inr ⟨a, c, rfl, hc, fun hn => ?_⟩
    obtain ⟨b, o, rfl, hlt, hcell⟩ := hr hn
    exact ⟨b, o, rfl, Nat.lt_of_lt_of_le hlt hb.size, fun j x hx => (hb.cell (p := ⟨b, o + j, none⟩) hlt).trans (hcell j x hx)⟩
theorem RdAt.own {w : World} {base : Nat} {e : TypeId} {v : Value} {n k : Nat} {xs : List Value} (h : w.ownsRow base e k v n xs) : RdAt w v n k xs := by
  refine ⟨h.1, ?_⟩
  rcases h.2 with h' | ⟨g, cap, cur, rfl, hb, hg, hle, hcap, hsz, htk⟩
  · exact .inl h'
  · refine .inr ⟨⟨g, 0, none⟩, cap, rfl, hle, fun _ => ⟨g, 0, rfl, (Array.getElem?_eq_some_iff.1 hg).1, fun j x hx => ?_⟩⟩
    have := h.cells (g := g) rfl j x hx
    rw [Nat.zero_add]
    by_cases h0 : j = 0
    · subst h0; simpa [Addr.add] using this
    · simpa [Addr.add, h0] using this
/-- cells at a place of the call's own -/
theorem RdAt.mk {w : World} {b o n c k : Nat} {xs : List Value} (hl : xs.length = n * k) (hc : n ≤ c) (hlt : b < w.heap.size) (hcell : ∀ (j : Nat) x, xs[j]? = some x → w.cell? ⟨b, o + j, none⟩ = some x) : RdAt w (.slice (some ⟨b, o, none⟩) n c) n k xs :=
  ⟨hl, .inr ⟨_, c, rfl, hc, fun _ => ⟨b, o, rfl, hlt, hcell⟩⟩⟩
/-- the shape, where there is an element -/
theorem RdAt.some {w : World} {v : Value} {n k : Nat} {xs : List Value} (h : RdAt w v n k xs) (hn : 0 < n) :
    ∃ b o c, v = .slice (.some ⟨b, o, none⟩) n c ∧ n ≤ c ∧ b < w.heap.size ∧ ∀ (j : Nat) x, xs[j]? = .some x → w.cell? ⟨b, o + j, none⟩ = .some x := by
  rcases h.2 with ⟨_, h0⟩ | ⟨a, c, rfl, hc, hr⟩
  · omega
  · obtain ⟨b, o, rfl, hlt, hcell⟩ := hr hn
    exact ⟨b, o, c, rfl, hc, hlt, hcell⟩
/-- the shape, whatever the length -/
theorem RdAt.shape {w : World} {v : Value} {n k : Nat} {xs : List Value} (h : RdAt w v n k xs) : ∃ a c, v = .slice a n c ∧ n ≤ c ∧
    (0 < n → ∃ b o, a = .some ⟨b, o, none⟩ ∧ b < w.heap.size ∧ ∀ (j : Nat) x, xs[j]? = .some x → w.cell? ⟨b, o + j, none⟩ = .some x) := by
  rcases h.2 with ⟨rfl, h0⟩ | ⟨a, c, rfl, hc, hr⟩
  · subst h0; exact ⟨none, 0, rfl, Nat.le_refl _, fun h => absurd h (Nat.lt_irrefl _)⟩
  · refine ⟨_, c, rfl, hc, fun hn => ?_⟩
    obtain ⟨b, o, rfl, hlt, hcell⟩ := hr hn
    exact ⟨b, o, rfl, hlt, hcell⟩

/-- v lies in no block that was there -/
def Fresh (w : World) (v : Value) : Prop := ∀ k, v.ownBlock = .some k → w.heap.size ≤ k
theorem string_cells (z : List ByteArray) : ∀ y ∈ z.map Value.string, y.oneCell' = true := by
  intro y hy
  obtain ⟨x, _, rfl⟩ := List.mem_map.1 hy
  rfl
theorem grownBy_refl (w : World) (row : Option Nat) : w.grownBy w row := ⟨rfl, rfl, rfl, Nat.le_refl _, fun _ _ _ => rfl⟩

theorem below_of_grown {w w' : World} {row : Option Nat} (hg : w.grownBy w' row) (hr : ∀ k, row = .some k → w.heap.size ≤ k) : Below w.heap.size w w' := (Below.refl _ _).grown hg (Nat.le_refl _) hr

/-- append of what is read (nil too) onto a row of the call's own -/
theorem wpList_append_rd {P : Program} {w : World} {ops : Array Oper} {rest : List Oper} {o : Oper} {a : Act} {Q : Exit → Act → World → Prop} (hgd : o.guard = none) (s x : Operand) (t : TypeId)
    (ho : o.op = .call { callee := .builtin .append, args := #[s, x], argTypes := #[t, t] })
    (base : Nat) (e : TypeId) (i : TypeInfo) (z : Value) (size bytes : Nat) (ht : P.underlying t = some (.slice e)) (hi : P.info? e = some i) (hz : i.zero = some z)
    (hsize : i.size = size) (hby : i.bytes = bytes) (hzs : z.cells.size = size) (hsz : 0 < size)
    (v : Value) (n : Nat) (xs : List Value) (hs : a.eval s = v) (hown : w.ownsRow base e size v n xs)
    (u : Value) (m : Nat) (news : List Value) (hx : a.eval x = u) (hu : RdAt w u m size news) (h1 : ∀ y ∈ news, y.oneCell' = true)
    (h63 : n + m ≤ maxLen) (hbytes : (n + m) * bytes ≤ 140737488355328) (hbase : base ≤ w.heap.size)
    (h : ∀ v' w', w'.ownsRow base e size v' (n + m) (xs ++ news) → w.grownBy w' v.ownBlock → wpList P ops Q rest (a.put o.dst v') w') : wpList P ops Q (o :: rest) a w := by
  obtain ⟨hl, ⟨rfl, hm⟩ | ⟨ad, c, rfl, _, hr⟩⟩ := hu
  · subst hm
    have hnil : news = [] := List.length_eq_zero_iff.1 (by rw [hl]; simp)
    subst hnil
    refine wpList_append_own_none hgd s x t ho base e i size ht hi v n xs hs hown hx (h v w (by simpa using hown) (grownBy_refl _ _))
  · refine wpList_append_own _ hgd s x t ho base e i z size bytes ht hi hz hsize hby hzs hsz v n xs hs hown ad m c news hx hl (fun j y hj => ?_) h1 h63 hbytes hbase (fun v' w' h2 h3 _ => h v' w' h2 h3)
    have hj' := (List.getElem?_eq_some_iff.1 hj).1
    obtain ⟨b, o', rfl, _, hcell⟩ := hr (by rcases Nat.eq_zero_or_pos m with h0 | h0; (· subst h0; rw [hl, Nat.zero_mul] at hj'; omega); exact h0)
    have := hcell j y hj
    by_cases h0 : j = 0
    · subst h0; simpa [Addr.add] using this
    · simpa [Addr.add, h0] using this
/-! two lists held element by element -/
theorem take_step {α : Type} {a b : List α} {k : Nat} (h : a.take k = b.take k) (ha : k < a.length) (hb : k < b.length) (he : a[k] = b[k]) : a.take (k + 1) = b.take (k + 1) := by
  rw [List.take_succ_eq_append_getElem ha, List.take_succ_eq_append_getElem hb, h, he]
theorem take_done {α : Type} {a b : List α} (hl : a.length = b.length) (h : a.take a.length = b.take a.length) : a = b := by
  rw [List.take_length] at h
  rw [hl, List.take_length] at h
  exact h
theorem ne_at {α : Type} {a b : List α} {k : Nat} (ha : k < a.length) (hb : k < b.length) (he : a[k] ≠ b[k]) : a ≠ b := by
  intro h; subst h; exact he rfl
theorem bytes_eq_iff {x y : ByteArray} : (x.toList == y.toList) = true ↔ x = y := by
  rw [beq_iff_eq, toList_B, toList_B]
  exact ⟨fun h => ByteArray.ext (Array.toList_inj.1 h), fun h => by rw [h]⟩
theorem bytes_ne {x y : ByteArray} (h : (!x.toList == y.toList) = true) : x ≠ y := by
  intro e; rw [bytes_eq_iff.2 e] at h; cases h
theorem bytes_eq {x y : ByteArray} (h : (!x.toList == y.toList) = false) : x = y := bytes_eq_iff.1 (by simpa using h)
theorem bytes_beq (x y : ByteArray) : (x.toList == y.toList) = decide (x = y) := by
  rw [Bool.eq_iff_iff, bytes_eq_iff, decide_eq_true_eq]
end Go.Proofs.YtgbapkechngnmaaGreat
