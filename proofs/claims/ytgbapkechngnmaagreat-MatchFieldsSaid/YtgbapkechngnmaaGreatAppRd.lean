/- append of what is read, at a step of a region that draws its order. No program in sight. -/
import Derived.Test.YtgbapkechngnmaaGreatRd
import Derived.Maps.AppendAt
import Derived.RegionTactic
import Derived.Deep.AppendLies
namespace Go.Proofs.YtgbapkechngnmaaGreat
open Go.RowKit

theorem run_append_rd {P : Program} (w : World) (t ty : TypeId) (base : Nat) (e : TypeId) (i : TypeInfo) (z : Value) (size bytes : Nat) (ht : P.underlying t = some (.slice e)) (hi : P.info? e = some i) (hz : i.zero = some z)
    (hsize : i.size = size) (hby : i.bytes = bytes) (hzs : z.cells.size = size) (hsz : 0 < size)
    (v : Value) (n : Nat) (xs : List Value) (hown : w.ownsRow base e size v n xs) (u : Value) (m : Nat) (news : List Value) (hu : RdAt w u m size news) (h1 : ∀ y ∈ news, y.oneCell' = true)
    (h63 : n + m ≤ maxLen) (hbytes : (n + m) * bytes ≤ 140737488355328) (hbase : base ≤ w.heap.size) :
    ∃ v' w', (Builtin.append_ #[t, t] ty #[v, u]).run P w = .ok v' w' ∧ w'.ownsRow base e size v' (n + m) (xs ++ news) ∧ w.grownBy w' v.ownBlock ∧ (v'.ownBlock = v.ownBlock ∨ v'.ownBlock = some w.heap.size) := by
  obtain ⟨hl, ⟨rfl, hm⟩ | ⟨ad, c, rfl, _, hr⟩⟩ := hu
  · subst hm
    have hnil : news = [] := List.length_eq_zero_iff.1 (by rw [hl]; simp)
    subst hnil
    exact ⟨v, w, run_append_owned_none w base t ty e i size ht hi v n xs hown, by simpa using hown, grownBy_refl _ _, .inl rfl⟩
  · have hq : ∀ j y, news[j]? = some y → w.cell? (ad.add j) = some y := by
      intro j y hj
      have hj' := (List.getElem?_eq_some_iff.1 hj).1
      obtain ⟨b, o', rfl, _, hcell⟩ := hr (by rcases Nat.eq_zero_or_pos m with h0 | h0; (· subst h0; rw [hl, Nat.zero_mul] at hj'; omega); exact h0)
      have := hcell j y hj
      by_cases h0 : j = 0
      · subst h0; simpa [Addr.add] using this
      · simpa [Addr.add, h0] using this
    obtain ⟨v', w', hrun, h2, h3, _, h5⟩ := run_append_own_at (P := P) (w := w) base t ty e i z size bytes ht hi hz hsize hby hzs hsz v n xs hown ad m c news hl hq h1 h63 hbytes hbase
    exact ⟨v', w', hrun, h2, h3, h5⟩
theorem step_append_rd {P : Program} {w : World} {ops : Array Oper} {o : Oper} {a : Act} {K : Act → World → Prop} {Q : Exit → Act → World → Prop} {E : Prop} (hgd : o.guard = none) (s x : Operand) (t : TypeId)
    (ho : o.op = .call { callee := .builtin .append, args := #[s, x], argTypes := #[t, t] })
    (base : Nat) (e : TypeId) (i : TypeInfo) (z : Value) (size bytes : Nat) (ht : P.underlying t = some (.slice e)) (hi : P.info? e = some i) (hz : i.zero = some z)
    (hsize : i.size = size) (hby : i.bytes = bytes) (hzs : z.cells.size = size) (hsz : 0 < size)
    (v : Value) (n : Nat) (xs : List Value) (hs : a.eval s = v) (hown : w.ownsRow base e size v n xs)
    (u : Value) (m : Nat) (news : List Value) (hx : a.eval x = u) (hu : RdAt w u m size news) (h1 : ∀ y ∈ news, y.oneCell' = true)
    (h63 : n + m ≤ maxLen) (hbytes : (n + m) * bytes ≤ 140737488355328) (hbase : base ≤ w.heap.size)
    (h : ∀ v' w', w'.ownsRow base e size v' (n + m) (xs ++ news) → w.grownBy w' v.ownBlock → (v'.ownBlock = v.ownBlock ∨ v'.ownBlock = some w.heap.size) → K (a.put o.dst v') w') :
    if Region.wanted o (yielded ops a.tmps) = true then Oper.wp P o a w K Q else E := by
  have hw : Region.wanted o (yielded ops a.tmps) = true := by simp [Region.wanted, hgd]
  rw [if_pos hw]
  obtain ⟨v', w', hr, h2, h3, h4⟩ := run_append_rd (P := P) w t o.type base e i z size bytes ht hi hz hsize hby hzs hsz v n xs hown u m news hu h1 h63 hbytes hbase
  unfold Oper.wp execOp
  simp only [ho, resolve, invoke, builtin, Sem.run_bind, Sem.run_pure, Result.andThen_ok, List.map_toArray, List.map_cons, List.map_nil, hs, hx, hr]
  exact h v' w' h2 h3 h4
/-- the front of a row -/
theorem RdAt.take {w : World} {g n cap : Nat} {xs : List Value} (h : RdAt w (.slice (.some ⟨g, 0, none⟩) n cap) n 1 xs) (k : Nat) (hk : k ≤ n) (hkc : k ≤ cap) : RdAt w (.slice (.some ⟨g, 0, none⟩) k cap) k 1 (xs.take k) := by
  refine ⟨by rw [List.length_take, h.1]; omega, .inr ⟨_, _, rfl, hkc, fun h0 => ?_⟩⟩
  obtain ⟨b, o, c, he, _, hlt, hcell⟩ := h.some (by omega)
  cases he
  exact ⟨g, 0, rfl, hlt, fun j x hx => hcell j x (by rw [List.getElem?_take] at hx; split at hx; exact hx; cases hx)⟩
/-- the end of a row -/
theorem RdAt.drop {w : World} {g n cap : Nat} {xs : List Value} (h : RdAt w (.slice (.some ⟨g, 0, none⟩) n cap) n 1 xs) (k : Nat) (hk : k ≤ n) (hkc : n ≤ cap) (a : Option Addr) (ha : k < n → a = .some ⟨g, k, none⟩) (ha' : a ≠ none) (m c : Nat) (hm : m = n - k) (hc : c = cap - k) :
    RdAt w (.slice a m c) m 1 (xs.drop k) := by
  subst hm hc
  refine ⟨by rw [List.length_drop, h.1]; omega, .inr ?_⟩
  obtain ⟨ad, rfl⟩ := Option.ne_none_iff_exists'.1 ha'
  refine ⟨ad, _, rfl, by omega, fun h0 => ?_⟩
  have := ha (by omega)
  cases this
  obtain ⟨b, o, c, he, _, hlt, hcell⟩ := h.some (by omega)
  cases he
  exact ⟨g, k, rfl, hlt, fun j x hx => by rw [List.getElem?_drop] at hx; have := hcell (k + j) x hx; simpa using this⟩
end Go.Proofs.YtgbapkechngnmaaGreat
