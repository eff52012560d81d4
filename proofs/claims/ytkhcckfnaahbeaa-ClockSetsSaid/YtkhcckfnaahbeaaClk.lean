/- A clock, said plainly: its numbers, when it would tell, what an Ask leaves. No program in sight but the types' numbers. -/
import Derived.Test.YtkhcckfnaahbeaaSet
import Derived.Maps.AppendAt
import Derived.Maps.Range
namespace Go.Proofs.Ytkhcckfnaahbeaa
open Go.RowKit

structure Ck where
  wait : Int
  gap : Int
  rep : Int
  first : Int
  last : Int
  now : Int
  told : List Int
structure Ck.Ok (S : Ck) : Prop where
  w0 : 0 ≤ S.wait
  w1 : S.wait ≤ 1000
  g0 : 1 ≤ S.gap
  g1 : S.gap ≤ 1000
  r0 : S.gap ≤ S.rep
  r1 : S.rep ≤ 100000
  f0 : -1 ≤ S.first
  f1 : S.first ≤ S.now
  l0 : -1 ≤ S.last
  l1 : S.last ≤ S.now
  n0 : 0 ≤ S.now
  n1 : S.now ≤ 1099511627776
  t : S.told.length ≤ 100
/-- a new clock -/
def newM (a b c : Int) : Ck := { wait := min (max a 0) 1000, gap := min (max b 1) 1000, rep := min (max c (min (max b 1) 1000)) 100000, first := -1, last := -1, now := 0, told := [] }
theorem newM_ok (a b c : Int) : (newM a b c).Ok := by
  constructor <;> simp only [newM, List.length_nil] <;> omega
/-- when ids would be told, there from now on -/
def fromM (S : Ck) (now : Int) (ids : List Int) : Int :=
  max (if S.last = -1 then (if S.first = -1 then now + S.wait else S.first + S.wait)
    else max (if S.first = -1 then now + S.wait else S.first + S.wait) (S.last + (if setL ids = S.told then S.rep else S.gap))) now
def atM (S : Ck) (now : Int) : Int := min (max now S.now) 1099511627776
def dueM (S : Ck) (now : Int) (ids : List Int) : Bool := if ids = [] then false else decide (fromM S (atM S now) ids ≤ atM S now)
def okM (S : Ck) (now : Int) : Bool := decide (S.now ≤ now ∧ now ≤ 1099511627776)
def leftM (S : Ck) (now : Int) (ids : List Int) : Ck :=
  if okM S now then
    { S with now := now, first := if ids = [] then -1 else if S.first = -1 then now else S.first,
             last := if dueM S now ids then now else S.last, told := if dueM S now ids then setL ids else S.told }
  else S
def askM (S : Ck) (now : Int) (ids : List Int) : Bool := okM S now && dueM S now ids
def errM (S : Ck) (now : Int) : Int := if okM S now then 0 else 9
def nextM (S : Ck) (ids : List Int) : Int := if ids = [] then -1 else if fromM S S.now ids ≤ 1099511627776 then fromM S S.now ids else -1
theorem leftM_ok {S : Ck} (h : S.Ok) (now : Int) (ids : List Int) (hl : ids.length ≤ 100) : (leftM S now ids).Ok := by
  have hs := setL_len ids
  obtain ⟨w0, w1, g0, g1, r0, r1, f0, f1, l0, l1, n0, n1, t⟩ := h
  unfold leftM
  split
  · next hk =>
    have hk' : S.now ≤ now ∧ now ≤ 1099511627776 := by simpa [okM] using hk
    refine ⟨w0, w1, g0, g1, r0, r1, ?_, ?_, ?_, ?_, ?_, ?_, ?_⟩ <;> simp only
    · split; omega; split <;> omega
    · split; omega; split <;> omega
    · split <;> omega
    · split <;> omega
    · omega
    · omega
    · split <;> omega
  · exact ⟨w0, w1, g0, g1, r0, r1, f0, f1, l0, l1, n0, n1, t⟩
theorem leftM_now {S : Ck} {now : Int} {ids : List Int} (h : okM S now = true) : (leftM S now ids).now = now := by unfold leftM; rw [if_pos h]
theorem leftM_bad {S : Ck} {now : Int} {ids : List Int} (h : okM S now = false) : leftM S now ids = S := by unfold leftM; rw [if_neg (by rw [h]; simp)]
theorem fromM_le {S : Ck} (h : S.Ok) {now : Int} (ids : List Int) (hn : S.now ≤ now) : now ≤ fromM S now ids ∧ fromM S now ids ≤ now + 101000 := by
  obtain ⟨w0, w1, g0, g1, r0, r1, f0, f1, l0, l1, n0, n1, t⟩ := h
  unfold fromM
  split <;> split <;> (try split) <;> omega
theorem atM_ge {S : Ck} (h : S.Ok) (now : Int) : S.now ≤ atM S now ∧ atM S now ≤ 1099511627776 := by
  have := h.n1
  unfold atM; omega
theorem atM_ok {S : Ck} {now : Int} (h : okM S now = true) : atM S now = now := by
  have h' : S.now ≤ now ∧ now ≤ 1099511627776 := by simpa [okM] using h
  unfold atM; omega

/-! ### In memory -/
/-- the code's clock lies at block p -/
def ClkAt (w : World) (base p : Nat) (S : Ck) : Prop := base ≤ p ∧ ∃ tv : Value,
  w.heap[p]? = some (.cells #[.int .i64 S.wait, .int .i64 S.gap, .int .i64 S.rep, .int .i64 S.first, .int .i64 S.last, .int .i64 S.now, tv] 51 (0, 0)) ∧
  w.ownsRow base 45 1 tv S.told.length (S.told.map U)
/-- the reference's clock lies at block p -/
def RClkAt (w : World) (base p : Nat) (S : Ck) : Prop := base ≤ p ∧ ∃ tv : Value,
  w.heap[p]? = some (.cells #[.int .i64 S.wait, .int .i64 S.gap, .int .i64 S.rep, .int .i64 S.first, .int .i64 S.last, tv, .int .i64 S.now] 39 (0, 0)) ∧
  w.ownsRow base 45 1 tv S.told.length (S.told.map U)
theorem block_lt {w : World} {g : Nat} {o : Obj} (h : w.heap[g]? = some o) : g < w.heap.size := (Array.getElem?_eq_some_iff.1 h).1
/-- a row of one type is not a block of another -/
theorem row_far {w : World} {base p : Nat} {e t : TypeId} {size n : Nat} {v : Value} {xs : List Value} {cs : Array Value} {fr : Nat × Nat} (h : w.ownsRow base e size v n xs) (hp : w.heap[p]? = some (.cells cs t fr)) (hne : e ≠ t) : v.ownBlock ≠ some p := by
  rcases h.2 with ⟨rfl, _⟩ | ⟨g, cap, cur, rfl, _, hg, _⟩
  · simp [Value.ownBlock]
  · intro hk
    have : g = p := by simpa [Value.ownBlock] using hk
    subst this
    rw [hp] at hg
    simp only [Option.some.injEq, Obj.cells.injEq] at hg
    exact hne hg.2.1.symm
theorem own_grown {w w' : World} {base : Nat} {e : TypeId} {size : Nat} {v : Value} {n : Nat} {xs : List Value} {row : Option Nat} (h : w.ownsRow base e size v n xs) (hg : w.grownBy w' row) (hne : v.ownBlock = none ∨ v.ownBlock ≠ row) : w'.ownsRow base e size v n xs := h.kept hg hne
theorem ClkAt.grown {w w' : World} {base p : Nat} {S : Ck} {row : Option Nat} (h : ClkAt w base p S) (hg : w.grownBy w' row) (hp : row ≠ some p) (ht : ∀ (cs : Array Value) (t : TypeId) fr k, row = some k → w.heap[k]? = some (.cells cs t fr) → t ≠ 45) (hk : ∀ k, row = some k → ∃ cs t fr, w.heap[k]? = some (.cells cs t fr)) : ClkAt w' base p S := by
  obtain ⟨hb, tv, hc, hown⟩ := h
  refine ⟨hb, tv, ?_, ?_⟩
  · rw [hg.block p (block_lt hc) (fun e => hp e.symm)]; exact hc
  · cases row with
    | none => exact own_grown hown hg (by by_cases h : tv.ownBlock = none; exact .inl h; exact .inr h)
    | some k =>
      obtain ⟨cs, t, fr, hk'⟩ := hk k rfl
      exact own_grown hown hg (.inr (row_far hown hk' (fun e => ht cs t fr k rfl hk' e.symm)))
theorem RClkAt.grown {w w' : World} {base p : Nat} {S : Ck} {row : Option Nat} (h : RClkAt w base p S) (hg : w.grownBy w' row) (hp : row ≠ some p) (ht : ∀ (cs : Array Value) (t : TypeId) fr k, row = some k → w.heap[k]? = some (.cells cs t fr) → t ≠ 45) (hk : ∀ k, row = some k → ∃ cs t fr, w.heap[k]? = some (.cells cs t fr)) : RClkAt w' base p S := by
  obtain ⟨hb, tv, hc, hown⟩ := h
  refine ⟨hb, tv, ?_, ?_⟩
  · rw [hg.block p (block_lt hc) (fun e => hp e.symm)]; exact hc
  · cases row with
    | none => exact own_grown hown hg (by by_cases h : tv.ownBlock = none; exact .inl h; exact .inr h)
    | some k =>
      obtain ⟨cs, t, fr, hk'⟩ := hk k rfl
      exact own_grown hown hg (.inr (row_far hown hk' (fun e => ht cs t fr k rfl hk' e.symm)))
/-- a call that turned nothing -/
theorem ClkAt.later {w w' : World} {base p : Nat} {S : Ck} (h : ClkAt w base p S) (hb : Below w.heap.size w w') : ClkAt w' base p S := h.grown (below_grown hb none) (by simp) (fun _ _ _ _ h => by cases h) (fun _ h => by cases h)
theorem RClkAt.later {w w' : World} {base p : Nat} {S : Ck} (h : RClkAt w base p S) (hb : Below w.heap.size w w') : RClkAt w' base p S := h.grown (below_grown hb none) (by simp) (fun _ _ _ _ h => by cases h) (fun _ h => by cases h)
/-- a call on another clock -/
theorem ClkAt.beside {w w' : World} {base p q : Nat} {S T : Ck} (h : ClkAt w base p S) (hq : ClkAt w base q T) (hne : p ≠ q) (hg : w.grownBy w' (some q)) : ClkAt w' base p S := by
  obtain ⟨_, tv, hc, _⟩ := hq
  exact h.grown hg (fun e => hne (by cases e; rfl)) (fun cs t fr k e hk => by cases e; rw [hc] at hk; cases hk; decide) (fun k e => by cases e; exact ⟨_, _, _, hc⟩)
theorem ClkAt.besideR {w w' : World} {base p q : Nat} {S T : Ck} (h : ClkAt w base p S) (hq : RClkAt w base q T) (hg : w.grownBy w' (some q)) : ClkAt w' base p S := by
  obtain ⟨_, tv, hc, _⟩ := hq
  refine h.grown hg (fun e => ?_) (fun cs t fr k e hk => by cases e; rw [hc] at hk; cases hk; decide) (fun k e => by cases e; exact ⟨_, _, _, hc⟩)
  cases e
  obtain ⟨_, tv', hc', _⟩ := h
  rw [hc] at hc'
  simp only [Option.some.injEq, Obj.cells.injEq] at hc'
  exact absurd hc'.2.1 (by decide)
theorem RClkAt.beside {w w' : World} {base p q : Nat} {S T : Ck} (h : RClkAt w base p S) (hq : ClkAt w base q T) (hg : w.grownBy w' (some q)) : RClkAt w' base p S := by
  obtain ⟨_, tv, hc, _⟩ := hq
  refine h.grown hg (fun e => ?_) (fun cs t fr k e hk => by cases e; rw [hc] at hk; cases hk; decide) (fun k e => by cases e; exact ⟨_, _, _, hc⟩)
  cases e
  obtain ⟨_, tv', hc', _⟩ := h
  rw [hc] at hc'
  simp only [Option.some.injEq, Obj.cells.injEq] at hc'
  exact absurd hc'.2.1 (by decide)
theorem below_of_row {w w' : World} {base p : Nat} (hg : w.grownBy w' (some p)) (hp : base ≤ p) (hs : base ≤ w.heap.size) : Below base w w' := (Below.refl base w).grown hg hs (fun k hk => by cases hk; exact hp)
end Go.Proofs.Ytkhcckfnaahbeaa
