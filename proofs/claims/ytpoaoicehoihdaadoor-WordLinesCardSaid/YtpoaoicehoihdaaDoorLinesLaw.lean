/- The lines of a text: the plain law, and slices of slices of strings in memory. No program in sight. -/
import Derived.Test.YtpoaoicehoihdaaDoorSplitLaw
import Derived.Test.YtpoaoicehoihdaaDoorStrs
import Derived.Test.YtpoaoicehoihdaaDoorCut
namespace Go.Proofs.YtpoaoicehoihdaaDoor
open Go.RowKit

/-- the words of each line; none: which line, and the code -/
def linesG : List (List UInt8) → List (List (List UInt8)) → List (List (List UInt8)) × Int × Int
  | [], acc => (acc, 0, 0)
  | p :: r, acc => match splitL p with
    | some ws => linesG r (acc ++ [ws])
    | none => ([], (acc.length : Int) + 1, 2)
def linesL (l : List UInt8) : List (List (List UInt8)) × Int × Int := linesG (cutB 10 l) []
theorem linesG_app : ∀ (ps : List (List UInt8)) (r : List (List UInt8)) (acc lss : List (List (List UInt8))), ps.map splitL = lss.map some → linesG (ps ++ r) acc = linesG r (acc ++ lss)
  | [], r, acc, lss, h => by
    cases lss with
    | nil => simp
    | cons _ _ => cases h
  | p :: ps, r, acc, lss, h => by
    cases lss with
    | nil => cases h
    | cons x lss =>
      simp only [List.map_cons, List.cons.injEq] at h
      rw [List.cons_append, linesG, h.1]
      simp only
      rw [linesG_app ps r _ lss h.2, List.append_assoc]; rfl
theorem linesL_done {l : List UInt8} {ps : List (List UInt8)} {lss : List (List (List UInt8))} (hc : cutB 10 l = ps) (h : ps.map splitL = lss.map some) : linesL l = (lss, 0, 0) := by
  have := linesG_app ps [] [] lss h
  rw [List.append_nil] at this
  rw [linesL, hc, this, linesG]; rfl
theorem linesL_stop {l : List UInt8} {ps : List (List UInt8)} {x : List UInt8} {r : List (List UInt8)} {lss : List (List (List UInt8))} (hc : cutB 10 l = ps ++ x :: r) (h : ps.map splitL = lss.map some) (hx : splitL x = none) : linesL l = ([], (lss.length : Int) + 1, 2) := by
  rw [linesL, hc, linesG_app ps _ [] lss h, linesG, hx]
  simp
/-- word lists as bytes -/
abbrev LB (ls : List (List ByteArray)) : List (List (List UInt8)) := ls.map fun ws => ws.map B
theorem LB_inj {a b : List (List ByteArray)} (h : LB a = LB b) : a = b := by
  induction a generalizing b with
  | nil => cases b with
    | nil => rfl
    | cons _ _ => cases h
  | cons x a ih => cases b with
    | nil => cases h
    | cons y b =>
      simp only [LB, List.map_cons, List.cons.injEq] at h
      rw [mapB_inj h.1, ih h.2]

/-! where the walk that cuts stands -/
def CutSt (d : UInt8) (l : List UInt8) (ws : List (List UInt8)) (p q : Nat) : Prop :=
  (p ≤ q ∧ q ≤ l.length ∧ cutB d l = ws ++ cutB d (l.drop p) ∧ d ∉ (l.drop p).take (q - p)) ∨ (q = l.length + 1 ∧ cutB d l = ws)
theorem CutSt.start (d : UInt8) (l : List UInt8) : CutSt d l [] 0 0 := .inl ⟨Nat.le_refl _, Nat.zero_le _, by simp, by simp⟩
theorem CutSt.on {d : UInt8} {l : List UInt8} {ws : List (List UInt8)} {p q : Nat} (h : CutSt d l ws p q) (hq : q < l.length) (hc : l[q] ≠ d) : CutSt d l ws p (q + 1) := by
  rcases h with ⟨h1, h2, h3, h4⟩ | ⟨h1, _⟩
  · refine .inl ⟨by omega, hq, h3, ?_⟩
    have hl : q - p < (l.drop p).length := by rw [List.length_drop]; omega
    rw [show q + 1 - p = q - p + 1 by omega, List.take_succ_eq_append_getElem hl, List.mem_append, List.mem_singleton, List.getElem_drop]
    simp only [show p + (q - p) = q by omega]
    rintro (h | h)
    · exact h4 h
    · exact hc h.symm
  · omega
theorem CutSt.word {d : UInt8} {l : List UInt8} {ws : List (List UInt8)} {p q : Nat} (h : CutSt d l ws p q) (hq : q < l.length) (hc : l[q] = d) :
    p ≤ q ∧ CutSt d l (ws ++ [(l.drop p).take (q - p)]) (q + 1) (q + 1) ∧ ∃ r, cutB d l = ws ++ (l.drop p).take (q - p) :: r := by
  rcases h with ⟨h1, h2, h3, h4⟩ | ⟨h1, _⟩
  · have e : l.drop p = (l.drop p).take (q - p) ++ d :: l.drop (q + 1) := by
      have hd : (l.drop p).drop (q - p) = d :: l.drop (q + 1) := by
        rw [List.drop_drop, show p + (q - p) = q by omega, List.drop_eq_getElem_cons hq, hc]
      rw [← hd, List.take_append_drop]
    have hcut := cutB_at (l.drop (q + 1)) h4
    rw [← e] at hcut
    rw [hcut] at h3
    exact ⟨h1, .inl ⟨Nat.le_refl _, hq, by rw [h3]; simp, by simp⟩, _, h3⟩
  · omega
theorem CutSt.last {d : UInt8} {l : List UInt8} {ws : List (List UInt8)} {p q : Nat} (h : CutSt d l ws p q) (hq : q = l.length) :
    p ≤ q ∧ CutSt d l (ws ++ [(l.drop p).take (q - p)]) (q + 1) (q + 1) ∧ ∃ r, cutB d l = ws ++ (l.drop p).take (q - p) :: r := by
  rcases h with ⟨h1, h2, h3, h4⟩ | ⟨h1, _⟩
  · have e : (l.drop p).take (q - p) = l.drop p := by rw [List.take_of_length_le]; rw [List.length_drop]; omega
    rw [e] at h4 ⊢
    rw [cutB_none h4] at h3
    exact ⟨h1, .inr ⟨by omega, h3⟩, _, h3⟩
  · omega
theorem CutSt.done {d : UInt8} {l : List UInt8} {ws : List (List UInt8)} {p q : Nat} (h : CutSt d l ws p q) (hq : q = l.length + 1) : cutB d l = ws := by
  rcases h with ⟨_, h, _⟩ | ⟨_, h⟩
  · omega
  · exact h
theorem B_piece (s : ByteArray) {p q : Nat} : B (s.extract p q) = ((B s).drop p).take (q - p) := by
  rw [B, ByteArray.data_extract, Array.toList_extract, List.extract_eq_take_drop]

/-! a slice of slices of strings -/
theorem StrsAt.grown {w w' : World} {row : Option Nat} {u : Value} {ws : List ByteArray} (h : StrsAt w u ws) (hg : w.grownBy w' row) (hne : ∀ b, u.ownBlock = some b → some b ≠ row) : StrsAt w' u ws := by
  refine ⟨⟨h.1.1, ?_⟩, h.2⟩
  rcases h.1.2 with h' | ⟨a, c, rfl, hc, hr⟩
  · exact .inl h'
  · refine .inr ⟨a, c, rfl, hc, fun hn => ?_⟩
    obtain ⟨b, o, rfl, hlt, hcell⟩ := hr hn
    exact ⟨b, o, rfl, Nat.lt_of_lt_of_le hlt hg.size, fun j x hx => hg.cell (hcell j x hx) (hne b rfl)⟩
/-- v reads as slices that read as ls -/
def LinesAt (w : World) (v : Value) (ls : List (List ByteArray)) : Prop :=
  ∃ vs : List Value, vs.length = ls.length ∧ RdAt w v ls.length 1 vs ∧ ls.length ≤ 1073741824 ∧ ∀ (i : Nat) u ws, vs[i]? = some u → ls[i]? = some ws → StrsAt w u ws
theorem LinesAt.nil (w : World) : LinesAt w (.slice none 0 0) [] := ⟨[], rfl, RdAt.nil w 1, Nat.zero_le _, by simp⟩
theorem LinesAt.later {w w' : World} {v : Value} {ls : List (List ByteArray)} (h : LinesAt w v ls) (hb : Below w.heap.size w w') : LinesAt w' v ls := by
  obtain ⟨vs, h1, h2, h3, h4⟩ := h
  exact ⟨vs, h1, h2.later hb, h3, fun i u ws hu hw => (h4 i u ws hu hw).later hb⟩
/-- one of the call's own, that grows -/
def OwnLines (w : World) (base : Nat) (e : TypeId) (v : Value) (vs : List Value) (ls : List (List ByteArray)) : Prop :=
  vs.length = ls.length ∧ w.ownsRow base e 1 v ls.length vs ∧ ∀ (i : Nat) u ws, vs[i]? = some u → ls[i]? = some ws → StrsAt w u ws ∧ ∀ b, u.ownBlock = some b → b < w.heap.size ∧ v.ownBlock ≠ some b
theorem OwnLines.nil (w : World) (base : Nat) (e : TypeId) : OwnLines w base e (.slice none 0 0) [] [] := ⟨rfl, World.ownsRow_nil _ _ _ _, by simp⟩
theorem OwnLines.lines {w : World} {base : Nat} {e : TypeId} {v : Value} {vs : List Value} {ls : List (List ByteArray)} (h : OwnLines w base e v vs ls) (hm : ls.length ≤ 1073741824) : LinesAt w v ls :=
  ⟨vs, h.1, RdAt.own h.2.1, hm, fun i u ws hu hw => (h.2.2 i u ws hu hw).1⟩
theorem OwnLines.later {w w' : World} {base : Nat} {e : TypeId} {v : Value} {vs : List Value} {ls : List (List ByteArray)} (h : OwnLines w base e v vs ls) (hb : Below w.heap.size w w') : OwnLines w' base e v vs ls :=
  ⟨h.1, own_later h.2.1 hb, fun i u ws hu hw => ⟨(h.2.2 i u ws hu hw).1.later hb, fun b hb' => ⟨Nat.lt_of_lt_of_le ((h.2.2 i u ws hu hw).2 b hb').1 hb.size, ((h.2.2 i u ws hu hw).2 b hb').2⟩⟩⟩
/-- one line more: what append leaves -/
theorem OwnLines.snoc {w w' : World} {base : Nat} {e : TypeId} {v v' u : Value} {vs : List Value} {ls : List (List ByteArray)} {ws : List ByteArray} (h : OwnLines w base e v vs ls) (hu : StrsAt w u ws)
    (hub : ∀ b, u.ownBlock = some b → b < w.heap.size ∧ v.ownBlock ≠ some b) (hown : w'.ownsRow base e 1 v' (ls.length + 1) (vs ++ [u])) (hg : w.grownBy w' v.ownBlock) (hat : v'.ownBlock = v.ownBlock ∨ ∃ g, v'.ownBlock = some g ∧ w.heap.size ≤ g) :
    OwnLines w' base e v' (vs ++ [u]) (ls ++ [ws]) := by
  have key : ∀ y zs, StrsAt w y zs → (∀ b, y.ownBlock = some b → b < w.heap.size ∧ v.ownBlock ≠ some b) → StrsAt w' y zs ∧ ∀ b, y.ownBlock = some b → b < w'.heap.size ∧ v'.ownBlock ≠ some b := by
    intro y zs hy hb
    refine ⟨hy.grown hg fun b hb' e => (hb b hb').2 e.symm, fun b hb' => ⟨Nat.lt_of_lt_of_le (hb b hb').1 hg.size, fun e => ?_⟩⟩
    rcases hat with hat | ⟨g, hat, hle⟩
    · exact (hb b hb').2 (by rw [← hat, e])
    · rw [hat] at e
      have := (hb b hb').1
      cases e
      omega
  refine ⟨by simp [h.1], by rw [List.length_append]; exact hown, fun i y zs hy hz => ?_⟩
  rcases Nat.lt_or_ge i ls.length with hi | hi
  · rw [List.getElem?_append_left (by rw [h.1]; exact hi)] at hy
    rw [List.getElem?_append_left hi] at hz
    exact key y zs (h.2.2 i y zs hy hz).1 (h.2.2 i y zs hy hz).2
  · rw [List.getElem?_append_right (by rw [h.1]; exact hi), h.1] at hy
    rw [List.getElem?_append_right hi] at hz
    have h0 : i - ls.length = 0 := by
      have := (List.getElem?_eq_some_iff.1 hz).1
      rw [List.length_singleton] at this; omega
    rw [h0] at hy hz
    cases hy
    cases hz
    exact key _ _ hu hub
end Go.Proofs.YtpoaoicehoihdaaDoor
