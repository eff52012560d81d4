/- The lines of two texts with a byte 10 between: the plain law. -/
import Derived.Test.YtpoaoicehoihdaaDoorLinesLaw
namespace Go.Proofs.YtpoaoicehoihdaaDoor

theorem cut_join (d : UInt8) (b : List UInt8) : ∀ a : List UInt8, cutB d (a ++ d :: b) = cutB d a ++ cutB d b
  | [] => by
    show cutB d (d :: b) = [] :: cutB d b
    rw [cutB.eq_2, if_pos rfl]
  | c :: a => by
    have ih := cut_join d b a
    rw [List.cons_append, cutB, cutB, ih]
    by_cases h : c = d
    · rw [if_pos h, if_pos h]; rfl
    · rw [if_neg h, if_neg h]
      cases hc : cutB d a with
      | nil => exact absurd hc (cutB_ne d a)
      | cons x r => rfl
theorem linesG_or : ∀ ps : List (List UInt8), (∃ lss : List (List (List UInt8)), ps.map splitL = lss.map some) ∨ ∃ i : Nat, ∀ (acc : List (List (List UInt8))) (qs : List (List UInt8)), linesG (ps ++ qs) acc = ([], ((acc.length + (i + 1) : Nat) : Int), 2)
  | [] => .inl ⟨[], rfl⟩
  | p :: ps => by
    cases hp : splitL p with
    | none => exact .inr ⟨0, fun acc qs => by rw [List.cons_append, linesG, hp]; simp⟩
    | some ws =>
      rcases linesG_or ps with ⟨lss, h⟩ | ⟨i, h⟩
      · exact .inl ⟨ws :: lss, by rw [List.map_cons, List.map_cons, hp, h]⟩
      · refine .inr ⟨i + 1, fun acc qs => ?_⟩
        rw [List.cons_append, linesG, hp]
        simp only
        rw [h, List.length_append, List.length_singleton]
        congr 2
        congr 1
        omega
/-- one text, and both -/
theorem two_lines (a b : List UInt8) :
    (∃ lss, linesL a = (lss, 0, 0) ∧ ((∃ lms, linesL b = (lms, 0, 0) ∧ linesL (a ++ 10 :: b) = (lss ++ lms, 0, 0)) ∨ ∃ i : Nat, linesL b = ([], ((i + 1 : Nat) : Int), 2) ∧ linesL (a ++ 10 :: b) = ([], ((lss.length + (i + 1) : Nat) : Int), 2))) ∨
    ∃ i : Nat, linesL a = ([], ((i + 1 : Nat) : Int), 2) ∧ linesL (a ++ 10 :: b) = ([], ((i + 1 : Nat) : Int), 2) := by
  rcases linesG_or (cutB 10 a) with ⟨lss, ha⟩ | ⟨i, ha⟩
  · refine .inl ⟨lss, linesL_done rfl ha, ?_⟩
    have hab : linesL (a ++ 10 :: b) = linesG (cutB 10 b) lss := by
      rw [linesL, cut_join, linesG_app _ _ _ _ ha]; rfl
    rcases linesG_or (cutB 10 b) with ⟨lms, hb⟩ | ⟨i, hb⟩
    · refine .inl ⟨lms, linesL_done rfl hb, linesL_done (cut_join 10 b a) ?_⟩
      rw [List.map_append, List.map_append, ha, hb]
    · refine .inr ⟨i, ?_, ?_⟩
      · have := hb [] []
        rw [List.append_nil] at this
        rw [linesL, this]; simp
      · have := hb lss []
        rw [List.append_nil] at this
        rw [hab, this]
  · refine .inr ⟨i, ?_, ?_⟩
    · have := ha [] []
      rw [List.append_nil] at this
      rw [linesL, this]; simp
    · rw [linesL, cut_join, ha]; simp
end Go.Proofs.YtpoaoicehoihdaaDoor
