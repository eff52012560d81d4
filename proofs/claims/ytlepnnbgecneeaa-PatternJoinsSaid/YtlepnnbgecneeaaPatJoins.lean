/- PatternJoins: the plain facts, and the walk. -/
import Derived.Test.YtlepnnbgecneeaaPatQuoteLaw
import Derived.Test.YtlepnnbgecneeaaPatJo
import Derived.ProofKit
import Derived.OpenShut
import Derived.Deep.Slices
import Derived.Deep.Fields
import Derived.ChangeSame
import Derived.Laws.IdiomArrays
namespace Go.Proofs.Ytlepnnbgecneeaa
open Go.RowKit Go.WideShapes Go.ChangeShapes Go.Deep

theorem trod_array2 {H : Type} {enc : TypeId × Value → H} {P : Program} {w : World} {base : Nat} {spare : Nat → Bool} {held : Bool} {t e : TypeId} {fuel : Nat} {c0 c1 : Value} {x : DataW H × List MemPlace} (ht : P.underlying t = some (.array 2 e)) (hce : P.cellsOf e = 1)
    (h : DataW.trod enc P w base spare held fuel t [c0, c1] = some x) :
    ∃ y0 y1 n, x = (.agg [y0.1, y1.1], y0.2 ++ y1.2) ∧ DataW.trod enc P w base spare held n e [c0] = some y0 ∧ DataW.trod enc P w base spare held n e [c1] = some y1 := by
  cases fuel with
  | zero => simp [DataW.trod] at h
  | succ n =>
    unfold DataW.trod at h
    rw [ht] at h
    have r2 : List.range 2 = [0, 1] := rfl
    simp [r2, hce] at h
    obtain ⟨_, h⟩ := h
    cases h0 : DataW.trod enc P w base spare held n e [c0] with
    | none => simp [h0] at h
    | some y0 =>
      cases h1 : DataW.trod enc P w base spare held n e [c1] with
      | none => simp [h0, h1] at h
      | some y1 =>
        simp [h0, h1] at h
        exact ⟨y0, y1, n, h.symm, h0, h1⟩
set_option maxRecDepth 100000 in
theorem open_strs2 {H : Type} {enc : TypeId × Value → H} {W : World} {base : Nat} {v : Value} {d : DataW H} {p : List MemPlace} (hval : Value.okWide Try.prog W .any base 33 v) (h : DataW.Trod enc Try.prog W 0 (fun _ => true) true 33 v d p) :
    ∃ a b : ByteArray, v = .agg #[.string a, .string b] ∧ a.size ≤ maxLen ∧ b.size ≤ maxLen := by
  obtain ⟨cs, rfl, hsz, _⟩ : ∃ cs, v = .agg cs ∧ cs.size = Try.prog.cellsOf 33 ∧ Row.okWide Try.prog W .any base 33 cs := by
    simpa [Value.okWide, Try.underlying33] using hval
  rw [show Try.prog.cellsOf 33 = 2 by kernel_rfl] at hsz
  obtain ⟨fuel, hf⟩ := h
  obtain ⟨l⟩ := cs
  match l, hsz with
  | [c0, c1], _ =>
    obtain ⟨y0, y1, m, hx, hy0, hy1⟩ := trod_array2 Try.underlying33 (by kernel_rfl) hf
    obtain ⟨x0, e0, _, z0⟩ := DataW.trod_string Try.underlying9 hy0
    obtain ⟨x1, e1, _, z1⟩ := DataW.trod_string Try.underlying9 hy1
    cases e0; cases e1
    exact ⟨_, _, rfl, z0, z1⟩
def oneJ (p q : ByteArray) : ByteArray := ⟨#[40]⟩ ++ p ++ ⟨#[41, 124, 40]⟩ ++ q ++ ⟨#[41]⟩
def twoJ (p q : ByteArray) : ByteArray := ⟨#[40]⟩ ++ p ++ ⟨#[41, 40]⟩ ++ q ++ ⟨#[41]⟩
def rowJ (p : ByteArray) : ByteArray := ⟨#[40]⟩ ++ p ++ ⟨#[41, 42]⟩
def optJ (p : ByteArray) : ByteArray := ⟨#[40]⟩ ++ p ++ ⟨#[41, 63]⟩
theorem oneJ_bytes (p q : ByteArray) : bytesN (oneJ p q) = 40 :: (bytesN p ++ 41 :: 124 :: 40 :: (bytesN q ++ [41])) := by
  unfold oneJ
  simp only [bytesN_app]
  show [40] ++ bytesN p ++ [41, 124, 40] ++ bytesN q ++ [41] = _
  simp
theorem twoJ_bytes (p q : ByteArray) : bytesN (twoJ p q) = 40 :: (bytesN p ++ 41 :: 40 :: (bytesN q ++ [41])) := by
  unfold twoJ
  simp only [bytesN_app]
  show [40] ++ bytesN p ++ [41, 40] ++ bytesN q ++ [41] = _
  simp
theorem rowJ_bytes (p : ByteArray) : bytesN (rowJ p) = 40 :: (bytesN p ++ 41 :: [42]) := by
  unfold rowJ
  simp only [bytesN_app]
  show [40] ++ bytesN p ++ [41, 42] = _
  simp
theorem optJ_bytes (p : ByteArray) : bytesN (optJ p) = 40 :: (bytesN p ++ 41 :: [63]) := by
  unfold optJ
  simp only [bytesN_app]
  show [40] ++ bytesN p ++ [41, 63] = _
  simp
theorem size_of_bytes {s : ByteArray} {l : List Nat} (h : bytesN s = l) : s.size = l.length := by rw [← h, bytesN_len]
theorem fitB_re {p : ByteArray} (h : errM p = 0) {t : ByteArray} : fitB p t = true ↔ Lr (reT p) (bytesN t) := by
  rw [fitB_iff, fits_re]; exact ⟨fun h => h.2, fun h' => ⟨h, h'⟩⟩
/-- parts of a text that the one fits, and the other -/
noncomputable def someB (p q s : ByteArray) (k : Nat) : Bool := (List.range k).any fun j => fitB p (s.extract 0 j) && fitB q (s.extract j s.size)
theorem someB_succ (p q s : ByteArray) (k : Nat) : someB p q s (k + 1) = (someB p q s k || (fitB p (s.extract 0 k) && fitB q (s.extract k s.size))) := by
  unfold someB
  rw [List.range_succ, List.any_append]; simp
theorem piece_bytes (s : ByteArray) {a b : Nat} : bytesN (s.extract a b) = ((bytesN s).drop a).take (b - a) := by
  unfold bytesN B
  rw [ByteArray.data_extract, Array.toList_extract, List.extract_eq_take_drop, List.map_take, List.map_drop]
structure Joins (p q s t : ByteArray) : Prop where
  o : fitB (oneJ p q) s = (fitB p s || fitB q s)
  w1 : fitB p s = true → fitB q t = true → fitB (twoJ p q) (s ++ t) = true
  w2 : fitB (twoJ p q) s = someB p q s (s.size + 1)
  r1 : fitB p s = true → fitB (rowJ p) (s ++ s) = true
  r2 : fitB (rowJ p) ⟨#[]⟩ = true
  q1 : fitB (optJ p) ⟨#[]⟩ = true
  q2 : fitB (optJ p) s = (fitB p s || s.toList.isEmpty)
theorem joins {p q : ByteArray} (hp : errM p = 0) (hq : errM q = 0) (zp : p.size ≤ 25) (zq : q.size ≤ 25) :
    (errM (oneJ p q) = 3) ∨ (errM (oneJ p q) = 0 ∧ errM (twoJ p q) = 0 ∧ ∀ s t, Joins p q s t) := by
  have lp := bytesN_len p
  have lq := bytesN_len q
  rcases alt_join hp hq (oneJ_bytes p q) (by rw [size_of_bytes (oneJ_bytes p q)]; simp only [List.length_cons, List.length_append, List.length_nil]; omega) with ⟨h, _⟩ | ⟨hD, h1, h2⟩
  · exact .inl h
  · have hD2 := Bool.or_eq_false_iff.1 hD
    rcases two_join hp hq (twoJ_bytes p q) (by rw [size_of_bytes (twoJ_bytes p q)]; simp only [List.length_cons, List.length_append, List.length_nil]; omega) with ⟨_, h⟩ | ⟨_, h3, h4⟩
    · rw [hD] at h; cases h
    · rcases one_join hp [42] (rowJ_bytes p) rfl (by rw [size_of_bytes (rowJ_bytes p)]; simp only [List.length_cons, List.length_append, List.length_nil]; omega) with ⟨_, h⟩ | ⟨_, h5, h6⟩
      · rw [hD2.1] at h; cases h
      · rcases one_join hp [63] (optJ_bytes p) rfl (by rw [size_of_bytes (optJ_bytes p)]; simp only [List.length_cons, List.length_append, List.length_nil]; omega) with ⟨_, h⟩ | ⟨_, h7, h8⟩
        · rw [hD2.1] at h; cases h
        · refine .inr ⟨h1, h3, fun s t => ⟨?_, fun a b => ?_, ?_, fun a => ?_, ?_, ?_, ?_⟩⟩
          · rw [Bool.eq_iff_iff, fitB_re h1, h2, Bool.or_eq_true, fitB_re hp, fitB_re hq]
          · rw [fitB_re h3, h4, bytesN_app]
            exact ⟨_, _, rfl, (fitB_re hp).1 a, (fitB_re hq).1 b⟩
          · rw [Bool.eq_iff_iff, fitB_re h3, h4]
            unfold someB
            rw [List.any_eq_true]
            constructor
            · rintro ⟨x, y, e, hx, hy⟩
              have hl : s.size = x.length + y.length := by rw [← bytesN_len, e, List.length_append]
              refine ⟨x.length, List.mem_range.2 (by omega), ?_⟩
              rw [Bool.and_eq_true, fitB_re hp, fitB_re hq, piece_bytes s, piece_bytes s, e]
              have e1 : ((x ++ y).drop 0).take (x.length - 0) = x := by simp
              have e2 : ((x ++ y).drop x.length).take (s.size - x.length) = y := by
                rw [List.drop_left, List.take_of_length_le (by omega)]
              rw [e1, e2]
              exact ⟨hx, hy⟩
            · rintro ⟨j, hj, h⟩
              have hj' := List.mem_range.1 hj
              rw [Bool.and_eq_true, fitB_re hp, fitB_re hq] at h
              refine ⟨_, _, ?_, h.1, h.2⟩
              rw [piece_bytes s, piece_bytes s, List.drop_zero, Nat.sub_zero, List.take_of_length_le (l := (bytesN s).drop j) (by rw [List.length_drop, bytesN_len]; omega), List.take_append_drop]
          · rw [fitB_re h5, h6, bytesN_app]
            have a' := (fitB_re hp).1 a
            have := Lr.star1 a' (Lr.star1 a' .star0)
            rw [List.append_nil] at this
            exact this
          · rw [fitB_re h5, h6]; exact .star0
          · rw [fitB_re h7, h8]; exact .opt0
          · rw [Bool.eq_iff_iff, fitB_re h7, h8, Bool.or_eq_true, fitB_re hp, toList_empty, decide_eq_true_eq]
            constructor
            · intro h
              generalize hb : bytesN s = l at h
              cases h with
              | opt0 => right; rw [← bytesN_len, hb]; rfl
              | opt1 h => exact .inl h
            · rintro (h | h)
              · exact .opt1 h
              · have : bytesN s = [] := List.length_eq_zero_iff.1 (by rw [bytesN_len]; exact h)
                rw [this]; exact .opt0
end Go.Proofs.Ytlepnnbgecneeaa
