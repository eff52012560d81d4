/- lychgatelaw09.lives is true. -/
import Derived.Test.YtipnhpfpppblhaaApart
import Derived.Test.YtipnhpfpppblhaaAlCut
import Derived.Maps.OwnSet
namespace Go.Proofs.Ytipnhpfpppblhaa
open Go.RowKit Go.Maps

abbrev sHost : ByteArray := ⟨#[104, 111, 115, 116]⟩
abbrev sH : ByteArray := ⟨#[104]⟩
abbrev sTeam : ByteArray := ⟨#[116, 101, 97, 109]⟩
abbrev sT : ByteArray := ⟨#[116]⟩
abbrev sProm : ByteArray := ⟨#[112, 114, 111, 109]⟩
abbrev exR : List Nmd := [(sHost, 4, 0)]
abbrev exF : List Fld := [(sHost, sH), (sTeam, sT)]
abbrev exA : Al := ⟨sProm, exF, 2, 0, 5, 0⟩
theorem exVis : visL exR exF (2, 0) (3, 0) = [(sTeam, sT)] := by decide +kernel
theorem exOk : cutOk exR exF (2, 0) (3, 0) = true := by decide +kernel
theorem exRight : rightA exA = true := by decide +kernel
theorem exPuts : putsL exR [exA] = [((2, 0), idA exA), ((4, 0), idA exA), ((2, 0), idA exA)] := by
  have h1 : raisedL exR sHost (2, 0) = (4, 0) := by decide +kernel
  have h2 : raisedL exR sTeam (2, 0) = (2, 0) := by decide +kernel
  unfold putsL
  rw [List.flatMap_cons, List.flatMap_nil, List.append_nil, putsA, if_pos exRight]
  simp only [List.map_cons, List.map_nil]
  rw [h1, h2]
theorem DO_has {R : List Out} (h : ∀ o ∈ R, wfL o.x) {x : Int × Nat} (hx : wfL x) : has (DO R) (kL x) = decide (x ∈ R.map (·.x)) ∧ Tidy (DO R) := by
  induction R with
  | nil => exact ⟨rfl, tidy_empty⟩
  | cons e T ih =>
    obtain ⟨ih, ht⟩ := ih (fun f hf => h f (List.mem_cons_of_mem _ hf))
    have he := h e List.mem_cons_self
    refine ⟨?_, ht.put (kL_key _) _⟩
    by_cases hex : x = e.x
    · subst hex
      rw [DO, has_put_same ht.isMap (kL_key _)]
      simp
    · rw [DO, has_put_other (fun h' => hex (kL_inj hx he h')), ih]
      simp [hex]
theorem DO_size {R : List Out} (h : ∀ o ∈ R, wfL o.x) (hn : R.Pairwise (fun a b => a.x ≠ b.x)) : Maps.size (DO R) = R.length := by
  induction R with
  | nil => rfl
  | cons f T ih =>
    have h' := fun g hg => h g (List.mem_cons_of_mem _ hg)
    have ih := ih h' (List.pairwise_cons.1 hn).2
    obtain ⟨h1, h2⟩ := DO_has h' (h f List.mem_cons_self)
    have hnot : has (DO T) (kL f.x) = false := by
      rw [h1, decide_eq_false]
      intro hm
      obtain ⟨g, hg, hgx⟩ := List.mem_map.1 hm
      exact (List.pairwise_cons.1 hn).1 g hg hgx.symm
    rw [DO, size_put h2, hnot, ih]
    rfl
theorem ex_two {w w' : World} {e : Ending} (h : ApartPost exR [exA] w e w') : ∃ mo, e = .returned (.map (some mo)) ∧ (∀ ty, (Builtin.len_ #[40] ty #[.map (some mo)]).run Try.prog w' = .ok (.int .i64 2) w') ∧ Below w.heap.size w w' := by
  obtain ⟨mo, R, rfl, hown, hR, hn, hall, hb⟩ := h
  rw [exPuts] at hR hall
  have h2 : R.length = 2 := by
    have hm : ∀ o ∈ R, o.x ∈ ([(2, 0), (4, 0)] : List (Int × Nat)) := fun o ho => by
      obtain ⟨_, _, _, h0, hi⟩ := hR o ho
      obtain ⟨i, hii⟩ := List.exists_mem_of_ne_nil _ h0
      have := (hi i).1 hii
      simp only [List.mem_cons, Prod.mk.injEq, List.not_mem_nil, or_false] at this ⊢
      rcases this with ⟨h, _⟩ | ⟨h, _⟩ | ⟨h, _⟩
      · exact .inl h
      · exact .inr h
      · exact .inl h
    have l1 := nodup_len (R.map (·.x)) [(2, 0), (4, 0)] (pw_of_map.1 hn) (fun x hx => by obtain ⟨o, ho, rfl⟩ := List.mem_map.1 hx; exact hm o ho)
    have l2 := nodup_len [(2, 0), (4, 0)] (R.map (·.x)) (by decide) (fun x hx => by
      have : ∃ i, (x, i) ∈ [(((2 : Int), (0 : Nat)), idA exA), ((4, 0), idA exA), ((2, 0), idA exA)] := by
        refine ⟨idA exA, ?_⟩
        simp only [List.mem_cons, List.not_mem_nil, or_false] at hx
        rcases hx with rfl | rfl <;> simp
      obtain ⟨i, hi⟩ := this
      obtain ⟨o, ho, hox⟩ := hall x i hi
      exact List.mem_map.2 ⟨o, ho, hox⟩)
    rw [List.length_map] at l1 l2
    simp at l1 l2
    omega
  refine ⟨mo, rfl, fun ty => ?_, hb⟩
  have := hown.len Try.underlying40 ty
  rw [DO_size (fun o ho => (hR o ho).1) hn, h2] at this
  exact this
end Go.Proofs.Ytipnhpfpppblhaa
