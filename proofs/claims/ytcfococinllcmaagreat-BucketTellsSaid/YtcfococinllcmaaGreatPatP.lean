/- Going on without a byte, said plainly; the builder's states are well made. No program in sight. -/
import Derived.Test.YtcfococinllcmaaGreatPatM
namespace Go.Proofs.YtcfococinllcmaaGreat

def frees (sts : List St) (k : Nat) : List Nat := match sts[k]? with
  | some x => x.free
  | none => []
/-- from the first to the second, by no byte -/
inductive FR (sts : List St) : Nat → Nat → Prop
  | refl (k : Nat) : FR sts k k
  | step {j k f : Nat} : FR sts j k → f ∈ frees sts k → FR sts j f
def Cl (sts : List St) (l : List Nat) (k : Nat) : Prop := ∃ j ∈ l, FR sts j k
/-- each way leads to a state that is there -/
def SWf (sts : List St) : Prop := ∀ x ∈ sts, (∀ f ∈ x.free, f < sts.length) ∧ x.next < sts.length
theorem frees_lt {sts : List St} (h : SWf sts) {k f : Nat} (hf : f ∈ frees sts k) : f < sts.length := by
  unfold frees at hf
  split at hf
  · rename_i x hx
    exact (h x (List.mem_of_getElem? hx)).1 f hf
  · cases hf
theorem FR_lt {sts : List St} (h : SWf sts) {j k : Nat} (hr : FR sts j k) (hj : j < sts.length) : k < sts.length := by
  induction hr with
  | refl => exact hj
  | step _ hf _ => exact frees_lt h hf
theorem frees_len (sts : List St) (k : Nat) : (frees sts k).length ≤ tot sts := by
  unfold frees
  split
  · rename_i x hx
    exact free_tot sts x (List.mem_of_getElem? hx)
  · simp
/-- what holds of what was found, and of what is still to be seen -/
structure ReInv (sts : List St) (l out todo : List Nat) : Prop where
  nd : out.Nodup
  so : ∀ k ∈ out, Cl sts l k
  st : ∀ k ∈ todo, Cl sts l k
  c1 : ∀ j ∈ l, j ∈ out ∨ j ∈ todo
  c2 : ∀ k ∈ out, ∀ f ∈ frees sts k, f ∈ out ∨ f ∈ todo
  bo : ∀ k ∈ out, k < sts.length
  bt : ∀ k ∈ todo, k < sts.length
theorem ReInv.start (sts : List St) (l : List Nat) (hl : ∀ j ∈ l, j < sts.length) : ReInv sts l [] l :=
  ⟨List.nodup_nil, (fun _ h => by cases h), fun k h => ⟨k, h, .refl k⟩, fun _ h => .inr h, (fun _ h => by cases h), (fun _ h => by cases h), hl⟩
theorem ReInv.done {sts : List St} {l out : List Nat} (h : ReInv sts l out []) (k : Nat) : k ∈ out ↔ Cl sts l k := by
  refine ⟨h.so k, ?_⟩
  rintro ⟨j, hj, hr⟩
  induction hr with
  | refl => rcases h.c1 j hj with h1 | h1; (· exact h1); (· cases h1)
  | step _ hf ih => rcases h.c2 _ ih _ hf with h1 | h1; (· exact h1); (· cases h1)
theorem ReInv.seen {sts : List St} {l out t : List Nat} {k : Nat} (h : ReInv sts l out (t ++ [k])) (hk : k ∈ out) : ReInv sts l out t := by
  have key : ∀ x, x ∈ t ++ [k] → x ∈ out ∨ x ∈ t := fun x hx => by
    rcases List.mem_append.1 hx with h1 | h1
    · exact .inr h1
    · rw [List.mem_singleton.1 h1]; exact .inl hk
  refine ⟨h.nd, h.so, fun x hx => h.st x (List.mem_append_left _ hx), fun j hj => ?_, fun x hx f hf => ?_, h.bo, fun x hx => h.bt x (List.mem_append_left _ hx)⟩
  · rcases h.c1 j hj with h1 | h1
    · exact .inl h1
    · exact key j h1
  · rcases h.c2 x hx f hf with h1 | h1
    · exact .inl h1
    · exact key f h1
theorem ReInv.new {sts : List St} {l out t : List Nat} {k : Nat} (hw : SWf sts) (h : ReInv sts l out (t ++ [k])) (hk : k ∉ out) : ReInv sts l (out ++ [k]) (t ++ frees sts k) := by
  have hkt : k ∈ t ++ [k] := List.mem_append_right _ (List.mem_singleton.2 rfl)
  have key : ∀ x, x ∈ t ++ [k] → x ∈ out ++ [k] ∨ x ∈ t ++ frees sts k := fun x hx => by
    rcases List.mem_append.1 hx with h1 | h1
    · exact .inr (List.mem_append_left _ h1)
    · exact .inl (List.mem_append_right _ h1)
  refine ⟨?_, ?_, ?_, ?_, ?_, ?_, ?_⟩
  · refine List.nodup_append.2 ⟨h.nd, by simp, fun a ha b hb => ?_⟩
    rw [List.mem_singleton.1 hb]
    exact fun e => hk (e ▸ ha)
  · intro x hx
    rcases List.mem_append.1 hx with h1 | h1
    · exact h.so x h1
    · rw [List.mem_singleton.1 h1]; exact h.st k hkt
  · intro x hx
    rcases List.mem_append.1 hx with h1 | h1
    · exact h.st x (List.mem_append_left _ h1)
    · obtain ⟨j, hj, hr⟩ := h.st k hkt
      exact ⟨j, hj, .step hr h1⟩
  · intro j hj
    rcases h.c1 j hj with h1 | h1
    · exact .inl (List.mem_append_left _ h1)
    · exact key j h1
  · intro x hx f hf
    rcases List.mem_append.1 hx with h1 | h1
    · rcases h.c2 x h1 f hf with h2 | h2
      · exact .inl (List.mem_append_left _ h2)
      · exact key f h2
    · rw [List.mem_singleton.1 h1] at hf
      exact .inr (List.mem_append_right _ hf)
  · intro x hx
    rcases List.mem_append.1 hx with h1 | h1
    · exact h.bo x h1
    · rw [List.mem_singleton.1 h1]; exact h.bt k hkt
  · intro x hx
    rcases List.mem_append.1 hx with h1 | h1
    · exact h.bt x (List.mem_append_left _ h1)
    · exact frees_lt hw h1
theorem nodup_lt : ∀ {n : Nat} {l : List Nat}, l.Nodup → (∀ k ∈ l, k < n) → l.length ≤ n
  | 0, [], _, _ => Nat.le_refl _
  | 0, k :: _, _, h => absurd (h k List.mem_cons_self) (Nat.not_lt_zero k)
  | n + 1, l, hd, hb => by
    have h1 := nodup_lt (n := n) (l := l.erase n) (hd.erase n) (fun k hk => by
      obtain ⟨h2, h3⟩ := (hd.mem_erase_iff).1 hk
      have := hb k h3
      omega)
    by_cases hm : n ∈ l
    · rw [List.length_erase_of_mem hm] at h1; omega
    · rw [List.erase_of_not_mem hm] at h1; omega
/-! the builder's states are well made -/
theorem swf_grow {l : List St} (h : SWf l) (y : St) (hy : ∀ f ∈ y.free, f < l.length + 1) (hn : y.next < l.length + 1) : SWf (l ++ [y]) := by
  intro x hx
  rw [List.length_append]
  rcases List.mem_append.1 hx with h1 | h1
  · exact ⟨fun f hf => Nat.lt_of_lt_of_le ((h x h1).1 f hf) (by simp), Nat.lt_of_lt_of_le (h x h1).2 (by simp)⟩
  · rw [List.mem_singleton.1 h1]; exact ⟨hy, hn⟩
theorem swf_node {b : Bs} (h : SWf b.sts) : SWf (nodeM b).sts := swf_grow h _ (fun _ h => by cases h) (by dsimp only; omega)
theorem swf_one {b : Bs} {S : Nat → Bool} (h : SWf b.sts) : SWf (oneM b S).1.sts := by
  intro x hx
  simp only [oneM] at hx ⊢
  rw [List.length_append]
  rcases List.mem_append.1 hx with h1 | h1
  · exact ⟨fun f hf => Nat.lt_of_lt_of_le ((h x h1).1 f hf) (by simp), Nat.lt_of_lt_of_le (h x h1).2 (by simp)⟩
  · simp at h1
    rcases h1 with rfl | rfl
    · exact ⟨(fun _ h => by cases h), by simp⟩
    · exact ⟨(fun _ h => by cases h), by simp⟩
theorem mem_addF {x : St} {t : Nat} : ∀ {l : List St} {f : Nat}, x ∈ addF l f t → ∃ y ∈ l, x.next = y.next ∧ ∀ k ∈ x.free, k ∈ y.free ∨ k = t
  | [], _, h => by cases h
  | y :: l, 0, h => by
    rcases List.mem_cons.1 h with rfl | h
    · exact ⟨y, List.mem_cons_self, rfl, fun k hk => by simpa using hk⟩
    · exact ⟨x, List.mem_cons_of_mem _ h, rfl, fun k hk => .inl hk⟩
  | y :: l, f + 1, h => by
    rcases List.mem_cons.1 h with rfl | h
    · exact ⟨x, List.mem_cons_self, rfl, fun k hk => .inl hk⟩
    · obtain ⟨z, hz, h1, h2⟩ := mem_addF h
      exact ⟨z, List.mem_cons_of_mem _ hz, h1, h2⟩
theorem swf_free {b : Bs} {f t : Nat} (h : SWf b.sts) (ht : t < b.sts.length) : SWf (freeM b f t).sts := by
  intro x hx
  simp only [freeM] at hx ⊢
  rw [addF_len]
  obtain ⟨y, hy, h1, h2⟩ := mem_addF hx
  refine ⟨fun k hk => ?_, by rw [h1]; exact (h y hy).2⟩
  rcases h2 k hk with h3 | rfl
  · exact (h y hy).1 k h3
  · exact ht
theorem swf_times {s : ByteArray} {b : Bs} {x : Nat × Nat} (h : SWf b.sts) (hx : x.1 < b.sts.length) : SWf (timesM s b x).1.sts := by
  unfold timesM
  split
  · exact h
  · split
    · have h2 : SWf (nodeM (nodeM (stepM b))).sts := swf_node (swf_node (b := stepM b) h)
      have hl : (nodeM (nodeM (stepM b))).sts.length = b.sts.length + 2 := by simp [nodeM, stepM]
      have e : ∀ b f t, (freeM b f t).sts.length = b.sts.length := fun b f t => by simp [freeM, addF_len]
      dsimp only
      have h3 : SWf (freeM (freeM (nodeM (nodeM (stepM b))) b.sts.length x.1) x.2 (b.sts.length + 1)).sts := swf_free (swf_free h2 (by omega)) (by rw [e]; omega)
      have l3 : (freeM (freeM (nodeM (nodeM (stepM b))) b.sts.length x.1) x.2 (b.sts.length + 1)).sts.length = b.sts.length + 2 := by rw [e, e, hl]
      split
      · split
        · exact h3
        · exact swf_free h3 (by omega)
      · split
        · exact swf_free h3 (by omega)
        · exact swf_free (swf_free h3 (by omega)) (by rw [e]; omega)
    · exact h
theorem runM_wf (s : ByteArray) (n : Nat) : ∀ (md : Md) (d : Nat) (b : Bs), d ≤ 8 → b.pos ≤ s.size + 12 - d → (md = .atom → b.pos < s.size) → partOk md b → fuelM s b md ≤ n → SWf b.sts → SWf (runM s n md d b).1.sts := by
  induction n with
  | zero => intro md d b _ _ _ _ hn; cases md <;> simp [fuelM] at hn
  | succ n ih =>
    intro md d b hd hp ha hk hn hw
    cases md with
    | either =>
      simp only [fuelM] at hn
      rw [runM]
      exact ih _ d _ hd hp (fun h => by cases h) ⟨by simp [nodeM], by simp [nodeM]⟩ (by simp only [fuelM, nodeM]; omega) (swf_node (swf_node hw))
    | alts p =>
      simp only [fuelM] at hn
      obtain ⟨hp1, hp2⟩ := hk
      have ok := runM_ok s n .row d b hd hp (fun h => by cases h) trivial (by simp only [fuelM]; omega)
      have h1 := ih .row d b hd hp (fun h => by cases h) trivial (by simp only [fuelM]; omega) hw
      obtain ⟨g1, q1, q2, q3, _⟩ := ok
      have e : ∀ b f t, (freeM b f t).sts.length = b.sts.length := fun b f t => by simp [freeM, addF_len]
      have hgl := g1.len
      have hgp := g1.pos
      have h2 : SWf (freeM (freeM (runM s n .row d b).1 p.1 (runM s n .row d b).2.1) (runM s n .row d b).2.2 p.2).sts := swf_free (swf_free h1 q1) (by rw [e]; omega)
      have hl2 : (freeM (freeM (runM s n .row d b).1 p.1 (runM s n .row d b).2.1) (runM s n .row d b).2.2 p.2).sts.length = (runM s n .row d b).1.sts.length := by rw [e, e]
      have hpp : (freeM (freeM (runM s n .row d b).1 p.1 (runM s n .row d b).2.1) (runM s n .row d b).2.2 p.2).pos = (runM s n .row d b).1.pos := rfl
      rw [runM]
      split
      · rename_i hpk
        have hps := (peekM_some hpk).2.1
        exact ih (.alts p) d _ hd (by simp only [stepM]; omega) (fun h => by cases h) ⟨by simp only [stepM]; omega, by simp only [stepM]; omega⟩ (by simp only [fuelM, stepM]; omega) h2
      · exact h2
    | row =>
      simp only [fuelM] at hn
      rw [runM]
      exact ih _ d _ hd hp (fun h => by cases h) ⟨by simp [nodeM], by simp [nodeM]⟩ (by simp only [fuelM, nodeM]; omega) (swf_node hw)
    | parts p =>
      simp only [fuelM] at hn
      obtain ⟨hp1, hp2⟩ := hk
      rw [runM]
      split
      · exact hw
      · rename_i c hc
        split
        · exact hw
        · dsimp only
          have hps := (peekM_some hc).2.1
          have ok := runM_ok s n .atom d b hd hp (fun _ => hps) trivial (by simp only [fuelM]; omega)
          have h1 := ih .atom d b hd hp (fun _ => hps) trivial (by simp only [fuelM]; omega) hw
          obtain ⟨g1, q1, q2, q3, q4⟩ := ok
          obtain ⟨q5, q6⟩ := q4 rfl
          have gt := gd_times s (runM s n .atom d b).1 (runM s n .atom d b).2
          have pt := times_part s (runM s n .atom d b).1 (runM s n .atom d b).2 ⟨q1, q2⟩
          have h2 := swf_times (s := s) h1 q1
          have tp : (timesM s (runM s n .atom d b).1 (runM s n .atom d b).2).1.pos ≤ s.size + 12 - d := by
            unfold timesM
            split
            · exact q3
            · rename_i c' hc'
              have := (peekM_some hc').2.1
              split
              · have e : ∀ b f t, (freeM b f t).pos = b.pos := fun _ _ _ => rfl
                dsimp only
                split <;> split <;> simp only [e, nodeM, stepM] <;> omega
              · exact q3
          generalize hr : runM s n .atom d b = r at *
          generalize ht : timesM s r.1 r.2 = t at *
          have hfl : (freeM t.1 p.2 t.2.1).sts.length = t.1.sts.length := by simp [freeM, addF_len]
          have hgl := gt.len
          have hgp := gt.pos
          have h1l := g1.len
          exact ih (.parts (p.1, t.2.2)) d (freeM t.1 p.2 t.2.1) hd tp (fun h => by cases h) ⟨by rw [hfl]; show p.1 < _; omega, by rw [hfl]; exact pt.2⟩ (by simp only [fuelM, freeM]; omega) (swf_free h2 pt.1)
    | atom =>
      simp only [fuelM] at hn
      have hps := ha rfl
      rw [runM]
      split
      · split
        · exact swf_one (by rw [failM_sts]; exact hw)
        · rw [closeM_sts]
          exact ih .either (d + 1) (stepM b) (by omega) (by simp only [stepM]; omega) (fun h => by cases h) trivial (by simp only [fuelM, stepM]; omega) hw
      · split
        · exact swf_one (by rw [classM_len]; exact hw)
        · split
          · exact swf_one hw
          · split
            · split
              · exact swf_one (by show SWf (failM (stepM b) 2).sts; rw [failM_sts]; exact hw)
              · exact swf_one hw
            · split
              · exact swf_one (by rw [failM_sts]; exact hw)
              · exact swf_one hw
end Go.Proofs.YtcfococinllcmaaGreat
