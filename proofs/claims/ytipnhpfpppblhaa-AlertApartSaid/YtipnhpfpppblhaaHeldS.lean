/- Regions that draw their order and END IN A STORE (number L, which waits for all): the fact S is shown behind every operation but that one. No program in sight. -/
import Derived.Deep.RegionHeld3
namespace Go
variable {P : Program} {ops : Array Oper} {Q : Exit → Act → World → Prop} {md : Region.Mode} {S : World → Prop} {L : Nat}
/-- whatever order is picked, S holds behind every operation, till L has come up -/
def wpAnyEnd (P : Program) (md : Region.Mode) (ops : Array Oper) (Q : Exit → Act → World → Prop) (S : World → Prop) (L : Nat) : Nat → Array Bool → Act → World → Prop
  | 0, listed, a, w => Region.ready md ops listed = [] ∧ Q .normal a w
  | fuel + 1, listed, a, w => (Region.ready md ops listed = [] → Q .normal a w) ∧
    ∀ i ∈ Region.ready md ops listed, wpOp P ops Q i (fun a' w' => ((listed.setIfInBounds i true).getD L true = false → S w') ∧ wpAnyEnd P md ops Q S L fuel (listed.setIfInBounds i true) a' w') a w
theorem wpAny_of_End : ∀ (fuel : Nat) (listed : Array Bool) (a : Act) (w : World), wpAnyEnd P md ops Q S L fuel listed a w → wpAny P md ops Q fuel listed a w
  | 0, _, _, _, h => h
  | fuel + 1, _, _, _, h => ⟨h.1, fun i hi => wpOp_mono (fun a' w' h' => wpAny_of_End fuel _ a' w' h'.2) (h.2 i hi)⟩
/-- does L wait for i? -/
def waitsB (md : Region.Mode) (ops : Array Oper) (L i : Nat) : Bool := match ops[L]? with | some o => o.after.any (fun e => Region.binds md e && e.on == i) | none => false
theorem not_ready {listed : Array Bool} {i : Nat} (hw : waitsB md ops L i = true) (hi : i ∈ Region.ready md ops listed) : L ∉ Region.ready md ops listed := by
  intro hL
  obtain ⟨_, oL, hoL, hall⟩ := mem_ready.1 hL
  unfold waitsB at hw
  rw [hoL] at hw
  simp only [Array.any_eq_true, Bool.and_eq_true, beq_iff_eq] at hw
  obtain ⟨k, hk, hb, hon⟩ := hw
  have h1 := hall oL.after[k] (Array.getElem_mem hk) hb
  have h0 := (mem_ready.1 hi).1
  rw [hon] at h1
  rcases Nat.lt_or_ge i listed.size with h' | h'
  · simp [h'] at h0 h1; rw [h0] at h1; cases h1
  · simp [Array.getElem?_eq_none h'] at h1
theorem wpAnyEnd_first {i : Nat} {oi : Oper} {v : Value} (hi : ops[i]? = some oi) (hsel : ∀ (j : Nat) (o : Oper) cs b, ops[j]? = some o → o.op ≠ .select cs b)
    (hQ : ∀ c a w, Q (.panic c) (a.put oi.dst v) w → Q (.panic c) a w) (hL : waitsB md ops L i = true) :
    ∀ (fuel : Nat) (listed : Array Bool) (a : Act) (w : World),
      (∀ j oj, ops[j]? = some oj → j ≠ i → listed.getD j true = false → (∀ e ∈ oj.after, Region.binds md e = true → e.on ≠ i) → oi.apart ops oj = true) →
      i ∈ Region.ready md ops listed → listed.getD L true = false → YieldsIf P ops S oi v a → S w →
      wpAnyEnd P md ops Q S L fuel (listed.setIfInBounds i true) (a.put oi.dst v) w → wpAnyEnd P md ops Q S L (fuel + 1) listed a w := by
  intro fuel
  induction fuel with
  | zero =>
    intro listed a w _ hr _ hy hS H
    refine ⟨fun h => (by rw [h] at hr; cases hr), fun j hj => ?_⟩
    by_cases hji : j = i
    · subst hji; exact hy.wpOp hi hS ⟨fun _ => hS, H⟩
    · have := ready_mono hj hji
      rw [H.1] at this
      cases this
  | succ fuel ih =>
    intro listed a w hfree hr hun0 hy hS H
    refine ⟨fun h => (by rw [h] at hr; cases hr), fun j hj => ?_⟩
    by_cases hji : j = i
    · subst hji; exact hy.wpOp hi hS ⟨fun _ => hS, H⟩
    · have hjL : j ≠ L := fun e => not_ready hL hr (e ▸ hj)
      have hiL : i ≠ L := fun e => not_ready hL hr (e ▸ hr)
      have h1 := H.2 j (ready_mono hj hji)
      obtain ⟨hjun, oj, hoj, hall⟩ := mem_ready.1 hj
      have hnot : ∀ e ∈ oj.after, Region.binds md e = true → e.on ≠ i := fun e he hb heq => by
        have h1 := hall e he hb
        have h0 := (mem_ready.1 hr).1
        rw [heq] at h1
        rcases Nat.lt_or_ge i listed.size with h' | h'
        · simp [h'] at h0 h1; rw [h0] at h1; cases h1
        · simp [Array.getElem?_eq_none h'] at h1
      have h2 := wpOp_putIf hoj (hfree j oj hoj hji hjun hnot) (fun cs b => hsel i oi cs b hi) (fun cs b => hsel j oj cs b hoj) hQ hy h1
      have hfree' : ∀ k ok, ops[k]? = some ok → k ≠ i → (listed.setIfInBounds j true).getD k true = false →
          (∀ e ∈ ok.after, Region.binds md e = true → e.on ≠ i) → oi.apart ops ok = true := fun k ok hk hki hun hno => by
        refine hfree k ok hk hki ?_ hno
        by_cases hjk : j = k
        · subst hjk; exact hjun
        · rw [getD_set_ne true hjk] at hun; exact hun
      have hu1 : (listed.setIfInBounds j true).getD L true = false := by rw [getD_set_ne true hjL]; exact hun0
      have hu2 : ((listed.setIfInBounds i true).setIfInBounds j true).getD L true = false := by rw [getD_set_ne true hjL, getD_set_ne true hiL]; exact hun0
      refine wpOp_mono (fun a' w' h3 => ⟨fun _ => h3.2.1 hu2, ih (listed.setIfInBounds j true) a' w' hfree' (ready_mono hr (Ne.symm hji)) hu1 h3.1 (h3.2.1 hu2) ?_⟩) h2
      rw [Array.setIfInBounds_comm _ _ hji]
      exact h3.2.2
/-- number i is taken: it yields v in every world that meets S -/
theorem heldS_take {i d : Nat} {oi : Oper} {v : Value} {fuel : Nat} {listed : Array Bool} {a : Act} {w : World} (hi : ops[i]? = some oi) (hd : oi.dst = some d)
    (hs : Region.noSelect ops = true) (hf : Region.free md ops listed i = true) (hr : (Region.ready md ops listed).contains i = true) (hL : waitsB md ops L i = true) (hun : listed.getD L true = false)
    (hQ : ∀ c a w, Q (.panic c) (a.put (some d) v) w → Q (.panic c) a w) (hw : Region.wanted oi (yielded ops a.tmps) = true) (hS : S w)
    (hy : ∀ w, S w → (execOp a.eval oi).run P w = .ok (.value v) w)
    (h : wpAnyEnd P md ops Q S L fuel (listed.setIfInBounds i true) (a.put (some d) v) w) : wpAnyEnd P md ops Q S L (fuel + 1) listed a w :=
  wpAnyEnd_first hi (Region.noSelect_spec hs) (by rw [hd]; exact hQ) hL fuel listed a w (Region.free_spec hi hf) (by simpa using hr) hun (.inl ⟨hw, hy⟩) hS (by rw [hd]; exact h)
/-- number i comes up alone: behind it S is shown anew -/
theorem heldS_step {i : Nat} {oi : Oper} {fuel : Nat} {listed : Array Bool} {a : Act} {w : World} (hi : ops[i]? = some oi) (hr : Region.ready md ops listed = [i])
    (h : ∀ K' : Act → World → Prop, Shut (∀ a w, S w → (S w → wpAnyEnd P md ops Q S L fuel (listed.setIfInBounds i true) a w) → K' a w) → if Region.wanted oi (yielded ops a.tmps) = true then Oper.wp P oi a w K' Q else K' (a.put oi.dst undef) w) : wpAnyEnd P md ops Q S L (fuel + 1) listed a w :=
  ⟨fun h0 => (by rw [hr] at h0; cases h0), fun j hj => by
    rw [hr] at hj
    obtain rfl := List.mem_singleton.1 hj
    exact wpOp_step hi (fun K' hK => h K' (fun a w hS hW => hK a w ⟨fun _ => hS, hW hS⟩))⟩
/-- the store itself, and what comes up alone behind it: no S is asked -/
theorem heldS_last {i : Nat} {oi : Oper} {fuel : Nat} {listed : Array Bool} {a : Act} {w : World} (hi : ops[i]? = some oi) (hr : Region.ready md ops listed = [i]) (hl : (listed.setIfInBounds i true).getD L true = true)
    (h : ∀ K' : Act → World → Prop, Shut (∀ a w, wpAnyEnd P md ops Q S L fuel (listed.setIfInBounds i true) a w → K' a w) → if Region.wanted oi (yielded ops a.tmps) = true then Oper.wp P oi a w K' Q else K' (a.put oi.dst undef) w) : wpAnyEnd P md ops Q S L (fuel + 1) listed a w :=
  ⟨fun h0 => (by rw [hr] at h0; cases h0), fun j hj => by
    rw [hr] at hj
    obtain rfl := List.mem_singleton.1 hj
    exact wpOp_step hi (fun K' hK => h K' (fun a w hW => hK a w ⟨(fun h0 => by rw [hl] at h0; cases h0), hW⟩))⟩
theorem wpAnyEnd_done {listed : Array Bool} {a : Act} {w : World} (hr : Region.ready md ops listed = []) (h : Q .normal a w) : ∀ fuel, wpAnyEnd P md ops Q S L fuel listed a w
  | 0 => ⟨hr, h⟩
  | _ + 1 => ⟨fun _ => h, by rw [hr]; simp⟩
theorem wp_region_heldS {id : Nat} (L : Nat) {a : Act} {w : World} (hm : P.follows .mixedOrders = true) (hS : S w.drew)
    (h : S w.drew → wpAnyEnd P .any ops Q S L ops.size (Array.replicate ops.size false) a w.drew) : (Code.region id ops true).wp P Q a w :=
  wp_region_any hm (wpAny_of_End _ _ _ _ (h hS))
end Go
