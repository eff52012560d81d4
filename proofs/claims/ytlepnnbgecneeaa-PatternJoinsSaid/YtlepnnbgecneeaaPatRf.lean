/- The tree of a pattern; the builder's states fit its texts. No program in sight. -/
import Derived.Test.YtlepnnbgecneeaaPatRe
namespace Go.Proofs.Ytlepnnbgecneeaa

/-- with what stands behind it -/
def timesR (s : ByteArray) (b : Bs) (a : Re) : Re := match peekM s b with
  | none => a
  | some c => if c = 42 then .star a else if c = 43 then .plus a else if c = 63 then .opt a else a
/-- the tree that is read -/
def reM (s : ByteArray) : Nat → Md → Re → Nat → Bs → Re
  | 0, _, acc, _, _ => acc
  | n + 1, .either, _, d, b => reM s n (.alts (b.sts.length, b.sts.length + 1)) .no d (nodeM (nodeM b))
  | n + 1, .alts p, acc, d, b =>
    let r := runM s n .row d b
    let a := Re.alt acc (reM s n .row .no d b)
    let b2 := freeM (freeM r.1 p.1 r.2.1) r.2.2 p.2
    if peekM s b2 = some 124 then reM s n (.alts p) a d (stepM b2) else a
  | n + 1, .row, _, d, b => reM s n (.parts (b.sts.length, b.sts.length)) .eps d (nodeM b)
  | n + 1, .parts p, acc, d, b =>
    match peekM s b with
    | none => acc
    | some c => if c = 124 ∨ c = 41 then acc else
      let r := runM s n .atom d b
      let t := timesM s r.1 r.2
      reM s n (.parts (p.1, t.2.2)) (.cat acc (timesR s r.1 (reM s n .atom .no d b))) d (freeM t.1 p.2 t.2.1)
  | n + 1, .atom, _, d, b =>
    let c := byteM s b.pos
    let b1 := stepM b
    if c = 40 then
      (if d = 8 then .set noS else reM s n .either .no (d + 1) b1)
    else if c = 91 then .set (classM s b1).2
    else if c = 46 then .set (turnS noS)
    else if c = 92 then
      (match peekM s b1 with
       | none => .set (oneS 0)
       | some e => .set (oneS e))
    else if oddB c = true then .set noS
    else .set (oneS c)
/-- what is under way -/
def Und : Md → Re → Bs → Nat → Prop
  | .alts p, acc, b, lo => Frg b.sts lo b.sts.length p.1 p.2 acc ∧ p.1 ≠ p.2
  | .parts p, acc, b, lo => Frg b.sts lo b.sts.length p.1 p.2 acc
  | _, _, b, lo => lo = b.sts.length
structure Made (b : Bs) (lo : Nat) (r : Bs × (Nat × Nat)) (a : Re) : Prop where
  old : ∀ k, k < lo → r.1.sts[k]? = b.sts[k]?
  frg : Frg r.1.sts lo r.1.sts.length r.2.1 r.2.2 a
theorem node_sts (b : Bs) : (nodeM b).sts = b.sts ++ [nd] := rfl
theorem node2_sts (b : Bs) : (nodeM (nodeM b)).sts = b.sts ++ [nd, nd] := by rw [node_sts, node_sts, List.append_assoc]; rfl
theorem one_made (b0 b : Bs) (S : Nat → Bool) (h : b.sts = b0.sts) : Made b0 b0.sts.length (oneM b S) (.set S) := by
  rw [← h]
  refine ⟨fun k hk => ?_, ?_⟩
  · rw [← h]; exact List.getElem?_append_left hk
  · have := frg_set b.sts S
    have hl : (oneM b S).1.sts.length = b.sts.length + 2 := by simp [oneM]
    rw [hl]
    exact this
theorem app2_old {l : List St} {x y : St} {k : Nat} (h : k < l.length) : (l ++ [x, y])[k]? = l[k]? := List.getElem?_append_left h
theorem app2_0 (l : List St) (x y : St) : (l ++ [x, y])[l.length]? = some x := by rw [List.getElem?_append_right (Nat.le_refl _)]; simp
theorem app2_1 (l : List St) (x y : St) : (l ++ [x, y])[l.length + 1]? = some y := by rw [List.getElem?_append_right (by omega)]; simp
/-- with a postfix, or none -/
theorem times_made {s : ByteArray} {b0 : Bs} {r : Bs × (Nat × Nat)} {a : Re} (h : Made b0 b0.sts.length r a) : Made b0 b0.sts.length (timesM s r.1 r.2) (timesR s r.1 a) := by
  obtain ⟨b, x⟩ := r
  obtain ⟨old, frg⟩ := h
  dsimp only at old frg ⊢
  unfold timesM timesR
  cases hp : peekM s b with
  | none => exact ⟨old, frg⟩
  | some c =>
    dsimp only
    by_cases hpo : postB c = true
    · rw [if_pos hpo]
      have x0 := frg.f0
      have x1 := frg.f1
      have y0 := frg.t0
      have y1 := frg.t1
      have hsx : (stepM b).sts = b.sts := rfl
      -- the states behind the steps
      have key : ∀ (skip again : Bool) (B : Bs), B.sts = (let l1 := addF (addF (b.sts ++ [nd, nd]) b.sts.length x.1) x.2 (b.sts.length + 1)
          let l2 := if skip = true then addF l1 b.sts.length (b.sts.length + 1) else l1
          if again = true then addF l2 x.2 x.1 else l2) →
          Made b0 b0.sts.length (B, (b.sts.length, b.sts.length + 1)) (postR skip again a) := by
        intro skip again B hB
        dsimp only at hB
        have hne : b.sts.length ≠ x.2 := by omega
        have hold : ∀ k, k < b.sts.length → k ≠ x.2 → B.sts[k]? = b.sts[k]? := by
          intro k hk hkx
          rw [hB]
          cases skip <;> cases again <;> simp only [Bool.false_eq_true, if_false, if_true] <;> (repeat rw [addF_ne (by omega)]) <;> exact app2_old hk
        refine ⟨fun k hk => ?_, ?_⟩
        · exact (hold k (by omega) (by omega)).trans (old k hk)
        · have hlen : B.sts.length = b.sts.length + 2 := by
            rw [hB]
            cases skip <;> cases again <;> simp [addF_len]
          rw [hlen]
          refine Frg.post frg skip again hlen hold ?_ ?_ ?_ _ rfl
          · rw [hB]
            have g0 := addF_eq (t := x.1) (app2_0 b.sts nd nd)
            cases skip <;> cases again <;> simp only [Bool.false_eq_true, if_false, if_true]
            · rw [addF_ne hne]; exact g0
            · rw [addF_ne hne, addF_ne hne]; exact g0
            · rw [addF_eq (x := ⟨none, 0, [x.1]⟩) (by rw [addF_ne hne]; exact g0)]
            · rw [addF_ne hne, addF_eq (x := ⟨none, 0, [x.1]⟩) (by rw [addF_ne hne]; exact g0)]
          · rw [hB]
            have g0 : (addF (addF (b.sts ++ [nd, nd]) b.sts.length x.1) x.2 (b.sts.length + 1))[x.2]? = some ⟨none, 0, [b.sts.length + 1]⟩ := by
              rw [addF_eq (x := ⟨none, 0, []⟩) (by rw [addF_ne (Ne.symm hne), app2_old y1]; exact frg.sink)]; rfl
            cases skip <;> cases again <;> simp only [Bool.false_eq_true, if_false, if_true]
            · exact g0
            · rw [addF_eq g0]
            · rw [addF_ne (Ne.symm hne)]; exact g0
            · rw [addF_eq (by rw [addF_ne (Ne.symm hne)]; exact g0)]
          · rw [hB]
            cases skip <;> cases again <;> simp only [Bool.false_eq_true, if_false, if_true] <;> (repeat rw [addF_ne (by omega)]) <;> exact app2_1 _ _ _
      rcases (show c = 42 ∨ c = 43 ∨ c = 63 by simp only [postB, Bool.or_eq_true, decide_eq_true_eq] at hpo; omega) with rfl | rfl | rfl
      · exact key true true _ (by simp [freeM, node2_sts, stepM])
      · exact key false true _ (by simp [freeM, node2_sts, stepM])
      · exact key true false _ (by simp [freeM, node2_sts, stepM])
    · rw [if_neg hpo]
      have : c ≠ 42 ∧ c ≠ 43 ∧ c ≠ 63 := by simp only [postB, Bool.or_eq_true, decide_eq_true_eq] at hpo; omega
      rw [if_neg this.1, if_neg this.2.1, if_neg this.2.2]
      exact ⟨old, frg⟩
theorem reM_made (s : ByteArray) (n : Nat) : ∀ (md : Md) (acc : Re) (d : Nat) (b : Bs) (lo : Nat), d ≤ 8 → b.pos ≤ s.size + 12 - d → (md = .atom → b.pos < s.size) → partOk md b → fuelM s b md ≤ n → Und md acc b lo → Made b lo (runM s n md d b) (reM s n md acc d b) := by
  induction n with
  | zero => intro md acc d b lo _ _ _ _ hn; cases md <;> simp [fuelM] at hn
  | succ n ih =>
    intro md acc d b lo hd hp ha hk hn hu
    cases md with
    | either =>
      simp only [fuelM] at hn
      obtain rfl : lo = b.sts.length := hu
      rw [runM, reM]
      have h := ih (.alts (b.sts.length, b.sts.length + 1)) .no d (nodeM (nodeM b)) b.sts.length hd hp (fun h => by cases h) ⟨by simp [nodeM], by simp [nodeM]⟩ (by simp only [fuelM, nodeM]; omega)
        ⟨by rw [node2_sts]; have := frg_no b.sts; simpa using this, by simp⟩
      exact ⟨fun k hk => by rw [h.old k hk, node2_sts]; exact app2_old hk, h.frg⟩
    | alts p =>
      simp only [fuelM] at hn
      obtain ⟨hp1, hp2⟩ := hk
      obtain ⟨hf, hne⟩ := hu
      have ok := runM_ok s n .row d b hd hp (fun h => by cases h) trivial (by simp only [fuelM]; omega)
      have h1 := ih .row .no d b b.sts.length hd hp (fun h => by cases h) trivial (by simp only [fuelM]; omega) rfl
      obtain ⟨g1, q1, q2, q3, _⟩ := ok
      have e : ∀ b f t, (freeM b f t).sts.length = b.sts.length := fun b f t => by simp [freeM, addF_len]
      have hgl := g1.len
      have hgp := g1.pos
      have hpp : (freeM (freeM (runM s n .row d b).1 p.1 (runM s n .row d b).2.1) (runM s n .row d b).2.2 p.2).pos = (runM s n .row d b).1.pos := rfl
      have hl2 : (freeM (freeM (runM s n .row d b).1 p.1 (runM s n .row d b).2.1) (runM s n .row d b).2.2 p.2).sts.length = (runM s n .row d b).1.sts.length := by rw [e, e]
      have h2 := hf.alt hne h1.old h1.frg
      have hfs : (freeM (freeM (runM s n .row d b).1 p.1 (runM s n .row d b).2.1) (runM s n .row d b).2.2 p.2).sts = addF (addF (runM s n .row d b).1.sts p.1 (runM s n .row d b).2.1) (runM s n .row d b).2.2 p.2 := rfl
      rw [← hfs] at h2
      have hold : ∀ k, k < lo → (freeM (freeM (runM s n .row d b).1 p.1 (runM s n .row d b).2.1) (runM s n .row d b).2.2 p.2).sts[k]? = b.sts[k]? := fun k hk => by
        have a1 := h1.frg.t0
        have a2 := hf.f0
        have a3 := hf.f1
        rw [hfs, addF_ne (by omega), addF_ne (by omega)]
        exact h1.old k (by omega)
      rw [runM, reM]
      generalize (freeM (freeM (runM s n .row d b).1 p.1 (runM s n .row d b).2.1) (runM s n .row d b).2.2 p.2) = b2 at *
      rw [← hl2] at h2
      split
      · rename_i hpk
        have hps := (peekM_some hpk).2.1
        have h3 := ih (.alts p) (.alt acc (reM s n .row .no d b)) d (stepM b2) lo hd (by simp only [stepM]; omega) (fun h => by cases h) ⟨by simp only [stepM]; omega, by simp only [stepM]; omega⟩ (by simp only [fuelM, stepM]; omega) ⟨h2, hne⟩
        exact ⟨fun k hk => (h3.old k hk).trans (hold k hk), h3.frg⟩
      · exact ⟨hold, h2⟩
    | row =>
      simp only [fuelM] at hn
      obtain rfl : lo = b.sts.length := hu
      rw [runM, reM]
      have h := ih (.parts (b.sts.length, b.sts.length)) .eps d (nodeM b) b.sts.length hd hp (fun h => by cases h) ⟨by simp [nodeM], by simp [nodeM]⟩ (by simp only [fuelM, nodeM]; omega)
        (by show Frg _ _ _ _ _ _; rw [node_sts]; have := frg_eps b.sts; simpa using this)
      exact ⟨fun k hk => by rw [h.old k hk, node_sts]; exact List.getElem?_append_left hk, h.frg⟩
    | parts p =>
      simp only [fuelM] at hn
      obtain ⟨hp1, hp2⟩ := hk
      have hf : Frg b.sts lo b.sts.length p.1 p.2 acc := hu
      rw [runM, reM]
      cases hc : peekM s b with
      | none => exact ⟨fun _ _ => rfl, hf⟩
      | some c =>
        dsimp only
        split
        · exact ⟨fun _ _ => rfl, hf⟩
        · have hps := (peekM_some hc).2.1
          have ok := runM_ok s n .atom d b hd hp (fun _ => hps) trivial (by simp only [fuelM]; omega)
          have h1 := ih .atom .no d b b.sts.length hd hp (fun _ => hps) trivial (by simp only [fuelM]; omega) rfl
          obtain ⟨g1, q1, q2, q3, q4⟩ := ok
          obtain ⟨q5, q6⟩ := q4 rfl
          have gt := gd_times s (runM s n .atom d b).1 (runM s n .atom d b).2
          have pt := times_part s (runM s n .atom d b).1 (runM s n .atom d b).2 ⟨q1, q2⟩
          have h2 := times_made (s := s) h1
          have tp : (timesM s (runM s n .atom d b).1 (runM s n .atom d b).2).1.pos ≤ s.size + 12 - d := by
            unfold timesM
            split
            · exact q3
            · rename_i c' hc'
              have := (peekM_some hc').2.1
              split
              · have e : ∀ b f t, (freeM b f t).pos = b.pos := fun _ _ _ => rfl
                dsimp only
                split <;> split <;> simp only [e, nodeM, stepM] <;> omega
              · exact q3
          generalize timesR s (runM s n .atom d b).1 (reM s n .atom .no d b) = a at *
          generalize hr : runM s n .atom d b = r at *
          generalize ht : timesM s r.1 r.2 = t at *
          have hfl : (freeM t.1 p.2 t.2.1).sts.length = t.1.sts.length := by simp [freeM, addF_len]
          have hgl := gt.len
          have hgp := gt.pos
          have h1l := g1.len
          have h3 := hf.cat h2.old h2.frg
          have hfs : (freeM t.1 p.2 t.2.1).sts = addF t.1.sts p.2 t.2.1 := rfl
          rw [← hfs, ← hfl] at h3
          have h4 := ih (.parts (p.1, t.2.2)) (.cat acc a) d (freeM t.1 p.2 t.2.1) lo hd tp (fun h => by cases h) ⟨by rw [hfl]; show p.1 < _; omega, by rw [hfl]; exact pt.2⟩ (by simp only [fuelM, freeM]; omega) h3
          refine ⟨fun k hk => ?_, h4.frg⟩
          have a2 := hf.t0
          have a3 := hf.t1
          rw [h4.old k hk, hfs, addF_ne (by omega)]
          exact h2.old k (by omega)
    | atom =>
      simp only [fuelM] at hn
      obtain rfl : lo = b.sts.length := hu
      have hps := ha rfl
      rw [runM, reM]
      dsimp only
      split
      · split
        · exact one_made _ _ _ (by rw [failM_sts]; rfl)
        · have h := ih .either .no (d + 1) (stepM b) b.sts.length (by omega) (by simp only [stepM]; omega) (fun h => by cases h) trivial (by simp only [fuelM, stepM]; omega) rfl
          exact ⟨fun k hk => by dsimp only; rw [closeM_sts]; exact h.old k hk, by dsimp only; rw [closeM_sts]; exact h.frg⟩
      · split
        · exact one_made _ _ _ (by rw [classM_len]; rfl)
        · split
          · exact one_made _ _ _ rfl
          · split
            · cases hc : peekM s (stepM b) with
              | none => exact one_made b _ _ (by show (failM (stepM b) 2).sts = _; rw [failM_sts]; rfl)
              | some e => exact one_made b _ _ rfl
            · split
              · exact one_made _ _ _ (by rw [failM_sts]; rfl)
              · exact one_made _ _ _ rfl
/-- the tree of a pattern -/
def reT (p : ByteArray) : Re := reM p (8 * p.size + 5) .either .no 0 bs0
theorem FR_pa {sts : List St} {j k : Nat} (h : FR sts j k) : ∃ n, Pa sts j [] k n := by
  induction h with
  | refl => exact ⟨0, .refl _⟩
  | step h1 h2 ih =>
    obtain ⟨n, p⟩ := ih
    unfold frees at h2
    split at h2
    · rename_i x hx
      exact ⟨_, p.trans (.free hx h2 (.refl _))⟩
    · cases h2
theorem Rn_pa {sts : List St} {st k : Nat} {cs : List Nat} (h : Rn sts st cs k) : ∃ n, Pa sts st cs k n := by
  induction h with
  | start h => exact FR_pa h
  | byte h1 h2 h3 h4 ih =>
    obtain ⟨n, p⟩ := ih
    obtain ⟨m, q⟩ := FR_pa h4
    have := p.trans (.byte h2 h3 q)
    exact ⟨_, this⟩
theorem Rn_free {sts : List St} {st j f : Nat} {cs : List Nat} (h : Rn sts st cs j) (hf : f ∈ frees sts j) : Rn sts st cs f := by
  cases h with
  | start h => exact .start (.step h hf)
  | byte h1 h2 h3 h4 => exact .byte h1 h2 h3 (.step h4 hf)
theorem pa_Rn {sts : List St} {st j k n : Nat} {cs : List Nat} (h : Pa sts j cs k n) : ∀ {c0}, Rn sts st c0 j → Rn sts st (c0 ++ cs) k := by
  induction h with
  | refl => intro c0 h; simpa using h
  | free h1 h2 _ ih => intro c0 h; exact ih (Rn_free h (by unfold frees; rw [h1]; exact h2))
  | byte h1 h2 _ ih =>
    intro c0 h
    have := ih (Rn.byte h h1 h2 (.refl _))
    rw [List.append_assoc] at this
    exact this
theorem Rn_iff {sts : List St} {st k : Nat} {cs : List Nat} : Rn sts st cs k ↔ ∃ n, Pa sts st cs k n :=
  ⟨Rn_pa, fun ⟨_, p⟩ => by have := pa_Rn (c0 := []) p (.start (.refl _)); simpa using this⟩
theorem reT_made (p : ByteArray) : Made bs0 0 (runR p) (reT p) :=
  reM_made p _ .either .no 0 bs0 0 (by omega) (by simp [bs0]) (fun h => by cases h) trivial (by simp [fuelM, bs0]) rfl
/-- which texts fit: those of the tree -/
theorem fits_re (p t : ByteArray) : FitsP p t ↔ errM p = 0 ∧ Lr (reT p) (bytesN t) := by
  unfold FitsP
  rw [Rn_iff, endR_sts, (reT_made p).frg.lang]
end Go.Proofs.Ytlepnnbgecneeaa
