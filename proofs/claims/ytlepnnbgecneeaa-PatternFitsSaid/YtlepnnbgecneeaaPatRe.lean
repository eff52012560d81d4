/- What a pattern says: a tree, and the texts of a tree; the builder's states say the same. No program in sight. -/
import Derived.Test.YtlepnnbgecneeaaPatG
namespace Go.Proofs.Ytlepnnbgecneeaa

inductive Re where
  | no
  | eps
  | set (S : Nat → Bool)
  | cat (a b : Re)
  | alt (a b : Re)
  | star (a : Re)
  | plus (a : Re)
  | opt (a : Re)
/-- the texts of a tree -/
inductive Lr : Re → List Nat → Prop
  | eps : Lr .eps []
  | set {S : Nat → Bool} {c : Nat} : S c = true → Lr (.set S) [c]
  | cat {a b : Re} {x y : List Nat} : Lr a x → Lr b y → Lr (.cat a b) (x ++ y)
  | altl {a b : Re} {x : List Nat} : Lr a x → Lr (.alt a b) x
  | altr {a b : Re} {x : List Nat} : Lr b x → Lr (.alt a b) x
  | star0 {a : Re} : Lr (.star a) []
  | star1 {a : Re} {x y : List Nat} : Lr a x → Lr (.star a) y → Lr (.star a) (x ++ y)
  | plus {a : Re} {x y : List Nat} : Lr a x → Lr (.star a) y → Lr (.plus a) (x ++ y)
  | opt0 {a : Re} : Lr (.opt a) []
  | opt1 {a : Re} {x : List Nat} : Lr a x → Lr (.opt a) x
/-- a way, its bytes, its length -/
inductive Pa (sts : List St) : Nat → List Nat → Nat → Nat → Prop
  | refl (k : Nat) : Pa sts k [] k 0
  | free {j f k n : Nat} {cs : List Nat} {x : St} : sts[j]? = some x → f ∈ x.free → Pa sts f cs k n → Pa sts j cs k (n + 1)
  | byte {j k c n : Nat} {cs : List Nat} {x : St} : sts[j]? = some x → goB x c = true → Pa sts x.next cs k n → Pa sts j (c :: cs) k (n + 1)
theorem Pa.trans {sts : List St} {j k l n m : Nat} {x y : List Nat} (h : Pa sts j x k n) (h' : Pa sts k y l m) : Pa sts j (x ++ y) l (n + m) := by
  induction h with
  | refl => simpa using h'
  | free h1 h2 _ ih => rw [Nat.add_right_comm]; exact Pa.free h1 h2 (ih h')
  | byte h1 h2 _ ih => rw [Nat.add_right_comm]; exact Pa.byte h1 h2 (ih h')
theorem Pa.inv {sts : List St} {j g n : Nat} {cs : List Nat} (h : Pa sts j cs g n) : (cs = [] ∧ j = g) ∨ (∃ x f m, sts[j]? = some x ∧ f ∈ x.free ∧ Pa sts f cs g m) ∨ ∃ x c cs' m, cs = c :: cs' ∧ sts[j]? = some x ∧ goB x c = true ∧ Pa sts x.next cs' g m := by
  cases h with
  | refl => exact .inl ⟨rfl, rfl⟩
  | free h1 h2 h3 => exact .inr (.inl ⟨_, _, _, h1, h2, h3⟩)
  | byte h1 h2 h3 => exact .inr (.inr ⟨_, _, _, _, rfl, h1, h2, h3⟩)
/-- no way leads out of a region -/
def Shut (sts : List St) (R : Nat → Prop) : Prop := ∀ k, R k → ∀ x, sts[k]? = some x → (∀ g ∈ x.free, R g) ∧ (x.set.isSome = true → R x.next)
theorem goB_some {x : St} {c : Nat} (h : goB x c = true) : x.set.isSome = true := by
  unfold goB at h
  split at h
  · rename_i f hf; rw [hf]; rfl
  · cases h
theorem Pa.same {sts sts' : List St} {R : Nat → Prop} (hs : Shut sts R) (he : ∀ k, R k → sts'[k]? = sts[k]?) {j g n : Nat} {cs : List Nat} (h : Pa sts' j cs g n) (hj : R j) : Pa sts j cs g n := by
  induction h with
  | refl => exact .refl _
  | free h1 h2 _ ih => rw [he _ hj] at h1; exact .free h1 h2 (ih ((hs _ hj _ h1).1 _ h2))
  | byte h1 h2 _ ih => rw [he _ hj] at h1; exact .byte h1 h2 (ih ((hs _ hj _ h1).2 (goB_some h2)))
/-- more ways -/
theorem Pa.more {sts sts' : List St} {R : Nat → Prop} (hs : Shut sts R) (he : ∀ k, R k → ∀ x, sts[k]? = some x → ∃ x', sts'[k]? = some x' ∧ (∀ g ∈ x.free, g ∈ x'.free) ∧ x'.set = x.set ∧ x'.next = x.next) {j g n : Nat} {cs : List Nat} (h : Pa sts j cs g n) (hj : R j) : Pa sts' j cs g n := by
  induction h with
  | refl => exact .refl _
  | free h1 h2 _ ih =>
    obtain ⟨x', e1, e2, _, _⟩ := he _ hj _ h1
    exact .free e1 (e2 _ h2) (ih ((hs _ hj _ h1).1 _ h2))
  | byte h1 h2 _ ih =>
    obtain ⟨x', e1, _, e3, e4⟩ := he _ hj _ h1
    refine .byte e1 (by unfold goB at h2 ⊢; rw [e3]; exact h2) ?_
    rw [e4]
    exact ih ((hs _ hj _ h1).2 (goB_some h2))
/-- a region has one way out alone -/
theorem Pa.exit {sts sts' : List St} {R : Nat → Prop} {t g : Nat} (hs : Shut sts R) (he : ∀ k, R k → k ≠ t → sts'[k]? = sts[k]?) (hg : R g → g = t) {j n : Nat} {cs : List Nat} (h : Pa sts' j cs g n) (hj : R j) :
    ∃ x y n1 n2, cs = x ++ y ∧ Pa sts j x t n1 ∧ Pa sts' t y g n2 ∧ n2 ≤ n := by
  induction h with
  | refl => 
    have := hg hj
    subst this
    exact ⟨[], [], 0, 0, rfl, .refl _, .refl _, Nat.le_refl _⟩
  | free h1 h2 h3 ih =>
    rename_i j f k n cs x
    by_cases hjt : j = t
    · subst hjt
      exact ⟨[], cs, 0, n + 1, rfl, .refl _, .free h1 h2 h3, Nat.le_refl _⟩
    · rw [he _ hj hjt] at h1
      obtain ⟨x1, y1, n1, n2, e1, e2, e3, e4⟩ := ih hg ((hs _ hj _ h1).1 _ h2)
      exact ⟨x1, y1, n1 + 1, n2, e1, .free h1 h2 e2, e3, by omega⟩
  | byte h1 h2 h3 ih =>
    rename_i j k c n cs x
    by_cases hjt : j = t
    · subst hjt
      exact ⟨[], c :: cs, 0, n + 1, rfl, .refl _, .byte h1 h2 h3, Nat.le_refl _⟩
    · rw [he _ hj hjt] at h1
      obtain ⟨x1, y1, n1, n2, e1, e2, e3, e4⟩ := ih hg ((hs _ hj _ h1).2 (goB_some h2))
      exact ⟨c :: x1, y1, n1 + 1, n2, by rw [e1]; rfl, .byte h1 h2 e2, e3, by omega⟩
/-- from a state that has ways without a byte alone -/
theorem Pa.first {sts : List St} {t g n nx : Nat} {l cs : List Nat} (h : Pa sts t cs g n) (ht : sts[t]? = some ⟨none, nx, l⟩) : (cs = [] ∧ t = g) ∨ ∃ f ∈ l, ∃ m, m < n ∧ Pa sts f cs g m := by
  cases h with
  | refl => exact .inl ⟨rfl, rfl⟩
  | free h1 h2 h3 =>
    rw [ht] at h1
    obtain rfl := Option.some.inj h1
    exact .inr ⟨_, h2, _, Nat.lt_succ_self _, h3⟩
  | byte h1 h2 h3 =>
    rw [ht] at h1
    obtain rfl := Option.some.inj h1
    cases goB_some h2
theorem addF_look (l : List St) (f t j : Nat) : (addF l f t)[j]? = if j = f then (l[j]?).map (fun x => { x with free := x.free ++ [t] }) else l[j]? := by
  induction l generalizing f j with
  | nil => simp [addF]
  | cons x l ih =>
    cases f with
    | zero => cases j <;> simp [addF]
    | succ f => cases j with
      | zero => simp [addF]
      | succ j => simp only [addF, List.getElem?_cons_succ, ih]; simp
theorem addF_ne {l : List St} {f t j : Nat} (h : j ≠ f) : (addF l f t)[j]? = l[j]? := by rw [addF_look, if_neg h]
theorem addF_eq {l : List St} {f t : Nat} {x : St} (h : l[f]? = some x) : (addF l f t)[f]? = some { x with free := x.free ++ [t] } := by rw [addF_look, if_pos rfl, h]; rfl
/-- a part of the states, from f to t: its texts -/
structure Frg (sts : List St) (lo hi f t : Nat) (a : Re) : Prop where
  f0 : lo ≤ f
  f1 : f < hi
  t0 : lo ≤ t
  t1 : t < hi
  hl : hi ≤ sts.length
  shut : Shut sts (fun k => lo ≤ k ∧ k < hi)
  sink : sts[t]? = some ⟨none, 0, []⟩
  noin : ∀ k, lo ≤ k → k < hi → ∀ x, sts[k]? = some x → (∀ g ∈ x.free, g ≠ f) ∧ (x.set.isSome = true → x.next ≠ f)
  lang : ∀ cs, (∃ n, Pa sts f cs t n) ↔ Lr a cs
def nd : St := ⟨none, 0, []⟩
theorem Pa.sink {sts : List St} {t g n : Nat} {cs : List Nat} (h : Pa sts t cs g n) (ht : sts[t]? = some ⟨none, 0, []⟩) : cs = [] ∧ t = g := by
  rcases h.first ht with h1 | ⟨f, hf, _⟩
  · exact h1
  · cases hf
theorem frg_no (l : List St) : Frg (l ++ [nd, nd]) l.length (l.length + 2) l.length (l.length + 1) .no := by
  have g0 : (l ++ [nd, nd])[l.length]? = some ⟨none, 0, []⟩ := by rw [List.getElem?_append_right (Nat.le_refl _)]; simp [nd]
  have g1 : (l ++ [nd, nd])[l.length + 1]? = some ⟨none, 0, []⟩ := by rw [List.getElem?_append_right (by omega)]; simp [nd]
  have ge : ∀ k, l.length ≤ k → k < l.length + 2 → ∀ x, (l ++ [nd, nd])[k]? = some x → x = nd := fun k h1 h2 x hx => by
    rcases (show k = l.length ∨ k = l.length + 1 by omega) with rfl | rfl
    · rw [g0] at hx; exact (Option.some.inj hx).symm
    · rw [g1] at hx; exact (Option.some.inj hx).symm
  refine ⟨Nat.le_refl _, by omega, by omega, by omega, by simp, ?_, g1, ?_, ?_⟩
  · rintro k ⟨h1, h2⟩ x hx
    rw [ge k h1 h2 x hx]
    exact ⟨(fun _ h => by cases h), (fun h => by cases h)⟩
  · intro k h1 h2 x hx
    rw [ge k h1 h2 x hx]
    exact ⟨(fun _ h => by cases h), (fun h => by cases h)⟩
  · intro cs
    constructor
    · rintro ⟨n, h⟩
      have := (h.sink g0).2
      omega
    · intro h; cases h
theorem frg_eps (l : List St) : Frg (l ++ [nd]) l.length (l.length + 1) l.length l.length .eps := by
  have g0 : (l ++ [nd])[l.length]? = some ⟨none, 0, []⟩ := by rw [List.getElem?_append_right (Nat.le_refl _)]; simp [nd]
  have ge : ∀ k, l.length ≤ k → k < l.length + 1 → ∀ x, (l ++ [nd])[k]? = some x → x = nd := fun k h1 h2 x hx => by
    obtain rfl : k = l.length := by omega
    rw [g0] at hx; exact (Option.some.inj hx).symm
  refine ⟨Nat.le_refl _, by omega, by omega, by omega, by simp, ?_, g0, ?_, ?_⟩
  · rintro k ⟨h1, h2⟩ x hx
    rw [ge k h1 h2 x hx]
    exact ⟨(fun _ h => by cases h), (fun h => by cases h)⟩
  · intro k h1 h2 x hx
    rw [ge k h1 h2 x hx]
    exact ⟨(fun _ h => by cases h), (fun h => by cases h)⟩
  · intro cs
    constructor
    · rintro ⟨n, h⟩
      rw [(h.sink g0).1]
      exact .eps
    · intro h
      cases h
      exact ⟨0, .refl _⟩
theorem frg_set (l : List St) (S : Nat → Bool) : Frg (l ++ [⟨some S, l.length + 1, []⟩, nd]) l.length (l.length + 2) l.length (l.length + 1) (.set S) := by
  have g0 : (l ++ [⟨some S, l.length + 1, []⟩, nd])[l.length]? = some ⟨some S, l.length + 1, []⟩ := by rw [List.getElem?_append_right (Nat.le_refl _)]; simp
  have g1 : (l ++ [⟨some S, l.length + 1, []⟩, nd])[l.length + 1]? = some ⟨none, 0, []⟩ := by rw [List.getElem?_append_right (by omega)]; simp [nd]
  have ge : ∀ k, l.length ≤ k → k < l.length + 2 → ∀ x, (l ++ [⟨some S, l.length + 1, []⟩, nd])[k]? = some x → x = ⟨some S, l.length + 1, []⟩ ∨ x = nd := fun k h1 h2 x hx => by
    rcases (show k = l.length ∨ k = l.length + 1 by omega) with rfl | rfl
    · rw [g0] at hx; exact .inl (Option.some.inj hx).symm
    · rw [g1] at hx; exact .inr (Option.some.inj hx).symm
  refine ⟨Nat.le_refl _, by omega, by omega, by omega, by simp, ?_, g1, ?_, ?_⟩
  · rintro k ⟨h1, h2⟩ x hx
    rcases ge k h1 h2 x hx with rfl | rfl
    · exact ⟨(fun _ h => by cases h), fun _ => ⟨by simp, by simp⟩⟩
    · exact ⟨(fun _ h => by cases h), (fun h => by cases h)⟩
  · intro k h1 h2 x hx
    rcases ge k h1 h2 x hx with rfl | rfl
    · exact ⟨(fun _ h => by cases h), fun _ => by simp⟩
    · exact ⟨(fun _ h => by cases h), (fun h => by cases h)⟩
  · intro cs
    constructor
    · rintro ⟨n, h⟩
      rcases h.inv with ⟨_, e⟩ | ⟨x, f, m, h1, h2, _⟩ | ⟨x, c, cs', m, rfl, h1, h2, h3⟩
      · omega
      · rw [g0] at h1; obtain rfl := Option.some.inj h1; cases h2
      · rw [g0] at h1
        obtain rfl := Option.some.inj h1
        rw [(h3.sink g1).1]
        exact .set h2
    · intro h
      cases h with
      | set h => exact ⟨1, .byte g0 h (.refl _)⟩
/-- one behind the other -/
theorem Frg.cat {sts0 sts1 : List St} {lo f t hi xf xt : Nat} {a b : Re} (h : Frg sts0 lo sts0.length f t a) (he : ∀ k, k < sts0.length → sts1[k]? = sts0[k]?) (hx : Frg sts1 sts0.length hi xf xt b) :
    Frg (addF sts1 t xf) lo hi f xt (.cat a b) := by
  have ht1 := h.t1
  have hf1 := h.f1
  have hf0 := h.f0
  have xf0 := hx.f0
  have xf1 := hx.f1
  have xt0 := hx.t0
  have gt : (addF sts1 t xf)[t]? = some ⟨none, 0, [xf]⟩ := by rw [addF_eq ((he t ht1).trans h.sink)]; rfl
  have go : ∀ k, k < sts0.length → k ≠ t → (addF sts1 t xf)[k]? = sts0[k]? := fun k hk hne => (addF_ne hne).trans (he k hk)
  have gx : ∀ k, sts0.length ≤ k → (addF sts1 t xf)[k]? = sts1[k]? := fun k hk => addF_ne (by omega)
  refine ⟨hf0, by omega, by have := h.f0; omega, hx.t1, by rw [addF_len]; exact hx.hl, ?_, by rw [gx _ xt0]; exact hx.sink, ?_, ?_⟩
  · rintro k ⟨h1, h2⟩ x hxk
    by_cases hk : k < sts0.length
    · by_cases hkt : k = t
      · subst hkt
        rw [gt] at hxk
        obtain rfl := Option.some.inj hxk
        refine ⟨fun g hg => ?_, (fun h => by cases h)⟩
        rw [List.mem_singleton.1 hg]
        exact ⟨by omega, by omega⟩
      · rw [go k hk hkt] at hxk
        obtain ⟨q1, q2⟩ := h.shut k ⟨h1, hk⟩ x hxk
        exact ⟨fun g hg => ⟨(q1 g hg).1, by have := (q1 g hg).2; omega⟩, fun hs => ⟨(q2 hs).1, by have := (q2 hs).2; omega⟩⟩
    · rw [gx k (by omega)] at hxk
      obtain ⟨q1, q2⟩ := hx.shut k ⟨by omega, h2⟩ x hxk
      exact ⟨fun g hg => ⟨by have := (q1 g hg).1; omega, (q1 g hg).2⟩, fun hs => ⟨by have := (q2 hs).1; omega, (q2 hs).2⟩⟩
  · intro k h1 h2 x hxk
    by_cases hk : k < sts0.length
    · by_cases hkt : k = t
      · subst hkt
        rw [gt] at hxk
        obtain rfl := Option.some.inj hxk
        refine ⟨fun g hg => ?_, (fun h => by cases h)⟩
        rw [List.mem_singleton.1 hg]
        omega
      · rw [go k hk hkt] at hxk
        exact h.noin k h1 hk x hxk
    · rw [gx k (by omega)] at hxk
      obtain ⟨q1, q2⟩ := hx.shut k ⟨by omega, h2⟩ x hxk
      exact ⟨fun g hg => by have := (q1 g hg).1; omega, fun hs => by have := (q2 hs).1; omega⟩
  · intro cs
    constructor
    · rintro ⟨n, hp⟩
      obtain ⟨x, y, n1, n2, rfl, p1, p2, _⟩ := hp.exit h.shut (fun k hk hne => go k hk.2 hne) (fun hg => absurd hg.2 (by omega)) ⟨hf0, hf1⟩
      rcases p2.first gt with ⟨_, e⟩ | ⟨g, hg, m, _, p3⟩
      · omega
      · rw [List.mem_singleton.1 hg] at p3
        exact .cat ((h.lang x).1 ⟨_, p1⟩) ((hx.lang y).1 ⟨_, p3.same hx.shut (fun k hk => gx k hk.1) ⟨xf0, xf1⟩⟩)
    · intro hl
      cases hl with
      | cat l1 l2 =>
        obtain ⟨n1, p1⟩ := (h.lang _).2 l1
        obtain ⟨n2, p2⟩ := (hx.lang _).2 l2
        have q1 := p1.more (sts' := addF sts1 t xf) h.shut (fun k hk x hxk => by
          by_cases hkt : k = t
          · subst hkt
            rw [h.sink] at hxk
            obtain rfl := Option.some.inj hxk
            exact ⟨_, gt, (fun _ h => by cases h), rfl, rfl⟩
          · exact ⟨x, (go k hk.2 hkt).trans hxk, fun _ h => h, rfl, rfl⟩) ⟨hf0, hf1⟩
        have q2 := p2.same (sts := addF sts1 t xf) (sts' := sts1) (R := fun k => sts0.length ≤ k ∧ k < hi) (fun k hk x hxk => hx.shut k hk x ((gx k hk.1).symm.trans hxk)) (fun k hk => (gx k hk.1).symm) ⟨xf0, xf1⟩
        exact ⟨_, q1.trans (.free gt (List.mem_singleton.2 rfl) q2)⟩
/-- one more alternative -/
theorem Frg.alt {sts0 sts1 : List St} {lo f t hi xf xt : Nat} {a b : Re} (h : Frg sts0 lo sts0.length f t a) (hft : f ≠ t) (he : ∀ k, k < sts0.length → sts1[k]? = sts0[k]?) (hx : Frg sts1 sts0.length hi xf xt b) :
    Frg (addF (addF sts1 f xf) xt t) lo hi f t (.alt a b) := by
  have ht1 := h.t1
  have hf1 := h.f1
  have hf0 := h.f0
  have ht0 := h.t0
  have xf0 := hx.f0
  have xf1 := hx.f1
  have xt0 := hx.t0
  have xt1 := hx.t1
  obtain ⟨z, hz⟩ : ∃ z, sts0[f]? = some z := ⟨_, List.getElem?_eq_getElem hf1⟩
  obtain ⟨zs, zn, zf⟩ := z
  have gf : (addF (addF sts1 f xf) xt t)[f]? = some ⟨zs, zn, zf ++ [xf]⟩ := by rw [addF_ne (by omega), addF_eq ((he f hf1).trans hz)]
  have gxt : (addF (addF sts1 f xf) xt t)[xt]? = some ⟨none, 0, [t]⟩ := by
    rw [addF_eq (x := ⟨none, 0, []⟩) (by rw [addF_ne (by omega)]; exact hx.sink)]; rfl
  have go : ∀ k, k < sts0.length → k ≠ f → (addF (addF sts1 f xf) xt t)[k]? = sts0[k]? := fun k hk hne => by rw [addF_ne (by omega), addF_ne hne, he k hk]
  have gx : ∀ k, sts0.length ≤ k → k ≠ xt → (addF (addF sts1 f xf) xt t)[k]? = sts1[k]? := fun k hk hne => by rw [addF_ne hne, addF_ne (by omega)]
  have gt : (addF (addF sts1 f xf) xt t)[t]? = some ⟨none, 0, []⟩ := (go t ht1 (Ne.symm hft)).trans h.sink
  obtain ⟨sf1, sf2⟩ := h.shut f ⟨hf0, hf1⟩ _ hz
  obtain ⟨nf1, nf2⟩ := h.noin f hf0 hf1 _ hz
  refine ⟨hf0, by omega, ht0, by omega, by rw [addF_len, addF_len]; exact hx.hl, ?_, gt, ?_, ?_⟩
  · rintro k ⟨h1, h2⟩ x hxk
    by_cases hk : k < sts0.length
    · by_cases hkf : k = f
      · subst hkf
        rw [gf] at hxk
        obtain rfl := Option.some.inj hxk
        refine ⟨fun g hg => ?_, fun hs => ⟨(sf2 hs).1, by have := (sf2 hs).2; dsimp only at this ⊢; omega⟩⟩
        rcases List.mem_append.1 hg with hg | hg
        · exact ⟨(sf1 g hg).1, by have := (sf1 g hg).2; omega⟩
        · rw [List.mem_singleton.1 hg]
          exact ⟨by omega, by omega⟩
      · rw [go k hk hkf] at hxk
        obtain ⟨q1, q2⟩ := h.shut k ⟨h1, hk⟩ x hxk
        exact ⟨fun g hg => ⟨(q1 g hg).1, by have := (q1 g hg).2; omega⟩, fun hs => ⟨(q2 hs).1, by have := (q2 hs).2; omega⟩⟩
    · by_cases hkx : k = xt
      · subst hkx
        rw [gxt] at hxk
        obtain rfl := Option.some.inj hxk
        refine ⟨fun g hg => ?_, (fun h => by cases h)⟩
        rw [List.mem_singleton.1 hg]
        exact ⟨ht0, by omega⟩
      · rw [gx k (by omega) hkx] at hxk
        obtain ⟨q1, q2⟩ := hx.shut k ⟨by omega, h2⟩ x hxk
        exact ⟨fun g hg => ⟨by have := (q1 g hg).1; omega, (q1 g hg).2⟩, fun hs => ⟨by have := (q2 hs).1; omega, (q2 hs).2⟩⟩
  · intro k h1 h2 x hxk
    by_cases hk : k < sts0.length
    · by_cases hkf : k = f
      · subst hkf
        rw [gf] at hxk
        obtain rfl := Option.some.inj hxk
        refine ⟨fun g hg => ?_, nf2⟩
        rcases List.mem_append.1 hg with hg | hg
        · exact nf1 g hg
        · rw [List.mem_singleton.1 hg]; omega
      · rw [go k hk hkf] at hxk
        exact h.noin k h1 hk x hxk
    · by_cases hkx : k = xt
      · subst hkx
        rw [gxt] at hxk
        obtain rfl := Option.some.inj hxk
        refine ⟨fun g hg => ?_, (fun h => by cases h)⟩
        rw [List.mem_singleton.1 hg]
        exact Ne.symm hft
      · rw [gx k (by omega) hkx] at hxk
        obtain ⟨q1, q2⟩ := hx.shut k ⟨by omega, h2⟩ x hxk
        exact ⟨fun g hg => by have := (q1 g hg).1; omega, fun hs => by have := (q2 hs).1; omega⟩
  · intro cs
    have shutF : Shut sts0 (fun k => (lo ≤ k ∧ k < sts0.length) ∧ k ≠ f) := fun k hk x hxk => by
      obtain ⟨q1, q2⟩ := h.shut k hk.1 x hxk
      obtain ⟨q3, q4⟩ := h.noin k hk.1.1 hk.1.2 x hxk
      exact ⟨fun g hg => ⟨q1 g hg, q3 g hg⟩, fun hs => ⟨q2 hs, q4 hs⟩⟩
    constructor
    · rintro ⟨n, hp⟩
      cases hp with
      | refl => exact absurd rfl hft
      | free h1 h2 h3 =>
        rw [gf] at h1
        obtain rfl := Option.some.inj h1
        rcases List.mem_append.1 h2 with hg | hg
        · exact .altl ((h.lang cs).1 ⟨_, .free hz hg (h3.same shutF (fun k hk => go k hk.1.2 hk.2) ⟨sf1 _ hg, nf1 _ hg⟩)⟩)
        · rw [List.mem_singleton.1 hg] at h3
          obtain ⟨x, y, n1, n2, rfl, p1, p2, _⟩ := h3.exit hx.shut (fun k hk hne => gx k hk.1 hne) (fun hg => absurd hg.1 (by omega)) ⟨xf0, xf1⟩
          rcases p2.first gxt with ⟨_, e⟩ | ⟨g, hg, m, _, p3⟩
          · omega
          · rw [List.mem_singleton.1 hg] at p3
            rw [(p3.sink gt).1, List.append_nil]
            exact .altr ((hx.lang x).1 ⟨_, p1⟩)
      | byte h1 h2 h3 =>
        rw [gf] at h1
        obtain rfl := Option.some.inj h1
        have hs := goB_some h2
        exact .altl ((h.lang _).1 ⟨_, .byte hz h2 (h3.same shutF (fun k hk => go k hk.1.2 hk.2) ⟨sf2 hs, nf2 hs⟩)⟩)
    · intro hl
      cases hl with
      | altl l1 =>
        obtain ⟨n1, p1⟩ := (h.lang _).2 l1
        exact ⟨_, p1.more (sts' := addF (addF sts1 f xf) xt t) h.shut (fun k hk x hxk => by
          by_cases hkt : k = f
          · subst hkt
            rw [hz] at hxk
            obtain rfl := Option.some.inj hxk
            exact ⟨_, gf, fun _ h => List.mem_append_left _ h, rfl, rfl⟩
          · exact ⟨x, (go k hk.2 hkt).trans hxk, fun _ h => h, rfl, rfl⟩) ⟨hf0, hf1⟩⟩
      | altr l2 =>
        obtain ⟨n2, p2⟩ := (hx.lang _).2 l2
        have q2 := p2.more (sts' := addF (addF sts1 f xf) xt t) hx.shut (fun k hk x hxk => by
          by_cases hkt : k = xt
          · subst hkt
            rw [hx.sink] at hxk
            obtain rfl := Option.some.inj hxk
            exact ⟨_, gxt, (fun _ h => by cases h), rfl, rfl⟩
          · exact ⟨x, (gx k hk.1 hkt).trans hxk, fun _ h => h, rfl, rfl⟩) ⟨xf0, xf1⟩
        have q3 := Pa.free gf (List.mem_append_right _ (List.mem_singleton.2 rfl)) (q2.trans (.free gxt (List.mem_singleton.2 rfl) (.refl t)))
        rw [List.append_nil] at q3
        exact ⟨_, q3⟩
def postR : Bool → Bool → Re → Re
  | true, true, a => .star a
  | false, true, a => .plus a
  | true, false, a => .opt a
  | false, false, a => a
/-- with a postfix -/
theorem Frg.post {sts0 sts' : List St} {lo xf xt : Nat} {a : Re} (h : Frg sts0 lo sts0.length xf xt a) (skip again : Bool)
    (hlen : sts'.length = sts0.length + 2) (go : ∀ k, k < sts0.length → k ≠ xt → sts'[k]? = sts0[k]?)
    (gF : sts'[sts0.length]? = some ⟨none, 0, [xf] ++ (if skip = true then [sts0.length + 1] else [])⟩)
    (gx : sts'[xt]? = some ⟨none, 0, [sts0.length + 1] ++ (if again = true then [xf] else [])⟩)
    (gT : sts'[sts0.length + 1]? = some ⟨none, 0, []⟩) (r : Re)
    (hr : r = postR skip again a) :
    Frg sts' lo (sts0.length + 2) sts0.length (sts0.length + 1) r := by
  have f0 := h.f0
  have f1 := h.f1
  have t0 := h.t0
  have t1 := h.t1
  have one : ∀ {cs n}, Pa sts' xf cs (sts0.length + 1) n → ∃ x y, cs = x ++ y ∧ Lr a x ∧ (y = [] ∨ (again = true ∧ ∃ m, m < n ∧ Pa sts' xf y (sts0.length + 1) m)) := by
    intro cs n hp
    obtain ⟨x, y, n1, n2, rfl, p1, p2, hn⟩ := hp.exit h.shut (fun k hk hne => go k hk.2 hne) (fun hg => absurd hg.2 (by omega)) ⟨f0, f1⟩
    refine ⟨x, y, rfl, (h.lang x).1 ⟨_, p1⟩, ?_⟩
    rcases p2.first gx with ⟨_, e⟩ | ⟨g, hg, m, hm, p3⟩
    · omega
    · rcases List.mem_append.1 hg with hg | hg
      · rw [List.mem_singleton.1 hg] at p3
        exact .inl (p3.sink gT).1
      · split at hg
        · rename_i ha
          rw [List.mem_singleton.1 hg] at p3
          exact .inr ⟨ha, m, by omega, p3⟩
        · cases hg
  have many : ∀ n, ∀ cs, Pa sts' xf cs (sts0.length + 1) n → ∃ x y, cs = x ++ y ∧ Lr a x ∧ (again = false → y = []) ∧ Lr (.star a) y := by
    intro n
    induction n using Nat.strongRecOn with
    | ind n ih =>
      intro cs hp
      obtain ⟨x, y, e, l1, h1 | ⟨h1, m, hm, p3⟩⟩ := one hp
      · subst h1; exact ⟨x, [], e, l1, fun _ => rfl, .star0⟩
      · obtain ⟨x', y', e', l1', _, l3⟩ := ih m hm y p3
        exact ⟨x, y, e, l1, (fun h => by rw [h1] at h; cases h), by rw [e']; exact .star1 l1' l3⟩
  have up : ∀ {x n}, Pa sts0 xf x xt n → Pa sts' xf x xt n := fun p => p.more h.shut (fun k hk x hxk => by
    by_cases hkt : k = xt
    · subst hkt
      rw [h.sink] at hxk
      obtain rfl := Option.some.inj hxk
      exact ⟨_, gx, (fun _ h => by cases h), rfl, rfl⟩
    · exact ⟨x, (go k hk.2 hkt).trans hxk, fun _ h => h, rfl, rfl⟩) ⟨f0, f1⟩
  have out : ∀ {x}, Lr a x → ∃ n, Pa sts' xf x (sts0.length + 1) n := fun {x} l => by
    obtain ⟨n, p⟩ := (h.lang x).2 l
    have := (up p).trans (.free gx (List.mem_append_left _ (List.mem_singleton.2 rfl)) (.refl _))
    rw [List.append_nil] at this
    exact ⟨_, this⟩
  have loop : ∀ {x y n}, again = true → Lr a x → Pa sts' xf y (sts0.length + 1) n → ∃ n, Pa sts' xf (x ++ y) (sts0.length + 1) n := fun {x y n} ha l p2 => by
    obtain ⟨n, p⟩ := (h.lang x).2 l
    exact ⟨_, (up p).trans (.free gx (List.mem_append_right _ (by rw [ha]; exact List.mem_singleton.2 rfl)) p2)⟩
  have loops : again = true → ∀ {r y}, Lr r y → r = .star a → ∀ {x}, Lr a x → ∃ n, Pa sts' xf (x ++ y) (sts0.length + 1) n := fun ha r y l => by
    induction l with
    | star0 => intro _ x lx; rw [List.append_nil]; exact out lx
    | star1 l1 _ _ ih2 =>
      intro e x lx
      cases e
      obtain ⟨n, p⟩ := ih2 rfl l1
      exact loop ha lx p
    | _ => intro e; cases e
  refine ⟨by omega, by omega, by omega, by omega, by omega, ?_, gT, ?_, ?_⟩
  · rintro k ⟨h1, h2⟩ x hxk
    rcases (show (k < sts0.length ∧ k ≠ xt) ∨ k = xt ∨ k = sts0.length ∨ k = sts0.length + 1 by omega) with ⟨hk, hkt⟩ | rfl | rfl | rfl
    · rw [go k hk hkt] at hxk
      obtain ⟨q1, q2⟩ := h.shut k ⟨h1, hk⟩ x hxk
      exact ⟨fun g hg => ⟨(q1 g hg).1, by have := (q1 g hg).2; omega⟩, fun hs => ⟨(q2 hs).1, by have := (q2 hs).2; omega⟩⟩
    · rw [gx] at hxk
      obtain rfl := Option.some.inj hxk
      refine ⟨fun g hg => ?_, (fun h => by cases h)⟩
      rcases List.mem_append.1 hg with hg | hg
      · rw [List.mem_singleton.1 hg]; exact ⟨by omega, by omega⟩
      · split at hg
        · rw [List.mem_singleton.1 hg]; exact ⟨by omega, by omega⟩
        · cases hg
    · rw [gF] at hxk
      obtain rfl := Option.some.inj hxk
      refine ⟨fun g hg => ?_, (fun h => by cases h)⟩
      rcases List.mem_append.1 hg with hg | hg
      · rw [List.mem_singleton.1 hg]; exact ⟨by omega, by omega⟩
      · split at hg
        · rw [List.mem_singleton.1 hg]; exact ⟨by omega, by omega⟩
        · cases hg
    · rw [gT] at hxk
      obtain rfl := Option.some.inj hxk
      exact ⟨(fun _ h => by cases h), (fun h => by cases h)⟩
  · intro k h1 h2 x hxk
    rcases (show (k < sts0.length ∧ k ≠ xt) ∨ k = xt ∨ k = sts0.length ∨ k = sts0.length + 1 by omega) with ⟨hk, hkt⟩ | rfl | rfl | rfl
    · rw [go k hk hkt] at hxk
      obtain ⟨q1, q2⟩ := h.shut k ⟨h1, hk⟩ x hxk
      exact ⟨fun g hg => by have := (q1 g hg).2; omega, fun hs => by have := (q2 hs).2; omega⟩
    · rw [gx] at hxk
      obtain rfl := Option.some.inj hxk
      refine ⟨fun g hg => ?_, (fun h => by cases h)⟩
      rcases List.mem_append.1 hg with hg | hg
      · rw [List.mem_singleton.1 hg]; omega
      · split at hg
        · rw [List.mem_singleton.1 hg]; omega
        · cases hg
    · rw [gF] at hxk
      obtain rfl := Option.some.inj hxk
      refine ⟨fun g hg => ?_, (fun h => by cases h)⟩
      rcases List.mem_append.1 hg with hg | hg
      · rw [List.mem_singleton.1 hg]; omega
      · split at hg
        · rw [List.mem_singleton.1 hg]; omega
        · cases hg
    · rw [gT] at hxk
      obtain rfl := Option.some.inj hxk
      exact ⟨(fun _ h => by cases h), (fun h => by cases h)⟩
  · intro cs
    have hin : ∀ {n}, Pa sts' xf cs (sts0.length + 1) n → ∃ n, Pa sts' sts0.length cs (sts0.length + 1) n := fun p => ⟨_, .free gF (List.mem_append_left _ (List.mem_singleton.2 rfl)) p⟩
    constructor
    · rintro ⟨n, hp⟩
      rcases hp.first gF with ⟨_, e⟩ | ⟨g, hg, m, _, p3⟩
      · omega
      · rcases List.mem_append.1 hg with hg | hg
        · rw [List.mem_singleton.1 hg] at p3
          obtain ⟨x, y, rfl, l1, l2, l3⟩ := many _ _ p3
          subst hr
          cases skip <;> cases again
          · rw [l2 rfl, List.append_nil]; exact l1
          · exact .plus l1 l3
          · rw [l2 rfl, List.append_nil]; exact .opt1 l1
          · exact .star1 l1 l3
        · split at hg
          · rename_i hs
            rw [List.mem_singleton.1 hg] at p3
            rw [(p3.sink gT).1]
            subst hr
            rw [hs]
            cases again
            · exact .opt0
            · exact .star0
          · cases hg
    · intro hl
      subst hr
      have hskip : skip = true → ∃ n, Pa sts' sts0.length [] (sts0.length + 1) n := fun hs => ⟨_, .free gF (List.mem_append_right _ (by rw [hs]; exact List.mem_singleton.2 rfl)) (.refl _)⟩
      cases skip <;> cases again
      · obtain ⟨n, p⟩ := out hl; exact hin p
      · cases hl with
        | plus l1 l2 => obtain ⟨n, p⟩ := loops rfl l2 rfl l1; exact hin p
      · cases hl with
        | opt0 => exact hskip rfl
        | opt1 l => obtain ⟨n, p⟩ := out l; exact hin p
      · cases hl with
        | star0 => exact hskip rfl
        | star1 l1 l2 => obtain ⟨n, p⟩ := loops rfl l2 rfl l1; exact hin p
end Go.Proofs.Ytlepnnbgecneeaa
