/- MatchFits: the card: whatever the arguments, the law returns true and its arguments read as they did. No condition. -/
import Derived.Test.YtgbapkechngnmaaGreatU6CP2
import Derived.Test.YtgbapkechngnmaaGreatRd
import Derived.Deep.MidRow
import Derived.Test.YtgbapkechngnmaaGreatRows
import Derived.WalkKit
import Derived.WalkSpells
import Derived.WalkLawsBesides
import Derived.BigQuiet
import Derived.Deep.QuietTactic
import Derived.Lib.Hide
import Derived.Deep.DeepCutAuto
import Derived.Laws.Tables
import Derived.Great.BuildSlice
import Derived.Deep.OwnRows
import Derived.Great.Ranges
import Derived.Test.YtgbapkechngnmaaGreatFrame12

/- What a pattern says: a tree, and the texts of a tree; the builder's states say the same. No program in sight. -/
namespace Go.Proofs.YtgbapkechngnmaaGreat

inductive Re where
 | no
 | eps
 | set (S : Nat → Bool)
 | cat (a b : Re)
 | alt (a b : Re)
 | star (a : Re)
 | plus (a : Re)
 | opt (a : Re)
inductive Lr : Re → List Nat → Prop
 | eps : Lr .eps []
 | set {S : Nat → Bool} {c : Nat} : S c = true → Lr (.set S) [c]
 | cat {a b : Re} {x y : List Nat} : Lr a x → Lr b y → Lr (.cat a b) (x ++ y)
 | altl {a b : Re} {x : List Nat} : Lr a x → Lr (.alt a b) x
 | altr {a b : Re} {x : List Nat} : Lr b x → Lr (.alt a b) x
 | star0 {a : Re} : Lr (.star a) []
 | star1 {a : Re} {x y : List Nat} : Lr a x → Lr (.star a) y → Lr (.star a) (x ++ y)
 | plus {a : Re} {x y : List Nat} : Lr a x → Lr (.star a) y → Lr (.plus a) (x ++ y)
 | opt0 {a : Re} : Lr (.opt a) []
 | opt1 {a : Re} {x : List Nat} : Lr a x → Lr (.opt a) x
inductive Pa (sts : List St) : Nat → List Nat → Nat → Nat → Prop
 | refl (k : Nat) : Pa sts k [] k 0
 | free {j f k n : Nat} {cs : List Nat} {x : St} : sts[j]? = some x → f ∈ x.free → Pa sts f cs k n → Pa sts j cs k (n + 1)
 | byte {j k c n : Nat} {cs : List Nat} {x : St} : sts[j]? = some x → goB x c = true → Pa sts x.next cs k n → Pa sts j (c :: cs) k (n + 1)
theorem Pa.trans {sts : List St} {j k l n m : Nat} {x y : List Nat} (h : Pa sts j x k n) (h' : Pa sts k y l m) : Pa sts j (x ++ y) l (n + m) := by
 induction h with
 | refl => simpa using h'
 | free h1 h2 _ ih => rw [Nat.add_right_comm]; exact Pa.free h1 h2 (ih h')
 | byte h1 h2 _ ih => rw [Nat.add_right_comm]; exact Pa.byte h1 h2 (ih h')
theorem Pa.inv {sts : List St} {j g n : Nat} {cs : List Nat} (h : Pa sts j cs g n) : (cs = [] ∧ j = g) ∨ (∃ x f m, sts[j]? = some x ∧ f ∈ x.free ∧ Pa sts f cs g m) ∨ ∃ x c cs' m, cs = c :: cs' ∧ sts[j]? = some x ∧ goB x c = true ∧ Pa sts x.next cs' g m := by
 cases h with
 | refl => exact .inl ⟨rfl, rfl⟩
 | free h1 h2 h3 => exact .inr (.inl ⟨_, _, _, h1, h2, h3⟩)
 | byte h1 h2 h3 => exact .inr (.inr ⟨_, _, _, _, rfl, h1, h2, h3⟩)
def Shut (sts : List St) (R : Nat → Prop) : Prop := ∀ k, R k → ∀ x, sts[k]? = some x → (∀ g ∈ x.free, R g) ∧ (x.set.isSome = true → R x.next)
theorem goB_some {x : St} {c : Nat} (h : goB x c = true) : x.set.isSome = true := by
 unfold goB at h
 split at h
 ·rename_i f hf; rw [hf]; rfl
 ·cases h
theorem Pa.same {sts sts' : List St} {R : Nat → Prop} (hs : Shut sts R) (he : ∀ k, R k → sts'[k]? = sts[k]?) {j g n : Nat} {cs : List Nat} (h : Pa sts' j cs g n) (hj : R j) : Pa sts j cs g n := by
 induction h with
 | refl => exact .refl _
 | free h1 h2 _ ih => rw [he _ hj] at h1; exact .free h1 h2 (ih ((hs _ hj _ h1).1 _ h2))
 | byte h1 h2 _ ih => rw [he _ hj] at h1; exact .byte h1 h2 (ih ((hs _ hj _ h1).2 (goB_some h2)))
theorem Pa.more {sts sts' : List St} {R : Nat → Prop} (hs : Shut sts R) (he : ∀ k, R k → ∀ x, sts[k]? = some x → ∃ x', sts'[k]? = some x' ∧ (∀ g ∈ x.free, g ∈ x'.free) ∧ x'.set = x.set ∧ x'.next = x.next) {j g n : Nat} {cs : List Nat} (h : Pa sts j cs g n) (hj : R j) : Pa sts' j cs g n := by
 induction h with
 | refl => exact .refl _
 | free h1 h2 _ ih =>
  obtain ⟨x', e1, e2, _, _⟩ := he _ hj _ h1
  exact .free e1 (e2 _ h2) (ih ((hs _ hj _ h1).1 _ h2))
 | byte h1 h2 _ ih =>
  obtain ⟨x', e1, _, e3, e4⟩ := he _ hj _ h1
  refine .byte e1 (by unfold goB at h2 ⊢; rw [e3]; exact h2) ?_
  rw [e4]
  exact ih ((hs _ hj _ h1).2 (goB_some h2))
theorem Pa.exit {sts sts' : List St} {R : Nat → Prop} {t g : Nat} (hs : Shut sts R) (he : ∀ k, R k → k ≠ t → sts'[k]? = sts[k]?) (hg : R g → g = t) {j n : Nat} {cs : List Nat} (h : Pa sts' j cs g n) (hj : R j) :
  ∃ x y n1 n2, cs = x ++ y ∧ Pa sts j x t n1 ∧ Pa sts' t y g n2 ∧ n2 ≤ n := by
 induction h with
 | refl => 
  have := hg hj
  subst this
  exact ⟨[], [], 0, 0, rfl, .refl _, .refl _, Nat.le_refl _⟩
 | free h1 h2 h3 ih =>
  rename_i j f k n cs x
  by_cases hjt : j = t
  ·subst hjt
   exact ⟨[], cs, 0, n + 1, rfl, .refl _, .free h1 h2 h3, Nat.le_refl _⟩
  ·rw [he _ hj hjt] at h1
   obtain ⟨x1, y1, n1, n2, e1, e2, e3, e4⟩ := ih hg ((hs _ hj _ h1).1 _ h2)
   exact ⟨x1, y1, n1 + 1, n2, e1, .free h1 h2 e2, e3, by omega⟩
 | byte h1 h2 h3 ih =>
  rename_i j k c n cs x
  by_cases hjt : j = t
  ·subst hjt
   exact ⟨[], c :: cs, 0, n + 1, rfl, .refl _, .byte h1 h2 h3, Nat.le_refl _⟩
  ·rw [he _ hj hjt] at h1
   obtain ⟨x1, y1, n1, n2, e1, e2, e3, e4⟩ := ih hg ((hs _ hj _ h1).2 (goB_some h2))
   exact ⟨c :: x1, y1, n1 + 1, n2, by rw [e1]; rfl, .byte h1 h2 e2, e3, by omega⟩
theorem Pa.first {sts : List St} {t g n nx : Nat} {l cs : List Nat} (h : Pa sts t cs g n) (ht : sts[t]? = some ⟨none, nx, l⟩) : (cs = [] ∧ t = g) ∨ ∃ f ∈ l, ∃ m, m < n ∧ Pa sts f cs g m := by
 cases h with
 | refl => exact .inl ⟨rfl, rfl⟩
 | free h1 h2 h3 =>
  rw [ht] at h1
  obtain rfl := Option.some.inj h1
  exact .inr ⟨_, h2, _, Nat.lt_succ_self _, h3⟩
 | byte h1 h2 h3 =>
  rw [ht] at h1
  obtain rfl := Option.some.inj h1
  cases goB_some h2
theorem addF_look (l : List St) (f t j : Nat) : (addF l f t)[j]? = if j = f then (l[j]?).map (fun x => { x with free := x.free ++ [t] }) else l[j]? := by
 induction l generalizing f j with
 | nil => simp [addF]
 | cons x l ih =>
  cases f with
  | zero => cases j <;> simp [addF]
  | succ f => cases j with
   | zero => simp [addF]
   | succ j => simp only [addF, List.getElem?_cons_succ, ih]; simp
theorem addF_ne {l : List St} {f t j : Nat} (h : j ≠ f) : (addF l f t)[j]? = l[j]? := by rw [addF_look, if_neg h]
theorem addF_eq {l : List St} {f t : Nat} {x : St} (h : l[f]? = some x) : (addF l f t)[f]? = some { x with free := x.free ++ [t] } := by rw [addF_look, if_pos rfl, h]; rfl
structure Frg (sts : List St) (lo hi f t : Nat) (a : Re) : Prop where
 f0 : lo ≤ f
 f1 : f < hi
 t0 : lo ≤ t
 t1 : t < hi
 hl : hi ≤ sts.length
 shut : Shut sts (fun k => lo ≤ k ∧ k < hi)
 sink : sts[t]? = some ⟨none, 0, []⟩
 noin : ∀ k, lo ≤ k → k < hi → ∀ x, sts[k]? = some x → (∀ g ∈ x.free, g ≠ f) ∧ (x.set.isSome = true → x.next ≠ f)
 lang : ∀ cs, (∃ n, Pa sts f cs t n) ↔ Lr a cs
def nd : St := ⟨none, 0, []⟩
theorem Pa.sink {sts : List St} {t g n : Nat} {cs : List Nat} (h : Pa sts t cs g n) (ht : sts[t]? = some ⟨none, 0, []⟩) : cs = [] ∧ t = g := by
 rcases h.first ht with h1 | ⟨f, hf, _⟩
 ·exact h1
 ·cases hf
theorem frg_no (l : List St) : Frg (l ++ [nd, nd]) l.length (l.length + 2) l.length (l.length + 1) .no := by
 have g0 : (l ++ [nd, nd])[l.length]? = some ⟨none, 0, []⟩ := by rw [List.getElem?_append_right (Nat.le_refl _)]; simp [nd]
 have g1 : (l ++ [nd, nd])[l.length + 1]? = some ⟨none, 0, []⟩ := by rw [List.getElem?_append_right (by omega)]; simp [nd]
 have ge : ∀ k, l.length ≤ k → k < l.length + 2 → ∀ x, (l ++ [nd, nd])[k]? = some x → x = nd := fun k h1 h2 x hx => by
  rcases (show k = l.length ∨ k = l.length + 1 by omega) with rfl | rfl
  ·rw [g0] at hx; exact (Option.some.inj hx).symm
  ·rw [g1] at hx; exact (Option.some.inj hx).symm
 refine ⟨Nat.le_refl _, by omega, by omega, by omega, by simp, ?_, g1, ?_, ?_⟩
 ·rintro k ⟨h1, h2⟩ x hx
  rw [ge k h1 h2 x hx]
  exact ⟨(fun _ h => by cases h), (fun h => by cases h)⟩
 ·intro k h1 h2 x hx
  rw [ge k h1 h2 x hx]
  exact ⟨(fun _ h => by cases h), (fun h => by cases h)⟩
 ·intro cs
  constructor
  ·rintro ⟨n, h⟩
   have := (h.sink g0).2
   omega
  ·intro h; cases h
theorem frg_eps (l : List St) : Frg (l ++ [nd]) l.length (l.length + 1) l.length l.length .eps := by
 have g0 : (l ++ [nd])[l.length]? = some ⟨none, 0, []⟩ := by rw [List.getElem?_append_right (Nat.le_refl _)]; simp [nd]
 have ge : ∀ k, l.length ≤ k → k < l.length + 1 → ∀ x, (l ++ [nd])[k]? = some x → x = nd := fun k h1 h2 x hx => by
  obtain rfl : k = l.length := by omega
  rw [g0] at hx; exact (Option.some.inj hx).symm
 refine ⟨Nat.le_refl _, by omega, by omega, by omega, by simp, ?_, g0, ?_, ?_⟩
 ·rintro k ⟨h1, h2⟩ x hx
  rw [ge k h1 h2 x hx]
  exact ⟨(fun _ h => by cases h), (fun h => by cases h)⟩
 ·intro k h1 h2 x hx
  rw [ge k h1 h2 x hx]
  exact ⟨(fun _ h => by cases h), (fun h => by cases h)⟩
 ·intro cs
  constructor
  ·rintro ⟨n, h⟩
   rw [(h.sink g0).1]
   exact .eps
  ·intro h
   cases h
   exact ⟨0, .refl _⟩
theorem frg_set (l : List St) (S : Nat → Bool) : Frg (l ++ [⟨some S, l.length + 1, []⟩, nd]) l.length (l.length + 2) l.length (l.length + 1) (.set S) := by
 have g0 : (l ++ [⟨some S, l.length + 1, []⟩, nd])[l.length]? = some ⟨some S, l.length + 1, []⟩ := by rw [List.getElem?_append_right (Nat.le_refl _)]; simp
 have g1 : (l ++ [⟨some S, l.length + 1, []⟩, nd])[l.length + 1]? = some ⟨none, 0, []⟩ := by rw [List.getElem?_append_right (by omega)]; simp [nd]
 have ge : ∀ k, l.length ≤ k → k < l.length + 2 → ∀ x, (l ++ [⟨some S, l.length + 1, []⟩, nd])[k]? = some x → x = ⟨some S, l.length + 1, []⟩ ∨ x = nd := fun k h1 h2 x hx => by
  rcases (show k = l.length ∨ k = l.length + 1 by omega) with rfl | rfl
  ·rw [g0] at hx; exact .inl (Option.some.inj hx).symm
  ·rw [g1] at hx; exact .inr (Option.some.inj hx).symm
 refine ⟨Nat.le_refl _, by omega, by omega, by omega, by simp, ?_, g1, ?_, ?_⟩
 ·rintro k ⟨h1, h2⟩ x hx
  rcases ge k h1 h2 x hx with rfl | rfl
  ·exact ⟨(fun _ h => by cases h), fun _ => ⟨by simp, by simp⟩⟩
  ·exact ⟨(fun _ h => by cases h), (fun h => by cases h)⟩
 ·intro k h1 h2 x hx
  rcases ge k h1 h2 x hx with rfl | rfl
  ·exact ⟨(fun _ h => by cases h), fun _ => by simp⟩
  ·exact ⟨(fun _ h => by cases h), (fun h => by cases h)⟩
 ·intro cs
  constructor
  ·rintro ⟨n, h⟩
   rcases h.inv with ⟨_, e⟩ | ⟨x, f, m, h1, h2, _⟩ | ⟨x, c, cs', m, rfl, h1, h2, h3⟩
   ·omega
   ·rw [g0] at h1; obtain rfl := Option.some.inj h1; cases h2
   ·rw [g0] at h1
    obtain rfl := Option.some.inj h1
    rw [(h3.sink g1).1]
    exact .set h2
  ·intro h
   cases h with
   | set h => exact ⟨1, .byte g0 h (.refl _)⟩
theorem Frg.cat {sts0 sts1 : List St} {lo f t hi xf xt : Nat} {a b : Re} (h : Frg sts0 lo sts0.length f t a) (he : ∀ k, k < sts0.length → sts1[k]? = sts0[k]?) (hx : Frg sts1 sts0.length hi xf xt b) :
  Frg (addF sts1 t xf) lo hi f xt (.cat a b) := by
 have ht1 := h.t1
 have hf1 := h.f1
 have hf0 := h.f0
 have xf0 := hx.f0
 have xf1 := hx.f1
 have xt0 := hx.t0
 have gt : (addF sts1 t xf)[t]? = some ⟨none, 0, [xf]⟩ := by rw [addF_eq ((he t ht1).trans h.sink)]; rfl
 have go : ∀ k, k < sts0.length → k ≠ t → (addF sts1 t xf)[k]? = sts0[k]? := fun k hk hne => (addF_ne hne).trans (he k hk)
 have gx : ∀ k, sts0.length ≤ k → (addF sts1 t xf)[k]? = sts1[k]? := fun k hk => addF_ne (by omega)
 refine ⟨hf0, by omega, by have := h.f0; omega, hx.t1, by rw [addF_len]; exact hx.hl, ?_, by rw [gx _ xt0]; exact hx.sink, ?_, ?_⟩
 ·rintro k ⟨h1, h2⟩ x hxk
  by_cases hk : k < sts0.length
  ·by_cases hkt : k = t
   ·subst hkt
    rw [gt] at hxk
    obtain rfl := Option.some.inj hxk
    refine ⟨fun g hg => ?_, (fun h => by cases h)⟩
    rw [List.mem_singleton.1 hg]
    exact ⟨by omega, by omega⟩
   ·rw [go k hk hkt] at hxk
    obtain ⟨q1, q2⟩ := h.shut k ⟨h1, hk⟩ x hxk
    exact ⟨fun g hg => ⟨(q1 g hg).1, by have := (q1 g hg).2; omega⟩, fun hs => ⟨(q2 hs).1, by have := (q2 hs).2; omega⟩⟩
  ·rw [gx k (by omega)] at hxk
   obtain ⟨q1, q2⟩ := hx.shut k ⟨by omega, h2⟩ x hxk
   exact ⟨fun g hg => ⟨by have := (q1 g hg).1; omega, (q1 g hg).2⟩, fun hs => ⟨by have := (q2 hs).1; omega, (q2 hs).2⟩⟩
 ·intro k h1 h2 x hxk
  by_cases hk : k < sts0.length
  ·by_cases hkt : k = t
   ·subst hkt
    rw [gt] at hxk
    obtain rfl := Option.some.inj hxk
    refine ⟨fun g hg => ?_, (fun h => by cases h)⟩
    rw [List.mem_singleton.1 hg]
    omega
   ·rw [go k hk hkt] at hxk
    exact h.noin k h1 hk x hxk
  ·rw [gx k (by omega)] at hxk
   obtain ⟨q1, q2⟩ := hx.shut k ⟨by omega, h2⟩ x hxk
   exact ⟨fun g hg => by have := (q1 g hg).1; omega, fun hs => by have := (q2 hs).1; omega⟩
 ·intro cs
  constructor
  ·rintro ⟨n, hp⟩
   obtain ⟨x, y, n1, n2, rfl, p1, p2, _⟩ := hp.exit h.shut (fun k hk hne => go k hk.2 hne) (fun hg => absurd hg.2 (by omega)) ⟨hf0, hf1⟩
   rcases p2.first gt with ⟨_, e⟩ | ⟨g, hg, m, _, p3⟩
   ·omega
   ·rw [List.mem_singleton.1 hg] at p3
    exact .cat ((h.lang x).1 ⟨_, p1⟩) ((hx.lang y).1 ⟨_, p3.same hx.shut (fun k hk => gx k hk.1) ⟨xf0, xf1⟩⟩)
  ·intro hl
   cases hl with
   | cat l1 l2 =>
    obtain ⟨n1, p1⟩ := (h.lang _).2 l1
    obtain ⟨n2, p2⟩ := (hx.lang _).2 l2
    have q1 := p1.more (sts' := addF sts1 t xf) h.shut (fun k hk x hxk => by
     by_cases hkt : k = t
     ·subst hkt
      rw [h.sink] at hxk
      obtain rfl := Option.some.inj hxk
      exact ⟨_, gt, (fun _ h => by cases h), rfl, rfl⟩
     ·exact ⟨x, (go k hk.2 hkt).trans hxk, fun _ h => h, rfl, rfl⟩) ⟨hf0, hf1⟩
    have q2 := p2.same (sts := addF sts1 t xf) (sts' := sts1) (R := fun k => sts0.length ≤ k ∧ k < hi) (fun k hk x hxk => hx.shut k hk x ((gx k hk.1).symm.trans hxk)) (fun k hk => (gx k hk.1).symm) ⟨xf0, xf1⟩
    exact ⟨_, q1.trans (.free gt (List.mem_singleton.2 rfl) q2)⟩
theorem Frg.alt {sts0 sts1 : List St} {lo f t hi xf xt : Nat} {a b : Re} (h : Frg sts0 lo sts0.length f t a) (hft : f ≠ t) (he : ∀ k, k < sts0.length → sts1[k]? = sts0[k]?) (hx : Frg sts1 sts0.length hi xf xt b) :
  Frg (addF (addF sts1 f xf) xt t) lo hi f t (.alt a b) := by
 have ht1 := h.t1
 have hf1 := h.f1
 have hf0 := h.f0
 have ht0 := h.t0
 have xf0 := hx.f0
 have xf1 := hx.f1
 have xt0 := hx.t0
 have xt1 := hx.t1
 obtain ⟨z, hz⟩ : ∃ z, sts0[f]? = some z := ⟨_, List.getElem?_eq_getElem hf1⟩
 obtain ⟨zs, zn, zf⟩ := z
 have gf : (addF (addF sts1 f xf) xt t)[f]? = some ⟨zs, zn, zf ++ [xf]⟩ := by rw [addF_ne (by omega), addF_eq ((he f hf1).trans hz)]
 have gxt : (addF (addF sts1 f xf) xt t)[xt]? = some ⟨none, 0, [t]⟩ := by
  rw [addF_eq (x := ⟨none, 0, []⟩) (by rw [addF_ne (by omega)]; exact hx.sink)]; rfl
 have go : ∀ k, k < sts0.length → k ≠ f → (addF (addF sts1 f xf) xt t)[k]? = sts0[k]? := fun k hk hne => by rw [addF_ne (by omega), addF_ne hne, he k hk]
 have gx : ∀ k, sts0.length ≤ k → k ≠ xt → (addF (addF sts1 f xf) xt t)[k]? = sts1[k]? := fun k hk hne => by rw [addF_ne hne, addF_ne (by omega)]
 have gt : (addF (addF sts1 f xf) xt t)[t]? = some ⟨none, 0, []⟩ := (go t ht1 (Ne.symm hft)).trans h.sink
 obtain ⟨sf1, sf2⟩ := h.shut f ⟨hf0, hf1⟩ _ hz
 obtain ⟨nf1, nf2⟩ := h.noin f hf0 hf1 _ hz
 refine ⟨hf0, by omega, ht0, by omega, by rw [addF_len, addF_len]; exact hx.hl, ?_, gt, ?_, ?_⟩
 ·rintro k ⟨h1, h2⟩ x hxk
  by_cases hk : k < sts0.length
  ·by_cases hkf : k = f
   ·subst hkf
    rw [gf] at hxk
    obtain rfl := Option.some.inj hxk
    refine ⟨fun g hg => ?_, fun hs => ⟨(sf2 hs).1, by have := (sf2 hs).2; dsimp only at this ⊢; omega⟩⟩
    rcases List.mem_append.1 hg with hg | hg
    ·exact ⟨(sf1 g hg).1, by have := (sf1 g hg).2; omega⟩
    ·rw [List.mem_singleton.1 hg]
     exact ⟨by omega, by omega⟩
   ·rw [go k hk hkf] at hxk
    obtain ⟨q1, q2⟩ := h.shut k ⟨h1, hk⟩ x hxk
    exact ⟨fun g hg => ⟨(q1 g hg).1, by have := (q1 g hg).2; omega⟩, fun hs => ⟨(q2 hs).1, by have := (q2 hs).2; omega⟩⟩
  ·by_cases hkx : k = xt
   ·subst hkx
    rw [gxt] at hxk
    obtain rfl := Option.some.inj hxk
    refine ⟨fun g hg => ?_, (fun h => by cases h)⟩
    rw [List.mem_singleton.1 hg]
    exact ⟨ht0, by omega⟩
   ·rw [gx k (by omega) hkx] at hxk
    obtain ⟨q1, q2⟩ := hx.shut k ⟨by omega, h2⟩ x hxk
    exact ⟨fun g hg => ⟨by have := (q1 g hg).1; omega, (q1 g hg).2⟩, fun hs => ⟨by have := (q2 hs).1; omega, (q2 hs).2⟩⟩
 ·intro k h1 h2 x hxk
  by_cases hk : k < sts0.length
  ·by_cases hkf : k = f
   ·subst hkf
    rw [gf] at hxk
    obtain rfl := Option.some.inj hxk
    refine ⟨fun g hg => ?_, nf2⟩
    rcases List.mem_append.1 hg with hg | hg
    ·exact nf1 g hg
    ·rw [List.mem_singleton.1 hg]; omega
   ·rw [go k hk hkf] at hxk
    exact h.noin k h1 hk x hxk
  ·by_cases hkx : k = xt
   ·subst hkx
    rw [gxt] at hxk
    obtain rfl := Option.some.inj hxk
    refine ⟨fun g hg => ?_, (fun h => by cases h)⟩
    rw [List.mem_singleton.1 hg]
    exact Ne.symm hft
   ·rw [gx k (by omega) hkx] at hxk
    obtain ⟨q1, q2⟩ := hx.shut k ⟨by omega, h2⟩ x hxk
    exact ⟨fun g hg => by have := (q1 g hg).1; omega, fun hs => by have := (q2 hs).1; omega⟩
 ·intro cs
  have shutF : Shut sts0 (fun k => (lo ≤ k ∧ k < sts0.length) ∧ k ≠ f) := fun k hk x hxk => by
   obtain ⟨q1, q2⟩ := h.shut k hk.1 x hxk
   obtain ⟨q3, q4⟩ := h.noin k hk.1.1 hk.1.2 x hxk
   exact ⟨fun g hg => ⟨q1 g hg, q3 g hg⟩, fun hs => ⟨q2 hs, q4 hs⟩⟩
  constructor
  ·rintro ⟨n, hp⟩
   cases hp with
   | refl => exact absurd rfl hft
   | free h1 h2 h3 =>
    rw [gf] at h1
    obtain rfl := Option.some.inj h1
    rcases List.mem_append.1 h2 with hg | hg
    ·exact .altl ((h.lang cs).1 ⟨_, .free hz hg (h3.same shutF (fun k hk => go k hk.1.2 hk.2) ⟨sf1 _ hg, nf1 _ hg⟩)⟩)
    ·rw [List.mem_singleton.1 hg] at h3
     obtain ⟨x, y, n1, n2, rfl, p1, p2, _⟩ := h3.exit hx.shut (fun k hk hne => gx k hk.1 hne) (fun hg => absurd hg.1 (by omega)) ⟨xf0, xf1⟩
     rcases p2.first gxt with ⟨_, e⟩ | ⟨g, hg, m, _, p3⟩
     ·omega
     ·rw [List.mem_singleton.1 hg] at p3
      rw [(p3.sink gt).1, List.append_nil]
      exact .altr ((hx.lang x).1 ⟨_, p1⟩)
   | byte h1 h2 h3 =>
    rw [gf] at h1
    obtain rfl := Option.some.inj h1
    have hs := goB_some h2
    exact .altl ((h.lang _).1 ⟨_, .byte hz h2 (h3.same shutF (fun k hk => go k hk.1.2 hk.2) ⟨sf2 hs, nf2 hs⟩)⟩)
  ·intro hl
   cases hl with
   | altl l1 =>
    obtain ⟨n1, p1⟩ := (h.lang _).2 l1
    exact ⟨_, p1.more (sts' := addF (addF sts1 f xf) xt t) h.shut (fun k hk x hxk => by
     by_cases hkt : k = f
     ·subst hkt
      rw [hz] at hxk
      obtain rfl := Option.some.inj hxk
      exact ⟨_, gf, fun _ h => List.mem_append_left _ h, rfl, rfl⟩
     ·exact ⟨x, (go k hk.2 hkt).trans hxk, fun _ h => h, rfl, rfl⟩) ⟨hf0, hf1⟩⟩
   | altr l2 =>
    obtain ⟨n2, p2⟩ := (hx.lang _).2 l2
    have q2 := p2.more (sts' := addF (addF sts1 f xf) xt t) hx.shut (fun k hk x hxk => by
     by_cases hkt : k = xt
     ·subst hkt
      rw [hx.sink] at hxk
      obtain rfl := Option.some.inj hxk
      exact ⟨_, gxt, (fun _ h => by cases h), rfl, rfl⟩
     ·exact ⟨x, (gx k hk.1 hkt).trans hxk, fun _ h => h, rfl, rfl⟩) ⟨xf0, xf1⟩
    have q3 := Pa.free gf (List.mem_append_right _ (List.mem_singleton.2 rfl)) (q2.trans (.free gxt (List.mem_singleton.2 rfl) (.refl t)))
    rw [List.append_nil] at q3
    exact ⟨_, q3⟩
def postR : Bool → Bool → Re → Re
 | true, true, a => .star a
 | false, true, a => .plus a
 | true, false, a => .opt a
 | false, false, a => a
theorem Frg.post {sts0 sts' : List St} {lo xf xt : Nat} {a : Re} (h : Frg sts0 lo sts0.length xf xt a) (skip again : Bool)
  (hlen : sts'.length = sts0.length + 2) (go : ∀ k, k < sts0.length → k ≠ xt → sts'[k]? = sts0[k]?)
  (gF : sts'[sts0.length]? = some ⟨none, 0, [xf] ++ (if skip = true then [sts0.length + 1] else [])⟩)
  (gx : sts'[xt]? = some ⟨none, 0, [sts0.length + 1] ++ (if again = true then [xf] else [])⟩)
  (gT : sts'[sts0.length + 1]? = some ⟨none, 0, []⟩) (r : Re)
  (hr : r = postR skip again a) :
  Frg sts' lo (sts0.length + 2) sts0.length (sts0.length + 1) r := by
 have f0 := h.f0
 have f1 := h.f1
 have t0 := h.t0
 have t1 := h.t1
 have one : ∀ {cs n}, Pa sts' xf cs (sts0.length + 1) n → ∃ x y, cs = x ++ y ∧ Lr a x ∧ (y = [] ∨ (again = true ∧ ∃ m, m < n ∧ Pa sts' xf y (sts0.length + 1) m)) := by
  intro cs n hp
  obtain ⟨x, y, n1, n2, rfl, p1, p2, hn⟩ := hp.exit h.shut (fun k hk hne => go k hk.2 hne) (fun hg => absurd hg.2 (by omega)) ⟨f0, f1⟩
  refine ⟨x, y, rfl, (h.lang x).1 ⟨_, p1⟩, ?_⟩
  rcases p2.first gx with ⟨_, e⟩ | ⟨g, hg, m, hm, p3⟩
  ·omega
  ·rcases List.mem_append.1 hg with hg | hg
   ·rw [List.mem_singleton.1 hg] at p3
    exact .inl (p3.sink gT).1
   ·split at hg
    ·rename_i ha
     rw [List.mem_singleton.1 hg] at p3
     exact .inr ⟨ha, m, by omega, p3⟩
    ·cases hg
 have many : ∀ n, ∀ cs, Pa sts' xf cs (sts0.length + 1) n → ∃ x y, cs = x ++ y ∧ Lr a x ∧ (again = false → y = []) ∧ Lr (.star a) y := by
  intro n
  induction n using Nat.strongRecOn with
  | ind n ih =>
   intro cs hp
   obtain ⟨x, y, e, l1, h1 | ⟨h1, m, hm, p3⟩⟩ := one hp
   ·subst h1; exact ⟨x, [], e, l1, fun _ => rfl, .star0⟩
   ·obtain ⟨x', y', e', l1', _, l3⟩ := ih m hm y p3
    exact ⟨x, y, e, l1, (fun h => by rw [h1] at h; cases h), by rw [e']; exact .star1 l1' l3⟩
 have up : ∀ {x n}, Pa sts0 xf x xt n → Pa sts' xf x xt n := fun p => p.more h.shut (fun k hk x hxk => by
  by_cases hkt : k = xt
  ·subst hkt
   rw [h.sink] at hxk
   obtain rfl := Option.some.inj hxk
   exact ⟨_, gx, (fun _ h => by cases h), rfl, rfl⟩
  ·exact ⟨x, (go k hk.2 hkt).trans hxk, fun _ h => h, rfl, rfl⟩) ⟨f0, f1⟩
 have out : ∀ {x}, Lr a x → ∃ n, Pa sts' xf x (sts0.length + 1) n := fun {x} l => by
  obtain ⟨n, p⟩ := (h.lang x).2 l
  have := (up p).trans (.free gx (List.mem_append_left _ (List.mem_singleton.2 rfl)) (.refl _))
  rw [List.append_nil] at this
  exact ⟨_, this⟩
 have loop : ∀ {x y n}, again = true → Lr a x → Pa sts' xf y (sts0.length + 1) n → ∃ n, Pa sts' xf (x ++ y) (sts0.length + 1) n := fun {x y n} ha l p2 => by
  obtain ⟨n, p⟩ := (h.lang x).2 l
  exact ⟨_, (up p).trans (.free gx (List.mem_append_right _ (by rw [ha]; exact List.mem_singleton.2 rfl)) p2)⟩
 have loops : again = true → ∀ {r y}, Lr r y → r = .star a → ∀ {x}, Lr a x → ∃ n, Pa sts' xf (x ++ y) (sts0.length + 1) n := fun ha r y l => by
  induction l with
  | star0 => intro _ x lx; rw [List.append_nil]; exact out lx
  | star1 l1 _ _ ih2 =>
   intro e x lx
   cases e
   obtain ⟨n, p⟩ := ih2 rfl l1
   exact loop ha lx p
  | _ => intro e; cases e
 refine ⟨by omega, by omega, by omega, by omega, by omega, ?_, gT, ?_, ?_⟩
 ·rintro k ⟨h1, h2⟩ x hxk
  rcases (show (k < sts0.length ∧ k ≠ xt) ∨ k = xt ∨ k = sts0.length ∨ k = sts0.length + 1 by omega) with ⟨hk, hkt⟩ | rfl | rfl | rfl
  ·rw [go k hk hkt] at hxk
   obtain ⟨q1, q2⟩ := h.shut k ⟨h1, hk⟩ x hxk
   exact ⟨fun g hg => ⟨(q1 g hg).1, by have := (q1 g hg).2; omega⟩, fun hs => ⟨(q2 hs).1, by have := (q2 hs).2; omega⟩⟩
  ·rw [gx] at hxk
   obtain rfl := Option.some.inj hxk
   refine ⟨fun g hg => ?_, (fun h => by cases h)⟩
   rcases List.mem_append.1 hg with hg | hg
   ·rw [List.mem_singleton.1 hg]; exact ⟨by omega, by omega⟩
   ·split at hg
    ·rw [List.mem_singleton.1 hg]; exact ⟨by omega, by omega⟩
    ·cases hg
  ·rw [gF] at hxk
   obtain rfl := Option.some.inj hxk
   refine ⟨fun g hg => ?_, (fun h => by cases h)⟩
   rcases List.mem_append.1 hg with hg | hg
   ·rw [List.mem_singleton.1 hg]; exact ⟨by omega, by omega⟩
   ·split at hg
    ·rw [List.mem_singleton.1 hg]; exact ⟨by omega, by omega⟩
    ·cases hg
  ·rw [gT] at hxk
   obtain rfl := Option.some.inj hxk
   exact ⟨(fun _ h => by cases h), (fun h => by cases h)⟩
 ·intro k h1 h2 x hxk
  rcases (show (k < sts0.length ∧ k ≠ xt) ∨ k = xt ∨ k = sts0.length ∨ k = sts0.length + 1 by omega) with ⟨hk, hkt⟩ | rfl | rfl | rfl
  ·rw [go k hk hkt] at hxk
   obtain ⟨q1, q2⟩ := h.shut k ⟨h1, hk⟩ x hxk
   exact ⟨fun g hg => by have := (q1 g hg).2; omega, fun hs => by have := (q2 hs).2; omega⟩
  ·rw [gx] at hxk
   obtain rfl := Option.some.inj hxk
   refine ⟨fun g hg => ?_, (fun h => by cases h)⟩
   rcases List.mem_append.1 hg with hg | hg
   ·rw [List.mem_singleton.1 hg]; omega
   ·split at hg
    ·rw [List.mem_singleton.1 hg]; omega
    ·cases hg
  ·rw [gF] at hxk
   obtain rfl := Option.some.inj hxk
   refine ⟨fun g hg => ?_, (fun h => by cases h)⟩
   rcases List.mem_append.1 hg with hg | hg
   ·rw [List.mem_singleton.1 hg]; omega
   ·split at hg
    ·rw [List.mem_singleton.1 hg]; omega
    ·cases hg
  ·rw [gT] at hxk
   obtain rfl := Option.some.inj hxk
   exact ⟨(fun _ h => by cases h), (fun h => by cases h)⟩
 ·intro cs
  have hin : ∀ {n}, Pa sts' xf cs (sts0.length + 1) n → ∃ n, Pa sts' sts0.length cs (sts0.length + 1) n := fun p => ⟨_, .free gF (List.mem_append_left _ (List.mem_singleton.2 rfl)) p⟩
  constructor
  ·rintro ⟨n, hp⟩
   rcases hp.first gF with ⟨_, e⟩ | ⟨g, hg, m, _, p3⟩
   ·omega
   ·rcases List.mem_append.1 hg with hg | hg
    ·rw [List.mem_singleton.1 hg] at p3
     obtain ⟨x, y, rfl, l1, l2, l3⟩ := many _ _ p3
     subst hr
     cases skip <;> cases again
     ·rw [l2 rfl, List.append_nil]; exact l1
     ·exact .plus l1 l3
     ·rw [l2 rfl, List.append_nil]; exact .opt1 l1
     ·exact .star1 l1 l3
    ·split at hg
     ·rename_i hs
      rw [List.mem_singleton.1 hg] at p3
      rw [(p3.sink gT).1]
      subst hr
      rw [hs]
      cases again
      ·exact .opt0
      ·exact .star0
     ·cases hg
  ·intro hl
   subst hr
   have hskip : skip = true → ∃ n, Pa sts' sts0.length [] (sts0.length + 1) n := fun hs => ⟨_, .free gF (List.mem_append_right _ (by rw [hs]; exact List.mem_singleton.2 rfl)) (.refl _)⟩
   cases skip <;> cases again
   ·obtain ⟨n, p⟩ := out hl; exact hin p
   ·cases hl with
    | plus l1 l2 => obtain ⟨n, p⟩ := loops rfl l2 rfl l1; exact hin p
   ·cases hl with
    | opt0 => exact hskip rfl
    | opt1 l => obtain ⟨n, p⟩ := out l; exact hin p
   ·cases hl with
    | star0 => exact hskip rfl
    | star1 l1 l2 => obtain ⟨n, p⟩ := loops rfl l2 rfl l1; exact hin p
end Go.Proofs.YtgbapkechngnmaaGreat
/- The reference's ends, plainly: of each tree the places at which a text of it may end. No program in sight. -/
namespace Go.Proofs.YtgbapkechngnmaaGreat

def sl (B : List Nat) (i j : Nat) : List Nat := (B.drop i).take (j - i)
theorem sl_len {B : List Nat} {i j : Nat} (h : i ≤ j) (hj : j ≤ B.length) : (sl B i j).length = j - i := by
 unfold sl; rw [List.length_take, List.length_drop]; omega
theorem sl_self (B : List Nat) (i : Nat) : sl B i i = [] := by unfold sl; simp
theorem sl_app {B : List Nat} {i k j : Nat} (h1 : i ≤ k) (h2 : k ≤ j) : sl B i k ++ sl B k j = sl B i j := by
 unfold sl
 have e1 : j - i = (k - i) + (j - k) := by omega
 rw [e1, List.take_add, List.drop_drop, show i + (k - i) = k by omega]
theorem sl_split {B u v : List Nat} {i j : Nat} (h : i ≤ j) (hj : j ≤ B.length) (e : sl B i j = u ++ v) : ∃ k, i ≤ k ∧ k ≤ j ∧ u = sl B i k ∧ v = sl B k j := by
 have hl := congrArg List.length e
 rw [sl_len h hj, List.length_append] at hl
 refine ⟨i + u.length, by omega, by omega, ?_⟩
 rw [← sl_app (k := i + u.length) (by omega) (by omega)] at e
 have := List.append_inj e (by rw [sl_len (by omega) (by omega)]; omega)
 exact ⟨this.1.symm, this.2.symm⟩
theorem sl_one {B : List Nat} {i : Nat} (h : i < B.length) : sl B i (i + 1) = [B[i]] := by
 unfold sl
 rw [show i + 1 - i = 1 by omega, List.drop_eq_getElem_cons h]
 rfl
def En (B : List Nat) (a : Re) (X : Nat → Prop) (j : Nat) : Prop := j ≤ B.length ∧ ∃ i, i ≤ j ∧ X i ∧ Lr a (sl B i j)
theorem En.congr {B : List Nat} {a : Re} {X Y : Nat → Prop} {j : Nat} (h : ∀ i, i ≤ B.length → (X i ↔ Y i)) : En B a X j ↔ En B a Y j := by
 unfold En
 constructor
 ·rintro ⟨h1, i, h2, h3, h4⟩
  exact ⟨h1, i, h2, (h i (by omega)).1 h3, h4⟩
 ·rintro ⟨h1, i, h2, h3, h4⟩
  exact ⟨h1, i, h2, (h i (by omega)).2 h3, h4⟩
theorem En_no (B : List Nat) (X : Nat → Prop) (j : Nat) : ¬ En B .no X j := by
 rintro ⟨_, i, _, _, h⟩
 cases h
theorem En_eps (B : List Nat) (X : Nat → Prop) (j : Nat) : En B .eps X j ↔ j ≤ B.length ∧ X j := by
 constructor
 ·rintro ⟨h1, i, h2, h3, h4⟩
  have hl : (sl B i j).length = 0 := by
   generalize sl B i j = z at h4
   cases h4
   rfl
  rw [sl_len h2 h1] at hl
  obtain rfl : i = j := by omega
  exact ⟨h1, h3⟩
 ·rintro ⟨h1, h3⟩
  exact ⟨h1, j, Nat.le_refl _, h3, by rw [sl_self]; exact .eps⟩
theorem En_set0 (B : List Nat) (S : Nat → Bool) (X : Nat → Prop) : ¬ En B (.set S) X 0 := by
 rintro ⟨h1, i, h2, h3, h4⟩
 obtain rfl : i = 0 := by omega
 rw [sl_self] at h4
 cases h4
theorem En_set (B : List Nat) (S : Nat → Bool) (X : Nat → Prop) (j : Nat) (hj : j < B.length) : En B (.set S) X (j + 1) ↔ X j ∧ S B[j] = true := by
 constructor
 ·rintro ⟨h1, i, h2, h3, h4⟩
  have hl : (sl B i (j + 1)).length = 1 := by
   generalize sl B i (j + 1) = z at h4
   cases h4
   rfl
  rw [sl_len h2 h1] at hl
  obtain rfl : i = j := by omega
  rw [sl_one hj] at h4
  cases h4 with
  | set hs => exact ⟨h3, hs⟩
 ·rintro ⟨h1, h2⟩
  exact ⟨hj, j, by omega, h1, by rw [sl_one hj]; exact .set h2⟩
theorem En_alt (B : List Nat) (a b : Re) (X : Nat → Prop) (j : Nat) : En B (.alt a b) X j ↔ En B a X j ∨ En B b X j := by
 constructor
 ·rintro ⟨h1, i, h2, h3, h4⟩
  cases h4 with
  | altl h => exact .inl ⟨h1, i, h2, h3, h⟩
  | altr h => exact .inr ⟨h1, i, h2, h3, h⟩
 ·rintro (⟨h1, i, h2, h3, h4⟩ | ⟨h1, i, h2, h3, h4⟩)
  ·exact ⟨h1, i, h2, h3, .altl h4⟩
  ·exact ⟨h1, i, h2, h3, .altr h4⟩
theorem En_cat (B : List Nat) (a b : Re) (X : Nat → Prop) (j : Nat) : En B (.cat a b) X j ↔ En B b (En B a X) j := by
 constructor
 ·rintro ⟨h1, i, h2, h3, h4⟩
  generalize hz : sl B i j = z at h4
  cases h4 with
  | cat ha hb =>
   obtain ⟨k, k1, k2, rfl, rfl⟩ := sl_split h2 h1 hz
   exact ⟨h1, k, k2, ⟨by omega, i, k1, h3, ha⟩, hb⟩
 ·rintro ⟨h1, k, k2, ⟨_, i, k1, h3, ha⟩, hb⟩
  exact ⟨h1, i, by omega, h3, by rw [← sl_app k1 k2]; exact .cat ha hb⟩
theorem En_opt (B : List Nat) (a : Re) (X : Nat → Prop) (j : Nat) : En B (.opt a) X j ↔ (j ≤ B.length ∧ X j) ∨ En B a X j := by
 constructor
 ·rintro ⟨h1, i, h2, h3, h4⟩
  generalize hz : sl B i j = z at h4
  cases h4 with
  | opt0 =>
   have hl := congrArg List.length hz
   rw [sl_len h2 h1] at hl
   simp at hl
   obtain rfl : i = j := by omega
   exact .inl ⟨h1, h3⟩
  | opt1 h => exact .inr ⟨h1, i, h2, h3, by rw [hz]; exact h⟩
 ·rintro (⟨h1, h3⟩ | ⟨h1, i, h2, h3, h4⟩)
  ·exact ⟨h1, j, Nat.le_refl _, h3, by rw [sl_self]; exact .opt0⟩
  ·exact ⟨h1, i, h2, h3, .opt1 h4⟩
def Ei (B : List Nat) (a : Re) (X : Nat → Prop) : Nat → Nat → Prop
 | 0, j => j ≤ B.length ∧ X j
 | m + 1, j => En B a (Ei B a X m) j
theorem En_mono {B : List Nat} {a : Re} {X Y : Nat → Prop} (h : ∀ i, X i → Y i) {j : Nat} (he : En B a X j) : En B a Y j := by
 obtain ⟨h1, i, h2, h3, h4⟩ := he
 exact ⟨h1, i, h2, h _ h3, h4⟩
theorem Ei_le {B : List Nat} {a : Re} {X : Nat → Prop} {m j : Nat} (h : Ei B a X m j) : j ≤ B.length := by
 cases m with
 | zero => exact h.1
 | succ m => exact h.1
theorem Lr_star {a : Re} {z : List Nat} (h : Lr (.star a) z) : ∀ (B : List Nat) (X : Nat → Prop) (i j : Nat), i ≤ j → j ≤ B.length → sl B i j = z → X i → ∃ m, Ei B a X m j := by
 generalize hr : Re.star a = r at h
 induction h with
 | star0 =>
  intro B X i j h1 h2 hz hx
  have hl := congrArg List.length hz
  rw [sl_len h1 h2] at hl
  simp at hl
  obtain rfl : i = j := by omega
  exact ⟨0, h2, hx⟩
 | star1 ha hs iha ihs =>
  cases hr
  intro B X i j h1 h2 hz hx
  obtain ⟨k, k1, k2, rfl, rfl⟩ := sl_split h1 h2 hz
  obtain ⟨m, hm⟩ := ihs rfl B (En B a X) k j k2 h2 rfl ⟨by omega, i, k1, hx, ha⟩
  refine ⟨m + 1, ?_⟩
  have key : ∀ m j, Ei B a (En B a X) m j → Ei B a X (m + 1) j := by
   intro m
   induction m with
   | zero => intro j h; exact En_mono (fun i hi => hi) (show En B a (Ei B a X 0) j from ⟨h.1, by
     obtain ⟨_, i, p, q, r⟩ := h.2
     exact ⟨i, p, ⟨by omega, q⟩, r⟩⟩)
   | succ m ih => intro j h; exact En_mono (fun i hi => ih i hi) h
  exact key m j hm
 | eps => cases hr
 | set => cases hr
 | cat => cases hr
 | altl => cases hr
 | altr => cases hr
 | plus => cases hr
 | opt0 => cases hr
 | opt1 => cases hr
theorem Ei_app {B : List Nat} {a : Re} {X : Nat → Prop} : ∀ (m j : Nat), Ei B a X m j → ∃ i, i ≤ j ∧ X i ∧ i ≤ B.length ∧ Lr (.star a) (sl B i j) := by
 have snoc : ∀ (x : List Nat), Lr (.star a) x → ∀ y, Lr a y → Lr (.star a) (x ++ y) := by
  intro x hx
  generalize hr : Re.star a = r at hx
  induction hx with
  | star0 => intro y hy; cases hr; have := Lr.star1 hy .star0; simpa using this
  | star1 h1 h2 _ ih => intro y hy; cases hr; rw [List.append_assoc]; exact .star1 h1 (ih rfl y hy)
  | eps => cases hr
  | set => cases hr
  | cat => cases hr
  | altl => cases hr
  | altr => cases hr
  | plus => cases hr
  | opt0 => cases hr
  | opt1 => cases hr
 intro m
 induction m with
 | zero => intro j h; exact ⟨j, Nat.le_refl _, h.2, h.1, by rw [sl_self]; exact .star0⟩
 | succ m ih =>
  rintro j ⟨h1, k, h2, h3, h4⟩
  obtain ⟨i, i1, i2, i3, i4⟩ := ih k h3
  exact ⟨i, by omega, i2, i3, by rw [← sl_app i1 h2]; exact snoc _ i4 _ h4⟩
theorem En_star (B : List Nat) (a : Re) (X : Nat → Prop) (j : Nat) : En B (.star a) X j ↔ ∃ m, Ei B a X m j := by
 constructor
 ·rintro ⟨h1, i, h2, h3, h4⟩
  exact Lr_star h4 B X i j h2 h1 rfl h3
 ·rintro ⟨m, hm⟩
  obtain ⟨i, i1, i2, _, i4⟩ := Ei_app m j hm
  exact ⟨Ei_le hm, i, i1, i2, i4⟩
theorem En_plus (B : List Nat) (a : Re) (X : Nat → Prop) (j : Nat) : En B (.plus a) X j ↔ ∃ m, Ei B a X (m + 1) j := by
 constructor
 ·rintro ⟨h1, i, h2, h3, h4⟩
  generalize hz : sl B i j = z at h4
  cases h4 with
  | plus ha hs =>
   obtain ⟨k, k1, k2, rfl, rfl⟩ := sl_split h2 h1 hz
   obtain ⟨m, hm⟩ := Lr_star (.star1 ha hs) B X i j h2 h1 (by rw [sl_app k1 k2]) h3
   cases m with
   | succ m => exact ⟨m, hm⟩
   | zero =>
    -- then the text lies from i to j, with a first part: begin with it
    obtain ⟨m, hm⟩ := Lr_star hs B (En B a X) k j k2 h1 rfl ⟨by omega, i, k1, h3, ha⟩
    refine ⟨m, ?_⟩
    have key : ∀ m j, Ei B a (En B a X) m j → Ei B a X (m + 1) j := by
     intro m
     induction m with
     | zero => intro j h; exact ⟨h.1, by
       obtain ⟨_, i, p, q, r⟩ := h.2
       exact ⟨i, p, ⟨by have := h.1; omega, q⟩, r⟩⟩
     | succ m ih => intro j h; exact En_mono (fun i hi => ih i hi) h
    exact key m j hm
 ·rintro ⟨m, h1, k, h2, h3, h4⟩
  -- the last part moves to the front: by the star's texts
  obtain ⟨i, i1, i2, i3, i4⟩ := Ei_app m k h3
  have fr : ∀ (x : List Nat), Lr (.star a) x → ∀ y, Lr a y → Lr (.plus a) (x ++ y) := by
   intro x hx
   generalize hr : Re.star a = r at hx
   induction hx with
   | star0 => intro y hy; cases hr; have := Lr.plus hy .star0; simpa using this
   | star1 h1 h2 _ ih =>
    intro y hy; cases hr
    rw [List.append_assoc]
    have h3 := ih rfl y hy
    generalize (_ ++ y : List Nat) = z at h3 ⊢
    cases h3 with
    | plus p q => exact .plus h1 (.star1 p q)
   | eps => cases hr
   | set => cases hr
   | cat => cases hr
   | altl => cases hr
   | altr => cases hr
   | plus => cases hr
   | opt0 => cases hr
   | opt1 => cases hr
  exact ⟨h1, i, by omega, i2, by rw [← sl_app i1 h2]; exact fr _ i4 _ h4⟩
theorem Ei_shut {B : List Nat} {a : Re} {X : Nat → Prop} {lo k : Nat} (hlo : lo ≤ k) (h : ∀ j, Ei B a X (k + 1) j → ∃ m, lo ≤ m ∧ m ≤ k ∧ Ei B a X m j) : ∀ m j, lo ≤ m → Ei B a X m j → ∃ m', lo ≤ m' ∧ m' ≤ k ∧ Ei B a X m' j := by
 intro m
 induction m with
 | zero => intro j h0 hj; exact ⟨0, h0, by omega, hj⟩
 | succ m ih =>
  intro j h0 hj
  by_cases hm : m + 1 ≤ k
  ·exact ⟨m + 1, h0, hm, hj⟩
  ·by_cases hlm : lo ≤ m
   ·obtain ⟨h1, i, h2, h3, h4⟩ := hj
    obtain ⟨m', a1, a2, a3⟩ := ih i hlm h3
    by_cases e : m' = k
    ·subst e
     exact h j ⟨h1, i, h2, a3, h4⟩
    ·exact ⟨m' + 1, by omega, by omega, h1, i, h2, a3, h4⟩
   ·obtain rfl : m = k := by omega
    exact h j hj
end Go.Proofs.YtgbapkechngnmaaGreat
/- The reference's tree in memory: a node has 258 cells. -/
namespace Go.Proofs.YtgbapkechngnmaaGreat
open Go.RowKit

def boolC (S : Nat → Bool) : List Value := (List.range 256).map fun c => .bool (S c)
def nodeC (k : Int) (S : Nat → Bool) (kv : Value) : List Value := .int .i64 k :: (boolC S ++ [kv])
theorem boolC_len (S : Nat → Bool) : (boolC S).length = 256 := by unfold boolC; simp
theorem nodeC_len (k : Int) (S : Nat → Bool) (kv : Value) : (nodeC k S kv).length = 258 := by
 unfold nodeC; rw [List.length_cons, List.length_append, boolC_len]; rfl
theorem nodeC_0 (k : Int) (S : Nat → Bool) (kv : Value) : (nodeC k S kv)[0]? = some (.int .i64 k) := rfl
theorem nodeC_set (k : Int) (S : Nat → Bool) (kv : Value) (c : Nat) (hc : c < 256) : (nodeC k S kv)[1 + c]? = some (.bool (S c)) := by
 unfold nodeC
 rw [Nat.add_comm, List.getElem?_cons_succ, List.getElem?_append_left (by rw [boolC_len]; exact hc)]
 unfold boolC
 rw [List.getElem?_map, List.getElem?_range hc]
 rfl
theorem nodeC_kids (k : Int) (S : Nat → Bool) (kv : Value) : (nodeC k S kv)[257]? = some kv := by
 unfold nodeC
 rw [show (257 : Nat) = 256 + 1 by rfl, List.getElem?_cons_succ, List.getElem?_append_right (by rw [boolC_len]; exact Nat.le_refl _), boolC_len]
 rfl
theorem nodeC_one (k : Int) (S : Nat → Bool) (kv : Value) (h : kv.oneCell' = true) : ∀ y ∈ nodeC k S kv, y.oneCell' = true := by
 intro y hy
 unfold nodeC boolC at hy
 rcases List.mem_cons.1 hy with rfl | hy
 ·rfl
 ·rcases List.mem_append.1 hy with hy | hy
  ·obtain ⟨c, _, rfl⟩ := List.mem_map.1 hy
   rfl
  ·rw [List.mem_singleton.1 hy]; exact h
structure KidsAt (w : World) (P : Nat → Prop) (kv : Value) (l : List (List Value)) : Prop where
 row : RdAt w kv l.length 258 l.flatten
 each : ∀ x ∈ l, x.length = 258
 own : ∀ q, kv.ownBlock = some q → P q
 few : l.length ≤ 1000000
inductive NA (w : World) (P : Nat → Prop) : Nat → List (List Value) → Re → Prop
 | set (S : Nat → Bool) (kv : Value) : NA w P 0 [nodeC 0 S kv] (.set S)
 | alts {l : List (List Value)} {a : Re} {S : Nat → Bool} {kv : Value} : NA w P 1 l a → KidsAt w P kv l → NA w P 0 [nodeC 1 S kv] a
 | row {l : List (List Value)} {a : Re} {S : Nat → Bool} {kv : Value} : NA w P 2 l a → KidsAt w P kv l → NA w P 0 [nodeC 2 S kv] a
 | star {x : List Value} {a : Re} {S : Nat → Bool} {kv : Value} : NA w P 0 [x] a → KidsAt w P kv [x] → NA w P 0 [nodeC 3 S kv] (.star a)
 | plus {x : List Value} {a : Re} {S : Nat → Bool} {kv : Value} : NA w P 0 [x] a → KidsAt w P kv [x] → NA w P 0 [nodeC 4 S kv] (.plus a)
 | opt {x : List Value} {a : Re} {S : Nat → Bool} {kv : Value} : NA w P 0 [x] a → KidsAt w P kv [x] → NA w P 0 [nodeC 5 S kv] (.opt a)
 | a0 : NA w P 1 [] .no
 | a1 {l : List (List Value)} {x : List Value} {a b : Re} : NA w P 1 l a → NA w P 0 [x] b → NA w P 1 (l ++ [x]) (.alt a b)
 | r0 : NA w P 2 [] .eps
 | r1 {l : List (List Value)} {x : List Value} {a b : Re} : NA w P 2 l a → NA w P 0 [x] b → NA w P 2 (l ++ [x]) (.cat a b)
theorem rd_keepB {w w' : World} {v : Value} {n k : Nat} {xs : List Value} (h : RdAt w v n k xs) (hs : w.heap.size ≤ w'.heap.size) (hk : ∀ q, v.ownBlock = some q → q < w.heap.size → w'.heap[q]? = w.heap[q]?) : RdAt w' v n k xs := by
 refine ⟨h.1, ?_⟩
 rcases h.2 with h1 | ⟨a, c, rfl, hc, hr⟩
 ·exact .inl h1
 ·refine .inr ⟨a, c, rfl, hc, fun hn => ?_⟩
  obtain ⟨b, o, rfl, hlt, hcell⟩ := hr hn
  exact ⟨b, o, rfl, Nat.lt_of_lt_of_le hlt hs, fun j x hx => (World.cell?_of_block (a := ⟨b, o + j, none⟩) (hk b rfl hlt)).trans (hcell j x hx)⟩
theorem KidsAt.keep {w w' : World} {P : Nat → Prop} {kv : Value} {l : List (List Value)} (h : KidsAt w P kv l) (hs : w.heap.size ≤ w'.heap.size) (hk : ∀ q, P q → q < w.heap.size → w'.heap[q]? = w.heap[q]?) : KidsAt w' P kv l :=
 ⟨rd_keepB h.row hs fun q hq hlt => hk q (h.own q hq) hlt, h.each, h.own, h.few⟩
theorem NA.keep {w w' : World} {P : Nat → Prop} {i : Nat} {l : List (List Value)} {a : Re} (h : NA w P i l a) (hs : w.heap.size ≤ w'.heap.size) (hk : ∀ q, P q → q < w.heap.size → w'.heap[q]? = w.heap[q]?) : NA w' P i l a := by
 induction h with
 | set S kv => exact .set S kv
 | alts _ h2 ih => exact .alts ih (h2.keep hs hk)
 | row _ h2 ih => exact .row ih (h2.keep hs hk)
 | star _ h2 ih => exact .star ih (h2.keep hs hk)
 | plus _ h2 ih => exact .plus ih (h2.keep hs hk)
 | opt _ h2 ih => exact .opt ih (h2.keep hs hk)
 | a0 => exact .a0
 | a1 _ _ ih1 ih2 => exact .a1 ih1 ih2
 | r0 => exact .r0
 | r1 _ _ ih1 ih2 => exact .r1 ih1 ih2
theorem KidsAt.mono {w : World} {P Q : Nat → Prop} {kv : Value} {l : List (List Value)} (h : KidsAt w P kv l) (hq : ∀ q, P q → Q q) : KidsAt w Q kv l := ⟨h.row, h.each, fun q hh => hq q (h.own q hh), h.few⟩
theorem NA.mono {w : World} {P Q : Nat → Prop} {i : Nat} {l : List (List Value)} {a : Re} (h : NA w P i l a) (hq : ∀ q, P q → Q q) : NA w Q i l a := by
 induction h with
 | set S kv => exact .set S kv
 | alts _ h2 ih => exact .alts ih (h2.mono hq)
 | row _ h2 ih => exact .row ih (h2.mono hq)
 | star _ h2 ih => exact .star ih (h2.mono hq)
 | plus _ h2 ih => exact .plus ih (h2.mono hq)
 | opt _ h2 ih => exact .opt ih (h2.mono hq)
 | a0 => exact .a0
 | a1 _ _ ih1 ih2 => exact .a1 ih1 ih2
 | r0 => exact .r0
 | r1 _ _ ih1 ih2 => exact .r1 ih1 ih2
theorem NA.later {w w' : World} {P : Nat → Prop} {i : Nat} {l : List (List Value)} {a : Re} (h : NA w P i l a) (hb : Below w.heap.size w w') : NA w' P i l a := h.keep hb.size fun q _ hq => hb.block q hq
end Go.Proofs.YtgbapkechngnmaaGreat
/- The reference's reader: next, fail, sign: contracts. -/
namespace Go.Proofs.YtgbapkechngnmaaGreat
open Go.RowKit

theorem rpeek_of {s : ByteArray} {b : Bs} (he : b.err = 0) (hp : b.pos < s.size) : peekM s b = some (byteM s b.pos) := by unfold peekM; rw [if_pos ⟨he, hp⟩]
theorem rbyte_at (s : ByteArray) (k : Nat) (h : k < s.size) : ((s[k]'h).toNat : Int) = (byteM s k : Int) := by unfold byteM; rw [dif_pos h]
theorem rsign_none {s : ByteArray} {b : Bs} (h : peekM s b = none) : signM s b = (failM (stepM b) 2, 0) := by unfold signM; rw [h]
theorem rsign_plain {s : ByteArray} {b : Bs} {c : Nat} (h : peekM s b = some c) (hc : c ≠ 92) : signM s b = (stepM b, c) := by unfold signM; rw [h]; simp [hc]
theorem rsign_end {s : ByteArray} {b : Bs} (h : peekM s b = some 92) (h' : peekM s (stepM b) = none) : signM s b = (failM (stepM (stepM b)) 2, 0) := by unfold signM; rw [h]; simp [h']
theorem rsign_esc {s : ByteArray} {b : Bs} {d : Nat} (h : peekM s b = some 92) (h' : peekM s (stepM b) = some d) : signM s b = (stepM (stepM b), d) := by unfold signM; rw [h]; simp [h']
structure RdrAt (w : World) (g : Nat) (s : ByteArray) (b : Bs) : Prop where
 c0 : w.cell? ⟨g, 0, none⟩ = some (.string s)
 c1 : w.cell? ⟨g, 1, none⟩ = some (.int .i64 b.pos)
 c2 : w.cell? ⟨g, 2, none⟩ = some (.int .i64 b.err)
 th : w.there g 0 3
 lt : g < w.heap.size
theorem RdrAt.below {w w' : World} {g : Nat} {s : ByteArray} {b : Bs} (h : RdrAt w g s b) (hb : Below w.heap.size w w') : RdrAt w' g s b :=
 ⟨keep_cell h.c0 hb h.lt, keep_cell h.c1 hb h.lt, keep_cell h.c2 hb h.lt, there_later h.th hb h.lt, Nat.lt_of_lt_of_le h.lt hb.size⟩
theorem rfar {w : World} {p i b j : Nat} {v : Value} (h : ¬(p = b ∧ i = j)) : (w.setCell ⟨p, i, none⟩ v).cell? ⟨b, j, none⟩ = w.cell? ⟨b, j, none⟩ := by
 apply World.cell?_setCell_other
 intro e
 simp only [Addr.mk.injEq] at e
 exact h ⟨e.1, e.2.1⟩
theorem rthere_set {w : World} {g o n : Nat} (h : w.there g o n) (p i : Nat) (v : Value) : (w.setCell ⟨p, i, none⟩ v).there g o n := World.there_setCells h p i [v]
theorem RdrAt.setPos {w : World} {g : Nat} {s : ByteArray} {b : Bs} (h : RdrAt w g s b) (k : Nat) : RdrAt (w.setCell ⟨g, 1, none⟩ (.int .i64 k)) g s { b with pos := k } :=
 ⟨by rw [rfar (by omega)]; exact h.c0, World.cell?_setCell_same _ _ _ h.c1, by rw [rfar (by omega)]; exact h.c2, rthere_set h.th _ _ _, by simpa using h.lt⟩
theorem RdrAt.step {w : World} {g : Nat} {s : ByteArray} {b : Bs} (h : RdrAt w g s b) : RdrAt (w.setCell ⟨g, 1, none⟩ (.int .i64 ((b.pos : Int) + 1))) g s (stepM b) := h.setPos (b.pos + 1)
theorem RdrAt.setErr {w : World} {g : Nat} {s : ByteArray} {b : Bs} (h : RdrAt w g s b) (e : Int) : RdrAt (w.setCell ⟨g, 2, none⟩ (.int .i64 e)) g s { b with err := e } :=
 ⟨by rw [rfar (by omega)]; exact h.c0, by rw [rfar (by omega)]; exact h.c1, World.cell?_setCell_same _ _ _ h.c2, rthere_set h.th _ _ _, by simpa using h.lt⟩
abbrev Kr (g : Nat) (w w' : World) : Prop := Keep (fun k => k = g) w w'
theorem Kr.refl (g : Nat) (w : World) : Kr g w w := Keep.refl _ w
theorem Kr.trans {g : Nat} {a b c : World} (h : Kr g a b) (h' : Kr g b c) : Kr g a c := Keep.trans h h' (fun _ hk => .inl hk)
theorem Kr.of_below {g : Nat} {w w' : World} (h : Below w.heap.size w w') : Kr g w w' := Keep.of_below h
theorem Kr.set (g : Nat) (w : World) (i : Nat) (v : Value) : Kr g w (w.setCell ⟨g, i, none⟩ v) := Keep.setCell (Keep.refl (fun k => k = g) w) (p := ⟨g, i, none⟩) rfl v
set_option maxHeartbeats 1600000 in
set_option maxRecDepth 100000 in
theorem next_is (w : World) (g : Nat) (s : ByteArray) (b : Bs) (o : Option Nat) (ho : peekM s b = o) (h : RdrAt w g s b) (hp : b.pos ≤ 2000000) :
  Calls Tryz.prog 90 #[.pointer (some ⟨g, 0, none⟩)] w fun e w' => e = .returned (.tuple #[.int .u8 ((o.getD 0 : Nat) : Int), .bool o.isSome]) ∧ Below w.heap.size w w' := by
 obtain ⟨c0, c1, c2, _, _⟩ := h
 obtain ⟨pos, err, sts⟩ := b
 dsimp only at c1 c2 hp
 by_cases he : err = 0
 ·subst he
  by_cases hps : pos < s.size
  ·have hb : peekM s ⟨pos, 0, sts⟩ = some (byteM s pos) := rpeek_of rfl hps
   rw [hb] at ho
   subst ho
   have hn : decide ((pos : Int) < (s.size : Int)) = true := by simpa using hps
   have hn2 : decide ((s.size : Int) ≤ (pos : Int)) = false := by simpa using hps
   have hn3 : decide (s.size ≤ pos) = false := by simpa using hps
   have hi : (0 : Int) ≤ (pos : Int) := by omega
   have hi2 : (pos : Int) < (s.size : Int) := by omega
   have HB := rbyte_at s pos hps
   have HB' := Lib.hid HB
   clear hb HB
   go_enter Tryz.func90, Tryz.ntmps90
   go_wp2
   go_quiet (fail)
   go_wp2
   go_quiet (fail)
   go_wp2
   go_ret2
   refine ⟨?_, ?_⟩
   ·simp only [Option.getD_some, Option.isSome_some]
    rw [← HB'.out]
    rfl
   ·exact bl_drewN (bl_drewN (Below.refl _ _) _) _
  ·have hb : peekM s ⟨pos, 0, sts⟩ = none := by unfold peekM; rw [if_neg (fun h => hps h.2)]
   rw [hb] at ho
   subst ho
   have hn : decide ((pos : Int) < (s.size : Int)) = false := by simpa using hps
   have hn2 : decide ((s.size : Int) ≤ (pos : Int)) = true := by simp; omega
   have hn3 : decide (s.size ≤ pos) = true := by simp; omega
   clear hb
   go_enter Tryz.func90, Tryz.ntmps90
   go_wp2
   go_quiet (fail)
   go_wp2
   go_ret2
   exact ⟨rfl, bl_drewN (Below.refl _ _) _⟩
 ·have hb : peekM s ⟨pos, err, sts⟩ = none := by unfold peekM; rw [if_neg (fun h => he h.1)]
  rw [hb] at ho
  subst ho
  have hd : (err != 0) = true := by simpa using he
  have hd2 : (err == 0) = false := by simpa using he
  clear hb
  go_enter Tryz.func90, Tryz.ntmps90
  go_wp2
  go_quiet (fail)
  go_wp2
  go_ret2
  exact ⟨rfl, bl_drewN (Below.refl _ _) _⟩
set_option maxHeartbeats 800000 in
set_option maxRecDepth 100000 in
theorem rfail_is (w : World) (g : Nat) (s : ByteArray) (b : Bs) (e0 : Int) (h : RdrAt w g s b) :
  Calls Tryz.prog 69 #[.pointer (some ⟨g, 0, none⟩), .int .i64 e0] w fun e w' => e = .returned (.tuple #[]) ∧ RdrAt w' g s (failM b e0) ∧ Kr g w w' := by
 have h' := h
 obtain ⟨c0, c1, c2, th, _⟩ := h
 have f2 := there_free th 2 (by omega)
 obtain ⟨pos, err, sts⟩ := b
 dsimp only at c1 c2
 clear th
 by_cases he : err = 0
 ·subst he
  have HN := Lib.hid (h'.setErr e0)
  have HF : Hid (failM ⟨pos, 0, sts⟩ e0 = ⟨pos, e0, sts⟩) := Lib.hid rfl
  clear h'
  go_enter Tryz.func69, Tryz.ntmps69
  go_wp2
  go_end0
  refine ⟨rfl, ?_, Kr.set g _ _ _⟩
  rw [HF.out]
  exact HN.out
 ·have hd2 : (err == 0) = false := by simpa using he
  have HF : Hid (failM ⟨pos, err, sts⟩ e0 = ⟨pos, err, sts⟩) := Lib.hid (by unfold failM; rw [if_neg he])
  have HN := Lib.hid h'
  clear h'
  go_enter Tryz.func69, Tryz.ntmps69
  go_wp2
  go_end0
  refine ⟨rfl, ?_, Kr.refl _ _⟩
  rw [HF.out]
  exact HN.out
set_option maxHeartbeats 1600000 in
set_option maxRecDepth 100000 in
theorem rsign_is (w : World) (g : Nat) (s : ByteArray) (b : Bs) (h : RdrAt w g s b) (hp : b.pos ≤ 1000000) :
  Calls Tryz.prog 154 #[.pointer (some ⟨g, 0, none⟩)] w fun e w' => e = .returned (.int .u8 ((signM s b).2 : Nat)) ∧ RdrAt w' g s (signM s b).1 ∧ Kr g w w' := by
 obtain ⟨o, ho⟩ : ∃ o, peekM s b = o := ⟨_, rfl⟩
 have k1 := next_is w g s b o ho h (by omega)
 have HO := Lib.hid ho
 have HB := Lib.hid h
 clear ho h
 go_enter Tryz.func154, Tryz.ntmps154
 go_wp2_with fail
 refine k1.mono ?_
 rintro e w1 ⟨rfl, hb1⟩
 have HB1 := Lib.hid (HB.out.below hb1)
 have HS1 := Lib.hid (Kr.of_below (g := g) hb1)
 have c1 := HB1.out.c1
 have f1 := there_free HB1.out.th 1 (by omega)
 clear k1 hb1
 go_upto_region 3 with fail
 change Code.wp _ _ _ _ (w1.setCell ⟨g, 1, none⟩ (.int .i64 ((b.pos : Int) + 1)))
 have HB2 := Lib.hid HB1.out.step
 have HS2 := Lib.hid (HS1.out.trans (Kr.set g w1 1 (.int .i64 ((b.pos : Int) + 1))))
 clear c1 f1 HB1 HS1 HB
 generalize w1.setCell ⟨g, 1, none⟩ (.int .i64 ((b.pos : Int) + 1)) = w2 at *
 have kf := fun W b (h : RdrAt W g s b) => rfail_is W g s b 2 h
 have KF := Lib.hid kf
 clear kf
 cases o
 ·have k2 := KF.out _ _ HB2.out
  go_wp2_with fail
  refine k2.mono ?_
  rintro e w3 ⟨rfl, hB3, hs3⟩
  have HB3 := Lib.hid hB3
  have HS3 := Lib.hid (HS2.out.trans hs3)
  clear k2 hB3 hs3
  go_wp2
  go_ret
  rw [rsign_none HO.out]
  exact ⟨rfl, HB3.out, HS3.out⟩
 ·rename_i c
  by_cases hc : c = 92
  ·subst hc
   obtain ⟨o, ho⟩ : ∃ o, peekM s (stepM b) = o := ⟨_, rfl⟩
   have k2 := next_is w2 g s (stepM b) o ho HB2.out (by simp only [stepM]; omega)
   have HO2 := Lib.hid ho
   clear ho
   go_wp2_with fail
   refine k2.mono ?_
   rintro e w3 ⟨rfl, hb3⟩
   have HB3 := Lib.hid (HB2.out.below hb3)
   have HS3 := Lib.hid (HS2.out.trans (Kr.of_below (g := g) hb3))
   have c1 := HB3.out.c1
   have f1 := there_free HB3.out.th 1 (by omega)
   have hps : (stepM b).pos ≤ 1000001 := by simp only [stepM]; omega
   clear k2 hb3 HB2 HS2
   go_upto_region 6 with fail
   change Code.wp _ _ _ _ (w3.setCell ⟨g, 1, none⟩ (.int .i64 (((stepM b).pos : Int) + 1)))
   have HB4 := Lib.hid HB3.out.step
   have HS4 := Lib.hid (HS3.out.trans (Kr.set g w3 1 (.int .i64 (((stepM b).pos : Int) + 1))))
   clear c1 f1 HB3 HS3
   generalize w3.setCell ⟨g, 1, none⟩ (.int .i64 (((stepM b).pos : Int) + 1)) = w4 at *
   cases o
   ·have k2 := KF.out _ _ HB4.out
    go_wp2_with fail
    refine k2.mono ?_
    rintro e w5 ⟨rfl, hB5, hs5⟩
    have HB5 := Lib.hid hB5
    have HS5 := Lib.hid (HS4.out.trans hs5)
    clear k2 hB5 hs5
    go_wp2
    go_ret
    rw [rsign_end HO.out HO2.out]
    exact ⟨rfl, HB5.out, HS5.out⟩
   ·rename_i d
    go_wp2
    go_ret
    rw [rsign_esc HO.out HO2.out]
    exact ⟨rfl, HB4.out, HS4.out⟩
  ·have hcb : ((c : Int) == 92) = false := by rw [beq_eq_false_iff_ne]; omega
   have HC := Lib.hid hc
   clear hc
   go_wp2
   go_ret
   rw [rsign_plain HO.out HC.out]
   exact ⟨rfl, HB2.out, HS2.out⟩
end Go.Proofs.YtgbapkechngnmaaGreat
/- The reference's tree: operations on a whole node (258 cells), one law each. -/
namespace Go.Proofs.YtgbapkechngnmaaGreat
open Go.RowKit

def noB : Nat → Bool := fun _ => false
def zeroN (k : Int) : Array Value := (nodeC k noB (.slice none 0 0)).toArray
theorem zeroN_size (k : Int) : (zeroN k).size = 258 := by unfold zeroN; rw [List.size_toArray, nodeC_len]
theorem zeroN_list (k : Int) : (zeroN k).toList = nodeC k noB (.slice none 0 0) := by unfold zeroN; simp
set_option maxRecDepth 100000 in
theorem node_zero : (Tryz.prog.info? 62).map (fun i => (i.zero, i.size, i.bytes)) = some (some (.agg (zeroN 0)), 258, 288) := by kernel_rfl
theorem node_size : (Tryz.prog.info? 62).map (·.size) = some 258 := by
 have h := node_zero
 cases hq : Tryz.prog.info? 62 with
 | none => rw [hq] at h; cases h
 | some i =>
  rw [hq] at h
  simp only [Option.map_some, Option.some.injEq, Prod.mk.injEq] at h ⊢
  exact h.2.1
set_option maxRecDepth 100000 in
theorem node_built0 : Tryz.prog.built 62 [] = some (zeroN 0) := by kernel_rfl
set_option maxRecDepth 100000 in
theorem node_built1 : Tryz.prog.built 62 [(0, .int .i64 1)] = some (zeroN 1) := by kernel_rfl
set_option maxRecDepth 100000 in
theorem node_built2 : Tryz.prog.built 62 [(0, .int .i64 2)] = some (zeroN 2) := by kernel_rfl
set_option maxRecDepth 100000 in
theorem node_built3 (k : Int) (a : Option Addr) (n c : Nat) : Tryz.prog.built 62 [(0, .int .i64 k), (2, .slice a n c)] = some (nodeC k noB (.slice a n c)).toArray := by kernel_rfl
theorem node_run_zero (w : World) : (zeroValue 62).run Tryz.prog w = .ok (.agg (zeroN 0)) w := by
 have h := node_zero
 cases hq : Tryz.prog.info? 62 with
 | none => rw [hq] at h; cases h
 | some i =>
  rw [hq] at h
  simp only [Option.map_some, Option.some.injEq, Prod.mk.injEq] at h
  simp [zeroValue, typeInfo, hq, h.1]
section
variable {ops : Array Oper} {rest : List Oper} {o : Oper} {a : Act} {w : World} {Q : Exit → Act → World → Prop}
theorem wpList_allocN (hg : o.guard = none) (ho : o.op = .alloc 62) (dst : Option Tmp) (hdst : o.dst = dst) (N : Nat) (hN : w.heap.size = N)
  (h : wpList Tryz.prog ops Q rest (a.put dst (.pointer (some ⟨N, 0, none⟩))) (w.alloc (.cells (zeroN 0) 62))) : wpList Tryz.prog ops Q (o :: rest) a w := by
 subst hdst hN
 refine wpList_plain hg fun K hK => ?_
 unfold Oper.wp execOp
 simp only [ho, Sem.run_bind, Instr.alloc, newVar, newRow, node_run_zero, run_newObj_alloc, Sem.run_pure, Result.andThen_ok, Value.cells]
 exact hK _ _ h
theorem wpList_buildN (hg : o.guard = none) (parts : Array (Nat × Operand)) (ho : o.op = .build 62 parts) (dst : Option Tmp) (hdst : o.dst = dst) (cells : Array Value)
  (hf : Tryz.prog.built 62 (parts.map fun (i, x) => (i, a.eval x)).toList = some cells)
  (h : wpList Tryz.prog ops Q rest (a.put dst (.agg cells)) w) : wpList Tryz.prog ops Q (o :: rest) a w := by
 subst hdst
 refine wpList_build hg 62 parts ho (by rw [hf]; rfl) ?_
 rw [hf]
 exact h
theorem wpList_loadN (hg : o.guard = none) (x : Operand) (ho : o.op = .load 62 x) (dst : Option Tmp) (hdst : o.dst = dst) (b i : Nat) (hx : a.eval x = .pointer (some ⟨b, i, none⟩)) (cs : List Value) (hc : w.rangeAt b i cs) (hl : cs.length = 258)
  (h : wpList Tryz.prog ops Q rest (a.put dst (.agg cs.toArray)) w) : wpList Tryz.prog ops Q (o :: rest) a w := by
 subst hdst
 exact wpList_load_mid hg 62 x ho b i hx cs _ hc Tryz.underlying62 rfl (by rw [hl]; exact node_size) h
theorem wpList_storeN (hg : o.guard = none) (x y : Operand) (ho : o.op = .store 62 x y) (dst : Option Tmp) (hdst : o.dst = dst) (b i : Nat) (cs : List Value) (hx : a.eval x = .pointer (some ⟨b, i, none⟩)) (hy : a.eval y = .agg cs.toArray)
  (ht : w.there b i 258) (hl : cs.length = 258) (h1 : ∀ y ∈ cs, y.oneCell' = true)
  (h : wpList Tryz.prog ops Q rest (a.put dst undef) (w.setCells b i cs)) : wpList Tryz.prog ops Q (o :: rest) a w := by
 subst hdst
 refine wpList_store_mid hg 62 x y ho b i cs.toArray hx hy (by simpa [hl] using ht) (by simpa [hl] using node_size) (all_oneCell_toArray h1) ?_
 simpa using h
end
structure NdAt (w : World) (p : Nat) (cs : List Value) : Prop where
 at_ : w.rangeAt p 0 cs
 th : w.there p 0 258
 len : cs.length = 258
 lt : p < w.heap.size
theorem NdAt.keep {w w' : World} {p : Nat} {cs : List Value} (h : NdAt w p cs) (hs : w.heap.size ≤ w'.heap.size) (hk : w'.heap[p]? = w.heap[p]?) : NdAt w' p cs :=
 ⟨fun j v hv => (World.cell?_of_block (a := ⟨p, 0 + j, none⟩) hk).trans (h.at_ j v hv), fun j hj => by
  obtain ⟨h1, h2⟩ := h.th j hj
  exact ⟨by rw [World.cell?_of_block (a := ⟨p, 0 + j, none⟩) hk]; exact h1, by rw [World.frozen?_of_block (a := ⟨p, 0 + j, none⟩) hk]; exact h2⟩, h.len, Nat.lt_of_lt_of_le h.lt hs⟩
theorem NdAt.later {w w' : World} {p : Nat} {cs : List Value} (h : NdAt w p cs) (hb : Below w.heap.size w w') : NdAt w' p cs := h.keep hb.size (hb.block p h.lt)
theorem NdAt.kr {w w' : World} {g p : Nat} {cs : List Value} (h : NdAt w p cs) (hk : Kr g w w') (hne : p ≠ g) : NdAt w' p cs := h.keep hk.size (hk.block p h.lt hne)
theorem NdAt.cell {w : World} {p : Nat} {cs : List Value} (h : NdAt w p cs) {j : Nat} {v : Value} (hv : cs[j]? = some v) : w.cell? ⟨p, j, none⟩ = some v := by
 have := h.at_ j v hv
 rwa [Nat.zero_add] at this
theorem NdAt.free {w : World} {p : Nat} {cs : List Value} (h : NdAt w p cs) {j : Nat} (hj : j < 258) : w.frozen? ⟨p, j, none⟩ = false := by
 have := (h.th j hj).2
 rwa [Nat.zero_add] at this
theorem there_new (w : World) (k : Int) (t : TypeId) : (w.alloc (.cells (zeroN k) t)).there w.heap.size 0 258 := by
 have h := box_there (xs := zeroN k) (t := t) (Below.refl _ (w.alloc (.cells (zeroN k) t)))
 rwa [zeroN_size] at h
theorem NdAt.new (w : World) (k : Int) (t : TypeId) : NdAt (w.alloc (.cells (zeroN k) t)) w.heap.size (nodeC k noB (.slice none 0 0)) :=
 ⟨fun j v hv => by
  rw [Nat.zero_add]
  refine (box_cells (Below.refl _ (w.alloc (.cells (zeroN k) t)))).1 j v ?_
  rw [← Array.getElem?_toList, zeroN_list]
  exact hv, there_new w k t, nodeC_len _ _ _, by rw [World.size_alloc]; omega⟩
theorem size_setCells (w : World) (g o : Nat) (vs : List Value) : (w.setCells g o vs).heap.size = w.heap.size := by
 induction vs generalizing w o with
 | nil => rfl
 | cons v r ih => rw [World.setCells, ih]; simp
theorem NdAt.stored {w : World} {p : Nat} {old cs : List Value} (h : NdAt w p old) (hl : cs.length = 258) : NdAt (w.setCells p 0 cs) p cs :=
 ⟨World.rangeAt_setCells_same w p 0 cs (by rw [hl]; exact h.th), World.there_setCells h.th p 0 cs, hl, by rw [size_setCells]; exact h.lt⟩
theorem NdAt.set {w : World} {p : Nat} {cs : List Value} (h : NdAt w p cs) (j : Nat) (v : Value) (hj : j < 258) : NdAt (w.setCell ⟨p, j, none⟩ v) p (cs.set j v) :=
 ⟨fun i u hu => by
  rw [Nat.zero_add]
  rw [List.getElem?_set] at hu
  split at hu
  ·rename_i e
   subst e
   split at hu
   ·rw [← Option.some.inj hu]
    exact World.cell?_setCell_same _ _ _ (h.cell (List.getElem?_eq_getElem (by rw [h.len]; exact hj)))
   ·cases hu
  ·rename_i e
   rw [rfar (by omega)]
   exact h.cell hu, rthere_set h.th _ _ _, by simpa using h.len, by simpa using h.lt⟩
theorem nodeC_setK (k : Int) (S : Nat → Bool) (kv kv' : Value) : (nodeC k S kv).set 257 kv' = nodeC k S kv' := by
 unfold nodeC
 rw [show (257 : Nat) = 256 + 1 by rfl, List.set_cons_succ, List.set_append_right _ _ (by rw [boolC_len]; exact Nat.le_refl _), boolC_len]
 rfl
theorem nodeC_setB (k : Int) (S : Nat → Bool) (kv : Value) (c : Nat) (hc : c < 256) (v : Bool) : (nodeC k S kv).set (1 + c) (.bool v) = nodeC k (fun x => if x = c then v else S x) kv := by
 unfold nodeC
 rw [Nat.add_comm, List.set_cons_succ, List.set_append_left _ _ (by rw [boolC_len]; exact hc)]
 congr 2
 unfold boolC
 apply List.ext_getElem?
 intro i
 rw [List.getElem?_set]
 by_cases hi : i < 256
 ·simp only [List.getElem?_map, List.getElem?_range hi, List.length_map, List.length_range, Option.map_some]
  by_cases e : c = i
  ·subst e
   simp [hi]
  ·simp [e, Ne.symm e]
 ·have h1 : ((List.range 256).map fun c => Value.bool (S c))[i]? = none := List.getElem?_eq_none (by simp; omega)
  have h2 : ((List.range 256).map fun x => Value.bool (if x = c then v else S x))[i]? = none := List.getElem?_eq_none (by simp; omega)
  rw [h1, h2, if_neg (by omega)]
end Go.Proofs.YtgbapkechngnmaaGreat
/- The reference's reader under way: what its functions carry. -/
namespace Go.Proofs.YtgbapkechngnmaaGreat
open Go.RowKit

abbrev nilS : Value := .slice none 0 0
theorem Kr.new {g : Nat} {w0 w : World} (h : Kr g w0 w) (p i : Nat) (v : Value) (hp : w0.heap.size ≤ p) : Kr g w0 (w.setCell ⟨p, i, none⟩ v) :=
 ⟨h.os, h.tape, h.output, by rw [World.size_setCell]; exact h.size, fun k hk hn => by rw [Below.heap_setCell w ⟨p, i, none⟩ v k (by show k ≠ p; omega)]; exact h.block k hk hn⟩
theorem Kr.news {g : Nat} {w0 w : World} (h : Kr g w0 w) (p : Nat) (hp : w0.heap.size ≤ p) : ∀ (vs : List Value) (o : Nat), Kr g w0 (w.setCells p o vs) := by
 intro vs
 induction vs generalizing w with
 | nil => intro o; exact h
 | cons v r ih => intro o; exact ih (h.new p o v hp) (o + 1)
theorem RdrAt.kept {w w' : World} {g : Nat} {s : ByteArray} {b : Bs} (h : RdrAt w g s b) (hs : w.heap.size ≤ w'.heap.size) (hk : w'.heap[g]? = w.heap[g]?) : RdrAt w' g s b :=
 ⟨(World.cell?_of_block (a := ⟨g, 0, none⟩) hk).trans h.c0, (World.cell?_of_block (a := ⟨g, 1, none⟩) hk).trans h.c1, (World.cell?_of_block (a := ⟨g, 2, none⟩) hk).trans h.c2,
  fun j hj => by
   obtain ⟨h1, h2⟩ := h.th j hj
   exact ⟨by rw [World.cell?_of_block (a := ⟨g, 0 + j, none⟩) hk]; exact h1, by rw [World.frozen?_of_block (a := ⟨g, 0 + j, none⟩) hk]; exact h2⟩, Nat.lt_of_lt_of_le h.lt hs⟩
theorem there_kept {w w' : World} {p n : Nat} (h : w.there p 0 n) (hk : w'.heap[p]? = w.heap[p]?) : w'.there p 0 n := fun j hj => by
 obtain ⟨h1, h2⟩ := h j hj
 exact ⟨by rw [World.cell?_of_block (a := ⟨p, 0 + j, none⟩) hk]; exact h1, by rw [World.frozen?_of_block (a := ⟨p, 0 + j, none⟩) hk]; exact h2⟩
theorem heap_setCells (w : World) (p k : Nat) (hk : k ≠ p) : ∀ (vs : List Value) (o : Nat), (w.setCells p o vs).heap[k]? = w.heap[k]? := by
 intro vs
 induction vs generalizing w with
 | nil => intro o; rfl
 | cons v r ih => intro o; exact (ih (w.setCell ⟨p, o, none⟩ v) (o + 1)).trans (Below.heap_setCell w ⟨p, o, none⟩ v k hk)
def rposAt (w : World) (g : Nat) : Nat := match w.cell? ⟨g, 1, none⟩ with
 | some (.int _ n) => n.toNat
 | _ => 0
theorem RdrAt.posAt {w : World} {g : Nat} {s : ByteArray} {b : Bs} (h : RdrAt w g s b) : rposAt w g = b.pos := by
 unfold rposAt
 rw [h.c1]
 simp
structure Clr (w0 w : World) (g : Nat) (s : ByteArray) (b : Bs) (cs : List Value) : Prop where
 rdr : RdrAt w g s b
 nd : NdAt w (w0.heap.size + 1) cs
 res : w.there w0.heap.size 0 258
 kr : Kr g w0 w
 gl : g < w0.heap.size
theorem Clr.new {w : World} {g : Nat} {s : ByteArray} {b : Bs} (h : RdrAt w g s b) (k : Int) (t : TypeId) : Clr w (((w.alloc (.cells (zeroN 0) t)).alloc (.cells (zeroN 0) t)).setCells (w.heap.size + 1) 0 (nodeC k noB nilS)) g s b (nodeC k noB nilS) := by
 have b1 : Below w.heap.size w (w.alloc (.cells (zeroN 0) t)) := alloc_below _ _
 have b2 : Below w.heap.size w ((w.alloc (.cells (zeroN 0) t)).alloc (.cells (zeroN 0) t)) := b1.trans ((alloc_below _ _).mono b1.size)
 have n2 := NdAt.new (w.alloc (.cells (zeroN 0) t)) 0 t
 have r2 := there_later (there_new w 0 t) (alloc_below (w.alloc (.cells (zeroN 0) t)) (.cells (zeroN 0) t)) (by rw [World.size_alloc]; omega)
 rw [World.size_alloc] at n2
 refine ⟨(h.below b2).kept (by rw [size_setCells]; exact Nat.le_refl _) (heap_setCells _ _ _ (by have := h.lt; omega) _ _), n2.stored (nodeC_len _ _ _), there_kept r2 (heap_setCells _ _ _ (by omega) _ _), (Kr.of_below b2).news _ (by omega) _ _, h.lt⟩
theorem Clr.below {w0 w w' : World} {g : Nat} {s : ByteArray} {b : Bs} {cs : List Value} (h : Clr w0 w g s b cs) (hb : Below w.heap.size w w') : Clr w0 w' g s b cs :=
 ⟨h.rdr.below hb, h.nd.later hb, there_later h.res hb (by have := h.nd.lt; omega), h.kr.trans (Kr.of_below hb), h.gl⟩
theorem Clr.stp {w0 w w' : World} {g : Nat} {s : ByteArray} {b b' : Bs} {cs : List Value} (h : Clr w0 w g s b cs) (hr : RdrAt w' g s b') (hk : Kr g w w') : Clr w0 w' g s b' cs :=
 ⟨hr, h.nd.kr hk (by have := h.gl; omega), there_kept h.res (hk.block _ (by have := h.nd.lt; omega) (by have := h.gl; omega)), h.kr.trans hk, h.gl⟩
theorem Clr.step {w0 w : World} {g : Nat} {s : ByteArray} {b : Bs} {cs : List Value} (h : Clr w0 w g s b cs) : Clr w0 (w.setCell ⟨g, 1, none⟩ (.int .i64 ((b.pos : Int) + 1))) g s (stepM b) cs :=
 h.stp h.rdr.step (Kr.set g w 1 _)
theorem Clr.put {w0 w : World} {g : Nat} {s : ByteArray} {b : Bs} {cs : List Value} (h : Clr w0 w g s b cs) (j : Nat) (v : Value) (hj : j < 258) : Clr w0 (w.setCell ⟨w0.heap.size + 1, j, none⟩ v) g s b (cs.set j v) :=
 ⟨h.rdr.kept (by simp) (Below.heap_setCell w _ v g (by show g ≠ w0.heap.size + 1; have := h.gl; omega)), h.nd.set j v hj, rthere_set h.res _ _ _, h.kr.new _ _ _ (by omega), h.gl⟩
theorem Clr.done {w0 w : World} {g : Nat} {s : ByteArray} {b : Bs} {cs : List Value} (h : Clr w0 w g s b cs) (vs : List Value) : RdrAt (w.setCells w0.heap.size 0 vs) g s b ∧ Kr g w0 (w.setCells w0.heap.size 0 vs) :=
 ⟨h.rdr.kept (by rw [size_setCells]; exact Nat.le_refl _) (heap_setCells _ _ _ (by have := h.gl; omega) _ _), h.kr.news _ (Nat.le_refl _) _ _⟩
theorem oneN (k : Int) (S : Nat → Bool) : ∀ y ∈ nodeC k S nilS, y.oneCell' = true := nodeC_one k S nilS rfl
def addU (S : Nat → Bool) (lo k : Nat) : Nat → Bool := fun c => S c || (decide (lo ≤ c) && decide (c < k))
theorem addU_start (S : Nat → Bool) (lo : Nat) : addU S lo lo = S := by
 funext c
 have : (decide (lo ≤ c) && decide (c < lo)) = false := by
  by_cases h : lo ≤ c
  ·rw [decide_eq_false (show ¬ c < lo by omega), Bool.and_false]
  ·rw [decide_eq_false h, Bool.false_and]
 unfold addU
 rw [this, Bool.or_false]
theorem addU_end {S : Nat → Bool} {lo hi k : Nat} (h1 : hi < k) (h2 : k ≤ hi + 1 ∨ k = lo) : addU S lo k = addS S lo hi := by
 funext c
 unfold addU addS
 congr 1
 by_cases h : lo ≤ c
 ·rw [decide_eq_true h, Bool.true_and, Bool.true_and]
  by_cases h3 : c ≤ hi
  ·rw [decide_eq_true h3, decide_eq_true (by omega)]
  ·rw [decide_eq_false h3, decide_eq_false (by omega)]
 ·rw [decide_eq_false h, Bool.false_and, Bool.false_and]
theorem addU_succ {S : Nat → Bool} {lo k : Nat} (h : lo ≤ k) : (fun x => if x = k then true else addU S lo k x) = addU S lo (k + 1) := by
 funext c
 unfold addU
 by_cases e : c = k
 ·subst e
  rw [if_pos rfl, decide_eq_true h, decide_eq_true (Nat.lt_succ_self c)]
  simp
 ·rw [if_neg e]
  congr 2
  exact decide_eq_decide.2 (by omega)
def turnU (S : Nat → Bool) (k : Nat) : Nat → Bool := fun c => if c < k then !S c else S c
theorem turnU_zero (S : Nat → Bool) : turnU S 0 = S := by funext c; unfold turnU; rw [if_neg (by omega)]
theorem turnU_at (S : Nat → Bool) (k : Nat) : turnU S k k = S k := by unfold turnU; rw [if_neg (by omega)]
theorem turnU_succ (S : Nat → Bool) (k : Nat) : (fun x => if x = k then !S k else turnU S k x) = turnU S (k + 1) := by
 funext c
 unfold turnU
 by_cases e : c = k
 ·subst e
  rw [if_pos rfl, if_pos (by omega)]
 ·rw [if_neg e]
  have : (c < k) = (c < k + 1) := propext (by omega)
  simp only [this]
theorem nodeC_congr {k : Int} {S T : Nat → Bool} (h : ∀ c, c < 256 → S c = T c) (kv : Value) : nodeC k S kv = nodeC k T kv := by
 unfold nodeC boolC
 congr 2
 exact List.map_congr_left (fun c hc => by rw [h c (List.mem_range.1 hc)])
theorem turnU_all (S : Nat → Bool) (k : Int) (kv : Value) : nodeC k (turnU S 256) kv = nodeC k (turnS S) kv :=
 nodeC_congr (fun c hc => by unfold turnU turnS; rw [if_pos hc]) kv
end Go.Proofs.YtgbapkechngnmaaGreat
/- The tree of a pattern; the builder's states fit its texts. No program in sight. -/
namespace Go.Proofs.YtgbapkechngnmaaGreat

def timesR (s : ByteArray) (b : Bs) (a : Re) : Re := match peekM s b with
  | none => a
  | some c => if c = 42 then .star a else if c = 43 then .plus a else if c = 63 then .opt a else a
def reM (s : ByteArray) : Nat → Md → Re → Nat → Bs → Re
  | 0, _, acc, _, _ => acc
  | n + 1, .either, _, d, b => reM s n (.alts (b.sts.length, b.sts.length + 1)) .no d (nodeM (nodeM b))
  | n + 1, .alts p, acc, d, b =>
    let r := runM s n .row d b
    let a := Re.alt acc (reM s n .row .no d b)
    let b2 := freeM (freeM r.1 p.1 r.2.1) r.2.2 p.2
    if peekM s b2 = some 124 then reM s n (.alts p) a d (stepM b2) else a
  | n + 1, .row, _, d, b => reM s n (.parts (b.sts.length, b.sts.length)) .eps d (nodeM b)
  | n + 1, .parts p, acc, d, b =>
    match peekM s b with
    | none => acc
    | some c => if c = 124 ∨ c = 41 then acc else
      let r := runM s n .atom d b
      let t := timesM s r.1 r.2
      reM s n (.parts (p.1, t.2.2)) (.cat acc (timesR s r.1 (reM s n .atom .no d b))) d (freeM t.1 p.2 t.2.1)
  | n + 1, .atom, _, d, b =>
    let c := byteM s b.pos
    let b1 := stepM b
    if c = 40 then
      (if d = 8 then .set noS else reM s n .either .no (d + 1) b1)
    else if c = 91 then .set (classM s b1).2
    else if c = 46 then .set (turnS noS)
    else if c = 92 then
      (match peekM s b1 with
       | none => .set (oneS 0)
       | some e => .set (oneS e))
    else if oddB c = true then .set noS
    else .set (oneS c)
def Und : Md → Re → Bs → Nat → Prop
  | .alts p, acc, b, lo => Frg b.sts lo b.sts.length p.1 p.2 acc ∧ p.1 ≠ p.2
  | .parts p, acc, b, lo => Frg b.sts lo b.sts.length p.1 p.2 acc
  | _, _, b, lo => lo = b.sts.length
structure Made (b : Bs) (lo : Nat) (r : Bs × (Nat × Nat)) (a : Re) : Prop where
  old : ∀ k, k < lo → r.1.sts[k]? = b.sts[k]?
  frg : Frg r.1.sts lo r.1.sts.length r.2.1 r.2.2 a
theorem node_sts (b : Bs) : (nodeM b).sts = b.sts ++ [nd] := rfl
theorem node2_sts (b : Bs) : (nodeM (nodeM b)).sts = b.sts ++ [nd, nd] := by rw [node_sts, node_sts, List.append_assoc]; rfl
theorem one_made (b0 b : Bs) (S : Nat → Bool) (h : b.sts = b0.sts) : Made b0 b0.sts.length (oneM b S) (.set S) := by
  rw [← h]
  refine ⟨fun k hk => ?_, ?_⟩
  · rw [← h]; exact List.getElem?_append_left hk
  · have := frg_set b.sts S
    have hl : (oneM b S).1.sts.length = b.sts.length + 2 := by simp [oneM]
    rw [hl]
    exact this
theorem app2_old {l : List St} {x y : St} {k : Nat} (h : k < l.length) : (l ++ [x, y])[k]? = l[k]? := List.getElem?_append_left h
theorem app2_0 (l : List St) (x y : St) : (l ++ [x, y])[l.length]? = some x := by rw [List.getElem?_append_right (Nat.le_refl _)]; simp
theorem app2_1 (l : List St) (x y : St) : (l ++ [x, y])[l.length + 1]? = some y := by rw [List.getElem?_append_right (by omega)]; simp
theorem times_made {s : ByteArray} {b0 : Bs} {r : Bs × (Nat × Nat)} {a : Re} (h : Made b0 b0.sts.length r a) : Made b0 b0.sts.length (timesM s r.1 r.2) (timesR s r.1 a) := by
  obtain ⟨b, x⟩ := r
  obtain ⟨old, frg⟩ := h
  dsimp only at old frg ⊢
  unfold timesM timesR
  cases hp : peekM s b with
  | none => exact ⟨old, frg⟩
  | some c =>
    dsimp only
    by_cases hpo : postB c = true
    · rw [if_pos hpo]
      have x0 := frg.f0
      have x1 := frg.f1
      have y0 := frg.t0
      have y1 := frg.t1
      have hsx : (stepM b).sts = b.sts := rfl
      -- the states behind the steps
      have key : ∀ (skip again : Bool) (B : Bs), B.sts = (let l1 := addF (addF (b.sts ++ [nd, nd]) b.sts.length x.1) x.2 (b.sts.length + 1)
          let l2 := if skip = true then addF l1 b.sts.length (b.sts.length + 1) else l1
          if again = true then addF l2 x.2 x.1 else l2) →
          Made b0 b0.sts.length (B, (b.sts.length, b.sts.length + 1)) (postR skip again a) := by
        intro skip again B hB
        dsimp only at hB
        have hne : b.sts.length ≠ x.2 := by omega
        have hold : ∀ k, k < b.sts.length → k ≠ x.2 → B.sts[k]? = b.sts[k]? := by
          intro k hk hkx
          rw [hB]
          cases skip <;> cases again <;> simp only [Bool.false_eq_true, if_false, if_true] <;> (repeat rw [addF_ne (by omega)]) <;> exact app2_old hk
        refine ⟨fun k hk => ?_, ?_⟩
        · exact (hold k (by omega) (by omega)).trans (old k hk)
        · have hlen : B.sts.length = b.sts.length + 2 := by
            rw [hB]
            cases skip <;> cases again <;> simp [addF_len]
          rw [hlen]
          refine Frg.post frg skip again hlen hold ?_ ?_ ?_ _ rfl
          · rw [hB]
            have g0 := addF_eq (t := x.1) (app2_0 b.sts nd nd)
            cases skip <;> cases again <;> simp only [Bool.false_eq_true, if_false, if_true]
            · rw [addF_ne hne]; exact g0
            · rw [addF_ne hne, addF_ne hne]; exact g0
            · rw [addF_eq (x := ⟨none, 0, [x.1]⟩) (by rw [addF_ne hne]; exact g0)]
            · rw [addF_ne hne, addF_eq (x := ⟨none, 0, [x.1]⟩) (by rw [addF_ne hne]; exact g0)]
          · rw [hB]
            have g0 : (addF (addF (b.sts ++ [nd, nd]) b.sts.length x.1) x.2 (b.sts.length + 1))[x.2]? = some ⟨none, 0, [b.sts.length + 1]⟩ := by
              rw [addF_eq (x := ⟨none, 0, []⟩) (by rw [addF_ne (Ne.symm hne), app2_old y1]; exact frg.sink)]; rfl
            cases skip <;> cases again <;> simp only [Bool.false_eq_true, if_false, if_true]
            · exact g0
            · rw [addF_eq g0]
            · rw [addF_ne (Ne.symm hne)]; exact g0
            · rw [addF_eq (by rw [addF_ne (Ne.symm hne)]; exact g0)]
          · rw [hB]
            cases skip <;> cases again <;> simp only [Bool.false_eq_true, if_false, if_true] <;> (repeat rw [addF_ne (by omega)]) <;> exact app2_1 _ _ _
      rcases (show c = 42 ∨ c = 43 ∨ c = 63 by simp only [postB, Bool.or_eq_true, decide_eq_true_eq] at hpo; omega) with rfl | rfl | rfl
      · exact key true true _ (by simp [freeM, node2_sts, stepM])
      · exact key false true _ (by simp [freeM, node2_sts, stepM])
      · exact key true false _ (by simp [freeM, node2_sts, stepM])
    · rw [if_neg hpo]
      have : c ≠ 42 ∧ c ≠ 43 ∧ c ≠ 63 := by simp only [postB, Bool.or_eq_true, decide_eq_true_eq] at hpo; omega
      rw [if_neg this.1, if_neg this.2.1, if_neg this.2.2]
      exact ⟨old, frg⟩
theorem reM_made (s : ByteArray) (n : Nat) : ∀ (md : Md) (acc : Re) (d : Nat) (b : Bs) (lo : Nat), d ≤ 8 → b.pos ≤ s.size + 12 - d → (md = .atom → b.pos < s.size) → partOk md b → fuelM s b md ≤ n → Und md acc b lo → Made b lo (runM s n md d b) (reM s n md acc d b) := by
  induction n with
  | zero => intro md acc d b lo _ _ _ _ hn; cases md <;> simp [fuelM] at hn
  | succ n ih =>
    intro md acc d b lo hd hp ha hk hn hu
    cases md with
    | either =>
      simp only [fuelM] at hn
      obtain rfl : lo = b.sts.length := hu
      rw [runM, reM]
      have h := ih (.alts (b.sts.length, b.sts.length + 1)) .no d (nodeM (nodeM b)) b.sts.length hd hp (fun h => by cases h) ⟨by simp [nodeM], by simp [nodeM]⟩ (by simp only [fuelM, nodeM]; omega)
        ⟨by rw [node2_sts]; have := frg_no b.sts; simpa using this, by simp⟩
      exact ⟨fun k hk => by rw [h.old k hk, node2_sts]; exact app2_old hk, h.frg⟩
    | alts p =>
      simp only [fuelM] at hn
      obtain ⟨hp1, hp2⟩ := hk
      obtain ⟨hf, hne⟩ := hu
      have ok := runM_ok s n .row d b hd hp (fun h => by cases h) trivial (by simp only [fuelM]; omega)
      have h1 := ih .row .no d b b.sts.length hd hp (fun h => by cases h) trivial (by simp only [fuelM]; omega) rfl
      obtain ⟨g1, q1, q2, q3, _⟩ := ok
      have e : ∀ b f t, (freeM b f t).sts.length = b.sts.length := fun b f t => by simp [freeM, addF_len]
      have hgl := g1.len
      have hgp := g1.pos
      have hpp : (freeM (freeM (runM s n .row d b).1 p.1 (runM s n .row d b).2.1) (runM s n .row d b).2.2 p.2).pos = (runM s n .row d b).1.pos := rfl
      have hl2 : (freeM (freeM (runM s n .row d b).1 p.1 (runM s n .row d b).2.1) (runM s n .row d b).2.2 p.2).sts.length = (runM s n .row d b).1.sts.length := by rw [e, e]
      have h2 := hf.alt hne h1.old h1.frg
      have hfs : (freeM (freeM (runM s n .row d b).1 p.1 (runM s n .row d b).2.1) (runM s n .row d b).2.2 p.2).sts = addF (addF (runM s n .row d b).1.sts p.1 (runM s n .row d b).2.1) (runM s n .row d b).2.2 p.2 := rfl
      rw [← hfs] at h2
      have hold : ∀ k, k < lo → (freeM (freeM (runM s n .row d b).1 p.1 (runM s n .row d b).2.1) (runM s n .row d b).2.2 p.2).sts[k]? = b.sts[k]? := fun k hk => by
        have a1 := h1.frg.t0
        have a2 := hf.f0
        have a3 := hf.f1
        rw [hfs, addF_ne (by omega), addF_ne (by omega)]
        exact h1.old k (by omega)
      rw [runM, reM]
      generalize (freeM (freeM (runM s n .row d b).1 p.1 (runM s n .row d b).2.1) (runM s n .row d b).2.2 p.2) = b2 at *
      rw [← hl2] at h2
      split
      · rename_i hpk
        have hps := (peekM_some hpk).2.1
        have h3 := ih (.alts p) (.alt acc (reM s n .row .no d b)) d (stepM b2) lo hd (by simp only [stepM]; omega) (fun h => by cases h) ⟨by simp only [stepM]; omega, by simp only [stepM]; omega⟩ (by simp only [fuelM, stepM]; omega) ⟨h2, hne⟩
        exact ⟨fun k hk => (h3.old k hk).trans (hold k hk), h3.frg⟩
      · exact ⟨hold, h2⟩
    | row =>
      simp only [fuelM] at hn
      obtain rfl : lo = b.sts.length := hu
      rw [runM, reM]
      have h := ih (.parts (b.sts.length, b.sts.length)) .eps d (nodeM b) b.sts.length hd hp (fun h => by cases h) ⟨by simp [nodeM], by simp [nodeM]⟩ (by simp only [fuelM, nodeM]; omega)
        (by show Frg _ _ _ _ _ _; rw [node_sts]; have := frg_eps b.sts; simpa using this)
      exact ⟨fun k hk => by rw [h.old k hk, node_sts]; exact List.getElem?_append_left hk, h.frg⟩
    | parts p =>
      simp only [fuelM] at hn
      obtain ⟨hp1, hp2⟩ := hk
      have hf : Frg b.sts lo b.sts.length p.1 p.2 acc := hu
      rw [runM, reM]
      cases hc : peekM s b with
      | none => exact ⟨fun _ _ => rfl, hf⟩
      | some c =>
        dsimp only
        split
        · exact ⟨fun _ _ => rfl, hf⟩
        · have hps := (peekM_some hc).2.1
          have ok := runM_ok s n .atom d b hd hp (fun _ => hps) trivial (by simp only [fuelM]; omega)
          have h1 := ih .atom .no d b b.sts.length hd hp (fun _ => hps) trivial (by simp only [fuelM]; omega) rfl
          obtain ⟨g1, q1, q2, q3, q4⟩ := ok
          obtain ⟨q5, q6⟩ := q4 rfl
          have gt := gd_times s (runM s n .atom d b).1 (runM s n .atom d b).2
          have pt := times_part s (runM s n .atom d b).1 (runM s n .atom d b).2 ⟨q1, q2⟩
          have h2 := times_made (s := s) h1
          have tp : (timesM s (runM s n .atom d b).1 (runM s n .atom d b).2).1.pos ≤ s.size + 12 - d := by
            unfold timesM
            split
            · exact q3
            · rename_i c' hc'
              have := (peekM_some hc').2.1
              split
              · have e : ∀ b f t, (freeM b f t).pos = b.pos := fun _ _ _ => rfl
                dsimp only
                split <;> split <;> simp only [e, nodeM, stepM] <;> omega
              · exact q3
          generalize timesR s (runM s n .atom d b).1 (reM s n .atom .no d b) = a at *
          generalize hr : runM s n .atom d b = r at *
          generalize ht : timesM s r.1 r.2 = t at *
          have hfl : (freeM t.1 p.2 t.2.1).sts.length = t.1.sts.length := by simp [freeM, addF_len]
          have hgl := gt.len
          have hgp := gt.pos
          have h1l := g1.len
          have h3 := hf.cat h2.old h2.frg
          have hfs : (freeM t.1 p.2 t.2.1).sts = addF t.1.sts p.2 t.2.1 := rfl
          rw [← hfs, ← hfl] at h3
          have h4 := ih (.parts (p.1, t.2.2)) (.cat acc a) d (freeM t.1 p.2 t.2.1) lo hd tp (fun h => by cases h) ⟨by rw [hfl]; show p.1 < _; omega, by rw [hfl]; exact pt.2⟩ (by simp only [fuelM, freeM]; omega) h3
          refine ⟨fun k hk => ?_, h4.frg⟩
          have a2 := hf.t0
          have a3 := hf.t1
          rw [h4.old k hk, hfs, addF_ne (by omega)]
          exact h2.old k (by omega)
    | atom =>
      simp only [fuelM] at hn
      obtain rfl : lo = b.sts.length := hu
      have hps := ha rfl
      rw [runM, reM]
      dsimp only
      split
      · split
        · exact one_made _ _ _ (by rw [failM_sts]; rfl)
        · have h := ih .either .no (d + 1) (stepM b) b.sts.length (by omega) (by simp only [stepM]; omega) (fun h => by cases h) trivial (by simp only [fuelM, stepM]; omega) rfl
          exact ⟨fun k hk => by dsimp only; rw [closeM_sts]; exact h.old k hk, by dsimp only; rw [closeM_sts]; exact h.frg⟩
      · split
        · exact one_made _ _ _ (by rw [classM_len]; rfl)
        · split
          · exact one_made _ _ _ rfl
          · split
            · cases hc : peekM s (stepM b) with
              | none => exact one_made b _ _ (by show (failM (stepM b) 2).sts = _; rw [failM_sts]; rfl)
              | some e => exact one_made b _ _ rfl
            · split
              · exact one_made _ _ _ (by rw [failM_sts]; rfl)
              · exact one_made _ _ _ rfl
def reT (p : ByteArray) : Re := reM p (8 * p.size + 5) .either .no 0 bs0
theorem FR_pa {sts : List St} {j k : Nat} (h : FR sts j k) : ∃ n, Pa sts j [] k n := by
  induction h with
  | refl => exact ⟨0, .refl _⟩
  | step h1 h2 ih =>
    obtain ⟨n, p⟩ := ih
    unfold frees at h2
    split at h2
    · rename_i x hx
      exact ⟨_, p.trans (.free hx h2 (.refl _))⟩
    · cases h2
theorem Rn_pa {sts : List St} {st k : Nat} {cs : List Nat} (h : Rn sts st cs k) : ∃ n, Pa sts st cs k n := by
  induction h with
  | start h => exact FR_pa h
  | byte h1 h2 h3 h4 ih =>
    obtain ⟨n, p⟩ := ih
    obtain ⟨m, q⟩ := FR_pa h4
    have := p.trans (.byte h2 h3 q)
    exact ⟨_, this⟩
theorem Rn_free {sts : List St} {st j f : Nat} {cs : List Nat} (h : Rn sts st cs j) (hf : f ∈ frees sts j) : Rn sts st cs f := by
  cases h with
  | start h => exact .start (.step h hf)
  | byte h1 h2 h3 h4 => exact .byte h1 h2 h3 (.step h4 hf)
theorem pa_Rn {sts : List St} {st j k n : Nat} {cs : List Nat} (h : Pa sts j cs k n) : ∀ {c0}, Rn sts st c0 j → Rn sts st (c0 ++ cs) k := by
  induction h with
  | refl => intro c0 h; simpa using h
  | free h1 h2 _ ih => intro c0 h; exact ih (Rn_free h (by unfold frees; rw [h1]; exact h2))
  | byte h1 h2 _ ih =>
    intro c0 h
    have := ih (Rn.byte h h1 h2 (.refl _))
    rw [List.append_assoc] at this
    exact this
theorem Rn_iff {sts : List St} {st k : Nat} {cs : List Nat} : Rn sts st cs k ↔ ∃ n, Pa sts st cs k n :=
  ⟨Rn_pa, fun ⟨_, p⟩ => by have := pa_Rn (c0 := []) p (.start (.refl _)); simpa using this⟩
theorem reT_made (p : ByteArray) : Made bs0 0 (runR p) (reT p) :=
  reM_made p _ .either .no 0 bs0 0 (by omega) (by simp [bs0]) (fun h => by cases h) trivial (by simp [fuelM, bs0]) rfl
theorem fits_re (p t : ByteArray) : FitsP p t ↔ errM p = 0 ∧ Lr (reT p) (bytesN t) := by
  unfold FitsP
  rw [Rn_iff, endR_sts, (reT_made p).frg.lang]
end Go.Proofs.YtgbapkechngnmaaGreat
/- The reference's class: a contract. -/
namespace Go.Proofs.YtgbapkechngnmaaGreat
open Go.RowKit

def RLoop (w0 : World) (g : Nat) (s : ByteArray) (r : Bs × (Nat → Bool)) (v : Value) (w : World) : Prop :=
 ∃ (n i : Nat) (b : Bs) (S : Nat → Bool), v = .int .i64 (i : Nat) ∧ loopM s (n + 1) (decide (i = 0)) b S = r ∧ s.size - b.pos ≤ n ∧ b.pos ≤ s.size + 1 ∧ i ≤ b.pos ∧ Clr w0 w g s b (nodeC 0 S nilS)
theorem rloop_none {s : ByteArray} {n : Nat} {first : Bool} {b : Bs} {S : Nat → Bool} (h : peekM s b = none) : loopM s (n + 1) first b S = (failM b 2, S) := by rw [loopM, h]
theorem rloop_first {s : ByteArray} {n : Nat} {b : Bs} {S : Nat → Bool} (h : peekM s b = some 93) : loopM s (n + 1) true b S = (failM b 2, S) := by rw [loopM, h]; rfl
theorem rloop_end {s : ByteArray} {n : Nat} {b : Bs} {S : Nat → Bool} (h : peekM s b = some 93) : loopM s (n + 1) false b S = (stepM b, S) := by rw [loopM, h]; rfl
theorem rloop_on {s : ByteArray} {n d : Nat} {first : Bool} {b : Bs} {S : Nat → Bool} (h : peekM s b = some d) (hd : d ≠ 93) {x : Bs × Nat} (hx : signM s b = x) {y : Bs × Nat} (hy : rangeM s x.1 x.2 = y) : loopM s (n + 1) first b S = loopM s n false (if y.2 < x.2 then failM y.1 2 else y.1) (addS S x.2 y.2) := by
 rw [loopM, h]
 dsimp only
 rw [if_neg hd, hx, hy]
theorem rrange_false {s : ByteArray} {b : Bs} (h : peekM s b ≠ some 45) : rangeB s b = false := by unfold rangeB; rw [decide_eq_false h]; rfl
theorem rrange_at {s : ByteArray} {b : Bs} (h : peekM s b = some 45) : rangeB s b = (decide (b.pos + 1 < s.size) && !decide (byteM s (b.pos + 1) = 93)) := by unfold rangeB; rw [decide_eq_true h]; rfl
theorem rpeek_lt {s : ByteArray} {b : Bs} {c : Nat} (h : peekM s b = some c) : c < 256 := by rw [(peekM_some h).2.2]; exact byteM_lt _ _
theorem wp_forget2 {Pr : Program} {Q : Exit → Act → World → Prop} {c : Code} {a : Act} {W : World} (P : World → Prop) (h : P W) (k : ∀ W', P W' → Code.wp Pr c Q a W') : Code.wp Pr c Q a W := k W h
theorem is_94 (o : Option Nat) : (((o.getD 0 : Nat) : Int) == 94) = decide (o = some 94) := by
 cases o with
 | none => rfl
 | some c =>
  by_cases h : c = 94
  ·subst h; rfl
  ·rw [decide_eq_false (by simpa using h), beq_eq_false_iff_ne]
   show (c : Int) ≠ 94
   omega
set_option maxHeartbeats 12800000 in
set_option maxRecDepth 100000 in
theorem rclass_is (w : World) (g : Nat) (s : ByteArray) (b1 : Bs) (h : RdrAt w g s b1) (hp : b1.pos ≤ s.size) (hs : s.size ≤ 1000) :
  Calls Tryz.prog 131 #[.pointer (some ⟨g, 0, none⟩)] w fun e w' => ∃ S' b', e = .returned (.agg (nodeC 0 S' nilS).toArray) ∧ RdrAt w' g s b' ∧ b'.err = (classM s b1).1.err ∧ b'.pos ≤ s.size + 1 ∧
   (b'.err = 0 → b'.pos = (classM s b1).1.pos ∧ nodeC 0 S' nilS = nodeC 0 (classM s b1).2 nilS) ∧ Kr g w w' := by
 have hc := Clr.new h 0 62
 have kf := fun W b (h : RdrAt W g s b) => rfail_is W g s b 2 h
 have KF := Lib.hid kf
 have HC0 := Lib.hid hc
 clear kf hc h
 go_enter Tryz.func131, Tryz.ntmps131
 go_upto_region 2 with (first
  | (with_reducible refine wpList_allocN rfl rfl _ rfl w.heap.size rfl ?_)
  | (with_reducible refine wpList_allocN rfl rfl _ rfl (w.heap.size + 1) (World.size_alloc _ _) ?_)
  | ((with_reducible refine wpList_buildN rfl _ rfl _ rfl (zeroN 0) ?hf ?_); (case hf => exact node_built0))
  | ((with_reducible refine wpList_storeN rfl _ _ rfl _ rfl (w.heap.size + 1) 0 (nodeC 0 noB nilS) ?hx ?hy ?ht (nodeC_len _ _ _) (oneN _ _) ?_); (case hx => rfl); (case hy => rfl); (case ht => exact (by have := there_new (w.alloc (.cells (zeroN 0) 62)) 0 62; rwa [World.size_alloc] at this))))
 refine wp_forget2 (fun W => Clr w W g s b1 (nodeC 0 noB nilS)) HC0.out (fun w1 hw1 => ?_)
 have H1 := Lib.hid hw1
 obtain ⟨o, ho⟩ : ∃ o, peekM s b1 = o := ⟨_, rfl⟩
 have k1 := next_is w1 g s b1 o ho H1.out.rdr (by omega)
 have HO := Lib.hid ho
 clear ho hw1 HC0
 go_wp2_with fail
 refine k1.mono ?_
 rintro e w2 ⟨rfl, hb⟩
 have H2 := Lib.hid (H1.out.below hb)
 clear k1 hb H1
 obtain ⟨nt, hnt⟩ : ∃ nt, decide (o = some 94) = nt := ⟨_, rfl⟩
 have hv : (((o.getD 0 : Nat) : Int) == 94) = nt := (is_94 o).trans hnt
 have HNT := Lib.hid hnt
 clear hnt
 go_upto_if 22 with fail
 clear hv
 go_cut [] from 23 (fun wx => Hid (Clr w wx g s (if nt = true then stepM b1 else b1) (nodeC 0 noB nilS)))
 case first =>
  cases nt with
  | true =>
   have c1 := H2.out.rdr.c1
   have f1 := there_free H2.out.rdr.th 1 (by omega)
   go_wp2
   go_meet
   exact Lib.hid (by rw [if_pos (by simp)]; exact H2.out.step)
  | false =>
   go_wp2
   go_meet
   exact Lib.hid (by rw [if_neg (by simp)]; exact H2.out)
 case rest =>
 obtain ⟨b0, hb0⟩ : ∃ b0, (if nt = true then stepM b1 else b1) = b0 := ⟨_, rfl⟩
 rw [hb0] at hcut
 have HX := hcut
 have hp0 : b0.pos ≤ s.size + 1 := by rw [← hb0]; split <;> (try simp only [stepM]) <;> omega
 obtain ⟨r0, hr0⟩ : ∃ r0, loopM s (s.size + 1) true b0 noS = r0 := ⟨_, rfl⟩
 have HR0 := Lib.hid hr0
 have HCM : Hid (classM s b1 = (r0.1, if nt = true then turnS r0.2 else r0.2)) := Lib.hid (by
  have h1 := HNT.out
  unfold classM
  cases nt with
  | true =>
   have h2 : o = some 94 := of_decide_eq_true h1
   rw [if_pos (HO.out.trans h2), if_pos rfl]
   rw [if_pos rfl] at hb0
   rw [hb0, hr0]
  | false =>
   have h2 : ¬ o = some 94 := of_decide_eq_false h1
   rw [if_neg (by rw [HO.out]; exact h2), if_neg (by decide)]
   rw [if_neg (by decide)] at hb0
   rw [hb0, hr0])
 clear hr0 hb0 hcut H2 HO HNT hp
 go_wp2
 go_loopw [7] (fun v wr => RLoop w g s r0 v wr) (fun _ wr => s.size + 5 - rposAt wr g)
 case atStart => exact ⟨s.size, 0, b0, noS, rfl, HR0.out, by omega, hp0, by omega, HX.out⟩
 case round =>
  clear HX HR0 hp0 b0
  obtain ⟨n, i, b, S, rfl, he, hn, hp, hip, hC⟩ := hrel
  have HE := Lib.hid he
  have HC := Lib.hid hC
  obtain ⟨o, ho⟩ : ∃ o, peekM s b = o := ⟨_, rfl⟩
  have k1 := next_is wr g s b o ho HC.out.rdr (by omega)
  have HO := Lib.hid ho
  clear he hC ho
  go_wp2_with fail
  refine k1.mono ?_
  rintro e wa ⟨rfl, hba⟩
  have HA := Lib.hid (HC.out.below hba)
  clear k1 hba
  rcases o with _ | d
  ·have kq := KF.out _ _ HA.out.rdr
   go_wp2_with fail
   refine kq.mono ?_
   rintro e w1 ⟨rfl, hB1, hs1⟩
   have H1 := Lib.hid (HA.out.stp hB1 hs1)
   clear kq hB1 hs1
   go_wp2_with (first
   | ((with_reducible refine wpList_loadN rfl _ rfl _ rfl (w.heap.size + 1) 0 ?hx (nodeC 0 S nilS) ?hc (nodeC_len _ _ _) ?_); (case hx => rfl); (case hc => exact H1.out.nd.at_))
   | ((with_reducible refine wpList_storeN rfl _ _ rfl _ rfl w.heap.size 0 (nodeC 0 S nilS) ?hx ?hy ?ht (nodeC_len _ _ _) (oneN _ _) ?_); (case hx => rfl); (case hy => rfl); (case ht => exact H1.out.res)))
   refine bodyPost_ret (results_agg1 rfl _ _ w.heap.size (nodeC 0 S nilS) (.struct _) rfl (World.rangeAt_setCells_same _ _ _ _ (by rw [nodeC_len]; exact H1.out.res)) Tryz.underlying62 rfl (by rw [nodeC_len]; exact node_size)) rfl ?_
   have he := HE.out
   rw [rloop_none HO.out] at he
   subst he
   refine ⟨S, _, rfl, (H1.out.done _).1, ?_, ?_, ?_, (H1.out.done _).2⟩
   ·rw [HCM.out]
   ·rw [failM_pos]; exact hp
   ·intro h0; exact absurd h0 (failM_err (by decide))
  ·by_cases hd : d = 93
   ·subst hd
    have c1 := HA.out.rdr.c1
    have f1 := there_free HA.out.rdr.th 1 (by omega)
    have hps := (peekM_some HO.out).2.1
    have hi0 : (((i : Nat) : Int) == 0) = decide (i = 0) := by
     by_cases h : i = 0
     ·subst h; rfl
     ·rw [decide_eq_false h, beq_eq_false_iff_ne]; omega
    obtain ⟨B, hB⟩ : ∃ B, decide (i = 0) = B := ⟨_, rfl⟩
    rw [hB] at hi0
    have HBI := Lib.hid hB
    clear hB
    go_upto_region 14 with fail
    refine wp_forget2 (fun W => Clr w W g s (stepM b) (nodeC 0 S nilS)) HA.out.step (fun w2 hw2 => ?_)
    have H2 := Lib.hid hw2
    clear hw2 c1 f1 HA HC
    go_upto_if 52 with fail
    clear hi0
    go_cut [] from 30 to 118 (fun wx => ∃ b' : Bs, b'.err = r0.1.err ∧ b'.pos ≤ s.size + 1 ∧ (b'.err = 0 → b'.pos = r0.1.pos) ∧ r0.2 = S ∧ Hid (Clr w wx g s b' (nodeC 0 S nilS)))
    case first =>
     have he := HE.out
     rw [HBI.out] at he
     cases B with
     | true =>
      rw [rloop_first HO.out] at he
      subst he
      have kq := KF.out _ _ H2.out.rdr
      go_wp2_with fail
      refine kq.mono ?_
      rintro e w3 ⟨rfl, hB3, hs3⟩
      have H3 := Lib.hid (H2.out.stp hB3 hs3)
      clear kq hB3 hs3
      go_wp2
      go_meet
      have he0 := (peekM_some HO.out).1
      refine ⟨_, ?_, ?_, ?_, by trivial, H3⟩
      ·unfold failM stepM; simp [he0]
      ·rw [failM_pos]; simp only [stepM]; omega
      ·intro h0; exact absurd h0 (failM_err (by decide))
     | false =>
      rw [rloop_end HO.out] at he
      subst he
      go_wp2
      go_meet
      exact ⟨stepM b, rfl, by simp only [stepM]; omega, fun _ => rfl, by trivial, H2⟩
    case rest =>
    obtain ⟨b', he1, he2, he3, he4, H4⟩ := hcut
    subst he4
    have HF := Lib.hid (And.intro he1 (And.intro he2 he3))
    clear he1 he2 he3 H2 HE HO HBI hps hip hp hn
    generalize r0.2 = S at *
    cases nt with
    | true =>
     go_wp2
     go_loopw [13] (fun v wr => ∃ k : Nat, v = .int .i64 (k : Nat) ∧ k ≤ 256 ∧ Hid (Clr w wr g s b' (nodeC 0 (turnU S k) nilS))) (fun v _ => 257 - (intOf v).toNat)
     case atStart => exact ⟨0, rfl, by omega, Lib.hid (by rw [turnU_zero]; exact H4.out)⟩
     case round =>
      clear H4
      obtain ⟨k, rfl, hk, HT⟩ := hrel
      by_cases hk2 : k < 256
      ·have n1 := HT.out.nd.cell (nodeC_set 0 (turnU S k) nilS k hk2)
       have f1 := HT.out.nd.free (j := 1 + k) (by omega)
       have hk0 : (0 : Int) ≤ (k : Int) := by omega
       have hk1 : (k : Int) < 256 := by omega
       go_wp2
       go_roundw
       case rel => exact ⟨k + 1, by go_num, by omega, Lib.hid (by
        have := HT.out.put (1 + k) (.bool (!(turnU S k k))) (by omega)
        rw [nodeC_setB 0 _ _ k hk2, turnU_at, turnU_succ] at this
        rw [turnU_at]
        exact this)⟩
       case measure => (simp [intOf]; try omega)
      ·obtain rfl : k = 256 := by omega
       go_wp2_with (first
   | ((with_reducible refine wpList_loadN rfl _ rfl _ rfl (w.heap.size + 1) 0 ?hx (nodeC 0 (turnU S 256) nilS) ?hc (nodeC_len _ _ _) ?_); (case hx => rfl); (case hc => exact HT.out.nd.at_))
   | ((with_reducible refine wpList_storeN rfl _ _ rfl _ rfl w.heap.size 0 (nodeC 0 (turnU S 256) nilS) ?hx ?hy ?ht (nodeC_len _ _ _) (oneN _ _) ?_); (case hx => rfl); (case hy => rfl); (case ht => exact HT.out.res)))
       refine bodyPost_ret (results_agg1 rfl _ _ w.heap.size (nodeC 0 (turnU S 256) nilS) (.struct _) rfl (World.rangeAt_setCells_same _ _ _ _ (by rw [nodeC_len]; exact HT.out.res)) Tryz.underlying62 rfl (by rw [nodeC_len]; exact node_size)) rfl ?_
       refine ⟨turnU S 256, _, rfl, (HT.out.done _).1, ?_, HF.out.2.1, ?_, (HT.out.done _).2⟩
       ·rw [HCM.out]; exact HF.out.1
       ·intro h0
        refine ⟨?_, ?_⟩
        ·rw [HCM.out]; exact HF.out.2.2 h0
        ·rw [HCM.out, if_pos (by simp)]; exact turnU_all S 0 nilS
    | false =>
     go_wp2
     go_loopw [13] (fun v wr => v = .int .i64 ((0 : Nat) : Int) ∧ Hid (Clr w wr g s b' (nodeC 0 S nilS))) (fun v _ => 0)
     case atStart => exact ⟨rfl, H4⟩
     case round =>
      clear H4
      obtain ⟨rfl, HT⟩ := hrel
      go_wp2_with (first
   | ((with_reducible refine wpList_loadN rfl _ rfl _ rfl (w.heap.size + 1) 0 ?hx (nodeC 0 S nilS) ?hc (nodeC_len _ _ _) ?_); (case hx => rfl); (case hc => exact HT.out.nd.at_))
   | ((with_reducible refine wpList_storeN rfl _ _ rfl _ rfl w.heap.size 0 (nodeC 0 S nilS) ?hx ?hy ?ht (nodeC_len _ _ _) (oneN _ _) ?_); (case hx => rfl); (case hy => rfl); (case ht => exact HT.out.res)))
      refine bodyPost_ret (results_agg1 rfl _ _ w.heap.size (nodeC 0 S nilS) (.struct _) rfl (World.rangeAt_setCells_same _ _ _ _ (by rw [nodeC_len]; exact HT.out.res)) Tryz.underlying62 rfl (by rw [nodeC_len]; exact node_size)) rfl ?_
      refine ⟨S, _, rfl, (HT.out.done _).1, ?_, HF.out.2.1, ?_, (HT.out.done _).2⟩
      ·rw [HCM.out]; exact HF.out.1
      ·intro h0
       refine ⟨?_, ?_⟩
       ·rw [HCM.out]; exact HF.out.2.2 h0
       ·rw [HCM.out, if_neg (by simp)]
   ·have hdb : ((d : Int) == 93) = false := by rw [beq_eq_false_iff_ne]; omega
    have HD := Lib.hid hd
    have hps := (peekM_some HO.out).2.1
    obtain ⟨xb, lo, hx⟩ : ∃ xb lo, signM s b = (xb, lo) := ⟨_, _, rfl⟩
    have k2 := rsign_is wa g s b HA.out.rdr (by omega)
    have hsp := signM_pos s b hps
    have hlo := signM_lt s b
    rw [hx] at k2 hsp hlo
    dsimp only at k2 hsp hlo
    have HX := Lib.hid hx
    clear hd hx
    go_wp2_with fail
    refine k2.mono ?_
    rintro e wb ⟨rfl, hBb, hsb⟩
    have HB := Lib.hid (HA.out.stp hBb hsb)
    clear k2 hBb hsb HA
    obtain ⟨o2, ho2⟩ : ∃ o2, peekM s xb = o2 := ⟨_, rfl⟩
    have k3 := next_is wb g s xb o2 ho2 HB.out.rdr (by omega)
    have HO2 := Lib.hid ho2
    clear ho2
    go_wp2_with fail
    refine k3.mono ?_
    rintro e wc ⟨rfl, hbc⟩
    have HCC := Lib.hid (HB.out.below hbc)
    clear k3 hbc HB
    go_upto_region 19 with fail
    go_cut [93] from 30 to 118 (fun v wx => v = .bool (rangeB s xb) ∧ Hid (Clr w wx g s xb (nodeC 0 S nilS)))
    case first =>
     have c0 := HCC.out.rdr.c0
     have c1 := HCC.out.rdr.c1
     rcases o2 with _ | e2
     ·simp only [Option.getD_none, Option.isSome_none]
      go_big_quiet (fail)
      go_wp2
      go_meet
      exact ⟨by rw [rrange_false (by rw [HO2.out]; simp)], Lib.hid (HCC.out.below (bl_drewN (Below.refl _ _) _))⟩
     ·simp only [Option.getD_some, Option.isSome_some]
      by_cases h45 : e2 = 45
      ·subst h45
       have hwr : IntKind.i64.wrap ((xb.pos : Int) + 1) = (xb.pos : Int) + 1 := IntWalk.i64_in _ ⟨by omega, by omega⟩
       by_cases hin : xb.pos + 1 < s.size
       ·have hi0 : (0 : Int) ≤ (xb.pos : Int) + 1 := by omega
        have hi1 : (xb.pos : Int) + 1 < (s.size : Int) := by omega
        have hnt : ((xb.pos : Int) + 1).toNat = xb.pos + 1 := by omega
        have hd1 : decide ((xb.pos : Int) + 1 < (s.size : Int)) = true := decide_eq_true hi1
        have hba := rbyte_at s (xb.pos + 1) hin
        have h9 : (((s[xb.pos + 1]'hin).toNat : Int) != 93) = !decide (byteM s (xb.pos + 1) = 93) := by
         rw [hba]
         by_cases h : byteM s (xb.pos + 1) = 93
         ·rw [h]; rfl
         ·rw [decide_eq_false h]; simp; omega
        clear hba
        go_big_quiet (fail)
        go_wp2
        go_meet
        exact ⟨by rw [rrange_at HO2.out, decide_eq_true hin, Bool.true_and], Lib.hid (HCC.out.below (bl_drewN (Below.refl _ _) _))⟩
       ·have hd1 : decide ((xb.pos : Int) + 1 < (s.size : Int)) = false := decide_eq_false (by omega)
        go_big_quiet (fail)
        go_wp2
        go_meet
        exact ⟨by rw [rrange_at HO2.out, decide_eq_false hin, Bool.false_and], Lib.hid (HCC.out.below (bl_drewN (Below.refl _ _) _))⟩
      ·have hb45 : ((e2 : Int) == 45) = false := by rw [beq_eq_false_iff_ne]; omega
       go_big_quiet (fail)
       go_wp2
       go_meet
       exact ⟨by rw [rrange_false (by rw [HO2.out]; simpa using h45)], Lib.hid (HCC.out.below (bl_drewN (Below.refl _ _) _))⟩
    case rest =>
    obtain ⟨rfl, HQ⟩ := hcut
    clear HCC HO2
    obtain ⟨R, hR⟩ : ∃ R, rangeB s xb = R := ⟨_, rfl⟩
    have HRB := Lib.hid hR
    rw [hR]
    clear hR
    go_upto_if 93 with fail
    go_cut [11] from 30 to 118 (fun v wx => ∃ (yb : Bs) (hi : Nat), v = .int .u8 (hi : Nat) ∧ hi < 256 ∧ b.pos < yb.pos ∧ yb.pos ≤ s.size + 1 ∧ Hid (rangeM s xb lo = (yb, hi)) ∧ Hid (Clr w wx g s yb (nodeC 0 S nilS)))
    case first =>
     cases R with
     | true =>
      have hin := rangeB_pos HRB.out
      have c1 := HQ.out.rdr.c1
      have f1 := there_free HQ.out.rdr.th 1 (by omega)
      go_upto_region 21 with fail
      refine wp_forget2 (fun W => Clr w W g s (stepM xb) (nodeC 0 S nilS)) HQ.out.step (fun w2 hw2 => ?_)
      have H2 := Lib.hid hw2
      clear hw2 c1 f1 HQ
      obtain ⟨yb, hi, hye⟩ : ∃ yb hi, signM s (stepM xb) = (yb, hi) := ⟨_, _, rfl⟩
      have k4 := rsign_is w2 g s (stepM xb) H2.out.rdr (by simp only [stepM]; omega)
      have hsp2 := signM_pos s (stepM xb) hin
      have hhi := signM_lt s (stepM xb)
      rw [hye] at k4 hsp2 hhi
      dsimp only at k4 hsp2 hhi
      simp only [stepM] at hsp2
      have HY := Lib.hid hye
      clear hye
      go_wp2_with fail
      refine k4.mono ?_
      rintro e wd ⟨rfl, hBd, hsd⟩
      have HDD := Lib.hid (H2.out.stp hBd hsd)
      clear k4 hBd hsd H2
      go_wp2
      go_meet
      exact ⟨yb, hi, rfl, hhi, by omega, hsp2.2, Lib.hid (by unfold rangeM; rw [if_pos HRB.out]; exact HY.out), HDD⟩
     | false =>
      go_wp2
      go_meet
      exact ⟨xb, lo, rfl, hlo, hsp.1, hsp.2, Lib.hid (by unfold rangeM; rw [if_neg (by rw [HRB.out]; decide)]), HQ⟩
    case rest =>
    obtain ⟨yb, hi, rfl, hhi, hyp1, hyp2, HY, HDD⟩ := hcut
    clear HQ HRB
    obtain ⟨B, hB⟩ : ∃ B, decide ((hi : Int) < (lo : Int)) = B := ⟨_, rfl⟩
    go_upto_if 105 with fail
    go_cut [] from 30 to 118 (fun wx => Hid (Clr w wx g s (if hi < lo then failM yb 2 else yb) (nodeC 0 S nilS)))
    case first =>
     cases B with
     | true =>
      have hlt : hi < lo := by have := of_decide_eq_true hB; omega
      have kq := KF.out _ _ HDD.out.rdr
      go_wp2_with fail
      refine kq.mono ?_
      rintro e w3 ⟨rfl, hB3, hs3⟩
      have H3 := Lib.hid (HDD.out.stp hB3 hs3)
      clear kq hB3 hs3
      go_wp2
      go_meet
      exact Lib.hid (by rw [if_pos hlt]; exact H3.out)
     | false =>
      have hlt : ¬ hi < lo := by have := of_decide_eq_false hB; omega
      go_wp2
      go_meet
      exact Lib.hid (by rw [if_neg hlt]; exact HDD.out)
    case rest =>
    clear hB HDD
    obtain ⟨zb, hz⟩ : ∃ zb, (if hi < lo then failM yb 2 else yb) = zb := ⟨_, rfl⟩
    rw [hz] at hcut
    have hzp : zb.pos = yb.pos := by rw [← hz]; split <;> simp only [failM_pos]
    have HZ := Lib.hid hz
    have HG := hcut
    clear hz hcut
    go_wp2
    go_loopw [12] (fun v wr => ∃ k : Nat, v = .int .i64 (k : Nat) ∧ lo ≤ k ∧ (k ≤ hi + 1 ∨ k = lo) ∧ Hid (Clr w wr g s zb (nodeC 0 (addU S lo k) nilS))) (fun v _ => 257 - (intOf v).toNat)
    case atStart => exact ⟨lo, rfl, Nat.le_refl _, .inr rfl, Lib.hid (by rw [addU_start]; exact HG.out)⟩
    case round =>
     clear HG
     obtain ⟨k, rfl, hk1, hk2, HT⟩ := hrel
     by_cases hk : k ≤ hi
     ·have hk256 : k < 256 := by omega
      have n1 := HT.out.nd.cell (nodeC_set 0 (addU S lo k) nilS k hk256)
      have f1 := HT.out.nd.free (j := 1 + k) (by omega)
      have hkh : (k : Int) ≤ (hi : Int) := by omega
      have hki0 : (0 : Int) ≤ (k : Int) := by omega
      have hki1 : (k : Int) < 256 := by omega
      go_wp2
      go_roundw
      case rel => exact ⟨k + 1, by go_num, by omega, by omega, Lib.hid (by
       have := HT.out.put (1 + k) (.bool true) (by omega)
       rw [nodeC_setB 0 _ _ k hk256, addU_succ hk1] at this
       exact this)⟩
      case measure => (simp [intOf]; try omega)
     ·have hkh : ¬ (k : Int) ≤ (hi : Int) := by omega
      have hkh2 : (hi : Int) < (k : Int) := by omega
      go_wp2
      go_roundw
      case rel =>
       refine ⟨n - 1, i + 1, zb, addS S lo hi, by go_num, ?_, by omega, by omega, by omega, ?_⟩
       ·have he := HE.out
        rw [rloop_on HO.out HD.out HX.out HY.out] at he
        dsimp only at he
        rw [HZ.out] at he
        have hn1 : n - 1 + 1 = n := by omega
        rw [hn1]
        exact he
       ·rw [← addU_end (show hi < k by omega) hk2]; exact HT.out
      case measure =>
       rw [HT.out.rdr.posAt, HC.out.rdr.posAt]
       omega
end Go.Proofs.YtgbapkechngnmaaGreat
/- The reference's tree: kids under way; what a function of the reader gives back. -/
namespace Go.Proofs.YtgbapkechngnmaaGreat
open Go.RowKit

structure Un (w0 w : World) (kv : Value) (md : Nat) (l : List (List Value)) (a : Re) (ok : Prop) : Prop where
 own : w.ownsRow (w0.heap.size + 2) 62 258 kv l.length l.flatten
 each : ∀ x ∈ l, x.length = 258 ∧ ∀ y ∈ x, y.oneCell' = true
 tree : ok → NA w (fun q => w0.heap.size + 2 ≤ q ∧ q < w.heap.size ∧ kv.ownBlock ≠ some q) md l a
theorem ownsRow_keep {w w' : World} {base : Nat} {e : TypeId} {size n : Nat} {v : Value} {xs : List Value} (h : w.ownsRow base e size v n xs) (hk : ∀ q, v.ownBlock = some q → w'.heap[q]? = w.heap[q]?) : w'.ownsRow base e size v n xs := by
 obtain ⟨h1, h2 | ⟨g, cap, cur, rfl, hb, hg, hr⟩⟩ := h
 ·exact ⟨h1, .inl h2⟩
 ·exact ⟨h1, .inr ⟨g, cap, cur, rfl, hb, (hk g rfl).trans hg, hr⟩⟩
theorem ownsRow_at {w : World} {base : Nat} {e : TypeId} {size n : Nat} {v : Value} {xs : List Value} (h : w.ownsRow base e size v n xs) : ∀ q, v.ownBlock = some q → base ≤ q ∧ q < w.heap.size := by
 obtain ⟨h1, ⟨rfl, _⟩ | ⟨g, cap, cur, rfl, hb, hg, hr⟩⟩ := h
 ·intro q hq; cases hq
 ·intro q hq
  cases hq
  exact ⟨hb, (Array.getElem?_eq_some_iff.1 hg).1⟩
theorem ownsRow_one {w : World} {base : Nat} {e : TypeId} {size n : Nat} {v : Value} {xs : List Value} (h : w.ownsRow base e size v n xs) : v.oneCell' = true := by
 obtain ⟨h1, ⟨rfl, _⟩ | ⟨g, cap, cur, rfl, hb, hg, hr⟩⟩ := h <;> rfl
theorem Un.nil (w0 w : World) {md : Nat} {a : Re} (h : ∀ P, NA w P md [] a) (ok : Prop) : Un w0 w nilS md [] a ok := ⟨World.ownsRow_nil _ _ _ _, fun x hx => (by cases hx), fun _ => h _⟩
theorem Un.keep {w0 w w' : World} {kv : Value} {md : Nat} {l : List (List Value)} {a : Re} {ok : Prop} (h : Un w0 w kv md l a ok) (hs : w.heap.size ≤ w'.heap.size) (hk : ∀ q, w0.heap.size + 2 ≤ q → q < w.heap.size → w'.heap[q]? = w.heap[q]?) : Un w0 w' kv md l a ok :=
 ⟨ownsRow_keep h.own fun q hq => (let ⟨h1, h2⟩ := ownsRow_at h.own q hq; hk q h1 h2), h.each, fun o => ((h.tree o).keep hs fun q hq hlt => hk q hq.1 hlt).mono fun _ hq => ⟨hq.1, Nat.lt_of_lt_of_le hq.2.1 hs, hq.2.2⟩⟩
theorem Un.kr {g : Nat} {w0 w w' : World} {kv : Value} {md : Nat} {l : List (List Value)} {a : Re} {ok : Prop} (h : Un w0 w kv md l a ok) (hk : Kr g w w') (hg : g < w0.heap.size) : Un w0 w' kv md l a ok :=
 h.keep hk.size fun q h1 h2 => hk.block q h2 (by omega)
theorem Un.below {w0 w w' : World} {kv : Value} {md : Nat} {l : List (List Value)} {a : Re} {ok : Prop} (h : Un w0 w kv md l a ok) (hb : Below w.heap.size w w') : Un w0 w' kv md l a ok :=
 h.keep hb.size fun q _ h2 => hb.block q h2
theorem Un.put {w0 w : World} {kv : Value} {md : Nat} {l : List (List Value)} {a : Re} {ok : Prop} (h : Un w0 w kv md l a ok) (p i : Nat) (v : Value) (hp : p < w0.heap.size + 2) : Un w0 (w.setCell ⟨p, i, none⟩ v) kv md l a ok :=
 h.keep (by simp) fun q h1 _ => Below.heap_setCell w ⟨p, i, none⟩ v q (by show q ≠ p; omega)
theorem Un.puts {w0 w : World} {kv : Value} {md : Nat} {l : List (List Value)} {a : Re} {ok : Prop} (h : Un w0 w kv md l a ok) (p i : Nat) (vs : List Value) (hp : p < w0.heap.size + 2) : Un w0 (w.setCells p i vs) kv md l a ok :=
 h.keep (by rw [size_setCells]; exact Nat.le_refl _) fun q h1 _ => heap_setCells w p q (by omega) vs i
theorem Un.kids {w0 w : World} {kv : Value} {md : Nat} {l : List (List Value)} {a : Re} {ok : Prop} (h : Un w0 w kv md l a ok) (hl : l.length ≤ 1000000) : KidsAt w (fun q => w0.heap.size ≤ q ∧ q < w.heap.size) kv l :=
 ⟨RdAt.own h.own, fun x hx => (h.each x hx).1, fun q hq => (let ⟨h1, h2⟩ := ownsRow_at h.own q hq; ⟨by omega, h2⟩), hl⟩
theorem Un.all {w0 w : World} {kv : Value} {md : Nat} {l : List (List Value)} {a : Re} {ok : Prop} (h : Un w0 w kv md l a ok) (o : ok) : NA w (fun q => w0.heap.size ≤ q ∧ q < w.heap.size) md l a :=
 (h.tree o).mono fun q hq => ⟨by omega, hq.2.1⟩
theorem Un.app {w0 w w' : World} {kv kv' : Value} {md : Nat} {l : List (List Value)} {a b c : Re} {ok ok' : Prop} {cs : List Value} (h : Un w0 w kv md l a ok) (hown : w'.ownsRow (w0.heap.size + 2) 62 258 kv' (l.length + 1) (l.flatten ++ cs))
  (hg : w.grownBy w' kv.ownBlock) (ho : kv'.ownBlock = kv.ownBlock ∨ kv'.ownBlock = some w.heap.size) (hcs : cs.length = 258 ∧ ∀ y ∈ cs, y.oneCell' = true) (hk : ok' → ok)
  (ht : ok' → NA w (fun q => w0.heap.size + 2 ≤ q ∧ q < w.heap.size ∧ kv.ownBlock ≠ some q) 0 [cs] b) (hf : ∀ (W : World) (P : Nat → Prop), NA W P md l a → NA W P 0 [cs] b → NA W P md (l ++ [cs]) c) : Un w0 w' kv' md (l ++ [cs]) c ok' := by
 have hsz : w.heap.size ≤ w'.heap.size := hg.size
 have hkeep : ∀ q, (w0.heap.size + 2 ≤ q ∧ q < w.heap.size ∧ kv.ownBlock ≠ some q) → q < w.heap.size → w'.heap[q]? = w.heap[q]? := fun q hq hlt => hg.block q hlt (fun e => hq.2.2 e.symm)
 refine ⟨by rw [List.length_append, List.flatten_append, List.flatten_singleton]; exact hown, fun x hx => ?_, fun o => ?_⟩
 ·rcases List.mem_append.1 hx with hx | hx
  ·exact h.each x hx
  ·rw [List.mem_singleton.1 hx]; exact hcs
 ·refine NA.mono (hf w' _ ((h.tree (hk o)).keep hsz hkeep) ((ht o).keep hsz hkeep)) ?_
  rintro q ⟨h1, h2, h3⟩
  refine ⟨h1, by omega, fun e => ?_⟩
  rcases ho with ho | ho
  ·rw [ho] at e; exact h3 e
  ·rw [ho] at e; cases e; omega
theorem RdrAt.congr {w : World} {g : Nat} {s : ByteArray} {b c : Bs} (h : RdrAt w g s b) (hp : b.pos = c.pos) (he : b.err = c.err) : RdrAt w g s c := ⟨h.c0, by rw [← hp]; exact h.c1, by rw [← he]; exact h.c2, h.th, h.lt⟩
theorem Clr.congr {w0 w : World} {g : Nat} {s : ByteArray} {b c : Bs} {cs : List Value} (h : Clr w0 w g s b cs) (hp : b.pos = c.pos) (he : b.err = c.err) : Clr w0 w g s c cs := ⟨h.rdr.congr hp he, h.nd, h.res, h.kr, h.gl⟩
theorem peek_congr {s : ByteArray} {b c : Bs} (he : b.err = c.err) (hp : b.err = 0 → b.pos = c.pos) : peekM s b = peekM s c := by
 unfold peekM
 by_cases h : b.err = 0
 ·have h2 := hp h
  rw [he, h2]
 ·rw [if_neg (fun x => h x.1), if_neg (fun x => h (he.trans x.1))]
theorem Clr.grown {w0 w w' : World} {g : Nat} {s : ByteArray} {b : Bs} {cs : List Value} {row : Option Nat} (h : Clr w0 w g s b cs) (hg : w.grownBy w' row) (hr : ∀ q, row = some q → w0.heap.size + 2 ≤ q) : Clr w0 w' g s b cs := by
 have hk : ∀ k, k < w.heap.size → k < w0.heap.size + 2 → w'.heap[k]? = w.heap[k]? := fun k hk hk2 => hg.block k hk (fun e => by have := hr k e.symm; omega)
 have hsz : w.heap.size ≤ w'.heap.size := hg.size
 have hlt := h.nd.lt
 have hgl := h.gl
 exact ⟨h.rdr.kept hsz (hk g h.rdr.lt (by omega)), h.nd.keep hsz (hk _ hlt (by omega)), there_kept h.res (hk _ (by omega) (by omega)), Keep.grown h.kr hg (fun k e => .inr (by have := hr k e; omega)), h.gl⟩
theorem Un.ok {w0 w : World} {kv : Value} {md : Nat} {l : List (List Value)} {a : Re} {ok ok' : Prop} (h : Un w0 w kv md l a ok) (o : ok' → ok) : Un w0 w kv md l a ok' := ⟨h.own, h.each, fun x => h.tree (o x)⟩
structure Back (w w' : World) (g : Nat) (s : ByteArray) (d : Nat) (r : Bs × (Nat × Nat)) (a : Re) (cs : List Value) (b' : Bs) : Prop where
 len : cs.length = 258
 one : ∀ y ∈ cs, y.oneCell' = true
 rdr : RdrAt w' g s b'
 err : b'.err = r.1.err
 pos : b'.pos ≤ s.size + 12 - d
 tree : b'.err = 0 → b'.pos = r.1.pos ∧ NA w' (fun q => w.heap.size ≤ q ∧ q < w'.heap.size) 0 [cs] a
 kr : Kr g w w'
def NdK (f : FuncId) (md : Md) (n : Nat) : Prop := ∀ (m : Nat), m ≤ n → ∀ (w : World) (g : Nat) (s : ByteArray) (d : Nat) (b : Bs), RdrAt w g s b → b.err = 0 → d ≤ 8 → b.pos ≤ s.size + 12 - d → (md = .atom → b.pos < s.size ∧ byteM s b.pos ≠ 124 ∧ byteM s b.pos ≠ 41) → s.size ≤ 100 → fuelM s b md ≤ m →
 Calls Tryz.prog f #[.pointer (some ⟨g, 0, none⟩), .int .i64 (d : Nat)] w fun e w' => ∃ cs b', e = .returned (.agg cs.toArray) ∧ Back w w' g s d (runM s m md d b) (reM s m md .no d b) cs b'
theorem fill_node (cs : List Value) (hl : cs.length = 258) (z : Array Value) (hz : z.size = 258) : Instr.fill (fun i => some (i * 258, 258)) z [(0, .agg cs.toArray)] = some cs.toArray := by
 obtain ⟨r, hr, hsz, hk⟩ := Great.fill_dense (s := 258) (by decide) [.agg cs.toArray] 0 z (fun v hv => by rw [List.mem_singleton.1 hv]; show cs.toArray.size = 258; simpa using hl) (by simp [hz])
 have e : r = cs.toArray := by
  apply Array.ext_getElem?
  intro k
  rw [hk k]
  by_cases h : k < 258
  ·rw [if_pos ⟨by omega, by simpa using h⟩, show k / 258 - 0 = 0 by omega, Nat.mod_eq_of_lt h]
   rfl
  ·rw [if_neg (by simp; omega), Array.getElem?_eq_none (by omega), Array.getElem?_eq_none (by simp; omega)]
 rw [e] at hr
 exact hr
theorem fill_one (a : Act) (x : Operand) (cs : List Value) (hl : cs.length = 258) (hx : a.eval x = .agg cs.toArray) : Instr.fill (fun i => some (i * 258, 258)) ((Array.range (1 * 258)).map ((Value.agg (zeroN 0)).cells[· % (Value.agg (zeroN 0)).cells.size]!)) ((#[(0, x)] : Array (Nat × Operand)).map fun (i, x) => (i, a.eval x)).toList = some cs.toArray := by
 simp only [List.map_toArray, List.map_cons, List.map_nil, hx]
 exact fill_node cs hl _ (by rw [Array.size_map, Array.size_range])
theorem built_kids (a : Act) (x y : Operand) (k : Int) (ad : Option Addr) (n c : Nat) (hx : a.eval x = .int .i64 k) (hy : a.eval y = .slice ad n c) : Tryz.prog.built 62 ((#[(0, x), (2, y)] : Array (Nat × Operand)).map fun (i, x) => (i, a.eval x)).toList = some (nodeC k noB (.slice ad n c)).toArray := by
 simp only [List.map_toArray, List.map_cons, List.map_nil, hx, hy]
 exact node_built3 k ad n c
theorem info_node : (Tryz.prog.info? 62).map (fun i => (i.zero, i.size, i.bytes)) = some (some (.agg (zeroN 0)), 258, 288) := node_zero
theorem rd_node {w : World} {cs : List Value} (hl : cs.length = 258) (t : TypeId) : RdAt (w.alloc (.cells cs.toArray t)) (.slice (some ⟨w.heap.size, 0, none⟩) 1 1) 1 258 cs := by
 refine ⟨by rw [hl], .inr ⟨_, 1, rfl, Nat.le_refl _, fun _ => ⟨w.heap.size, 0, rfl, by rw [World.size_alloc]; omega, fun j x hx => ?_⟩⟩⟩
 rw [Nat.zero_add]
 exact (box_cells (Below.refl _ (w.alloc (.cells cs.toArray t)))).1 j x (by simpa using hx)
end Go.Proofs.YtgbapkechngnmaaGreat
/- The reference's either: a contract (with row's for less fuel). -/
namespace Go.Proofs.YtgbapkechngnmaaGreat
open Go.RowKit

def ELoop (w0 : World) (g : Nat) (s : ByteArray) (d N : Nat) (r : Bs × (Nat × Nat)) (a : Re) (w : World) : Prop :=
 ∃ (m : Nat) (b : Bs) (p : Nat × Nat) (l : List (List Value)) (acc : Re) (kv : Value), m ≤ N ∧ b.err = 0 ∧ b.pos ≤ s.size + 12 - d ∧ fuelM s b (.alts p) ≤ m ∧ l.length ≤ b.pos ∧
  Hid (runM s m (.alts p) d b = r) ∧ Hid (reM s m (.alts p) acc d b = a) ∧ Hid (Clr w0 w g s b (nodeC 1 noB kv)) ∧ Hid (Un w0 w kv 1 l acc True)
set_option maxHeartbeats 12800000 in
set_option maxRecDepth 100000 in
theorem either_is (n : Nat) (hrow : NdK 89 .row n) : NdK 68 .either (n + 1) := by
 intro m hm w g s d b h he hd hp _ hs hf
 simp only [fuelM] at hf
 obtain ⟨m, rfl⟩ : ∃ m', m = m' + 2 := ⟨m - 2, by omega⟩
 obtain ⟨r, hr⟩ : ∃ r, runM s (m + 1) (.alts (b.sts.length, b.sts.length + 1)) d (nodeM (nodeM b)) = r := ⟨_, rfl⟩
 obtain ⟨a, ha⟩ : ∃ a, reM s (m + 1) (.alts (b.sts.length, b.sts.length + 1)) .no d (nodeM (nodeM b)) = a := ⟨_, rfl⟩
 have e1 : runM s (m + 2) .either d b = r := by rw [runM]; exact hr
 have e2 : reM s (m + 2) .either .no d b = a := by rw [reM]; exact ha
 rw [e1, e2]
 have HR0 := Lib.hid hr
 have HA0 := Lib.hid ha
 obtain ⟨b0, hb0⟩ : ∃ b0, nodeM (nodeM b) = b0 := ⟨_, rfl⟩
 have hbp : b0.pos = b.pos := by rw [← hb0]; rfl
 have hbe : b0.err = 0 := by rw [← hb0]; exact he
 have h0 : RdrAt w g s b0 := h.congr hbp.symm (by rw [hbe]; exact he)
 rw [hb0] at HR0 HA0
 have hc := Clr.new h0 1 62
 have HC0 := Lib.hid hc
 have HROW := Lib.hid hrow
 obtain ⟨i0, hi, hz0, hz1, hz2⟩ := info_parts info_node
 clear hrow hr ha e1 e2 hb0 hc h h0
 go_enter Tryz.func68, Tryz.ntmps68
 go_wp2_with (first
  | (with_reducible refine wpList_allocN rfl rfl _ rfl w.heap.size rfl ?_)
  | (with_reducible refine wpList_allocN rfl rfl _ rfl (w.heap.size + 1) (World.size_alloc _ _) ?_)
  | ((with_reducible refine wpList_buildN rfl _ rfl _ rfl (zeroN 1) ?hf ?_); (case hf => exact node_built1))
  | ((with_reducible refine wpList_storeN rfl _ _ rfl _ rfl (w.heap.size + 1) 0 (nodeC 1 noB nilS) ?hx ?hy ?ht (nodeC_len _ _ _) (oneN _ _) ?_); (case hx => rfl); (case hy => rfl); (case ht => exact (by have := there_new (w.alloc (.cells (zeroN 0) 62)) 0 62; rwa [World.size_alloc] at this))))
 refine wp_forget2 (fun W => Clr w W g s b0 (nodeC 1 noB nilS)) HC0.out (fun w1 hw1 => ?_)
 have H1 := Lib.hid hw1
 clear hw1 HC0
 simp only [Act.put, List.setIfInBounds_toArray, List.set_cons_zero, List.set_cons_succ]
 go_loopw [] (fun wr => ELoop w g s d (m + 1) r a wr) (fun wr => s.size + 15 - rposAt wr g)
 case atStart => exact ⟨m + 1, b0, _, [], .no, nilS, Nat.le_refl _, hbe, by omega, by simp only [fuelM]; omega, by simp, HR0, HA0, H1, Lib.hid (Un.nil w w1 (fun P => .a0) True)⟩
 case round =>
  clear H1 HR0 HA0 hbp hbe b0
  obtain ⟨k, b, p, l, acc, kv, hk, he, hp, hf, hl, HR, HA, HC, HU⟩ := hrel
  simp only [fuelM] at hf
  obtain ⟨k, rfl⟩ : ∃ k', k = k' + 1 := ⟨k - 1, by omega⟩
  have ok := runM_ok s k .row d b hd hp (fun h => by cases h) trivial (by simp only [fuelM]; omega)
  obtain ⟨g1, _, _, q3, _⟩ := ok
  have hgp := g1.pos
  clear g1
  have HR' := HR.out
  have HA' := HA.out
  rw [runM] at HR'
  rw [reM] at HA'
  (try dsimp only at HR' HA')
  have hkr := fun W (h : RdrAt W g s b) => HROW.out k (by omega) W g s d b h he hd hp (fun h => by cases h) hs (by simp only [fuelM]; omega)
  obtain ⟨rr, hrr⟩ : ∃ rr, runM s k .row d b = rr := ⟨_, rfl⟩
  obtain ⟨ra, hra⟩ : ∃ ra, reM s k .row .no d b = ra := ⟨_, rfl⟩
  rw [hrr] at HR' HA' hkr q3 hgp
  rw [hra] at HA' hkr
  obtain ⟨b2, hb2⟩ : ∃ b2, freeM (freeM rr.1 p.1 rr.2.1) rr.2.2 p.2 = b2 := ⟨_, rfl⟩
  have hp2 : b2.pos = rr.1.pos := by rw [← hb2]; rfl
  have he2 : b2.err = rr.1.err := by rw [← hb2]; rfl
  rw [hb2] at HR' HA'
  have HR1 := Lib.hid HR'
  have HA1 := Lib.hid HA'
  have KR := Lib.hid hkr
  clear HR' HA' hrr hra hb2 hkr HR HA
  have hl60 : l.length ≤ 200 := by omega
  have hRP : Hid (rposAt wr g = b.pos) := Lib.hid HC.out.rdr.posAt
  go_upto_region 2 with fail
  refine wp_region_heldS 8 (S := (fun W => W.cell? ⟨w.heap.size + 1, 257, none⟩ = some kv)) (by kernel_rfl) (HC.out.nd.cell (nodeC_kids _ _ _)) (fun hHeld => ?_)
  refine heldS_take (i := 0) (v := ?_) rfl rfl (by kernel_rfl) (by kernel_rfl) (by kernel_rfl) (by kernel_rfl) (by kernel_rfl) (fun _ _ _ h => h) (by rfl) hHeld ?_ ?_
  rotate_left
  ·rintro wh hS
   go_simp
   (try with_reducible rfl)
  simp only [Act.put, List.setIfInBounds_toArray, List.set_cons_zero, List.set_cons_succ]
  refine heldS_take (i := 1) (v := ?_) rfl rfl (by kernel_rfl) (by kernel_rfl) (by kernel_rfl) (by kernel_rfl) (by kernel_rfl) (fun _ _ _ h => h) (by rfl) hHeld ?_ ?_
  rotate_left
  ·rintro wh hS
   go_simp
   (try with_reducible rfl)
  simp only [Act.put, List.setIfInBounds_toArray, List.set_cons_zero, List.set_cons_succ]
  refine heldS_take (i := 2) (v := ?_) rfl rfl (by kernel_rfl) (by kernel_rfl) (by kernel_rfl) (by kernel_rfl) (by kernel_rfl) (fun _ _ _ h => h) (by rfl) hHeld ?_ ?_
  rotate_left
  ·rintro wh hS
   go_simp
   (try with_reducible rfl)
  simp only [Act.put, List.setIfInBounds_toArray, List.set_cons_zero, List.set_cons_succ]
  refine heldS_take (i := 3) (v := ?_) rfl rfl (by kernel_rfl) (by kernel_rfl) (by kernel_rfl) (by kernel_rfl) (by kernel_rfl) (fun _ _ _ h => h) (by rfl) hHeld ?_ ?_
  rotate_left
  ·rintro wh hS
   go_simp
   (try with_reducible rfl)
  simp only [Act.put, List.setIfInBounds_toArray, List.set_cons_zero, List.set_cons_succ]
  refine heldS_step (i := 4) rfl (by kernel_rfl) (fun K hK => ?_)
  go_simp; refine (KR.out _ (HC.out.below (Below.refl _ _).drew).rdr).mono ?_; rintro e w4 ⟨cs, b', rfl, hbk⟩; have hc4 := (HC.out.below (Below.refl _ _).drew).stp hbk.rdr hbk.kr; have hu4 := (HU.out.below (Below.refl _ _).drew).kr hbk.kr HC.out.gl; have HBK := Lib.hid hbk; have HC4 := Lib.hid hc4; have HU4 := Lib.hid hu4; clear hbk hc4 hu4
  refine hK.out _ _ (HC4.out.nd.cell (nodeC_kids _ _ _)) (fun hHeld => ?_)
  clear hK K
  (try simp only [Act.put, List.setIfInBounds_toArray])
  have h5 := HC4.out.below (alloc_below w4 (.cells cs.toArray 62))
  refine heldS_step (i := 5) rfl (by kernel_rfl) (fun K hK => ?_)
  rw [if_pos (by rfl)]; refine wp_buildSlice 60 62 1 _ rfl cs.toArray i0 (.agg (zeroN 0)) Tryz.underlying60 hi hz0 (by rw [hz1]; decide) (by rw [hz1]; decide) (by rw [hz1]; exact fill_one _ _ cs HBK.out.len rfl) ?_
  refine hK.out _ _ (h5.nd.cell (nodeC_kids _ _ _)) (fun hHeld => ?_)
  clear hK K
  (try simp only [Act.put, List.setIfInBounds_toArray])
  have HC5 := Lib.hid h5
  have HU5 := Lib.hid (HU4.out.below (alloc_below w4 (.cells cs.toArray 62)))
  have HRD := Lib.hid (rd_node (w := w4) HBK.out.len 62)
  have HT5 : Hid (b'.err = 0 → NA (w4.alloc (.cells cs.toArray 62)) (fun q => w.heap.size + 2 ≤ q ∧ q < (w4.alloc (.cells cs.toArray 62)).heap.size ∧ kv.ownBlock ≠ some q) 0 [cs] ra) := Lib.hid (fun h0 => (((HBK.out.tree h0).2).later (alloc_below w4 (.cells cs.toArray 62))).mono (by
   rintro q ⟨h1, h2⟩
   have hlt := HC.out.nd.lt
   have h1 : wr.heap.size ≤ q := h1
   refine ⟨by omega, by rw [World.size_alloc]; omega, fun e => ?_⟩
   have := (ownsRow_at HU.out.own q e).2
   omega))
  have HB5 : Hid (w.heap.size + 2 ≤ (w4.alloc (.cells cs.toArray 62)).heap.size) := Lib.hid (by have := HC5.out.nd.lt; omega)
  clear h5
  generalize (w4.alloc (.cells cs.toArray 62)) = w5 at *
  refine heldS_step (i := 6) rfl (by kernel_rfl) (fun K hK => ?_)
  refine step_append_rd rfl (.tmp 10) (.tmp 14) 60 rfl (w.heap.size + 2) 62 i0 (.agg (zeroN 0)) 258 288 Tryz.underlying60 hi hz0 hz1 hz2 (zeroN_size 0) (by decide) kv l.length l.flatten rfl HU5.out.own _ 1 cs rfl HRD.out HBK.out.one (by unfold maxLen; omega) (by omega) HB5.out ?_; intro kv' w6 hown hgrow hor; obtain ⟨ka, kc, rfl, -, -⟩ := RdAt.shape (RdAt.own hown); have hc6 := HC5.out.grown hgrow (fun q hq => (ownsRow_at HU5.out.own q hq).1); have f6 := hc6.nd.free (j := 257) (by omega); have HC6 := Lib.hid hc6; clear hc6; have HOWN := Lib.hid hown; have HGROW := Lib.hid hgrow; have HOR := Lib.hid hor; clear hown hgrow hor
  refine hK.out _ _ (HC6.out.nd.cell (nodeC_kids _ _ _)) (fun hHeld => ?_)
  clear hK K
  (try simp only [Act.put])
  refine heldS_step (i := 7) rfl (by kernel_rfl) (fun K hK => ?_)
  go_simp
  refine hK.out _ _ (HC6.out.nd.cell (nodeC_kids _ _ _)) (fun hHeld => ?_)
  clear hK K
  (try simp only [Act.put, List.setIfInBounds_toArray])
  refine heldS_last (i := 8) rfl (by kernel_rfl) (by kernel_rfl) (fun K hK => ?_)
  go_simp
  refine hK.out _ _ ?_
  clear hK K
  (try simp only [Act.put, List.setIfInBounds_toArray])
  refine wpAnyEnd_done (by kernel_rfl) ?_ _
  go_upto_region 3 with fail
  refine wp_forget2 (fun W => Clr w W g s b' (nodeC 1 noB (.slice ka (l.length + 1) kc)) ∧ Un w W (.slice ka (l.length + 1) kc) 1 (l ++ [cs]) (.alt acc ra) (b'.err = 0)) ⟨by
    have := HC6.out.put 257 (.slice ka (l.length + 1) kc) (by omega)
    rwa [nodeC_setK] at this, (HU5.out.app HOWN.out HGROW.out HOR.out ⟨HBK.out.len, HBK.out.one⟩ (fun _ => trivial) HT5.out (fun W P h1 h2 => .a1 h1 h2)).put _ _ _ (by omega)⟩ (fun w7 hw7 => ?_)
  have HC7 := Lib.hid hw7.1
  have HU7 := Lib.hid hw7.2
  clear hw7 HOWN HGROW HOR HC6 HU5 HC5 HT5 HB5 HRD HC HU HC4 HU4 KR f6 hHeld
  have hpk := peek_congr (s := s) (b := b') (c := b2) (HBK.out.err.trans he2.symm) (fun h0 => ((HBK.out.tree h0).1).trans hp2.symm)
  have hbp := HBK.out.pos
  have HPE : Hid (b'.err = b2.err ∧ (b'.err = 0 → b'.pos = b2.pos)) := Lib.hid ⟨HBK.out.err.trans he2.symm, fun h0 => ((HBK.out.tree h0).1).trans hp2.symm⟩
  obtain ⟨o, ho⟩ : ∃ o, peekM s b' = o := ⟨_, rfl⟩
  have k1 := next_is w7 g s b' o ho HC7.out.rdr (by omega)
  have HPK := Lib.hid (hpk.symm.trans ho)
  have HO := Lib.hid ho
  clear hpk ho HBK
  go_wp2_with fail
  refine k1.mono ?_
  rintro e w8 ⟨rfl, hb8⟩
  have HC8 := Lib.hid (HC7.out.below hb8)
  have HU8 := Lib.hid (HU7.out.below hb8)
  clear k1 hb8 HC7 HU7
  have HEND : Hid (peekM s b2 ≠ some 124 → ∃ cs' b'', Value.agg (nodeC 1 noB (.slice ka (l.length + 1) kc)).toArray = .agg cs'.toArray ∧ Back w (w8.setCells w.heap.size 0 (nodeC 1 noB (.slice ka (l.length + 1) kc))) g s d r a cs' b'') := Lib.hid (fun hne => by
   have h1 := HR1.out
   have h2 := HA1.out
   rw [if_neg hne] at h1 h2
   subst h1 h2
   have hu := HU8.out.puts w.heap.size 0 (nodeC 1 noB (.slice ka (l.length + 1) kc)) (by omega)
   exact ⟨_, b', rfl, nodeC_len _ _ _, nodeC_one _ _ _ (ownsRow_one hu.own), (HC8.out.done _).1, HPE.out.1, hbp, fun h0 => ⟨HPE.out.2 h0, .alts (hu.all h0) (hu.kids (by rw [List.length_append, List.length_singleton]; omega))⟩, (HC8.out.done _).2⟩)
  have HONE : Hid (∀ y ∈ nodeC 1 noB (.slice ka (l.length + 1) kc), y.oneCell' = true) := Lib.hid (nodeC_one _ _ _ (ownsRow_one HU8.out.own))
  rcases o with _ | c
  ·go_wp2_with (first
   | ((with_reducible refine wpList_loadN rfl _ rfl _ rfl (w.heap.size + 1) 0 ?hx (nodeC 1 noB (.slice ka (l.length + 1) kc)) ?hc (nodeC_len _ _ _) ?_); (case hx => rfl); (case hc => exact HC8.out.nd.at_))
   | ((with_reducible refine wpList_storeN rfl _ _ rfl _ rfl w.heap.size 0 (nodeC 1 noB (.slice ka (l.length + 1) kc)) ?hx ?hy ?ht (nodeC_len _ _ _) HONE.out ?_); (case hx => rfl); (case hy => rfl); (case ht => exact HC8.out.res)))
   refine bodyPost_ret (results_agg1 rfl _ _ w.heap.size (nodeC 1 noB (.slice ka (l.length + 1) kc)) (.struct _) rfl (World.rangeAt_setCells_same _ _ _ _ (by rw [nodeC_len]; exact HC8.out.res)) Tryz.underlying62 rfl (by rw [nodeC_len]; exact node_size)) rfl ?_
   obtain ⟨cs', b'', e1, e2⟩ := HEND.out (by rw [HPK.out]; simp)
   exact ⟨cs', b'', by rw [e1], e2⟩
  ·by_cases hc : c = 124
   ·subst hc
    have c1 := HC8.out.rdr.c1
    have f1 := there_free HC8.out.rdr.th 1 (by omega)
    obtain ⟨hb0, hbs, -⟩ := peekM_some HO.out
    have hq1 : b'.pos ≤ b2.pos := Nat.le_of_eq (HPE.out.2 hb0)
    have hq2 : b2.pos ≤ b'.pos := Nat.le_of_eq (HPE.out.2 hb0).symm
    have hq3 : b.pos ≤ b2.pos := by omega
    clear hp2 he2
    go_wp2
    go_roundw
    case rel =>
     refine ⟨k, stepM b2, p, l ++ [cs], .alt acc ra, (.slice ka (l.length + 1) kc), by omega, ?_, ?_, ?_, ?_, ?_, ?_, ?_, ?_⟩
     ·show b2.err = 0
      rw [← HPE.out.1]; exact hb0
     ·simp only [stepM]; omega
     ·simp only [fuelM, stepM]; omega
     ·rw [List.length_append]; simp only [stepM, List.length_singleton]; omega
     ·have h1 := HR1.out
      rw [if_pos HPK.out] at h1
      exact Lib.hid h1
     ·have h2 := HA1.out
      rw [if_pos HPK.out] at h2
      exact Lib.hid h2
     ·exact Lib.hid (HC8.out.step.congr (by simp only [stepM]; omega) (by show b'.err = b2.err; exact HPE.out.1))
     ·exact Lib.hid ((HU8.out.kr (Kr.set g w8 1 _) HC8.out.gl).ok (fun _ => hb0))
    case measure =>
     rw [HC8.out.step.rdr.posAt, hRP.out]
     simp only [stepM]
     omega
   ·have hcb : ((c : Int) != 124) = true := by simp; omega
    go_wp2_with (first
   | ((with_reducible refine wpList_loadN rfl _ rfl _ rfl (w.heap.size + 1) 0 ?hx (nodeC 1 noB (.slice ka (l.length + 1) kc)) ?hc (nodeC_len _ _ _) ?_); (case hx => rfl); (case hc => exact HC8.out.nd.at_))
   | ((with_reducible refine wpList_storeN rfl _ _ rfl _ rfl w.heap.size 0 (nodeC 1 noB (.slice ka (l.length + 1) kc)) ?hx ?hy ?ht (nodeC_len _ _ _) HONE.out ?_); (case hx => rfl); (case hy => rfl); (case ht => exact HC8.out.res)))
    refine bodyPost_ret (results_agg1 rfl _ _ w.heap.size (nodeC 1 noB (.slice ka (l.length + 1) kc)) (.struct _) rfl (World.rangeAt_setCells_same _ _ _ _ (by rw [nodeC_len]; exact HC8.out.res)) Tryz.underlying62 rfl (by rw [nodeC_len]; exact node_size)) rfl ?_
    obtain ⟨cs', b'', e1, e2⟩ := HEND.out (by rw [HPK.out]; simpa using hc)
    exact ⟨cs', b'', by rw [e1], e2⟩
end Go.Proofs.YtgbapkechngnmaaGreat
/- The reference's row: a contract (with atom's for less fuel). -/
namespace Go.Proofs.YtgbapkechngnmaaGreat
open Go.RowKit

theorem rtimes_no {s : ByteArray} {b : Bs} {x : Nat × Nat} {a : Re} (h : ∀ c, peekM s b = some c → postB c = false) : timesM s b x = (b, x) ∧ timesR s b a = a := by
 unfold timesM timesR
 cases hc : peekM s b with
 | none => exact ⟨rfl, rfl⟩
 | some c =>
  have h1 := h c hc
  have h2 := h1
  simp only [postB, Bool.or_eq_false_iff, decide_eq_false_iff_not] at h2
  dsimp only
  rw [if_neg (by rw [h1]; decide), if_neg h2.1.1, if_neg h2.1.2, if_neg h2.2]
  exact ⟨rfl, rfl⟩
theorem rtimes_yes {s : ByteArray} {b : Bs} {x : Nat × Nat} {c : Nat} (h : peekM s b = some c) (hp : postB c = true) : (timesM s b x).1.pos = b.pos + 1 ∧ (timesM s b x).1.err = b.err := by
 unfold timesM
 rw [h]
 dsimp only
 rw [if_pos hp]
 dsimp only
 constructor <;> (split <;> split <;> rfl)
theorem timesR_at {s : ByteArray} {b : Bs} {c : Nat} {a : Re} (h : peekM s b = some c) : timesR s b a = if c = 42 then .star a else if c = 43 then .plus a else if c = 63 then .opt a else a := by unfold timesR; rw [h]
def rmeas (w : World) (g N : Nat) : Nat := match w.cell? ⟨g, 2, none⟩ with
 | some (.int _ e) => if e = 0 then N - rposAt w g else 0
 | _ => 0
theorem RdrAt.meas {w : World} {g : Nat} {s : ByteArray} {b : Bs} (h : RdrAt w g s b) (N : Nat) : rmeas w g N = if b.err = 0 then N - b.pos else 0 := by
 unfold rmeas
 rw [h.c2, h.posAt]
def PLoop (w0 : World) (g : Nat) (s : ByteArray) (d N : Nat) (r : Bs × (Nat × Nat)) (a : Re) (w : World) : Prop :=
 ∃ (m : Nat) (b : Bs) (p : Nat × Nat) (l : List (List Value)) (acc : Re) (kv : Value) (b' : Bs), m ≤ N ∧ b.pos ≤ s.size + 12 - d ∧ fuelM s b (.parts p) ≤ m ∧ l.length ≤ b.pos ∧
  b'.err = b.err ∧ (b.err = 0 → b'.pos = b.pos) ∧ b'.pos ≤ s.size + 12 - d ∧
  Hid (runM s m (.parts p) d b = r) ∧ Hid (reM s m (.parts p) acc d b = a) ∧ Hid (Clr w0 w g s b' (nodeC 2 noB kv)) ∧ Hid (Un w0 w kv 2 l acc (b.err = 0))
structure Prt (w0 w : World) (kv : Value) (ab : Nat) (cs : List Value) (a : Re) (ok : Prop) : Prop where
 nd : NdAt w ab cs
 one : ∀ y ∈ cs, y.oneCell' = true
 lo : w0.heap.size + 2 ≤ ab
 tree : ok → NA w (fun q => w0.heap.size + 2 ≤ q ∧ q < w.heap.size ∧ kv.ownBlock ≠ some q ∧ q ≠ ab) 0 [cs] a
theorem Prt.keep {w0 w w' : World} {kv : Value} {ab : Nat} {cs : List Value} {a : Re} {ok ok' : Prop} (h : Prt w0 w kv ab cs a ok) (hs : w.heap.size ≤ w'.heap.size) (hk : ∀ q, w0.heap.size + 2 ≤ q → q < w.heap.size → w'.heap[q]? = w.heap[q]?) (o : ok' → ok) : Prt w0 w' kv ab cs a ok' :=
 ⟨h.nd.keep hs (hk ab h.lo h.nd.lt), h.one, h.lo, fun x => ((h.tree (o x)).keep hs fun q hq hlt => hk q hq.1 hlt).mono fun _ hq => ⟨hq.1, Nat.lt_of_lt_of_le hq.2.1 hs, hq.2.2⟩⟩
theorem Prt.below {w0 w w' : World} {kv : Value} {ab : Nat} {cs : List Value} {a : Re} {ok : Prop} (h : Prt w0 w kv ab cs a ok) (hb : Below w.heap.size w w') : Prt w0 w' kv ab cs a ok := h.keep hb.size (fun q _ h2 => hb.block q h2) id
theorem Prt.kr {g : Nat} {w0 w w' : World} {kv : Value} {ab : Nat} {cs : List Value} {a : Re} {ok : Prop} (h : Prt w0 w kv ab cs a ok) (hk : Kr g w w') (hg : g < w0.heap.size) : Prt w0 w' kv ab cs a ok := h.keep hk.size (fun q h1 h2 => hk.block q h2 (by omega)) id
theorem Prt.wrap {w0 w : World} {kv : Value} {ab : Nat} {cs : List Value} {a c : Re} {ok : Prop} (h : Prt w0 w kv ab cs a ok) (k : Int) (t : TypeId) (hown : ∀ q, kv.ownBlock = some q → q < w.heap.size)
  (hf : ∀ (W : World) (P : Nat → Prop) (r : Value), NA W P 0 [cs] a → KidsAt W P r [cs] → NA W P 0 [nodeC k noB r] c) :
  Prt w0 ((w.alloc (.cells cs.toArray t)).setCells ab 0 (nodeC k noB (.slice (some ⟨w.heap.size, 0, none⟩) 1 1))) kv ab (nodeC k noB (.slice (some ⟨w.heap.size, 0, none⟩) 1 1)) c ok := by
 have hb := alloc_below w (.cells cs.toArray t)
 have hs := World.size_alloc w (.cells cs.toArray t)
 have hlt := h.nd.lt
 have hab := h.lo
 have hrd := rd_node (w := w) h.nd.len t
 refine ⟨(h.nd.later hb).stored (nodeC_len _ _ _), nodeC_one _ _ _ rfl, h.lo, fun x => hf _ _ _ ?_ ⟨?_, fun y hy => by rw [List.mem_singleton.1 hy]; exact h.nd.len, ?_, by simp⟩⟩
 ·refine (((h.tree x).later hb).keep (w' := (w.alloc (.cells cs.toArray t)).setCells ab 0 (nodeC k noB (.slice (some ⟨w.heap.size, 0, none⟩) 1 1))) (by rw [size_setCells]; exact Nat.le_refl _) (fun q hq _ => heap_setCells _ _ _ hq.2.2.2 _ _)).mono (fun q hq => ⟨hq.1, by rw [size_setCells]; have := hq.2.1; omega, hq.2.2⟩)
 ·have e : ([cs] : List (List Value)).flatten = cs := by simp
  rw [e]
  exact rd_keepB hrd (by rw [size_setCells]; exact Nat.le_refl _) (fun q hq _ => heap_setCells _ _ _ (by cases hq; show w.heap.size ≠ ab; omega) _ _)
 ·intro q hq
  cases hq
  show w0.heap.size + 2 ≤ w.heap.size ∧ w.heap.size < _ ∧ _ ∧ w.heap.size ≠ ab
  refine ⟨by omega, by rw [size_setCells]; omega, fun e => ?_, by omega⟩
  have h1 : w.heap.size < w.heap.size := hown _ e
  omega
structure Kq (w0 w3 w : World) (ab : Nat) : Prop where
 eq : w3.heap.size = ab
 le : ab ≤ w.heap.size
 kp : ∀ q, w0.heap.size + 2 ≤ q → q < ab → w.heap[q]? = w3.heap[q]?
theorem Kq.below {w0 w3 w w' : World} {ab : Nat} (h : Kq w0 w3 w ab) (hb : Below w.heap.size w w') : Kq w0 w3 w' ab := ⟨h.eq, Nat.le_trans h.le hb.size, fun q h1 h2 => (hb.block q (by have := h.le; omega)).trans (h.kp q h1 h2)⟩
theorem Kq.kr {g : Nat} {w0 w3 w w' : World} {ab : Nat} (h : Kq w0 w3 w ab) (hk : Kr g w w') (hg : g < w0.heap.size) : Kq w0 w3 w' ab := ⟨h.eq, Nat.le_trans h.le hk.size, fun q h1 h2 => (hk.block q (by have := h.le; omega) (by omega)).trans (h.kp q h1 h2)⟩
theorem Kq.puts {w0 w3 w : World} {ab : Nat} (h : Kq w0 w3 w ab) (vs : List Value) : Kq w0 w3 (w.setCells ab 0 vs) ab := ⟨h.eq, by rw [size_setCells]; exact h.le, fun q h1 h2 => (heap_setCells _ _ _ (by omega) _ _).trans (h.kp q h1 h2)⟩
theorem Kq.un {w0 w3 w : World} {ab : Nat} {kv : Value} {md : Nat} {l : List (List Value)} {a : Re} {ok : Prop} (h : Kq w0 w3 w ab) (hu : Un w0 w3 kv md l a ok) : Un w0 w kv md l a ok := hu.keep (by rw [h.eq]; exact h.le) (fun q h1 h2 => h.kp q h1 (by rw [← h.eq]; exact h2))
theorem rtimes_pos (s : ByteArray) (b : Bs) (x : Nat × Nat) (N : Nat) (h1 : b.pos ≤ N) (h2 : s.size ≤ N) : (timesM s b x).1.pos ≤ N := by
 unfold timesM
 split
 ·exact h1
 ·rename_i c hc
  have := (peekM_some hc).2.1
  split
  ·have e : ∀ b f t, (freeM b f t).pos = b.pos := fun _ _ _ => rfl
   dsimp only
   split <;> split <;> simp only [e, nodeM, stepM] <;> omega
  ·exact h1
set_option maxHeartbeats 12800000 in
set_option maxRecDepth 100000 in
theorem row_is (n : Nat) (hatom : NdK 113 .atom n) : NdK 89 .row (n + 1) := by
 intro m hm w g s d b h he hd hp _ hs hf
 simp only [fuelM] at hf
 obtain ⟨m, rfl⟩ : ∃ m', m = m' + 2 := ⟨m - 2, by omega⟩
 obtain ⟨r, hr⟩ : ∃ r, runM s (m + 1) (.parts (b.sts.length, b.sts.length)) d (nodeM b) = r := ⟨_, rfl⟩
 obtain ⟨a, ha⟩ : ∃ a, reM s (m + 1) (.parts (b.sts.length, b.sts.length)) .eps d (nodeM b) = a := ⟨_, rfl⟩
 have e1 : runM s (m + 2) .row d b = r := by rw [runM]; exact hr
 have e2 : reM s (m + 2) .row .no d b = a := by rw [reM]; exact ha
 rw [e1, e2]
 have HR0 := Lib.hid hr
 have HA0 := Lib.hid ha
 obtain ⟨b0, hb0⟩ : ∃ b0, nodeM b = b0 := ⟨_, rfl⟩
 have hbp : b0.pos = b.pos := by rw [← hb0]; rfl
 have hbe : b0.err = 0 := by rw [← hb0]; exact he
 have h0 : RdrAt w g s b0 := h.congr hbp.symm (by rw [hbe]; exact he)
 rw [hb0] at HR0 HA0
 have hc := Clr.new h0 2 62
 have HC0 := Lib.hid hc
 have HATOM := Lib.hid hatom
 obtain ⟨i0, hi, hz0, hz1, hz2⟩ := info_parts info_node
 clear hatom hr ha e1 e2 hb0 hc h h0
 go_enter Tryz.func89, Tryz.ntmps89
 go_wp2_with (first
  | (with_reducible refine wpList_allocN rfl rfl _ rfl w.heap.size rfl ?_)
  | (with_reducible refine wpList_allocN rfl rfl _ rfl (w.heap.size + 1) (World.size_alloc _ _) ?_)
  | ((with_reducible refine wpList_buildN rfl _ rfl _ rfl (zeroN 2) ?hf ?_); (case hf => exact node_built2))
  | ((with_reducible refine wpList_storeN rfl _ _ rfl _ rfl (w.heap.size + 1) 0 (nodeC 2 noB nilS) ?hx ?hy ?ht (nodeC_len _ _ _) (oneN _ _) ?_); (case hx => rfl); (case hy => rfl); (case ht => exact (by have := there_new (w.alloc (.cells (zeroN 0) 62)) 0 62; rwa [World.size_alloc] at this))))
 refine wp_forget2 (fun W => Clr w W g s b0 (nodeC 2 noB nilS)) HC0.out (fun w1 hw1 => ?_)
 have H1 := Lib.hid hw1
 clear hw1 HC0
 simp only [Act.put, List.setIfInBounds_toArray, List.set_cons_zero, List.set_cons_succ]
 go_loopw [] (fun wr => PLoop w g s d (m + 1) r a wr) (fun wr => rmeas wr g (s.size + 15))
 case atStart => exact ⟨m + 1, b0, _, [], .eps, nilS, b0, Nat.le_refl _, by omega, by simp only [fuelM]; omega, by simp, rfl, fun _ => rfl, by omega, HR0, HA0, H1, Lib.hid (Un.nil w w1 (fun P => .r0) _)⟩
 case round =>
  clear H1 HR0 HA0 hbp hbe b0
  obtain ⟨k, b, p, l, acc, kv, bx, hk, hp, hf, hl, hx1, hx2, hx3, HR, HA, HC, HU⟩ := hrel
  simp only [fuelM] at hf
  obtain ⟨k, rfl⟩ : ∃ k', k = k' + 1 := ⟨k - 1, by omega⟩
  have HR' := HR.out
  have HA' := HA.out
  rw [runM] at HR'
  rw [reM] at HA'
  have hpk := peek_congr (s := s) (b := bx) (c := b) hx1 (fun h0 => hx2 (hx1.symm.trans h0))
  obtain ⟨o, ho⟩ : ∃ o, peekM s bx = o := ⟨_, rfl⟩
  have k1 := next_is wr g s bx o ho HC.out.rdr (by omega)
  have HPK := Lib.hid (hpk.symm.trans ho)
  have HO := Lib.hid ho
  rw [HPK.out] at HR' HA'
  have HR1 := Lib.hid HR'
  have HA1 := Lib.hid HA'
  have HX := Lib.hid (And.intro hx1 hx2)
  clear hpk ho HR' HA' HR HA hx1 hx2
  go_wp2_with fail
  refine k1.mono ?_
  rintro e w2 ⟨rfl, hb2⟩
  have HC2 := Lib.hid (HC.out.below hb2)
  have HU2 := Lib.hid (HU.out.below hb2)
  have HMS : Hid (rmeas wr g (s.size + 15) = if bx.err = 0 then s.size + 15 - bx.pos else 0) := Lib.hid (HC.out.rdr.meas _)
  clear k1 hb2 HC HU
  have HEND : Hid ((b, p) = r → acc = a → ∃ cs' b'', Value.agg (nodeC 2 noB kv).toArray = .agg cs'.toArray ∧ Back w (w2.setCells w.heap.size 0 (nodeC 2 noB kv)) g s d r a cs' b'') := Lib.hid (fun h1 h2 => by
   subst h1 h2
   have hu := HU2.out.puts w.heap.size 0 (nodeC 2 noB kv) (by omega)
   exact ⟨_, bx, rfl, nodeC_len _ _ _, nodeC_one _ _ _ (ownsRow_one hu.own), (HC2.out.done _).1, HX.out.1, hx3, fun h0 => ⟨HX.out.2 (HX.out.1.symm.trans h0), .row (hu.all (HX.out.1.symm.trans h0)) (hu.kids (by omega))⟩, (HC2.out.done _).2⟩)
  have HONE : Hid (∀ y ∈ nodeC 2 noB kv, y.oneCell' = true) := Lib.hid (nodeC_one _ _ _ (ownsRow_one HU2.out.own))
  rcases o with _ | c
  ·go_wp2_with (first
   | ((with_reducible refine wpList_loadN rfl _ rfl _ rfl (w.heap.size + 1) 0 ?hx (nodeC 2 noB kv) ?hc (nodeC_len _ _ _) ?_); (case hx => rfl); (case hc => exact HC2.out.nd.at_))
   | ((with_reducible refine wpList_storeN rfl _ _ rfl _ rfl w.heap.size 0 (nodeC 2 noB kv) ?hx ?hy ?ht (nodeC_len _ _ _) HONE.out ?_); (case hx => rfl); (case hy => rfl); (case ht => exact HC2.out.res)))
   refine bodyPost_ret (results_agg1 rfl _ _ w.heap.size (nodeC 2 noB kv) (.struct _) rfl (World.rangeAt_setCells_same _ _ _ _ (by rw [nodeC_len]; exact HC2.out.res)) Tryz.underlying62 rfl (by rw [nodeC_len]; exact node_size)) rfl ?_
   obtain ⟨cs', b'', e1, e2⟩ := HEND.out HR1.out HA1.out
   exact ⟨cs', b'', by rw [e1], e2⟩
  ·by_cases hc : c = 124 ∨ c = 41
   ·have HR2 : Hid ((b, p) = r) := Lib.hid (by have := HR1.out; dsimp only at this; rwa [if_pos hc] at this)
    have HA2 : Hid (acc = a) := Lib.hid (by have := HA1.out; dsimp only at this; rwa [if_pos hc] at this)
    clear HR1 HA1
    rcases hc with rfl | rfl
    ·go_wp2_with (first
   | ((with_reducible refine wpList_loadN rfl _ rfl _ rfl (w.heap.size + 1) 0 ?hx (nodeC 2 noB kv) ?hc (nodeC_len _ _ _) ?_); (case hx => rfl); (case hc => exact HC2.out.nd.at_))
   | ((with_reducible refine wpList_storeN rfl _ _ rfl _ rfl w.heap.size 0 (nodeC 2 noB kv) ?hx ?hy ?ht (nodeC_len _ _ _) HONE.out ?_); (case hx => rfl); (case hy => rfl); (case ht => exact HC2.out.res)))
     refine bodyPost_ret (results_agg1 rfl _ _ w.heap.size (nodeC 2 noB kv) (.struct _) rfl (World.rangeAt_setCells_same _ _ _ _ (by rw [nodeC_len]; exact HC2.out.res)) Tryz.underlying62 rfl (by rw [nodeC_len]; exact node_size)) rfl ?_
     obtain ⟨cs', b'', e1, e2⟩ := HEND.out HR2.out HA2.out
     exact ⟨cs', b'', by rw [e1], e2⟩
    ·go_wp2_with (first
   | ((with_reducible refine wpList_loadN rfl _ rfl _ rfl (w.heap.size + 1) 0 ?hx (nodeC 2 noB kv) ?hc (nodeC_len _ _ _) ?_); (case hx => rfl); (case hc => exact HC2.out.nd.at_))
   | ((with_reducible refine wpList_storeN rfl _ _ rfl _ rfl w.heap.size 0 (nodeC 2 noB kv) ?hx ?hy ?ht (nodeC_len _ _ _) HONE.out ?_); (case hx => rfl); (case hy => rfl); (case ht => exact HC2.out.res)))
     refine bodyPost_ret (results_agg1 rfl _ _ w.heap.size (nodeC 2 noB kv) (.struct _) rfl (World.rangeAt_setCells_same _ _ _ _ (by rw [nodeC_len]; exact HC2.out.res)) Tryz.underlying62 rfl (by rw [nodeC_len]; exact node_size)) rfl ?_
     obtain ⟨cs', b'', e1, e2⟩ := HEND.out HR2.out HA2.out
     exact ⟨cs', b'', by rw [e1], e2⟩
   ·have hc1 : ((c : Int) == 124) = false := by rw [beq_eq_false_iff_ne]; omega
    have hc2 : ((c : Int) == 41) = false := by rw [beq_eq_false_iff_ne]; omega
    have hn1 : ¬ c = 124 := fun h => hc (.inl h)
    have hn2 : ¬ c = 41 := fun h => hc (.inr h)
    have hn3 : ¬ (c : Int) = 124 := by omega
    have hn4 : ¬ (c : Int) = 41 := by omega
    obtain ⟨hb0, hbs, hbc⟩ := peekM_some HPK.out
    have HBC := Lib.hid hbc
    clear hbc
    have hbx0 : bx.err = 0 := HX.out.1.trans hb0
    have hbxp : bx.pos = b.pos := HX.out.2 hb0
    have ok := runM_ok s k .atom d b hd hp (fun _ => hbs) trivial (by simp only [fuelM]; omega)
    obtain ⟨g1, q1, q2, q3, q4⟩ := ok
    obtain ⟨q5, _⟩ := q4 rfl
    have HR' := HR1.out
    have HA' := HA1.out
    (try dsimp only at HR' HA')
    rw [if_neg hc] at HR' HA'
    have hka := fun W (h : RdrAt W g s bx) => HATOM.out k (by omega) W g s d b (h.congr hbxp (hbx0.trans hb0.symm)) hb0 hd hp (fun _ => ⟨hbs, by rw [← HBC.out]; omega, by rw [← HBC.out]; omega⟩) hs (by simp only [fuelM]; omega)
    obtain ⟨rr, hrr⟩ : ∃ rr, runM s k .atom d b = rr := ⟨_, rfl⟩
    obtain ⟨ra, hra⟩ : ∃ ra, reM s k .atom .no d b = ra := ⟨_, rfl⟩
    rw [hrr] at HR' HA' hka q3 q5 q1 q2
    rw [hra] at HA' hka
    have hgtp := (gd_times s rr.1 rr.2).pos
    have hgtq := rtimes_pos s rr.1 rr.2 (s.size + 12 - d) q3 (by omega)
    have HTY := Lib.hid (fun c (h : peekM s rr.1 = some c) (hp : postB c = true) => rtimes_yes (x := rr.2) h hp)
    have HTN := Lib.hid (fun (h : ∀ c, peekM s rr.1 = some c → postB c = false) => rtimes_no (x := rr.2) (a := ra) h)
    obtain ⟨t, ht⟩ : ∃ t, timesM s rr.1 rr.2 = t := ⟨_, rfl⟩
    obtain ⟨ta, hta⟩ : ∃ ta, timesR s rr.1 ra = ta := ⟨_, rfl⟩
    rw [ht] at HR' HA' hgtp hgtq HTY HTN
    rw [hta] at HA' HTN
    have HTA := Lib.hid hta
    have HR2 := Lib.hid HR'
    have HA2 := Lib.hid HA'
    have hk1 := hka w2 HC2.out.rdr
    clear HR' HA' HR1 HA1 hrr hra ht hta g1 hka HEND HONE hc q1 q2 q4
    go_wp2_with fail
    refine hk1.mono ?_
    rintro e w3 ⟨cs, b1, rfl, hbk⟩
    have HC3 := Lib.hid (HC2.out.stp hbk.rdr hbk.kr)
    have HU3 := Lib.hid (HU2.out.kr hbk.kr HC2.out.gl)
    have HBK := Lib.hid hbk
    have hw3 := HC3.out.nd.lt
    clear hk1 hbk
    have hn3 := NdAt.new w3 0 62
    have hprt : Prt w ((w3.alloc (.cells (zeroN 0) 62)).setCells w3.heap.size 0 cs) kv w3.heap.size cs ra (b1.err = 0) := by
     refine ⟨hn3.stored HBK.out.len, HBK.out.one, by omega, fun h0 => (((HBK.out.tree h0).2).later (alloc_below w3 (.cells (zeroN 0) 62))).keep (by rw [size_setCells]; exact Nat.le_refl _) (fun q hq _ => heap_setCells _ _ _ (by omega) _ _) |>.mono ?_⟩
     rintro q ⟨h1, h2⟩
     have hlt := HC2.out.nd.lt
     refine ⟨by omega, by rw [size_setCells, World.size_alloc]; omega, fun e => ?_, by omega⟩
     have := (ownsRow_at HU2.out.own q e).2
     omega
    have hc4 : Clr w ((w3.alloc (.cells (zeroN 0) 62)).setCells w3.heap.size 0 cs) g s b1 (nodeC 2 noB kv) := by
     have h1 := HC3.out.below (alloc_below w3 (.cells (zeroN 0) 62))
     have hgl := h1.gl
     exact ⟨h1.rdr.kept (by rw [size_setCells]; exact Nat.le_refl _) (heap_setCells _ _ _ (by omega) _ _), h1.nd.keep (by rw [size_setCells]; exact Nat.le_refl _) (heap_setCells _ _ _ (by omega) _ _), there_kept h1.res (heap_setCells _ _ _ (by omega) _ _), h1.kr.news _ (by omega) _ _, h1.gl⟩
    have hu4 : Kq w w3 ((w3.alloc (.cells (zeroN 0) 62)).setCells w3.heap.size 0 cs) w3.heap.size := (show Kq w w3 (w3.alloc (.cells (zeroN 0) 62)) w3.heap.size from ⟨rfl, (alloc_below w3 (.cells (zeroN 0) 62)).size, fun q _ h2 => (alloc_below w3 (.cells (zeroN 0) 62)).block q h2⟩).puts cs
    have HU3 := Lib.hid (HU3.out.ok (ok' := True) (fun _ => hb0))
    have HPR := Lib.hid hprt
    have HC4 := Lib.hid hc4
    have HU4 := Lib.hid hu4
    have HTH : Hid ((w3.alloc (.cells (zeroN 0) 62)).there w3.heap.size 0 258) := Lib.hid hn3.th
    clear hprt hc4 hu4 hn3 HC3 HC2 HU2
    go_upto_region 6 with (first
     | (with_reducible refine wpList_allocN rfl rfl _ rfl w3.heap.size rfl ?_)
     | ((with_reducible refine wpList_storeN rfl _ _ rfl _ rfl w3.heap.size 0 cs ?hx ?hy ?ht HBK.out.len HBK.out.one ?_); (case hx => rfl); (case hy => rfl); (case ht => exact HTH.out)))
    generalize ((w3.alloc (.cells (zeroN 0) 62)).setCells w3.heap.size 0 cs) = w4 at *
    generalize w3.heap.size = ab at *
    have hbp1 := HBK.out.pos
    have HBE : Hid (b1.err = rr.1.err ∧ (b1.err = 0 → b1.pos = rr.1.pos)) := Lib.hid ⟨HBK.out.err, fun h0 => (HBK.out.tree h0).1⟩
    have hcl := HBK.out.len
    clear HBK HTH
    obtain ⟨o2, ho2⟩ : ∃ o2, peekM s b1 = o2 := ⟨_, rfl⟩
    have k2 := next_is w4 g s b1 o2 ho2 HC4.out.rdr (by omega)
    have HPK2 := Lib.hid ((peek_congr (s := s) (b := b1) (c := rr.1) HBE.out.1 HBE.out.2).symm.trans ho2)
    have HO2 := Lib.hid ho2
    clear ho2
    go_wp2_with fail
    refine k2.mono ?_
    rintro e w5 ⟨rfl, hb5⟩
    have HC5 := Lib.hid (HC4.out.below hb5)
    have HU5 := Lib.hid (HU4.out.below hb5)
    have HP5 : Hid (Prt w w5 kv ab cs ra (b1.err = 0)) := Lib.hid (HPR.out.below hb5)
    clear k2 hb5 HC4 HU4 HPR
    obtain ⟨PB, hPB⟩ : ∃ PB, (match o2 with | none => false | some c => postB c) = PB := ⟨_, rfl⟩
    have HPB := Lib.hid hPB
    clear hPB
    go_upto_region 7 with fail
    go_cut [47] from 11 to 68 (fun v wx => v = .bool PB ∧ wx = w5)
    case first =>
     rcases o2 with _ | c2
     ·simp only [Option.getD_none, Option.isSome_none]
      go_wp2
      go_meet
      exact ⟨by rw [← HPB.out], rfl⟩
     ·simp only [Option.getD_some, Option.isSome_some]
      by_cases g1 : c2 = 42
      ·subst g1
       go_wp2
       go_meet
       exact ⟨by rw [← HPB.out]; rfl, rfl⟩
      ·have g1b : ((c2 : Int) == 42) = false := by rw [beq_eq_false_iff_ne]; omega
       by_cases g2 : c2 = 43
       ·subst g2
        go_wp2
        go_meet
        exact ⟨by rw [← HPB.out]; rfl, rfl⟩
       ·have g2b : ((c2 : Int) == 43) = false := by rw [beq_eq_false_iff_ne]; omega
        by_cases g3 : c2 = 63
        ·subst g3
         go_wp2
         go_meet
         exact ⟨by rw [← HPB.out]; rfl, rfl⟩
        ·have g3b : ((c2 : Int) == 63) = false := by rw [beq_eq_false_iff_ne]; omega
         go_wp2
         go_meet
         exact ⟨by rw [← HPB.out]; simp [postB, g1, g2, g3], rfl⟩
    case rest =>
    obtain ⟨rfl, rfl⟩ := hcut
    go_upto_if 47 with fail
    go_cut [] from 11 to 68 (fun wx => ∃ (cs2 : List Value) (b3 : Bs), b3.err = t.1.err ∧ (b3.err = 0 → b3.pos = t.1.pos) ∧ b3.pos ≤ s.size + 12 - d ∧ cs2.length = 258 ∧ Hid (Clr w wx g s b3 (nodeC 2 noB kv)) ∧ Hid (Kq w w3 wx ab) ∧ Hid (Prt w wx kv ab cs2 ta (b3.err = 0)))
    case first =>
     cases PB with
     | false =>
      have hno : ∀ c, peekM s rr.1 = some c → postB c = false := fun c h => by
       rw [HPK2.out] at h
       subst h
       exact HPB.out
      obtain ⟨e1, e2⟩ := HTN.out hno
      go_wp2
      go_meet
      refine ⟨cs, b1, ?_, ?_, hbp1, hcl, HC5, HU5, ?_⟩
      ·rw [e1]; exact HBE.out.1
      ·rw [e1]; exact HBE.out.2
      ·rw [e2]; exact HP5
     | true =>
      rcases o2 with _ | c2
      ·exact absurd HPB.out (by simp)
      ·have hPB := HPB.out
       dsimp only at hPB
       obtain ⟨e1, e2⟩ := HTY.out c2 HPK2.out hPB
       obtain ⟨hb10, hb1s, -⟩ := peekM_some HO2.out
       have HB1P := Lib.hid (HBE.out.2 hb10)
       have c1 := HC5.out.rdr.c1
       have f1 := there_free HC5.out.rdr.th 1 (by omega)
       have HTA2 : Hid (ta = if c2 = 42 then .star ra else if c2 = 43 then .plus ra else if c2 = 63 then .opt ra else ra) := Lib.hid (HTA.out.symm.trans (timesR_at HPK2.out))
       have hp3 : c2 = 42 ∨ c2 = 43 ∨ c2 = 63 := by simp only [postB, Bool.or_eq_true, decide_eq_true_eq] at hPB; omega
       have HE1 : Hid ((stepM b1).err = t.1.err ∧ (stepM b1).pos = t.1.pos) := Lib.hid ⟨by rw [e2]; exact HBE.out.1, by rw [e1]; simp only [stepM]; rw [HB1P.out]⟩
       clear hPB e1 e2
       go_upto_region 9 with fail
       refine wp_forget2 (fun W => Clr w W g s (stepM b1) (nodeC 2 noB kv) ∧ Kq w w3 W ab ∧ Prt w W kv ab cs ra (b1.err = 0)) ⟨HC5.out.step, HU5.out.kr (Kr.set g _ 1 _) HC5.out.gl, HP5.out.kr (Kr.set g _ 1 _) HC5.out.gl⟩ (fun w6 hw6 => ?_)
       have HC6 := Lib.hid hw6.1
       have HU6 := Lib.hid hw6.2.1
       have HP6 := Lib.hid hw6.2.2
       clear hw6 c1 f1 HC5 HU5 HP5 HTY HTN
       have HTH : Hid ((w6.alloc (.cells cs.toArray 62)).there ab 0 258) := Lib.hid (HP6.out.nd.later (alloc_below w6 (.cells cs.toArray 62))).th
       have hab := HP6.out.lo
       rcases hp3 with rfl | rfl | rfl
       ·have HTA3 : Hid (ta = Re.star ra) := Lib.hid (HTA2.out.trans rfl)
        go_upto_region 14 with fail
        go_wp2_with (first
         | ((with_reducible refine wpList_loadN rfl _ rfl _ rfl ab 0 ?hx cs ?hc hcl ?_); (case hx => rfl); (case hc => exact HP6.out.nd.at_))
         | ((with_reducible refine wpList_buildSlice rfl 60 62 1 _ rfl cs.toArray i0 (.agg (zeroN 0)) Tryz.underlying60 hi hz0 ?hs ?hp ?hf ?_); (case hs => rw [hz1]; decide); (case hp => rw [hz1]; decide); (case hf => rw [hz1]; exact fill_one _ _ cs hcl rfl))
         | ((with_reducible refine wpList_buildN rfl _ rfl _ rfl (nodeC 3 noB (.slice (some ⟨w6.heap.size, 0, none⟩) 1 1)).toArray ?hf ?_); (case hf => exact built_kids _ _ _ _ _ _ _ rfl rfl))
         | ((with_reducible refine wpList_storeN rfl _ _ rfl _ rfl ab 0 (nodeC 3 noB (.slice (some ⟨w6.heap.size, 0, none⟩) 1 1)) ?hx ?hy ?ht (nodeC_len _ _ _) (nodeC_one _ _ _ rfl) ?_); (case hx => rfl); (case hy => rfl); (case ht => exact HTH.out)))
        go_meet
        refine ⟨nodeC 3 noB (.slice (some ⟨w6.heap.size, 0, none⟩) 1 1), stepM b1, HE1.out.1, fun _ => HE1.out.2, by rw [HE1.out.2]; exact hgtq, nodeC_len _ _ _, ?_, ?_, ?_⟩
        ·exact Lib.hid (by
          have h1 := HC6.out.below (alloc_below w6 (.cells cs.toArray 62))
          have hgl := h1.gl
          exact ⟨h1.rdr.kept (by rw [size_setCells]; exact Nat.le_refl _) (heap_setCells _ _ _ (by omega) _ _), h1.nd.keep (by rw [size_setCells]; exact Nat.le_refl _) (heap_setCells _ _ _ (by omega) _ _), there_kept h1.res (heap_setCells _ _ _ (by omega) _ _), h1.kr.news _ (by omega) _ _, h1.gl⟩)
        ·exact Lib.hid ((HU6.out.below (alloc_below w6 (.cells cs.toArray 62))).puts _)
        ·rw [HTA3.out]
         exact Lib.hid ((HP6.out.wrap 3 62 (fun q hq => by have h1 := (ownsRow_at HU3.out.own q hq).2; have h2 := HU6.out.eq; have h3 := HU6.out.le; omega) (fun W P r h1 h2 => .star h1 h2)).keep (Nat.le_refl _) (fun _ _ _ => rfl) (fun h0 => h0))
       ·have HTA3 : Hid (ta = Re.plus ra) := Lib.hid (HTA2.out.trans rfl)
        go_upto_region 14 with fail
        go_wp2_with (first
         | ((with_reducible refine wpList_loadN rfl _ rfl _ rfl ab 0 ?hx cs ?hc hcl ?_); (case hx => rfl); (case hc => exact HP6.out.nd.at_))
         | ((with_reducible refine wpList_buildSlice rfl 60 62 1 _ rfl cs.toArray i0 (.agg (zeroN 0)) Tryz.underlying60 hi hz0 ?hs ?hp ?hf ?_); (case hs => rw [hz1]; decide); (case hp => rw [hz1]; decide); (case hf => rw [hz1]; exact fill_one _ _ cs hcl rfl))
         | ((with_reducible refine wpList_buildN rfl _ rfl _ rfl (nodeC 4 noB (.slice (some ⟨w6.heap.size, 0, none⟩) 1 1)).toArray ?hf ?_); (case hf => exact built_kids _ _ _ _ _ _ _ rfl rfl))
         | ((with_reducible refine wpList_storeN rfl _ _ rfl _ rfl ab 0 (nodeC 4 noB (.slice (some ⟨w6.heap.size, 0, none⟩) 1 1)) ?hx ?hy ?ht (nodeC_len _ _ _) (nodeC_one _ _ _ rfl) ?_); (case hx => rfl); (case hy => rfl); (case ht => exact HTH.out)))
        go_meet
        refine ⟨nodeC 4 noB (.slice (some ⟨w6.heap.size, 0, none⟩) 1 1), stepM b1, HE1.out.1, fun _ => HE1.out.2, by rw [HE1.out.2]; exact hgtq, nodeC_len _ _ _, ?_, ?_, ?_⟩
        ·exact Lib.hid (by
          have h1 := HC6.out.below (alloc_below w6 (.cells cs.toArray 62))
          have hgl := h1.gl
          exact ⟨h1.rdr.kept (by rw [size_setCells]; exact Nat.le_refl _) (heap_setCells _ _ _ (by omega) _ _), h1.nd.keep (by rw [size_setCells]; exact Nat.le_refl _) (heap_setCells _ _ _ (by omega) _ _), there_kept h1.res (heap_setCells _ _ _ (by omega) _ _), h1.kr.news _ (by omega) _ _, h1.gl⟩)
        ·exact Lib.hid ((HU6.out.below (alloc_below w6 (.cells cs.toArray 62))).puts _)
        ·rw [HTA3.out]
         exact Lib.hid ((HP6.out.wrap 4 62 (fun q hq => by have h1 := (ownsRow_at HU3.out.own q hq).2; have h2 := HU6.out.eq; have h3 := HU6.out.le; omega) (fun W P r h1 h2 => .plus h1 h2)).keep (Nat.le_refl _) (fun _ _ _ => rfl) (fun h0 => h0))
       ·have HTA3 : Hid (ta = Re.opt ra) := Lib.hid (HTA2.out.trans rfl)
        go_upto_region 14 with fail
        go_wp2_with (first
         | ((with_reducible refine wpList_loadN rfl _ rfl _ rfl ab 0 ?hx cs ?hc hcl ?_); (case hx => rfl); (case hc => exact HP6.out.nd.at_))
         | ((with_reducible refine wpList_buildSlice rfl 60 62 1 _ rfl cs.toArray i0 (.agg (zeroN 0)) Tryz.underlying60 hi hz0 ?hs ?hp ?hf ?_); (case hs => rw [hz1]; decide); (case hp => rw [hz1]; decide); (case hf => rw [hz1]; exact fill_one _ _ cs hcl rfl))
         | ((with_reducible refine wpList_buildN rfl _ rfl _ rfl (nodeC 5 noB (.slice (some ⟨w6.heap.size, 0, none⟩) 1 1)).toArray ?hf ?_); (case hf => exact built_kids _ _ _ _ _ _ _ rfl rfl))
         | ((with_reducible refine wpList_storeN rfl _ _ rfl _ rfl ab 0 (nodeC 5 noB (.slice (some ⟨w6.heap.size, 0, none⟩) 1 1)) ?hx ?hy ?ht (nodeC_len _ _ _) (nodeC_one _ _ _ rfl) ?_); (case hx => rfl); (case hy => rfl); (case ht => exact HTH.out)))
        go_meet
        refine ⟨nodeC 5 noB (.slice (some ⟨w6.heap.size, 0, none⟩) 1 1), stepM b1, HE1.out.1, fun _ => HE1.out.2, by rw [HE1.out.2]; exact hgtq, nodeC_len _ _ _, ?_, ?_, ?_⟩
        ·exact Lib.hid (by
          have h1 := HC6.out.below (alloc_below w6 (.cells cs.toArray 62))
          have hgl := h1.gl
          exact ⟨h1.rdr.kept (by rw [size_setCells]; exact Nat.le_refl _) (heap_setCells _ _ _ (by omega) _ _), h1.nd.keep (by rw [size_setCells]; exact Nat.le_refl _) (heap_setCells _ _ _ (by omega) _ _), there_kept h1.res (heap_setCells _ _ _ (by omega) _ _), h1.kr.news _ (by omega) _ _, h1.gl⟩)
        ·exact Lib.hid ((HU6.out.below (alloc_below w6 (.cells cs.toArray 62))).puts _)
        ·rw [HTA3.out]
         exact Lib.hid ((HP6.out.wrap 5 62 (fun q hq => by have h1 := (ownsRow_at HU3.out.own q hq).2; have h2 := HU6.out.eq; have h3 := HU6.out.le; omega) (fun W P r h1 h2 => .opt h1 h2)).keep (Nat.le_refl _) (fun _ _ _ => rfl) (fun h0 => h0))
    case rest =>
     obtain ⟨cs2, b3, h1, h2, h3, hcl2, HC6, HQ6, HP6⟩ := hcut
     have HU6 := Lib.hid (HQ6.out.un HU3.out)
     clear HQ6
     have c257 := HC6.out.nd.cell (nodeC_kids 2 noB kv)
     have HB7 := Lib.hid (alloc_below wc (.cells cs2.toArray 62))
     have HC7 := Lib.hid (HC6.out.below HB7.out)
     have HU7 := Lib.hid (HU6.out.below HB7.out)
     have HP7 := Lib.hid (HP6.out.below HB7.out)
     have HRD := Lib.hid (rd_node (w := wc) hcl2 62)
     have HBS : Hid (w.heap.size + 2 ≤ (wc.alloc (.cells cs2.toArray 62)).heap.size) := Lib.hid (by have := HC7.out.nd.lt; omega)
     have hl200 : l.length ≤ 200 := by omega
     clear HC5 HU5 HP5
     go_wp2_with (first
      | ((with_reducible refine wpList_loadN rfl _ rfl _ rfl ab 0 ?hx cs2 ?hc hcl2 ?_); (case hx => rfl); (case hc => exact HP6.out.nd.at_))
      | ((with_reducible refine wpList_buildSlice rfl 60 62 1 _ rfl cs2.toArray i0 (.agg (zeroN 0)) Tryz.underlying60 hi hz0 ?hs ?hp ?hf ?_); (case hs => rw [hz1]; decide); (case hp => rw [hz1]; decide); (case hf => rw [hz1]; exact fill_one _ _ cs2 hcl2 rfl))
      | (at_builtin; (refine wpList_append_rd2 rfl (.tmp 64) (.tmp 66) 60 rfl (w.heap.size + 2) 62 i0 (.agg (zeroN 0)) 258 288 Tryz.underlying60 hi hz0 hz1 hz2 (zeroN_size 0) (by decide) kv l.length l.flatten rfl HU7.out.own _ 1 cs2 rfl HRD.out HP6.out.one (by unfold maxLen; omega) (by omega) HBS.out ?_); intro kv' w8 hown hgrow hor; obtain ⟨ka, kc, rfl, -, -⟩ := RdAt.shape (RdAt.own hown); have hc8 := HC7.out.grown hgrow (fun q hq => (ownsRow_at HU7.out.own q hq).1); have c8 := hc8.nd.cell (nodeC_kids 2 noB kv); have f8 := hc8.nd.free (j := 257) (by omega); have HC8 := Lib.hid hc8; have HU8 := Lib.hid (HU7.out.app (ok' := t.1.err = 0) (b := ta) hown hgrow hor ⟨hcl2, HP6.out.one⟩ (fun _ => trivial) (fun h0 => (HP7.out.tree (h1.trans h0)).mono (fun q hq => ⟨hq.1, hq.2.1, hq.2.2.1⟩)) (fun W P h1 h2 => .r1 h1 h2)); clear hc8 hown hgrow hor))
     have HC9 : Hid (Clr w (w8.setCell ⟨w.heap.size + 1, 257, none⟩ (.slice ka (l.length + 1) kc)) g s b3 (nodeC 2 noB (.slice ka (l.length + 1) kc))) := Lib.hid (by
      have := HC8.out.put 257 (.slice ka (l.length + 1) kc) (by omega)
      rwa [nodeC_setK] at this)
     (try simp only [Act.put, List.setIfInBounds_toArray, List.set_cons_zero, List.set_cons_succ])
     go_roundw
     case rel => exact ⟨k, freeM t.1 p.2 t.2.1, (p.1, t.2.2), l ++ [cs2], .cat acc ta, (.slice ka (l.length + 1) kc), b3, by omega, hgtq, by simp only [fuelM, freeM]; omega, by rw [List.length_append]; simp only [freeM, List.length_singleton]; omega, h1, fun h0 => h2 (h1.trans h0), h3, HR2, HA2, HC9, Lib.hid (HU8.out.put _ _ _ (by omega))⟩
     case measure =>
      rw [HC9.out.rdr.meas, HMS.out, if_pos hbx0]
      split
      ·rename_i h0; have := h2 h0; omega
      ·omega
end Go.Proofs.YtgbapkechngnmaaGreat
/- The reference's atom: a contract (with either's for less fuel). -/
namespace Go.Proofs.YtgbapkechngnmaaGreat
open Go.RowKit

structure Ca (w0 w : World) (nb g : Nat) (s : ByteArray) (b : Bs) (cs : List Value) : Prop where
 rdr : RdrAt w g s b
 nd : NdAt w nb cs
 res : w.there w0.heap.size 0 258
 kr : Kr g w0 w
 gl : g < w0.heap.size
 nb : w0.heap.size < nb
theorem Ca.below {w0 w w' : World} {nb g : Nat} {s : ByteArray} {b : Bs} {cs : List Value} (h : Ca w0 w nb g s b cs) (hb : Below w.heap.size w w') : Ca w0 w' nb g s b cs :=
 ⟨h.rdr.below hb, h.nd.later hb, there_later h.res hb (by have := h.nd.lt; have := h.nb; omega), h.kr.trans (Kr.of_below hb), h.gl, h.nb⟩
theorem Ca.stp {w0 w w' : World} {nb g : Nat} {s : ByteArray} {b b' : Bs} {cs : List Value} (h : Ca w0 w nb g s b cs) (hr : RdrAt w' g s b') (hk : Kr g w w') : Ca w0 w' nb g s b' cs :=
 ⟨hr, h.nd.kr hk (by have := h.gl; have := h.nb; omega), there_kept h.res (hk.block _ (by have := h.nd.lt; have := h.nb; omega) (by have := h.gl; omega)), h.kr.trans hk, h.gl, h.nb⟩
theorem Ca.step {w0 w : World} {nb g : Nat} {s : ByteArray} {b : Bs} {cs : List Value} (h : Ca w0 w nb g s b cs) : Ca w0 (w.setCell ⟨g, 1, none⟩ (.int .i64 ((b.pos : Int) + 1))) nb g s (stepM b) cs :=
 h.stp h.rdr.step (Kr.set g w 1 _)
theorem Ca.put {w0 w : World} {nb g : Nat} {s : ByteArray} {b : Bs} {cs : List Value} (h : Ca w0 w nb g s b cs) (j : Nat) (v : Value) (hj : j < 258) : Ca w0 (w.setCell ⟨nb, j, none⟩ v) nb g s b (cs.set j v) :=
 ⟨h.rdr.kept (by simp) (Below.heap_setCell w _ v g (by show g ≠ nb; have := h.gl; have := h.nb; omega)), h.nd.set j v hj, rthere_set h.res _ _ _, h.kr.new _ _ _ (by have := h.nb; omega), h.gl, h.nb⟩
theorem Ca.all {w0 w : World} {nb g : Nat} {s : ByteArray} {b : Bs} {cs : List Value} (h : Ca w0 w nb g s b cs) (cs' : List Value) (hl : cs'.length = 258) : Ca w0 (w.setCells nb 0 cs') nb g s b cs' :=
 ⟨h.rdr.kept (by rw [size_setCells]; exact Nat.le_refl _) (heap_setCells _ _ _ (by have := h.gl; have := h.nb; omega) _ _), h.nd.stored hl, World.there_setCells h.res _ _ _, h.kr.news _ (by have := h.nb; omega) _ _, h.gl, h.nb⟩
theorem Ca.done {w0 w : World} {nb g : Nat} {s : ByteArray} {b : Bs} {cs : List Value} (h : Ca w0 w nb g s b cs) (vs : List Value) : RdrAt (w.setCells w0.heap.size 0 vs) g s b ∧ Kr g w0 (w.setCells w0.heap.size 0 vs) :=
 ⟨h.rdr.kept (by rw [size_setCells]; exact Nat.le_refl _) (heap_setCells _ _ _ (by have := h.gl; omega) _ _), h.kr.news _ (Nat.le_refl _) _ _⟩
theorem Ca.new {w0 w : World} {g : Nat} {s : ByteArray} {b : Bs} (h : RdrAt w g s b) (hr : w.there w0.heap.size 0 258) (hk : Kr g w0 w) (hg : g < w0.heap.size) (hl : w0.heap.size < w.heap.size) (t : TypeId) : Ca w0 ((w.alloc (.cells (zeroN 0) t)).setCells w.heap.size 0 (nodeC 0 noB nilS)) w.heap.size g s b (nodeC 0 noB nilS) := by
 have hb := alloc_below w (.cells (zeroN 0) t)
 refine ⟨(h.below hb).kept (by rw [size_setCells]; exact Nat.le_refl _) (heap_setCells _ _ _ (by omega) _ _), (NdAt.new w 0 t).stored (nodeC_len _ _ _), there_kept (there_later hr hb hl) (heap_setCells _ _ _ (by omega) _ _), (hk.trans (Kr.of_below hb)).news _ (by omega) _ _, hg, hl⟩
theorem oneS_eq (c : Nat) : (fun x => if x = c then true else noB x) = oneS c := by
 funext x
 unfold oneS addS noS noB
 by_cases h : x = c
 ·subst h; rw [if_pos rfl, decide_eq_true (Nat.le_refl x)]; rfl
 ·rw [if_neg h]
  by_cases h2 : c ≤ x
  ·rw [decide_eq_true h2, decide_eq_false (show ¬ x ≤ c by omega)]; rfl
  ·rw [decide_eq_false h2]; rfl
theorem dot_all (kv : Value) : nodeC 0 (addU noB 0 256) kv = nodeC 0 (turnS noS) kv := nodeC_congr (fun c hc => by unfold addU turnS noB noS; rw [decide_eq_true (Nat.zero_le c), decide_eq_true hc]; rfl) kv
theorem Back.mk1 {w w' : World} {g d : Nat} {s : ByteArray} {b b' : Bs} {S T : Nat → Bool} (hr : RdrAt w' g s b') (he : b'.err = b.err) (hp : b'.pos ≤ s.size + 12 - d) (ht : b'.err = 0 → b'.pos = b.pos ∧ nodeC 0 S nilS = nodeC 0 T nilS) (hk : Kr g w w') : Back w w' g s d (oneM b T) (.set T) (nodeC 0 S nilS) b' :=
 ⟨nodeC_len _ _ _, oneN _ _, hr, he, hp, fun h0 => ⟨(ht h0).1, by rw [(ht h0).2]; exact .set T nilS⟩, hk⟩
set_option maxHeartbeats 12800000 in
set_option maxRecDepth 100000 in
theorem atom_is (n : Nat) (heither : NdK 68 .either n) : NdK 113 .atom (n + 1) := by
 intro m hm w g s d b h he hd hp hat hs hf
 simp only [fuelM] at hf
 obtain ⟨m, rfl⟩ : ∃ m', m = m' + 1 := ⟨m - 1, by omega⟩
 obtain ⟨hps, hn124, hn41⟩ := hat rfl
 obtain ⟨r, hr⟩ : ∃ r, runM s (m + 1) .atom d b = r := ⟨_, rfl⟩
 obtain ⟨a, ha⟩ : ∃ a, reM s (m + 1) .atom .no d b = a := ⟨_, rfl⟩
 rw [hr, ha]
 rw [runM] at hr
 rw [reM] at ha
 (try dsimp only at hr ha)
 have hpk : peekM s b = some (byteM s b.pos) := rpeek_of he hps
 have hcl := byteM_lt s b.pos
 obtain ⟨c, hc⟩ : ∃ c, byteM s b.pos = c := ⟨_, rfl⟩
 rw [hc] at hr ha hpk hn124 hn41 hcl
 have HR := Lib.hid hr
 have HA := Lib.hid ha
 have HE := Lib.hid heither
 have hb1 : b.pos + 1 ≤ (stepM b).pos := Nat.le_refl _
 have hb1q : (stepM b).pos ≤ s.size := hps
 have hb1e : (stepM b).err = 0 := he
 have hgl := h.lt
 have hbx := alloc_below w (.cells (zeroN 0) 62)
 have hrx := h.below hbx
 have hth := there_new w 0 62
 have hsx : (w.alloc (.cells (zeroN 0) 62)).heap.size = w.heap.size + 1 := World.size_alloc _ _
 have kf := fun W b (h : RdrAt W g s b) => rfail_is W g s b 2 h
 have kf3 := fun W b (h : RdrAt W g s b) => rfail_is W g s b 3 h
 have KF := Lib.hid kf
 have KF3 := Lib.hid kf3
 have k1 := next_is (w.alloc (.cells (zeroN 0) 62)) g s b _ hpk hrx (by omega)
 have HB0 := Lib.hid hrx
 have HT0 := Lib.hid hth
 have HK0 := Lib.hid (Kr.of_below (g := g) hbx)
 clear hr ha heither hc h hat hpk hbx hrx hth kf kf3
 go_enter Tryz.func113, Tryz.ntmps113
 go_upto_region 1 with (with_reducible refine wpList_allocN rfl rfl _ rfl w.heap.size rfl ?_)
 go_wp2_with fail
 refine k1.mono ?_
 rintro e w1 ⟨rfl, hb⟩
 have c1 := (HB0.out.below hb).c1
 have f1 := there_free (HB0.out.below hb).th 1 (by omega)
 have h2 := (HB0.out.below hb).step
 have h2t := rthere_set (there_later HT0.out hb (by omega)) g 1 (.int .i64 ((b.pos : Int) + 1))
 have h2k := (HK0.out.trans (Kr.of_below (g := g) hb)).trans (Kr.set g w1 1 (.int .i64 ((b.pos : Int) + 1)))
 have h2s : w.heap.size < (w1.setCell ⟨g, 1, none⟩ (.int .i64 ((b.pos : Int) + 1))).heap.size := by rw [World.size_setCell]; have := hb.size; omega
 clear k1 hb HB0 HT0 HK0 hsx
 go_upto_region 3 with fail
 change Code.wp _ _ _ _ (w1.setCell ⟨g, 1, none⟩ (.int .i64 ((b.pos : Int) + 1)))
 clear c1 f1
 obtain ⟨b1, hb1x⟩ : ∃ b1, stepM b = b1 := ⟨_, rfl⟩
 rw [hb1x] at h2 hb1 hb1q hb1e HR HA
 generalize (w1.setCell ⟨g, 1, none⟩ (.int .i64 ((b.pos : Int) + 1))) = w2 at *
 have hca := Ca.new h2 h2t h2k hgl h2s 62
 have HTH : Hid ((w2.alloc (.cells (zeroN 0) 62)).there w2.heap.size 0 258) := Lib.hid (there_new w2 0 62)
 have HC := Lib.hid hca
 clear hca h2 h2t h2k hb1x
 go_upto_region 4 with (first
  | (with_reducible refine wpList_allocN rfl rfl _ rfl w2.heap.size rfl ?_)
  | ((with_reducible refine wpList_buildN rfl _ rfl _ rfl (zeroN 0) ?hf ?_); (case hf => exact node_built0))
  | ((with_reducible refine wpList_storeN rfl _ _ rfl _ rfl w2.heap.size 0 (nodeC 0 noB nilS) ?hx ?hy ?ht (nodeC_len _ _ _) (oneN _ _) ?_); (case hx => rfl); (case hy => rfl); (case ht => exact HTH.out)))
 clear HTH
 generalize w2.heap.size = nb at *
 refine wp_forget2 (fun W => Ca w W nb g s b1 (nodeC 0 noB nilS)) HC.out (fun w3 hw3 => ?_)
 clear HC
 have HC := Lib.hid hw3
 clear hw3
 by_cases e40 : c = 40
 ·subst e40
  have hr := HR.out
  have ha := HA.out
  rw [if_pos rfl] at hr ha
  by_cases ed : d = 8
  ·subst ed
   rw [if_pos rfl] at hr ha
   subst hr ha
   have kq := KF3.out _ _ HC.out.rdr
   go_wp2_with fail
   refine kq.mono ?_
   rintro e w4 ⟨rfl, hB, hs4⟩
   have H4 := Lib.hid (HC.out.stp hB hs4)
   clear kq hB hs4
   go_wp2_with (first
   | ((with_reducible refine wpList_loadN rfl _ rfl _ rfl nb 0 ?hx (nodeC 0 (noB) nilS) ?hc (nodeC_len _ _ _) ?_); (case hx => rfl); (case hc => exact H4.out.nd.at_))
   | ((with_reducible refine wpList_storeN rfl _ _ rfl _ rfl w.heap.size 0 (nodeC 0 (noB) nilS) ?hx ?hy ?ht (nodeC_len _ _ _) (oneN _ _) ?_); (case hx => rfl); (case hy => rfl); (case ht => exact H4.out.res)))
   refine bodyPost_ret (results_agg1 rfl _ _ w.heap.size (nodeC 0 (noB) nilS) (.struct _) rfl (World.rangeAt_setCells_same _ _ _ _ (by rw [show (nodeC 0 (noB) nilS).length = 258 from nodeC_len _ _ _]; exact H4.out.res)) Tryz.underlying62 rfl (by rw [show (nodeC 0 (noB) nilS).length = 258 from nodeC_len _ _ _]; exact node_size)) rfl ?_

   exact ⟨_, _, rfl, Back.mk1 (H4.out.done _).1 rfl (by rw [failM_pos]; omega) (fun h0 => absurd h0 (failM_err (by decide))) (H4.out.done _).2⟩
  ·rw [if_neg ed] at hr ha
   have hd8 : (d : Int) < 8 := by omega
   have hwd : IntKind.i64.wrap ((d : Int) + 1) = (((d + 1 : Nat)) : Int) := by rw [IntWalk.i64_in _ ⟨by omega, by omega⟩]; rfl
   have hke := HE.out m (by omega) w3 g s (d + 1) b1 HC.out.rdr hb1e (by omega) (by omega) (fun h => by cases h) hs (by simp only [fuelM]; omega)
   obtain ⟨rr, hrr⟩ : ∃ rr, runM s m .either (d + 1) b1 = rr := ⟨_, rfl⟩
   rw [hrr] at hr hke
   rw [ha] at hke
   clear hrr
   go_wp2_with fail
   refine hke.mono ?_
   rintro e w4 ⟨cs, b', rfl, hbk⟩
   have H4 := Lib.hid (HC.out.stp hbk.rdr hbk.kr)
   have HBK := Lib.hid hbk
   have hnb3 := HC.out.nd.lt
   have hnbw := HC.out.nb
   have hcl2 := hbk.len
   clear hke hbk
   go_upto_region 10 with ((with_reducible refine wpList_storeN rfl _ _ rfl _ rfl nb 0 cs ?hx ?hy ?ht HBK.out.len HBK.out.one ?_); (case hx => rfl); (case hy => rfl); (case ht => exact H4.out.nd.th))
   have hc5 := H4.out.all cs HBK.out.len
   have ht5 : b'.err = 0 → NA (w4.setCells nb 0 cs) (fun q => w3.heap.size ≤ q ∧ q < w4.heap.size) 0 [cs] a := fun h0 => ((HBK.out.tree h0).2).keep (by rw [size_setCells]; exact Nat.le_refl _) (fun q hq _ => heap_setCells _ _ _ (by omega) _ _)
   have hs5 : (w4.setCells nb 0 cs).heap.size = w4.heap.size := size_setCells _ _ _ _
   have HC5 := Lib.hid hc5
   have HT5 := Lib.hid ht5
   have HBE : Hid (b'.err = rr.1.err ∧ (b'.err = 0 → b'.pos = rr.1.pos) ∧ b'.pos ≤ s.size + 12 - (d + 1)) := Lib.hid ⟨HBK.out.err, fun h0 => (HBK.out.tree h0).1, HBK.out.pos⟩
   have HON := Lib.hid HBK.out.one
   have hbp := HBK.out.pos
   clear hc5 ht5 HBK H4 HC
   generalize (w4.setCells nb 0 cs) = w5 at *
   obtain ⟨o, ho⟩ : ∃ o, peekM s b' = o := ⟨_, rfl⟩
   have k2 := next_is w5 g s b' o ho HC5.out.rdr (by omega)
   have HPK := Lib.hid ((peek_congr (s := s) (b := b') (c := rr.1) HBE.out.1 HBE.out.2.1).symm.trans ho)
   have HO := Lib.hid ho
   clear ho
   go_wp2_with fail
   refine k2.mono ?_
   rintro e w6 ⟨rfl, hb6⟩
   have HC6 := Lib.hid (HC5.out.below hb6)
   have HT6 : Hid (b'.err = 0 → NA w6 (fun q => w.heap.size < q ∧ q < w6.heap.size ∧ q ≠ nb ∧ q ≠ g) 0 [cs] a) := Lib.hid (fun h0 => ((HT5.out h0).later hb6).mono (by
    rintro q ⟨h1, h2⟩
    have := hb6.size
    exact ⟨by omega, by omega, by omega, by omega⟩))
   clear k2 hb6 HC5 HT5
   have HRE : Hid (r.1 = closeM s rr.1) := Lib.hid (by rw [← hr])
   clear hr
   obtain ⟨B, hB⟩ : ∃ B, decide (o ≠ some 41) = B := ⟨_, rfl⟩
   go_upto_region 11 with fail
   go_cut [48] from 43 (fun v wx => v = .bool B ∧ wx = w6)
   case first =>
    rcases o with _ | c2
    ·go_wp2
     go_meet
     exact ⟨by rw [← hB]; rfl, rfl⟩
    ·by_cases g1 : c2 = 41
     ·subst g1
      go_wp2
      go_meet
      exact ⟨by rw [← hB]; rfl, rfl⟩
     ·have g1b : ((c2 : Int) != 41) = true := by simp; omega
      go_wp2
      go_meet
      exact ⟨by rw [← hB, decide_eq_true (by simpa using g1)], rfl⟩
   case rest =>
   obtain ⟨rfl, rfl⟩ := hcut
   go_upto_if 48 with fail
   go_cut [] from 43 (fun wx => ∃ bz : Bs, bz.err = (closeM s rr.1).err ∧ bz.pos + 1 ≤ s.size + 12 - d ∧ (bz.err = 0 → bz.pos = rr.1.pos) ∧ Hid (Ca w wx nb g s bz cs) ∧ Hid (bz.err = 0 → NA wx (fun q => w.heap.size < q ∧ q < wx.heap.size ∧ q ≠ nb ∧ q ≠ g) 0 [cs] a))
   case first =>
    cases B with
    | true =>
     have hne : ¬ peekM s rr.1 = some 41 := by rw [HPK.out]; exact of_decide_eq_true hB
     have kq := KF.out _ _ HC6.out.rdr
     clear hB
     go_wp2_with fail
     refine kq.mono ?_
     rintro e w7 ⟨rfl, hB7, hs7⟩
     have H7 := Lib.hid (HC6.out.stp hB7 hs7)
     clear kq hB7 hs7
     go_wp2
     go_meet
     refine ⟨failM b' 2, ?_, ?_, fun h0 => absurd h0 (failM_err (by decide)), H7, Lib.hid (fun h0 => absurd h0 (failM_err (by decide)))⟩
     ·unfold closeM
      rw [if_neg hne]
      show _ = (failM rr.1 2).err
      unfold failM
      rw [HBE.out.1]
      split <;> first | rfl | exact HBE.out.1
     ·rw [failM_pos]; have := HBE.out.2.2; omega
    | false =>
     have heq : peekM s rr.1 = some 41 := by rw [HPK.out]; have := of_decide_eq_false hB; simpa using this
     clear hB
     go_wp2
     go_meet
     refine ⟨b', ?_, by have := HBE.out.2.2; omega, HBE.out.2.1, HC6, HT6⟩
     unfold closeM
     rw [if_pos heq]
     exact HBE.out.1
   case rest =>
   obtain ⟨bz, hz1, hz2, hz3, HC7, HT7⟩ := hcut
   clear HC6 HT6 hB
   have c1 := HC7.out.rdr.c1
   have f1 := there_free HC7.out.rdr.th 1 (by omega)
   have hgs := HC7.out.rdr.lt
   go_upto_region 14 with fail
   refine wp_forget2 (fun W => Ca w W nb g s (stepM bz) cs ∧ (bz.err = 0 → NA W (fun q => w.heap.size < q ∧ q < W.heap.size ∧ q ≠ nb ∧ q ≠ g) 0 [cs] a)) ⟨HC7.out.step, fun h0 => ((HT7.out h0).keep (by simp) (fun q hq _ => Below.heap_setCell _ _ _ q hq.2.2.2)).mono (fun q hq => ⟨hq.1, by simpa using hq.2.1, hq.2.2⟩)⟩ (fun w8 hw8 => ?_)
   have HC8 := Lib.hid hw8.1
   have HT8 := Lib.hid hw8.2
   clear hw8 HC7 HT7 c1 f1
   go_wp2_with (first
   | ((with_reducible refine wpList_loadN rfl _ rfl _ rfl nb 0 ?hx cs ?hc hcl2 ?_); (case hx => rfl); (case hc => exact HC8.out.nd.at_))
   | ((with_reducible refine wpList_storeN rfl _ _ rfl _ rfl w.heap.size 0 cs ?hx ?hy ?ht hcl2 HON.out ?_); (case hx => rfl); (case hy => rfl); (case ht => exact HC8.out.res)))
   refine bodyPost_ret (results_agg1 rfl _ _ w.heap.size cs (.struct _) rfl (World.rangeAt_setCells_same _ _ _ _ (by rw [show cs.length = 258 from hcl2]; exact HC8.out.res)) Tryz.underlying62 rfl (by rw [show cs.length = 258 from hcl2]; exact node_size)) rfl ?_
   refine ⟨cs, stepM bz, rfl, hcl2, HON.out, (HC8.out.done _).1, ?_, ?_, fun h0 => ⟨?_, ((HT8.out h0).keep (by rw [size_setCells]; exact Nat.le_refl _) (fun q hq _ => heap_setCells _ _ _ (by omega) _ _)).mono (fun q hq => ⟨by omega, by rw [size_setCells]; exact hq.2.1⟩)⟩, (HC8.out.done _).2⟩
   ·rw [HRE.out]; exact hz1
   ·simp only [stepM]; omega
   ·rw [HRE.out, closeM_pos]
    have := hz3 h0
    simp only [stepM]; omega
 ·have hr := HR.out
  have ha := HA.out
  rw [if_neg e40] at hr ha
  have e40b : ((c : Int) == 40) = false := by rw [beq_eq_false_iff_ne]; omega
  clear HR HA HE KF3
  by_cases e91 : c = 91
  ·subst e91
   rw [if_pos rfl] at hr ha
   subst hr ha
   have kc := rclass_is w3 g s b1 HC.out.rdr (by omega) (by omega)
   go_wp2_with fail
   refine kc.mono ?_
   rintro e w4 ⟨S', b', rfl, h1, h2, h3, h4, hk4⟩
   have H4 := Lib.hid (HC.out.stp h1 hk4)
   clear kc HC h1 hk4
   go_wp2_with (first
   | ((with_reducible refine wpList_loadN rfl _ rfl _ rfl nb 0 ?hx (nodeC 0 (S') nilS) ?hc (nodeC_len _ _ _) ?_); (case hx => rfl); (case hc => exact H4.out.nd.at_))
   | ((with_reducible refine wpList_storeN rfl _ _ rfl _ rfl w.heap.size 0 (nodeC 0 (S') nilS) ?hx ?hy ?ht (nodeC_len _ _ _) (oneN _ _) ?_); (case hx => rfl); (case hy => rfl); (case ht => exact H4.out.res)))
   refine bodyPost_ret (results_agg1 rfl _ _ w.heap.size (nodeC 0 (S') nilS) (.struct _) rfl (World.rangeAt_setCells_same _ _ _ _ (by rw [show (nodeC 0 (S') nilS).length = 258 from nodeC_len _ _ _]; exact H4.out.res)) Tryz.underlying62 rfl (by rw [show (nodeC 0 (S') nilS).length = 258 from nodeC_len _ _ _]; exact node_size)) rfl ?_

   exact ⟨_, b', rfl, Back.mk1 (H4.out.done _).1 h2 (by omega) h4 (H4.out.done _).2⟩
  rw [if_neg e91] at hr ha
  have e91b : ((c : Int) == 91) = false := by rw [beq_eq_false_iff_ne]; omega
  by_cases e46 : c = 46
  ·subst e46
   rw [if_pos rfl] at hr ha
   subst hr ha
   go_wp2
   go_loopw [10] (fun v wr => ∃ k : Nat, v = .int .i64 (k : Nat) ∧ k ≤ 256 ∧ Hid (Ca w wr nb g s b1 (nodeC 0 (addU noB 0 k) nilS))) (fun v _ => 257 - (intOf v).toNat)
   case atStart => exact ⟨0, rfl, by omega, Lib.hid (by rw [addU_start]; exact HC.out)⟩
   case round =>
    clear HC
    obtain ⟨k, rfl, hk, HT⟩ := hrel
    by_cases hk2 : k < 256
    ·have n1 := HT.out.nd.cell (nodeC_set 0 (addU noB 0 k) nilS k hk2)
     have f1 := HT.out.nd.free (j := 1 + k) (by omega)
     have hki0 : (0 : Int) ≤ (k : Int) := by omega
     have hki1 : (k : Int) < 256 := by omega
     go_wp2
     go_roundw
     case rel => exact ⟨k + 1, by go_num, by omega, Lib.hid (by
      have := HT.out.put (1 + k) (.bool true) (by omega)
      rw [nodeC_setB 0 _ _ k hk2, addU_succ (Nat.zero_le k)] at this
      exact this)⟩
     case measure => (simp [intOf]; try omega)
    ·obtain rfl : k = 256 := by omega
     go_wp2_with (first
   | ((with_reducible refine wpList_loadN rfl _ rfl _ rfl nb 0 ?hx (nodeC 0 (addU noB 0 256) nilS) ?hc (nodeC_len _ _ _) ?_); (case hx => rfl); (case hc => exact HT.out.nd.at_))
   | ((with_reducible refine wpList_storeN rfl _ _ rfl _ rfl w.heap.size 0 (nodeC 0 (addU noB 0 256) nilS) ?hx ?hy ?ht (nodeC_len _ _ _) (oneN _ _) ?_); (case hx => rfl); (case hy => rfl); (case ht => exact HT.out.res)))
     refine bodyPost_ret (results_agg1 rfl _ _ w.heap.size (nodeC 0 (addU noB 0 256) nilS) (.struct _) rfl (World.rangeAt_setCells_same _ _ _ _ (by rw [show (nodeC 0 (addU noB 0 256) nilS).length = 258 from nodeC_len _ _ _]; exact HT.out.res)) Tryz.underlying62 rfl (by rw [show (nodeC 0 (addU noB 0 256) nilS).length = 258 from nodeC_len _ _ _]; exact node_size)) rfl ?_

     exact ⟨_, b1, rfl, Back.mk1 (HT.out.done _).1 rfl (by omega) (fun _ => ⟨rfl, dot_all _⟩) (HT.out.done _).2⟩
  rw [if_neg e46] at hr ha
  have e46b : ((c : Int) == 46) = false := by rw [beq_eq_false_iff_ne]; omega
  by_cases e92 : c = 92
  ·subst e92
   rw [if_pos rfl] at hr ha
   obtain ⟨o, ho⟩ : ∃ o, peekM s b1 = o := ⟨_, rfl⟩
   have k2 := next_is w3 g s b1 o ho HC.out.rdr (by omega)
   rw [ho] at hr ha
   have hlt : ∀ x, o = some x → x < 256 := fun x hx => rpeek_lt (ho.trans hx)
   clear ho
   go_wp2_with fail
   refine k2.mono ?_
   rintro e w4 ⟨rfl, hb4⟩
   have H4 := Lib.hid (HC.out.below hb4)
   clear k2 hb4 HC
   rcases o with _ | x
   ·dsimp only at hr ha
    subst hr ha
    have kq := KF.out _ _ H4.out.rdr
    go_wp2_with fail
    refine kq.mono ?_
    rintro e w5 ⟨rfl, hB5, hs5⟩
    have H5 := Lib.hid (H4.out.stp hB5 hs5)
    have c1 := H5.out.rdr.c1
    have f1 := there_free H5.out.rdr.th 1 (by omega)
    have hp5 : (failM b1 2).pos ≤ b1.pos := by rw [failM_pos]; exact Nat.le_refl _
    clear kq hB5 hs5 H4
    go_upto_region 28 with fail
    refine wp_forget2 (fun W => Ca w W nb g s (stepM (failM b1 2)) (nodeC 0 noB nilS)) H5.out.step (fun w6 hw6 => ?_)
    have H6 := Lib.hid hw6
    clear hw6 H5 c1 f1
    have n1 := H6.out.nd.cell (nodeC_set 0 noB nilS 0 (by omega))
    have f1 := H6.out.nd.free (j := 1) (by omega)
    go_upto_region 29 with fail
    refine wp_forget2 (fun W => Ca w W nb g s (stepM (failM b1 2)) (nodeC 0 (fun x => if x = 0 then true else noB x) nilS)) (by
     have := H6.out.put 1 (.bool true) (by omega)
     rw [show (1 : Nat) = 1 + 0 by rfl, nodeC_setB 0 _ _ 0 (by omega)] at this
     exact this) (fun w7 hw7 => ?_)
    have H7 := Lib.hid hw7
    clear hw7 H6 n1 f1
    go_wp2_with (first
   | ((with_reducible refine wpList_loadN rfl _ rfl _ rfl nb 0 ?hx (nodeC 0 (fun x => if x = 0 then true else noB x) nilS) ?hc (nodeC_len _ _ _) ?_); (case hx => rfl); (case hc => exact H7.out.nd.at_))
   | ((with_reducible refine wpList_storeN rfl _ _ rfl _ rfl w.heap.size 0 (nodeC 0 (fun x => if x = 0 then true else noB x) nilS) ?hx ?hy ?ht (nodeC_len _ _ _) (oneN _ _) ?_); (case hx => rfl); (case hy => rfl); (case ht => exact H7.out.res)))
    refine bodyPost_ret (results_agg1 rfl _ _ w.heap.size (nodeC 0 (fun x => if x = 0 then true else noB x) nilS) (.struct _) rfl (World.rangeAt_setCells_same _ _ _ _ (by rw [show (nodeC 0 (fun x => if x = 0 then true else noB x) nilS).length = 258 from nodeC_len _ _ _]; exact H7.out.res)) Tryz.underlying62 rfl (by rw [show (nodeC 0 (fun x => if x = 0 then true else noB x) nilS).length = 258 from nodeC_len _ _ _]; exact node_size)) rfl ?_

    exact ⟨_, _, rfl, Back.mk1 (H7.out.done _).1 rfl (by simp only [stepM]; omega) (fun h0 => absurd h0 (failM_err (by decide))) (H7.out.done _).2⟩
   ·have hx := hlt x rfl
    (try dsimp only at hr ha)
    subst hr ha
    have c1 := H4.out.rdr.c1
    have f1 := there_free H4.out.rdr.th 1 (by omega)
    go_upto_region 28 with fail
    refine wp_forget2 (fun W => Ca w W nb g s (stepM b1) (nodeC 0 noB nilS)) H4.out.step (fun w6 hw6 => ?_)
    have H6 := Lib.hid hw6
    clear hw6 H4 c1 f1
    have n1 := H6.out.nd.cell (nodeC_set 0 noB nilS x hx)
    have f1 := H6.out.nd.free (j := 1 + x) (by omega)
    go_upto_region 29 with fail
    refine wp_forget2 (fun W => Ca w W nb g s (stepM b1) (nodeC 0 (fun y => if y = x then true else noB y) nilS)) (by
     have := H6.out.put (1 + x) (.bool true) (by omega)
     rw [nodeC_setB 0 _ _ x hx] at this
     exact this) (fun w7 hw7 => ?_)
    have H7 := Lib.hid hw7
    clear hw7 H6 n1 f1
    go_wp2_with (first
   | ((with_reducible refine wpList_loadN rfl _ rfl _ rfl nb 0 ?hx (nodeC 0 (fun y => if y = x then true else noB y) nilS) ?hc (nodeC_len _ _ _) ?_); (case hx => rfl); (case hc => exact H7.out.nd.at_))
   | ((with_reducible refine wpList_storeN rfl _ _ rfl _ rfl w.heap.size 0 (nodeC 0 (fun y => if y = x then true else noB y) nilS) ?hx ?hy ?ht (nodeC_len _ _ _) (oneN _ _) ?_); (case hx => rfl); (case hy => rfl); (case ht => exact H7.out.res)))
    refine bodyPost_ret (results_agg1 rfl _ _ w.heap.size (nodeC 0 (fun y => if y = x then true else noB y) nilS) (.struct _) rfl (World.rangeAt_setCells_same _ _ _ _ (by rw [show (nodeC 0 (fun y => if y = x then true else noB y) nilS).length = 258 from nodeC_len _ _ _]; exact H7.out.res)) Tryz.underlying62 rfl (by rw [show (nodeC 0 (fun y => if y = x then true else noB y) nilS).length = 258 from nodeC_len _ _ _]; exact node_size)) rfl ?_

    exact ⟨_, _, rfl, Back.mk1 (H7.out.done _).1 rfl (by simp only [stepM]; omega) (fun _ => ⟨rfl, by rw [oneS_eq]⟩) (H7.out.done _).2⟩
  rw [if_neg e92] at hr ha
  have e92b : ((c : Int) == 92) = false := by rw [beq_eq_false_iff_ne]; omega
  by_cases eo : oddB c = true
  ·rw [if_pos eo] at hr ha
   subst hr ha
   have h4 : c = 42 ∨ c = 43 ∨ c = 63 ∨ c = 93 := by
    simp only [oddB, postB, Bool.or_eq_true, decide_eq_true_eq] at eo
    omega
   have hc2 : c < 256 := hcl
   clear eo
   have kq := KF.out _ _ HC.out.rdr
   have hp5 : (failM b1 2).pos ≤ b1.pos := by rw [failM_pos]; exact Nat.le_refl _
   rcases h4 with rfl | rfl | rfl | rfl
   ·go_wp2_with fail
    refine kq.mono ?_
    rintro e w5 ⟨rfl, hB5, hs5⟩
    have H5 := Lib.hid (HC.out.stp hB5 hs5)
    clear kq hB5 hs5 HC
    have n1 := H5.out.nd.cell (nodeC_set 0 noB nilS 42 (by omega))
    have f1 := H5.out.nd.free (j := 1 + 42) (by omega)
    simp only [Nat.reduceAdd] at n1 f1
    go_upto_region 36 with fail
    refine wp_forget2 (fun W => Ca w W nb g s (failM b1 2) (nodeC 0 (fun x => if x = 42 then true else noB x) nilS)) (by
     have := H5.out.put (1 + 42) (.bool true) (by omega)
     rw [nodeC_setB 0 _ _ 42 (by omega)] at this
     exact this) (fun w7 hw7 => ?_)
    have H7 := Lib.hid hw7
    clear hw7 H5 n1 f1
    go_wp2_with (first
   | ((with_reducible refine wpList_loadN rfl _ rfl _ rfl nb 0 ?hx (nodeC 0 (fun x => if x = 42 then true else noB x) nilS) ?hc (nodeC_len _ _ _) ?_); (case hx => rfl); (case hc => exact H7.out.nd.at_))
   | ((with_reducible refine wpList_storeN rfl _ _ rfl _ rfl w.heap.size 0 (nodeC 0 (fun x => if x = 42 then true else noB x) nilS) ?hx ?hy ?ht (nodeC_len _ _ _) (oneN _ _) ?_); (case hx => rfl); (case hy => rfl); (case ht => exact H7.out.res)))
    refine bodyPost_ret (results_agg1 rfl _ _ w.heap.size (nodeC 0 (fun x => if x = 42 then true else noB x) nilS) (.struct _) rfl (World.rangeAt_setCells_same _ _ _ _ (by rw [show (nodeC 0 (fun x => if x = 42 then true else noB x) nilS).length = 258 from nodeC_len _ _ _]; exact H7.out.res)) Tryz.underlying62 rfl (by rw [show (nodeC 0 (fun x => if x = 42 then true else noB x) nilS).length = 258 from nodeC_len _ _ _]; exact node_size)) rfl ?_
    exact ⟨_, _, rfl, Back.mk1 (H7.out.done _).1 rfl (by omega) (fun h0 => absurd h0 (failM_err (by decide))) (H7.out.done _).2⟩
   ·go_wp2_with fail
    refine kq.mono ?_
    rintro e w5 ⟨rfl, hB5, hs5⟩
    have H5 := Lib.hid (HC.out.stp hB5 hs5)
    clear kq hB5 hs5 HC
    have n1 := H5.out.nd.cell (nodeC_set 0 noB nilS 43 (by omega))
    have f1 := H5.out.nd.free (j := 1 + 43) (by omega)
    simp only [Nat.reduceAdd] at n1 f1
    go_upto_region 36 with fail
    refine wp_forget2 (fun W => Ca w W nb g s (failM b1 2) (nodeC 0 (fun x => if x = 43 then true else noB x) nilS)) (by
     have := H5.out.put (1 + 43) (.bool true) (by omega)
     rw [nodeC_setB 0 _ _ 43 (by omega)] at this
     exact this) (fun w7 hw7 => ?_)
    have H7 := Lib.hid hw7
    clear hw7 H5 n1 f1
    go_wp2_with (first
   | ((with_reducible refine wpList_loadN rfl _ rfl _ rfl nb 0 ?hx (nodeC 0 (fun x => if x = 43 then true else noB x) nilS) ?hc (nodeC_len _ _ _) ?_); (case hx => rfl); (case hc => exact H7.out.nd.at_))
   | ((with_reducible refine wpList_storeN rfl _ _ rfl _ rfl w.heap.size 0 (nodeC 0 (fun x => if x = 43 then true else noB x) nilS) ?hx ?hy ?ht (nodeC_len _ _ _) (oneN _ _) ?_); (case hx => rfl); (case hy => rfl); (case ht => exact H7.out.res)))
    refine bodyPost_ret (results_agg1 rfl _ _ w.heap.size (nodeC 0 (fun x => if x = 43 then true else noB x) nilS) (.struct _) rfl (World.rangeAt_setCells_same _ _ _ _ (by rw [show (nodeC 0 (fun x => if x = 43 then true else noB x) nilS).length = 258 from nodeC_len _ _ _]; exact H7.out.res)) Tryz.underlying62 rfl (by rw [show (nodeC 0 (fun x => if x = 43 then true else noB x) nilS).length = 258 from nodeC_len _ _ _]; exact node_size)) rfl ?_
    exact ⟨_, _, rfl, Back.mk1 (H7.out.done _).1 rfl (by omega) (fun h0 => absurd h0 (failM_err (by decide))) (H7.out.done _).2⟩
   ·go_wp2_with fail
    refine kq.mono ?_
    rintro e w5 ⟨rfl, hB5, hs5⟩
    have H5 := Lib.hid (HC.out.stp hB5 hs5)
    clear kq hB5 hs5 HC
    have n1 := H5.out.nd.cell (nodeC_set 0 noB nilS 63 (by omega))
    have f1 := H5.out.nd.free (j := 1 + 63) (by omega)
    simp only [Nat.reduceAdd] at n1 f1
    go_upto_region 36 with fail
    refine wp_forget2 (fun W => Ca w W nb g s (failM b1 2) (nodeC 0 (fun x => if x = 63 then true else noB x) nilS)) (by
     have := H5.out.put (1 + 63) (.bool true) (by omega)
     rw [nodeC_setB 0 _ _ 63 (by omega)] at this
     exact this) (fun w7 hw7 => ?_)
    have H7 := Lib.hid hw7
    clear hw7 H5 n1 f1
    go_wp2_with (first
   | ((with_reducible refine wpList_loadN rfl _ rfl _ rfl nb 0 ?hx (nodeC 0 (fun x => if x = 63 then true else noB x) nilS) ?hc (nodeC_len _ _ _) ?_); (case hx => rfl); (case hc => exact H7.out.nd.at_))
   | ((with_reducible refine wpList_storeN rfl _ _ rfl _ rfl w.heap.size 0 (nodeC 0 (fun x => if x = 63 then true else noB x) nilS) ?hx ?hy ?ht (nodeC_len _ _ _) (oneN _ _) ?_); (case hx => rfl); (case hy => rfl); (case ht => exact H7.out.res)))
    refine bodyPost_ret (results_agg1 rfl _ _ w.heap.size (nodeC 0 (fun x => if x = 63 then true else noB x) nilS) (.struct _) rfl (World.rangeAt_setCells_same _ _ _ _ (by rw [show (nodeC 0 (fun x => if x = 63 then true else noB x) nilS).length = 258 from nodeC_len _ _ _]; exact H7.out.res)) Tryz.underlying62 rfl (by rw [show (nodeC 0 (fun x => if x = 63 then true else noB x) nilS).length = 258 from nodeC_len _ _ _]; exact node_size)) rfl ?_
    exact ⟨_, _, rfl, Back.mk1 (H7.out.done _).1 rfl (by omega) (fun h0 => absurd h0 (failM_err (by decide))) (H7.out.done _).2⟩
   ·go_wp2_with fail
    refine kq.mono ?_
    rintro e w5 ⟨rfl, hB5, hs5⟩
    have H5 := Lib.hid (HC.out.stp hB5 hs5)
    clear kq hB5 hs5 HC
    have n1 := H5.out.nd.cell (nodeC_set 0 noB nilS 93 (by omega))
    have f1 := H5.out.nd.free (j := 1 + 93) (by omega)
    simp only [Nat.reduceAdd] at n1 f1
    go_upto_region 36 with fail
    refine wp_forget2 (fun W => Ca w W nb g s (failM b1 2) (nodeC 0 (fun x => if x = 93 then true else noB x) nilS)) (by
     have := H5.out.put (1 + 93) (.bool true) (by omega)
     rw [nodeC_setB 0 _ _ 93 (by omega)] at this
     exact this) (fun w7 hw7 => ?_)
    have H7 := Lib.hid hw7
    clear hw7 H5 n1 f1
    go_wp2_with (first
   | ((with_reducible refine wpList_loadN rfl _ rfl _ rfl nb 0 ?hx (nodeC 0 (fun x => if x = 93 then true else noB x) nilS) ?hc (nodeC_len _ _ _) ?_); (case hx => rfl); (case hc => exact H7.out.nd.at_))
   | ((with_reducible refine wpList_storeN rfl _ _ rfl _ rfl w.heap.size 0 (nodeC 0 (fun x => if x = 93 then true else noB x) nilS) ?hx ?hy ?ht (nodeC_len _ _ _) (oneN _ _) ?_); (case hx => rfl); (case hy => rfl); (case ht => exact H7.out.res)))
    refine bodyPost_ret (results_agg1 rfl _ _ w.heap.size (nodeC 0 (fun x => if x = 93 then true else noB x) nilS) (.struct _) rfl (World.rangeAt_setCells_same _ _ _ _ (by rw [show (nodeC 0 (fun x => if x = 93 then true else noB x) nilS).length = 258 from nodeC_len _ _ _]; exact H7.out.res)) Tryz.underlying62 rfl (by rw [show (nodeC 0 (fun x => if x = 93 then true else noB x) nilS).length = 258 from nodeC_len _ _ _]; exact node_size)) rfl ?_
    exact ⟨_, _, rfl, Back.mk1 (H7.out.done _).1 rfl (by omega) (fun h0 => absurd h0 (failM_err (by decide))) (H7.out.done _).2⟩
  ·rw [if_neg eo] at hr ha
   subst hr ha
   have g1 : ((c : Int) == 42) = false := by rw [beq_eq_false_iff_ne]; intro h; apply eo; simp [oddB, postB]; omega
   have g2 : ((c : Int) == 43) = false := by rw [beq_eq_false_iff_ne]; intro h; apply eo; simp [oddB, postB]; omega
   have g3 : ((c : Int) == 63) = false := by rw [beq_eq_false_iff_ne]; intro h; apply eo; simp [oddB, postB]; omega
   have g4 : ((c : Int) == 93) = false := by rw [beq_eq_false_iff_ne]; intro h; apply eo; simp [oddB, postB]; omega
   have n1 := HC.out.nd.cell (nodeC_set 0 noB nilS c hcl)
   have f1 := HC.out.nd.free (j := 1 + c) (by omega)
   clear eo
   go_upto_region 36 with fail
   refine wp_forget2 (fun W => Ca w W nb g s b1 (nodeC 0 (fun y => if y = c then true else noB y) nilS)) (by
    have := HC.out.put (1 + c) (.bool true) (by omega)
    rw [nodeC_setB 0 _ _ c hcl] at this
    exact this) (fun w7 hw7 => ?_)
   have H7 := Lib.hid hw7
   clear hw7 n1 f1
   go_wp2_with (first
   | ((with_reducible refine wpList_loadN rfl _ rfl _ rfl nb 0 ?hx (nodeC 0 (fun y => if y = c then true else noB y) nilS) ?hc (nodeC_len _ _ _) ?_); (case hx => rfl); (case hc => exact H7.out.nd.at_))
   | ((with_reducible refine wpList_storeN rfl _ _ rfl _ rfl w.heap.size 0 (nodeC 0 (fun y => if y = c then true else noB y) nilS) ?hx ?hy ?ht (nodeC_len _ _ _) (oneN _ _) ?_); (case hx => rfl); (case hy => rfl); (case ht => exact H7.out.res)))
   refine bodyPost_ret (results_agg1 rfl _ _ w.heap.size (nodeC 0 (fun y => if y = c then true else noB y) nilS) (.struct _) rfl (World.rangeAt_setCells_same _ _ _ _ (by rw [show (nodeC 0 (fun y => if y = c then true else noB y) nilS).length = 258 from nodeC_len _ _ _]; exact H7.out.res)) Tryz.underlying62 rfl (by rw [show (nodeC 0 (fun y => if y = c then true else noB y) nilS).length = 258 from nodeC_len _ _ _]; exact node_size)) rfl ?_

   exact ⟨_, _, rfl, Back.mk1 (H7.out.done _).1 rfl (by omega) (fun _ => ⟨rfl, by rw [oneS_eq]⟩) (H7.out.done _).2⟩
end Go.Proofs.YtgbapkechngnmaaGreat
/- The reference's Read: a contract. -/
namespace Go.Proofs.YtgbapkechngnmaaGreat
open Go.RowKit

theorem nd_all : ∀ n, NdK 68 .either n ∧ NdK 89 .row n ∧ NdK 113 .atom n
 | 0 => ⟨fun m hm w g s d b _ _ _ _ _ _ hf => by simp only [fuelM] at hf; omega, fun m hm w g s d b _ _ _ _ _ _ hf => by simp only [fuelM] at hf; omega, fun m hm w g s d b _ _ _ _ _ _ hf => by simp only [fuelM] at hf; omega⟩
 | n + 1 => ⟨either_is n (nd_all n).2.1, row_is n (nd_all n).2.2, atom_is n (nd_all n).1⟩
structure Rz (w wx : World) (nb : Nat) (s : ByteArray) (b : Bs) (cs : List Value) (ok : Prop) (a : Re) : Prop where
 rdr : RdrAt wx (w.heap.size + 1) s b
 nd : NdAt wx nb cs
 res : wx.there w.heap.size 0 258
 bl : Below w.heap.size w wx
 hn : w.heap.size + 1 < nb
 one : ∀ y ∈ cs, y.oneCell' = true
 tree : ok → NA wx (fun q => w.heap.size + 2 ≤ q ∧ q < wx.heap.size) 0 [cs] a
theorem Rz.below {w wx wy : World} {nb : Nat} {s : ByteArray} {b : Bs} {cs : List Value} {ok : Prop} {a : Re} (h : Rz w wx nb s b cs ok a) (hb : Below wx.heap.size wx wy) : Rz w wy nb s b cs ok a :=
 ⟨h.rdr.below hb, h.nd.later hb, there_later h.res hb (by have := h.nd.lt; have := h.hn; omega), h.bl.trans (hb.mono h.bl.size), h.hn, h.one, fun o => ((h.tree o).later hb).mono (fun _ hq => ⟨hq.1, by have := hb.size; omega⟩)⟩
theorem Rz.stp {w wx wy : World} {nb : Nat} {s : ByteArray} {b b' : Bs} {cs : List Value} {ok : Prop} {a : Re} (h : Rz w wx nb s b cs ok a) (hr : RdrAt wy (w.heap.size + 1) s b') (hk : Kr (w.heap.size + 1) wx wy) : Rz w wy nb s b' cs ok a :=
 ⟨hr, h.nd.kr hk (by have := h.hn; omega), there_kept h.res (hk.block _ (by have := h.nd.lt; have := h.hn; omega) (by omega)), h.bl.trans (hk.below h.bl.size (fun k e => by omega)), h.hn, h.one, fun o => ((h.tree o).keep hk.size (fun q hq hlt => hk.block q hlt (by omega))).mono (fun _ hq => ⟨hq.1, by have := hk.size; omega⟩)⟩
theorem Rz.fin {w wx : World} {nb : Nat} {s : ByteArray} {b : Bs} {cs : List Value} {ok : Prop} {a : Re} (h : Rz w wx nb s b cs ok a) (vs : List Value) : RdrAt (wx.setCells w.heap.size 0 vs) (w.heap.size + 1) s b ∧ Below w.heap.size w (wx.setCells w.heap.size 0 vs) ∧ (ok → NA (wx.setCells w.heap.size 0 vs) (fun q => w.heap.size ≤ q ∧ q < (wx.setCells w.heap.size 0 vs).heap.size) 0 [cs] a) :=
 ⟨h.rdr.kept (by rw [size_setCells]; exact Nat.le_refl _) (heap_setCells _ _ _ (by omega) _ _), below_puts h.bl (Nat.le_refl _) vs, fun o => ((h.tree o).keep (w' := wx.setCells w.heap.size 0 vs) (by rw [size_setCells]; exact Nat.le_refl _) (fun q hq _ => heap_setCells _ _ _ (by omega) _ _)).mono (fun q hq => ⟨by omega, by rw [size_setCells]; exact hq.2⟩)⟩
theorem endR_err {s : ByteArray} {b : Bs} (he : b.err = (runR s).1.err) (hp : b.err = 0 → b.pos = (runR s).1.pos) : (endR s).err = if b.err = 0 ∧ b.pos < s.size then 2 else b.err := by
 unfold endR
 by_cases h0 : b.err = 0
 ·rw [← hp h0]
  by_cases h1 : b.pos < s.size
  ·rw [if_pos h1, if_pos ⟨h0, h1⟩]
   unfold failM
   rw [← he, if_pos h0]
  ·rw [if_neg h1, if_neg (fun h => h1 h.2)]
   exact he.symm
 ·have hn : ¬ (b.err = 0 ∧ b.pos < s.size) := fun h => h0 h.1
  rw [if_neg hn, he]
  split
  ·unfold failM
   rw [← he, if_neg h0]
   exact he.symm
  ·rfl
set_option maxHeartbeats 6400000 in
set_option maxRecDepth 100000 in
theorem rread_any (s : ByteArray) (w : World) :
  Calls Tryz.prog 41 #[.string s] w fun e w' => ∃ cs, e = .returned (.tuple #[.agg cs.toArray, .int .i64 (errM s)]) ∧ cs.length = 258 ∧ (∀ y ∈ cs, y.oneCell' = true) ∧ (errM s = 0 → NA w' (fun q => w.heap.size ≤ q ∧ q < w'.heap.size) 0 [cs] (reT s)) ∧ Below w.heap.size w w' := by
 have hT := there_new w 0 62
 have hB := alloc_below w (.cells (zeroN 0) 62)
 by_cases hl : 100 < s.size
 ·have hl1 : (100 : Int) < (s.size : Int) := by omega
  have HE : Hid (errM s = 4) := Lib.hid (by unfold errM; rw [if_pos hl])
  have HT := Lib.hid hT
  have HB := Lib.hid hB
  clear hT hB
  go_enter Tryz.func41, Tryz.ntmps41
  go_wp2_with (first
   | (with_reducible refine wpList_allocN rfl rfl _ rfl w.heap.size rfl ?_)
   | ((with_reducible refine wpList_storeN rfl _ _ rfl _ rfl w.heap.size 0 (nodeC 0 noB nilS) ?hx ?hy ?ht (nodeC_len _ _ _) (oneN _ _) ?_); (case hx => rfl); (case hy => rfl); (case ht => exact HT.out)))
  refine bodyPost_ret (results_agg2 rfl _ _ w.heap.size (nodeC 0 noB nilS) (.struct _) rfl (World.rangeAt_setCells_same _ _ _ _ (by rw [nodeC_len]; exact HT.out)) Tryz.underlying62 rfl (by rw [nodeC_len]; exact node_size)) rfl ?_
  refine ⟨nodeC 0 noB nilS, ?_, nodeC_len _ _ _, oneN _ _, fun h0 => ?_, below_puts HB.out (Nat.le_refl _) _⟩
  ·rw [HE.out]; rfl
  ·rw [HE.out] at h0; exact absurd h0 (by decide)
 ·have hl1 : (s.size : Int) ≤ 100 := by omega
  have HL : Hid (¬ 100 < s.size) := Lib.hid hl
  have HEE : Hid (errM s = (endR s).err) := Lib.hid (by unfold errM; rw [if_neg hl])
  have hb2 := hB.trans ((alloc_below (w.alloc (.cells (zeroN 0) 62)) (.cells #[.string s, .int .i64 0, .int .i64 0] 89)).mono hB.size)
  have hsz : ((w.alloc (.cells (zeroN 0) 62)).alloc (.cells #[.string s, .int .i64 0, .int .i64 0] 89)).heap.size = w.heap.size + 2 := by rw [World.size_alloc, World.size_alloc]
  have hrd : RdrAt ((w.alloc (.cells (zeroN 0) 62)).alloc (.cells #[.string s, .int .i64 0, .int .i64 0] 89)) (w.heap.size + 1) s bs0 := by
   have hr := Below.refl ((w.alloc (.cells (zeroN 0) 62)).alloc (.cells #[.string s, .int .i64 0, .int .i64 0] 89)).heap.size ((w.alloc (.cells (zeroN 0) 62)).alloc (.cells #[.string s, .int .i64 0, .int .i64 0] 89))
   have h0 := (box_cells hr).1 0 _ rfl
   have h1 := (box_cells hr).1 1 _ rfl
   have h2 := (box_cells hr).1 2 _ rfl
   have ht := box_there hr
   rw [World.size_alloc] at h0 h1 h2 ht
   exact ⟨h0, h1, h2, ht, by rw [hsz]; omega⟩
  have ht2 := there_later hT (alloc_below _ (.cells #[.string s, .int .i64 0, .int .i64 0] 89)) (by rw [World.size_alloc]; omega)
  obtain ⟨W2, hW2⟩ : ∃ W2, ((w.alloc (.cells (zeroN 0) 62)).alloc (.cells #[.string s, .int .i64 0, .int .i64 0] 89)) = W2 := ⟨_, rfl⟩
  rw [hW2] at hb2 hsz hrd ht2
  have ke := (nd_all (8 * s.size + 5)).1 _ (Nat.le_refl _) W2 (w.heap.size + 1) s 0 bs0 hrd rfl (by omega) (by simp [bs0]) (fun h => by cases h) (by omega) (by simp [fuelM, bs0])
  have HB2 := Lib.hid hb2
  have HT2 := Lib.hid ht2
  clear hb2 hrd ht2 hT hB
  go_enter Tryz.func41, Tryz.ntmps41
  go_upto_region 4 with (with_reducible refine wpList_allocN rfl rfl _ rfl w.heap.size rfl ?_)
  (try simp only [World.size_alloc])
  (try rw [hW2])
  clear hW2
  go_wp2_with fail
  refine ke.mono ?_
  rintro e w3 ⟨cs, b', rfl, hbk⟩
  have hn3 := NdAt.new w3 0 62
  have hs3 := hbk.kr.size
  have hrz : Rz w ((w3.alloc (.cells (zeroN 0) 62)).setCells w3.heap.size 0 cs) w3.heap.size s b' cs (b'.err = 0) (reT s) := by
   have hba := alloc_below w3 (.cells (zeroN 0) 62)
   have hbl3 : Below w.heap.size w w3 := HB2.out.trans (hbk.kr.below HB2.out.size (fun k e => by omega))
   have hlt := hbk.rdr.lt
   refine ⟨(hbk.rdr.below hba).kept (by rw [size_setCells]; exact Nat.le_refl _) (heap_setCells _ _ _ (by omega) _ _), hn3.stored hbk.len, there_kept (there_later (there_kept HT2.out (hbk.kr.block _ (by omega) (by omega))) hba (by omega)) (heap_setCells _ _ _ (by omega) _ _), below_puts (hbl3.trans (hba.mono hbl3.size)) (by omega) _, by omega, hbk.one, fun h0 => ?_⟩
   refine (((hbk.tree h0).2.later hba).keep (w' := (w3.alloc (.cells (zeroN 0) 62)).setCells w3.heap.size 0 cs) (by rw [size_setCells]; exact Nat.le_refl _) (fun q hq _ => heap_setCells _ _ _ (by omega) _ _)).mono (fun q hq => ⟨by omega, by rw [size_setCells, World.size_alloc]; omega⟩)
  have HTH := Lib.hid hn3.th
  have HLN := Lib.hid hbk.len
  have HON := Lib.hid hbk.one
  have HEN := Lib.hid (endR_err hbk.err (fun h0 => (hbk.tree h0).1))
  have hbp := hbk.pos
  clear ke hbk hn3 hs3 hsz HB2 HT2
  go_upto_region 5 with (first
   | (with_reducible refine wpList_allocN rfl rfl _ rfl w3.heap.size rfl ?_)
   | ((with_reducible refine wpList_storeN rfl _ _ rfl _ rfl w3.heap.size 0 cs ?hx ?hy ?ht HLN.out HON.out ?_); (case hx => rfl); (case hy => rfl); (case ht => exact HTH.out)))
  clear HTH
  (try simp only [Act.put, List.setIfInBounds_toArray, List.set_cons_zero, List.set_cons_succ])
  generalize ((w3.alloc (.cells (zeroN 0) 62)).setCells w3.heap.size 0 cs) = w4 at *
  generalize w3.heap.size = nb at *
  have HZ := Lib.hid hrz
  clear hrz
  obtain ⟨B, hB⟩ : ∃ B, decide (b'.err = 0 ∧ b'.pos < s.size) = B := ⟨_, rfl⟩
  have HBB := Lib.hid hB
  clear hB
  go_cut [31] from 32 (fun v wx => v = .bool B ∧ Hid (Rz w wx nb s b' cs (b'.err = 0) (reT s)))
  case first =>
   have c0 := HZ.out.rdr.c0
   have c1 := HZ.out.rdr.c1
   have c2 := HZ.out.rdr.c2
   by_cases h0 : b'.err = 0
   ·have hpe : decide (b'.pos < s.size) = B := by rw [← HBB.out]; exact decide_eq_decide.2 ⟨fun h => ⟨h0, h⟩, fun h => h.2⟩
    have hpi : decide ((b'.pos : Int) < (s.size : Int)) = B := by rw [← hpe]; exact decide_eq_decide.2 (by omega)
    rw [h0] at c2
    have HPE := Lib.hid hpe
    clear hpe h0
    go_big_quiet (fail)
    go_wp2
    go_meet
    exact ⟨by first | rfl | exact congrArg Value.bool HPE.out, Lib.hid (HZ.out.below (bl_drewN (Below.refl _ _) _))⟩
   ·have hbf : false = B := by rw [← HBB.out]; exact (decide_eq_false (fun h => h0 h.1)).symm
    have h0b : (b'.err == 0) = false := by rw [beq_eq_false_iff_ne]; exact h0
    clear h0
    subst hbf
    go_big_quiet (fail)
    go_wp2
    go_meet
    exact ⟨rfl, Lib.hid (HZ.out.below (bl_drewN (Below.refl _ _) _))⟩
  case rest =>
  obtain ⟨rfl, HY⟩ := hcut
  clear HZ
  go_upto_if 31 with fail
  go_cut [] from 32 (fun wx => ∃ bz : Bs, bz.err = errM s ∧ Hid (Rz w wx nb s bz cs (errM s = 0) (reT s)))
  case first =>
   cases B with
   | true =>
    have h1 := of_decide_eq_true HBB.out
    have kq := rfail_is wc (w.heap.size + 1) s b' 2 HY.out.rdr
    go_wp2_with fail
    refine kq.mono ?_
    rintro e w5 ⟨rfl, hB5, hs5⟩
    have hz := HY.out.stp hB5 hs5
    clear kq
    go_wp2
    go_meet
    have he : errM s = 2 := by rw [HEE.out, HEN.out, if_pos h1]
    refine ⟨failM b' 2, ?_, Lib.hid ⟨hz.rdr, hz.nd, hz.res, hz.bl, hz.hn, hz.one, fun h0 => absurd (he.symm.trans h0) (by decide)⟩⟩
    rw [he]
    unfold failM
    rw [if_pos h1.1]
   | false =>
    have h1 := of_decide_eq_false HBB.out
    go_wp2
    go_meet
    have he : errM s = b'.err := by rw [HEE.out, HEN.out, if_neg h1]
    exact ⟨b', he.symm, Lib.hid (by rw [he]; exact HY.out)⟩
  case rest =>
  obtain ⟨bz, hbz, HX⟩ := hcut
  have HBZ := Lib.hid hbz
  clear HY HBB hbz
  have c2 := HX.out.rdr.c2
  by_cases h0 : bz.err = 0
  ·have HE0 : Hid (errM s = 0) := Lib.hid (HBZ.out.symm.trans h0)
   rw [h0] at c2
   go_wp2_with (first
    | ((with_reducible refine wpList_loadN rfl _ rfl _ rfl nb 0 ?hx cs ?hc HLN.out ?_); (case hx => rfl); (case hc => exact HX.out.nd.at_))
    | ((with_reducible refine wpList_storeN rfl _ _ rfl _ rfl w.heap.size 0 cs ?hx ?hy ?ht HLN.out HON.out ?_); (case hx => rfl); (case hy => rfl); (case ht => exact HX.out.res)))
   refine bodyPost_ret (results_agg2 rfl _ _ w.heap.size cs (.struct _) rfl (World.rangeAt_setCells_same _ _ _ _ (by rw [HLN.out]; exact HX.out.res)) Tryz.underlying62 rfl (by rw [HLN.out]; exact node_size)) rfl ?_
   have hf := HX.out.fin cs
   exact ⟨cs, by rw [HE0.out]; rfl, HLN.out, HON.out, fun h => hf.2.2 h, hf.2.1⟩
  ·have h0b : (bz.err != 0) = true := by simpa using h0
   have HNE : Hid (¬ errM s = 0) := Lib.hid (fun h => h0 (HBZ.out.trans h))
   clear h0
   have HXD := Lib.hid (HX.out.below ((Below.refl _ _).drew))
   go_upto_region 8 with fail
   refine wp_region_held_drew (S := (fun W => W.cell? ⟨w.heap.size + 1, 2, none⟩ = some (.int .i64 bz.err))) (by kernel_rfl) HX.out.rdr.c2 (fun hHeld => ?_)
   refine plIn [0, 1, 2, 3, 4] ?_
   iterate 5
    refine hP (v := ?_) rfl rfl hHeld ?_ ?_
    rotate_left
    ·rintro wh hS
     go_simp
     (try with_reducible rfl)
    simp only [Act.put, List.setIfInBounds_toArray, List.set_cons_zero, List.set_cons_succ]
   refine plOut ?_
   refine held_step (i := 5) rfl (by kernel_rfl) (fun K hK => ?_)
   rw [if_pos (by rfl)]; refine wp_store_mid 62 _ _ rfl w.heap.size 0 (nodeC 0 noB nilS).toArray ?hx ?hy ?ht ?hi ?h1 ?_; (case hx => rfl); (case hy => rfl); (case ht => simp only [List.size_toArray, nodeC_len]; exact HXD.out.res); (case hi => simp only [List.size_toArray, nodeC_len]; exact node_size); (case h1 => exact all_oneCell_toArray (oneN 0 noB)); simp only [List.getElem_toArray, List.getElem_cons_succ, List.getElem_cons_zero, Act.put]
   refine hK.out _ _ (HXD.out.fin (nodeC 0 noB nilS)).1.c2 (fun hHeld => ?_)
   clear hK K
   (try simp only [Act.put, List.setIfInBounds_toArray])
   refine hT (i := 6) (v := ?_) rfl rfl hHeld ?_ ?_
   rotate_left
   ·rintro wh hS
    go_simp
    (try with_reducible rfl)
   simp only [Act.put, List.setIfInBounds_toArray, List.set_cons_zero, List.set_cons_succ]
   refine wpAnyH_done (by kernel_rfl) ?_ _
   go_wp2
   refine bodyPost_ret (results_agg2 rfl _ _ w.heap.size (nodeC 0 noB nilS) (.struct _) rfl (World.rangeAt_setCells_same _ _ _ _ (by rw [nodeC_len]; exact HXD.out.res)) Tryz.underlying62 rfl (by rw [nodeC_len]; exact node_size)) rfl ?_
   have hf := HXD.out.fin (nodeC 0 noB nilS)
   exact ⟨nodeC 0 noB nilS, by rw [← HBZ.out]; rfl, nodeC_len _ _ _, oneN _ _, fun h => absurd h HNE.out, hf.2.1⟩
end Go.Proofs.YtgbapkechngnmaaGreat
/- Rows of Booleans; lychgateref05.both: a contract. -/
namespace Go.Proofs.YtgbapkechngnmaaGreat
open Go.RowKit

theorem wp_forget3 {Pr : Program} {Q : Exit → Act → World → Prop} {c : Code} {a : Act} {W : World} (P : World → Prop) (h : P W) (k : ∀ W', P W' → Code.wp Pr c Q a W') : Code.wp Pr c Q a W := k W h
def BsAt (w : World) (v : Value) (n : Nat) (X : Nat → Bool) : Prop := ∃ b, v = .slice (some ⟨b, 0, none⟩) n n ∧ w.rowIs b 4 n (fun j => .bool (X j))
theorem BsAt.later {w w' : World} {v : Value} {n : Nat} {X : Nat → Bool} (h : BsAt w v n X) (hb : Below w.heap.size w w') : BsAt w' v n X := by
 obtain ⟨b, e, hr⟩ := h
 exact ⟨b, e, hr.of_block (hb.block b hr.lt)⟩
theorem info_bool : (Tryz.prog.info? 4).map (fun i => (i.zero, i.size, i.bytes)) = some (some (.bool false), 1, 1) := by kernel_rfl
theorem bs_made (w : World) (n : Nat) : (w.alloc (.cells (madeCells #[.bool false] n) 4)).rowIs w.heap.size 4 n (fun j => .bool ((fun _ => false) j)) := World.rowIs_made w (.bool false) n _
theorem bs_put {w : World} {b : Nat} {n : Nat} {X : Nat → Bool} (h : w.rowIs b 4 n (fun j => .bool (X j))) (i : Nat) (v : Bool) : (w.setCell ⟨b, i, none⟩ (.bool v)).rowIs b 4 n (fun j => .bool (if j = i then v else X j)) :=
 (h.set i (.bool v)).congr (fun j _ => by by_cases e : j = i <;> simp [e])
structure BW (w wr : World) (b n : Nat) (X : Nat → Bool) : Prop where
 row : wr.rowIs b 4 n (fun j => .bool (X j))
 bl : Below w.heap.size w wr
 hb : w.heap.size ≤ b
theorem BW.new (w : World) (n : Nat) : BW w (w.alloc (.cells (madeCells #[.bool false] n) 4)) w.heap.size n (fun _ => false) := ⟨bs_made w n, alloc_below _ _, Nat.le_refl _⟩
theorem BW.put {w wr : World} {b n : Nat} {X : Nat → Bool} (h : BW w wr b n X) (i : Nat) (v : Bool) : BW w (wr.setCell ⟨b, i, none⟩ (.bool v)) b n (fun j => if j = i then v else X j) := ⟨bs_put h.row i v, below_put h.bl h.hb, h.hb⟩
theorem BW.congr {w wr : World} {b n : Nat} {X Y : Nat → Bool} (h : BW w wr b n X) (e : ∀ j, j < n → X j = Y j) : BW w wr b n Y := ⟨h.row.congr (fun j hj => by rw [e j hj]), h.bl, h.hb⟩
theorem BW.old {w wr : World} {b n : Nat} {X : Nat → Bool} (h : BW w wr b n X) {g m j : Nat} {Y : Nat → Bool} (hY : w.rowIs g 4 m (fun j => .bool (Y j))) (hj : j < m) : wr.cell? ⟨g, j, none⟩ = some (.bool (Y j)) := keep_cell (hY.cell hj) h.bl hY.lt
set_option maxHeartbeats 1600000 in
set_option maxRecDepth 100000 in
theorem both_any (n : Nat) (A B : Nat → Bool) (av bv : Value) (w : World) (hA : BsAt w av n A) (hB : BsAt w bv n B) (hn : n ≤ 1000) :
  Calls Tryz.prog 91 #[av, bv] w fun e w' => ∃ v, e = .returned v ∧ BsAt w' v n (fun j => A j || B j) ∧ Below w.heap.size w w' := by
 obtain ⟨ab, rfl, hA⟩ := hA
 obtain ⟨bb, rfl, hB⟩ := hB
 obtain ⟨i0, hi, hz0, hz1, hz2⟩ := info_parts info_bool
 have HA := Lib.hid hA
 have HB := Lib.hid hB
 have HN := Lib.hid (BW.new w n)
 clear hA hB
 go_enter Tryz.func91, Tryz.ntmps91
 go_wp2_with ((with_reducible refine wpList_make_row _ rfl _ _ 92 rfl 4 i0 (.bool false) Tryz.underlying92 hi hz0 hz1 rfl .i64 .i64 n ?hl ?hc ?hb ?h63 ?_); (case hl => rfl); (case hc => rfl); (case hb => rw [hz2]; omega); (case h63 => omega))
 refine wp_forget3 (fun W => BW w W w.heap.size n (fun _ => false)) HN.out (fun w1 hw1 => ?_)
 have H1 := Lib.hid hw1
 clear hw1 HN
 go_loopw [6] (fun v wr => ∃ i : Nat, v = .int .i64 (i : Nat) ∧ i ≤ n ∧ Hid (BW w wr w.heap.size n (fun j => if j < i then A j || B j else false))) (fun v _ => n + 1 - (intOf v).toNat)
 case atStart => exact ⟨0, rfl, Nat.zero_le _, Lib.hid (H1.out.congr (fun j _ => by simp))⟩
 case round =>
  clear H1
  obtain ⟨i, rfl, hin, HW⟩ := hrel
  by_cases h : i < n
  ·have qa := HW.out.old HA.out h
   have qb := HW.out.old HB.out h
   have qo := HW.out.row.cell h
   have fo := HW.out.row.frozen i
   have hi0 : (0 : Int) ≤ (i : Int) := by omega
   have hi1 : (i : Int) < (n : Int) := by omega
   have HS := Lib.hid ((HW.out.put i (A i || B i)).congr (Y := fun j => if j < i + 1 then A j || B j else false) (fun j _ => by
    by_cases e : j = i
    ·subst e; simp
    ·by_cases e2 : j < i
     ·simp [e, e2, show j < i + 1 by omega]
     ·simp [e, e2, show ¬ j < i + 1 by omega]))
   clear HA HB
   cases hA : A i <;> cases hB : B i <;> rw [hA] at qa HS <;> rw [hB] at qb HS
   all_goals
    go_wp2
    go_roundw
    case rel => exact ⟨i + 1, by go_num, by omega, HS⟩
    case measure => (simp [intOf]; try omega)
  ·obtain rfl : i = n := by omega
   go_wp2
   go_ret
   exact ⟨_, rfl, ⟨_, rfl, HW.out.row.congr (fun j hj => by rw [if_pos hj])⟩, HW.out.bl⟩
end Go.Proofs.YtgbapkechngnmaaGreat
/- The reference's ends, of a set, of alternatives, of a row, of one perhaps: contracts. -/
namespace Go.Proofs.YtgbapkechngnmaaGreat
open Go.RowKit

theorem bytesN_at (s : ByteArray) (i : Nat) (h : i < (bytesN s).length) : (bytesN s)[i] = byteM s i := by
 have hs : i < s.size := by rw [bytesN_len] at h; exact h
 unfold byteM
 rw [dif_pos hs]
 exact List.getElem_map (fun (x : UInt8) => x.toNat)
def EnB (s : ByteArray) (a : Re) (X Y : Nat → Bool) : Prop := ∀ j, j ≤ s.size → (Y j = true ↔ En (bytesN s) a (fun i => X i = true) j)
def EndsK (w : World) (s : ByteArray) (x : List Value) (a : Re) : Prop := ∀ (w' : World), Below w.heap.size w w' → ∀ (v : Value) (X : Nat → Bool), BsAt w' v (s.size + 1) X →
 Calls Tryz.prog 70 #[.agg x.toArray, .string s, v] w' fun e w'' => ∃ v' Y, e = .returned v' ∧ BsAt w'' v' (s.size + 1) Y ∧ EnB s a X Y ∧ Below w'.heap.size w' w''
structure Ez (w wr : World) (x : List Value) : Prop where
 at_ : wr.rangeAt w.heap.size 0 x
 lt : w.heap.size < wr.heap.size
 bl : Below w.heap.size w wr
theorem Ez.below {w wr wr' : World} {x : List Value} (h : Ez w wr x) (hb : Below wr.heap.size wr wr') : Ez w wr' x := ⟨range_later h.at_ hb h.lt, Nat.lt_of_lt_of_le h.lt hb.size, h.bl.trans (hb.mono h.bl.size)⟩
theorem Ez.cell {w wr : World} {x : List Value} (h : Ez w wr x) {j : Nat} {v : Value} (hv : x[j]? = some v) : wr.cell? ⟨w.heap.size, j, none⟩ = some v := by
 have := h.at_ j v hv
 rwa [Nat.zero_add] at this
theorem Ez.set {w wr : World} {x : List Value} (h : Ez w wr x) {b : Nat} (hb : w.heap.size < b) (i : Nat) (v : Value) : Ez w (wr.setCell ⟨b, i, none⟩ v) x :=
 ⟨fun j u hu => by rw [rfar (by omega)]; exact h.at_ j u hu, by simpa using h.lt, below_put h.bl (by omega)⟩
theorem Ez.new (w : World) (x : List Value) (t u : TypeId) (c : Array Value) : Ez w ((w.alloc (.cells x.toArray t)).alloc (.cells c u)) x := by
 have h0 := box_range (Below.refl _ (w.alloc (.cells x.toArray t)))
 have hb := alloc_below (w.alloc (.cells x.toArray t)) (.cells c u)
 have h1 := alloc_below w (.cells x.toArray t)
 refine ⟨range_later (by simpa using h0) hb (by rw [World.size_alloc]; omega), by rw [World.size_alloc, World.size_alloc]; omega, h1.trans (hb.mono h1.size)⟩
theorem row_new (w : World) (x : Array Value) (t : TypeId) (n : Nat) : ((w.alloc (.cells x t)).alloc (.cells (madeCells #[.bool false] n) 4)).rowIs (w.heap.size + 1) 4 n (fun j => .bool ((fun _ => false) j)) := by
 have := bs_made (w.alloc (.cells x t)) n
 rwa [World.size_alloc] at this
theorem KidsAt.at {w : World} {P : Nat → Prop} {kv : Value} {l : List (List Value)} (h : KidsAt w P kv l) : ∃ a c, kv = .slice a l.length c ∧ l.length ≤ c ∧ (0 < l.length → ∃ b o, a = some ⟨b, o, none⟩ ∧ b < w.heap.size ∧ ∀ k (hk : k < l.length), w.rangeAt b (o + k * 258) l[k]) := by
 obtain ⟨a, c, rfl, hc, hr⟩ := RdAt.shape h.row
 refine ⟨a, c, rfl, hc, fun hn => ?_⟩
 obtain ⟨b, o, rfl, hb, hcell⟩ := hr hn
 refine ⟨b, o, rfl, hb, fun k hk j v hv => ?_⟩
 rw [Nat.add_assoc]
 refine hcell (k * 258 + j) v ?_
 have key : ∀ (l : List (List Value)), (∀ x ∈ l, x.length = 258) → ∀ k (hk : k < l.length) j, j < 258 → l.flatten[k * 258 + j]? = l[k][j]? := by
  intro l
  induction l with
  | nil => intro _ k hk; exact absurd hk (by simp)
  | cons x l ih =>
   intro hx k hk j hj
   have hx0 := hx x List.mem_cons_self
   rw [List.flatten_cons]
   cases k with
   | zero => rw [Nat.zero_mul, Nat.zero_add, List.getElem?_append_left (by omega)]; rfl
   | succ k =>
    rw [List.getElem?_append_right (by omega), hx0, show (k + 1) * 258 + j - 258 = k * 258 + j by omega, ih (fun y hy => hx y (List.mem_cons_of_mem _ hy)) k (by simpa using hk) j hj]
    rfl
 rw [key l h.each k hk j (by have := (List.getElem?_eq_some_iff.1 hv).1; rw [h.each _ (List.getElem_mem hk)] at this; exact this)]
 exact hv
def setY (s : ByteArray) (S X : Nat → Bool) (i j : Nat) : Bool := decide (1 ≤ j) && (decide (j ≤ i) && (X (j - 1) && S (byteM s (j - 1))))
theorem setY_succ (s : ByteArray) (S X : Nat → Bool) (i j : Nat) : (if j = i + 1 then X i && S (byteM s i) else setY s S X i j) = setY s S X (i + 1) j := by
 unfold setY
 by_cases e : j = i + 1
 ·subst e
  rw [if_pos rfl, decide_eq_true (show 1 ≤ i + 1 by omega), decide_eq_true (Nat.le_refl (i + 1))]
  simp
 ·rw [if_neg e]
  congr 2
  exact decide_eq_decide.2 (by omega)
theorem setY_en (s : ByteArray) (S X : Nat → Bool) : EnB s (.set S) X (setY s S X s.size) := by
 intro j hj
 unfold setY
 cases j with
 | zero => exact ⟨fun h => by simp at h, fun h => absurd h (En_set0 _ _ _)⟩
 | succ j =>
  have hlt : j < (bytesN s).length := by rw [bytesN_len]; omega
  rw [En_set _ _ _ _ hlt, bytesN_at s j hlt, decide_eq_true (show 1 ≤ j + 1 by omega), decide_eq_true hj]
  simp
set_option maxHeartbeats 3200000 in
set_option maxRecDepth 100000 in
theorem ends_set (w0 : World) (s : ByteArray) (S : Nat → Bool) (kv : Value) (hs : s.size ≤ 900) : EndsK w0 s (nodeC 0 S kv) (.set S) := by
 intro w _ v X hv
 obtain ⟨ab, rfl, hX⟩ := hv
 obtain ⟨i0, hi, hz0, hz1, hz2⟩ := info_parts info_bool
 have HX := Lib.hid hX
 have HE := Lib.hid (Ez.new w (nodeC 0 S kv) 62 4 (madeCells #[.bool false] (s.size + 1)))
 have HR := Lib.hid (row_new w (nodeC 0 S kv).toArray 62 (s.size + 1))
 clear hX
 go_enter Tryz.func70, Tryz.ntmps70
 go_upto_region 2 with (first
  | ((with_reducible refine Great.wpList_boxTo rfl _ _ rfl _ rfl w.heap.size rfl (nodeC 0 S kv).toArray ?hx ?_); (case hx => rfl))
  | ((with_reducible refine wpList_make_row _ rfl _ _ 92 rfl 4 i0 (.bool false) Tryz.underlying92 hi hz0 hz1 rfl .i64 .i64 (s.size + 1) ?hl ?hc ?hb ?h63 ?_); (case hl => rfl); (case hc => rfl); (case hb => rw [hz2]; omega); (case h63 => omega)))
 (try simp only [World.size_alloc])
 refine wp_forget3 (fun W => Ez w W (nodeC 0 S kv) ∧ W.rowIs (w.heap.size + 1) 4 (s.size + 1) (fun j => .bool ((fun _ => false) j))) ⟨HE.out, HR.out⟩ (fun w1 hw1 => ?_)
 have H1 := Lib.hid hw1.1
 have HR1 := Lib.hid hw1.2
 have c0 := H1.out.cell (nodeC_0 _ _ _)
 clear hw1 HE HR
 go_wp2
 go_loopw [8] (fun vi wr => ∃ i : Nat, vi = .int .i64 (i : Nat) ∧ i ≤ s.size ∧ Hid (Ez w wr (nodeC 0 S kv)) ∧ Hid (wr.rowIs (w.heap.size + 1) 4 (s.size + 1) (fun j => .bool (setY s S X i j)))) (fun v _ => s.size + 1 - (intOf v).toNat)
 case atStart => exact ⟨0, rfl, Nat.zero_le _, H1, Lib.hid (HR1.out.congr (fun j _ => by
  unfold setY
  by_cases h : 1 ≤ j
  ·rw [decide_eq_false (show ¬ j ≤ 0 by omega)]; simp
  ·rw [decide_eq_false h]; simp))⟩
 case round =>
  clear H1 HR1 c0
  obtain ⟨i, rfl, hin, HZ, HW⟩ := hrel
  by_cases h : i < s.size
  ·obtain ⟨c, hc⟩ : ∃ c, byteM s i = c := ⟨_, rfl⟩
   have hbx := rbyte_at s i h
   have hc256 := byteM_lt s i
   have qa := keep_cell (HX.out.cell (show i < s.size + 1 by omega)) HZ.out.bl HX.out.lt
   have qo := HW.out.cell (show i + 1 < s.size + 1 by omega)
   have fo := HW.out.frozen (i + 1)
   have HS := Lib.hid (((bs_put HW.out (i + 1) (X i && S (byteM s i)))).congr (g := fun j => .bool (setY s S X (i + 1) j)) (fun j _ => by rw [setY_succ]))
   rw [hc] at hbx hc256 HS
   have qs := HZ.out.cell (nodeC_set 0 S kv c hc256)
   have HZ2 := Lib.hid (HZ.out.set (show w.heap.size < w.heap.size + 1 by omega) (i + 1) (.bool (X i && S c)))
   have hi0 : (0 : Int) ≤ (i : Int) := by omega
   have hi1 : (i : Int) < (s.size : Int) := by omega
   have hci0 : (0 : Int) ≤ (c : Int) := by omega
   have hci1 : (c : Int) < 256 := by omega
   clear hc HX HZ HW
   cases hXi : X i with
   | false =>
    rw [hXi] at qa HS HZ2
    clear hbx qs
    go_wp2
    go_roundw
    case rel => exact ⟨i + 1, by go_num, by omega, HZ2, HS⟩
    case measure => (simp [intOf]; try omega)
   | true =>
    rw [hXi] at qa HS HZ2
    cases hSc : S c with
    | false =>
     rw [hSc] at qs HS HZ2
     go_wp2
     go_roundw
     case rel => exact ⟨i + 1, by go_num, by omega, HZ2, HS⟩
     case measure => (simp [intOf]; try omega)
    | true =>
     rw [hSc] at qs HS HZ2
     go_wp2
     go_roundw
     case rel => exact ⟨i + 1, by go_num, by omega, HZ2, HS⟩
     case measure => (simp [intOf]; try omega)
  ·obtain rfl : i = s.size := by omega
   go_wp2
   go_ret
   exact ⟨_, setY s S X s.size, rfl, ⟨_, rfl, HW.out⟩, setY_en s S X, HZ.out.bl⟩
structure Kd (w0 : World) (s : ByteArray) (P : Nat → Prop) (kv : Value) (l : List (List Value)) (bs : List Re) : Prop where
 kids : KidsAt w0 P kv l
 len : bs.length = l.length
 each : ∀ i (h : i < l.length) (h2 : i < bs.length), EndsK w0 s l[i] bs[i]
theorem take_fold {f : Re → Re → Re} {z : Re} {bs : List Re} {k : Nat} (h : k < bs.length) : (bs.take (k + 1)).foldl f z = f ((bs.take k).foldl f z) bs[k] := by
 rw [List.take_add_one, List.getElem?_eq_getElem h, List.foldl_append]
 rfl
set_option maxHeartbeats 3200000 in
set_option maxRecDepth 100000 in
theorem ends_alts (w0 : World) (s : ByteArray) (P : Nat → Prop) (S : Nat → Bool) (kv : Value) (l : List (List Value)) (bs : List Re) (hk : Kd w0 s P kv l bs) (hs : s.size ≤ 900) : EndsK w0 s (nodeC 1 S kv) (bs.foldl Re.alt .no) := by
 intro w hb0 v X hv
 obtain ⟨ab, rfl, hX⟩ := hv
 obtain ⟨ka, kc, rfl, -, hkk⟩ := hk.kids.at
 have HK := Lib.hid hk
 have HKK := Lib.hid hkk
 have HB0 := Lib.hid hb0
 have hfew := hk.kids.few
 clear hk hkk hb0
 obtain ⟨i0, hi, hz0, hz1, hz2⟩ := info_parts info_bool
 have HX := Lib.hid hX
 have HE := Lib.hid (Ez.new w (nodeC 1 S (.slice ka l.length kc)) 62 4 (madeCells #[.bool false] (s.size + 1)))
 have HR := Lib.hid (row_new w (nodeC 1 S (.slice ka l.length kc)).toArray 62 (s.size + 1))
 clear hX
 go_enter Tryz.func70, Tryz.ntmps70
 go_upto_region 2 with (first
  | ((with_reducible refine Great.wpList_boxTo rfl _ _ rfl _ rfl w.heap.size rfl (nodeC 1 S (.slice ka l.length kc)).toArray ?hx ?_); (case hx => rfl))
  | ((with_reducible refine wpList_make_row _ rfl _ _ 92 rfl 4 i0 (.bool false) Tryz.underlying92 hi hz0 hz1 rfl .i64 .i64 (s.size + 1) ?hl ?hc ?hb ?h63 ?_); (case hl => rfl); (case hc => rfl); (case hb => rw [hz2]; omega); (case h63 => omega)))
 (try simp only [World.size_alloc])
 refine wp_forget3 (fun W => Ez w W (nodeC 1 S (.slice ka l.length kc)) ∧ W.rowIs (w.heap.size + 1) 4 (s.size + 1) (fun j => .bool ((fun _ => false) j))) ⟨HE.out, HR.out⟩ (fun w1 hw1 => ?_)
 have H1 := Lib.hid hw1.1
 have HR1 := Lib.hid hw1.2
 have c0 := H1.out.cell (nodeC_0 _ _ _)
 clear hw1 HE HR
 go_wp2
 go_loopw [7, 9] (fun v7 vi wr => ∃ (i : Nat) (Y : Nat → Bool), vi = .int .i64 (i : Nat) ∧ i ≤ l.length ∧ Hid (Ez w wr (nodeC 1 S (.slice ka l.length kc))) ∧ Hid (BsAt wr v7 (s.size + 1) Y) ∧ Hid (EnB s ((bs.take i).foldl Re.alt .no) X Y)) (fun _ v _ => l.length + 1 - (intOf v).toNat)
 case atStart => exact ⟨0, fun _ => false, rfl, Nat.zero_le _, H1, Lib.hid ⟨_, rfl, HR1.out⟩, Lib.hid (fun j _ => ⟨fun h => by simp at h, fun h => absurd h (En_no _ _ _)⟩)⟩
 case round =>
  clear H1 HR1 c0
  obtain ⟨i, Y, rfl, hin, HZ, HY, HN⟩ := hrel
  have q257 := HZ.out.cell (nodeC_kids _ _ _)
  by_cases h : i < l.length
  ·obtain ⟨b, o, rfl, hbl, hat⟩ := HKK.out (by omega)
   have hbs : i < bs.length := by rw [HK.out.len]; exact h
   have hbw := HB0.out.trans (HZ.out.bl.mono HB0.out.size)
   have HAT := Lib.hid (range_later (hat i h) hbw hbl)
   have hlen := HK.out.kids.each _ (List.getElem_mem h)
   have ke := HK.out.each i h hbs wr hbw _ X ⟨ab, rfl, HX.out.of_block (HZ.out.bl.block ab HX.out.lt)⟩
   have HTF := Lib.hid (take_fold (f := Re.alt) (z := .no) hbs)
   have hi0 : (0 : Int) ≤ (i : Int) := by omega
   have hi1 : (i : Int) < (l.length : Int) := by omega
   clear hat hbw hbl
   generalize l[i] = x at *
   generalize bs[i] = y at *
   go_wp2_with ((with_reducible refine wpList_loadN rfl _ rfl _ rfl b (o + i * 258) ?hx x ?hc hlen ?_); (case hx => rfl); (case hc => exact HAT.out))
   refine ke.mono ?_
   rintro e w4 ⟨v', Y', rfl, hY', hE', hb4⟩
   have kb := both_any (s.size + 1) Y Y' u7 v' w4 (HY.out.later hb4) hY' (by omega)
   have HZ4 := Lib.hid (HZ.out.below hb4)
   have HE' := Lib.hid hE'
   clear ke hY' hE' hb4 q257
   go_wp2_with fail
   refine kb.mono ?_
   rintro e w5 ⟨v2, rfl, hY2, hb5⟩
   have HZ5 := Lib.hid (HZ4.out.below hb5)
   have HY5 := Lib.hid hY2
   clear kb hY2 hb5 HZ HZ4 HY HAT
   go_wp2
   go_roundw
   case rel =>
    refine ⟨i + 1, fun j => Y j || Y' j, by go_num, by omega, HZ5, HY5, Lib.hid (fun j hj => ?_)⟩
    rw [HTF.out, En_alt, ← HN.out j hj, ← HE'.out j hj]
    simp
   case measure => (simp [intOf]; try omega)
  ·obtain rfl : i = l.length := by omega
   have hi1 : ¬ (l.length : Int) < (l.length : Int) := by omega
   have HFIN : Hid (EnB s (bs.foldl Re.alt .no) X Y) := Lib.hid (by
    have := HN.out
    rwa [← HK.out.len, List.take_length] at this)
   clear HKK HK HN
   go_wp2
   go_ret
   first
    | exact ⟨_, Y, rfl, HY.out, HFIN.out, HZ.out.bl⟩
    | exact ⟨_, rfl, Y, HY.out, HFIN.out, HZ.out.bl⟩
set_option maxHeartbeats 3200000 in
set_option maxRecDepth 100000 in
theorem ends_row (w0 : World) (s : ByteArray) (P : Nat → Prop) (S : Nat → Bool) (kv : Value) (l : List (List Value)) (bs : List Re) (hk : Kd w0 s P kv l bs) (hs : s.size ≤ 900) : EndsK w0 s (nodeC 2 S kv) (bs.foldl Re.cat .eps) := by
 intro w hb0 v X hv
 obtain ⟨ab, rfl, hX⟩ := hv
 obtain ⟨ka, kc, rfl, -, hkk⟩ := hk.kids.at
 have HK := Lib.hid hk
 have HKK := Lib.hid hkk
 have HB0 := Lib.hid hb0
 have hfew := hk.kids.few
 clear hk hkk hb0
 obtain ⟨i0, hi, hz0, hz1, hz2⟩ := info_parts info_bool
 have HX := Lib.hid hX
 have HE := Lib.hid (Ez.new w (nodeC 2 S (.slice ka l.length kc)) 62 4 (madeCells #[.bool false] (s.size + 1)))
 have HR := Lib.hid (row_new w (nodeC 2 S (.slice ka l.length kc)).toArray 62 (s.size + 1))
 clear hX
 go_enter Tryz.func70, Tryz.ntmps70
 go_upto_region 2 with (first
  | ((with_reducible refine Great.wpList_boxTo rfl _ _ rfl _ rfl w.heap.size rfl (nodeC 2 S (.slice ka l.length kc)).toArray ?hx ?_); (case hx => rfl))
  | ((with_reducible refine wpList_make_row _ rfl _ _ 92 rfl 4 i0 (.bool false) Tryz.underlying92 hi hz0 hz1 rfl .i64 .i64 (s.size + 1) ?hl ?hc ?hb ?h63 ?_); (case hl => rfl); (case hc => rfl); (case hb => rw [hz2]; omega); (case h63 => omega)))
 (try simp only [World.size_alloc])
 refine wp_forget3 (fun W => Ez w W (nodeC 2 S (.slice ka l.length kc)) ∧ W.rowIs (w.heap.size + 1) 4 (s.size + 1) (fun j => .bool ((fun _ => false) j))) ⟨HE.out, HR.out⟩ (fun w1 hw1 => ?_)
 have H1 := Lib.hid hw1.1
 have HR1 := Lib.hid hw1.2
 have c0 := H1.out.cell (nodeC_0 _ _ _)
 clear hw1 HE HR
 have HX1 : Hid (BsAt w1 (.slice (some ⟨ab, 0, none⟩) (s.size + 1) (s.size + 1)) (s.size + 1) X) := Lib.hid ⟨ab, rfl, HX.out.of_block (H1.out.bl.block ab HX.out.lt)⟩
 go_wp2
 go_loopw [7, 10] (fun v7 vi wr => ∃ (i : Nat) (Y : Nat → Bool), vi = .int .i64 (i : Nat) ∧ i ≤ l.length ∧ Hid (Ez w wr (nodeC 2 S (.slice ka l.length kc))) ∧ Hid (BsAt wr v7 (s.size + 1) Y) ∧ Hid (EnB s ((bs.take i).foldl Re.cat .eps) X Y)) (fun _ v _ => l.length + 1 - (intOf v).toNat)
 case atStart => exact ⟨0, X, rfl, Nat.zero_le _, H1, HX1, Lib.hid (fun j hj => by rw [List.take_zero, List.foldl_nil, En_eps, bytesN_len]; exact ⟨fun h => ⟨hj, h⟩, fun h => h.2⟩)⟩
 case round =>
  clear H1 HR1 HX1 c0
  obtain ⟨i, Y, rfl, hin, HZ, HY, HN⟩ := hrel
  have q257 := HZ.out.cell (nodeC_kids _ _ _)
  by_cases h : i < l.length
  ·obtain ⟨b, o, rfl, hbl, hat⟩ := HKK.out (by omega)
   have hbs : i < bs.length := by rw [HK.out.len]; exact h
   have hbw := HB0.out.trans (HZ.out.bl.mono HB0.out.size)
   have HAT := Lib.hid (range_later (hat i h) hbw hbl)
   have hlen := HK.out.kids.each _ (List.getElem_mem h)
   have ke := HK.out.each i h hbs wr hbw u7 Y HY.out
   have HTF := Lib.hid (take_fold (f := Re.cat) (z := .eps) hbs)
   have hi0 : (0 : Int) ≤ (i : Int) := by omega
   have hi1 : (i : Int) < (l.length : Int) := by omega
   clear hat hbw hbl
   generalize l[i] = x at *
   generalize bs[i] = y at *
   go_wp2_with ((with_reducible refine wpList_loadN rfl _ rfl _ rfl b (o + i * 258) ?hx x ?hc hlen ?_); (case hx => rfl); (case hc => exact HAT.out))
   refine ke.mono ?_
   rintro e w4 ⟨v', Y', rfl, hY', hE', hb4⟩
   have HZ4 := Lib.hid (HZ.out.below hb4)
   have HE' := Lib.hid hE'
   have HY4 := Lib.hid hY'
   clear ke hY' hE' hb4 q257 HZ HY HAT
   go_wp2
   go_roundw
   case rel =>
    refine ⟨i + 1, Y', by go_num, by omega, HZ4, HY4, Lib.hid (fun j hj => ?_)⟩
    rw [HTF.out, En_cat, HE'.out j hj]
    exact En.congr (fun k hk => HN.out k (by rw [bytesN_len] at hk; exact hk))
   case measure => (simp [intOf]; try omega)
  ·obtain rfl : i = l.length := by omega
   have hi1 : ¬ (l.length : Int) < (l.length : Int) := by omega
   have HFIN : Hid (EnB s (bs.foldl Re.cat .eps) X Y) := Lib.hid (by
    have := HN.out
    rwa [← HK.out.len, List.take_length] at this)
   clear HKK HK HN
   go_wp2
   go_ret
   first
    | exact ⟨_, Y, rfl, HY.out, HFIN.out, HZ.out.bl⟩
    | exact ⟨_, rfl, Y, HY.out, HFIN.out, HZ.out.bl⟩
set_option maxHeartbeats 3200000 in
set_option maxRecDepth 100000 in
theorem ends_opt (w0 : World) (s : ByteArray) (P : Nat → Prop) (S : Nat → Bool) (kv : Value) (x : List Value) (a : Re) (hk : KidsAt w0 P kv [x]) (hK : EndsK w0 s x a) (hs : s.size ≤ 900) : EndsK w0 s (nodeC 5 S kv) (.opt a) := by
 intro w hb0 v X hv
 obtain ⟨ab, rfl, hX⟩ := hv
 obtain ⟨ka, kc, rfl, -, hkk⟩ := hk.at
 obtain ⟨b, o, rfl, hbl, hat⟩ := hkk (by simp)
 have hlen := hk.each x (List.mem_singleton.2 rfl)
 have hat0 := hat 0 (by simp)
 rw [Nat.zero_mul, Nat.add_zero] at hat0
 have HA0 : Hid (w0.rangeAt b o x) := Lib.hid hat0
 have HK := Lib.hid hK
 have HB0 := Lib.hid hb0
 clear hk hK hkk hat hat0 hb0
 dsimp only [List.length_singleton]
 obtain ⟨i0, hi, hz0, hz1, hz2⟩ := info_parts info_bool
 have HX := Lib.hid hX
 have HE := Lib.hid (Ez.new w (nodeC 5 S (.slice (some ⟨b, o, none⟩) 1 kc)) 62 4 (madeCells #[.bool false] (s.size + 1)))
 have HR := Lib.hid (row_new w (nodeC 5 S (.slice (some ⟨b, o, none⟩) 1 kc)).toArray 62 (s.size + 1))
 clear hX
 go_enter Tryz.func70, Tryz.ntmps70
 go_upto_region 2 with (first
  | ((with_reducible refine Great.wpList_boxTo rfl _ _ rfl _ rfl w.heap.size rfl (nodeC 5 S (.slice (some ⟨b, o, none⟩) 1 kc)).toArray ?hx ?_); (case hx => rfl))
  | ((with_reducible refine wpList_make_row _ rfl _ _ 92 rfl 4 i0 (.bool false) Tryz.underlying92 hi hz0 hz1 rfl .i64 .i64 (s.size + 1) ?hl ?hc ?hb ?h63 ?_); (case hl => rfl); (case hc => rfl); (case hb => rw [hz2]; omega); (case h63 => omega)))
 (try simp only [World.size_alloc])
 refine wp_forget3 (fun W => Ez w W (nodeC 5 S (.slice (some ⟨b, o, none⟩) 1 kc)) ∧ W.rowIs (w.heap.size + 1) 4 (s.size + 1) (fun j => .bool ((fun _ => false) j))) ⟨HE.out, HR.out⟩ (fun w1 hw1 => ?_)
 have H1 := Lib.hid hw1.1
 have HR1 := Lib.hid hw1.2
 have c0 := H1.out.cell (nodeC_0 _ _ _)
 clear hw1 HE HR
 have hbw := HB0.out.trans (H1.out.bl.mono HB0.out.size)
 have HAT := Lib.hid (range_later HA0.out hbw hbl)
 have HX1 : Hid (BsAt w1 (.slice (some ⟨ab, 0, none⟩) (s.size + 1) (s.size + 1)) (s.size + 1) X) := Lib.hid ⟨ab, rfl, HX.out.of_block (H1.out.bl.block ab HX.out.lt)⟩
 have ke := HK.out w1 hbw _ X HX1.out
 have q257 := H1.out.cell (nodeC_kids 5 S (.slice (some ⟨b, o, none⟩) 1 kc))
 clear hbw HR1
 go_wp2_with ((with_reducible refine wpList_loadN rfl _ rfl _ rfl b o ?hx x ?hc hlen ?_); (case hx => rfl); (case hc => exact HAT.out))
 refine ke.mono ?_
 rintro e w4 ⟨v', Y', rfl, hY', hE', hb4⟩
 have kb := both_any (s.size + 1) X Y' _ v' w4 (HX1.out.later hb4) hY' (by omega)
 have HZ4 := Lib.hid (H1.out.below hb4)
 have HE' := Lib.hid hE'
 clear ke hY' hE' hb4 q257 c0
 go_wp2_with fail
 refine kb.mono ?_
 rintro e w5 ⟨v2, rfl, hY2, hb5⟩
 have HZ5 := Lib.hid (HZ4.out.below hb5)
 have HY5 := Lib.hid hY2
 clear kb hY2 hb5
 go_wp2
 go_ret
 refine ⟨_, fun j => X j || Y' j, rfl, HY5.out, fun j hj => ?_, HZ5.out.bl⟩
 rw [En_opt, ← HE'.out j hj, bytesN_len]
 simp [hj]
end Go.Proofs.YtgbapkechngnmaaGreat
/- The reference's ends, of any number of times, of once and more: contracts. -/
namespace Go.Proofs.YtgbapkechngnmaaGreat
open Go.RowKit

def cntF (w : World) (v : Value) (n : Nat) : Nat := match v with
 | .slice (some a) _ _ => (List.range n).countP (fun j => match w.cell? ⟨a.block, j, none⟩ with | some (.bool b) => !b | _ => true)
 | _ => 0
theorem BsAt.cnt {w : World} {v : Value} {n : Nat} {X : Nat → Bool} (h : BsAt w v n X) : cntF w v n = (List.range n).countP (fun j => !X j) := by
 obtain ⟨b, rfl, hr⟩ := h
 unfold cntF
 refine List.countP_congr (fun j hj => ?_)
 rw [hr.cell (List.mem_range.1 hj)]
theorem countP_le' (p q : Nat → Bool) (l : List Nat) (h : ∀ x ∈ l, q x = true → p x = true) : l.countP q ≤ l.countP p := List.countP_mono_left h
theorem countP_lt' (p q : Nat → Bool) : ∀ (l : List Nat), (∀ x ∈ l, q x = true → p x = true) → (∃ x ∈ l, p x = true ∧ q x = false) → l.countP q < l.countP p
 | [], _, h => by obtain ⟨x, hx, _⟩ := h; cases hx
 | y :: l, h1, h2 => by
  obtain ⟨x, hx, hp, hq⟩ := h2
  have h3 := countP_le' p q l (fun z hz => h1 z (List.mem_cons_of_mem _ hz))
  rw [List.countP_cons, List.countP_cons]
  rcases List.mem_cons.1 hx with rfl | hx
  ·rw [hp, hq]; simp; omega
  ·have := countP_lt' p q l (fun z hz => h1 z (List.mem_cons_of_mem _ hz)) ⟨x, hx, hp, hq⟩
   have h4 : (if q y = true then 1 else 0) ≤ (if p y = true then 1 else 0) := by
    by_cases h : q y = true
    ·rw [if_pos h, if_pos (h1 y List.mem_cons_self h)]; exact Nat.le_refl _
    ·rw [if_neg h]; exact Nat.zero_le _
   omega
def moreN (v : Value) : Nat := match v with
 | .bool true => 1
 | _ => 0
def newB (St O : Nat → Bool) (i : Nat) : Bool := (List.range i).any (fun j => St j && !O j)
theorem newB_succ (St O : Nat → Bool) (i : Nat) : newB St O (i + 1) = (newB St O i || (St i && !O i)) := by unfold newB; rw [List.range_succ, List.any_append]; simp
structure RepI (s : ByteArray) (a : Re) (X O St : Nat → Bool) (lo k : Nat) (mo : Bool) : Prop where
 st : ∀ j, j ≤ s.size → (St j = true ↔ Ei (bytesN s) a (fun i => X i = true) k j)
 out : ∀ j, j ≤ s.size → (O j = true ↔ ∃ m, lo ≤ m ∧ m ≤ k ∧ Ei (bytesN s) a (fun i => X i = true) m j)
 fin : mo = false → ∃ k', k = k' + 1 ∧ ∀ j, j ≤ s.size → Ei (bytesN s) a (fun i => X i = true) k j → ∃ m, lo ≤ m ∧ m ≤ k' ∧ Ei (bytesN s) a (fun i => X i = true) m j
theorem RepI.next {s : ByteArray} {a : Re} {X O St St' : Nat → Bool} {lo k : Nat} {mo : Bool} (h : RepI s a X O St lo k mo) (hlo : lo ≤ 1) (hE : EnB s a St St') : RepI s a X (fun j => O j || St' j) St' lo (k + 1) (newB St' O (s.size + 1)) := by
 have h1 : ∀ j, j ≤ s.size → (St' j = true ↔ Ei (bytesN s) a (fun i => X i = true) (k + 1) j) := fun j hj => by
  rw [hE j hj]
  exact En.congr (fun i hi => h.st i (by rw [bytesN_len] at hi; exact hi))
 refine ⟨h1, fun j hj => ?_, fun hn => ⟨k, rfl, fun j hj he => ?_⟩⟩
 ·rw [Bool.or_eq_true, h.out j hj, h1 j hj]
  constructor
  ·rintro (⟨m, a1, a2, a3⟩ | h2)
   ·exact ⟨m, a1, by omega, a3⟩
   ·exact ⟨k + 1, by omega, Nat.le_refl _, h2⟩
  ·rintro ⟨m, a1, a2, a3⟩
   by_cases e : m = k + 1
   ·subst e; exact .inr a3
   ·exact .inl ⟨m, a1, by omega, a3⟩
 ·have h2 : ¬ (St' j = true ∧ O j = false) := fun hh => by
   have : newB St' O (s.size + 1) = true := by
    unfold newB
    rw [List.any_eq_true]
    exact ⟨j, List.mem_range.2 (by omega), by rw [hh.1, hh.2]; rfl⟩
   rw [hn] at this
   cases this
  have h3 := (h1 j hj).2 he
  have h4 : O j = true := by
   cases hO : O j with
   | true => rfl
   | false => exact absurd ⟨h3, hO⟩ h2
  obtain ⟨m, a1, a2, a3⟩ := (h.out j hj).1 h4
  exact ⟨m, a1, a2, a3⟩
theorem Ei_none {B : List Nat} {a : Re} {X : Nat → Prop} (h : ∀ j, ¬ Ei B a X 1 j) : ∀ m j, 1 ≤ m → ¬ Ei B a X m j := by
 intro m
 induction m with
 | zero => intro j h0; omega
 | succ m ih =>
  intro j _ he
  by_cases hm : m = 0
  ·subst hm; exact h j he
  ·obtain ⟨_, i, _, h3, _⟩ := he
   exact ih i (by omega) h3
theorem RepI.all {s : ByteArray} {a : Re} {X O St : Nat → Bool} {lo k : Nat} (h : RepI s a X O St lo k false) (hlo : lo ≤ 1) (j : Nat) (hj : j ≤ s.size) : O j = true ↔ ∃ m, lo ≤ m ∧ Ei (bytesN s) a (fun i => X i = true) m j := by
 rw [h.out j hj]
 constructor
 ·rintro ⟨m, a1, _, a3⟩; exact ⟨m, a1, a3⟩
 ·rintro ⟨m, a1, a3⟩
  obtain ⟨k', rfl, hf⟩ := h.fin rfl
  have hf' : ∀ j, Ei (bytesN s) a (fun i => X i = true) (k' + 1) j → ∃ m, lo ≤ m ∧ m ≤ k' ∧ Ei (bytesN s) a (fun i => X i = true) m j := fun j he => hf j (by have := Ei_le he; rw [bytesN_len] at this; exact this) he
  by_cases hlk : lo ≤ k'
  ·obtain ⟨m', b1, b2, b3⟩ := Ei_shut hlk hf' m j a1 a3
   exact ⟨m', b1, by omega, b3⟩
  ·obtain rfl : k' = 0 := by omega
   obtain rfl : lo = 1 := by omega
   exact absurd a3 (Ei_none (fun j he => by obtain ⟨m, c1, c2, _⟩ := hf' j he; omega) m j a1)
theorem RepI.less {s : ByteArray} {O St' : Nat → Bool} : 2 * (List.range (s.size + 1)).countP (fun j => !(O j || St' j)) + moreN (.bool (newB St' O (s.size + 1))) < 2 * (List.range (s.size + 1)).countP (fun j => !O j) + 1 := by
 cases hn : newB St' O (s.size + 1) with
 | false =>
  have := countP_le' (fun j => !O j) (fun j => !(O j || St' j)) (List.range (s.size + 1)) (fun x _ h => by simp at h; simp [h.1])
  simp only [moreN]
  omega
 | true =>
  unfold newB at hn
  rw [List.any_eq_true] at hn
  obtain ⟨x, hx, h⟩ := hn
  simp only [Bool.and_eq_true, Bool.not_eq_true'] at h
  have := countP_lt' (fun j => !O j) (fun j => !(O j || St' j)) (List.range (s.size + 1)) (fun x _ h => by simp at h; simp [h.1]) ⟨x, hx, by simp [h.2], by simp [h.1]⟩
  simp only [moreN]
  omega
theorem rep0 (s : ByteArray) (a : Re) (X : Nat → Bool) : RepI s a X X X 0 0 true := by
 refine ⟨fun j hj => ⟨fun h => ⟨by rw [bytesN_len]; exact hj, h⟩, fun h => h.2⟩, fun j hj => ⟨fun h => ⟨0, Nat.le_refl _, Nat.le_refl _, by rw [bytesN_len]; exact hj, h⟩, fun h => ?_⟩, fun h => by cases h⟩
 obtain ⟨m, _, h2, h3⟩ := h
 obtain rfl : m = 0 := by omega
 exact h3.2
theorem rep1 (s : ByteArray) (a : Re) (X : Nat → Bool) : RepI s a X (fun _ => false) X 1 0 true := by
 refine ⟨fun j hj => ⟨fun h => ⟨by rw [bytesN_len]; exact hj, h⟩, fun h => h.2⟩, fun j _ => ⟨fun h => by simp at h, fun h => ?_⟩, fun h => by cases h⟩
 obtain ⟨m, h1, h2, _⟩ := h
 omega
set_option maxHeartbeats 6400000 in
set_option maxRecDepth 100000 in
theorem ends_star (w0 : World) (s : ByteArray) (P : Nat → Prop) (S : Nat → Bool) (kv : Value) (x : List Value) (a : Re) (hk : KidsAt w0 P kv [x]) (hK : EndsK w0 s x a) (hs : s.size ≤ 900) : EndsK w0 s (nodeC 3 S kv) (.star a) := by
 intro w hb0 v X hv
 obtain ⟨ab, rfl, hX⟩ := hv
 obtain ⟨ka, kc, rfl, -, hkk⟩ := hk.at
 obtain ⟨b, o, rfl, hbl, hat⟩ := hkk (by simp)
 have hlen := hk.each x (List.mem_singleton.2 rfl)
 have hat0 := hat 0 (by simp)
 rw [Nat.zero_mul, Nat.add_zero] at hat0
 have HA0 : Hid (w0.rangeAt b o x) := Lib.hid hat0
 have HK := Lib.hid hK
 have HB0 := Lib.hid hb0
 clear hk hK hkk hat hat0 hb0
 dsimp only [List.length_singleton]
 obtain ⟨i0, hi, hz0, hz1, hz2⟩ := info_parts info_bool
 have HX := Lib.hid hX
 have HE := Lib.hid (Ez.new w (nodeC 3 S (.slice (some ⟨b, o, none⟩) 1 kc)) 62 4 (madeCells #[.bool false] (s.size + 1)))
 have HR := Lib.hid (row_new w (nodeC 3 S (.slice (some ⟨b, o, none⟩) 1 kc)).toArray 62 (s.size + 1))
 clear hX
 go_enter Tryz.func70, Tryz.ntmps70
 go_upto_region 2 with (first
  | ((with_reducible refine Great.wpList_boxTo rfl _ _ rfl _ rfl w.heap.size rfl (nodeC 3 S (.slice (some ⟨b, o, none⟩) 1 kc)).toArray ?hx ?_); (case hx => rfl))
  | ((with_reducible refine wpList_make_row _ rfl _ _ 92 rfl 4 i0 (.bool false) Tryz.underlying92 hi hz0 hz1 rfl .i64 .i64 (s.size + 1) ?hl ?hc ?hb ?h63 ?_); (case hl => rfl); (case hc => rfl); (case hb => rw [hz2]; omega); (case h63 => omega)))
 (try simp only [World.size_alloc])
 refine wp_forget3 (fun W => Ez w W (nodeC 3 S (.slice (some ⟨b, o, none⟩) 1 kc)) ∧ W.rowIs (w.heap.size + 1) 4 (s.size + 1) (fun j => .bool ((fun _ => false) j))) ⟨HE.out, HR.out⟩ (fun w1 hw1 => ?_)
 have H1 := Lib.hid hw1.1
 have HR1 := Lib.hid hw1.2
 have c0 := H1.out.cell (nodeC_0 _ _ _)
 clear hw1 HE HR
 have HX1 : Hid (BsAt w1 (.slice (some ⟨ab, 0, none⟩) (s.size + 1) (s.size + 1)) (s.size + 1) X) := Lib.hid ⟨ab, rfl, HX.out.of_block (H1.out.bl.block ab HX.out.lt)⟩
 have HO1 : Hid (BsAt w1 (.slice (some ⟨ab, 0, none⟩) (s.size + 1) (s.size + 1)) (s.size + 1) X) := Lib.hid HX1.out
 go_wp2
 go_loopw [7, 11, 12] (fun v7 v11 v12 wr => ∃ (k : Nat) (O St : Nat → Bool) (mo : Bool), v12 = .bool mo ∧ Hid (Ez w wr (nodeC 3 S (.slice (some ⟨b, o, none⟩) 1 kc))) ∧ Hid (BsAt wr v7 (s.size + 1) O) ∧ Hid (BsAt wr v11 (s.size + 1) St) ∧ Hid (RepI s a X O St 0 k mo)) (fun v7 _ v12 wr => 2 * cntF wr v7 (s.size + 1) + moreN v12)
 case atStart => exact ⟨0, X, X, true, rfl, H1, HO1, HX1, Lib.hid (rep0 s a X)⟩
 case round =>
  clear H1 HR1 HX1 HO1 c0
  obtain ⟨k, O, St, mo, rfl, HZ, HO, HSt, HI⟩ := hrel
  have HMS := Lib.hid HO.out.cnt
  cases mo with
  | false =>
   have HFIN : Hid (∀ j, j ≤ s.size → (O j = true ↔ ∃ m, 0 ≤ m ∧ Ei (bytesN s) a (fun i => X i = true) m j)) := Lib.hid (fun j hj => HI.out.all (by decide) j hj)
   clear HI HSt HK
   go_wp2
   go_ret
   refine ⟨_, O, rfl, HO.out, fun j hj => ?_, HZ.out.bl⟩
   rw [HFIN.out j hj]
   rw [En_star]; exact ⟨fun ⟨m, _, h⟩ => ⟨m, h⟩, fun ⟨m, h⟩ => ⟨m, Nat.zero_le _, h⟩⟩
  | true =>
   have q257 := HZ.out.cell (nodeC_kids 3 S (.slice (some ⟨b, o, none⟩) 1 kc))
   have hbw := HB0.out.trans (HZ.out.bl.mono HB0.out.size)
   have HAT := Lib.hid (range_later HA0.out hbw hbl)
   have ke := HK.out wr hbw u11 St HSt.out
   clear hbw
   go_wp2_with ((with_reducible refine wpList_loadN rfl _ rfl _ rfl b o ?hx x ?hc hlen ?_); (case hx => rfl); (case hc => exact HAT.out))
   refine ke.mono ?_
   rintro e w4 ⟨v', St', rfl, hY', hE', hb4⟩
   have HZ4 := Lib.hid (HZ.out.below hb4)
   have HO4 := Lib.hid (HO.out.later hb4)
   have HI2 := Lib.hid (HI.out.next (by decide) hE')
   have HS4 := Lib.hid hY'
   clear ke hY' hE' hb4 q257 HAT HZ HO HSt HI
   obtain ⟨sb, rfl, hsb⟩ := HS4.out
   obtain ⟨ob, hob, hobr⟩ := HO4.out
   have HSB := Lib.hid hsb
   have HOB := Lib.hid hobr
   clear hsb hobr
   subst hob
   go_wp2
   go_loopw [12, 13] (fun v12 v13 wr => ∃ i : Nat, v12 = .bool (newB St' O i) ∧ v13 = .int .i64 (i : Nat) ∧ i ≤ s.size + 1 ∧ wr = w4) (fun _ v _ => s.size + 2 - (intOf v).toNat)
   case atStart => exact ⟨0, rfl, rfl, Nat.zero_le _, rfl⟩
   case round =>
    obtain ⟨i, rfl, rfl, hi, rfl⟩ := hrel
    by_cases h : i < s.size + 1
    ·have qs := HSB.out.cell h
     have qo := HOB.out.cell h
     have hi0 : (0 : Int) ≤ (i : Int) := by omega
     have hi1 : (i : Int) < ((s.size + 1 : Nat) : Int) := by omega
     have HNS := Lib.hid (newB_succ St' O i)
     generalize newB St' O i = N1 at *
     clear HI2 HK
     cases N1 with
     | true =>
      go_wp2
      go_roundw
      case rel => exact ⟨i + 1, by rw [HNS.out]; rfl, by go_num, by omega, by first | rfl | trivial⟩
      case measure => (simp [intOf]; try omega)
     | false =>
      cases hS1 : St' i with
      | false =>
       rw [hS1] at qs
       go_wp2
       go_roundw
       case rel => exact ⟨i + 1, by rw [HNS.out, hS1]; rfl, by go_num, by omega, by first | rfl | trivial⟩
       case measure => (simp [intOf]; try omega)
      | true =>
       rw [hS1] at qs
       cases hO1 : O i with
       | false =>
        rw [hO1] at qo
        go_wp2
        go_roundw
        case rel => exact ⟨i + 1, by rw [HNS.out, hS1, hO1]; rfl, by go_num, by omega, by first | rfl | trivial⟩
        case measure => (simp [intOf]; try omega)
       | true =>
        rw [hO1] at qo
        go_wp2
        go_roundw
        case rel => exact ⟨i + 1, by rw [HNS.out, hS1, hO1]; rfl, by go_num, by omega, by first | rfl | trivial⟩
        case measure => (simp [intOf]; try omega)
    ·obtain rfl : i = s.size + 1 := by omega
     have hi1 : ¬ ((s.size + 1 : Nat) : Int) < ((s.size + 1 : Nat) : Int) := by omega
     have kb := both_any (s.size + 1) O St' _ _ wr HO4.out HS4.out (by omega)
     clear HSB HOB HK
     obtain ⟨N1, hN1⟩ : ∃ N1, newB St' O (s.size + 1) = N1 := ⟨_, rfl⟩
     have HN1 := Lib.hid hN1
     rw [hN1]
     clear hN1
     go_wp2_with fail
     refine kb.mono ?_
     rintro e w5 ⟨v2, rfl, hY2, hb5⟩
     have HZ5 := Lib.hid (HZ4.out.below hb5)
     have HO5 := Lib.hid hY2
     have HS5 := Lib.hid (HS4.out.later hb5)
     clear kb hY2 hb5
     go_wp2
     go_roundw
     case rel => exact ⟨k + 1, fun j => O j || St' j, St', N1, rfl, HZ5, HO5, HS5, Lib.hid (by have := HI2.out; rwa [HN1.out] at this)⟩
     case measure =>
      rw [HO5.out.cnt, HMS.out, ← HN1.out]
      exact RepI.less
set_option maxHeartbeats 6400000 in
set_option maxRecDepth 100000 in
theorem ends_plus (w0 : World) (s : ByteArray) (P : Nat → Prop) (S : Nat → Bool) (kv : Value) (x : List Value) (a : Re) (hk : KidsAt w0 P kv [x]) (hK : EndsK w0 s x a) (hs : s.size ≤ 900) : EndsK w0 s (nodeC 4 S kv) (.plus a) := by
 intro w hb0 v X hv
 obtain ⟨ab, rfl, hX⟩ := hv
 obtain ⟨ka, kc, rfl, -, hkk⟩ := hk.at
 obtain ⟨b, o, rfl, hbl, hat⟩ := hkk (by simp)
 have hlen := hk.each x (List.mem_singleton.2 rfl)
 have hat0 := hat 0 (by simp)
 rw [Nat.zero_mul, Nat.add_zero] at hat0
 have HA0 : Hid (w0.rangeAt b o x) := Lib.hid hat0
 have HK := Lib.hid hK
 have HB0 := Lib.hid hb0
 clear hk hK hkk hat hat0 hb0
 dsimp only [List.length_singleton]
 obtain ⟨i0, hi, hz0, hz1, hz2⟩ := info_parts info_bool
 have HX := Lib.hid hX
 have HE := Lib.hid (Ez.new w (nodeC 4 S (.slice (some ⟨b, o, none⟩) 1 kc)) 62 4 (madeCells #[.bool false] (s.size + 1)))
 have HR := Lib.hid (row_new w (nodeC 4 S (.slice (some ⟨b, o, none⟩) 1 kc)).toArray 62 (s.size + 1))
 clear hX
 go_enter Tryz.func70, Tryz.ntmps70
 go_upto_region 2 with (first
  | ((with_reducible refine Great.wpList_boxTo rfl _ _ rfl _ rfl w.heap.size rfl (nodeC 4 S (.slice (some ⟨b, o, none⟩) 1 kc)).toArray ?hx ?_); (case hx => rfl))
  | ((with_reducible refine wpList_make_row _ rfl _ _ 92 rfl 4 i0 (.bool false) Tryz.underlying92 hi hz0 hz1 rfl .i64 .i64 (s.size + 1) ?hl ?hc ?hb ?h63 ?_); (case hl => rfl); (case hc => rfl); (case hb => rw [hz2]; omega); (case h63 => omega)))
 (try simp only [World.size_alloc])
 refine wp_forget3 (fun W => Ez w W (nodeC 4 S (.slice (some ⟨b, o, none⟩) 1 kc)) ∧ W.rowIs (w.heap.size + 1) 4 (s.size + 1) (fun j => .bool ((fun _ => false) j))) ⟨HE.out, HR.out⟩ (fun w1 hw1 => ?_)
 have H1 := Lib.hid hw1.1
 have HR1 := Lib.hid hw1.2
 have c0 := H1.out.cell (nodeC_0 _ _ _)
 clear hw1 HE HR
 have HX1 : Hid (BsAt w1 (.slice (some ⟨ab, 0, none⟩) (s.size + 1) (s.size + 1)) (s.size + 1) X) := Lib.hid ⟨ab, rfl, HX.out.of_block (H1.out.bl.block ab HX.out.lt)⟩
 have HO1 : Hid (BsAt w1 (.slice (some ⟨w.heap.size + 1, 0, none⟩) (s.size + 1) (s.size + 1)) (s.size + 1) (fun _ => false)) := Lib.hid ⟨_, rfl, HR1.out⟩
 go_wp2
 go_loopw [7, 11, 12] (fun v7 v11 v12 wr => ∃ (k : Nat) (O St : Nat → Bool) (mo : Bool), v12 = .bool mo ∧ Hid (Ez w wr (nodeC 4 S (.slice (some ⟨b, o, none⟩) 1 kc))) ∧ Hid (BsAt wr v7 (s.size + 1) O) ∧ Hid (BsAt wr v11 (s.size + 1) St) ∧ Hid (RepI s a X O St 1 k mo)) (fun v7 _ v12 wr => 2 * cntF wr v7 (s.size + 1) + moreN v12)
 case atStart => exact ⟨0, (fun _ => false), X, true, rfl, H1, HO1, HX1, Lib.hid (rep1 s a X)⟩
 case round =>
  clear H1 HR1 HX1 HO1 c0
  obtain ⟨k, O, St, mo, rfl, HZ, HO, HSt, HI⟩ := hrel
  have HMS := Lib.hid HO.out.cnt
  cases mo with
  | false =>
   have HFIN : Hid (∀ j, j ≤ s.size → (O j = true ↔ ∃ m, 1 ≤ m ∧ Ei (bytesN s) a (fun i => X i = true) m j)) := Lib.hid (fun j hj => HI.out.all (by decide) j hj)
   clear HI HSt HK
   go_wp2
   go_ret
   refine ⟨_, O, rfl, HO.out, fun j hj => ?_, HZ.out.bl⟩
   rw [HFIN.out j hj]
   rw [En_plus]; exact ⟨fun ⟨m, h0, h⟩ => ⟨m - 1, by rwa [show m - 1 + 1 = m by omega]⟩, fun ⟨m, h⟩ => ⟨m + 1, by omega, h⟩⟩
  | true =>
   have q257 := HZ.out.cell (nodeC_kids 4 S (.slice (some ⟨b, o, none⟩) 1 kc))
   have hbw := HB0.out.trans (HZ.out.bl.mono HB0.out.size)
   have HAT := Lib.hid (range_later HA0.out hbw hbl)
   have ke := HK.out wr hbw u11 St HSt.out
   clear hbw
   go_wp2_with ((with_reducible refine wpList_loadN rfl _ rfl _ rfl b o ?hx x ?hc hlen ?_); (case hx => rfl); (case hc => exact HAT.out))
   refine ke.mono ?_
   rintro e w4 ⟨v', St', rfl, hY', hE', hb4⟩
   have HZ4 := Lib.hid (HZ.out.below hb4)
   have HO4 := Lib.hid (HO.out.later hb4)
   have HI2 := Lib.hid (HI.out.next (by decide) hE')
   have HS4 := Lib.hid hY'
   clear ke hY' hE' hb4 q257 HAT HZ HO HSt HI
   obtain ⟨sb, rfl, hsb⟩ := HS4.out
   obtain ⟨ob, hob, hobr⟩ := HO4.out
   have HSB := Lib.hid hsb
   have HOB := Lib.hid hobr
   clear hsb hobr
   subst hob
   go_wp2
   go_loopw [12, 13] (fun v12 v13 wr => ∃ i : Nat, v12 = .bool (newB St' O i) ∧ v13 = .int .i64 (i : Nat) ∧ i ≤ s.size + 1 ∧ wr = w4) (fun _ v _ => s.size + 2 - (intOf v).toNat)
   case atStart => exact ⟨0, rfl, rfl, Nat.zero_le _, rfl⟩
   case round =>
    obtain ⟨i, rfl, rfl, hi, rfl⟩ := hrel
    by_cases h : i < s.size + 1
    ·have qs := HSB.out.cell h
     have qo := HOB.out.cell h
     have hi0 : (0 : Int) ≤ (i : Int) := by omega
     have hi1 : (i : Int) < ((s.size + 1 : Nat) : Int) := by omega
     have HNS := Lib.hid (newB_succ St' O i)
     generalize newB St' O i = N1 at *
     clear HI2 HK
     cases N1 with
     | true =>
      go_wp2
      go_roundw
      case rel => exact ⟨i + 1, by rw [HNS.out]; rfl, by go_num, by omega, by first | rfl | trivial⟩
      case measure => (simp [intOf]; try omega)
     | false =>
      cases hS1 : St' i with
      | false =>
       rw [hS1] at qs
       go_wp2
       go_roundw
       case rel => exact ⟨i + 1, by rw [HNS.out, hS1]; rfl, by go_num, by omega, by first | rfl | trivial⟩
       case measure => (simp [intOf]; try omega)
      | true =>
       rw [hS1] at qs
       cases hO1 : O i with
       | false =>
        rw [hO1] at qo
        go_wp2
        go_roundw
        case rel => exact ⟨i + 1, by rw [HNS.out, hS1, hO1]; rfl, by go_num, by omega, by first | rfl | trivial⟩
        case measure => (simp [intOf]; try omega)
       | true =>
        rw [hO1] at qo
        go_wp2
        go_roundw
        case rel => exact ⟨i + 1, by rw [HNS.out, hS1, hO1]; rfl, by go_num, by omega, by first | rfl | trivial⟩
        case measure => (simp [intOf]; try omega)
    ·obtain rfl : i = s.size + 1 := by omega
     have hi1 : ¬ ((s.size + 1 : Nat) : Int) < ((s.size + 1 : Nat) : Int) := by omega
     have kb := both_any (s.size + 1) O St' _ _ wr HO4.out HS4.out (by omega)
     clear HSB HOB HK
     obtain ⟨N1, hN1⟩ : ∃ N1, newB St' O (s.size + 1) = N1 := ⟨_, rfl⟩
     have HN1 := Lib.hid hN1
     rw [hN1]
     clear hN1
     go_wp2_with fail
     refine kb.mono ?_
     rintro e w5 ⟨v2, rfl, hY2, hb5⟩
     have HZ5 := Lib.hid (HZ4.out.below hb5)
     have HO5 := Lib.hid hY2
     have HS5 := Lib.hid (HS4.out.later hb5)
     clear kb hY2 hb5
     go_wp2
     go_roundw
     case rel => exact ⟨k + 1, fun j => O j || St' j, St', N1, rfl, HZ5, HO5, HS5, Lib.hid (by have := HI2.out; rwa [HN1.out] at this)⟩
     case measure =>
      rw [HO5.out.cnt, HMS.out, ← HN1.out]
      exact RepI.less
end Go.Proofs.YtgbapkechngnmaaGreat
/- The reference's ends of any tree; Fits: contracts. -/
namespace Go.Proofs.YtgbapkechngnmaaGreat
open Go.RowKit

def EndsM (w : World) (s : ByteArray) (md : Nat) (l : List (List Value)) (a : Re) : Prop :=
 if md = 0 then ∀ x, l = [x] → EndsK w s x a
 else if md = 1 then ∃ bs : List Re, bs.length = l.length ∧ a = bs.foldl Re.alt .no ∧ ∀ i (h : i < l.length) (h2 : i < bs.length), EndsK w s l[i] bs[i]
 else ∃ bs : List Re, bs.length = l.length ∧ a = bs.foldl Re.cat .eps ∧ ∀ i (h : i < l.length) (h2 : i < bs.length), EndsK w s l[i] bs[i]
theorem ends_snoc {w : World} {s : ByteArray} {l : List (List Value)} {bs : List Re} {x : List Value} {b : Re} (h1 : bs.length = l.length) (h3 : ∀ i (h : i < l.length) (h2 : i < bs.length), EndsK w s l[i] bs[i]) (hx : EndsK w s x b) :
  ∀ i (h : i < (l ++ [x]).length) (h2 : i < (bs ++ [b]).length), EndsK w s (l ++ [x])[i] (bs ++ [b])[i] := by
 intro i h h2
 by_cases hi : i < l.length
 ·rw [List.getElem_append_left hi, List.getElem_append_left (by omega)]
  exact h3 i hi (by omega)
 ·have e : i = l.length := by rw [List.length_append, List.length_singleton] at h; omega
  subst e
  have e1 : (l ++ [x])[l.length] = x := by simp
  have e2 : (bs ++ [b])[l.length]'h2 = b := by
   have : (bs ++ [b])[bs.length]'(by simp) = b := by simp
   simp only [← h1]
   exact this
  rw [e1, e2]
  exact hx
theorem ends_all {w : World} {P : Nat → Prop} {md : Nat} {l : List (List Value)} {a : Re} (h : NA w P md l a) (s : ByteArray) (hs : s.size ≤ 900) : EndsM w s md l a := by
 induction h with
 | set S kv =>
  unfold EndsM
  rw [if_pos rfl]
  intro x hx
  cases hx
  exact ends_set w s S kv hs
 | alts h1 h2 ih =>
  unfold EndsM at ih ⊢
  rw [if_neg (by decide), if_pos rfl] at ih
  rw [if_pos rfl]
  obtain ⟨bs, e1, rfl, e3⟩ := ih
  intro x hx
  cases hx
  exact ends_alts w s _ _ _ _ bs ⟨h2, e1, e3⟩ hs
 | row h1 h2 ih =>
  unfold EndsM at ih ⊢
  rw [if_neg (by decide), if_neg (by decide)] at ih
  rw [if_pos rfl]
  obtain ⟨bs, e1, rfl, e3⟩ := ih
  intro x hx
  cases hx
  exact ends_row w s _ _ _ _ bs ⟨h2, e1, e3⟩ hs
 | star h1 h2 ih =>
  unfold EndsM at ih ⊢
  rw [if_pos rfl] at ih ⊢
  intro x hx
  cases hx
  exact ends_star w s _ _ _ _ _ h2 (ih _ rfl) hs
 | plus h1 h2 ih =>
  unfold EndsM at ih ⊢
  rw [if_pos rfl] at ih ⊢
  intro x hx
  cases hx
  exact ends_plus w s _ _ _ _ _ h2 (ih _ rfl) hs
 | opt h1 h2 ih =>
  unfold EndsM at ih ⊢
  rw [if_pos rfl] at ih ⊢
  intro x hx
  cases hx
  exact ends_opt w s _ _ _ _ _ h2 (ih _ rfl) hs
 | a0 =>
  unfold EndsM
  rw [if_neg (by decide), if_pos rfl]
  exact ⟨[], rfl, rfl, fun i h => absurd h (by simp)⟩
 | a1 h1 h2 ih1 ih2 =>
  unfold EndsM at ih1 ih2 ⊢
  rw [if_neg (by decide), if_pos rfl] at ih1 ⊢
  rw [if_pos rfl] at ih2
  obtain ⟨bs, e1, rfl, e3⟩ := ih1
  exact ⟨bs ++ [_], by simp [e1], by rw [List.foldl_append]; rfl, ends_snoc e1 e3 (ih2 _ rfl)⟩
 | r0 =>
  unfold EndsM
  rw [if_neg (by decide), if_neg (by decide)]
  exact ⟨[], rfl, rfl, fun i h => absurd h (by simp)⟩
 | r1 h1 h2 ih1 ih2 =>
  unfold EndsM at ih1 ih2 ⊢
  rw [if_neg (by decide), if_neg (by decide)] at ih1 ⊢
  rw [if_pos rfl] at ih2
  obtain ⟨bs, e1, rfl, e3⟩ := ih1
  exact ⟨bs ++ [_], by simp [e1], by rw [List.foldl_append]; rfl, ends_snoc e1 e3 (ih2 _ rfl)⟩
theorem ends_is {w : World} {P : Nat → Prop} {x : List Value} {a : Re} (h : NA w P 0 [x] a) (s : ByteArray) (hs : s.size ≤ 900) : EndsK w s x a := by
 have := ends_all h s hs
 unfold EndsM at this
 rw [if_pos rfl] at this
 exact this x rfl
theorem En_whole (s : ByteArray) (a : Re) (X : Nat → Bool) (hX : ∀ i, X i = decide (i = 0)) : En (bytesN s) a (fun i => X i = true) s.size ↔ Lr a (bytesN s) := by
 have e : sl (bytesN s) 0 s.size = bytesN s := by
  unfold sl
  rw [List.drop_zero, Nat.sub_zero, List.take_of_length_le (by rw [bytesN_len]; exact Nat.le_refl _)]
 constructor
 ·rintro ⟨_, i, _, h2, h3⟩
  rw [hX] at h2
  obtain rfl : i = 0 := of_decide_eq_true h2
  rwa [e] at h3
 ·intro h
  exact ⟨by rw [bytesN_len]; exact Nat.le_refl _, 0, Nat.zero_le _, by show X 0 = true; rw [hX]; rfl, by rw [e]; exact h⟩
set_option maxHeartbeats 3200000 in
set_option maxRecDepth 100000 in
theorem rtree_any (w : World) (P : Nat → Prop) (x : List Value) (a : Re) (s : ByteArray) (h : NA w P 0 [x] a) (hl : x.length = 258) (hs : s.size ≤ 900) :
  Calls Tryz.prog 42 #[.agg x.toArray, .string s] w fun e w' => ∃ b : Bool, e = .returned (.bool b) ∧ (b = true ↔ Lr a (bytesN s)) ∧ Below w.heap.size w w' := by
 have hk := ends_is h s hs
 obtain ⟨i0, hi, hz0, hz1, hz2⟩ := info_parts info_bool
 have HK := Lib.hid hk
 have HE := Lib.hid (Ez.new w x 62 4 (madeCells #[.bool false] (s.size + 1)))
 have HR := Lib.hid (row_new w x.toArray 62 (s.size + 1))
 clear hk h
 go_enter Tryz.func42, Tryz.ntmps42
 go_upto_region 2 with (first
  | ((with_reducible refine Great.wpList_boxTo rfl _ _ rfl _ rfl w.heap.size rfl x.toArray ?hx ?_); (case hx => rfl))
  | ((with_reducible refine wpList_make_row _ rfl _ _ 92 rfl 4 i0 (.bool false) Tryz.underlying92 hi hz0 hz1 rfl .i64 .i64 (s.size + 1) ?hl ?hc ?hb ?h63 ?_); (case hl => rfl); (case hc => rfl); (case hb => rw [hz2]; omega); (case h63 => omega)))
 (try simp only [World.size_alloc])
 refine wp_forget3 (fun W => Ez w W x ∧ W.rowIs (w.heap.size + 1) 4 (s.size + 1) (fun j => .bool ((fun _ => false) j))) ⟨HE.out, HR.out⟩ (fun w1 hw1 => ?_)
 have H1 := Lib.hid hw1.1
 have HR1 := Lib.hid hw1.2
 have qo := HR1.out.cell (show 0 < s.size + 1 by omega)
 have fo := HR1.out.frozen 0
 clear hw1 HE HR
 go_upto_region 3 with fail
 refine wp_forget3 (fun W => Ez w W x ∧ BsAt W (.slice (some ⟨w.heap.size + 1, 0, none⟩) (s.size + 1) (s.size + 1)) (s.size + 1) (fun j => decide (j = 0))) ⟨H1.out.set (by omega) 0 (.bool true), _, rfl, (bs_put HR1.out 0 true).congr (fun j _ => by by_cases e : j = 0 <;> simp [e])⟩ (fun w2 hw2 => ?_)
 have H2 := Lib.hid hw2.1
 have HX2 := Lib.hid hw2.2
 clear hw2 H1 HR1 qo fo
 have ke := HK.out w2 H2.out.bl _ _ HX2.out
 go_wp2_with ((with_reducible refine wpList_loadN rfl _ rfl _ rfl w.heap.size 0 ?hx x ?hc hl ?_); (case hx => rfl); (case hc => exact H2.out.at_))
 refine ke.mono ?_
 rintro e w3 ⟨v', Y, rfl, ⟨sb, rfl, hsb⟩, hE, hb⟩
 have q := hsb.cell (show s.size < s.size + 1 by omega)
 have HF : Hid (Y s.size = true ↔ Lr a (bytesN s)) := Lib.hid ((hE s.size (Nat.le_refl _)).trans (En_whole s a _ (fun _ => rfl)))
 have HB := Lib.hid (H2.out.below hb).bl
 generalize Y s.size = y at *
 clear ke hE hb hsb H2 HX2 HK
 go_wp2
 go_ret
 exact ⟨y, rfl, HF.out, HB.out⟩
end Go.Proofs.YtgbapkechngnmaaGreat
/- lychgateref06 on matchers: Fine, Value, Fits, All: contracts. -/
namespace Go.Proofs.YtgbapkechngnmaaGreat
open Go.RowKit

theorem exec_loadN {o : Oper} {a : Act} {w : World} (x : Operand) (ho : o.op = .load 62 x) (b i : Nat) (hx : a.eval x = .pointer (some ⟨b, i, none⟩)) (cs : List Value) (hc : w.rangeAt b i cs) (hl : cs.length = 258) : (execOp a.eval o).run Tryz.prog w = .ok (.value (.agg cs.toArray)) w := by
 unfold execOp
 simp only [ho, hx]
 rw [Sem.run_bind, run_loadAt_mid w b i 62 cs _ hc Tryz.underlying62 rfl (by rw [hl]; exact node_size)]
 rfl
set_option maxHeartbeats 1600000 in
set_option maxRecDepth 100000 in
theorem fine6_any (m : Mt) (w : World) (hf : MtFit m) : Calls Tryz.prog 27 #[.agg #[.string m.nm, .int .i64 m.op, .string m.val]] w fun e w' => e = .returned (.bool (fineM m)) ∧ Below w.heap.size w w' := by
 have kr := fun W => rread_any m.val W
 have hz := hf.2
 have HF : Hid (fineM m = (nameL (B m.nm) && decide (0 ≤ m.op) && decide (m.op ≤ 3) && decide (m.val.size ≤ 200) && (decide (m.op < 2) || decide (errM m.val = 0)))) := Lib.hid rfl
 have kn0 := refName.name_any m.nm (w.alloc (.cells #[.string m.nm, .int .i64 m.op, .string m.val] 29)) hf.1
 obtain ⟨nm, op, val⟩ := m
 dsimp only at *
 generalize fineM ⟨nm, op, val⟩ = R at *
 generalize nameL (B nm) = N at *
 have HR := Lib.hid kr
 unfold maxLen at hz
 have hbx := box3m (Below.refl _ (w.alloc (.cells #[.string nm, .int .i64 op, .string val] 29)))
 clear hf kr
 go_enter Tryz.func27, Tryz.ntmps27
 go_wp2_with fail
 refine kn0.mono ?_
 rintro e w1 ⟨rfl, hw1⟩
 obtain ⟨⟨x0, x1, x2⟩, hlt, hB1⟩ := hbx
 rw [hw1] at x0 x1 x2 hlt hB1
 have HB := Lib.hid hB1
 clear kn0 hw1 hB1
 cases N with
 | false =>
  go_wp2
  go_ret
  exact ⟨by rw [HF.out]; rfl, HB.out⟩
 | true =>
  by_cases h0 : op < 0
  ·rw [show decide (0 ≤ op) = false from decide_eq_false (by omega)] at HF
   go_wp2
   go_ret
   exact ⟨by rw [HF.out]; rfl, HB.out⟩
  ·rw [show decide (0 ≤ op) = true from decide_eq_true (by omega)] at HF
   by_cases h3 : 3 < op
   ·rw [show decide (op ≤ 3) = false from decide_eq_false (by omega)] at HF
    go_wp2
    go_ret
    exact ⟨by rw [HF.out]; rfl, HB.out⟩
   ·rw [show decide (op ≤ 3) = true from decide_eq_true (by omega)] at HF
    by_cases hs : 200 < val.size
    ·rw [show decide (val.size ≤ 200) = false from decide_eq_false (by omega)] at HF
     have hsi : (200 : Int) < (val.size : Int) := by omega
     go_wp2
     go_ret
     exact ⟨by rw [HF.out]; rfl, HB.out⟩
    ·rw [show decide (val.size ≤ 200) = true from decide_eq_true (by omega)] at HF
     have hsi : (val.size : Int) ≤ 200 := by omega
     have kr := HR.out w1
     have hde : Hid ((errM val == 0) = decide (errM val = 0)) := Lib.hid (by rw [Bool.eq_iff_iff]; simp)
     generalize errM val = E at *
     go_wp2_with fail
     refine kr.mono ?_
     rintro e w2 ⟨cs, rfl, hl, hone, -, hb2⟩
     have hlt2 := hb2.size
     have y1 := keep_cell x1 hb2 hlt
     have HBN : Hid (Below w.heap.size w ((w2.alloc (.cells (zeroN 0) 62)).setCells w2.heap.size 0 cs)) := Lib.hid (by
      have h1 := HB.out.trans (hb2.mono HB.out.size)
      exact below_puts (h1.trans ((alloc_below w2 _).mono h1.size)) (by have := h1.size; omega) _)
     have HY1 : Hid (((w2.alloc (.cells (zeroN 0) 62)).setCells w2.heap.size 0 cs).cell? ⟨w.heap.size, 1, none⟩ = some (.int .i64 op)) := Lib.hid ((World.cell?_of_block (a := ⟨w.heap.size, 1, none⟩) (heap_setCells _ _ _ (by show w.heap.size ≠ w2.heap.size; omega) _ _)).trans (keep_cell y1 (alloc_below w2 _) (by omega)))
     have HTH := Lib.hid (there_new w2 0 62)
     clear kr x0 x1 x2 y1
     go_upto_region 4 with (first
      | (with_reducible refine wpList_allocN rfl rfl _ rfl w2.heap.size rfl ?_)
      | ((with_reducible refine wpList_storeN rfl _ _ rfl _ rfl w2.heap.size 0 cs ?hx ?hy ?ht hl hone ?_); (case hx => rfl); (case hy => rfl); (case ht => exact HTH.out)))
     (try simp only [Act.put, List.setIfInBounds_toArray, List.set_cons_zero, List.set_cons_succ])
     refine wp_forget3 (fun W => W.cell? ⟨w.heap.size, 1, none⟩ = some (.int .i64 op) ∧ Below w.heap.size w W) ⟨HY1.out, HBN.out⟩ (fun w3 hw3 => ?_)
     obtain ⟨y1, hB3⟩ := hw3
     have HB3 := Lib.hid hB3
     clear HBN HY1 HTH hB3 hb2
     by_cases h2 : op < 2
     ·rw [show decide (op < 2) = true from decide_eq_true h2] at HF
      go_wp2
      go_ret
      exact ⟨by rw [HF.out]; rfl, HB3.out⟩
     ·rw [show decide (op < 2) = false from decide_eq_false h2] at HF
      go_wp2
      go_ret
      exact ⟨by rw [HF.out, ← hde.out]; first | rfl | (simp), HB3.out⟩
theorem valueF_at {l : List Fld} {n : ByteArray} {i : Nat} (h : i < l.length) (hb : ∀ j (hj : j < l.length), j < i → (l[j].1.toList == n.toList) = false) (he : (l[i].1.toList == n.toList) = true) : valueF l n = l[i].2 := by
 unfold valueF
 have : (l.find? fun f => f.1.toList == n.toList) = some l[i] := by
  rw [List.find?_eq_some_iff_getElem]
  exact ⟨he, i, h, rfl, fun j hj => by rw [hb j (by omega) hj]; rfl⟩
 rw [this]
theorem valueF_no {l : List Fld} {n : ByteArray} (hb : ∀ j (hj : j < l.length), (l[j].1.toList == n.toList) = false) : valueF l n = ⟨#[]⟩ := by
 unfold valueF
 have : (l.find? fun f => f.1.toList == n.toList) = none := by
  rw [List.find?_eq_none]
  intro x hx
  obtain ⟨j, hj, rfl⟩ := List.getElem_of_mem hx
  rw [hb j hj]
  decide
 rw [this]
set_option maxHeartbeats 1600000 in
set_option maxRecDepth 100000 in
theorem val6_any (l : List Fld) (n : ByteArray) (w : World) (v : Value) (hv : FldsAt w v l) (hl : l.length ≤ 1000000) :
  Calls Tryz.prog 17 #[v, .string n] w fun e w' => e = .returned (.string (valueF l n)) ∧ Below w.heap.size w w' := by
 obtain ⟨a, c, rfl, hc, hr⟩ := RdAt.shape hv
 have HR := Lib.hid hr
 clear hr hv
 go_enter Tryz.func17, Tryz.ntmps17
 go_wp2
 go_loopw [5] (fun i wr => ∃ k : Nat, k ≤ l.length ∧ i = .int .i64 (k : Nat) ∧ Hid (∀ j (hj : j < l.length), j < k → (l[j].1.toList == n.toList) = false) ∧ Below w.heap.size w wr) (fun i _ => l.length + 1 - (intOf i).toNat)
 case atStart => exact ⟨0, Nat.zero_le _, rfl, Lib.hid (fun j _ hj => absurd hj (Nat.not_lt_zero j)), Below.refl _ _⟩
 case round =>
  obtain ⟨k, hk, rfl, HT, hbr⟩ := hrel
  by_cases hkl : k < l.length
  ·obtain ⟨b, o, rfl, hb, hcell⟩ := HR.out (by omega)
   have HV := Lib.hid (fun he => valueF_at (n := n) hkl HT.out he)
   have HNO : Hid ((l[k].1.toList == n.toList) = false → ∀ j (hj : j < l.length), j < k + 1 → (l[j].1.toList == n.toList) = false) := Lib.hid (fun he j hj h2 => by
    by_cases e : j = k
    ·subst e; exact he
    ·exact HT.out j hj (by omega))
   obtain ⟨x, hxe⟩ : ∃ x, l[k].1 = x := ⟨_, rfl⟩
   obtain ⟨y, hye⟩ : ∃ y, l[k].2 = y := ⟨_, rfl⟩
   obtain ⟨hx0, hy0⟩ := fldCells_at l k hkl
   rw [hxe] at hx0 HV HNO
   rw [hye] at hy0 HV
   have a0 : wr.cell? ⟨b, o + k * 2, none⟩ = some (.string x) := keep_cell (hcell _ _ hx0) hbr hb
   have a1 : wr.cell? ⟨b, o + k * 2 + 1, none⟩ = some (.string y) := keep_cell (by have := hcell _ _ hy0; rwa [← Nat.add_assoc] at this) hbr hb
   have hi0 : (0 : Int) ≤ (k : Int) := by omega
   have hi1 : (k : Int) < (l.length : Int) := by omega
   have HBR := Lib.hid hbr
   clear hcell hx0 hy0 hbr hxe hye HT
   cases he : (x.toList == n.toList) with
   | true =>
    rw [he] at HV
    go_wp2
    go_ret
    exact ⟨by first | (rw [HV.out (by trivial)]; done) | (rw [HV.out (by trivial)]; rfl), HBR.out⟩
   | false =>
    rw [he] at HNO
    go_wp2
    go_roundw
    case rel => exact ⟨k + 1, by omega, by go_num, Lib.hid (HNO.out (by trivial)), HBR.out⟩
    case measure => (simp [intOf]; try omega)
  ·have HV := Lib.hid (valueF_no (n := n) (fun j hj => HT.out j hj (by omega)))
   have hi1 : ¬ (k : Int) < (l.length : Int) := by omega
   have HBR := Lib.hid hbr
   clear HT hbr
   go_wp2
   go_ret
   exact ⟨by first | (rw [HV.out]; done) | (rw [HV.out]; rfl), HBR.out⟩
theorem opM_fit {m : Mt} {v : ByteArray} {b : Bool} (h0 : errM m.val = 0) (hb : b = true ↔ Lr (reT m.val) (bytesN v)) : b = fitB m.val v := by
 rw [Bool.eq_iff_iff, fitB_iff, fits_re, hb]
 exact ⟨fun h => ⟨h0, h⟩, fun h => h.2⟩
set_option maxHeartbeats 3200000 in
set_option maxRecDepth 100000 in
theorem fit6_any (l : List Fld) (m : Mt) (v : Value) (w : World) (hv : FldsAt w v l) (hl : l.length ≤ 1000000) (hvs : (valueF l m.nm).size ≤ 900) (hf : MtFit m) :
  Calls Tryz.prog 15 #[v, .agg #[.string m.nm, .int .i64 m.op, .string m.val]] w fun e w' => e = .returned (.bool (fitM l m)) ∧ Below w.heap.size w w' := by
 obtain ⟨fa, fc, rfl, _, _⟩ := RdAt.shape hv
 have hba := alloc_below w (.cells #[.string m.nm, .int .i64 m.op, .string m.val] 29)
 have kf := fine6_any m (w.alloc (.cells #[.string m.nm, .int .i64 m.op, .string m.val] 29)) hf
 have KV := Lib.hid (fun W (h : Below w.heap.size w W) => val6_any l m.nm W _ (hv.later h) hl)
 have KR := Lib.hid (fun W => rread_any m.val W)
 have HM : Hid (fitM l m = (fineM m && opM m (valueF l m.nm))) := Lib.hid rfl
 have HO : Hid (opM m (valueF l m.nm) = if m.op = 0 then (valueF l m.nm).toList == m.val.toList else if m.op = 1 then !((valueF l m.nm).toList == m.val.toList) else if m.op = 2 then fitB m.val (valueF l m.nm) else !(fitB m.val (valueF l m.nm))) := Lib.hid rfl
 have HFT := Lib.hid (fun h => @fineM_true m h)
 have HOF := Lib.hid (fun b h0 hb => @opM_fit m (valueF l m.nm) b h0 hb)
 have KF := Lib.hid (fun W P cs a h hl => rtree_any W P cs a (valueF l m.nm) h hl hvs)
 obtain ⟨nm, op, val⟩ := m
 dsimp only at *
 generalize fitM l ⟨nm, op, val⟩ = R at *
 generalize opM ⟨nm, op, val⟩ (valueF l nm) = OM at *
 generalize fineM ⟨nm, op, val⟩ = N at *
 generalize valueF l nm = vv at *
 generalize l.length = ln at *
 have HB0 := Lib.hid hba
 clear hv hba hf
 go_enter Tryz.func15, Tryz.ntmps15
 have hbx := box3m (Below.refl _ (w.alloc (.cells #[.string nm, .int .i64 op, .string val] 29)))
 obtain ⟨⟨x0, x1, x2⟩, hlt, -⟩ := hbx
 go_wp2_with fail
 refine kf.mono ?_
 rintro e w1 ⟨rfl, hb1⟩
 have hb0 := HB0.out.trans (hb1.mono HB0.out.size)
 have y0 := keep_cell x0 hb1 hlt
 have y1 := keep_cell x1 hb1 hlt
 have y2 := keep_cell x2 hb1 hlt
 have hlt1 : w.heap.size < w1.heap.size := by have := hb1.size; omega
 have HB1 := Lib.hid hb0
 clear kf hb1 x0 x1 x2 hlt hb0 HB0
 cases N with
 | false =>
  go_wp2
  go_ret
  exact ⟨by rw [HM.out]; rfl, HB1.out⟩
 | true =>
  obtain ⟨-, h0, h3, -, h5⟩ := HFT.out rfl
  have kv := KV.out w1 HB1.out
  clear HFT KV
  go_wp2_with fail
  refine kv.mono ?_
  rintro e w2 ⟨rfl, hb2⟩
  have z0 := keep_cell y0 hb2 hlt1
  have z1 := keep_cell y1 hb2 hlt1
  have z2 := keep_cell y2 hb2 hlt1
  have hlt2 : w.heap.size < w2.heap.size := by have := hb2.size; omega
  have HB2 := Lib.hid (HB1.out.trans (hb2.mono HB1.out.size))
  clear kv hb2 y0 y1 y2 hlt1 HB1
  by_cases h2 : op < 2
  ·by_cases e0 : op = 0
   ·subst e0
    have HO2 : Hid (OM = (vv.toList == val.toList)) := Lib.hid (by rw [HO.out, if_pos rfl])
    go_wp2
    go_ret
    exact ⟨by rw [HM.out, HO2.out, Bool.true_and]; rfl, HB2.out⟩
   ·obtain rfl : op = 1 := by omega
    have HO2 : Hid (OM = !(vv.toList == val.toList)) := Lib.hid (by rw [HO.out, if_neg (by decide), if_pos rfl])
    go_wp2
    go_ret
    exact ⟨by rw [HM.out, HO2.out, Bool.true_and]; rfl, HB2.out⟩
  ·have hE0 : errM val = 0 := by rcases h5 with h | h; (· exact absurd h h2); exact h
   have kr := KR.out w2
   have HE0 := Lib.hid hE0
   rw [hE0] at kr
   clear h5 hE0
   go_wp2_with fail
   refine kr.mono ?_
   rintro e w3 ⟨cs, rfl, hln, hone, hna, hb3⟩
   have hna := hna (by trivial)
   have u1 := keep_cell z1 hb3 hlt2
   have hlt3 : w.heap.size < w3.heap.size := by have := hb3.size; omega
   have hb3' := HB2.out.trans (hb3.mono HB2.out.size)
   have hnd : NdAt ((w3.alloc (.cells (zeroN 0) 62)).setCells w3.heap.size 0 cs) w3.heap.size cs := (NdAt.new w3 0 62).stored hln
   have HTH := Lib.hid (there_new w3 0 62)
   have HBN : Hid (Below w.heap.size w ((w3.alloc (.cells (zeroN 0) 62)).setCells w3.heap.size 0 cs)) := Lib.hid (below_puts (hb3'.trans ((alloc_below w3 _).mono hb3'.size)) (by omega) _)
   have HY1 : Hid (((w3.alloc (.cells (zeroN 0) 62)).setCells w3.heap.size 0 cs).cell? ⟨w.heap.size, 1, none⟩ = some (.int .i64 op)) := Lib.hid ((World.cell?_of_block (a := ⟨w.heap.size, 1, none⟩) (heap_setCells _ _ _ (by show w.heap.size ≠ w3.heap.size; omega) _ _)).trans (keep_cell u1 (alloc_below w3 _) (by omega)))
   have HNA : Hid (NA ((w3.alloc (.cells (zeroN 0) 62)).setCells w3.heap.size 0 cs) (fun q => w2.heap.size ≤ q ∧ q < w3.heap.size) 0 [cs] (reT val)) := Lib.hid ((hna.later (alloc_below w3 _)).keep (by rw [size_setCells]; exact Nat.le_refl _) (fun q hq _ => heap_setCells _ _ _ (by omega) _ _))
   have HND0 := Lib.hid hnd
   have HLN := Lib.hid hln
   have HON := Lib.hid hone
   clear kr z0 z1 z2 u1 hna hnd hb3 hb3' hln hone
   go_upto_region 7 with (first
    | (with_reducible refine wpList_allocN rfl rfl _ rfl w3.heap.size rfl ?_)
    | ((with_reducible refine wpList_storeN rfl _ _ rfl _ rfl w3.heap.size 0 cs ?hx ?hy ?ht HLN.out HON.out ?_); (case hx => rfl); (case hy => rfl); (case ht => exact HTH.out)))
   (try simp only [Act.put, List.setIfInBounds_toArray, List.set_cons_zero, List.set_cons_succ])
   have hsz4 : w.heap.size < ((w3.alloc (.cells (zeroN 0) 62)).setCells w3.heap.size 0 cs).heap.size := by rw [size_setCells, World.size_alloc]; omega
   clear HTH HB2
   generalize ((w3.alloc (.cells (zeroN 0) 62)).setCells w3.heap.size 0 cs) = w4 at *
   generalize w3.heap.size = nb at *
   have HND := HND0
   have HOP := HY1
   have HWL := Lib.hid hsz4
   clear HND0 HY1 hsz4
   rcases (show op = 2 ∨ op = 3 by omega) with rfl | rfl
   ·have HO2 : Hid (OM = fitB val vv) := Lib.hid (by rw [HO.out]; rfl)
    refine wp_region_held_drew (S := (fun W => W.rangeAt nb 0 cs ∧ W.cell? ⟨w.heap.size, 1, none⟩ = some (.int .i64 2))) (by kernel_rfl) ⟨HND.out.at_, HOP.out⟩ (fun hHeld => ?_)
    refine hT (i := 0) (v := ?_) rfl rfl hHeld ?_ ?_
    rotate_left
    ·rintro wh ⟨z0, -⟩
     refine exec_loadN (.tmp 6) ?_ nb 0 ?_ cs z0 HLN.out <;> rfl
    simp only [Act.put, List.setIfInBounds_toArray, List.set_cons_zero, List.set_cons_succ]
    refine plIn [1, 3, 4, 5] ?_
    iterate 4
     refine hP (v := ?_) rfl rfl hHeld ?_ ?_
     rotate_left
     ·rintro wh ⟨z0, z1⟩
      go_simp
      (try with_reducible rfl)
     simp only [Act.put, List.setIfInBounds_toArray, List.set_cons_zero, List.set_cons_succ]
    refine plOut ?_
    refine held_step (i := 2) rfl (by kernel_rfl) (fun K hK => ?_)
    go_simp; refine (KF.out _ _ _ _ (HNA.out.later ((Below.refl w4.heap.size w4).drew)) HLN.out).mono ?_; rintro e w6 ⟨b, rfl, hb, hbl⟩; have HBB := Lib.hid hb; have HBL := Lib.hid (((Below.refl w4.heap.size w4).drew).trans (hbl.mono ((Below.refl w4.heap.size w4).drew).size)); clear hb hbl
    refine hK.out _ _ ⟨range_later HND.out.at_ HBL.out HND.out.lt, keep_cell HOP.out HBL.out HWL.out⟩ (fun hHeld => ?_)
    clear hK K
    (try simp only [Act.put, List.setIfInBounds_toArray])
    refine plIn [6, 7] ?_
    iterate 2
     refine hP (v := ?_) rfl rfl hHeld ?_ ?_
     rotate_left
     ·rintro wh ⟨z0, z1⟩
      go_simp
      (try with_reducible rfl)
     simp only [Act.put, List.setIfInBounds_toArray, List.set_cons_zero, List.set_cons_succ]
    refine plOut ?_
    refine wpAnyH_done (by kernel_rfl) ?_ _
    have hb := HOF.out b HE0.out HBB.out
    clear HBB
    subst hb
    go_wp2
    go_ret
    exact ⟨by rw [HM.out, HO2.out]; cases fitB val vv <;> rfl, HBN.out.trans (HBL.out.mono HBN.out.size)⟩
   ·have HO2 : Hid (OM = !(fitB val vv)) := Lib.hid (by rw [HO.out]; rfl)
    refine wp_region_held_drew (S := (fun W => W.rangeAt nb 0 cs ∧ W.cell? ⟨w.heap.size, 1, none⟩ = some (.int .i64 3))) (by kernel_rfl) ⟨HND.out.at_, HOP.out⟩ (fun hHeld => ?_)
    refine hT (i := 0) (v := ?_) rfl rfl hHeld ?_ ?_
    rotate_left
    ·rintro wh ⟨z0, -⟩
     refine exec_loadN (.tmp 6) ?_ nb 0 ?_ cs z0 HLN.out <;> rfl
    simp only [Act.put, List.setIfInBounds_toArray, List.set_cons_zero, List.set_cons_succ]
    refine plIn [1, 3, 4, 5] ?_
    iterate 4
     refine hP (v := ?_) rfl rfl hHeld ?_ ?_
     rotate_left
     ·rintro wh ⟨z0, z1⟩
      go_simp
      (try with_reducible rfl)
     simp only [Act.put, List.setIfInBounds_toArray, List.set_cons_zero, List.set_cons_succ]
    refine plOut ?_
    refine held_step (i := 2) rfl (by kernel_rfl) (fun K hK => ?_)
    go_simp; refine (KF.out _ _ _ _ (HNA.out.later ((Below.refl w4.heap.size w4).drew)) HLN.out).mono ?_; rintro e w6 ⟨b, rfl, hb, hbl⟩; have HBB := Lib.hid hb; have HBL := Lib.hid (((Below.refl w4.heap.size w4).drew).trans (hbl.mono ((Below.refl w4.heap.size w4).drew).size)); clear hb hbl
    refine hK.out _ _ ⟨range_later HND.out.at_ HBL.out HND.out.lt, keep_cell HOP.out HBL.out HWL.out⟩ (fun hHeld => ?_)
    clear hK K
    (try simp only [Act.put, List.setIfInBounds_toArray])
    refine plIn [6, 7] ?_
    iterate 2
     refine hP (v := ?_) rfl rfl hHeld ?_ ?_
     rotate_left
     ·rintro wh ⟨z0, z1⟩
      go_simp
      (try with_reducible rfl)
     simp only [Act.put, List.setIfInBounds_toArray, List.set_cons_zero, List.set_cons_succ]
    refine plOut ?_
    refine wpAnyH_done (by kernel_rfl) ?_ _
    have hb := HOF.out b HE0.out HBB.out
    clear HBB
    subst hb
    go_wp2
    go_ret
    exact ⟨by rw [HM.out, HO2.out]; cases fitB val vv <;> rfl, HBN.out.trans (HBL.out.mono HBN.out.size)⟩
set_option maxHeartbeats 1600000 in
set_option maxRecDepth 100000 in
theorem all6_any (l : List Fld) (ms : List Mt) (v mv : Value) (w : World) (hv : FldsAt w v l) (hl : l.length ≤ 1000000) (hvs : ∀ m ∈ ms, (valueF l m.nm).size ≤ 900) (hm : MtsAt w mv ms) (hml : ms.length ≤ 1000000) (hmf : MtsFit ms) :
  Calls Tryz.prog 19 #[v, mv] w fun e w' => e = .returned (.bool (allM l ms)) ∧ Below w.heap.size w w' := by
 obtain ⟨ma, mc, rfl, _, hr⟩ := RdAt.shape hm
 obtain ⟨fa, fc, rfl, _, _⟩ := RdAt.shape hv
 have HR := Lib.hid hr
 have KF := Lib.hid (fun (m : Mt) (h : m ∈ ms) W (hW : Below w.heap.size w W) => fit6_any l m _ W (hv.later hW) hl (hvs m h) (hmf m h))
 clear hr hm hv hvs hmf
 go_enter Tryz.func19, Tryz.ntmps19
 go_wp2
 go_loopw [5] (fun i wr => ∃ k : Nat, k ≤ ms.length ∧ i = .int .i64 (k : Nat) ∧ Hid (allM l (ms.take k) = true) ∧ Hid (Below w.heap.size w wr)) (fun i _ => ms.length + 1 - (intOf i).toNat)
 case atStart => exact ⟨0, Nat.zero_le _, rfl, Lib.hid rfl, Lib.hid (Below.refl _ _)⟩
 case round =>
  obtain ⟨k, hk, rfl, HT, HBR⟩ := hrel
  by_cases hkl : k < ms.length
  ·obtain ⟨b, o, rfl, hb, hcell⟩ := HR.out (by omega)
   have HTK : Hid (allM l (ms.take (k + 1)) = (allM l (ms.take k) && fitM l ms[k])) := Lib.hid (by unfold allM; rw [List.take_add_one, List.getElem?_eq_getElem hkl, List.all_append]; simp)
   have HNO : Hid (fitM l ms[k] = false → allM l ms = false) := Lib.hid (fun h => by unfold allM; rw [List.all_eq_false]; exact ⟨_, List.getElem_mem hkl, by rw [h]; decide⟩)
   have kf := KF.out ms[k] (List.getElem_mem hkl) wr HBR.out
   obtain ⟨h0, h1, h2⟩ := mtCells_at ms k hkl
   have a0 := keep_cell (hcell _ _ h0) HBR.out hb
   have a1 : wr.cell? ⟨b, o + k * 3 + 1, none⟩ = _ := keep_cell (by have := hcell _ _ h1; rwa [← Nat.add_assoc] at this) HBR.out hb
   have a2 : wr.cell? ⟨b, o + k * 3 + 2, none⟩ = _ := keep_cell (by have := hcell _ _ h2; rwa [← Nat.add_assoc] at this) HBR.out hb
   have hi0 : (0 : Int) ≤ (k : Int) := by omega
   have hi1 : (k : Int) < (ms.length : Int) := by omega
   clear hcell h0 h1 h2
   generalize ms[k] = m at *
   obtain ⟨nm, op, val⟩ := m
   dsimp only at *
   go_wp2_with fail
   refine kf.mono ?_
   rintro e w2 ⟨rfl, hb2⟩
   have HB2 := Lib.hid (HBR.out.trans (hb2.mono HBR.out.size))
   clear kf hb2 a0 a1 a2
   cases hfm : fitM l ⟨nm, op, val⟩ with
   | true =>
    rw [hfm] at HTK
    go_wp2
    go_roundw
    case rel => exact ⟨k + 1, by omega, by go_num, Lib.hid (by rw [HTK.out, HT.out]; rfl), HB2⟩
    case measure => (simp [intOf]; try omega)
   | false =>
    rw [hfm] at HNO
    go_wp2
    go_ret
    exact ⟨by first | (rw [HNO.out (by trivial)]; done) | (rw [HNO.out (by trivial)]; rfl), HB2.out⟩
  ·obtain rfl : k = ms.length := by omega
   have hi1 : ¬ (ms.length : Int) < (ms.length : Int) := by omega
   have HA : Hid (allM l ms = true) := Lib.hid (by have := HT.out; rwa [List.take_length] at this)
   clear HT
   go_wp2
   go_ret
   exact ⟨by first | (rw [HA.out]; done) | (rw [HA.out]; rfl), HBR.out⟩
end Go.Proofs.YtgbapkechngnmaaGreat
/- MatchFits: the law's walk: whatever the arguments, it returns true. No condition. (Region 7 is printed by wip/genmafit.py.) -/
namespace Go.Proofs.YtgbapkechngnmaaGreat
open Go.RowKit

theorem value_right6 {l : List Fld} (h : rightF l = true) (n : ByteArray) : (valueF l n).size ≤ 900 := by
 unfold valueF
 split
 ·rename_i f hf
  have := ((right_iff l).1 h).2.2 f (List.mem_of_find?_eq_some hf)
  omega
 ·exact Nat.zero_le _
namespace lawFits
set_option maxHeartbeats 3200000 in
set_option maxRecDepth 100000 in
theorem walk (v0 : Value) (l : List Fld) (v1 : Value) (a0 : List Mt) (w : World) (hv : ArgFlds w v0 l) (ha : ArgMts w v1 a0) :
  Calls Tryz.prog 3 #[v0, v1] w fun e w' => e = .returned (.bool true) ∧ Below w.heap.size w w' := by
 have kl := lives6_any w
 have KG := Lib.hid (fun W (h : Below w.heap.size w W) => rgood6_any l W v0 (hv.1.later h) hv.2.2 hv.2.1)
 have KA := Lib.hid (fun W (h : Below w.heap.size w W) => few6_any a0 v1 W (ha.1.later h) ha.2.1)
 have HFA := Lib.hid (fewM_fit ha.2.2)
 clear hv ha
 go_enter Tryz.func3, Tryz.ntmps3
 go_wp2_with fail
 refine kl.mono ?_
 rintro e w1 ⟨rfl, hb1⟩
 have HB1 := Lib.hid hb1
 have kg := KG.out w1 hb1
 clear kl hb1 KG
 go_wp2_with fail
 refine kg.mono ?_
 rintro e w2 ⟨gv, rfl, hgv, hgf, hgr, _, hb2⟩
 have HB2 := Lib.hid (HB1.out.trans (hb2.mono HB1.out.size))
 have HG2 := Lib.hid hgv
 have HGF := Lib.hid hgf
 have HGL := Lib.hid ((right_iff _).1 hgr).1
 have HGV := Lib.hid (value_right6 hgr)
 have ka := KA.out w2 HB2.out
 clear kg hb2 hgv hgf hgr KA
 generalize goodF l = L at *
 go_wp2_with fail
 refine ka.mono ?_
 rintro e w3 ⟨av, rfl, hao, hb3⟩
 have HB3 := Lib.hid (HB2.out.trans (hb3.mono HB2.out.size))
 have HG3 := Lib.hid (HG2.out.later hb3)
 have HA3 := Lib.hid (RdAt.own hao)
 have hal := fewM_le a0
 generalize fewM a0 = A at *
 have hLl : L.length ≤ 1000000 := by have := HGL.out; omega
 have K1 := Lib.hid (fun m (hm : m ∈ A) W (h : Below w3.heap.size w3 W) => fits_any L m W gv (HG3.out.later h) (by omega) HGF.out (HFA.out m hm))
 have K2 := Lib.hid (fun m (hm : m ∈ A) W (h : Below w3.heap.size w3 W) => fit6_any L m gv W (HG3.out.later h) hLl (HGV.out m.nm) (HFA.out m hm))
 have K3 := Lib.hid (fun (n : ByteArray) W (h : Below w3.heap.size w3 W) => value_any L n W gv (HG3.out.later h) (by omega))
 have K4 := Lib.hid (fun (n : ByteArray) W (h : Below w3.heap.size w3 W) => val6_any L n W gv (HG3.out.later h) hLl)
 have K5 := Lib.hid (fun W (h : Below w3.heap.size w3 W) => all_any L A gv av W (HG3.out.later h) (by omega) HGF.out (RdAt.later HA3.out h) (by omega) HFA.out)
 have K6 := Lib.hid (fun W (h : Below w3.heap.size w3 W) => all6_any L A gv av W (HG3.out.later h) hLl (fun m _ => HGV.out m.nm) (RdAt.later HA3.out h) (by omega) HFA.out)
 obtain ⟨ga, gc, rfl, _, _⟩ := RdAt.shape HG3.out
 obtain ⟨aa, ac, rfl, hac, har⟩ := RdAt.shape HA3.out
 have HAR := Lib.hid har
 clear ka hb3 HG2 hao har
 go_wp2_with fail
 go_loopw [5] (fun v wr => ∃ k : Nat, v = .int .i64 k ∧ k ≤ A.length ∧ Hid (Below w3.heap.size w3 wr)) (fun v _ => A.length - (intOf v).toNat)
 case atStart => exact ⟨0, rfl, Nat.zero_le _, Lib.hid (Below.refl _ _)⟩
 case round =>
  obtain ⟨k, rfl, hk, HB⟩ := hrel
  by_cases hkl : k < A.length
  ·have hkl' : (k : Int) < (A.length : Int) := by omega
   have hk0 : (0 : Int) ≤ (k : Int) := by omega
   obtain ⟨g, o, rfl, hg, hcell⟩ := HAR.out (by omega)
   obtain ⟨x, hx⟩ : ∃ x, A[k] = x := ⟨_, rfl⟩
   have hmem : x ∈ A := by rw [← hx]; exact List.getElem_mem hkl
   obtain ⟨q0, q1, q2⟩ := mtCells_at A k hkl
   rw [hx] at q0 q1 q2
   have p0 := keep_cell (hcell _ _ q0) HB.out hg
   have p1 := keep_cell (hcell _ _ q1) HB.out hg
   have p2 := keep_cell (hcell _ _ q2) HB.out hg
   rw [← Nat.add_assoc] at p1 p2
   have hgr : g < wr.heap.size := Nat.lt_of_lt_of_le hg HB.out.size
   have SK : Hid (∀ W, Below wr.heap.size wr W → W.cell? ⟨g, o + k * 3, none⟩ = some (.string x.nm) ∧ W.cell? ⟨g, o + k * 3 + 1, none⟩ = some (.int .i64 x.op) ∧ W.cell? ⟨g, o + k * 3 + 2, none⟩ = some (.string x.val)) := Lib.hid (fun W h => ⟨keep_cell p0 h hgr, keep_cell p1 h hgr, keep_cell p2 h hgr⟩)
   have k1 := Lib.hid (K1.out x hmem)
   have k2 := Lib.hid (K2.out x hmem)
   obtain ⟨FT, hFT⟩ : ∃ F, fitM L x = F := ⟨_, rfl⟩
   rw [hFT] at k1 k2
   have k3 := Lib.hid (K3.out x.nm)
   have k4 := Lib.hid (K4.out x.nm)
   obtain ⟨VL, hVL⟩ : ∃ V, valueF L x.nm = V := ⟨_, rfl⟩
   rw [hVL] at k3 k4
   have hne : (!(VL.toList == VL.toList)) = false := by simp
   clear hx q0 q1 q2 hcell hmem hFT hVL p0 p1 p2 hg hgr
   obtain ⟨nm, op, val⟩ := x
   dsimp only at *
   go_upto_region 7 with fail
   refine wp_region_held_drew (S := (fun W => W.cell? ⟨g, o + k * 3, none⟩ = some (.string nm) ∧ W.cell? ⟨g, o + k * 3 + 1, none⟩ = some (.int .i64 op) ∧ W.cell? ⟨g, o + k * 3 + 2, none⟩ = some (.string val))) (by kernel_rfl) (SK.out _ ((Below.refl _ _).drew)) (fun hHeld => ?_)
   have hbd : Below wr.heap.size wr wr.drew := (Below.refl _ _).drew
   have HBD := Lib.hid hbd
   clear hbd
   generalize wr.drew = wd at *
   refine plIn [0, 1, 2, 3, 4, 6, 7, 8, 9, 10] ?_
   iterate 10
    refine hP (v := ?_) rfl rfl hHeld ?_ ?_
    rotate_left
    ·rintro wh ⟨z0, z1, z2⟩
     go_simp
     (try with_reducible rfl)
    simp only [Act.put, List.setIfInBounds_toArray, List.set_cons_zero, List.set_cons_succ]
   refine plOut ?_
   refine held_call (i := 5) rfl (by kernel_rfl) (by rfl) (fun K hK => ?_)
   go_simp; refine (k1.out _ (HB.out.trans (HBD.out.mono HB.out.size))).mono ?_; rintro e x1 ⟨rfl, hb1⟩; have HX1 := Lib.hid (HBD.out.trans (hb1.mono HBD.out.size)); clear hb1
   refine hK.out _ _ (SK.out _ HX1.out) (fun hHeld => ?_)
   clear hK K
   (try simp only [Act.put, List.setIfInBounds_toArray, List.set_cons_zero, List.set_cons_succ])
   refine held_call (i := 11) rfl (by kernel_rfl) (by rfl) (fun K hK => ?_)
   go_simp; refine (k2.out _ (HB.out.trans (HX1.out.mono HB.out.size))).mono ?_; rintro e x2 ⟨rfl, hb2⟩; have HX2 := Lib.hid (HX1.out.trans (hb2.mono HX1.out.size)); clear hb2
   refine hK.out _ _ (SK.out _ HX2.out) (fun hHeld => ?_)
   clear hK K
   (try simp only [Act.put, List.setIfInBounds_toArray, List.set_cons_zero, List.set_cons_succ])
   refine plIn [12, 13, 14, 15, 16, 17, 18, 19, 21, 22, 23, 24, 25, 26] ?_
   iterate 14
    refine hP (v := ?_) rfl rfl hHeld ?_ ?_
    rotate_left
    ·rintro wh ⟨z0, z1, z2⟩
     go_simp
     (try with_reducible rfl)
    simp only [Act.put, List.setIfInBounds_toArray, List.set_cons_zero, List.set_cons_succ]
   refine plOut ?_
   refine held_call (i := 20) rfl (by kernel_rfl) (by rfl) (fun K hK => ?_)
   go_simp; refine (k3.out _ (HB.out.trans (HX2.out.mono HB.out.size))).mono ?_; rintro e x3 ⟨rfl, hb3⟩; have HX3 := Lib.hid (HX2.out.trans (hb3.mono HX2.out.size)); clear hb3
   refine hK.out _ _ (SK.out _ HX3.out) (fun hHeld => ?_)
   clear hK K
   (try simp only [Act.put, List.setIfInBounds_toArray, List.set_cons_zero, List.set_cons_succ])
   refine held_call (i := 27) rfl (by kernel_rfl) (by rfl) (fun K hK => ?_)
   go_simp; refine (k4.out _ (HB.out.trans (HX3.out.mono HB.out.size))).mono ?_; rintro e x4 ⟨rfl, hb4⟩; have HX4 := Lib.hid (HX3.out.trans (hb4.mono HX3.out.size)); clear hb4
   refine hK.out _ _ (SK.out _ HX4.out) (fun hHeld => ?_)
   clear hK K
   (try simp only [Act.put, List.setIfInBounds_toArray, List.set_cons_zero, List.set_cons_succ])
   refine plIn [28, 29] ?_
   iterate 2
    refine hP (v := ?_) rfl rfl hHeld ?_ ?_
    rotate_left
    ·rintro wh ⟨z0, z1, z2⟩
     go_simp
     (try with_reducible rfl)
    simp only [Act.put, List.setIfInBounds_toArray, List.set_cons_zero, List.set_cons_succ]
   refine plOut ?_
   refine wpAnyH_done (by kernel_rfl) ?_ _
   have HE := Lib.hid (HB.out.trans (HX4.out.mono HB.out.size))
   go_wp2
   go_roundw
   case rel => exact ⟨k + 1, by go_num, by omega, HE⟩
   case measure => (simp [intOf]; try omega)
  ·have hkl' : ¬ (k : Int) < (A.length : Int) := by omega
   have k5 := K5.out wr HB.out
   have k6 := K6.out
   obtain ⟨FA, hFA⟩ : ∃ F, allM L A = F := ⟨_, rfl⟩
   rw [hFA] at k5
   simp only [hFA] at k6
   clear hFA K5 K6
   go_wp2_with fail
   refine k5.mono ?_
   rintro e w7 ⟨rfl, hb7⟩
   have HB7 := Lib.hid (HB.out.trans (hb7.mono HB.out.size))
   have k6 := k6 w7 HB7.out
   clear k5 hb7
   go_wp2_with fail
   refine k6.mono ?_
   rintro e w8 ⟨rfl, hb8⟩
   have HB8 := Lib.hid (HB3.out.trans ((HB7.out.trans (hb8.mono HB7.out.size)).mono HB3.out.size))
   clear k6 hb8
   go_wp2
   go_ret
   exact ⟨by simp, HB8.out⟩
end lawFits
end Go.Proofs.YtgbapkechngnmaaGreat
/- MatchFits: the card: whatever the arguments, the law returns true and its arguments read as they did. No condition. -/
namespace Go.Proofs.YtgbapkechngnmaaGreat.lawFits
open Go.ChangeShapes Go.WideShapes Go.ChangeAt Go.RowKit
open Go.ChangeMaps (open_string)

set_option maxRecDepth 100000 in
theorem contract (H : Type) (enc : TypeId × Value → H) (W : World) (base : Nat) (args : Array Value) (ds gs : List (DataW H)) (before : List MemPlace)
  (hval : ∀ (j : Nat) t v, Tryz.f3.params[j]? = some t → args[j]? = some v → Value.okWide Tryz.prog W .any base t v)
  (hW : DataW.Whole enc Tryz.prog Tryz.f3.params.toList Rows.matchFitsSpec.vars false W args.toList ds gs before) :
  Calls Tryz.prog 3 args W fun e W' => ∃ v, e = .returned v ∧ Rows.matchFitsSpec.post enc Tryz.prog Tryz.f3 false true false false W args v W' := by
 have hW' := hW
 obtain ⟨p, q, hA0, hV, rfl, hfz, hnd⟩ := hW
 have hA : DataW.TrodAll enc Tryz.prog W 0 (fun _ => true) true Tryz.f3.params.toList args.toList ds p := hA0
 rw [Tryz.params3] at hA hval
 obtain ⟨v0, vs0, d0, ds0, p0, q0, hargs, rfl, rfl, h0, r0⟩ := trodAll_cons hA
 obtain ⟨v1, vs1, d1, ds1, p1, q1, rfl, rfl, rfl, h1, r1⟩ := trodAll_cons r0
 obtain ⟨rfl, rfl, rfl⟩ := trodAll_nil r1
 obtain rfl : args = #[v0, v1] := by cases args; simp_all
 obtain ⟨rfl, rfl⟩ := trodVars_none hV
 obtain ⟨x0, hx0⟩ := flds_of_arg (hval 0 22 v0 rfl rfl) h0
 obtain ⟨x1, hx1⟩ := mts_of_arg (hval 1 23 v1 rfl rfl) h1
 clear hA0
 refine (walk v0 x0 v1 x1 W hx0 hx1).mono ?_
 rintro e W' ⟨rfl, hb⟩
 exact ⟨_, rfl, law_post laidOut Tryz.underlying4 rfl rfl (by kernel_rfl) hW' rfl rfl rfl hb⟩

theorem laid_met (os : Os) : laidMet Tryz.prog Rows.matchFitsRow.laid ((laidWorld os).forCall (fun _ _ => 0) ⟨#[], #[.slice none 0 0, .slice none 0 0], []⟩).memory :=
 ⟨[], rfl, List.nodup_nil, fun _ _ h => by cases h⟩
theorem reads (os : Os) {H : Type} (enc : TypeId × Value → H) : ∃ places, DataW.whole enc Tryz.prog ((laidWorld os).forCall (fun _ _ => 0) ⟨#[], #[.slice none 0 0, .slice none 0 0], []⟩).memory Tryz.f3.params.toList Rows.matchFitsSpec.vars false (#[.slice none 0 0, .slice none 0 0] : Array Value).toList 8 = some ([.nil, .nil], [], places) :=
 ⟨[], by kernel_rfl⟩

set_option maxRecDepth 100000 in
theorem lifted (os : Os) (started : os.Started) (H : Type) (enc : TypeId × Value → H) (F : Stop.Interp) :
  ReturnsInHanded {} Tryz.checked os 3 .any ((OpenSpec.ofChange Rows.matchFitsSpec).preRow enc Tryz.prog Tryz.f3 Rows.matchFitsRow.domain false Rows.matchFitsRow.laid) (((OpenSpec.ofChange Rows.matchFitsSpec).at F).post enc Tryz.prog Tryz.f3 false true false false) := by
 obtain ⟨places, hx⟩ := reads os enc
 refine returnsInHanded_of_row (C := Tryz.checked) (s := OpenSpec.ofChange Rows.matchFitsSpec) ownNone started (by kernel_rfl) Tryz.func3
  (witness_row_at (enc := enc) (C := Tryz.checked) false (laidWorld os) #[.slice none 0 0, .slice none 0 0] rfl (by kernel_rfl) (by kernel_rfl) (by kernel_rfl)
   (OpenSpec.preRow_of_cond 8 hx (by kernel_rfl) (fun k hk => by cases hk) (by kernel_rfl) (laid_met os))) ?_
 intro W base args ds gs before hval hW _ _ _ _ _ _
 exact contract H enc W base args ds gs before hval hW

theorem said : Rows.MatchFitsSaid :=
 OpenClaim.holds_of_cond 3 Tryz.f3 rfl rfl rfl rfl rfl rfl rfl ⟨rfl, rfl, rfl, rfl, rfl⟩ rfl rfl rfl rfl rfl (by kernel_rfl) Tryz.func3 (by kernel_rfl)
  (of_decide_eq_true (by kernel_rfl)) (by unfold Func.isWrapper; first | (rw [if_pos (by decide +kernel)]; kernel_rfl) | (rw [if_neg (by decide +kernel)]; exact ⟨rfl, rfl⟩))
  (fun os started H enc _ F => by rw [OpenClaim.pre_eq_preRow]; exact lifted os started H enc F)

end Go.Proofs.YtgbapkechngnmaaGreat.lawFits
